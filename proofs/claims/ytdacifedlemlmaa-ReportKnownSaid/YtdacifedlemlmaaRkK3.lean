/- Answers, worked out. Printed by a program of the prover's own. -/
import Derived.Test.YtdacifedlemlmaaRkCode
namespace Go.Proofs.Ytdacifedlemlmaa.Mach
open Go Ab
def a24 : List PV := [(.sl [(.int .u8 0), (.int .u8 0), (.int .u8 0), (.int .u8 0), (.int .u8 1), (.int .u8 0), (.int .u8 0), (.int .u8 0), (.int .u8 3), (.int .u8 3), (.int .u8 0), (.int .u8 1), (.int .u8 0), (.int .u8 0), (.int .u8 0), (.int .u8 2), (.int .u8 0), (.int .u8 0), (.int .u8 0), (.int .u8 3), (.int .u8 6), (.int .u8 0), (.int .u8 2), (.int .u8 2), (.int .u8 97), (.int .u8 2), (.int .u8 98), (.int .u8 191), (.int .u8 224)])]
def r24 : List PV := [(.agg [(.int .i64 0), (.int .i64 0), (.int .i64 0), (.sl []), (.int .i64 0), (.int .u8 0), (.sl []), (.flt .f64 0)]), (.int .i64 2)]
theorem run24 : (frun env 400).p 30 a24 = some r24 := by kernel_rfl
set_option maxRecDepth 100000 in
theorem k24 : AnsOk Try.prog 30 a24 r24 := known table (frun_p run24)
def a25 : List PV := [(.sl [(.int .u8 0), (.int .u8 0), (.int .u8 0), (.int .u8 0), (.int .u8 1), (.int .u8 0), (.int .u8 0), (.int .u8 0), (.int .u8 3), (.int .u8 3), (.int .u8 0), (.int .u8 1), (.int .u8 0), (.int .u8 0), (.int .u8 0), (.int .u8 2), (.int .u8 0), (.int .u8 0), (.int .u8 0), (.int .u8 3), (.int .u8 6), (.int .u8 0), (.int .u8 2), (.int .u8 2), (.int .u8 97), (.int .u8 2), (.int .u8 98), (.int .u8 191), (.int .u8 224), (.int .u8 0), (.int .u8 0), (.int .u8 0), (.int .u8 0)])]
def r25 : List PV := [(.agg [(.int .i64 0), (.int .i64 0), (.int .i64 0), (.sl []), (.int .i64 0), (.int .u8 0), (.sl []), (.flt .f64 0)]), (.int .i64 2)]
theorem run25 : (frun env 400).p 30 a25 = some r25 := by kernel_rfl
set_option maxRecDepth 100000 in
theorem k25 : AnsOk Try.prog 30 a25 r25 := known table (frun_p run25)
def a26 : List PV := [(.sl [(.int .u8 0), (.int .u8 0), (.int .u8 0), (.int .u8 0), (.int .u8 1), (.int .u8 0), (.int .u8 0), (.int .u8 0), (.int .u8 3), (.int .u8 3), (.int .u8 0), (.int .u8 1), (.int .u8 0), (.int .u8 0), (.int .u8 0), (.int .u8 2), (.int .u8 0), (.int .u8 0), (.int .u8 0), (.int .u8 3), (.int .u8 6), (.int .u8 0), (.int .u8 2), (.int .u8 2), (.int .u8 97), (.int .u8 2), (.int .u8 98)])]
def r26 : List PV := [(.agg [(.int .i64 0), (.int .i64 0), (.int .i64 0), (.sl []), (.int .i64 0), (.int .u8 0), (.sl []), (.flt .f64 0)]), (.int .i64 2)]
theorem run26 : (frun env 400).p 30 a26 = some r26 := by kernel_rfl
set_option maxRecDepth 100000 in
theorem k26 : AnsOk Try.prog 30 a26 r26 := known table (frun_p run26)
def a27 : List PV := [(.sl [(.int .u8 0), (.int .u8 0), (.int .u8 0), (.int .u8 0), (.int .u8 1), (.int .u8 0), (.int .u8 0), (.int .u8 0), (.int .u8 3), (.int .u8 3), (.int .u8 0), (.int .u8 1), (.int .u8 0), (.int .u8 0), (.int .u8 0), (.int .u8 2), (.int .u8 0), (.int .u8 0), (.int .u8 0), (.int .u8 3), (.int .u8 6), (.int .u8 0), (.int .u8 2)])]
def r27 : List PV := [(.agg [(.int .i64 0), (.int .i64 0), (.int .i64 0), (.sl []), (.int .i64 0), (.int .u8 0), (.sl []), (.flt .f64 0)]), (.int .i64 2)]
theorem run27 : (frun env 400).p 30 a27 = some r27 := by kernel_rfl
set_option maxRecDepth 100000 in
theorem k27 : AnsOk Try.prog 30 a27 r27 := known table (frun_p run27)
def a28 : List PV := [(.sl [(.int .u8 0), (.int .u8 0), (.int .u8 0), (.int .u8 0), (.int .u8 1), (.int .u8 0), (.int .u8 0), (.int .u8 0), (.int .u8 3), (.int .u8 3), (.int .u8 0), (.int .u8 1), (.int .u8 0), (.int .u8 0), (.int .u8 0), (.int .u8 2), (.int .u8 0), (.int .u8 0), (.int .u8 0), (.int .u8 3), (.int .u8 6), (.int .u8 0)])]
def r28 : List PV := [(.agg [(.int .i64 0), (.int .i64 0), (.int .i64 0), (.sl []), (.int .i64 0), (.int .u8 0), (.sl []), (.flt .f64 0)]), (.int .i64 2)]
theorem run28 : (frun env 400).p 30 a28 = some r28 := by kernel_rfl
set_option maxRecDepth 100000 in
theorem k28 : AnsOk Try.prog 30 a28 r28 := known table (frun_p run28)
def a29 : List PV := [(.sl [(.int .u8 0), (.int .u8 0), (.int .u8 0), (.int .u8 0), (.int .u8 1), (.int .u8 0), (.int .u8 0), (.int .u8 0), (.int .u8 3), (.int .u8 3), (.int .u8 0), (.int .u8 1), (.int .u8 0), (.int .u8 0), (.int .u8 0), (.int .u8 2)])]
def r29 : List PV := [(.agg [(.int .i64 0), (.int .i64 0), (.int .i64 0), (.sl []), (.int .i64 0), (.int .u8 0), (.sl []), (.flt .f64 0)]), (.int .i64 2)]
theorem run29 : (frun env 400).p 30 a29 = some r29 := by kernel_rfl
set_option maxRecDepth 100000 in
theorem k29 : AnsOk Try.prog 30 a29 r29 := known table (frun_p run29)
def a30 : List PV := [(.sl [(.int .u8 0), (.int .u8 0), (.int .u8 0), (.int .u8 0), (.int .u8 1), (.int .u8 0), (.int .u8 0), (.int .u8 0), (.int .u8 3), (.int .u8 3), (.int .u8 0), (.int .u8 1), (.int .u8 0)])]
def r30 : List PV := [(.agg [(.int .i64 0), (.int .i64 0), (.int .i64 0), (.sl []), (.int .i64 0), (.int .u8 0), (.sl []), (.flt .f64 0)]), (.int .i64 2)]
theorem run30 : (frun env 400).p 30 a30 = some r30 := by kernel_rfl
set_option maxRecDepth 100000 in
theorem k30 : AnsOk Try.prog 30 a30 r30 := known table (frun_p run30)
def a31 : List PV := [(.sl [(.int .u8 0), (.int .u8 0), (.int .u8 0), (.int .u8 0), (.int .u8 1), (.int .u8 0), (.int .u8 0), (.int .u8 0), (.int .u8 3), (.int .u8 3)])]
def r31 : List PV := [(.agg [(.int .i64 0), (.int .i64 0), (.int .i64 0), (.sl []), (.int .i64 0), (.int .u8 0), (.sl []), (.flt .f64 0)]), (.int .i64 2)]
theorem run31 : (frun env 400).p 30 a31 = some r31 := by kernel_rfl
set_option maxRecDepth 100000 in
theorem k31 : AnsOk Try.prog 30 a31 r31 := known table (frun_p run31)
def a32 : List PV := [(.sl [(.int .u8 0), (.int .u8 0), (.int .u8 0)])]
def r32 : List PV := [(.agg [(.int .i64 0), (.int .i64 0), (.int .i64 0), (.sl []), (.int .i64 0), (.int .u8 0), (.sl []), (.flt .f64 0)]), (.int .i64 2)]
theorem run32 : (frun env 400).p 30 a32 = some r32 := by kernel_rfl
set_option maxRecDepth 100000 in
theorem k32 : AnsOk Try.prog 30 a32 r32 := known table (frun_p run32)
def a33 : List PV := [(.sl [(.int .u8 0), (.int .u8 0)])]
def r33 : List PV := [(.agg [(.int .i64 0), (.int .i64 0), (.int .i64 0), (.sl []), (.int .i64 0), (.int .u8 0), (.sl []), (.flt .f64 0)]), (.int .i64 2)]
theorem run33 : (frun env 400).p 30 a33 = some r33 := by kernel_rfl
set_option maxRecDepth 100000 in
theorem k33 : AnsOk Try.prog 30 a33 r33 := known table (frun_p run33)
def a34 : List PV := [(.sl [])]
def r34 : List PV := [(.agg [(.int .i64 0), (.int .i64 0), (.int .i64 0), (.sl []), (.int .i64 0), (.int .u8 0), (.sl []), (.flt .f64 0)]), (.int .i64 2)]
theorem run34 : (frun env 400).p 30 a34 = some r34 := by kernel_rfl
set_option maxRecDepth 100000 in
theorem k34 : AnsOk Try.prog 30 a34 r34 := known table (frun_p run34)
end Go.Proofs.Ytdacifedlemlmaa.Mach
