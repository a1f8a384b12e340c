/- Answers, worked out. Printed by a program of the prover's own. -/
import Derived.Test.YtdacifedlemlmaaRkCode
namespace Go.Proofs.Ytdacifedlemlmaa.Mach
open Go Ab
def a12 : List PV := [(.sl [(.int .u8 0), (.int .u8 0), (.int .u8 0), (.int .u8 0), (.int .u8 1), (.int .u8 0), (.int .u8 0), (.int .u8 0), (.int .u8 3), (.int .u8 3), (.int .u8 0), (.int .u8 1), (.int .u8 0), (.int .u8 0), (.int .u8 0), (.int .u8 2), (.int .u8 0), (.int .u8 0), (.int .u8 0), (.int .u8 3), (.int .u8 6), (.int .u8 0), (.int .u8 2), (.int .u8 2), (.int .u8 97), (.int .u8 2), (.int .u8 98), (.int .u8 191), (.int .u8 224), (.int .u8 0), (.int .u8 0)])]
def r12 : List PV := [(.agg [(.int .i64 0), (.int .i64 0), (.int .i64 0), (.sl []), (.int .i64 0), (.int .u8 0), (.sl []), (.flt .f64 0)]), (.int .i64 2)]
theorem run12 : (frun env 400).p 30 a12 = some r12 := by kernel_rfl
set_option maxRecDepth 100000 in
theorem k12 : AnsOk Try.prog 30 a12 r12 := known table (frun_p run12)
def a13 : List PV := [(.sl [(.int .u8 0), (.int .u8 0), (.int .u8 0), (.int .u8 0), (.int .u8 1), (.int .u8 0), (.int .u8 0), (.int .u8 0), (.int .u8 3), (.int .u8 3), (.int .u8 0), (.int .u8 1), (.int .u8 0), (.int .u8 0), (.int .u8 0), (.int .u8 2), (.int .u8 0), (.int .u8 0), (.int .u8 0), (.int .u8 3), (.int .u8 6), (.int .u8 0), (.int .u8 2), (.int .u8 2), (.int .u8 97), (.int .u8 2), (.int .u8 98), (.int .u8 191), (.int .u8 224), (.int .u8 0), (.int .u8 0), (.int .u8 0)])]
def r13 : List PV := [(.agg [(.int .i64 0), (.int .i64 0), (.int .i64 0), (.sl []), (.int .i64 0), (.int .u8 0), (.sl []), (.flt .f64 0)]), (.int .i64 2)]
theorem run13 : (frun env 400).p 30 a13 = some r13 := by kernel_rfl
set_option maxRecDepth 100000 in
theorem k13 : AnsOk Try.prog 30 a13 r13 := known table (frun_p run13)
def a14 : List PV := [(.sl [(.int .u8 0), (.int .u8 0), (.int .u8 0), (.int .u8 0), (.int .u8 1), (.int .u8 0), (.int .u8 0), (.int .u8 0), (.int .u8 3), (.int .u8 3), (.int .u8 0), (.int .u8 1), (.int .u8 0), (.int .u8 0), (.int .u8 0), (.int .u8 2), (.int .u8 0), (.int .u8 0), (.int .u8 0), (.int .u8 3), (.int .u8 6), (.int .u8 0), (.int .u8 2), (.int .u8 2), (.int .u8 97), (.int .u8 2), (.int .u8 98), (.int .u8 191), (.int .u8 224), (.int .u8 0)])]
def r14 : List PV := [(.agg [(.int .i64 0), (.int .i64 0), (.int .i64 0), (.sl []), (.int .i64 0), (.int .u8 0), (.sl []), (.flt .f64 0)]), (.int .i64 2)]
theorem run14 : (frun env 400).p 30 a14 = some r14 := by kernel_rfl
set_option maxRecDepth 100000 in
theorem k14 : AnsOk Try.prog 30 a14 r14 := known table (frun_p run14)
def a15 : List PV := [(.sl [(.int .u8 0), (.int .u8 0), (.int .u8 0), (.int .u8 0), (.int .u8 1), (.int .u8 0), (.int .u8 0), (.int .u8 0), (.int .u8 3), (.int .u8 3), (.int .u8 0), (.int .u8 1), (.int .u8 0), (.int .u8 0), (.int .u8 0), (.int .u8 2), (.int .u8 0), (.int .u8 0), (.int .u8 0), (.int .u8 3), (.int .u8 6), (.int .u8 0), (.int .u8 2), (.int .u8 2)])]
def r15 : List PV := [(.agg [(.int .i64 0), (.int .i64 0), (.int .i64 0), (.sl []), (.int .i64 0), (.int .u8 0), (.sl []), (.flt .f64 0)]), (.int .i64 2)]
theorem run15 : (frun env 400).p 30 a15 = some r15 := by kernel_rfl
set_option maxRecDepth 100000 in
theorem k15 : AnsOk Try.prog 30 a15 r15 := known table (frun_p run15)
def a16 : List PV := [(.sl [(.int .u8 0), (.int .u8 0), (.int .u8 0), (.int .u8 0), (.int .u8 1), (.int .u8 0), (.int .u8 0), (.int .u8 0), (.int .u8 3), (.int .u8 3), (.int .u8 0), (.int .u8 1), (.int .u8 0), (.int .u8 0), (.int .u8 0), (.int .u8 2), (.int .u8 0), (.int .u8 0), (.int .u8 0), (.int .u8 3), (.int .u8 6)])]
def r16 : List PV := [(.agg [(.int .i64 0), (.int .i64 0), (.int .i64 0), (.sl []), (.int .i64 0), (.int .u8 0), (.sl []), (.flt .f64 0)]), (.int .i64 2)]
theorem run16 : (frun env 400).p 30 a16 = some r16 := by kernel_rfl
set_option maxRecDepth 100000 in
theorem k16 : AnsOk Try.prog 30 a16 r16 := known table (frun_p run16)
def a17 : List PV := [(.sl [(.int .u8 0), (.int .u8 0), (.int .u8 0), (.int .u8 0), (.int .u8 1), (.int .u8 0), (.int .u8 0), (.int .u8 0), (.int .u8 3), (.int .u8 3), (.int .u8 0), (.int .u8 1), (.int .u8 0), (.int .u8 0), (.int .u8 0), (.int .u8 2), (.int .u8 0), (.int .u8 0), (.int .u8 0)])]
def r17 : List PV := [(.agg [(.int .i64 0), (.int .i64 0), (.int .i64 0), (.sl []), (.int .i64 0), (.int .u8 0), (.sl []), (.flt .f64 0)]), (.int .i64 2)]
theorem run17 : (frun env 400).p 30 a17 = some r17 := by kernel_rfl
set_option maxRecDepth 100000 in
theorem k17 : AnsOk Try.prog 30 a17 r17 := known table (frun_p run17)
def a18 : List PV := [(.sl [(.int .u8 0), (.int .u8 0), (.int .u8 0), (.int .u8 0), (.int .u8 1), (.int .u8 0), (.int .u8 0), (.int .u8 0), (.int .u8 3), (.int .u8 3), (.int .u8 0), (.int .u8 1), (.int .u8 0), (.int .u8 0)])]
def r18 : List PV := [(.agg [(.int .i64 0), (.int .i64 0), (.int .i64 0), (.sl []), (.int .i64 0), (.int .u8 0), (.sl []), (.flt .f64 0)]), (.int .i64 2)]
theorem run18 : (frun env 400).p 30 a18 = some r18 := by kernel_rfl
set_option maxRecDepth 100000 in
theorem k18 : AnsOk Try.prog 30 a18 r18 := known table (frun_p run18)
def a19 : List PV := [(.sl [(.int .u8 0), (.int .u8 0), (.int .u8 0), (.int .u8 0), (.int .u8 1), (.int .u8 0), (.int .u8 0), (.int .u8 0), (.int .u8 3)])]
def r19 : List PV := [(.agg [(.int .i64 0), (.int .i64 0), (.int .i64 0), (.sl []), (.int .i64 0), (.int .u8 0), (.sl []), (.flt .f64 0)]), (.int .i64 2)]
theorem run19 : (frun env 400).p 30 a19 = some r19 := by kernel_rfl
set_option maxRecDepth 100000 in
theorem k19 : AnsOk Try.prog 30 a19 r19 := known table (frun_p run19)
def a20 : List PV := [(.sl [(.int .u8 0), (.int .u8 0), (.int .u8 0), (.int .u8 0), (.int .u8 1)])]
def r20 : List PV := [(.agg [(.int .i64 0), (.int .i64 0), (.int .i64 0), (.sl []), (.int .i64 0), (.int .u8 0), (.sl []), (.flt .f64 0)]), (.int .i64 2)]
theorem run20 : (frun env 400).p 30 a20 = some r20 := by kernel_rfl
set_option maxRecDepth 100000 in
theorem k20 : AnsOk Try.prog 30 a20 r20 := known table (frun_p run20)
def a21 : List PV := [(.sl [(.int .u8 0), (.int .u8 0), (.int .u8 0), (.int .u8 0)])]
def r21 : List PV := [(.agg [(.int .i64 0), (.int .i64 0), (.int .i64 0), (.sl []), (.int .i64 0), (.int .u8 0), (.sl []), (.flt .f64 0)]), (.int .i64 2)]
theorem run21 : (frun env 400).p 30 a21 = some r21 := by kernel_rfl
set_option maxRecDepth 100000 in
theorem k21 : AnsOk Try.prog 30 a21 r21 := known table (frun_p run21)
def a22 : List PV := [(.agg [(.int .i64 0), (.int .i64 1), (.int .i64 3), (.sl [(.agg [(.int .i64 1), (.int .i64 3)]), (.agg [(.int .i64 (-1)), (.int .i64 (-1))]), (.agg [(.int .i64 2), (.int .i64 3)])]), (.int .i64 3), (.int .u8 0), (.sl []), (.flt .f64 4602678819172646912)])]
def r22 : List PV := [(.bool false)]
theorem run22 : (frun env 400).p 16 a22 = some r22 := by kernel_rfl
set_option maxRecDepth 100000 in
theorem k22 : AnsOk Try.prog 16 a22 r22 := known table (frun_p run22)
def a23 : List PV := [(.agg [(.int .i64 0), (.int .i64 1), (.int .i64 3), (.sl [(.agg [(.int .i64 1), (.int .i64 3)]), (.agg [(.int .i64 3), (.int .i64 2)])]), (.int .i64 6), (.int .u8 0), (.sl [(.agg [(.int .i64 2), (.int .u8 97), (.sl [])]), (.agg [(.int .i64 2), (.int .u8 98), (.sl [])])]), (.flt .f64 4602678819172646912)])]
def r23 : List PV := [(.bool false)]
theorem run23 : (frun env 400).p 16 a23 = some r23 := by kernel_rfl
set_option maxRecDepth 100000 in
theorem k23 : AnsOk Try.prog 16 a23 r23 := known table (frun_p run23)
end Go.Proofs.Ytdacifedlemlmaa.Mach
