/- Answers, worked out. Printed by a program of the prover's own. -/
import Derived.Test.YtdacifedlemlmaaRkCode
namespace Go.Proofs.Ytdacifedlemlmaa.Mach
open Go Ab
def a35 : List PV := [(.sl [(.int .u8 0), (.int .u8 0), (.int .u8 0), (.int .u8 0), (.int .u8 1), (.int .u8 0), (.int .u8 0), (.int .u8 0), (.int .u8 3), (.int .u8 3), (.int .u8 0), (.int .u8 1), (.int .u8 0), (.int .u8 0), (.int .u8 0), (.int .u8 2), (.int .u8 0), (.int .u8 0), (.int .u8 0), (.int .u8 3), (.int .u8 6), (.int .u8 0), (.int .u8 2), (.int .u8 2), (.int .u8 97), (.int .u8 2), (.int .u8 98), (.int .u8 191), (.int .u8 224), (.int .u8 0), (.int .u8 0), (.int .u8 0), (.int .u8 0), (.int .u8 0), (.int .u8 0), (.int .u8 0)])]
def r35 : List PV := [(.agg [(.int .i64 0), (.int .i64 0), (.int .i64 0), (.sl []), (.int .i64 0), (.int .u8 0), (.sl []), (.flt .f64 0)]), (.int .i64 2)]
theorem run35 : (frun env 400).p 30 a35 = some r35 := by kernel_rfl
set_option maxRecDepth 100000 in
theorem k35 : AnsOk Try.prog 30 a35 r35 := known table (frun_p run35)
def a36 : List PV := [(.sl [(.int .u8 0), (.int .u8 0), (.int .u8 0), (.int .u8 0), (.int .u8 1), (.int .u8 0), (.int .u8 0), (.int .u8 0), (.int .u8 3), (.int .u8 3), (.int .u8 0), (.int .u8 1), (.int .u8 0), (.int .u8 0), (.int .u8 0), (.int .u8 2), (.int .u8 0), (.int .u8 0), (.int .u8 0), (.int .u8 3), (.int .u8 6), (.int .u8 0), (.int .u8 2), (.int .u8 2), (.int .u8 97), (.int .u8 2), (.int .u8 98), (.int .u8 191)])]
def r36 : List PV := [(.agg [(.int .i64 0), (.int .i64 0), (.int .i64 0), (.sl []), (.int .i64 0), (.int .u8 0), (.sl []), (.flt .f64 0)]), (.int .i64 2)]
theorem run36 : (frun env 400).p 30 a36 = some r36 := by kernel_rfl
set_option maxRecDepth 100000 in
theorem k36 : AnsOk Try.prog 30 a36 r36 := known table (frun_p run36)
def a37 : List PV := [(.sl [(.int .u8 0), (.int .u8 0), (.int .u8 0), (.int .u8 0), (.int .u8 1), (.int .u8 0), (.int .u8 0), (.int .u8 0), (.int .u8 3), (.int .u8 3), (.int .u8 0), (.int .u8 1), (.int .u8 0), (.int .u8 0), (.int .u8 0), (.int .u8 2), (.int .u8 0), (.int .u8 0), (.int .u8 0), (.int .u8 3), (.int .u8 6), (.int .u8 0), (.int .u8 2), (.int .u8 2), (.int .u8 97), (.int .u8 2), (.int .u8 98), (.int .u8 191), (.int .u8 224), (.int .u8 0), (.int .u8 0), (.int .u8 0), (.int .u8 0), (.int .u8 0)])]
def r37 : List PV := [(.agg [(.int .i64 0), (.int .i64 0), (.int .i64 0), (.sl []), (.int .i64 0), (.int .u8 0), (.sl []), (.flt .f64 0)]), (.int .i64 2)]
theorem run37 : (frun env 400).p 30 a37 = some r37 := by kernel_rfl
set_option maxRecDepth 100000 in
theorem k37 : AnsOk Try.prog 30 a37 r37 := known table (frun_p run37)
def a38 : List PV := [(.agg [(.int .i64 0), (.int .i64 1), (.int .i64 3), (.sl [(.agg [(.int .i64 1), (.int .i64 3)]), (.agg [(.int .i64 (-1)), (.int .i64 (-1))]), (.agg [(.int .i64 2), (.int .i64 3)])]), (.int .i64 6), (.int .u8 0), (.sl [(.agg [(.int .i64 2), (.int .u8 97), (.sl [])]), (.agg [(.int .i64 2), (.int .u8 98), (.sl [])])]), (.flt .f64 4602678819172646912)])]
def r38 : List PV := [(.sl [(.int .u8 0), (.int .u8 0), (.int .u8 0), (.int .u8 0), (.int .u8 1), (.int .u8 0), (.int .u8 0), (.int .u8 0), (.int .u8 3), (.int .u8 3), (.int .u8 0), (.int .u8 1), (.int .u8 0), (.int .u8 0), (.int .u8 0), (.int .u8 2), (.int .u8 0), (.int .u8 0), (.int .u8 0), (.int .u8 3), (.int .u8 6), (.int .u8 0), (.int .u8 2), (.int .u8 2), (.int .u8 97), (.int .u8 2), (.int .u8 98), (.int .u8 191), (.int .u8 224), (.int .u8 0), (.int .u8 0), (.int .u8 0), (.int .u8 0), (.int .u8 0), (.int .u8 0)])]
theorem run38 : (frun env 400).p 28 a38 = some r38 := by kernel_rfl
set_option maxRecDepth 100000 in
theorem k38 : AnsOk Try.prog 28 a38 r38 := known table (frun_p run38)
def a39 : List PV := [(.agg [(.int .i64 0), (.int .i64 1), (.int .i64 3), (.sl [(.agg [(.int .i64 1), (.int .i64 3)]), (.agg [(.int .i64 (-1)), (.int .i64 (-1))]), (.agg [(.int .i64 2), (.int .i64 3)])]), (.int .i64 6), (.int .u8 0), (.sl [(.agg [(.int .i64 2), (.int .u8 97), (.sl [])]), (.agg [(.int .i64 2), (.int .u8 98), (.sl [])])]), (.flt .f64 9221120237041090561)])]
def r39 : List PV := [(.sl [(.int .u8 0), (.int .u8 0), (.int .u8 0), (.int .u8 0), (.int .u8 1), (.int .u8 0), (.int .u8 0), (.int .u8 0), (.int .u8 3), (.int .u8 3), (.int .u8 0), (.int .u8 1), (.int .u8 0), (.int .u8 0), (.int .u8 0), (.int .u8 2), (.int .u8 0), (.int .u8 0), (.int .u8 0), (.int .u8 3), (.int .u8 6), (.int .u8 0), (.int .u8 2), (.int .u8 2), (.int .u8 97), (.int .u8 2), (.int .u8 98), (.int .u8 255), (.int .u8 255), (.int .u8 255), (.int .u8 255), (.int .u8 255), (.int .u8 255), (.int .u8 255), (.int .u8 255)])]
theorem run39 : (frun env 400).p 28 a39 = some r39 := by kernel_rfl
set_option maxRecDepth 100000 in
theorem k39 : AnsOk Try.prog 28 a39 r39 := known table (frun_p run39)
def a40 : List PV := [(.sl [(.int .u8 0), (.int .u8 0), (.int .u8 0), (.int .u8 0), (.int .u8 1), (.int .u8 0), (.int .u8 0), (.int .u8 0), (.int .u8 3), (.int .u8 3), (.int .u8 0), (.int .u8 1), (.int .u8 0), (.int .u8 0), (.int .u8 0), (.int .u8 2), (.int .u8 0)])]
def r40 : List PV := [(.agg [(.int .i64 0), (.int .i64 0), (.int .i64 0), (.sl []), (.int .i64 0), (.int .u8 0), (.sl []), (.flt .f64 0)]), (.int .i64 2)]
theorem run40 : (frun env 400).p 30 a40 = some r40 := by kernel_rfl
set_option maxRecDepth 100000 in
theorem k40 : AnsOk Try.prog 30 a40 r40 := known table (frun_p run40)
def a41 : List PV := [(.sl [(.int .u8 0), (.int .u8 0), (.int .u8 0), (.int .u8 0), (.int .u8 1), (.int .u8 0), (.int .u8 0), (.int .u8 0), (.int .u8 3), (.int .u8 3), (.int .u8 0), (.int .u8 1), (.int .u8 0), (.int .u8 0), (.int .u8 0)])]
def r41 : List PV := [(.agg [(.int .i64 0), (.int .i64 0), (.int .i64 0), (.sl []), (.int .i64 0), (.int .u8 0), (.sl []), (.flt .f64 0)]), (.int .i64 2)]
theorem run41 : (frun env 400).p 30 a41 = some r41 := by kernel_rfl
set_option maxRecDepth 100000 in
theorem k41 : AnsOk Try.prog 30 a41 r41 := known table (frun_p run41)
def a42 : List PV := [(.sl [(.int .u8 0), (.int .u8 0), (.int .u8 0), (.int .u8 0), (.int .u8 1), (.int .u8 0), (.int .u8 0), (.int .u8 0), (.int .u8 3), (.int .u8 3), (.int .u8 0)])]
def r42 : List PV := [(.agg [(.int .i64 0), (.int .i64 0), (.int .i64 0), (.sl []), (.int .i64 0), (.int .u8 0), (.sl []), (.flt .f64 0)]), (.int .i64 2)]
theorem run42 : (frun env 400).p 30 a42 = some r42 := by kernel_rfl
set_option maxRecDepth 100000 in
theorem k42 : AnsOk Try.prog 30 a42 r42 := known table (frun_p run42)
def a43 : List PV := [(.sl [(.int .u8 0), (.int .u8 0), (.int .u8 0), (.int .u8 0), (.int .u8 1), (.int .u8 0), (.int .u8 0), (.int .u8 0)])]
def r43 : List PV := [(.agg [(.int .i64 0), (.int .i64 0), (.int .i64 0), (.sl []), (.int .i64 0), (.int .u8 0), (.sl []), (.flt .f64 0)]), (.int .i64 2)]
theorem run43 : (frun env 400).p 30 a43 = some r43 := by kernel_rfl
set_option maxRecDepth 100000 in
theorem k43 : AnsOk Try.prog 30 a43 r43 := known table (frun_p run43)
def a44 : List PV := [(.agg [(.int .i64 0), (.int .i64 1), (.int .i64 3), (.sl [(.agg [(.int .i64 1), (.int .i64 3)]), (.agg [(.int .i64 (-1)), (.int .i64 (-1))]), (.agg [(.int .i64 2), (.int .i64 3)])]), (.int .i64 6), (.int .u8 0), (.sl [(.agg [(.int .i64 2), (.int .u8 97), (.sl [])]), (.agg [(.int .i64 2), (.int .u8 98), (.sl [])])]), (.flt .f64 4602678819172646912)]), (.agg [(.int .i64 0), (.int .i64 1), (.int .i64 3), (.sl [(.agg [(.int .i64 1), (.int .i64 3)]), (.agg [(.int .i64 (-1)), (.int .i64 (-1))]), (.agg [(.int .i64 2), (.int .i64 3)])]), (.int .i64 6), (.int .u8 0), (.sl [(.agg [(.int .i64 2), (.int .u8 97), (.sl [])]), (.agg [(.int .i64 2), (.int .u8 98), (.sl [])])]), (.flt .f64 4602678819172646912)])]
def r44 : List PV := [(.bool true)]
theorem run44 : (frun env 400).p 33 a44 = some r44 := by kernel_rfl
set_option maxRecDepth 100000 in
theorem k44 : AnsOk Try.prog 33 a44 r44 := known table (frun_p run44)
def a45 : List PV := [(.agg [(.int .i64 0), (.int .i64 1), (.int .i64 3), (.sl [(.agg [(.int .i64 1), (.int .i64 3)]), (.agg [(.int .i64 (-1)), (.int .i64 (-1))]), (.agg [(.int .i64 2), (.int .i64 3)])]), (.int .i64 1), (.int .u8 1), (.sl []), (.flt .f64 4602678819172646912)])]
def r45 : List PV := [(.bool false)]
theorem run45 : (frun env 400).p 16 a45 = some r45 := by kernel_rfl
set_option maxRecDepth 100000 in
theorem k45 : AnsOk Try.prog 16 a45 r45 := known table (frun_p run45)
def a46 : List PV := [(.agg [(.int .i64 0), (.int .i64 1), (.int .i64 3), (.sl [(.agg [(.int .i64 1), (.int .i64 3)]), (.agg [(.int .i64 (-1)), (.int .i64 0)])]), (.int .i64 6), (.int .u8 0), (.sl [(.agg [(.int .i64 2), (.int .u8 97), (.sl [])]), (.agg [(.int .i64 2), (.int .u8 98), (.sl [])])]), (.flt .f64 4602678819172646912)])]
def r46 : List PV := [(.bool false)]
theorem run46 : (frun env 400).p 16 a46 = some r46 := by kernel_rfl
set_option maxRecDepth 100000 in
theorem k46 : AnsOk Try.prog 16 a46 r46 := known table (frun_p run46)
end Go.Proofs.Ytdacifedlemlmaa.Mach
