/- Answers, worked out. Printed by a program of the prover's own. -/
import Derived.Test.YtdacifedlemlmaaRkCode
namespace Go.Proofs.Ytdacifedlemlmaa.Mach
open Go Ab
def a1 : List PV := [(.sl [(.int .u8 0), (.int .u8 0), (.int .u8 0), (.int .u8 0), (.int .u8 1), (.int .u8 0), (.int .u8 0), (.int .u8 0), (.int .u8 3), (.int .u8 3), (.int .u8 0), (.int .u8 1), (.int .u8 0), (.int .u8 0), (.int .u8 0), (.int .u8 2), (.int .u8 0), (.int .u8 0), (.int .u8 0), (.int .u8 3), (.int .u8 6), (.int .u8 0), (.int .u8 2), (.int .u8 2), (.int .u8 97), (.int .u8 2), (.int .u8 98), (.int .u8 255), (.int .u8 255), (.int .u8 255), (.int .u8 255), (.int .u8 255), (.int .u8 255), (.int .u8 255), (.int .u8 255)])]
def r1 : List PV := [(.agg [(.int .i64 0), (.int .i64 1), (.int .i64 3), (.sl [(.agg [(.int .i64 1), (.int .i64 3)]), (.agg [(.int .i64 (-1)), (.int .i64 (-1))]), (.agg [(.int .i64 2), (.int .i64 3)])]), (.int .i64 6), (.int .u8 0), (.sl [(.agg [(.int .i64 2), (.int .u8 97), (.sl [])]), (.agg [(.int .i64 2), (.int .u8 98), (.sl [])])]), (.flt .f64 9223372036854775807)]), (.int .i64 0)]
theorem run1 : (frun env 400).p 30 a1 = some r1 := by kernel_rfl
set_option maxRecDepth 100000 in
theorem k1 : AnsOk Try.prog 30 a1 r1 := known table (frun_p run1)
def a2 : List PV := [(.sl [(.int .u8 0), (.int .u8 0), (.int .u8 0), (.int .u8 0), (.int .u8 1), (.int .u8 0), (.int .u8 0), (.int .u8 0), (.int .u8 3), (.int .u8 3), (.int .u8 0), (.int .u8 1), (.int .u8 0), (.int .u8 0), (.int .u8 0), (.int .u8 2), (.int .u8 0), (.int .u8 0), (.int .u8 0), (.int .u8 3), (.int .u8 6), (.int .u8 0), (.int .u8 2), (.int .u8 2), (.int .u8 97), (.int .u8 2)])]
def r2 : List PV := [(.agg [(.int .i64 0), (.int .i64 0), (.int .i64 0), (.sl []), (.int .i64 0), (.int .u8 0), (.sl []), (.flt .f64 0)]), (.int .i64 2)]
theorem run2 : (frun env 400).p 30 a2 = some r2 := by kernel_rfl
set_option maxRecDepth 100000 in
theorem k2 : AnsOk Try.prog 30 a2 r2 := known table (frun_p run2)
def a3 : List PV := [(.sl [(.int .u8 0), (.int .u8 0), (.int .u8 0), (.int .u8 0), (.int .u8 1), (.int .u8 0), (.int .u8 0), (.int .u8 0), (.int .u8 3), (.int .u8 3), (.int .u8 0), (.int .u8 1), (.int .u8 0), (.int .u8 0), (.int .u8 0), (.int .u8 2), (.int .u8 0), (.int .u8 0), (.int .u8 0), (.int .u8 3), (.int .u8 6), (.int .u8 0), (.int .u8 2), (.int .u8 2), (.int .u8 97)])]
def r3 : List PV := [(.agg [(.int .i64 0), (.int .i64 0), (.int .i64 0), (.sl []), (.int .i64 0), (.int .u8 0), (.sl []), (.flt .f64 0)]), (.int .i64 2)]
theorem run3 : (frun env 400).p 30 a3 = some r3 := by kernel_rfl
set_option maxRecDepth 100000 in
theorem k3 : AnsOk Try.prog 30 a3 r3 := known table (frun_p run3)
def a4 : List PV := [(.sl [(.int .u8 0), (.int .u8 0), (.int .u8 0), (.int .u8 0), (.int .u8 1), (.int .u8 0), (.int .u8 0), (.int .u8 0), (.int .u8 3), (.int .u8 3), (.int .u8 0), (.int .u8 1), (.int .u8 0), (.int .u8 0), (.int .u8 0), (.int .u8 2), (.int .u8 0), (.int .u8 0), (.int .u8 0), (.int .u8 3)])]
def r4 : List PV := [(.agg [(.int .i64 0), (.int .i64 0), (.int .i64 0), (.sl []), (.int .i64 0), (.int .u8 0), (.sl []), (.flt .f64 0)]), (.int .i64 2)]
theorem run4 : (frun env 400).p 30 a4 = some r4 := by kernel_rfl
set_option maxRecDepth 100000 in
theorem k4 : AnsOk Try.prog 30 a4 r4 := known table (frun_p run4)
def a5 : List PV := [(.sl [(.int .u8 0), (.int .u8 0), (.int .u8 0), (.int .u8 0), (.int .u8 1), (.int .u8 0), (.int .u8 0), (.int .u8 0), (.int .u8 3), (.int .u8 3), (.int .u8 0), (.int .u8 1), (.int .u8 0), (.int .u8 0), (.int .u8 0), (.int .u8 2), (.int .u8 0), (.int .u8 0)])]
def r5 : List PV := [(.agg [(.int .i64 0), (.int .i64 0), (.int .i64 0), (.sl []), (.int .i64 0), (.int .u8 0), (.sl []), (.flt .f64 0)]), (.int .i64 2)]
theorem run5 : (frun env 400).p 30 a5 = some r5 := by kernel_rfl
set_option maxRecDepth 100000 in
theorem k5 : AnsOk Try.prog 30 a5 r5 := known table (frun_p run5)
def a6 : List PV := [(.sl [(.int .u8 0), (.int .u8 0), (.int .u8 0), (.int .u8 0), (.int .u8 1), (.int .u8 0), (.int .u8 0), (.int .u8 0), (.int .u8 3), (.int .u8 3), (.int .u8 0), (.int .u8 1)])]
def r6 : List PV := [(.agg [(.int .i64 0), (.int .i64 0), (.int .i64 0), (.sl []), (.int .i64 0), (.int .u8 0), (.sl []), (.flt .f64 0)]), (.int .i64 2)]
theorem run6 : (frun env 400).p 30 a6 = some r6 := by kernel_rfl
set_option maxRecDepth 100000 in
theorem k6 : AnsOk Try.prog 30 a6 r6 := known table (frun_p run6)
def a7 : List PV := [(.sl [(.int .u8 0), (.int .u8 0), (.int .u8 0), (.int .u8 0), (.int .u8 1), (.int .u8 0)])]
def r7 : List PV := [(.agg [(.int .i64 0), (.int .i64 0), (.int .i64 0), (.sl []), (.int .i64 0), (.int .u8 0), (.sl []), (.flt .f64 0)]), (.int .i64 2)]
theorem run7 : (frun env 400).p 30 a7 = some r7 := by kernel_rfl
set_option maxRecDepth 100000 in
theorem k7 : AnsOk Try.prog 30 a7 r7 := known table (frun_p run7)
def a8 : List PV := [(.sl [(.int .u8 0), (.int .u8 0), (.int .u8 0), (.int .u8 0), (.int .u8 1), (.int .u8 0), (.int .u8 0)])]
def r8 : List PV := [(.agg [(.int .i64 0), (.int .i64 0), (.int .i64 0), (.sl []), (.int .i64 0), (.int .u8 0), (.sl []), (.flt .f64 0)]), (.int .i64 2)]
theorem run8 : (frun env 400).p 30 a8 = some r8 := by kernel_rfl
set_option maxRecDepth 100000 in
theorem k8 : AnsOk Try.prog 30 a8 r8 := known table (frun_p run8)
def a9 : List PV := [(.sl [(.int .u8 0)])]
def r9 : List PV := [(.agg [(.int .i64 0), (.int .i64 0), (.int .i64 0), (.sl []), (.int .i64 0), (.int .u8 0), (.sl []), (.flt .f64 0)]), (.int .i64 2)]
theorem run9 : (frun env 400).p 30 a9 = some r9 := by kernel_rfl
set_option maxRecDepth 100000 in
theorem k9 : AnsOk Try.prog 30 a9 r9 := known table (frun_p run9)
def a10 : List PV := [(.agg [(.int .i64 0), (.int .i64 1), (.int .i64 3), (.sl [(.agg [(.int .i64 1), (.int .i64 3)]), (.agg [(.int .i64 (-1)), (.int .i64 (-1))]), (.agg [(.int .i64 2), (.int .i64 3)])]), (.int .i64 6), (.int .u8 0), (.sl [(.agg [(.int .i64 2), (.int .u8 97), (.sl [])]), (.agg [(.int .i64 2), (.int .u8 98), (.sl [])])]), (.flt .f64 4602678819172646912)])]
def r10 : List PV := [(.agg [(.int .i64 0), (.int .i64 1), (.int .i64 3), (.sl [(.agg [(.int .i64 1), (.int .i64 3)]), (.agg [(.int .i64 (-1)), (.int .i64 (-1))]), (.agg [(.int .i64 2), (.int .i64 3)])]), (.int .i64 6), (.int .u8 0), (.sl [(.agg [(.int .i64 2), (.int .u8 97), (.sl [])]), (.agg [(.int .i64 2), (.int .u8 98), (.sl [])])]), (.flt .f64 4602678819172646912)])]
theorem run10 : (frun env 400).p 34 a10 = some r10 := by kernel_rfl
set_option maxRecDepth 100000 in
theorem k10 : AnsOk Try.prog 34 a10 r10 := known table (frun_p run10)
def a11 : List PV := []
def r11 : List PV := [(.agg [(.int .i64 0), (.int .i64 1), (.int .i64 3), (.sl [(.agg [(.int .i64 1), (.int .i64 3)]), (.agg [(.int .i64 (-1)), (.int .i64 (-1))]), (.agg [(.int .i64 2), (.int .i64 3)])]), (.int .i64 6), (.int .u8 0), (.sl [(.agg [(.int .i64 2), (.int .u8 97), (.sl [])]), (.agg [(.int .i64 2), (.int .u8 98), (.sl [])])]), (.flt .f64 4602678819172646912)])]
theorem run11 : (frun env 400).p 29 a11 = some r11 := by kernel_rfl
set_option maxRecDepth 100000 in
theorem k11 : AnsOk Try.prog 29 a11 r11 := known table (frun_p run11)
end Go.Proofs.Ytdacifedlemlmaa.Mach
