/- Answers, worked out. Printed by a program of the prover's own. -/
import Derived.Test.YtdacifedlemlmaaRkL0
namespace Go.Proofs.Ytdacifedlemlmaa.Mach
open Go Ab
def a47 : List PV := [(.sl [(.int .u8 0), (.int .u8 0), (.int .u8 0), (.int .u8 0), (.int .u8 1), (.int .u8 0), (.int .u8 0), (.int .u8 0), (.int .u8 3), (.int .u8 3), (.int .u8 0), (.int .u8 1), (.int .u8 0), (.int .u8 0), (.int .u8 0), (.int .u8 2), (.int .u8 0), (.int .u8 0), (.int .u8 0), (.int .u8 3), (.int .u8 6), (.int .u8 0), (.int .u8 2), (.int .u8 2), (.int .u8 97), (.int .u8 2), (.int .u8 98), (.int .u8 191), (.int .u8 224), (.int .u8 0), (.int .u8 0), (.int .u8 0), (.int .u8 0), (.int .u8 0), (.int .u8 0)])]
def r47 : List PV := [(.agg [(.int .i64 0), (.int .i64 1), (.int .i64 3), (.sl [(.agg [(.int .i64 1), (.int .i64 3)]), (.agg [(.int .i64 (-1)), (.int .i64 (-1))]), (.agg [(.int .i64 2), (.int .i64 3)])]), (.int .i64 6), (.int .u8 0), (.sl [(.agg [(.int .i64 2), (.int .u8 97), (.sl [])]), (.agg [(.int .i64 2), (.int .u8 98), (.sl [])])]), (.flt .f64 4602678819172646912)]), (.int .i64 0)]
theorem run47 : (frun env0 400).p 30 a47 = some r47 := by kernel_rfl
set_option maxRecDepth 100000 in
theorem k47 : AnsOk Try.prog 30 a47 r47 := known table0 (frun_p run47)
def a48 : List PV := [(.agg [(.int .i64 0), (.int .i64 1), (.int .i64 3), (.sl [(.agg [(.int .i64 1), (.int .i64 3)]), (.agg [(.int .i64 (-1)), (.int .i64 (-1))]), (.agg [(.int .i64 2), (.int .i64 3)])]), (.int .i64 6), (.int .u8 0), (.sl [(.agg [(.int .i64 2), (.int .u8 97), (.sl [])]), (.agg [(.int .i64 2), (.int .u8 98), (.sl [])])]), (.flt .f64 9221120237041090561)]), (.agg [(.int .i64 0), (.int .i64 1), (.int .i64 3), (.sl [(.agg [(.int .i64 1), (.int .i64 3)]), (.agg [(.int .i64 (-1)), (.int .i64 (-1))]), (.agg [(.int .i64 2), (.int .i64 3)])]), (.int .i64 6), (.int .u8 0), (.sl [(.agg [(.int .i64 2), (.int .u8 97), (.sl [])]), (.agg [(.int .i64 2), (.int .u8 98), (.sl [])])]), (.flt .f64 9223372036854775807)])]
def r48 : List PV := [(.bool true)]
theorem run48 : (frun env0 400).p 32 a48 = some r48 := by kernel_rfl
set_option maxRecDepth 100000 in
theorem k48 : AnsOk Try.prog 32 a48 r48 := known table0 (frun_p run48)
def a49 : List PV := [(.agg [(.int .i64 0), (.int .i64 1), (.int .i64 3), (.sl [(.agg [(.int .i64 1), (.int .i64 3)]), (.agg [(.int .i64 (-1)), (.int .i64 (-1))]), (.agg [(.int .i64 2), (.int .i64 3)])]), (.int .i64 6), (.int .u8 0), (.sl [(.agg [(.int .i64 2), (.int .u8 97), (.sl [])]), (.agg [(.int .i64 2), (.int .u8 98), (.sl [])])]), (.flt .f64 9221120237041090561)]), (.agg [(.int .i64 0), (.int .i64 1), (.int .i64 3), (.sl [(.agg [(.int .i64 1), (.int .i64 3)]), (.agg [(.int .i64 (-1)), (.int .i64 (-1))]), (.agg [(.int .i64 2), (.int .i64 3)])]), (.int .i64 6), (.int .u8 0), (.sl [(.agg [(.int .i64 2), (.int .u8 97), (.sl [])]), (.agg [(.int .i64 2), (.int .u8 98), (.sl [])])]), (.flt .f64 4602678819172646912)])]
def r49 : List PV := [(.bool false)]
theorem run49 : (frun env0 400).p 32 a49 = some r49 := by kernel_rfl
set_option maxRecDepth 100000 in
theorem k49 : AnsOk Try.prog 32 a49 r49 := known table0 (frun_p run49)
def a50 : List PV := []
def r50 : List PV := [(.bool true)]
theorem run50 : (frun env0 400).p 12 a50 = some r50 := by kernel_rfl
set_option maxRecDepth 100000 in
theorem k50 : AnsOk Try.prog 12 a50 r50 := known table0 (frun_p run50)
end Go.Proofs.Ytdacifedlemlmaa.Mach
