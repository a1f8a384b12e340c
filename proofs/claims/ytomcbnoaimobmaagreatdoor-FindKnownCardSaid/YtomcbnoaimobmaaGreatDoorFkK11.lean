/- Answers, worked out. Printed by a program of the prover's own. -/
import Derived.Test.YtomcbnoaimobmaaGreatDoorFkL2
namespace Go.Proofs.YtomcbnoaimobmaaGreatDoor.Mach
open Go Ab
def a54 : List PV := [(.agg [(.int .i64 4), (.int .u64 0), (.int .u64 0), (.int .u64 0), (.int .u64 0), (.int .i64 0), (.sl [(.agg [(.int .i64 6), (.int .u64 0), (.int .u64 0), (.int .u64 0), (.int .u64 0), (.int .i64 1), (.sl [(.agg [(.int .i64 2), (.int .u64 0), (.int .u64 8589934592), (.int .u64 0), (.int .u64 0), (.int .i64 0), (.sl [])])])]), (.agg [(.int .i64 3), (.int .u64 0), (.int .u64 0), (.int .u64 0), (.int .u64 0), (.int .i64 0), (.sl [(.agg [(.int .i64 2), (.int .u64 0), (.int .u64 8589934592), (.int .u64 0), (.int .u64 0), (.int .i64 0), (.sl [])]), (.agg [(.int .i64 6), (.int .u64 0), (.int .u64 0), (.int .u64 0), (.int .u64 0), (.int .i64 2), (.sl [(.agg [(.int .i64 2), (.int .u64 0), (.int .u64 17179869184), (.int .u64 0), (.int .u64 0), (.int .i64 0), (.sl [])])])])])])]), (.bool false), (.bool true), (.int .i64 2), (.int .i64 2), (.int .i64 3)]), (.sl [(.int .u8 120), (.int .u8 97), (.int .u8 98)])]
def r54 : List PV := [(.agg [(.int .i64 1), (.int .i64 3), (.int .i64 5), (.int .u8 0), (.sl [(.agg [(.int .i64 3), (.int .u8 0), (.sl [(.agg [(.int .i64 2), (.int .u8 97), (.sl [])]), (.agg [(.int .i64 7), (.int .u8 0), (.sl [(.agg [(.int .i64 2), (.int .u8 98), (.sl [])])])])])])]), (.sl [(.agg [(.int .i64 1), (.int .i64 3)]), (.agg [(.int .i64 (-1)), (.int .i64 (-1))]), (.agg [(.int .i64 2), (.int .i64 3)])])]), (.int .i64 0)]
theorem run54 : (frun env2 600).p 20 a54 = some r54 := by kernel_rfl
set_option maxRecDepth 100000 in
theorem k54 : AnsOk Tryz.prog 20 a54 r54 := known table2 (frun_p run54)
def a55 : List PV := [(.agg [(.int .i64 4), (.int .u64 0), (.int .u64 0), (.int .u64 0), (.int .u64 0), (.int .i64 0), (.sl [(.agg [(.int .i64 6), (.int .u64 0), (.int .u64 0), (.int .u64 0), (.int .u64 0), (.int .i64 1), (.sl [(.agg [(.int .i64 2), (.int .u64 0), (.int .u64 8589934592), (.int .u64 0), (.int .u64 0), (.int .i64 0), (.sl [])])])]), (.agg [(.int .i64 3), (.int .u64 0), (.int .u64 0), (.int .u64 0), (.int .u64 0), (.int .i64 0), (.sl [(.agg [(.int .i64 2), (.int .u64 0), (.int .u64 8589934592), (.int .u64 0), (.int .u64 0), (.int .i64 0), (.sl [])]), (.agg [(.int .i64 6), (.int .u64 0), (.int .u64 0), (.int .u64 0), (.int .u64 0), (.int .i64 2), (.sl [(.agg [(.int .i64 2), (.int .u64 0), (.int .u64 17179869184), (.int .u64 0), (.int .u64 0), (.int .i64 0), (.sl [])])])])])])]), (.bool false), (.bool false), (.int .i64 2), (.int .i64 0), (.int .i64 0)]), (.sl [(.int .u8 97), (.int .u8 98)])]
def r55 : List PV := [(.bool true), (.int .i64 0)]
theorem run55 : (frun env2 600).p 25 a55 = some r55 := by kernel_rfl
set_option maxRecDepth 100000 in
theorem k55 : AnsOk Tryz.prog 25 a55 r55 := known table2 (frun_p run55)
def a56 : List PV := []
def r56 : List PV := [(.bool true)]
theorem run56 : (frun env2 600).p 15 a56 = some r56 := by kernel_rfl
set_option maxRecDepth 100000 in
theorem k56 : AnsOk Tryz.prog 15 a56 r56 := known table2 (frun_p run56)
def a57 : List PV := [(.agg [(.int .i64 4), (.int .u64 0), (.int .u64 0), (.int .u64 0), (.int .u64 0), (.int .i64 0), (.sl [(.agg [(.int .i64 6), (.int .u64 0), (.int .u64 0), (.int .u64 0), (.int .u64 0), (.int .i64 1), (.sl [(.agg [(.int .i64 2), (.int .u64 0), (.int .u64 8589934592), (.int .u64 0), (.int .u64 0), (.int .i64 0), (.sl [])])])]), (.agg [(.int .i64 3), (.int .u64 0), (.int .u64 0), (.int .u64 0), (.int .u64 0), (.int .i64 0), (.sl [(.agg [(.int .i64 2), (.int .u64 0), (.int .u64 8589934592), (.int .u64 0), (.int .u64 0), (.int .i64 0), (.sl [])]), (.agg [(.int .i64 6), (.int .u64 0), (.int .u64 0), (.int .u64 0), (.int .u64 0), (.int .i64 2), (.sl [(.agg [(.int .i64 2), (.int .u64 0), (.int .u64 17179869184), (.int .u64 0), (.int .u64 0), (.int .i64 0), (.sl [])])])])])])]), (.bool false), (.bool false), (.int .i64 2), (.int .i64 2), (.int .i64 3)]), (.sl [(.int .u8 97), (.int .u8 98)]), (.int .i64 2)]
def r57 : List PV := [(.int .i64 1), (.agg [(.int .i64 4), (.int .u8 0), (.sl [(.agg [(.int .i64 7), (.int .u8 0), (.sl [(.agg [(.int .i64 2), (.int .u8 97), (.sl [])])])])])]), (.int .i64 0)]
theorem run57 : (frun env2 600).p 59 a57 = some r57 := by kernel_rfl
set_option maxRecDepth 100000 in
theorem k57 : AnsOk Tryz.prog 59 a57 r57 := known table2 (frun_p run57)
end Go.Proofs.YtomcbnoaimobmaaGreatDoor.Mach
