/- Answers, worked out. Printed by a program of the prover's own. -/
import Derived.Test.YtomcbnoaimobmaaGreatDoorCkCode
namespace Go.Proofs.YtomcbnoaimobmaaGreatDoor.Mach
open Go Ab
def a10 : List PV := [(.agg [(.int .u64 0), (.int .u64 34359738368), (.int .u64 0), (.int .u64 0)])]
def r10 : List PV := [(.sl [(.int .u8 99)])]
theorem run10 : (frun env 600).p 87 a10 = some r10 := by kernel_rfl
set_option maxRecDepth 100000 in
theorem k10 : AnsOk Tryz.prog 87 a10 r10 := known table (frun_p run10)
def a11 : List PV := [(.int .i64 598), (.int .i64 200), (.int .i64 200)]
def r11 : List PV := [(.int .i64 100000)]
theorem run11 : (frun env 600).p 90 a11 = some r11 := by kernel_rfl
set_option maxRecDepth 100000 in
theorem k11 : AnsOk Tryz.prog 90 a11 r11 := known table (frun_p run11)
def a12 : List PV := [(.agg [(.int .i64 3), (.int .u64 0), (.int .u64 0), (.int .u64 0), (.int .u64 0), (.int .i64 0), (.sl [(.agg [(.int .i64 6), (.int .u64 0), (.int .u64 0), (.int .u64 0), (.int .u64 0), (.int .i64 2), (.sl [(.agg [(.int .i64 0), (.int .u64 0), (.int .u64 0), (.int .u64 0), (.int .u64 0), (.int .i64 0), (.sl [])])])]), (.agg [(.int .i64 6), (.int .u64 0), (.int .u64 0), (.int .u64 0), (.int .u64 0), (.int .i64 2), (.sl [(.agg [(.int .i64 6), (.int .u64 0), (.int .u64 0), (.int .u64 0), (.int .u64 0), (.int .i64 1), (.sl [(.agg [(.int .i64 0), (.int .u64 0), (.int .u64 0), (.int .u64 0), (.int .u64 0), (.int .i64 0), (.sl [])])])])])])])])]
def r12 : List PV := [(.sl [(.int .i64 2), (.int .i64 1)])]
theorem run12 : (frun env 600).p 13 a12 = some r12 := by kernel_rfl
set_option maxRecDepth 100000 in
theorem k12 : AnsOk Tryz.prog 13 a12 r12 := known table (frun_p run12)
end Go.Proofs.YtomcbnoaimobmaaGreatDoor.Mach
