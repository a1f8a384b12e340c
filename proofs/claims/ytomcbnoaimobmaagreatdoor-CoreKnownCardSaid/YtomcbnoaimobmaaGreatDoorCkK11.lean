/- Answers, worked out. Printed by a program of the prover's own. -/
import Derived.Test.YtomcbnoaimobmaaGreatDoorCkL1
namespace Go.Proofs.YtomcbnoaimobmaaGreatDoor.Mach
open Go Ab
def a40 : List PV := [(.str [97, 123, 48, 44, 50, 125])]
def r40 : List PV := [(.str [40, 40, 60, 54, 49, 62, 46, 40, 40, 126, 60, 54, 49, 62, 41, 124, 49, 41, 41, 124, 49, 41])]
theorem run40 : (frun env1 600).p 8 a40 = some r40 := by kernel_rfl
set_option maxRecDepth 100000 in
theorem k40 : AnsOk Tryz.prog 8 a40 r40 := known table1 (frun_p run40)
def a41 : List PV := [(.str [40, 97, 41, 40, 98, 41])]
def r41 : List PV := [(.str [40, 40, 49, 58, 60, 54, 49, 62, 41, 46, 40, 50, 58, 60, 54, 50, 62, 41, 41])]
theorem run41 : (frun env1 600).p 8 a41 = some r41 := by kernel_rfl
set_option maxRecDepth 100000 in
theorem k41 : AnsOk Tryz.prog 8 a41 r41 := known table1 (frun_p run41)
def a42 : List PV := [(.str [97, 124, 98])]
def r42 : List PV := [(.str [40, 60, 54, 49, 62, 124, 60, 54, 50, 62, 41])]
theorem run42 : (frun env1 600).p 8 a42 = some r42 := by kernel_rfl
set_option maxRecDepth 100000 in
theorem k42 : AnsOk Tryz.prog 8 a42 r42 := known table1 (frun_p run42)
end Go.Proofs.YtomcbnoaimobmaaGreatDoor.Mach
