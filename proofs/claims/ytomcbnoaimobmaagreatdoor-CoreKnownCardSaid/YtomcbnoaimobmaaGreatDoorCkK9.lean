/- Answers, worked out. Printed by a program of the prover's own. -/
import Derived.Test.YtomcbnoaimobmaaGreatDoorCkL1
namespace Go.Proofs.YtomcbnoaimobmaaGreatDoor.Mach
open Go Ab
def a34 : List PV := [(.str [97, 98, 99])]
def r34 : List PV := [(.str [40, 60, 54, 49, 62, 46, 40, 60, 54, 50, 62, 46, 60, 54, 51, 62, 41, 41])]
theorem run34 : (frun env1 600).p 8 a34 = some r34 := by kernel_rfl
set_option maxRecDepth 100000 in
theorem k34 : AnsOk Tryz.prog 8 a34 r34 := known table1 (frun_p run34)
def a35 : List PV := [(.str [97, 43])]
def r35 : List PV := [(.str [40, 60, 54, 49, 62, 46, 40, 40, 126, 60, 54, 49, 62, 41, 42, 41, 41])]
theorem run35 : (frun env1 600).p 8 a35 = some r35 := by kernel_rfl
set_option maxRecDepth 100000 in
theorem k35 : AnsOk Tryz.prog 8 a35 r35 := known table1 (frun_p run35)
def a36 : List PV := [(.str [40, 63, 58, 97, 123, 50, 48, 48, 125, 41, 123, 50, 48, 48, 125])]
def r36 : List PV := [(.str [108, 97, 114, 103, 101])]
theorem run36 : (frun env1 600).p 8 a36 = some r36 := by kernel_rfl
set_option maxRecDepth 100000 in
theorem k36 : AnsOk Tryz.prog 8 a36 r36 := known table1 (frun_p run36)
end Go.Proofs.YtomcbnoaimobmaaGreatDoor.Mach
