/- Answers, worked out. Printed by a program of the prover's own. -/
import Derived.Test.YtomcbnoaimobmaaGreatDoorCkL2
namespace Go.Proofs.YtomcbnoaimobmaaGreatDoor.Mach
open Go Ab
def a46 : List PV := [(.str [97, 124, 98, 124, 99])]
def r46 : List PV := [(.str [40, 60, 54, 49, 62, 124, 40, 60, 54, 50, 62, 124, 60, 54, 51, 62, 41, 41])]
theorem run46 : (frun env2 600).p 8 a46 = some r46 := by kernel_rfl
set_option maxRecDepth 100000 in
theorem k46 : AnsOk Tryz.prog 8 a46 r46 := known table2 (frun_p run46)
def a47 : List PV := [(.str [40, 63, 58, 97, 124, 98, 41, 42])]
def r47 : List PV := [(.str [40, 40, 60, 54, 49, 62, 124, 60, 54, 50, 62, 41, 42, 41])]
theorem run47 : (frun env2 600).p 8 a47 = some r47 := by kernel_rfl
set_option maxRecDepth 100000 in
theorem k47 : AnsOk Tryz.prog 8 a47 r47 := known table2 (frun_p run47)
def a48 : List PV := []
def r48 : List PV := [(.bool true)]
theorem run48 : (frun env2 600).p 7 a48 = some r48 := by kernel_rfl
set_option maxRecDepth 100000 in
theorem k48 : AnsOk Tryz.prog 7 a48 r48 := known table2 (frun_p run48)
end Go.Proofs.YtomcbnoaimobmaaGreatDoor.Mach
