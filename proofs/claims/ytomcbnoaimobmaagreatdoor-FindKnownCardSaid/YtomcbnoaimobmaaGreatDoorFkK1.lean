/- Answers, worked out. Printed by a program of the prover's own. -/
import Derived.Test.YtomcbnoaimobmaaGreatDoorFkCode
namespace Go.Proofs.YtomcbnoaimobmaaGreatDoor.Mach
open Go Ab
def a1 : List PV := [(.agg [(.int .i64 4), (.str []), (.int .u64 0), (.int .u64 0), (.int .u64 0), (.int .u64 0), (.sl [(.agg [(.int .i64 1), (.str [48]), (.int .u64 0), (.int .u64 0), (.int .u64 0), (.int .u64 0), (.sl [])]), (.agg [(.int .i64 3), (.str [49]), (.int .u64 0), (.int .u64 0), (.int .u64 0), (.int .u64 0), (.sl [(.agg [(.int .i64 1), (.str []), (.int .u64 0), (.int .u64 0), (.int .u64 0), (.int .u64 0), (.sl [])]), (.agg [(.int .i64 2), (.str []), (.int .u64 0), (.int .u64 17179869184), (.int .u64 0), (.int .u64 0), (.sl [])])])])])])]
def r1 : List PV := [(.agg [(.int .i64 4), (.str []), (.int .u64 0), (.int .u64 0), (.int .u64 0), (.int .u64 0), (.sl [(.agg [(.int .i64 1), (.str [48]), (.int .u64 0), (.int .u64 0), (.int .u64 0), (.int .u64 0), (.sl [])]), (.agg [(.int .i64 2), (.str [49]), (.int .u64 0), (.int .u64 17179869184), (.int .u64 0), (.int .u64 0), (.sl [])])])])]
theorem run1 : (frun env 600).p 187 a1 = some r1 := by kernel_rfl
set_option maxRecDepth 100000 in
theorem k1 : AnsOk Tryz.prog 187 a1 r1 := known table (frun_p run1)
def a2 : List PV := [(.agg [(.int .i64 4), (.int .u64 0), (.int .u64 0), (.int .u64 0), (.int .u64 0), (.int .i64 0), (.sl [(.agg [(.int .i64 6), (.int .u64 0), (.int .u64 0), (.int .u64 0), (.int .u64 0), (.int .i64 1), (.sl [(.agg [(.int .i64 2), (.int .u64 0), (.int .u64 8589934592), (.int .u64 0), (.int .u64 0), (.int .i64 0), (.sl [])])])]), (.agg [(.int .i64 3), (.int .u64 0), (.int .u64 0), (.int .u64 0), (.int .u64 0), (.int .i64 0), (.sl [(.agg [(.int .i64 2), (.int .u64 0), (.int .u64 8589934592), (.int .u64 0), (.int .u64 0), (.int .i64 0), (.sl [])]), (.agg [(.int .i64 6), (.int .u64 0), (.int .u64 0), (.int .u64 0), (.int .u64 0), (.int .i64 2), (.sl [(.agg [(.int .i64 2), (.int .u64 0), (.int .u64 17179869184), (.int .u64 0), (.int .u64 0), (.int .i64 0), (.sl [])])])])])])])])]
def r2 : List PV := [(.bool true)]
theorem run2 : (frun env 600).p 10 a2 = some r2 := by kernel_rfl
set_option maxRecDepth 100000 in
theorem k2 : AnsOk Tryz.prog 10 a2 r2 := known table (frun_p run2)
def a3 : List PV := [(.agg [(.int .i64 3), (.str [48]), (.int .u64 0), (.int .u64 0), (.int .u64 0), (.int .u64 0), (.sl [(.agg [(.int .i64 1), (.str [48]), (.int .u64 0), (.int .u64 0), (.int .u64 0), (.int .u64 0), (.sl [])]), (.agg [(.int .i64 5), (.str []), (.int .u64 0), (.int .u64 0), (.int .u64 0), (.int .u64 0), (.sl [(.agg [(.int .i64 2), (.str []), (.int .u64 0), (.int .u64 8589934592), (.int .u64 0), (.int .u64 0), (.sl [])])])])])])]
def r3 : List PV := [(.agg [(.int .i64 5), (.str [48, 48]), (.int .u64 0), (.int .u64 0), (.int .u64 0), (.int .u64 0), (.sl [(.agg [(.int .i64 2), (.str []), (.int .u64 0), (.int .u64 8589934592), (.int .u64 0), (.int .u64 0), (.sl [])])])])]
theorem run3 : (frun env 600).p 187 a3 = some r3 := by kernel_rfl
set_option maxRecDepth 100000 in
theorem k3 : AnsOk Tryz.prog 187 a3 r3 := known table (frun_p run3)
def a4 : List PV := [(.agg [(.int .i64 4), (.str []), (.int .u64 0), (.int .u64 0), (.int .u64 0), (.int .u64 0), (.sl [(.agg [(.int .i64 2), (.str [48]), (.int .u64 0), (.int .u64 8589934592), (.int .u64 0), (.int .u64 0), (.sl [])]), (.agg [(.int .i64 3), (.str [49]), (.int .u64 0), (.int .u64 0), (.int .u64 0), (.int .u64 0), (.sl [(.agg [(.int .i64 2), (.str []), (.int .u64 0), (.int .u64 8589934592), (.int .u64 0), (.int .u64 0), (.sl [])]), (.agg [(.int .i64 2), (.str []), (.int .u64 0), (.int .u64 17179869184), (.int .u64 0), (.int .u64 0), (.sl [])])])])])])]
def r4 : List PV := [(.bool true)]
theorem run4 : (frun env 600).p 228 a4 = some r4 := by kernel_rfl
set_option maxRecDepth 100000 in
theorem k4 : AnsOk Tryz.prog 228 a4 r4 := known table (frun_p run4)
def a5 : List PV := [(.sl [(.agg [(.int .i64 1), (.int .i64 3)]), (.agg [(.int .i64 (-1)), (.int .i64 (-1))]), (.agg [(.int .i64 2), (.int .i64 3)])])]
def r5 : List PV := [(.str [40, 49, 44, 51, 41, 32, 45, 32, 40, 50, 44, 51, 41])]
theorem run5 : (frun env 600).p 21 a5 = some r5 := by kernel_rfl
set_option maxRecDepth 100000 in
theorem k5 : AnsOk Tryz.prog 21 a5 r5 := known table (frun_p run5)
def a6 : List PV := [(.sl [(.agg [(.int .i64 1), (.int .i64 2)]), (.agg [(.int .i64 1), (.int .i64 2)]), (.agg [(.int .i64 (-1)), (.int .i64 (-1))])])]
def r6 : List PV := [(.str [40, 49, 44, 50, 41, 32, 40, 49, 44, 50, 41, 32, 45])]
theorem run6 : (frun env 600).p 21 a6 = some r6 := by kernel_rfl
set_option maxRecDepth 100000 in
theorem k6 : AnsOk Tryz.prog 21 a6 r6 := known table (frun_p run6)
def a7 : List PV := [(.sl [(.agg [(.int .i64 0), (.int .i64 2)]), (.agg [(.int .i64 (-1)), (.int .i64 (-1))]), (.agg [(.int .i64 1), (.int .i64 2)])])]
def r7 : List PV := [(.str [40, 48, 44, 50, 41, 32, 45, 32, 40, 49, 44, 50, 41])]
theorem run7 : (frun env 600).p 21 a7 = some r7 := by kernel_rfl
set_option maxRecDepth 100000 in
theorem k7 : AnsOk Tryz.prog 21 a7 r7 := known table (frun_p run7)
def a8 : List PV := [(.agg [(.int .i64 3), (.int .u64 0), (.int .u64 0), (.int .u64 0), (.int .u64 0), (.int .i64 0), (.sl [(.agg [(.int .i64 2), (.int .u64 0), (.int .u64 8589934592), (.int .u64 0), (.int .u64 0), (.int .i64 0), (.sl [])]), (.agg [(.int .i64 5), (.int .u64 0), (.int .u64 0), (.int .u64 0), (.int .u64 0), (.int .i64 0), (.sl [(.agg [(.int .i64 2), (.int .u64 0), (.int .u64 8589934592), (.int .u64 0), (.int .u64 0), (.int .i64 0), (.sl [])])])])])])]
def r8 : List PV := [(.bool true)]
theorem run8 : (frun env 600).p 10 a8 = some r8 := by kernel_rfl
set_option maxRecDepth 100000 in
theorem k8 : AnsOk Tryz.prog 10 a8 r8 := known table (frun_p run8)
def a9 : List PV := [(.agg [(.int .i64 3), (.str []), (.int .u64 0), (.int .u64 0), (.int .u64 0), (.int .u64 0), (.sl [(.agg [(.int .i64 2), (.str []), (.int .u64 0), (.int .u64 8589934592), (.int .u64 0), (.int .u64 0), (.sl [])]), (.agg [(.int .i64 5), (.str []), (.int .u64 0), (.int .u64 0), (.int .u64 0), (.int .u64 0), (.sl [(.agg [(.int .i64 2), (.str []), (.int .u64 0), (.int .u64 8589934592), (.int .u64 0), (.int .u64 0), (.sl [])])])])])])]
def r9 : List PV := [(.bool true)]
theorem run9 : (frun env 600).p 228 a9 = some r9 := by kernel_rfl
set_option maxRecDepth 100000 in
theorem k9 : AnsOk Tryz.prog 228 a9 r9 := known table (frun_p run9)
def a10 : List PV := [(.agg [(.int .i64 5), (.int .u64 0), (.int .u64 0), (.int .u64 0), (.int .u64 0), (.int .i64 0), (.sl [(.agg [(.int .i64 2), (.int .u64 0), (.int .u64 8589934592), (.int .u64 0), (.int .u64 0), (.int .i64 0), (.sl [])])])])]
def r10 : List PV := [(.bool true)]
theorem run10 : (frun env 600).p 10 a10 = some r10 := by kernel_rfl
set_option maxRecDepth 100000 in
theorem k10 : AnsOk Tryz.prog 10 a10 r10 := known table (frun_p run10)
def a11 : List PV := [(.agg [(.int .i64 0), (.int .u64 0), (.int .u64 0), (.int .u64 0), (.int .u64 0), (.int .i64 0), (.sl [])])]
def r11 : List PV := [(.bool true)]
theorem run11 : (frun env 600).p 10 a11 = some r11 := by kernel_rfl
set_option maxRecDepth 100000 in
theorem k11 : AnsOk Tryz.prog 10 a11 r11 := known table (frun_p run11)
def a12 : List PV := [(.agg [(.int .i64 5), (.int .u64 0), (.int .u64 0), (.int .u64 0), (.int .u64 0), (.int .i64 0), (.sl [(.agg [(.int .i64 2), (.int .u64 0), (.int .u64 8589934592), (.int .u64 0), (.int .u64 0), (.int .i64 0), (.sl [])])]), (.bool false), (.bool false), (.int .i64 0), (.int .i64 0), (.int .i64 3)])]
def r12 : List PV := [(.bool false)]
theorem run12 : (frun env 600).p 96 a12 = some r12 := by kernel_rfl
set_option maxRecDepth 100000 in
theorem k12 : AnsOk Tryz.prog 96 a12 r12 := known table (frun_p run12)
def a13 : List PV := [(.agg [(.int .u64 0), (.int .u64 8589934592), (.int .u64 0), (.int .u64 0)]), (.int .u8 98)]
def r13 : List PV := [(.bool false)]
theorem run13 : (frun env 600).p 138 a13 = some r13 := by kernel_rfl
set_option maxRecDepth 100000 in
theorem k13 : AnsOk Tryz.prog 138 a13 r13 := known table (frun_p run13)
def a14 : List PV := [(.agg [(.int .u64 0), (.int .u64 8589934592), (.int .u64 0), (.int .u64 0)]), (.int .u8 120)]
def r14 : List PV := [(.bool false)]
theorem run14 : (frun env 600).p 138 a14 = some r14 := by kernel_rfl
set_option maxRecDepth 100000 in
theorem k14 : AnsOk Tryz.prog 138 a14 r14 := known table (frun_p run14)
def a15 : List PV := [(.agg [(.int .u64 0), (.int .u64 8589934592), (.int .u64 0), (.int .u64 0)]), (.int .u8 97)]
def r15 : List PV := [(.bool true)]
theorem run15 : (frun env 600).p 138 a15 = some r15 := by kernel_rfl
set_option maxRecDepth 100000 in
theorem k15 : AnsOk Tryz.prog 138 a15 r15 := known table (frun_p run15)
def a16 : List PV := [(.agg [(.int .u64 0), (.int .u64 17179869184), (.int .u64 0), (.int .u64 0)]), (.int .u8 97)]
def r16 : List PV := [(.bool false)]
theorem run16 : (frun env 600).p 138 a16 = some r16 := by kernel_rfl
set_option maxRecDepth 100000 in
theorem k16 : AnsOk Tryz.prog 138 a16 r16 := known table (frun_p run16)
def a17 : List PV := [(.agg [(.int .u64 0), (.int .u64 17179869184), (.int .u64 0), (.int .u64 0)]), (.int .u8 98)]
def r17 : List PV := [(.bool true)]
theorem run17 : (frun env 600).p 138 a17 = some r17 := by kernel_rfl
set_option maxRecDepth 100000 in
theorem k17 : AnsOk Tryz.prog 138 a17 r17 := known table (frun_p run17)
end Go.Proofs.YtomcbnoaimobmaaGreatDoor.Mach
