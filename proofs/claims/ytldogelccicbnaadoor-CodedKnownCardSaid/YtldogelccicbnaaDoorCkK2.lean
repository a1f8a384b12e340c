/- Answers, worked out. Printed by a program of the prover's own. -/
import Derived.Test.YtldogelccicbnaaDoorCkCode
namespace Go.Proofs.YtldogelccicbnaaDoor.Mach
open Go Ab
def a6 : List PV := [(.agg [(.int .i64 4), (.str []), (.int .u64 0), (.int .u64 0), (.int .u64 0), (.int .u64 0), (.sl [(.agg [(.int .i64 4), (.str []), (.int .u64 0), (.int .u64 0), (.int .u64 0), (.int .u64 0), (.sl [(.agg [(.int .i64 3), (.str []), (.int .u64 0), (.int .u64 0), (.int .u64 0), (.int .u64 0), (.sl [(.agg [(.int .i64 4), (.str []), (.int .u64 0), (.int .u64 0), (.int .u64 0), (.int .u64 0), (.sl [(.agg [(.int .i64 3), (.str []), (.int .u64 0), (.int .u64 0), (.int .u64 0), (.int .u64 0), (.sl [(.agg [(.int .i64 0), (.str []), (.int .u64 0), (.int .u64 0), (.int .u64 0), (.int .u64 0), (.sl [])]), (.agg [(.int .i64 5), (.str []), (.int .u64 0), (.int .u64 0), (.int .u64 0), (.int .u64 0), (.sl [(.agg [(.int .i64 2), (.str []), (.int .u64 0), (.int .u64 8589934592), (.int .u64 0), (.int .u64 0), (.sl [])])])])])]), (.agg [(.int .i64 3), (.str [48]), (.int .u64 0), (.int .u64 0), (.int .u64 0), (.int .u64 0), (.sl [(.agg [(.int .i64 1), (.str [48]), (.int .u64 0), (.int .u64 0), (.int .u64 0), (.int .u64 0), (.sl [])]), (.agg [(.int .i64 5), (.str []), (.int .u64 0), (.int .u64 0), (.int .u64 0), (.int .u64 0), (.sl [(.agg [(.int .i64 2), (.str []), (.int .u64 0), (.int .u64 8589934592), (.int .u64 0), (.int .u64 0), (.sl [])])])])])])])]), (.agg [(.int .i64 2), (.str []), (.int .u64 0), (.int .u64 8589934592), (.int .u64 0), (.int .u64 0), (.sl [])])])]), (.agg [(.int .i64 1), (.str [48, 49]), (.int .u64 0), (.int .u64 0), (.int .u64 0), (.int .u64 0), (.sl [])])])]), (.agg [(.int .i64 0), (.str []), (.int .u64 0), (.int .u64 0), (.int .u64 0), (.int .u64 0), (.sl [])])])])]
def r6 : List PV := [(.str [48, 49]), (.bool true)]
theorem run6 : (frun env 400).p 38 a6 = some r6 := by kernel_rfl
set_option maxRecDepth 100000 in
theorem k6 : AnsOk Tryd.prog 38 a6 r6 := known table (frun_p run6)
def a7 : List PV := [(.agg [(.int .i64 3), (.str []), (.int .u64 0), (.int .u64 0), (.int .u64 0), (.int .u64 0), (.sl [(.agg [(.int .i64 4), (.str [48]), (.int .u64 0), (.int .u64 0), (.int .u64 0), (.int .u64 0), (.sl [(.agg [(.int .i64 1), (.str [48]), (.int .u64 0), (.int .u64 0), (.int .u64 0), (.int .u64 0), (.sl [])]), (.agg [(.int .i64 0), (.str []), (.int .u64 0), (.int .u64 0), (.int .u64 0), (.int .u64 0), (.sl [])])])]), (.agg [(.int .i64 5), (.str []), (.int .u64 0), (.int .u64 0), (.int .u64 0), (.int .u64 0), (.sl [(.agg [(.int .i64 4), (.str []), (.int .u64 0), (.int .u64 0), (.int .u64 0), (.int .u64 0), (.sl [(.agg [(.int .i64 2), (.str [48]), (.int .u64 0), (.int .u64 8589934592), (.int .u64 0), (.int .u64 0), (.sl [])]), (.agg [(.int .i64 1), (.str [49]), (.int .u64 0), (.int .u64 0), (.int .u64 0), (.int .u64 0), (.sl [])])])])])])])])]
def r7 : List PV := [(.str [48, 48, 49]), (.bool true)]
theorem run7 : (frun env 400).p 38 a7 = some r7 := by kernel_rfl
set_option maxRecDepth 100000 in
theorem k7 : AnsOk Tryd.prog 38 a7 r7 := known table (frun_p run7)
def a8 : List PV := [(.agg [(.int .i64 6), (.int .u64 0), (.int .u64 0), (.int .u64 0), (.int .u64 0), (.int .i64 2), (.sl [(.agg [(.int .i64 7), (.int .u64 0), (.int .u64 0), (.int .u64 0), (.int .u64 0), (.int .i64 0), (.sl [(.agg [(.int .i64 5), (.int .u64 0), (.int .u64 0), (.int .u64 0), (.int .u64 0), (.int .i64 0), (.sl [(.agg [(.int .i64 4), (.int .u64 0), (.int .u64 0), (.int .u64 0), (.int .u64 0), (.int .i64 0), (.sl [(.agg [(.int .i64 2), (.int .u64 0), (.int .u64 8589934592), (.int .u64 0), (.int .u64 0), (.int .i64 0), (.sl [])]), (.agg [(.int .i64 1), (.int .u64 0), (.int .u64 0), (.int .u64 0), (.int .u64 0), (.int .i64 0), (.sl [])])])])])])])])])])]
def r8 : List PV := [(.agg [(.int .i64 5), (.str []), (.int .u64 0), (.int .u64 0), (.int .u64 0), (.int .u64 0), (.sl [(.agg [(.int .i64 4), (.str []), (.int .u64 0), (.int .u64 0), (.int .u64 0), (.int .u64 0), (.sl [(.agg [(.int .i64 2), (.str [48]), (.int .u64 0), (.int .u64 8589934592), (.int .u64 0), (.int .u64 0), (.sl [])]), (.agg [(.int .i64 1), (.str [49]), (.int .u64 0), (.int .u64 0), (.int .u64 0), (.int .u64 0), (.sl [])])])])])]), (.int .i64 0)]
theorem run8 : (frun env 400).p 44 a8 = some r8 := by kernel_rfl
set_option maxRecDepth 100000 in
theorem k8 : AnsOk Tryd.prog 44 a8 r8 := known table (frun_p run8)
def a9 : List PV := [(.agg [(.int .i64 3), (.int .u64 0), (.int .u64 0), (.int .u64 0), (.int .u64 0), (.int .i64 0), (.sl [(.agg [(.int .i64 5), (.int .u64 0), (.int .u64 0), (.int .u64 0), (.int .u64 0), (.int .i64 0), (.sl [(.agg [(.int .i64 2), (.int .u64 0), (.int .u64 8589934592), (.int .u64 0), (.int .u64 0), (.int .i64 0), (.sl [])])])]), (.agg [(.int .i64 2), (.int .u64 0), (.int .u64 8589934592), (.int .u64 0), (.int .u64 0), (.int .i64 0), (.sl [])])])])]
def r9 : List PV := [(.agg [(.int .i64 3), (.str []), (.int .u64 0), (.int .u64 0), (.int .u64 0), (.int .u64 0), (.sl [(.agg [(.int .i64 5), (.str []), (.int .u64 0), (.int .u64 0), (.int .u64 0), (.int .u64 0), (.sl [(.agg [(.int .i64 2), (.str []), (.int .u64 0), (.int .u64 8589934592), (.int .u64 0), (.int .u64 0), (.sl [])])])]), (.agg [(.int .i64 2), (.str []), (.int .u64 0), (.int .u64 8589934592), (.int .u64 0), (.int .u64 0), (.sl [])])])]), (.int .i64 0)]
theorem run9 : (frun env 400).p 44 a9 = some r9 := by kernel_rfl
set_option maxRecDepth 100000 in
theorem k9 : AnsOk Tryd.prog 44 a9 r9 := known table (frun_p run9)
def a10 : List PV := [(.str [48, 49]), (.agg [(.int .i64 1), (.str [49]), (.int .u64 0), (.int .u64 0), (.int .u64 0), (.int .u64 0), (.sl [])])]
def r10 : List PV := [(.agg [(.int .i64 1), (.str [48, 49, 49]), (.int .u64 0), (.int .u64 0), (.int .u64 0), (.int .u64 0), (.sl [])])]
theorem run10 : (frun env 400).p 41 a10 = some r10 := by kernel_rfl
set_option maxRecDepth 100000 in
theorem k10 : AnsOk Tryd.prog 41 a10 r10 := known table (frun_p run10)
def a11 : List PV := [(.agg [(.int .i64 1), (.str [50]), (.int .u64 0), (.int .u64 0), (.int .u64 0), (.int .u64 0), (.sl [])])]
def r11 : List PV := [(.bool false)]
theorem run11 : (frun env 400).p 39 a11 = some r11 := by kernel_rfl
set_option maxRecDepth 100000 in
theorem k11 : AnsOk Tryd.prog 39 a11 r11 := known table (frun_p run11)
def a12 : List PV := [(.agg [(.int .i64 3), (.str []), (.int .u64 0), (.int .u64 0), (.int .u64 0), (.int .u64 0), (.sl [])])]
def r12 : List PV := [(.bool false)]
theorem run12 : (frun env 400).p 39 a12 = some r12 := by kernel_rfl
set_option maxRecDepth 100000 in
theorem k12 : AnsOk Tryd.prog 39 a12 r12 := known table (frun_p run12)
def a13 : List PV := [(.agg [(.int .i64 6), (.str []), (.int .u64 0), (.int .u64 0), (.int .u64 0), (.int .u64 0), (.sl [])])]
def r13 : List PV := [(.bool false)]
theorem run13 : (frun env 400).p 39 a13 = some r13 := by kernel_rfl
set_option maxRecDepth 100000 in
theorem k13 : AnsOk Tryd.prog 39 a13 r13 := known table (frun_p run13)
end Go.Proofs.YtldogelccicbnaaDoor.Mach
