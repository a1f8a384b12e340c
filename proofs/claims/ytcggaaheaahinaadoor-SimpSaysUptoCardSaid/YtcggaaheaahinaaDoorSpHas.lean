/- The law's functions, as the seat has them; what is known ahead. -/
import Derived.Test.YtcggaaheaahinaaDoorSpK1
import Derived.Test.YtcggaaheaahinaaDoorSpY
import Derived.Test.YtcggaaheaahinaaDoorRows
set_option linter.unusedSimpArgs false
set_option linter.unusedVariables false
namespace Go.Proofs.YtcggaaheaahinaaDoor.Mach
open Go Ab
set_option maxRecDepth 100000 in
def known0 : List (FuncId × List PV × List PV) := [(5, a1, r1), (74, a2, r2)]
set_option maxRecDepth 100000 in
theorem knows0 : Knows Tryd.prog known0 := (.cons k1 (.cons k2 Ab.Knows.nil))
noncomputable def env0 : Ab.Env := { env with ext := orExt (memo known0) env.ext }
set_option maxRecDepth 100000 in
theorem table0 : Ab.Table Tryd.prog mu env0 := table.orMemo knows0
set_option maxRecDepth 100000 in
theorem has0 : Pl.HS env0 where
  h3 := ⟨rfl, rfl, fun _ => rfl⟩
  h6 := ⟨rfl, rfl, fun _ => rfl⟩
  h7 := ⟨rfl, rfl, fun _ => rfl⟩
  h8 := ⟨rfl, rfl, fun _ => rfl⟩
  h9 := ⟨rfl, rfl, fun _ => rfl⟩
  h10 := ⟨rfl, rfl, fun _ => rfl⟩
  h11 := ⟨rfl, rfl, fun _ => rfl⟩
  h12 := ⟨rfl, rfl, fun _ => rfl⟩
  h13 := ⟨rfl, rfl, fun _ => rfl⟩
  h14 := ⟨rfl, rfl, fun _ => rfl⟩
  h15 := ⟨rfl, rfl, fun _ => rfl⟩
  h28 := ⟨rfl, rfl, fun _ => rfl⟩
  h29 := ⟨rfl, rfl, fun _ => rfl⟩
  h30 := ⟨rfl, rfl, fun _ => rfl⟩
  h31 := ⟨rfl, rfl, fun _ => rfl⟩
  h32 := ⟨rfl, rfl, fun _ => rfl⟩
  h33 := ⟨rfl, rfl, fun _ => rfl⟩
  h34 := ⟨rfl, rfl, fun _ => rfl⟩
  h35 := ⟨rfl, rfl, fun _ => rfl⟩
  h36 := ⟨rfl, rfl, fun _ => rfl⟩
  h37 := ⟨rfl, rfl, fun _ => rfl⟩
  h38 := ⟨rfl, rfl, fun _ => rfl⟩
  h39 := ⟨rfl, rfl, fun _ => rfl⟩
  h54 := ⟨rfl, rfl, fun _ => rfl⟩
  h55 := ⟨rfl, rfl, fun _ => rfl⟩
  h56 := ⟨rfl, rfl, fun _ => rfl⟩
  h57 := ⟨rfl, rfl, fun _ => rfl⟩
  h58 := ⟨rfl, rfl, fun _ => rfl⟩
  h59 := ⟨rfl, rfl, fun _ => rfl⟩
  h60 := ⟨rfl, rfl, fun _ => rfl⟩
  r5 := rfl
  r53 := rfl
set_option maxRecDepth 100000 in
theorem trim0 : Pl.TrimOk env0 := Pl.trimOk ⟨rfl, rfl, fun _ => rfl⟩ ⟨rfl, rfl, fun _ => rfl⟩ ⟨rfl, rfl, fun _ => rfl⟩ ⟨rfl, rfl, fun _ => rfl⟩ rfl (Ans.ext (by kernel_rfl)).lim
set_option maxRecDepth 100000 in
theorem awake0 : Pl.A5 env0 = some true := Pl.A5_of (Ans.ext (by kernel_rfl)).lim
theorem bulk0 {H : Type} : Bulk (Rows.uptoBulk (H := H)) Rows.uptoBulkAll where
  one d := by cases d with
    | lit l => cases l <;> simp [Rows.uptoBulk]
    | _ => simp [Rows.uptoBulk]
  str s := by simp [Rows.uptoBulk]
  sl e s := by simp [Rows.uptoBulk]
  agg l := by simp [Rows.uptoBulk]
  nil := by simp [Rows.uptoBulkAll]
  cons d l := by simp [Rows.uptoBulkAll]
end Go.Proofs.YtcggaaheaahinaaDoor.Mach
