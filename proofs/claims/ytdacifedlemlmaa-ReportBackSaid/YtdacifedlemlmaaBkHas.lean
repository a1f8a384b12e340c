/- The law's functions, as the seat has them; what is known ahead. -/
import Derived.Test.YtdacifedlemlmaaBkK1
import Derived.Test.YtdacifedlemlmaaBkJ
import Derived.Test.YtdacifedlemlmaaBkR
set_option linter.unusedSimpArgs false
set_option linter.unusedVariables false
namespace Go.Proofs.Ytdacifedlemlmaa.Mach
open Go Ab
set_option maxRecDepth 100000 in
def known0 : List (FuncId × List PV × List PV) := [(12, a1, r1)]
set_option maxRecDepth 100000 in
theorem knows0 : Knows Try.prog known0 := (.cons k1 Ab.Knows.nil)
noncomputable def env0 : Ab.Env := { env with ext := orExt (memo known0) env.ext }
set_option maxRecDepth 100000 in
theorem table0 : Ab.Table Try.prog mu env0 := table.orMemo knows0
set_option maxRecDepth 100000 in
theorem put0 : Rp.HasPut env0 where
  p := { put := ⟨rfl, rfl, fun _ => rfl⟩, putv := ⟨rfl, rfl, fun _ => rfl⟩, bytes := ⟨rfl, rfl, fun _ => rfl⟩, bits := ⟨rfl, rfl, fun _ => rfl⟩, isnan := ⟨rfl, rfl, fun _ => rfl⟩, rfb := rfl, fb := fun _ => (Ans.ext rfl).lim }
  g := { good := ⟨rfl, rfl, fun _ => rfl⟩, between := ⟨rfl, rfl, fun _ => rfl⟩, spans := ⟨rfl, rfl, fun _ => rfl⟩, shaped := ⟨rfl, rfl, fun _ => rfl⟩, many := ⟨rfl, rfl, fun _ => rfl⟩, same := ⟨rfl, rfl, fun _ => rfl⟩, eq := ⟨rfl, rfl, fun _ => rfl⟩, isnan := ⟨rfl, rfl, fun _ => rfl⟩ }
  rg := rfl
set_option maxRecDepth 100000 in
theorem get0 : Rp.HasGt env0 where
  w := { u := { t := { take := ⟨rfl, rfl, fun _ => rfl⟩ }, spans := ⟨rfl, rfl, fun _ => rfl⟩ }, many := ⟨rfl, rfl, fun _ => rfl⟩, value := ⟨rfl, rfl, fun _ => rfl⟩ }
  o := { p := put0.p, eq := ⟨rfl, rfl, fun _ => rfl⟩, of := ⟨rfl, rfl, fun _ => rfl⟩, rff := rfl, ff := fun _ => (Ans.ext rfl).lim }
  u := put0
  rput := rfl
  nan := ⟨rfl, rfl, fun _ => rfl⟩
  get := ⟨rfl, rfl, fun _ => rfl⟩
  putc := ⟨rfl, rfl, fun _ => rfl⟩
set_option maxRecDepth 100000 in
theorem has0 : Rp.HasBk env0 where
  g := get0
  sa := { same := ⟨rfl, rfl, fun _ => rfl⟩, spans := ⟨rfl, rfl, fun _ => rfl⟩, value := ⟨rfl, rfl, fun _ => rfl⟩, rfb := rfl, fb := put0.p.fb }
  law := ⟨rfl, rfl, fun _ => rfl⟩
  rawake := rfl
  awake := (Ans.ext (by kernel_rfl)).lim
  wide := ⟨rfl, rfl, fun _ => rfl⟩
  rsame := ⟨rfl, rfl, fun _ => rfl⟩
  rof := ⟨rfl, rfl, fun _ => rfl⟩
  vof := ⟨rfl, rfl, fun _ => rfl⟩
end Go.Proofs.Ytdacifedlemlmaa.Mach
