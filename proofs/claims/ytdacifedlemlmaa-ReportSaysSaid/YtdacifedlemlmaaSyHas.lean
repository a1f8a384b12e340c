/- The law's functions, as the seat has them; what is known ahead. -/
import Derived.Test.YtdacifedlemlmaaSyK1
import Derived.Test.YtdacifedlemlmaaSyO
import Derived.Test.YtdacifedlemlmaaSyR
set_option linter.unusedSimpArgs false
set_option linter.unusedVariables false
namespace Go.Proofs.Ytdacifedlemlmaa.Mach
open Go Ab
set_option maxRecDepth 100000 in
def known0 : List (FuncId × List PV × List PV) := [(12, a1, r1)]
set_option maxRecDepth 100000 in
theorem knows0 : Knows Try.prog known0 := (.cons k1 Ab.Knows.nil)
noncomputable def env0 : Ab.Env := { env with ext := orExt (memo known0) env.ext }
set_option maxRecDepth 100000 in
theorem table0 : Ab.Table Try.prog mu env0 := table.orMemo knows0
set_option maxRecDepth 100000 in
theorem put0 : Rp.HasPut env0 where
  p := { put := ⟨rfl, rfl, fun _ => rfl⟩, putv := ⟨rfl, rfl, fun _ => rfl⟩, bytes := ⟨rfl, rfl, fun _ => rfl⟩, bits := ⟨rfl, rfl, fun _ => rfl⟩, isnan := ⟨rfl, rfl, fun _ => rfl⟩, rfb := rfl, fb := fun _ => (Ans.ext rfl).lim }
  g := { good := ⟨rfl, rfl, fun _ => rfl⟩, between := ⟨rfl, rfl, fun _ => rfl⟩, spans := ⟨rfl, rfl, fun _ => rfl⟩, shaped := ⟨rfl, rfl, fun _ => rfl⟩, many := ⟨rfl, rfl, fun _ => rfl⟩, same := ⟨rfl, rfl, fun _ => rfl⟩, eq := ⟨rfl, rfl, fun _ => rfl⟩, isnan := ⟨rfl, rfl, fun _ => rfl⟩ }
  rg := rfl
set_option maxRecDepth 100000 in
theorem get0 : Rp.HasGt env0 where
  w := { u := { t := { take := ⟨rfl, rfl, fun _ => rfl⟩ }, spans := ⟨rfl, rfl, fun _ => rfl⟩ }, many := ⟨rfl, rfl, fun _ => rfl⟩, value := ⟨rfl, rfl, fun _ => rfl⟩ }
  o := { p := put0.p, eq := ⟨rfl, rfl, fun _ => rfl⟩, of := ⟨rfl, rfl, fun _ => rfl⟩, rff := rfl, ff := fun _ => (Ans.ext rfl).lim }
  u := put0
  rput := rfl
  nan := ⟨rfl, rfl, fun _ => rfl⟩
  get := ⟨rfl, rfl, fun _ => rfl⟩
  putc := ⟨rfl, rfl, fun _ => rfl⟩
set_option maxRecDepth 100000 in
theorem sa0 : Rp.HasSa env0 := { same := ⟨rfl, rfl, fun _ => rfl⟩, spans := ⟨rfl, rfl, fun _ => rfl⟩, value := ⟨rfl, rfl, fun _ => rfl⟩, rfb := rfl, fb := put0.p.fb }
set_option maxRecDepth 100000 in
theorem ro0 : Rp.HasRo env0 := { g := get0, nan := ⟨rfl, rfl, fun _ => rfl⟩, of := ⟨rfl, rfl, fun _ => rfl⟩, bytes := ⟨rfl, rfl, fun _ => rfl⟩ }
set_option maxRecDepth 100000 in
theorem gr0 : Rp.HasGr env0 := { o := ro0, size := ⟨rfl, rfl, fun _ => rfl⟩, dep := ⟨rfl, rfl, fun _ => rfl⟩, form := ⟨rfl, rfl, fun _ => rfl⟩, good := ⟨rfl, rfl, fun _ => rfl⟩ }
set_option maxRecDepth 100000 in
theorem pr0 : Rp.HasPr env0 := { w := { g := gr0, four := ⟨rfl, rfl, fun _ => rfl⟩, putv := ⟨rfl, rfl, fun _ => rfl⟩ }, put := ⟨rfl, rfl, fun _ => rfl⟩ }
set_option maxRecDepth 100000 in
theorem rg0 : Rp.HasRg env0 := { p := pr0, v := { o := { one := ⟨rfl, rfl, fun _ => rfl⟩, four := ⟨rfl, rfl, fun _ => rfl⟩ }, value := ⟨rfl, rfl, fun _ => rfl⟩ }, get := ⟨rfl, rfl, fun _ => rfl⟩ }
set_option maxRecDepth 100000 in
theorem has0 : Rp.HasSy env0 where
  b := get0
  sa := sa0
  rg := rg0
  law := ⟨rfl, rfl, fun _ => rfl⟩
  rawake := rfl
  awake := (Ans.ext (by kernel_rfl)).lim
  wide := ⟨rfl, rfl, fun _ => rfl⟩
  rof := ⟨rfl, rfl, fun _ => rfl⟩
  vof := ⟨rfl, rfl, fun _ => rfl⟩
end Go.Proofs.Ytdacifedlemlmaa.Mach
