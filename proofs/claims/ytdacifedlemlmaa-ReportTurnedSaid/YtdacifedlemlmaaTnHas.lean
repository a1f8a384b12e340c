/- The law's functions, as the seat has them; what is known ahead. -/
import Derived.Test.YtdacifedlemlmaaTnK1
import Derived.Test.YtdacifedlemlmaaTnG
import Derived.Test.YtdacifedlemlmaaTnR
set_option linter.unusedSimpArgs false
set_option linter.unusedVariables false
namespace Go.Proofs.Ytdacifedlemlmaa.Mach
open Go Ab
set_option maxRecDepth 100000 in
def known0 : List (FuncId × List PV × List PV) := [(12, a1, r1)]
set_option maxRecDepth 100000 in
theorem knows0 : Knows Try.prog known0 := (.cons k1 Ab.Knows.nil)
noncomputable def env0 : Ab.Env := { env with ext := orExt (memo known0) env.ext }
set_option maxRecDepth 100000 in
theorem table0 : Ab.Table Try.prog mu env0 := table.orMemo knows0
/-- What report.Get answers is known ahead where the law itself is walked: there report.Put works in its caller's heap. -/
noncomputable def env1 : Ab.Env := { env0 with
  raw := fun f => if f = 28 then true else env0.raw f
  ext := fun f ps => if f = 30 then limP env0 30 ps else env0.ext f ps }
set_option maxRecDepth 100000 in
theorem table1 : Ab.Table Try.prog mu env1 := ⟨table0.func, fun f ps rs h => by
  dsimp only [env1] at h
  split at h
  · rename_i hf
    subst hf
    obtain ⟨m, hm⟩ := Ab.Ans.of_lim h
    exact known table0 hm
  · exact table0.ext f ps rs h, table0.mix, table0.idle⟩
set_option maxRecDepth 100000 in
theorem put0 : Rp.HasPut env0 where
  p := { put := ⟨rfl, rfl, fun _ => rfl⟩, putv := ⟨rfl, rfl, fun _ => rfl⟩, bytes := ⟨rfl, rfl, fun _ => rfl⟩, bits := ⟨rfl, rfl, fun _ => rfl⟩, isnan := ⟨rfl, rfl, fun _ => rfl⟩, rfb := rfl, fb := fun _ => (Ans.ext rfl).lim }
  g := { good := ⟨rfl, rfl, fun _ => rfl⟩, between := ⟨rfl, rfl, fun _ => rfl⟩, spans := ⟨rfl, rfl, fun _ => rfl⟩, shaped := ⟨rfl, rfl, fun _ => rfl⟩, many := ⟨rfl, rfl, fun _ => rfl⟩, same := ⟨rfl, rfl, fun _ => rfl⟩, eq := ⟨rfl, rfl, fun _ => rfl⟩, isnan := ⟨rfl, rfl, fun _ => rfl⟩ }
  rg := rfl
set_option maxRecDepth 100000 in
theorem get0 : Rp.HasGt env0 where
  w := { u := { t := { take := ⟨rfl, rfl, fun _ => rfl⟩ }, spans := ⟨rfl, rfl, fun _ => rfl⟩ }, many := ⟨rfl, rfl, fun _ => rfl⟩, value := ⟨rfl, rfl, fun _ => rfl⟩ }
  o := { p := put0.p, eq := ⟨rfl, rfl, fun _ => rfl⟩, of := ⟨rfl, rfl, fun _ => rfl⟩, rff := rfl, ff := fun _ => (Ans.ext rfl).lim }
  u := put0
  rput := rfl
  nan := ⟨rfl, rfl, fun _ => rfl⟩
  get := ⟨rfl, rfl, fun _ => rfl⟩
  putc := ⟨rfl, rfl, fun _ => rfl⟩
set_option maxRecDepth 100000 in
theorem put1 : Rp.HasPut env1 where
  p := { put := ⟨rfl, rfl, fun _ => rfl⟩, putv := ⟨rfl, rfl, fun _ => rfl⟩, bytes := ⟨rfl, rfl, fun _ => rfl⟩, bits := ⟨rfl, rfl, fun _ => rfl⟩, isnan := ⟨rfl, rfl, fun _ => rfl⟩, rfb := rfl, fb := fun _ => (Ans.ext rfl).lim }
  g := { good := ⟨rfl, rfl, fun _ => rfl⟩, between := ⟨rfl, rfl, fun _ => rfl⟩, spans := ⟨rfl, rfl, fun _ => rfl⟩, shaped := ⟨rfl, rfl, fun _ => rfl⟩, many := ⟨rfl, rfl, fun _ => rfl⟩, same := ⟨rfl, rfl, fun _ => rfl⟩, eq := ⟨rfl, rfl, fun _ => rfl⟩, isnan := ⟨rfl, rfl, fun _ => rfl⟩ }
  rg := rfl
set_option maxRecDepth 100000 in
theorem has0 : Rp.HasTn env1 where
  s := { u := put1, put := ⟨rfl, rfl, fun _ => rfl⟩, eq := ⟨rfl, rfl, fun _ => rfl⟩, same := ⟨rfl, rfl, fun _ => rfl⟩ }
  law := ⟨rfl, rfl, fun _ => rfl⟩
  rawake := rfl
  awake := (Ans.ext (by kernel_rfl)).lim
  wide := ⟨rfl, rfl, fun _ => rfl⟩
  rget := rfl
  get := fun bs hb => (Ans.ext (by
    have h := Rp.get_ok get0 bs hb
    exact h)).lim
end Go.Proofs.Ytdacifedlemlmaa.Mach
