/- CiWb: steps, walks, laws: see the remarks within. -/
import Derived.Test.YtlhfndoldaokhaaDoorCiWa
set_option linter.unusedSimpArgs false
set_option linter.unusedVariables false
-- The walker's walk, each kind of core by itself.
namespace Cps
open Go Ab Go.Proofs.YtlhfndoldaokhaaDoor.Mach
variable {E : Env}

set_option maxHeartbeats 4000000 in
theorem walk_k1 (HH : HasW E) (s0 s1 s2 s3 n : Int) (l : List Co) : WalkOk E (.mk 1 s0 s1 s2 s3 n l) := by
  refine walk_of fun v hv hg wi li tw tl L a hL h U S => ?_
  obtain ⟨vk, vb, vl⟩ := v
  rw [eCm, eVm]
  refine HH.walk.limE (Nat.le_of_ble_eq_true rfl) (by simp; with_reducible rfl) ?_; unfold c59
  (repeat' first
    | apply X.retS
    | apply X.skipS
    | apply X.skipB
    | apply X.skipL
    | (apply X.exitS; first | apply X.here | (refine X.out (by decide) ?_; apply X.here))
    | apply X.blockS
    | (apply X.condS rfl <;> intro hp <;> first | exact absurd hp (by decide) | ((try rw [hp]); (try simp at hp)))
    | apply X.stepZ
    | (apply X.step; (focus (simp [-getElem?_pos, S.w, S.l, S.at', S.at0, S.sw, S.sl, S.s2, S.len]; with_reducible (first | rfl | exact ⟨rfl, rfl⟩))); (focus (simp; with_reducible rfl)))
    | (apply X.stepN rfl; (focus (simp; with_reducible rfl)))
    | ((first | apply X.stepGt rfl | apply X.stepGf rfl); (focus (simp; with_reducible rfl)); all_goals (intro hp; first | exact absurd hp (by decide) | ((try rw [hp]); (try simp at hp))))
    | (apply X.drawR [59]; (focus rfl))
    | apply XD.nil
    | (apply XD.calm rfl; (focus (simp [-getElem?_pos, S.w, S.l, S.at', S.at0, S.sw, S.sl, S.s2, S.len]; with_reducible (first | rfl | exact ⟨rfl, rfl⟩))); (focus (simp; with_reducible rfl)))
    | (apply XD.call; (focus (simp; with_reducible rfl)); (focus (simp; with_reducible rfl)); (focus (simp [-getElem?_pos, S.w, S.l, S.at', S.at0, S.sw, S.sl, S.s2, S.len]; done)); (focus (simp [-getElem?_pos, S.w, S.l, S.at', S.at0, S.sw, S.sl, S.s2, S.len]; with_reducible rfl)); (focus (simp; with_reducible rfl)))
    | (apply XD.stepN rfl; (focus (simp; with_reducible rfl)))
    | ((first | apply XD.stepGt rfl | apply XD.stepGf rfl); (focus (simp; with_reducible rfl)); all_goals (intro hp; first | exact absurd hp (by decide) | ((try rw [hp]); (try simp at hp))))
    | (apply XD.loud; (focus (simp [-getElem?_pos, S.w, S.l, S.at', S.at0, S.sw, S.sl, S.s2, S.len]; with_reducible (first | rfl | exact ⟨rfl, rfl⟩))); (focus (simp; done)); (focus (simp; with_reducible rfl)); (focus (simp; with_reducible rfl))))
  exact X.skipE rfl ⟨rfl, by rw [walkS_eq]; exact ⟨_, rfl⟩⟩

set_option maxHeartbeats 4000000 in
theorem walk_k2 (HH : HasW E) (s0 s1 s2 s3 n : Int) (l : List Co) : WalkOk E (.mk 2 s0 s1 s2 s3 n l) := by
  refine walk_of fun v hv hg wi li tw tl L a hL h U S => ?_
  obtain ⟨vk, vb, vl⟩ := v
  rw [eCm, eVm]
  refine HH.walk.limE (Nat.le_of_ble_eq_true rfl) (by simp; with_reducible rfl) ?_; unfold c59
  (repeat' first
    | apply X.retS
    | apply X.skipS
    | apply X.skipB
    | apply X.skipL
    | (apply X.exitS; first | apply X.here | (refine X.out (by decide) ?_; apply X.here))
    | apply X.blockS
    | (apply X.condS rfl <;> intro hp <;> first | exact absurd hp (by decide) | ((try rw [hp]); (try simp at hp)))
    | apply X.stepZ
    | (apply X.step; (focus (simp [-getElem?_pos, S.w, S.l, S.at', S.at0, S.sw, S.sl, S.s2, S.len]; with_reducible (first | rfl | exact ⟨rfl, rfl⟩))); (focus (simp; with_reducible rfl)))
    | (apply X.stepN rfl; (focus (simp; with_reducible rfl)))
    | ((first | apply X.stepGt rfl | apply X.stepGf rfl); (focus (simp; with_reducible rfl)); all_goals (intro hp; first | exact absurd hp (by decide) | ((try rw [hp]); (try simp at hp))))
    | (apply X.drawR [59]; (focus rfl))
    | apply XD.nil
    | (apply XD.calm rfl; (focus (simp [-getElem?_pos, S.w, S.l, S.at', S.at0, S.sw, S.sl, S.s2, S.len]; with_reducible (first | rfl | exact ⟨rfl, rfl⟩))); (focus (simp; with_reducible rfl)))
    | (apply XD.call; (focus (simp; with_reducible rfl)); (focus (simp; with_reducible rfl)); (focus (simp [-getElem?_pos, S.w, S.l, S.at', S.at0, S.sw, S.sl, S.s2, S.len]; done)); (focus (simp [-getElem?_pos, S.w, S.l, S.at', S.at0, S.sw, S.sl, S.s2, S.len]; with_reducible rfl)); (focus (simp; with_reducible rfl)))
    | (apply XD.stepN rfl; (focus (simp; with_reducible rfl)))
    | ((first | apply XD.stepGt rfl | apply XD.stepGf rfl); (focus (simp; with_reducible rfl)); all_goals (intro hp; first | exact absurd hp (by decide) | ((try rw [hp]); (try simp at hp))))
    | (apply XD.loud; (focus (simp [-getElem?_pos, S.w, S.l, S.at', S.at0, S.sw, S.sl, S.s2, S.len]; with_reducible (first | rfl | exact ⟨rfl, rfl⟩))); (focus (simp; done)); (focus (simp; with_reducible rfl)); (focus (simp; with_reducible rfl))))
  exact X.skipE rfl ⟨rfl, by rw [walkS_eq]; exact ⟨_, rfl⟩⟩

set_option maxHeartbeats 4000000 in
theorem walk_k3 (HH : HasW E) (s0 s1 s2 s3 n : Int) (ca cb : Co) (h1 : WalkOk E ca) (h2 : WalkOk E cb) : WalkOk E (.mk 3 s0 s1 s2 s3 n [ca, cb]) := by
  refine walk_of fun v hv hg wi li tw tl L a hL h U S => ?_
  obtain ⟨vk, vb, vl⟩ := v
  have hgc := gv_cases _ _ hg
  simp [Co.k, Co.l, Va.k, Va.l] at hgc
  obtain ⟨x, y, rfl, g1, g2⟩ := hgc
  obtain ⟨_, _, hv2⟩ := fineV hv
  simp only [Va.l] at hv2
  have hvx := hv2 x (by simp)
  have hvy := hv2 y (by simp)
  simp only [gvS.gvAt] at g1 g2
  have hL2 : (walkS ca x (L, a)).1.length = L.length := walk_len _ _ _
  rw [eCm, eVm]
  simp only [List.map_cons, List.map_nil]
  refine HH.walk.limE (Nat.le_of_ble_eq_true rfl) (by simp; with_reducible rfl) ?_; unfold c59
  (repeat' first
    | apply X.retS
    | apply X.skipS
    | apply X.skipB
    | apply X.skipL
    | (apply X.exitS; first | apply X.here | (refine X.out (by decide) ?_; apply X.here))
    | apply X.blockS
    | (apply X.condS rfl <;> intro hp <;> first | exact absurd hp (by decide) | ((try rw [hp]); (try simp at hp)))
    | apply X.stepZ
    | (apply X.step; (focus (simp [-getElem?_pos, S.w, S.l, S.at', S.at0, S.sw, S.sl, S.s2, S.len, eC, eV]; with_reducible (first | rfl | exact ⟨rfl, rfl⟩))); (focus (simp; with_reducible rfl)))
    | (apply X.stepN rfl; (focus (simp; with_reducible rfl)))
    | ((first | apply X.stepGt rfl | apply X.stepGf rfl); (focus (simp; with_reducible rfl)); all_goals (intro hp; first | exact absurd hp (by decide) | ((try rw [hp]); (try simp at hp))))
    | (apply X.drawR [59]; (focus rfl))
    | apply XD.nil
    | (apply XD.calm rfl; (focus (simp [-getElem?_pos, S.w, S.l, S.at', S.at0, S.sw, S.sl, S.s2, S.len, eC, eV]; with_reducible (first | rfl | exact ⟨rfl, rfl⟩))); (focus (simp; with_reducible rfl)))
    | (apply XD.call; (focus (simp; with_reducible rfl)); (focus (simp; with_reducible rfl)); (focus (simp [-getElem?_pos, S.w, S.l, S.at', S.at0, S.sw, S.sl, S.s2, S.len, eC, eV]; done)); (focus (simp [-getElem?_pos, S.w, S.l, S.at', S.at0, S.sw, S.sl, S.s2, S.len, eC, eV]; with_reducible rfl)); (focus (simp; with_reducible rfl)))
    | (apply XD.stepN rfl; (focus (simp; with_reducible rfl)))
    | ((first | apply XD.stepGt rfl | apply XD.stepGf rfl); (focus (simp; with_reducible rfl)); all_goals (intro hp; first | exact absurd hp (by decide) | ((try rw [hp]); (try simp at hp))))
    | (apply XD.loud; (focus (simp [-getElem?_pos, S.w, S.l, S.at', S.at0, S.sw, S.sl, S.s2, S.len, eC, eV]; with_reducible (first | rfl | exact ⟨rfl, rfl⟩))); (focus (simp; done)); (focus (simp; with_reducible rfl)); (focus (simp; with_reducible rfl))))
  refine callD S rfl (by simp; with_reducible rfl) HH.walk.raw (by simp [pures]) (by simp) (fun h hW => by have := h1 x hvx g1 wi li tw tl L a hL h hW; rwa [eC ca, eV x] at this) fun g => ?_
  (repeat' first
    | apply X.retS
    | apply X.skipS
    | apply X.skipB
    | apply X.skipL
    | (apply X.exitS; first | apply X.here | (refine X.out (by decide) ?_; apply X.here))
    | apply X.blockS
    | (apply X.condS rfl <;> intro hp <;> first | exact absurd hp (by decide) | ((try rw [hp]); (try simp at hp)))
    | apply X.stepZ
    | (apply X.step; (focus (simp [-getElem?_pos, S.w, S.l, S.at', S.at0, S.sw, S.sl, S.s2, S.len, eC, eV]; with_reducible (first | rfl | exact ⟨rfl, rfl⟩))); (focus (simp; with_reducible rfl)))
    | (apply X.stepN rfl; (focus (simp; with_reducible rfl)))
    | ((first | apply X.stepGt rfl | apply X.stepGf rfl); (focus (simp; with_reducible rfl)); all_goals (intro hp; first | exact absurd hp (by decide) | ((try rw [hp]); (try simp at hp))))
    | (apply X.drawR [59]; (focus rfl))
    | apply XD.nil
    | (apply XD.calm rfl; (focus (simp [-getElem?_pos, S.w, S.l, S.at', S.at0, S.sw, S.sl, S.s2, S.len, eC, eV]; with_reducible (first | rfl | exact ⟨rfl, rfl⟩))); (focus (simp; with_reducible rfl)))
    | (apply XD.call; (focus (simp; with_reducible rfl)); (focus (simp; with_reducible rfl)); (focus (simp [-getElem?_pos, S.w, S.l, S.at', S.at0, S.sw, S.sl, S.s2, S.len, eC, eV]; done)); (focus (simp [-getElem?_pos, S.w, S.l, S.at', S.at0, S.sw, S.sl, S.s2, S.len, eC, eV]; with_reducible rfl)); (focus (simp; with_reducible rfl)))
    | (apply XD.stepN rfl; (focus (simp; with_reducible rfl)))
    | ((first | apply XD.stepGt rfl | apply XD.stepGf rfl); (focus (simp; with_reducible rfl)); all_goals (intro hp; first | exact absurd hp (by decide) | ((try rw [hp]); (try simp at hp))))
    | (apply XD.loud; (focus (simp [-getElem?_pos, S.w, S.l, S.at', S.at0, S.sw, S.sl, S.s2, S.len, eC, eV]; with_reducible (first | rfl | exact ⟨rfl, rfl⟩))); (focus (simp; done)); (focus (simp; with_reducible rfl)); (focus (simp; with_reducible rfl))))
  refine callD S hL2 (by simp; with_reducible rfl) HH.walk.raw (by simp [pures]) (by simp) (fun h hW => by have := h2 y hvy g2 wi li tw tl _ _ (by rw [hL2]; exact hL) h hW; rwa [eC cb, eV y] at this) fun g => ?_
  (repeat' first
    | apply X.retS
    | apply X.skipS
    | apply X.skipB
    | apply X.skipL
    | (apply X.exitS; first | apply X.here | (refine X.out (by decide) ?_; apply X.here))
    | apply X.blockS
    | (apply X.condS rfl <;> intro hp <;> first | exact absurd hp (by decide) | ((try rw [hp]); (try simp at hp)))
    | apply X.stepZ
    | (apply X.step; (focus (simp [-getElem?_pos, S.w, S.l, S.at', S.at0, S.sw, S.sl, S.s2, S.len, eC, eV]; with_reducible (first | rfl | exact ⟨rfl, rfl⟩))); (focus (simp; with_reducible rfl)))
    | (apply X.stepN rfl; (focus (simp; with_reducible rfl)))
    | ((first | apply X.stepGt rfl | apply X.stepGf rfl); (focus (simp; with_reducible rfl)); all_goals (intro hp; first | exact absurd hp (by decide) | ((try rw [hp]); (try simp at hp))))
    | (apply X.drawR [59]; (focus rfl))
    | apply XD.nil
    | (apply XD.calm rfl; (focus (simp [-getElem?_pos, S.w, S.l, S.at', S.at0, S.sw, S.sl, S.s2, S.len, eC, eV]; with_reducible (first | rfl | exact ⟨rfl, rfl⟩))); (focus (simp; with_reducible rfl)))
    | (apply XD.call; (focus (simp; with_reducible rfl)); (focus (simp; with_reducible rfl)); (focus (simp [-getElem?_pos, S.w, S.l, S.at', S.at0, S.sw, S.sl, S.s2, S.len, eC, eV]; done)); (focus (simp [-getElem?_pos, S.w, S.l, S.at', S.at0, S.sw, S.sl, S.s2, S.len, eC, eV]; with_reducible rfl)); (focus (simp; with_reducible rfl)))
    | (apply XD.stepN rfl; (focus (simp; with_reducible rfl)))
    | ((first | apply XD.stepGt rfl | apply XD.stepGf rfl); (focus (simp; with_reducible rfl)); all_goals (intro hp; first | exact absurd hp (by decide) | ((try rw [hp]); (try simp at hp))))
    | (apply XD.loud; (focus (simp [-getElem?_pos, S.w, S.l, S.at', S.at0, S.sw, S.sl, S.s2, S.len, eC, eV]; with_reducible (first | rfl | exact ⟨rfl, rfl⟩))); (focus (simp; done)); (focus (simp; with_reducible rfl)); (focus (simp; with_reducible rfl))))
  exact X.skipE rfl ⟨rfl, by rw [walkS_eq]; exact ⟨_, rfl⟩⟩

set_option maxHeartbeats 4000000 in
theorem walk_k44 (HH : HasW E) (s0 s1 s2 s3 n : Int) (ca cb : Co) (h1 : WalkOk E ca) (x : Va) (vb : Int) (hvx : FineV x) (g1 : gvS ca x = true) (wi li : Nat) (tw tl : Option TypeId) (L : List Sp) (a : Int) (hL : L.length ≤ 1000) (h : Heap) (U : List Sp → Int → Heap) (S : Us h wi li L.length tw tl U) :
    ∃ v' h', limR E 59 [.ptr wi 0, .pv (encC (.mk 4 s0 s1 s2 s3 n [ca, cb])), .pv (encV (.mk 4 vb [x]))] (U L a ++ []) = some (v', h') ∧ v' = .tup [] ∧ ∃ g, h' = U (walkS ca x (L, a)).1 (walkS ca x (L, a)).2 ++ g := by
  have hw0 : IntKind.i64.wrap 0 = 0 := wrap_i64 (by omega)
  rw [eCm, eVm]
  simp only [List.map_cons, List.map_nil]
  refine HH.walk.limE (Nat.le_of_ble_eq_true rfl) (by simp; with_reducible rfl) ?_; unfold c59
  (repeat' first
    | apply X.retS
    | apply X.skipS
    | apply X.skipB
    | apply X.skipL
    | (apply X.exitS; first | apply X.here | (refine X.out (by decide) ?_; apply X.here))
    | apply X.blockS
    | (apply X.condS rfl <;> intro hp <;> first | exact absurd hp (by decide) | ((try rw [hp]); (try simp at hp)))
    | apply X.stepZ
    | (apply X.step; (focus (simp [-getElem?_pos, S.w, S.l, S.at', S.at0, S.sw, S.sl, S.s2, S.len, eC, eV, hw0]; with_reducible (first | rfl | exact ⟨rfl, rfl⟩))); (focus (simp; with_reducible rfl)))
    | (apply X.stepN rfl; (focus (simp; with_reducible rfl)))
    | ((first | apply X.stepGt rfl | apply X.stepGf rfl); (focus (simp; with_reducible rfl)); all_goals (intro hp; first | exact absurd hp (by decide) | ((try rw [hp]); (try simp at hp))))
    | (apply X.drawR [59]; (focus rfl))
    | apply XD.nil
    | (apply XD.calm rfl; (focus (simp [-getElem?_pos, S.w, S.l, S.at', S.at0, S.sw, S.sl, S.s2, S.len, eC, eV, hw0]; with_reducible (first | rfl | exact ⟨rfl, rfl⟩))); (focus (simp; with_reducible rfl)))
    | (apply XD.call; (focus (simp; with_reducible rfl)); (focus (simp; with_reducible rfl)); (focus (simp [-getElem?_pos, S.w, S.l, S.at', S.at0, S.sw, S.sl, S.s2, S.len, eC, eV, hw0]; done)); (focus (simp [-getElem?_pos, S.w, S.l, S.at', S.at0, S.sw, S.sl, S.s2, S.len, eC, eV, hw0]; with_reducible rfl)); (focus (simp; with_reducible rfl)))
    | (apply XD.stepN rfl; (focus (simp; with_reducible rfl)))
    | ((first | apply XD.stepGt rfl | apply XD.stepGf rfl); (focus (simp; with_reducible rfl)); all_goals (intro hp; first | exact absurd hp (by decide) | ((try rw [hp]); (try simp at hp))))
    | (apply XD.loud; (focus (simp [-getElem?_pos, S.w, S.l, S.at', S.at0, S.sw, S.sl, S.s2, S.len, eC, eV, hw0]; with_reducible (first | rfl | exact ⟨rfl, rfl⟩))); (focus (simp; done)); (focus (simp; with_reducible rfl)); (focus (simp; with_reducible rfl))))
  refine callD S rfl (by simp; with_reducible rfl) HH.walk.raw (by simp [pures]) (by simp) (fun h hW => by have := h1 x hvx g1 wi li tw tl L a hL h hW; rwa [eC ca, eV x] at this) fun g => ?_
  (repeat' first
    | apply X.retS
    | apply X.skipS
    | apply X.skipB
    | apply X.skipL
    | (apply X.exitS; first | apply X.here | (refine X.out (by decide) ?_; apply X.here))
    | apply X.blockS
    | (apply X.condS rfl <;> intro hp <;> first | exact absurd hp (by decide) | ((try rw [hp]); (try simp at hp)))
    | apply X.stepZ
    | (apply X.step; (focus (simp [-getElem?_pos, S.w, S.l, S.at', S.at0, S.sw, S.sl, S.s2, S.len, eC, eV]; with_reducible (first | rfl | exact ⟨rfl, rfl⟩))); (focus (simp; with_reducible rfl)))
    | (apply X.stepN rfl; (focus (simp; with_reducible rfl)))
    | ((first | apply X.stepGt rfl | apply X.stepGf rfl); (focus (simp; with_reducible rfl)); all_goals (intro hp; first | exact absurd hp (by decide) | ((try rw [hp]); (try simp at hp))))
    | (apply X.drawR [59]; (focus rfl))
    | apply XD.nil
    | (apply XD.calm rfl; (focus (simp [-getElem?_pos, S.w, S.l, S.at', S.at0, S.sw, S.sl, S.s2, S.len, eC, eV]; with_reducible (first | rfl | exact ⟨rfl, rfl⟩))); (focus (simp; with_reducible rfl)))
    | (apply XD.call; (focus (simp; with_reducible rfl)); (focus (simp; with_reducible rfl)); (focus (simp [-getElem?_pos, S.w, S.l, S.at', S.at0, S.sw, S.sl, S.s2, S.len, eC, eV]; done)); (focus (simp [-getElem?_pos, S.w, S.l, S.at', S.at0, S.sw, S.sl, S.s2, S.len, eC, eV]; with_reducible rfl)); (focus (simp; with_reducible rfl)))
    | (apply XD.stepN rfl; (focus (simp; with_reducible rfl)))
    | ((first | apply XD.stepGt rfl | apply XD.stepGf rfl); (focus (simp; with_reducible rfl)); all_goals (intro hp; first | exact absurd hp (by decide) | ((try rw [hp]); (try simp at hp))))
    | (apply XD.loud; (focus (simp [-getElem?_pos, S.w, S.l, S.at', S.at0, S.sw, S.sl, S.s2, S.len, eC, eV]; with_reducible (first | rfl | exact ⟨rfl, rfl⟩))); (focus (simp; done)); (focus (simp; with_reducible rfl)); (focus (simp; with_reducible rfl))))
  exact X.skipE rfl ⟨rfl, _, rfl⟩

set_option maxHeartbeats 4000000 in
theorem walk_k45 (HH : HasW E) (s0 s1 s2 s3 n : Int) (ca cb : Co) (h1 : WalkOk E cb) (x : Va) (vb : Int) (hvx : FineV x) (g1 : gvS cb x = true) (wi li : Nat) (tw tl : Option TypeId) (L : List Sp) (a : Int) (hL : L.length ≤ 1000) (h : Heap) (U : List Sp → Int → Heap) (S : Us h wi li L.length tw tl U) :
    ∃ v' h', limR E 59 [.ptr wi 0, .pv (encC (.mk 4 s0 s1 s2 s3 n [ca, cb])), .pv (encV (.mk 5 vb [x]))] (U L a ++ []) = some (v', h') ∧ v' = .tup [] ∧ ∃ g, h' = U (walkS cb x (L, a)).1 (walkS cb x (L, a)).2 ++ g := by
  have hw0 : IntKind.i64.wrap 1 = 1 := wrap_i64 (by omega)
  rw [eCm, eVm]
  simp only [List.map_cons, List.map_nil]
  refine HH.walk.limE (Nat.le_of_ble_eq_true rfl) (by simp; with_reducible rfl) ?_; unfold c59
  (repeat' first
    | apply X.retS
    | apply X.skipS
    | apply X.skipB
    | apply X.skipL
    | (apply X.exitS; first | apply X.here | (refine X.out (by decide) ?_; apply X.here))
    | apply X.blockS
    | (apply X.condS rfl <;> intro hp <;> first | exact absurd hp (by decide) | ((try rw [hp]); (try simp at hp)))
    | apply X.stepZ
    | (apply X.step; (focus (simp [-getElem?_pos, S.w, S.l, S.at', S.at0, S.sw, S.sl, S.s2, S.len, eC, eV, hw0]; with_reducible (first | rfl | exact ⟨rfl, rfl⟩))); (focus (simp; with_reducible rfl)))
    | (apply X.stepN rfl; (focus (simp; with_reducible rfl)))
    | ((first | apply X.stepGt rfl | apply X.stepGf rfl); (focus (simp; with_reducible rfl)); all_goals (intro hp; first | exact absurd hp (by decide) | ((try rw [hp]); (try simp at hp))))
    | (apply X.drawR [59]; (focus rfl))
    | apply XD.nil
    | (apply XD.calm rfl; (focus (simp [-getElem?_pos, S.w, S.l, S.at', S.at0, S.sw, S.sl, S.s2, S.len, eC, eV, hw0]; with_reducible (first | rfl | exact ⟨rfl, rfl⟩))); (focus (simp; with_reducible rfl)))
    | (apply XD.call; (focus (simp; with_reducible rfl)); (focus (simp; with_reducible rfl)); (focus (simp [-getElem?_pos, S.w, S.l, S.at', S.at0, S.sw, S.sl, S.s2, S.len, eC, eV, hw0]; done)); (focus (simp [-getElem?_pos, S.w, S.l, S.at', S.at0, S.sw, S.sl, S.s2, S.len, eC, eV, hw0]; with_reducible rfl)); (focus (simp; with_reducible rfl)))
    | (apply XD.stepN rfl; (focus (simp; with_reducible rfl)))
    | ((first | apply XD.stepGt rfl | apply XD.stepGf rfl); (focus (simp; with_reducible rfl)); all_goals (intro hp; first | exact absurd hp (by decide) | ((try rw [hp]); (try simp at hp))))
    | (apply XD.loud; (focus (simp [-getElem?_pos, S.w, S.l, S.at', S.at0, S.sw, S.sl, S.s2, S.len, eC, eV, hw0]; with_reducible (first | rfl | exact ⟨rfl, rfl⟩))); (focus (simp; done)); (focus (simp; with_reducible rfl)); (focus (simp; with_reducible rfl))))
  refine callD S rfl (by simp; with_reducible rfl) HH.walk.raw (by simp [pures]) (by simp) (fun h hW => by have := h1 x hvx g1 wi li tw tl L a hL h hW; rwa [eC cb, eV x] at this) fun g => ?_
  (repeat' first
    | apply X.retS
    | apply X.skipS
    | apply X.skipB
    | apply X.skipL
    | (apply X.exitS; first | apply X.here | (refine X.out (by decide) ?_; apply X.here))
    | apply X.blockS
    | (apply X.condS rfl <;> intro hp <;> first | exact absurd hp (by decide) | ((try rw [hp]); (try simp at hp)))
    | apply X.stepZ
    | (apply X.step; (focus (simp [-getElem?_pos, S.w, S.l, S.at', S.at0, S.sw, S.sl, S.s2, S.len, eC, eV]; with_reducible (first | rfl | exact ⟨rfl, rfl⟩))); (focus (simp; with_reducible rfl)))
    | (apply X.stepN rfl; (focus (simp; with_reducible rfl)))
    | ((first | apply X.stepGt rfl | apply X.stepGf rfl); (focus (simp; with_reducible rfl)); all_goals (intro hp; first | exact absurd hp (by decide) | ((try rw [hp]); (try simp at hp))))
    | (apply X.drawR [59]; (focus rfl))
    | apply XD.nil
    | (apply XD.calm rfl; (focus (simp [-getElem?_pos, S.w, S.l, S.at', S.at0, S.sw, S.sl, S.s2, S.len, eC, eV]; with_reducible (first | rfl | exact ⟨rfl, rfl⟩))); (focus (simp; with_reducible rfl)))
    | (apply XD.call; (focus (simp; with_reducible rfl)); (focus (simp; with_reducible rfl)); (focus (simp [-getElem?_pos, S.w, S.l, S.at', S.at0, S.sw, S.sl, S.s2, S.len, eC, eV]; done)); (focus (simp [-getElem?_pos, S.w, S.l, S.at', S.at0, S.sw, S.sl, S.s2, S.len, eC, eV]; with_reducible rfl)); (focus (simp; with_reducible rfl)))
    | (apply XD.stepN rfl; (focus (simp; with_reducible rfl)))
    | ((first | apply XD.stepGt rfl | apply XD.stepGf rfl); (focus (simp; with_reducible rfl)); all_goals (intro hp; first | exact absurd hp (by decide) | ((try rw [hp]); (try simp at hp))))
    | (apply XD.loud; (focus (simp [-getElem?_pos, S.w, S.l, S.at', S.at0, S.sw, S.sl, S.s2, S.len, eC, eV]; with_reducible (first | rfl | exact ⟨rfl, rfl⟩))); (focus (simp; done)); (focus (simp; with_reducible rfl)); (focus (simp; with_reducible rfl))))
  exact X.skipE rfl ⟨rfl, _, rfl⟩

theorem walk_k4 (HH : HasW E) (s0 s1 s2 s3 n : Int) (ca cb : Co) (h1 : WalkOk E ca) (h2 : WalkOk E cb) : WalkOk E (.mk 4 s0 s1 s2 s3 n [ca, cb]) := by
  refine walk_of fun v hv hg wi li tw tl L a hL h U S => ?_
  obtain ⟨vk, vb, vl⟩ := v
  have hgc := gv_cases _ _ hg
  simp [Co.k, Co.l, Va.k, Va.l] at hgc
  obtain ⟨x, rfl, hh⟩ := hgc
  obtain ⟨_, _, hv2⟩ := fineV hv
  simp only [Va.l] at hv2
  have hvx := hv2 x (by simp)
  rcases hh with ⟨rfl, g1⟩ | ⟨rfl, g1⟩ <;> simp only [gvS.gvAt] at g1
  · exact walk_k44 HH s0 s1 s2 s3 n ca cb h1 x vb hvx g1 wi li tw tl L a hL h U S
  · exact walk_k45 HH s0 s1 s2 s3 n ca cb h2 x vb hvx g1 wi li tw tl L a hL h U S

end Cps
