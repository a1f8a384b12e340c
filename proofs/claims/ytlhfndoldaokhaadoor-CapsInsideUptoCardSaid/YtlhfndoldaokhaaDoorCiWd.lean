/- CiWd: steps, walks, laws: see the remarks within. -/
import Derived.Test.YtlhfndoldaokhaaDoorCiWb
set_option linter.unusedSimpArgs false
set_option linter.unusedVariables false
-- The walker's walk: groups, what is said anew, as often as one likes.
namespace Cps
open Go Ab Go.Proofs.YtlhfndoldaokhaaDoor.Mach
variable {E : Env}

set_option maxHeartbeats 4000000 in
theorem walk_k6 (HH : HasW E) (s0 s1 s2 s3 n : Int) (ca : Co) (hn : 1 ≤ n) (h1 : WalkOk E ca) : WalkOk E (.mk 6 s0 s1 s2 s3 n [ca]) := by
  refine walk_of fun v hv hg wi li tw tl L a hL h U S => ?_
  obtain ⟨vk, vb, vl⟩ := v
  have hgc := gv_cases _ _ hg
  simp [Co.k, Co.l, Va.k, Va.l] at hgc
  obtain ⟨x, rfl, g1⟩ := hgc
  obtain ⟨_, _, hv2⟩ := fineV hv
  simp only [Va.l] at hv2
  have hvx := hv2 x (by simp)
  simp only [gvS.gvAt] at g1
  have hL2 : (walkS ca x (L, a)).1.length = L.length := walk_len _ _ _
  have hc := h1 x hvx g1 wi li tw tl L a hL
  have hX : walkS (.mk 6 s0 s1 s2 s3 n [ca]) (.mk vk vb [x]) (L, a) = setIf n a (walkS ca x (L, a)) := by rw [walkS_eq]; rfl
  rw [hX]
  generalize walkS ca x (L, a) = s at hL2 hc
  obtain ⟨L2, a2⟩ := s
  simp only at hL2 hc
  rw [eC ca, eV x] at hc
  rw [eCm, eVm]
  simp only [List.map_cons, List.map_nil]
  have hn0 : 0 ≤ n := by omega
  refine HH.walk.limE (Nat.le_of_ble_eq_true rfl) (by simp; with_reducible rfl) ?_; unfold c59
  (repeat' first
    | apply X.retS
    | apply X.skipS
    | apply X.skipB
    | apply X.skipL
    | (apply X.exitS; first | apply X.here | (refine X.out (by decide) ?_; apply X.here))
    | apply X.blockS
    | (apply X.condS rfl <;> intro hp <;> first | exact absurd hp (by decide) | ((try rw [hp]); (try simp at hp)))
    | apply X.stepZ
    | (apply X.step; (focus (simp [-getElem?_pos, S.w, S.l, S.at', S.at0, S.sw, S.sl, S.s2, S.len, eC ca, eV x]; with_reducible (first | rfl | exact ⟨rfl, rfl⟩))); (focus (simp; with_reducible rfl)))
    | (apply X.stepN rfl; (focus (simp; with_reducible rfl)))
    | ((first | apply X.stepGt rfl | apply X.stepGf rfl); (focus (simp; with_reducible rfl)); all_goals (intro hp; first | exact absurd hp (by decide) | ((try rw [hp]); (try simp at hp))))
    | (apply X.drawR [59]; (focus rfl))
    | apply XD.nil
    | (apply XD.calm rfl; (focus (simp [-getElem?_pos, S.w, S.l, S.at', S.at0, S.sw, S.sl, S.s2, S.len, eC ca, eV x]; with_reducible (first | rfl | exact ⟨rfl, rfl⟩))); (focus (simp; with_reducible rfl)))
    | (apply XD.call; (focus (simp; with_reducible rfl)); (focus (simp; with_reducible rfl)); (focus (simp [-getElem?_pos, S.w, S.l, S.at', S.at0, S.sw, S.sl, S.s2, S.len, eC ca, eV x]; done)); (focus (simp [-getElem?_pos, S.w, S.l, S.at', S.at0, S.sw, S.sl, S.s2, S.len, eC ca, eV x]; with_reducible rfl)); (focus (simp; with_reducible rfl)))
    | (apply XD.stepN rfl; (focus (simp; with_reducible rfl)))
    | ((first | apply XD.stepGt rfl | apply XD.stepGf rfl); (focus (simp; with_reducible rfl)); all_goals (intro hp; first | exact absurd hp (by decide) | ((try rw [hp]); (try simp at hp))))
    | (apply XD.loud; (focus (simp [-getElem?_pos, S.w, S.l, S.at', S.at0, S.sw, S.sl, S.s2, S.len, eC ca, eV x]; with_reducible (first | rfl | exact ⟨rfl, rfl⟩))); (focus (simp; done)); (focus (simp; with_reducible rfl)); (focus (simp; with_reducible rfl))))
  refine callD S rfl (by first | (simp; done) | (simp; with_reducible rfl)) HH.walk.raw (by simp [pures]) (by simp) (fun h hW => hc h hW) fun g => ?_
  cases bn : decide (n < (L.length : Int)) with
  | true =>
    have hnl : n < (L.length : Int) := of_decide_eq_true bn
    have hnt : n.toNat < L.length := by omega
    have hsp := cellsP_splice L2 n.toNat (a, a2) (by omega)
    simp [splice] at hsp
    have hle2 : n.toNat * 2 + 2 ≤ L2.length * 2 := by omega
    (repeat' first
    | apply X.retS
    | apply X.skipS
    | apply X.skipB
    | apply X.skipL
    | (apply X.exitS; first | apply X.here | (refine X.out (by decide) ?_; apply X.here))
    | apply X.blockS
    | (apply X.condS rfl <;> intro hp <;> first | exact absurd hp (by decide) | ((try rw [hp]); (try simp at hp)))
    | apply X.stepZ
    | (apply X.step; (focus (simp [-getElem?_pos, S.w, S.l, S.at', S.at0, S.sw, S.sl, S.s2, S.len, bn, hn0, hnt, hsp, hle2, cellsP_len]; with_reducible (first | rfl | exact ⟨rfl, rfl⟩))); (focus (simp; with_reducible rfl)))
    | (apply X.stepN rfl; (focus (simp; with_reducible rfl)))
    | ((first | apply X.stepGt rfl | apply X.stepGf rfl); (focus (simp; with_reducible rfl)); all_goals (intro hp; first | exact absurd hp (by decide) | ((try rw [hp]); (try simp at hp))))
    | (apply X.drawR [59]; (focus rfl))
    | apply XD.nil
    | (apply XD.calm rfl; (focus (simp [-getElem?_pos, S.w, S.l, S.at', S.at0, S.sw, S.sl, S.s2, S.len, bn, hn0, hnt, hsp, hle2, cellsP_len]; with_reducible (first | rfl | exact ⟨rfl, rfl⟩))); (focus (simp; with_reducible rfl)))
    | (apply XD.call; (focus (simp; with_reducible rfl)); (focus (simp; with_reducible rfl)); (focus (simp [-getElem?_pos, S.w, S.l, S.at', S.at0, S.sw, S.sl, S.s2, S.len, bn, hn0, hnt, hsp, hle2, cellsP_len]; done)); (focus (simp [-getElem?_pos, S.w, S.l, S.at', S.at0, S.sw, S.sl, S.s2, S.len, bn, hn0, hnt, hsp, hle2, cellsP_len]; with_reducible rfl)); (focus (simp; with_reducible rfl)))
    | (apply XD.stepN rfl; (focus (simp; with_reducible rfl)))
    | ((first | apply XD.stepGt rfl | apply XD.stepGf rfl); (focus (simp; with_reducible rfl)); all_goals (intro hp; first | exact absurd hp (by decide) | ((try rw [hp]); (try simp at hp))))
    | (apply XD.loud; (focus (simp [-getElem?_pos, S.w, S.l, S.at', S.at0, S.sw, S.sl, S.s2, S.len, bn, hn0, hnt, hsp, hle2, cellsP_len]; with_reducible (first | rfl | exact ⟨rfl, rfl⟩))); (focus (simp; done)); (focus (simp; with_reducible rfl)); (focus (simp; with_reducible rfl))))
    exact X.skipE rfl ⟨rfl, by unfold setIf; rw [if_pos (by rw [hL2]; exact hnl)]; exact ⟨_, S.sl _ _ _ _⟩⟩
  | false =>
    have hnl : ¬ n < (L.length : Int) := of_decide_eq_false bn
    (repeat' first
    | apply X.retS
    | apply X.skipS
    | apply X.skipB
    | apply X.skipL
    | (apply X.exitS; first | apply X.here | (refine X.out (by decide) ?_; apply X.here))
    | apply X.blockS
    | (apply X.condS rfl <;> intro hp <;> first | exact absurd hp (by decide) | ((try rw [hp]); (try simp at hp)))
    | apply X.stepZ
    | (apply X.step; (focus (simp [-getElem?_pos, S.w, S.l, S.at', S.at0, S.sw, S.sl, S.s2, S.len, bn]; with_reducible (first | rfl | exact ⟨rfl, rfl⟩))); (focus (simp; with_reducible rfl)))
    | (apply X.stepN rfl; (focus (simp; with_reducible rfl)))
    | ((first | apply X.stepGt rfl | apply X.stepGf rfl); (focus (simp; with_reducible rfl)); all_goals (intro hp; first | exact absurd hp (by decide) | ((try rw [hp]); (try simp at hp))))
    | (apply X.drawR [59]; (focus rfl))
    | apply XD.nil
    | (apply XD.calm rfl; (focus (simp [-getElem?_pos, S.w, S.l, S.at', S.at0, S.sw, S.sl, S.s2, S.len, bn]; with_reducible (first | rfl | exact ⟨rfl, rfl⟩))); (focus (simp; with_reducible rfl)))
    | (apply XD.call; (focus (simp; with_reducible rfl)); (focus (simp; with_reducible rfl)); (focus (simp [-getElem?_pos, S.w, S.l, S.at', S.at0, S.sw, S.sl, S.s2, S.len, bn]; done)); (focus (simp [-getElem?_pos, S.w, S.l, S.at', S.at0, S.sw, S.sl, S.s2, S.len, bn]; with_reducible rfl)); (focus (simp; with_reducible rfl)))
    | (apply XD.stepN rfl; (focus (simp; with_reducible rfl)))
    | ((first | apply XD.stepGt rfl | apply XD.stepGf rfl); (focus (simp; with_reducible rfl)); all_goals (intro hp; first | exact absurd hp (by decide) | ((try rw [hp]); (try simp at hp))))
    | (apply XD.loud; (focus (simp [-getElem?_pos, S.w, S.l, S.at', S.at0, S.sw, S.sl, S.s2, S.len, bn]; with_reducible (first | rfl | exact ⟨rfl, rfl⟩))); (focus (simp; done)); (focus (simp; with_reducible rfl)); (focus (simp; with_reducible rfl))))
    exact X.skipE rfl ⟨rfl, by unfold setIf; rw [if_neg (by rw [hL2]; exact hnl)]; exact ⟨_, rfl⟩⟩

end Cps

-- The walker's walk: groups, what is said anew, as often as one likes.
namespace Cps
open Go Ab Go.Proofs.YtlhfndoldaokhaaDoor.Mach
variable {E : Env}

set_option maxHeartbeats 4000000 in
theorem walk_k7 (HH : HasW E) (s0 s1 s2 s3 n : Int) (ca : Co) (hsa : Sh ca) (hfa : FineC ca) (h1 : WalkOk E ca) : WalkOk E (.mk 7 s0 s1 s2 s3 n [ca]) := by
  refine walk_of fun v hv hg wi li tw tl L a hL h U S => ?_
  obtain ⟨vk, vb, vl⟩ := v
  have hgc := gv_cases _ _ hg
  simp [Co.k, Co.l, Va.k, Va.l] at hgc
  have g1 := hgc
  simp only [gvS.gvAt] at g1
  have hL2 : (forgetS ca L).length = L.length := forget_len _ _
  rw [eCm, eVm]
  simp only [List.map_cons, List.map_nil]
  refine HH.walk.limE (Nat.le_of_ble_eq_true rfl) (by simp; with_reducible rfl) ?_; unfold c59
  (repeat' first
    | apply X.retS
    | apply X.skipS
    | apply X.skipB
    | apply X.skipL
    | (apply X.exitS; first | apply X.here | (refine X.out (by decide) ?_; apply X.here))
    | apply X.blockS
    | (apply X.condS rfl <;> intro hp <;> first | exact absurd hp (by decide) | ((try rw [hp]); (try simp at hp)))
    | apply X.stepZ
    | (apply X.step; (focus (simp [-getElem?_pos, S.w, S.l, S.at', S.at0, S.sw, S.sl, S.s2, S.len, eC ca]; with_reducible (first | rfl | exact ⟨rfl, rfl⟩))); (focus (simp; with_reducible rfl)))
    | (apply X.stepN rfl; (focus (simp; with_reducible rfl)))
    | ((first | apply X.stepGt rfl | apply X.stepGf rfl); (focus (simp; with_reducible rfl)); all_goals (intro hp; first | exact absurd hp (by decide) | ((try rw [hp]); (try simp at hp))))
    | (apply X.drawR [59]; (focus rfl))
    | apply XD.nil
    | (apply XD.calm rfl; (focus (simp [-getElem?_pos, S.w, S.l, S.at', S.at0, S.sw, S.sl, S.s2, S.len, eC ca]; with_reducible (first | rfl | exact ⟨rfl, rfl⟩))); (focus (simp; with_reducible rfl)))
    | (apply XD.call; (focus (simp; with_reducible rfl)); (focus (simp; with_reducible rfl)); (focus (simp [-getElem?_pos, S.w, S.l, S.at', S.at0, S.sw, S.sl, S.s2, S.len, eC ca]; done)); (focus (simp [-getElem?_pos, S.w, S.l, S.at', S.at0, S.sw, S.sl, S.s2, S.len, eC ca]; with_reducible rfl)); (focus (simp; with_reducible rfl)))
    | (apply XD.stepN rfl; (focus (simp; with_reducible rfl)))
    | ((first | apply XD.stepGt rfl | apply XD.stepGf rfl); (focus (simp; with_reducible rfl)); all_goals (intro hp; first | exact absurd hp (by decide) | ((try rw [hp]); (try simp at hp))))
    | (apply XD.loud; (focus (simp [-getElem?_pos, S.w, S.l, S.at', S.at0, S.sw, S.sl, S.s2, S.len, eC ca]; with_reducible (first | rfl | exact ⟨rfl, rfl⟩))); (focus (simp; done)); (focus (simp; with_reducible rfl)); (focus (simp; with_reducible rfl))))
  refine callP S rfl (by simp; with_reducible rfl) HH.forget.raw (by simp [pures]) (fun h hW => by have := forget_ok HH.forget ca hsa hfa h L a hL hW; rwa [eC ca] at this) fun g => ?_
  (repeat' first
    | apply X.retS
    | apply X.skipS
    | apply X.skipB
    | apply X.skipL
    | (apply X.exitS; first | apply X.here | (refine X.out (by decide) ?_; apply X.here))
    | apply X.blockS
    | (apply X.condS rfl <;> intro hp <;> first | exact absurd hp (by decide) | ((try rw [hp]); (try simp at hp)))
    | apply X.stepZ
    | (apply X.step; (focus (simp [-getElem?_pos, S.w, S.l, S.at', S.at0, S.sw, S.sl, S.s2, S.len, eC ca]; with_reducible (first | rfl | exact ⟨rfl, rfl⟩))); (focus (simp; with_reducible rfl)))
    | (apply X.stepN rfl; (focus (simp; with_reducible rfl)))
    | ((first | apply X.stepGt rfl | apply X.stepGf rfl); (focus (simp; with_reducible rfl)); all_goals (intro hp; first | exact absurd hp (by decide) | ((try rw [hp]); (try simp at hp))))
    | (apply X.drawR [59]; (focus rfl))
    | apply XD.nil
    | (apply XD.calm rfl; (focus (simp [-getElem?_pos, S.w, S.l, S.at', S.at0, S.sw, S.sl, S.s2, S.len, eC ca]; with_reducible (first | rfl | exact ⟨rfl, rfl⟩))); (focus (simp; with_reducible rfl)))
    | (apply XD.call; (focus (simp; with_reducible rfl)); (focus (simp; with_reducible rfl)); (focus (simp [-getElem?_pos, S.w, S.l, S.at', S.at0, S.sw, S.sl, S.s2, S.len, eC ca]; done)); (focus (simp [-getElem?_pos, S.w, S.l, S.at', S.at0, S.sw, S.sl, S.s2, S.len, eC ca]; with_reducible rfl)); (focus (simp; with_reducible rfl)))
    | (apply XD.stepN rfl; (focus (simp; with_reducible rfl)))
    | ((first | apply XD.stepGt rfl | apply XD.stepGf rfl); (focus (simp; with_reducible rfl)); all_goals (intro hp; first | exact absurd hp (by decide) | ((try rw [hp]); (try simp at hp))))
    | (apply XD.loud; (focus (simp [-getElem?_pos, S.w, S.l, S.at', S.at0, S.sw, S.sl, S.s2, S.len, eC ca]; with_reducible (first | rfl | exact ⟨rfl, rfl⟩))); (focus (simp; done)); (focus (simp; with_reducible rfl)); (focus (simp; with_reducible rfl))))
  refine callD S hL2 (by simp; with_reducible rfl) HH.walk.raw (by simp [pures]) (by simp) (fun h hW => by have := h1 _ hv g1 wi li tw tl _ _ (by rw [hL2]; exact hL) h hW; rwa [eC ca, eVm] at this) fun g => ?_
  (repeat' first
    | apply X.retS
    | apply X.skipS
    | apply X.skipB
    | apply X.skipL
    | (apply X.exitS; first | apply X.here | (refine X.out (by decide) ?_; apply X.here))
    | apply X.blockS
    | (apply X.condS rfl <;> intro hp <;> first | exact absurd hp (by decide) | ((try rw [hp]); (try simp at hp)))
    | apply X.stepZ
    | (apply X.step; (focus (simp [-getElem?_pos, S.w, S.l, S.at', S.at0, S.sw, S.sl, S.s2, S.len, eC ca]; with_reducible (first | rfl | exact ⟨rfl, rfl⟩))); (focus (simp; with_reducible rfl)))
    | (apply X.stepN rfl; (focus (simp; with_reducible rfl)))
    | ((first | apply X.stepGt rfl | apply X.stepGf rfl); (focus (simp; with_reducible rfl)); all_goals (intro hp; first | exact absurd hp (by decide) | ((try rw [hp]); (try simp at hp))))
    | (apply X.drawR [59]; (focus rfl))
    | apply XD.nil
    | (apply XD.calm rfl; (focus (simp [-getElem?_pos, S.w, S.l, S.at', S.at0, S.sw, S.sl, S.s2, S.len, eC ca]; with_reducible (first | rfl | exact ⟨rfl, rfl⟩))); (focus (simp; with_reducible rfl)))
    | (apply XD.call; (focus (simp; with_reducible rfl)); (focus (simp; with_reducible rfl)); (focus (simp [-getElem?_pos, S.w, S.l, S.at', S.at0, S.sw, S.sl, S.s2, S.len, eC ca]; done)); (focus (simp [-getElem?_pos, S.w, S.l, S.at', S.at0, S.sw, S.sl, S.s2, S.len, eC ca]; with_reducible rfl)); (focus (simp; with_reducible rfl)))
    | (apply XD.stepN rfl; (focus (simp; with_reducible rfl)))
    | ((first | apply XD.stepGt rfl | apply XD.stepGf rfl); (focus (simp; with_reducible rfl)); all_goals (intro hp; first | exact absurd hp (by decide) | ((try rw [hp]); (try simp at hp))))
    | (apply XD.loud; (focus (simp [-getElem?_pos, S.w, S.l, S.at', S.at0, S.sw, S.sl, S.s2, S.len, eC ca]; with_reducible (first | rfl | exact ⟨rfl, rfl⟩))); (focus (simp; done)); (focus (simp; with_reducible rfl)); (focus (simp; with_reducible rfl))))
  exact X.skipE rfl ⟨rfl, by rw [walkS_eq]; exact ⟨_, rfl⟩⟩

end Cps
