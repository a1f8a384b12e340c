/- CiWc: steps, walks, laws: see the remarks within. -/
import Derived.Test.YtlhfndoldaokhaaDoorAbStep
import Derived.Test.YtlhfndoldaokhaaDoorCiWb
set_option linter.unusedSimpArgs false
set_option linter.unusedVariables false
-- The walker's walk: groups, what is said anew, as often as one likes.
namespace Cps
open Go Ab Go.Proofs.YtlhfndoldaokhaaDoor.Mach
variable {E : Env}

set_option maxHeartbeats 4000000 in
theorem walk_k5 (HH : HasW E) (s0 s1 s2 s3 n : Int) (ca : Co) (hsa : Sh ca) (hfa : FineC ca) (h1 : WalkOk E ca) : WalkOk E (.mk 5 s0 s1 s2 s3 n [ca]) := by
  refine walk_of fun v hv hg wi li tw tl L a hL h U S => ?_
  obtain ⟨vk, vb, vl⟩ := v
  have hgc := gv_cases _ _ hg
  simp [Co.k, Co.l, Va.k, Va.l] at hgc
  have g1 := hgc
  simp only [gvS.gvAt] at g1
  obtain ⟨_, hvl, hv2⟩ := fineV hv
  simp only [Va.l] at hv2 hvl
  have hX : walkS (.mk 5 s0 s1 s2 s3 n [ca]) (.mk vk vb vl) (L, a) = vl.foldl (fun s x => walkS ca x (forgetS ca s.1, s.2)) (L, a) := by rw [walkS_eq]; rfl
  rw [hX]
  rw [eCm, eVm]
  simp only [List.map_cons, List.map_nil]
  rw [eC ca]
  refine HH.walk.limE (Nat.le_of_ble_eq_true rfl) (by simp; with_reducible rfl) ?_; unfold c59
  (repeat' first
    | apply X.retS
    | apply X.skipS
    | apply X.skipB
    | apply X.skipL
    | (apply X.exitS; first | apply X.here | (refine X.out (by decide) ?_; apply X.here))
    | apply X.blockS
    | (apply X.condS rfl <;> intro hp <;> first | exact absurd hp (by decide) | ((try rw [hp]); (try simp at hp)))
    | apply X.stepZ
    | (apply X.step; (focus (simp [-getElem?_pos, S.w, S.l, S.at', S.at0, S.sw, S.sl, S.s2, S.len]; with_reducible (first | rfl | exact ⟨rfl, rfl⟩))); (focus (simp; with_reducible rfl)))
    | (apply X.stepN rfl; (focus (simp; with_reducible rfl)))
    | ((first | apply X.stepGt rfl | apply X.stepGf rfl); (focus (simp; with_reducible rfl)); all_goals (intro hp; first | exact absurd hp (by decide) | ((try rw [hp]); (try simp at hp))))
    | (apply X.drawR [59]; (focus rfl))
    | apply XD.nil
    | (apply XD.calm rfl; (focus (simp [-getElem?_pos, S.w, S.l, S.at', S.at0, S.sw, S.sl, S.s2, S.len]; with_reducible (first | rfl | exact ⟨rfl, rfl⟩))); (focus (simp; with_reducible rfl)))
    | (apply XD.call; (focus (simp; with_reducible rfl)); (focus (simp; with_reducible rfl)); (focus (simp [-getElem?_pos, S.w, S.l, S.at', S.at0, S.sw, S.sl, S.s2, S.len]; done)); (focus (simp [-getElem?_pos, S.w, S.l, S.at', S.at0, S.sw, S.sl, S.s2, S.len]; with_reducible rfl)); (focus (simp; with_reducible rfl)))
    | (apply XD.stepN rfl; (focus (simp; with_reducible rfl)))
    | ((first | apply XD.stepGt rfl | apply XD.stepGf rfl); (focus (simp; with_reducible rfl)); all_goals (intro hp; first | exact absurd hp (by decide) | ((try rw [hp]); (try simp at hp))))
    | (apply XD.loud; (focus (simp [-getElem?_pos, S.w, S.l, S.at', S.at0, S.sw, S.sl, S.s2, S.len]; with_reducible (first | rfl | exact ⟨rfl, rfl⟩))); (focus (simp; done)); (focus (simp; with_reducible rfl)); (focus (simp; with_reducible rfl))))
  refine X.forS vl.length (fun j st => ∃ (s : List Sp × Int) (g : Heap), s.1.length = L.length ∧ (vl.drop j).foldl (fun s x => walkS ca x (forgetS ca s.1, s.2)) s = vl.foldl (fun s x => walkS ca x (forgetS ca s.1, s.2)) (L, a) ∧ ∃ ts, Pat [some (.ptr wi 0), none, none, none, some (.ptr h.length 0), none, none, none, none, none, none, none, none, none, none, none, none, none, none, none, none, none, none, none, none, none, none, none, none, none, none, none, none, none, none, none, none, none, none, none, none, none, none, none, none, none, none, none, none, none, none, none, none, none, none, none, none, none, none, none, none, none, none, none, some (.pv (.sl (vl.map encV))), some (.pv (.int .i64 vl.length)), some (.pv (.int .i64 j)), none, none, none, none, none, none, none, none, none, none, none, none, none, none, none, none, none, none, none, none, none, none, none, none, none, none, none, none, none, none, none, none, none, none, none, none, none, none, none, none, none, none, none, none, none, none, none, none, none, none, none, none, none, none, none, none, none, none, none, none, none, none, none, none, none] ts ∧
    st = ⟨ts, U s.1 s.2 ++ (Ent.blk [.pv (.int .i64 5), .pv (.int .u64 s0), .pv (.int .u64 s1), .pv (.int .u64 s2), .pv (.int .u64 s3), .pv (.int .i64 n), .pv (.sl [.agg [.int .i64 ca.k, .int .u64 ca.s0, .int .u64 ca.s1, .int .u64 ca.s2, .int .u64 ca.s3, .int .i64 ca.n, .sl (ca.l.map encC)]])] none :: Ent.blk [.pv (.int .i64 vk), .pv (.int .u8 vb), .pv (.sl (vl.map encV))] none :: g)⟩) ?_ ?_
  · exact ⟨(L, a), [], rfl, rfl, _, by simp [Pat], rfl⟩
  rintro j st hj ⟨s, g, hs, hi, ts, hts, rfl⟩
  obtain ⟨f, rfl⟩ := hts.fill
  simp only [Ab.fill, Nat.reduceAdd]
  clear hts
  rcases Nat.lt_or_ge j vl.length with hj1 | hj1
  · obtain ⟨x, hx⟩ := at_of_lt hj1
    have hxm := List.mem_of_getElem? hx
    rw [drop_at hx, List.foldl_cons] at hi
    have hww : IntKind.i64.wrap ((j : Int) + 1) = (j : Int) + 1 := wrap_i64 (by omega)
    have hL2 : (forgetS ca s.1).length = L.length := by rw [forget_len, hs]
    have hc := h1 x (hv2 x hxm) (g1 x hxm) wi li tw tl (forgetS ca s.1) s.2 (by omega)
    have hL3 : (walkS ca x (forgetS ca s.1, s.2)).1.length = L.length := by rw [walk_len, hL2]
    generalize walkS ca x (forgetS ca s.1, s.2) = s' at hc hi hL3
    rw [eC ca, eV x] at hc
    (repeat' first
    | apply X.retS
    | apply X.skipS
    | apply X.skipB
    | apply X.skipL
    | (apply X.exitS; first | apply X.here | (refine X.out (by decide) ?_; apply X.here))
    | apply X.blockS
    | (apply X.condS rfl <;> intro hp <;> first | exact absurd hp (by decide) | ((try rw [hp]); (try simp at hp)))
    | apply X.stepZ
    | (apply X.step; (focus (simp [-getElem?_pos, S.w, S.l, S.at', S.at0, S.sw, S.sl, S.s2, S.len, hj1, hx, eV x, set_new, ent_new]; with_reducible (first | rfl | exact ⟨rfl, rfl⟩))); (focus (simp; with_reducible rfl)))
    | (apply X.stepN rfl; (focus (simp; with_reducible rfl)))
    | ((first | apply X.stepGt rfl | apply X.stepGf rfl); (focus (simp; with_reducible rfl)); all_goals (intro hp; first | exact absurd hp (by decide) | ((try rw [hp]); (try simp at hp))))
    | (apply X.drawR [59]; (focus rfl))
    | apply XD.nil
    | (apply XD.calm rfl; (focus (simp [-getElem?_pos, S.w, S.l, S.at', S.at0, S.sw, S.sl, S.s2, S.len, hj1, hx, eV x, set_new, ent_new]; with_reducible (first | rfl | exact ⟨rfl, rfl⟩))); (focus (simp; with_reducible rfl)))
    | (apply XD.call; (focus (simp; with_reducible rfl)); (focus (simp; with_reducible rfl)); (focus (simp [-getElem?_pos, S.w, S.l, S.at', S.at0, S.sw, S.sl, S.s2, S.len, hj1, hx, eV x, set_new, ent_new]; done)); (focus (simp [-getElem?_pos, S.w, S.l, S.at', S.at0, S.sw, S.sl, S.s2, S.len, hj1, hx, eV x, set_new, ent_new]; with_reducible rfl)); (focus (simp; with_reducible rfl)))
    | (apply XD.stepN rfl; (focus (simp; with_reducible rfl)))
    | ((first | apply XD.stepGt rfl | apply XD.stepGf rfl); (focus (simp; with_reducible rfl)); all_goals (intro hp; first | exact absurd hp (by decide) | ((try rw [hp]); (try simp at hp))))
    | (apply XD.loud; (focus (simp [-getElem?_pos, S.w, S.l, S.at', S.at0, S.sw, S.sl, S.s2, S.len, hj1, hx, eV x, set_new, ent_new]; with_reducible (first | rfl | exact ⟨rfl, rfl⟩))); (focus (simp; done)); (focus (simp; with_reducible rfl)); (focus (simp; with_reducible rfl))))
    refine callP S hs (by simp; with_reducible rfl) HH.forget.raw (by simp [pures]) (fun h hW => by have := forget_ok HH.forget ca hsa hfa h s.1 s.2 (by omega) hW; rwa [eC ca] at this) fun g2 => ?_
    (repeat' first
    | apply X.retS
    | apply X.skipS
    | apply X.skipB
    | apply X.skipL
    | (apply X.exitS; first | apply X.here | (refine X.out (by decide) ?_; apply X.here))
    | apply X.blockS
    | (apply X.condS rfl <;> intro hp <;> first | exact absurd hp (by decide) | ((try rw [hp]); (try simp at hp)))
    | apply X.stepZ
    | (apply X.step; (focus (simp [-getElem?_pos, S.w, S.l, S.at', S.at0, S.sw, S.sl, S.s2, S.len, ent_new, ent_at0]; with_reducible (first | rfl | exact ⟨rfl, rfl⟩))); (focus (simp; with_reducible rfl)))
    | (apply X.stepN rfl; (focus (simp; with_reducible rfl)))
    | ((first | apply X.stepGt rfl | apply X.stepGf rfl); (focus (simp; with_reducible rfl)); all_goals (intro hp; first | exact absurd hp (by decide) | ((try rw [hp]); (try simp at hp))))
    | (apply X.drawR [59]; (focus rfl))
    | apply XD.nil
    | (apply XD.calm rfl; (focus (simp [-getElem?_pos, S.w, S.l, S.at', S.at0, S.sw, S.sl, S.s2, S.len, ent_new, ent_at0]; with_reducible (first | rfl | exact ⟨rfl, rfl⟩))); (focus (simp; with_reducible rfl)))
    | (apply XD.call; (focus (simp; with_reducible rfl)); (focus (simp; with_reducible rfl)); (focus (simp [-getElem?_pos, S.w, S.l, S.at', S.at0, S.sw, S.sl, S.s2, S.len, ent_new, ent_at0]; done)); (focus (simp [-getElem?_pos, S.w, S.l, S.at', S.at0, S.sw, S.sl, S.s2, S.len, ent_new, ent_at0]; with_reducible rfl)); (focus (simp; with_reducible rfl)))
    | (apply XD.stepN rfl; (focus (simp; with_reducible rfl)))
    | ((first | apply XD.stepGt rfl | apply XD.stepGf rfl); (focus (simp; with_reducible rfl)); all_goals (intro hp; first | exact absurd hp (by decide) | ((try rw [hp]); (try simp at hp))))
    | (apply XD.loud; (focus (simp [-getElem?_pos, S.w, S.l, S.at', S.at0, S.sw, S.sl, S.s2, S.len, ent_new, ent_at0]; with_reducible (first | rfl | exact ⟨rfl, rfl⟩))); (focus (simp; done)); (focus (simp; with_reducible rfl)); (focus (simp; with_reducible rfl))))
    refine callD S hL2 (by first | (simp; done) | (simp; with_reducible rfl)) HH.walk.raw (by simp [pures]) (by simp) (fun h hW => hc h hW) fun g3 => ?_
    (repeat' first
    | apply X.retS
    | apply X.skipS
    | apply X.skipB
    | apply X.skipL
    | (apply X.exitS; first | apply X.here | (refine X.out (by decide) ?_; apply X.here))
    | apply X.blockS
    | (apply X.condS rfl <;> intro hp <;> first | exact absurd hp (by decide) | ((try rw [hp]); (try simp at hp)))
    | apply X.stepZ
    | (apply X.step; (focus (simp [-getElem?_pos, S.w, S.l, S.at', S.at0, S.sw, S.sl, S.s2, S.len, hww]; with_reducible (first | rfl | exact ⟨rfl, rfl⟩))); (focus (simp; with_reducible rfl)))
    | (apply X.stepN rfl; (focus (simp; with_reducible rfl)))
    | ((first | apply X.stepGt rfl | apply X.stepGf rfl); (focus (simp; with_reducible rfl)); all_goals (intro hp; first | exact absurd hp (by decide) | ((try rw [hp]); (try simp at hp))))
    | (apply X.drawR [59]; (focus rfl))
    | apply XD.nil
    | (apply XD.calm rfl; (focus (simp [-getElem?_pos, S.w, S.l, S.at', S.at0, S.sw, S.sl, S.s2, S.len, hww]; with_reducible (first | rfl | exact ⟨rfl, rfl⟩))); (focus (simp; with_reducible rfl)))
    | (apply XD.call; (focus (simp; with_reducible rfl)); (focus (simp; with_reducible rfl)); (focus (simp [-getElem?_pos, S.w, S.l, S.at', S.at0, S.sw, S.sl, S.s2, S.len, hww]; done)); (focus (simp [-getElem?_pos, S.w, S.l, S.at', S.at0, S.sw, S.sl, S.s2, S.len, hww]; with_reducible rfl)); (focus (simp; with_reducible rfl)))
    | (apply XD.stepN rfl; (focus (simp; with_reducible rfl)))
    | ((first | apply XD.stepGt rfl | apply XD.stepGf rfl); (focus (simp; with_reducible rfl)); all_goals (intro hp; first | exact absurd hp (by decide) | ((try rw [hp]); (try simp at hp))))
    | (apply XD.loud; (focus (simp [-getElem?_pos, S.w, S.l, S.at', S.at0, S.sw, S.sl, S.s2, S.len, hww]; with_reducible (first | rfl | exact ⟨rfl, rfl⟩))); (focus (simp; done)); (focus (simp; with_reducible rfl)); (focus (simp; with_reducible rfl))))
    exact ⟨hj1, s', _, hL3, hi, _, by simp [Pat], rfl⟩
  · have hj2 : ¬ j < vl.length := by omega
    rw [List.drop_eq_nil_of_le hj1] at hi
    simp only [List.foldl_nil] at hi
    (repeat' first
    | apply X.retS
    | apply X.skipS
    | apply X.skipB
    | apply X.skipL
    | (apply X.exitS; first | apply X.here | (refine X.out (by decide) ?_; apply X.here))
    | apply X.blockS
    | (apply X.condS rfl <;> intro hp <;> first | exact absurd hp (by decide) | ((try rw [hp]); (try simp at hp)))
    | apply X.stepZ
    | (apply X.step; (focus (simp [-getElem?_pos, S.w, S.l, S.at', S.at0, S.sw, S.sl, S.s2, S.len, hj2]; with_reducible (first | rfl | exact ⟨rfl, rfl⟩))); (focus (simp; with_reducible rfl)))
    | (apply X.stepN rfl; (focus (simp; with_reducible rfl)))
    | ((first | apply X.stepGt rfl | apply X.stepGf rfl); (focus (simp; with_reducible rfl)); all_goals (intro hp; first | exact absurd hp (by decide) | ((try rw [hp]); (try simp at hp))))
    | (apply X.drawR [59]; (focus rfl))
    | apply XD.nil
    | (apply XD.calm rfl; (focus (simp [-getElem?_pos, S.w, S.l, S.at', S.at0, S.sw, S.sl, S.s2, S.len, hj2]; with_reducible (first | rfl | exact ⟨rfl, rfl⟩))); (focus (simp; with_reducible rfl)))
    | (apply XD.call; (focus (simp; with_reducible rfl)); (focus (simp; with_reducible rfl)); (focus (simp [-getElem?_pos, S.w, S.l, S.at', S.at0, S.sw, S.sl, S.s2, S.len, hj2]; done)); (focus (simp [-getElem?_pos, S.w, S.l, S.at', S.at0, S.sw, S.sl, S.s2, S.len, hj2]; with_reducible rfl)); (focus (simp; with_reducible rfl)))
    | (apply XD.stepN rfl; (focus (simp; with_reducible rfl)))
    | ((first | apply XD.stepGt rfl | apply XD.stepGf rfl); (focus (simp; with_reducible rfl)); all_goals (intro hp; first | exact absurd hp (by decide) | ((try rw [hp]); (try simp at hp))))
    | (apply XD.loud; (focus (simp [-getElem?_pos, S.w, S.l, S.at', S.at0, S.sw, S.sl, S.s2, S.len, hj2]; with_reducible (first | rfl | exact ⟨rfl, rfl⟩))); (focus (simp; done)); (focus (simp; with_reducible rfl)); (focus (simp; with_reducible rfl))))
    exact X.skipE rfl ⟨rfl, by rw [← hi]; exact ⟨_, rfl⟩⟩

end Cps
