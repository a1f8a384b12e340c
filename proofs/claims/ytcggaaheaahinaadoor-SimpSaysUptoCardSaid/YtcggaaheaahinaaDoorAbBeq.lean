/- Whether two values, two entries are the same: told by a program. -/
import Derived.Test.YtcggaaheaahinaaDoorAbBase
namespace Ab
open Go

mutual
def PV.beq : PV → PV → Bool
  | .int k n, .int k' n' => decide (k = k') && n == n'
  | .bool b, .bool b' => b == b'
  | .flt k b, .flt k' b' => decide (k = k') && b == b'
  | .str l, .str l' => l == l'
  | .sl es, .sl es' => PV.beqL es es'
  | .agg cs, .agg cs' => PV.beqL cs cs'
  | .nilp, .nilp => true
  | .ip cs off, .ip cs' off' => PV.beqL cs cs' && off == off'
  | .fn f cs, .fn f' cs' => f == f' && PV.beqL cs cs'
  | .nilfn, .nilfn => true
  | .nilif, .nilif => true
  | .top, .top => true
  | .iface t p, .iface t' p' => t == t' && PV.beq p p'
  | _, _ => false
def PV.beqL : List PV → List PV → Bool
  | [], [] => true
  | p :: ps, q :: qs => PV.beq p q && PV.beqL ps qs
  | _, _ => false
end

mutual
theorem PV.beq_eq : ∀ (p q : PV), PV.beq p q = true → p = q
  | .int k n, q, h => by cases q <;> simp_all [PV.beq]
  | .bool b, q, h => by cases q <;> simp_all [PV.beq]
  | .flt k b, q, h => by cases q <;> simp_all [PV.beq]
  | .str l, q, h => by cases q <;> simp_all [PV.beq]
  | .sl es, q, h => by
    cases q <;> simp only [PV.beq, Bool.false_eq_true] at h
    rw [PV.beqL_eq _ _ h]
  | .agg es, q, h => by
    cases q <;> simp only [PV.beq, Bool.false_eq_true] at h
    rw [PV.beqL_eq _ _ h]
  | .nilp, q, h => by cases q <;> simp_all [PV.beq]
  | .ip cs off, q, h => by
    cases q <;> simp only [PV.beq, Bool.false_eq_true, Bool.and_eq_true, beq_iff_eq] at h
    rw [PV.beqL_eq _ _ h.1, h.2]
  | .fn f cs, q, h => by
    cases q <;> simp only [PV.beq, Bool.false_eq_true, Bool.and_eq_true, beq_iff_eq] at h
    rw [PV.beqL_eq _ _ h.2, h.1]
  | .nilfn, q, h => by cases q <;> simp_all [PV.beq]
  | .nilif, q, h => by cases q <;> simp_all [PV.beq]
  | .top, q, h => by cases q <;> simp_all [PV.beq]
  | .iface t p, q, h => by
    cases q <;> simp only [PV.beq, Bool.false_eq_true, Bool.and_eq_true, beq_iff_eq] at h
    rw [PV.beq_eq _ _ h.2, h.1]
theorem PV.beqL_eq : ∀ (ps qs : List PV), PV.beqL ps qs = true → ps = qs
  | [], qs, h => by cases qs <;> simp_all [PV.beqL]
  | p :: ps, qs, h => by
    cases qs with
    | nil => simp [PV.beqL] at h
    | cons q qs =>
      simp only [PV.beqL, Bool.and_eq_true] at h
      rw [PV.beq_eq _ _ h.1, PV.beqL_eq _ _ h.2]
end

mutual
def V.beq : V → V → Bool
  | .pv p, .pv q => PV.beq p q
  | .ptr i o, .ptr j u => i == j && o == u
  | .sln i o n s g, .sln i' o' n' s' g' => i == i' && (o == o' && (n == n' && (s == s' && g == g')))
  | .slt es t, .slt es' t' => t == t' && PV.beqL es es'
  | .slx es, .slx es' => PV.beqL es es'
  | .nils, .nils => true
  | .agg cs, .agg cs' => V.beqL cs cs'
  | .fn f cs, .fn f' cs' => f == f' && V.beqL cs cs'
  | .tup cs, .tup cs' => V.beqL cs cs'
  | _, _ => false
def V.beqL : List V → List V → Bool
  | [], [] => true
  | p :: ps, q :: qs => V.beq p q && V.beqL ps qs
  | _, _ => false
end

mutual
theorem V.beq_eq : ∀ (p q : V), V.beq p q = true → p = q
  | .pv p, q, h => by
    cases q <;> simp only [V.beq, Bool.false_eq_true] at h
    rw [PV.beq_eq _ _ h]
  | .ptr i o, q, h => by cases q <;> simp_all [V.beq]
  | .sln i o n s g, q, h => by cases q <;> simp_all [V.beq]
  | .slt es t, q, h => by
    cases q <;> simp only [V.beq, Bool.false_eq_true, Bool.and_eq_true, beq_iff_eq] at h
    rw [PV.beqL_eq _ _ h.2, h.1]
  | .slx es, q, h => by
    cases q <;> simp only [V.beq, Bool.false_eq_true] at h
    rw [PV.beqL_eq _ _ h]
  | .nils, q, h => by cases q <;> simp_all [V.beq]
  | .agg es, q, h => by
    cases q <;> simp only [V.beq, Bool.false_eq_true] at h
    rw [V.beqL_eq _ _ h]
  | .fn f cs, q, h => by
    cases q <;> simp only [V.beq, Bool.false_eq_true, Bool.and_eq_true, beq_iff_eq] at h
    rw [V.beqL_eq _ _ h.2, h.1]
  | .tup es, q, h => by
    cases q <;> simp only [V.beq, Bool.false_eq_true] at h
    rw [V.beqL_eq _ _ h]
theorem V.beqL_eq : ∀ (ps qs : List V), V.beqL ps qs = true → ps = qs
  | [], qs, h => by cases qs <;> simp_all [V.beqL]
  | p :: ps, qs, h => by
    cases qs with
    | nil => simp [V.beqL] at h
    | cons q qs =>
      simp only [V.beqL, Bool.and_eq_true] at h
      rw [V.beq_eq _ _ h.1, V.beqL_eq _ _ h.2]
end

def Ent.beq : Ent → Ent → Bool
  | .dead, .dead => true
  | .blk cs t, .blk cs' t' => decide (t = t') && V.beqL cs cs'
  | .tok, .tok => true
  | .frz cs, .frz cs' => PV.beqL cs cs'
  | _, _ => false

theorem Ent.beq_eq {a b : Ent} (h : Ent.beq a b = true) : a = b := by
  cases a <;> cases b <;> simp only [Ent.beq, Bool.false_eq_true, Bool.and_eq_true, decide_eq_true_eq] at h
  · rfl
  · rw [V.beqL_eq _ _ h.2, h.1]
  · rfl
  · rw [PV.beqL_eq _ _ h]

end Ab
