/- How many bits of a word are set: more than none, if there is one. -/
import Derived.Test.YtdacifedlemlmaaLsY
set_option linter.unusedSimpArgs false
set_option linter.unusedVariables false
namespace Lng

theorem andB {x y m k : Nat} (hx : x < 256) (hm : m < 256) : (x + 256 * y) &&& (m + 256 * k) = (x &&& m) + 256 * (y &&& k) := by
  have hxm : x &&& m < 2 ^ 8 := Nat.and_lt_two_pow x hm
  have hx' : x < 2 ^ 8 := hx
  have hm' : m < 2 ^ 8 := hm
  refine Nat.eq_of_testBit_eq fun i => ?_
  have e1 : x + 256 * y = 2 ^ 8 * y + x := by omega
  have e2 : m + 256 * k = 2 ^ 8 * k + m := by omega
  have e3 : (x &&& m) + 256 * (y &&& k) = 2 ^ 8 * (y &&& k) + (x &&& m) := by omega
  rw [e1, e2, e3, Nat.testBit_and, Nat.testBit_two_pow_mul_add _ hx', Nat.testBit_two_pow_mul_add _ hm', Nat.testBit_two_pow_mul_add _ hxm]
  split <;> simp [Nat.testBit_and]

/-- So many bytes, all alike. -/
def rep (m : Nat) : Nat → Nat
  | 0 => 0
  | n + 1 => m + 256 * rep m n
def step1 (n x : Nat) : Nat := ((x / 2) &&& rep 85 n) + (x &&& rep 85 n)
def step2 (n x : Nat) : Nat := ((x / 4) &&& rep 51 n) + (x &&& rep 51 n)
def step3 (n x : Nat) : Nat := (x / 16 + x) &&& rep 15 n

def b1 (b : Nat) : Nat := ((b / 2) &&& 85) + (b &&& 85)
def b2 (b : Nat) : Nat := ((b / 4) &&& 51) + (b &&& 51)
def b3 (b : Nat) : Nat := (b / 16 + b) &&& 15
theorem t1 : ∀ (b : Fin 256) (a : Fin 2), ((b.val / 2 + 128 * a.val) &&& 85) = ((b.val / 2) &&& 85) := by decide +kernel
theorem t1b : ∀ b : Fin 256, b1 b.val < 256 ∧ b1 b.val % 4 ≤ 2 ∧ b1 b.val / 4 % 4 ≤ 2 ∧ b1 b.val / 16 % 4 ≤ 2 ∧ b1 b.val / 64 ≤ 2 := by decide +kernel
theorem t2 : ∀ (b : Fin 256) (a : Fin 4), ((b.val / 4 + 64 * a.val) &&& 51) = ((b.val / 4) &&& 51) := by decide +kernel
theorem t2b : ∀ b : Fin 256, b2 (b1 b.val) % 16 ≤ 4 ∧ b2 (b1 b.val) / 16 ≤ 4 := by decide +kernel
theorem t3 : ∀ (x : Fin 5) (y : Fin 5) (a : Fin 5), (((x.val + 16 * y.val) / 16 + 16 * a.val + (x.val + 16 * y.val)) &&& 15) = b3 (x.val + 16 * y.val) := by decide +kernel
theorem t3b : ∀ b : Fin 256, b3 (b2 (b1 b.val)) ≤ 8 ∧ (b3 (b2 (b1 b.val)) = 0 → b.val = 0) := by decide +kernel

theorem step1_cons {n a b : Nat} (hb : b < 256) : step1 (n + 1) (b + 256 * a) = b1 b + 256 * step1 n a := by
  have e : (b + 256 * a) / 2 = (b / 2 + 128 * (a % 2)) + 256 * (a / 2) := by omega
  have h := t1 ⟨b, hb⟩ ⟨a % 2, by omega⟩
  simp only at h
  simp only [step1, rep, b1]
  rw [e, andB (by omega) (by omega), andB hb (by omega), h]
  omega
theorem step2_cons {n a b : Nat} (hb : b < 256) : step2 (n + 1) (b + 256 * a) = b2 b + 256 * step2 n a := by
  have e : (b + 256 * a) / 4 = (b / 4 + 64 * (a % 4)) + 256 * (a / 4) := by omega
  have h := t2 ⟨b, hb⟩ ⟨a % 4, by omega⟩
  simp only at h
  simp only [step2, rep, b2]
  rw [e, andB (by omega) (by omega), andB hb (by omega), h]
  omega
theorem step3_cons {n a b : Nat} (hb : b % 16 ≤ 4) (hb2 : b / 16 ≤ 4) (ha : a % 16 ≤ 4) : step3 (n + 1) (b + 256 * a) = b3 b + 256 * step3 n a := by
  have e : (b + 256 * a) / 16 + (b + 256 * a) = (b / 16 + 16 * (a % 16) + b) + 256 * (a / 16 + a) := by omega
  have h := t3 ⟨b % 16, by omega⟩ ⟨b / 16, by omega⟩ ⟨a % 16, by omega⟩
  simp only [Nat.mod_add_div] at h
  simp only [step3, rep]
  rw [e, andB (by omega) (by omega), h]
theorem step_zero (x : Nat) : step1 0 x = 0 ∧ step2 0 x = 0 ∧ step3 0 x = 0 := by simp [step1, step2, step3, rep]

/-- All three, byte by byte. -/
def bytesN : Nat → Nat → List Nat
  | 0, _ => []
  | n + 1, x => x % 256 :: bytesN n (x / 256)
def joinN : List Nat → Nat
  | [] => 0
  | b :: l => b + 256 * joinN l
theorem join_bytes : ∀ n x, x < 256 ^ n → joinN (bytesN n x) = x
  | 0, x, h => by simp [bytesN, joinN] at h ⊢; omega
  | n + 1, x, h => by
    have : x / 256 < 256 ^ n := by rw [Nat.pow_succ] at h; omega
    simp only [bytesN, joinN, join_bytes n _ this]
    omega
theorem len_bytes : ∀ n x, (bytesN n x).length = n
  | 0, _ => rfl
  | n + 1, x => by simp [bytesN, len_bytes n]
theorem lt_bytes : ∀ n x, ∀ b ∈ bytesN n x, b < 256
  | 0, _, b, h => by cases h
  | n + 1, x, b, h => by
    rcases List.mem_cons.1 h with h | h
    · omega
    · exact lt_bytes n _ b h
theorem s1_join : ∀ l : List Nat, (∀ b ∈ l, b < 256) → step1 l.length (joinN l) = joinN (l.map b1)
  | [], _ => by simp [joinN, step1, rep]
  | b :: l, h => by
    simp only [List.length_cons, joinN, List.map_cons]
    rw [step1_cons (h b (by simp)), s1_join l fun x hx => h x (by simp [hx])]
theorem s2_join : ∀ l : List Nat, (∀ b ∈ l, b < 256) → step2 l.length (joinN l) = joinN (l.map b2)
  | [], _ => by simp [joinN, step2, rep]
  | b :: l, h => by
    simp only [List.length_cons, joinN, List.map_cons]
    rw [step2_cons (h b (by simp)), s2_join l fun x hx => h x (by simp [hx])]
theorem s3_join : ∀ l : List Nat, (∀ b ∈ l, b % 16 ≤ 4 ∧ b / 16 ≤ 4) → step3 l.length (joinN l) = joinN (l.map b3)
  | [], _ => by simp [joinN, step3, rep]
  | b :: l, h => by
    simp only [List.length_cons, joinN, List.map_cons]
    have ha : joinN l % 16 ≤ 4 := by
      cases l with
      | nil => simp [joinN]
      | cons c l => have := h c (by simp); simp only [joinN]; omega
    rw [step3_cons (h b (by simp)).1 (h b (by simp)).2 ha, s3_join l fun x hx => h x (by simp [hx])]
/-- How many bits of each byte. -/
def popB (b : Nat) : Nat := b3 (b2 (b1 b))
theorem s123 {x : Nat} (hx : x < 256 ^ 8) : step3 8 (step2 8 (step1 8 x)) = joinN ((bytesN 8 x).map popB) := by
  have hl := len_bytes 8 x
  have hb := lt_bytes 8 x
  have e1 := s1_join (bytesN 8 x) hb
  rw [hl, join_bytes 8 x hx] at e1
  have e2 := s2_join ((bytesN 8 x).map b1) (fun b h => by
    obtain ⟨c, hc, rfl⟩ := List.mem_map.1 h
    exact (t1b ⟨c, hb c hc⟩).1)
  rw [List.length_map, hl, ← e1, List.map_map] at e2
  have e3 := s3_join ((bytesN 8 x).map (b2 ∘ b1)) (fun b h => by
    obtain ⟨c, hc, rfl⟩ := List.mem_map.1 h
    exact t2b ⟨c, hb c hc⟩)
  rw [List.length_map, hl, ← e2, List.map_map] at e3
  rw [e3]; rfl

/-- The sum of eight small bytes. -/
theorem sum8 {q0 q1 q2 q3 q4 q5 q6 q7 : Nat} (h0 : q0 ≤ 8) (h1 : q1 ≤ 8) (h2 : q2 ≤ 8) (h3 : q3 ≤ 8) (h4 : q4 ≤ 8) (h5 : q5 ≤ 8) (h6 : q6 ≤ 8) (h7 : q7 ≤ 8) {x y z w : Nat}
    (hx : x = joinN [q0, q1, q2, q3, q4, q5, q6, q7]) (hy : y = x / 256 + x) (hz : z = y / 65536 + y) (hw : w = z / 4294967296 + z) :
    x < 2 ^ 60 ∧ y < 2 ^ 61 ∧ z < 2 ^ 62 ∧ w < 2 ^ 63 ∧ w % 128 = q0 + q1 + q2 + q3 + q4 + q5 + q6 + q7 := by
  simp only [joinN, Nat.mul_zero, Nat.add_zero] at hx
  obtain ⟨x6, e6⟩ : ∃ a, a = q6 + 256 * q7 := ⟨_, rfl⟩
  rw [← e6] at hx
  obtain ⟨x5, e5⟩ : ∃ a, a = q5 + 256 * x6 := ⟨_, rfl⟩
  rw [← e5] at hx
  obtain ⟨x4, e4⟩ : ∃ a, a = q4 + 256 * x5 := ⟨_, rfl⟩
  rw [← e4] at hx
  obtain ⟨x3, e3⟩ : ∃ a, a = q3 + 256 * x4 := ⟨_, rfl⟩
  rw [← e3] at hx
  obtain ⟨x2, e2⟩ : ∃ a, a = q2 + 256 * x3 := ⟨_, rfl⟩
  rw [← e2] at hx
  obtain ⟨x1, e1⟩ : ∃ a, a = q1 + 256 * x2 := ⟨_, rfl⟩
  rw [← e1] at hx
  have l6 : x6 < 2 ^ 12 := by omega
  have l5 : x5 < 2 ^ 20 := by omega
  have l4 : x4 < 2 ^ 28 := by omega
  have l3 : x3 < 2 ^ 36 := by omega
  have l2 : x2 < 2 ^ 44 := by omega
  have l1 : x1 < 2 ^ 52 := by omega
  have l0 : x < 2 ^ 60 := by omega
  have d1 : x / 256 = x1 := by omega
  rw [d1] at hy
  have d2 : y / 65536 = x2 + x3 := by
    clear hz hw e3 e4 e5 e6 l6 l5 l4 l3 l2 l1 l0 d1
    omega
  rw [d2] at hz
  have f0 : x = (q0 + 256 * q1 + 65536 * q2 + 16777216 * q3) + 4294967296 * x4 := by omega
  have f1 : x1 = (q1 + 256 * q2 + 65536 * q3 + 16777216 * q4) + 4294967296 * x5 := by omega
  have f2 : x2 = (q2 + 256 * q3 + 65536 * q4 + 16777216 * q5) + 4294967296 * x6 := by omega
  have f3 : x3 = (q3 + 256 * q4 + 65536 * q5 + 16777216 * q6) + 4294967296 * q7 := by omega
  have d4 : z / 4294967296 = x4 + x5 + x6 + q7 := by
    clear hw e1 e2 e3 e4 e5 e6 l6 l5 l4 l3 l2 l1 l0 d1 d2 hx
    omega
  rw [d4] at hw
  have d5 : w = (q0 + q1 + q2 + q3 + q4 + q5 + q6 + q7) + 128 * (2 * (x1 + x2 + x3 + x4 + x5 + x6 + q7)) := by
    clear d1 d2 d4 f0 f1 f2 f3 l6 l5 l4 l3 l2 l1 l0 h0 h1 h2 h3 h4 h5 h6 h7
    omega
  refine ⟨l0, by omega, by omega, by omega, ?_⟩
  rw [d5, Nat.add_mul_mod_self_left]
  exact Nat.mod_eq_of_lt (by omega)
/-- How many bits of a word. -/
def pop64 (x : Nat) : Nat := ((bytesN 8 x).map popB).sum
theorem pop_eq {x y z w v : Nat} (hx : x < 2 ^ 64) (hy : y = step3 8 (step2 8 (step1 8 x))) (hz : z = y / 256 + y) (hw : w = z / 65536 + z) (hv : v = w / 4294967296 + w) :
    y < 2 ^ 60 ∧ z < 2 ^ 61 ∧ w < 2 ^ 62 ∧ v < 2 ^ 63 ∧ v % 128 = pop64 x := by
  rw [s123 hx] at hy
  have hb := fun b h => (t3b ⟨b, lt_bytes 8 x b h⟩).1
  simp only [bytesN, List.mem_cons, List.map_cons, List.map_nil, popB] at hb hy
  have := sum8 (hb _ (.inl rfl)) (hb _ (.inr (.inl rfl))) (hb _ (.inr (.inr (.inl rfl)))) (hb _ (.inr (.inr (.inr (.inl rfl))))) (hb _ (.inr (.inr (.inr (.inr (.inl rfl)))))) (hb _ (.inr (.inr (.inr (.inr (.inr (.inl rfl)))))))
    (hb _ (.inr (.inr (.inr (.inr (.inr (.inr (.inl rfl)))))))) (hb _ (.inr (.inr (.inr (.inr (.inr (.inr (.inr (.inl rfl))))))))) hy hz hw hv
  refine ⟨this.1, this.2.1, this.2.2.1, this.2.2.2.1, ?_⟩
  rw [this.2.2.2.2]
  simp only [pop64, bytesN, List.map_cons, List.map_nil, List.sum_cons, List.sum_nil, popB]
  omega
theorem pop_zero {x : Nat} (hx : x < 2 ^ 64) (h : pop64 x = 0) : x = 0 := by
  have key : ∀ l : List Nat, (∀ b ∈ l, b < 256) → (l.map popB).sum = 0 → joinN l = 0 := by
    intro l
    induction l with
    | nil => intro _ _; rfl
    | cons b l ih =>
      intro hb hs
      simp only [List.map_cons, List.sum_cons] at hs
      have h1 := (t3b ⟨b, hb b (by simp)⟩).2 (by simp only [popB] at hs; simp only; omega)
      simp only at h1
      have h2 := ih (fun x hx => hb x (by simp [hx])) (by omega)
      simp only [joinN]; omega
  have := key _ (lt_bytes 8 x) h
  rwa [join_bytes 8 x hx] at this
theorem pop_le (x : Nat) : pop64 x ≤ 64 := by
  have hb := fun b h => (t3b ⟨b, lt_bytes 8 x b h⟩).1
  simp only [pop64, bytesN, List.mem_cons, List.map_cons, List.map_nil, List.sum_cons, List.sum_nil, popB] at hb ⊢
  have h0 := hb _ (.inl rfl)
  have h1 := hb _ (.inr (.inl rfl))
  have h2 := hb _ (.inr (.inr (.inl rfl)))
  have h3 := hb _ (.inr (.inr (.inr (.inl rfl))))
  have h4 := hb _ (.inr (.inr (.inr (.inr (.inl rfl)))))
  have h5 := hb _ (.inr (.inr (.inr (.inr (.inr (.inl rfl))))))
  have h6 := hb _ (.inr (.inr (.inr (.inr (.inr (.inr (.inl rfl)))))))
  have h7 := hb _ (.inr (.inr (.inr (.inr (.inr (.inr (.inr (.inl rfl))))))))
  omega
end Lng
