/- Plain arithmetic of numbers of four limbs. -/
import Derived.Test.YtchjjbklkmfelaaLimb
namespace Go.Proofs.Ytchjjbklkmfelaa
open Go.RowKit
set_option linter.unusedVariables false

/-- A limb of a number. -/
def limb (n k : Nat) : Int := ((n / 18446744073709551616 ^ k % 18446744073709551616 : Nat) : Int)

theorem limb_nonneg (n k : Nat) : 0 ≤ limb n k := by unfold limb; omega
theorem limb_lt (n k : Nat) : limb n k < 18446744073709551616 := by
  unfold limb
  have := Nat.mod_lt (n / 18446744073709551616 ^ k) (show 0 < 18446744073709551616 by decide)
  omega
theorem limb_bd (n : Nat) : ∀ k, 0 ≤ limb n k ∧ limb n k < 18446744073709551616 := fun k => ⟨limb_nonneg n k, limb_lt n k⟩

/-- What is carried into limb k. -/
def carry (O : Int → Int → Int → Int) (A B : Nat → Int) : Nat → Int
  | 0 => 0
  | k + 1 => O (A k) (B k) (carry O A B k)

theorem add_step64 {a b k cy : Nat} (h : a % 18446744073709551616 ^ k + b % 18446744073709551616 ^ k = (a + b) % 18446744073709551616 ^ k + cy * 18446744073709551616 ^ k) :
    (a + b) / 18446744073709551616 ^ k % 18446744073709551616 = (a / 18446744073709551616 ^ k % 18446744073709551616 + b / 18446744073709551616 ^ k % 18446744073709551616 + cy) % 18446744073709551616 ∧
    a % 18446744073709551616 ^ (k + 1) + b % 18446744073709551616 ^ (k + 1) = (a + b) % 18446744073709551616 ^ (k + 1) + (a / 18446744073709551616 ^ k % 18446744073709551616 + b / 18446744073709551616 ^ k % 18446744073709551616 + cy) / 18446744073709551616 * 18446744073709551616 ^ (k + 1) := by
  have hp : 0 < 18446744073709551616 ^ k := Nat.pow_pos (by decide)
  rw [Nat.pow_succ, Nat.mod_mul, Nat.mod_mul, Nat.mod_mul]
  generalize 18446744073709551616 ^ k = p at *
  have ea := Nat.div_add_mod a p
  have eb := Nat.div_add_mod b p
  have es := Nat.div_add_mod (a + b) p
  have hd : (a + b) / p = a / p + b / p + cy := by
    have h1 : p * ((a + b) / p) = p * (a / p + b / p + cy) := by
      rw [Nat.mul_add, Nat.mul_add, Nat.mul_comm p cy]
      omega
    exact Nat.eq_of_mul_eq_mul_left hp h1
  rw [hd]
  generalize a / p = qa at *
  generalize b / p = qb at *
  refine ⟨by omega, ?_⟩
  have e1 : (qa % 18446744073709551616 + qb % 18446744073709551616 + cy) / 18446744073709551616 * (p * 18446744073709551616) = p * ((qa % 18446744073709551616 + qb % 18446744073709551616 + cy) / 18446744073709551616 * 18446744073709551616) := by
    rw [Nat.mul_comm p 18446744073709551616, ← Nat.mul_assoc, Nat.mul_comm]
  have e2 : p * (qa % 18446744073709551616) + p * (qb % 18446744073709551616) + cy * p = p * ((qa + qb + cy) % 18446744073709551616) + p * ((qa % 18446744073709551616 + qb % 18446744073709551616 + cy) / 18446744073709551616 * 18446744073709551616) := by
    rw [Nat.mul_comm cy p, ← Nat.mul_add, ← Nat.mul_add, ← Nat.mul_add]
    congr 1
    omega
  rw [e1]
  generalize p * (qa % 18446744073709551616) = u at *
  generalize p * (qb % 18446744073709551616) = v at *
  generalize p * ((qa + qb + cy) % 18446744073709551616) = x at *
  generalize p * ((qa % 18446744073709551616 + qb % 18446744073709551616 + cy) / 18446744073709551616 * 18446744073709551616) = y at *
  omega

theorem sub_step64 {a b k bw : Nat} (hab : b ≤ a) (hbw : bw ≤ 1) (h : a % 18446744073709551616 ^ k + bw * 18446744073709551616 ^ k = b % 18446744073709551616 ^ k + (a - b) % 18446744073709551616 ^ k) :
    let x : Int := (a / 18446744073709551616 ^ k % 18446744073709551616 : Nat) - (b / 18446744073709551616 ^ k % 18446744073709551616 : Nat) - bw
    (0 ≤ x → (((a - b) / 18446744073709551616 ^ k % 18446744073709551616 : Nat) : Int) = x ∧ a % 18446744073709551616 ^ (k + 1) = b % 18446744073709551616 ^ (k + 1) + (a - b) % 18446744073709551616 ^ (k + 1)) ∧
    (x < 0 → (((a - b) / 18446744073709551616 ^ k % 18446744073709551616 : Nat) : Int) = x + 18446744073709551616 ∧ a % 18446744073709551616 ^ (k + 1) + 18446744073709551616 ^ (k + 1) = b % 18446744073709551616 ^ (k + 1) + (a - b) % 18446744073709551616 ^ (k + 1)) := by
  have hp : 0 < 18446744073709551616 ^ k := Nat.pow_pos (by decide)
  intro x
  show (0 ≤ x → _) ∧ _
  have hx : x = (a / 18446744073709551616 ^ k % 18446744073709551616 : Nat) - (b / 18446744073709551616 ^ k % 18446744073709551616 : Nat) - bw := rfl
  clear_value x
  rw [Nat.pow_succ, Nat.mod_mul, Nat.mod_mul, Nat.mod_mul]
  generalize 18446744073709551616 ^ k = p at *
  have ea := Nat.div_add_mod a p
  have eb := Nat.div_add_mod b p
  have es := Nat.div_add_mod (a - b) p
  have hd : (a - b) / p + b / p + bw = a / p := by
    have h1 : p * ((a - b) / p + b / p + bw) = p * (a / p) := by
      rw [Nat.mul_add, Nat.mul_add, Nat.mul_comm p bw]
      omega
    exact Nat.eq_of_mul_eq_mul_left hp h1
  rw [← hd] at ea hx ⊢
  generalize (a - b) / p = qs at *
  generalize b / p = qb at *
  constructor
  · intro h0
    have e : (qs + qb + bw) % 18446744073709551616 = qb % 18446744073709551616 + bw + qs % 18446744073709551616 := by omega
    refine ⟨by omega, ?_⟩
    rw [e, Nat.mul_add, Nat.mul_add, Nat.mul_comm p bw]
    generalize p * (qb % 18446744073709551616) = u at *
    generalize p * (qs % 18446744073709551616) = v at *
    omega
  · intro h0
    have e : (qs + qb + bw) % 18446744073709551616 + 18446744073709551616 = qb % 18446744073709551616 + bw + qs % 18446744073709551616 := by omega
    refine ⟨by omega, ?_⟩
    have e2 : p * ((qs + qb + bw) % 18446744073709551616) + p * 18446744073709551616 = p * (qb % 18446744073709551616) + p * bw + p * (qs % 18446744073709551616) := by
      rw [← Nat.mul_add, ← Nat.mul_add, ← Nat.mul_add, e]
    rw [Nat.mul_comm p bw] at e2
    generalize p * ((qs + qb + bw) % 18446744073709551616) = z at *
    generalize p * (qb % 18446744073709551616) = u at *
    generalize p * (qs % 18446744073709551616) = v at *
    omega

theorem cin_cast (c : Nat) (h : c ≤ 1) : cin (c : Int) = (c : Int) := by
  have : c = 0 ∨ c = 1 := by omega
  rcases this with rfl | rfl <;> rfl

theorem carry_add (a b : Nat) : ∀ k, ∃ cy : Nat, cy ≤ 1 ∧ carry addO (limb a) (limb b) k = (cy : Int) ∧ a % 18446744073709551616 ^ k + b % 18446744073709551616 ^ k = (a + b) % 18446744073709551616 ^ k + cy * 18446744073709551616 ^ k
  | 0 => ⟨0, by omega, rfl, by simp [Nat.mod_one]⟩
  | k + 1 => by
    obtain ⟨cy, h1, h2, h3⟩ := carry_add a b k
    have hs := add_step64 h3
    have xa := Nat.mod_lt (a / 18446744073709551616 ^ k) (show 0 < 18446744073709551616 by decide)
    have xb := Nat.mod_lt (b / 18446744073709551616 ^ k) (show 0 < 18446744073709551616 by decide)
    refine ⟨_, ?_, ?_, hs.2⟩
    · generalize a / 18446744073709551616 ^ k % 18446744073709551616 = x at *
      generalize b / 18446744073709551616 ^ k % 18446744073709551616 = y at *
      omega
    · rw [carry, h2, addO, cin_cast cy h1, limb, limb]
      generalize a / 18446744073709551616 ^ k % 18446744073709551616 = x at *
      generalize b / 18446744073709551616 ^ k % 18446744073709551616 = y at *
      omega

theorem limb_add (a b k : Nat) : addS (limb a k) (limb b k) (carry addO (limb a) (limb b) k) = limb (a + b) k := by
  obtain ⟨cy, h1, h2, h3⟩ := carry_add a b k
  have hs := (add_step64 h3).1
  rw [h2, addS, cin_cast cy h1, limb, limb, limb, hs]
  generalize a / 18446744073709551616 ^ k % 18446744073709551616 = x at *
  generalize b / 18446744073709551616 ^ k % 18446744073709551616 = y at *
  omega

theorem carry_add4 {a b : Nat} (ha : a < 18446744073709551616 ^ 4) (hb : b < 18446744073709551616 ^ 4) : carry addO (limb a) (limb b) 4 = 0 ↔ a + b < 18446744073709551616 ^ 4 := by
  obtain ⟨cy, h1, h2, h3⟩ := carry_add a b 4
  rw [h2]
  rw [Nat.mod_eq_of_lt ha, Nat.mod_eq_of_lt hb] at h3
  have hm := Nat.mod_lt (a + b) (show 0 < 18446744073709551616 ^ 4 by decide)
  generalize 18446744073709551616 ^ 4 = p at *
  have : cy = 0 ∨ cy = 1 := by omega
  rcases this with rfl | rfl
  · rw [Nat.zero_mul] at h3; omega
  · rw [Nat.one_mul] at h3; omega

theorem carry_sub {a b : Nat} : ∀ k, carry subO (limb a) (limb b) k = if a % 18446744073709551616 ^ k < b % 18446744073709551616 ^ k then 1 else 0
  | 0 => by simp [carry, Nat.mod_one]
  | k + 1 => by
    rw [carry, carry_sub k, subO, limb, limb, Nat.pow_succ, Nat.mod_mul, Nat.mod_mul]
    have hp : 0 < 18446744073709551616 ^ k := Nat.pow_pos (by decide)
    generalize 18446744073709551616 ^ k = p at *
    have xa := Nat.mod_lt a hp
    have xb := Nat.mod_lt b hp
    generalize a / p % 18446744073709551616 = x at *
    generalize b / p % 18446744073709551616 = y at *
    generalize a % p = u at *
    generalize b % p = v at *
    have key : (u + p * x < v + p * y) ↔ (x < y ∨ x = y ∧ u < v) := by
      constructor
      · intro h
        rcases Nat.lt_trichotomy x y with h1 | h1 | h1
        · exact .inl h1
        · subst h1; exact .inr ⟨rfl, by omega⟩
        · have : p * (y + 1) ≤ p * x := Nat.mul_le_mul_left _ h1
          rw [Nat.mul_add] at this
          omega
      · rintro (h1 | ⟨rfl, h1⟩)
        · have : p * (x + 1) ≤ p * y := Nat.mul_le_mul_left _ h1
          rw [Nat.mul_add] at this
          omega
        · omega
    by_cases hc : u < v
    · rw [if_pos hc]
      rw [show cin 1 = 1 from rfl]
      by_cases h : (x : Int) < y + 1
      · rw [if_pos h, if_pos (key.2 (by omega))]
      · rw [if_neg h, if_neg (fun h' => by have := key.1 h'; omega)]
    · rw [if_neg hc]
      rw [show cin 0 = 0 from rfl]
      by_cases h : (x : Int) < y + 0
      · rw [if_pos h, if_pos (key.2 (by omega))]
      · rw [if_neg h, if_neg (fun h' => by have := key.1 h'; omega)]

/-- A number's value has borrowed below limb k just if it is less there. -/
theorem sub_low {a b : Nat} (hab : b ≤ a) : ∀ k, ∃ bw : Nat, bw ≤ 1 ∧ carry subO (limb a) (limb b) k = (bw : Int) ∧ a % 18446744073709551616 ^ k + bw * 18446744073709551616 ^ k = b % 18446744073709551616 ^ k + (a - b) % 18446744073709551616 ^ k
  | 0 => ⟨0, by omega, rfl, by simp [Nat.mod_one]⟩
  | k + 1 => by
    obtain ⟨bw, h1, h2, h3⟩ := sub_low hab k
    have hs := sub_step64 hab h1 h3
    simp only at hs
    have xa := Nat.mod_lt (a / 18446744073709551616 ^ k) (show 0 < 18446744073709551616 by decide)
    have xb := Nat.mod_lt (b / 18446744073709551616 ^ k) (show 0 < 18446744073709551616 by decide)
    rw [carry, h2, subO, cin_cast bw h1, limb, limb]
    generalize a / 18446744073709551616 ^ k % 18446744073709551616 = x at *
    generalize b / 18446744073709551616 ^ k % 18446744073709551616 = y at *
    by_cases h : (x : Int) - y - bw < 0
    · refine ⟨1, by omega, by rw [if_pos (by omega)]; rfl, ?_⟩
      rw [Nat.one_mul]; exact (hs.2 h).2
    · refine ⟨0, by omega, by rw [if_neg (by omega)]; rfl, ?_⟩
      rw [Nat.zero_mul]; exact (hs.1 (by omega)).2

theorem limb_sub {a b : Nat} (hab : b ≤ a) (k : Nat) : subS (limb a k) (limb b k) (carry subO (limb a) (limb b) k) = limb (a - b) k := by
  obtain ⟨bw, h1, h2, h3⟩ := sub_low hab k
  have hs := sub_step64 hab h1 h3
  simp only at hs
  have xa := Nat.mod_lt (a / 18446744073709551616 ^ k) (show 0 < 18446744073709551616 by decide)
  have xb := Nat.mod_lt (b / 18446744073709551616 ^ k) (show 0 < 18446744073709551616 by decide)
  rw [h2, subS, cin_cast bw h1, limb, limb, limb]
  generalize a / 18446744073709551616 ^ k % 18446744073709551616 = x at *
  generalize b / 18446744073709551616 ^ k % 18446744073709551616 = y at *
  generalize (a - b) / 18446744073709551616 ^ k % 18446744073709551616 = z at *
  by_cases h : (x : Int) - y - bw < 0
  · have := (hs.2 h).1; omega
  · have := (hs.1 (by omega)).1; omega

theorem carry_sub4 {a b : Nat} (ha : a < 18446744073709551616 ^ 4) (hb : b < 18446744073709551616 ^ 4) : carry subO (limb a) (limb b) 4 = 0 ↔ b ≤ a := by
  rw [carry_sub 4, Nat.mod_eq_of_lt ha, Nat.mod_eq_of_lt hb]
  by_cases h : a < b
  · rw [if_pos h]; omega
  · rw [if_neg h]; omega

/-- The number of four limbs. -/
def num (a b c d : Int) : Nat := a.toNat + 18446744073709551616 * (b.toNat + 18446744073709551616 * (c.toNat + 18446744073709551616 * d.toNat))

theorem num_lt {a b c d : Int} (a1 : a < 18446744073709551616) (b1 : b < 18446744073709551616) (c1 : c < 18446744073709551616) (d1 : d < 18446744073709551616) : num a b c d < 18446744073709551616 ^ 4 := by
  unfold num
  have : 18446744073709551616 ^ 4 = 18446744073709551616 * (18446744073709551616 * (18446744073709551616 * 18446744073709551616)) := by decide
  rw [this]
  omega

theorem limb_num {a b c d : Int} (a0 : 0 ≤ a) (a1 : a < 18446744073709551616) (b0 : 0 ≤ b) (b1 : b < 18446744073709551616) (c0 : 0 ≤ c) (c1 : c < 18446744073709551616) (d0 : 0 ≤ d) (d1 : d < 18446744073709551616) :
    limb (num a b c d) 0 = a ∧ limb (num a b c d) 1 = b ∧ limb (num a b c d) 2 = c ∧ limb (num a b c d) 3 = d := by
  obtain ⟨a, rfl⟩ := Int.eq_ofNat_of_zero_le a0
  obtain ⟨b, rfl⟩ := Int.eq_ofNat_of_zero_le b0
  obtain ⟨c, rfl⟩ := Int.eq_ofNat_of_zero_le c0
  obtain ⟨d, rfl⟩ := Int.eq_ofNat_of_zero_le d0
  unfold limb num
  simp only [Int.toNat_natCast]
  refine ⟨?_, ?_, ?_, ?_⟩
  · rw [Nat.pow_zero, Nat.div_one]; omega
  · rw [Nat.pow_one]; omega
  · rw [Nat.pow_two, ← Nat.div_div_eq_div_mul]; omega
  · rw [Nat.pow_succ, Nat.pow_two, ← Nat.div_div_eq_div_mul, ← Nat.div_div_eq_div_mul]; omega

theorem num_limb {n : Nat} (h : n < 18446744073709551616 ^ 4) : num (limb n 0) (limb n 1) (limb n 2) (limb n 3) = n := by
  unfold limb num
  simp only [Int.toNat_natCast]
  rw [Nat.pow_zero, Nat.div_one, Nat.pow_one, Nat.pow_two, ← Nat.div_div_eq_div_mul, Nat.pow_succ, Nat.pow_two, ← Nat.div_div_eq_div_mul, ← Nat.div_div_eq_div_mul]
  have : 18446744073709551616 ^ 4 = 18446744073709551616 * (18446744073709551616 * (18446744073709551616 * 18446744073709551616)) := by decide
  rw [this] at h
  omega

theorem limb_zero (k : Nat) : limb 0 k = 0 := by unfold limb; simp

/-- A number of four limbs, as a value. -/
abbrev big (a b c d : Int) : Value := .agg #[.int .u64 a, .int .u64 b, .int .u64 c, .int .u64 d]
abbrev bigN (n : Nat) : Value := big (limb n 0) (limb n 1) (limb n 2) (limb n 3)

theorem bigN_zero : bigN 0 = big 0 0 0 0 := by unfold bigN; simp only [limb_zero]

theorem big_num {a b c d : Int} (a0 : 0 ≤ a) (a1 : a < 18446744073709551616) (b0 : 0 ≤ b) (b1 : b < 18446744073709551616) (c0 : 0 ≤ c) (c1 : c < 18446744073709551616) (d0 : 0 ≤ d) (d1 : d < 18446744073709551616) :
    big a b c d = bigN (num a b c d) := by
  obtain ⟨h0, h1, h2, h3⟩ := limb_num a0 a1 b0 b1 c0 c1 d0 d1
  unfold bigN
  rw [h0, h1, h2, h3]

theorem bigN_inj {m n : Nat} (hm : m < 18446744073709551616 ^ 4) (hn : n < 18446744073709551616 ^ 4) : (limb m 0 = limb n 0 ∧ limb m 1 = limb n 1 ∧ limb m 2 = limb n 2 ∧ limb m 3 = limb n 3) ↔ m = n := by
  constructor
  · rintro ⟨h0, h1, h2, h3⟩
    rw [← num_limb hm, ← num_limb hn, h0, h1, h2, h3]
  · rintro rfl; exact ⟨rfl, rfl, rfl, rfl⟩
end Go.Proofs.Ytchjjbklkmfelaa
