/- A variable that holds a number of four limbs; huge.row, huge.Short. -/
import Derived.Test.YthdbhajpjkkehaaDoorLimb
import Derived.StillTailTactics
import Derived.Test.YthdbhajpjkkehaaDoorLen
import Derived.ChangeKeysEq
namespace Go.Proofs.YthdbhajpjkkehaaDoor
open Go.RowKit
set_option linter.unusedVariables false

/-- A limb of a number. -/
def limb (n k : Nat) : Int := ((n / 18446744073709551616 ^ k % 18446744073709551616 : Nat) : Int)

theorem limb_nonneg (n k : Nat) : 0 ≤ limb n k := by unfold limb; omega
theorem limb_lt (n k : Nat) : limb n k < 18446744073709551616 := by
  unfold limb
  have := Nat.mod_lt (n / 18446744073709551616 ^ k) (show 0 < 18446744073709551616 by decide)
  omega
theorem limb_bd (n : Nat) : ∀ k, 0 ≤ limb n k ∧ limb n k < 18446744073709551616 := fun k => ⟨limb_nonneg n k, limb_lt n k⟩

/-- What is carried into limb k. -/
def carry (O : Int → Int → Int → Int) (A B : Nat → Int) : Nat → Int
  | 0 => 0
  | k + 1 => O (A k) (B k) (carry O A B k)

theorem add_step64 {a b k cy : Nat} (h : a % 18446744073709551616 ^ k + b % 18446744073709551616 ^ k = (a + b) % 18446744073709551616 ^ k + cy * 18446744073709551616 ^ k) :
    (a + b) / 18446744073709551616 ^ k % 18446744073709551616 = (a / 18446744073709551616 ^ k % 18446744073709551616 + b / 18446744073709551616 ^ k % 18446744073709551616 + cy) % 18446744073709551616 ∧
    a % 18446744073709551616 ^ (k + 1) + b % 18446744073709551616 ^ (k + 1) = (a + b) % 18446744073709551616 ^ (k + 1) + (a / 18446744073709551616 ^ k % 18446744073709551616 + b / 18446744073709551616 ^ k % 18446744073709551616 + cy) / 18446744073709551616 * 18446744073709551616 ^ (k + 1) := by
  have hp : 0 < 18446744073709551616 ^ k := Nat.pow_pos (by decide)
  rw [Nat.pow_succ, Nat.mod_mul, Nat.mod_mul, Nat.mod_mul]
  generalize 18446744073709551616 ^ k = p at *
  have ea := Nat.div_add_mod a p
  have eb := Nat.div_add_mod b p
  have es := Nat.div_add_mod (a + b) p
  have hd : (a + b) / p = a / p + b / p + cy := by
    have h1 : p * ((a + b) / p) = p * (a / p + b / p + cy) := by
      rw [Nat.mul_add, Nat.mul_add, Nat.mul_comm p cy]
      omega
    exact Nat.eq_of_mul_eq_mul_left hp h1
  rw [hd]
  generalize a / p = qa at *
  generalize b / p = qb at *
  refine ⟨by omega, ?_⟩
  have e1 : (qa % 18446744073709551616 + qb % 18446744073709551616 + cy) / 18446744073709551616 * (p * 18446744073709551616) = p * ((qa % 18446744073709551616 + qb % 18446744073709551616 + cy) / 18446744073709551616 * 18446744073709551616) := by
    rw [Nat.mul_comm p 18446744073709551616, ← Nat.mul_assoc, Nat.mul_comm]
  have e2 : p * (qa % 18446744073709551616) + p * (qb % 18446744073709551616) + cy * p = p * ((qa + qb + cy) % 18446744073709551616) + p * ((qa % 18446744073709551616 + qb % 18446744073709551616 + cy) / 18446744073709551616 * 18446744073709551616) := by
    rw [Nat.mul_comm cy p, ← Nat.mul_add, ← Nat.mul_add, ← Nat.mul_add]
    congr 1
    omega
  rw [e1]
  generalize p * (qa % 18446744073709551616) = u at *
  generalize p * (qb % 18446744073709551616) = v at *
  generalize p * ((qa + qb + cy) % 18446744073709551616) = x at *
  generalize p * ((qa % 18446744073709551616 + qb % 18446744073709551616 + cy) / 18446744073709551616 * 18446744073709551616) = y at *
  omega

theorem sub_step64 {a b k bw : Nat} (hab : b ≤ a) (hbw : bw ≤ 1) (h : a % 18446744073709551616 ^ k + bw * 18446744073709551616 ^ k = b % 18446744073709551616 ^ k + (a - b) % 18446744073709551616 ^ k) :
    let x : Int := (a / 18446744073709551616 ^ k % 18446744073709551616 : Nat) - (b / 18446744073709551616 ^ k % 18446744073709551616 : Nat) - bw
    (0 ≤ x → (((a - b) / 18446744073709551616 ^ k % 18446744073709551616 : Nat) : Int) = x ∧ a % 18446744073709551616 ^ (k + 1) = b % 18446744073709551616 ^ (k + 1) + (a - b) % 18446744073709551616 ^ (k + 1)) ∧
    (x < 0 → (((a - b) / 18446744073709551616 ^ k % 18446744073709551616 : Nat) : Int) = x + 18446744073709551616 ∧ a % 18446744073709551616 ^ (k + 1) + 18446744073709551616 ^ (k + 1) = b % 18446744073709551616 ^ (k + 1) + (a - b) % 18446744073709551616 ^ (k + 1)) := by
  have hp : 0 < 18446744073709551616 ^ k := Nat.pow_pos (by decide)
  intro x
  show (0 ≤ x → _) ∧ _
  have hx : x = (a / 18446744073709551616 ^ k % 18446744073709551616 : Nat) - (b / 18446744073709551616 ^ k % 18446744073709551616 : Nat) - bw := rfl
  clear_value x
  rw [Nat.pow_succ, Nat.mod_mul, Nat.mod_mul, Nat.mod_mul]
  generalize 18446744073709551616 ^ k = p at *
  have ea := Nat.div_add_mod a p
  have eb := Nat.div_add_mod b p
  have es := Nat.div_add_mod (a - b) p
  have hd : (a - b) / p + b / p + bw = a / p := by
    have h1 : p * ((a - b) / p + b / p + bw) = p * (a / p) := by
      rw [Nat.mul_add, Nat.mul_add, Nat.mul_comm p bw]
      omega
    exact Nat.eq_of_mul_eq_mul_left hp h1
  rw [← hd] at ea hx ⊢
  generalize (a - b) / p = qs at *
  generalize b / p = qb at *
  constructor
  · intro h0
    have e : (qs + qb + bw) % 18446744073709551616 = qb % 18446744073709551616 + bw + qs % 18446744073709551616 := by omega
    refine ⟨by omega, ?_⟩
    rw [e, Nat.mul_add, Nat.mul_add, Nat.mul_comm p bw]
    generalize p * (qb % 18446744073709551616) = u at *
    generalize p * (qs % 18446744073709551616) = v at *
    omega
  · intro h0
    have e : (qs + qb + bw) % 18446744073709551616 + 18446744073709551616 = qb % 18446744073709551616 + bw + qs % 18446744073709551616 := by omega
    refine ⟨by omega, ?_⟩
    have e2 : p * ((qs + qb + bw) % 18446744073709551616) + p * 18446744073709551616 = p * (qb % 18446744073709551616) + p * bw + p * (qs % 18446744073709551616) := by
      rw [← Nat.mul_add, ← Nat.mul_add, ← Nat.mul_add, e]
    rw [Nat.mul_comm p bw] at e2
    generalize p * ((qs + qb + bw) % 18446744073709551616) = z at *
    generalize p * (qb % 18446744073709551616) = u at *
    generalize p * (qs % 18446744073709551616) = v at *
    omega

theorem cin_cast (c : Nat) (h : c ≤ 1) : cin (c : Int) = (c : Int) := by
  have : c = 0 ∨ c = 1 := by omega
  rcases this with rfl | rfl <;> rfl

theorem carry_add (a b : Nat) : ∀ k, ∃ cy : Nat, cy ≤ 1 ∧ carry addO (limb a) (limb b) k = (cy : Int) ∧ a % 18446744073709551616 ^ k + b % 18446744073709551616 ^ k = (a + b) % 18446744073709551616 ^ k + cy * 18446744073709551616 ^ k
  | 0 => ⟨0, by omega, rfl, by simp [Nat.mod_one]⟩
  | k + 1 => by
    obtain ⟨cy, h1, h2, h3⟩ := carry_add a b k
    have hs := add_step64 h3
    have xa := Nat.mod_lt (a / 18446744073709551616 ^ k) (show 0 < 18446744073709551616 by decide)
    have xb := Nat.mod_lt (b / 18446744073709551616 ^ k) (show 0 < 18446744073709551616 by decide)
    refine ⟨_, ?_, ?_, hs.2⟩
    · generalize a / 18446744073709551616 ^ k % 18446744073709551616 = x at *
      generalize b / 18446744073709551616 ^ k % 18446744073709551616 = y at *
      omega
    · rw [carry, h2, addO, cin_cast cy h1, limb, limb]
      generalize a / 18446744073709551616 ^ k % 18446744073709551616 = x at *
      generalize b / 18446744073709551616 ^ k % 18446744073709551616 = y at *
      omega

theorem limb_add (a b k : Nat) : addS (limb a k) (limb b k) (carry addO (limb a) (limb b) k) = limb (a + b) k := by
  obtain ⟨cy, h1, h2, h3⟩ := carry_add a b k
  have hs := (add_step64 h3).1
  rw [h2, addS, cin_cast cy h1, limb, limb, limb, hs]
  generalize a / 18446744073709551616 ^ k % 18446744073709551616 = x at *
  generalize b / 18446744073709551616 ^ k % 18446744073709551616 = y at *
  omega

theorem carry_add4 {a b : Nat} (ha : a < 18446744073709551616 ^ 4) (hb : b < 18446744073709551616 ^ 4) : carry addO (limb a) (limb b) 4 = 0 ↔ a + b < 18446744073709551616 ^ 4 := by
  obtain ⟨cy, h1, h2, h3⟩ := carry_add a b 4
  rw [h2]
  rw [Nat.mod_eq_of_lt ha, Nat.mod_eq_of_lt hb] at h3
  have hm := Nat.mod_lt (a + b) (show 0 < 18446744073709551616 ^ 4 by decide)
  generalize 18446744073709551616 ^ 4 = p at *
  have : cy = 0 ∨ cy = 1 := by omega
  rcases this with rfl | rfl
  · rw [Nat.zero_mul] at h3; omega
  · rw [Nat.one_mul] at h3; omega

theorem carry_sub {a b : Nat} : ∀ k, carry subO (limb a) (limb b) k = if a % 18446744073709551616 ^ k < b % 18446744073709551616 ^ k then 1 else 0
  | 0 => by simp [carry, Nat.mod_one]
  | k + 1 => by
    rw [carry, carry_sub k, subO, limb, limb, Nat.pow_succ, Nat.mod_mul, Nat.mod_mul]
    have hp : 0 < 18446744073709551616 ^ k := Nat.pow_pos (by decide)
    generalize 18446744073709551616 ^ k = p at *
    have xa := Nat.mod_lt a hp
    have xb := Nat.mod_lt b hp
    generalize a / p % 18446744073709551616 = x at *
    generalize b / p % 18446744073709551616 = y at *
    generalize a % p = u at *
    generalize b % p = v at *
    have key : (u + p * x < v + p * y) ↔ (x < y ∨ x = y ∧ u < v) := by
      constructor
      · intro h
        rcases Nat.lt_trichotomy x y with h1 | h1 | h1
        · exact .inl h1
        · subst h1; exact .inr ⟨rfl, by omega⟩
        · have : p * (y + 1) ≤ p * x := Nat.mul_le_mul_left _ h1
          rw [Nat.mul_add] at this
          omega
      · rintro (h1 | ⟨rfl, h1⟩)
        · have : p * (x + 1) ≤ p * y := Nat.mul_le_mul_left _ h1
          rw [Nat.mul_add] at this
          omega
        · omega
    by_cases hc : u < v
    · rw [if_pos hc]
      rw [show cin 1 = 1 from rfl]
      by_cases h : (x : Int) < y + 1
      · rw [if_pos h, if_pos (key.2 (by omega))]
      · rw [if_neg h, if_neg (fun h' => by have := key.1 h'; omega)]
    · rw [if_neg hc]
      rw [show cin 0 = 0 from rfl]
      by_cases h : (x : Int) < y + 0
      · rw [if_pos h, if_pos (key.2 (by omega))]
      · rw [if_neg h, if_neg (fun h' => by have := key.1 h'; omega)]

/-- A number's value has borrowed below limb k just if it is less there. -/
theorem sub_low {a b : Nat} (hab : b ≤ a) : ∀ k, ∃ bw : Nat, bw ≤ 1 ∧ carry subO (limb a) (limb b) k = (bw : Int) ∧ a % 18446744073709551616 ^ k + bw * 18446744073709551616 ^ k = b % 18446744073709551616 ^ k + (a - b) % 18446744073709551616 ^ k
  | 0 => ⟨0, by omega, rfl, by simp [Nat.mod_one]⟩
  | k + 1 => by
    obtain ⟨bw, h1, h2, h3⟩ := sub_low hab k
    have hs := sub_step64 hab h1 h3
    simp only at hs
    have xa := Nat.mod_lt (a / 18446744073709551616 ^ k) (show 0 < 18446744073709551616 by decide)
    have xb := Nat.mod_lt (b / 18446744073709551616 ^ k) (show 0 < 18446744073709551616 by decide)
    rw [carry, h2, subO, cin_cast bw h1, limb, limb]
    generalize a / 18446744073709551616 ^ k % 18446744073709551616 = x at *
    generalize b / 18446744073709551616 ^ k % 18446744073709551616 = y at *
    by_cases h : (x : Int) - y - bw < 0
    · refine ⟨1, by omega, by rw [if_pos (by omega)]; rfl, ?_⟩
      rw [Nat.one_mul]; exact (hs.2 h).2
    · refine ⟨0, by omega, by rw [if_neg (by omega)]; rfl, ?_⟩
      rw [Nat.zero_mul]; exact (hs.1 (by omega)).2

theorem limb_sub {a b : Nat} (hab : b ≤ a) (k : Nat) : subS (limb a k) (limb b k) (carry subO (limb a) (limb b) k) = limb (a - b) k := by
  obtain ⟨bw, h1, h2, h3⟩ := sub_low hab k
  have hs := sub_step64 hab h1 h3
  simp only at hs
  have xa := Nat.mod_lt (a / 18446744073709551616 ^ k) (show 0 < 18446744073709551616 by decide)
  have xb := Nat.mod_lt (b / 18446744073709551616 ^ k) (show 0 < 18446744073709551616 by decide)
  rw [h2, subS, cin_cast bw h1, limb, limb, limb]
  generalize a / 18446744073709551616 ^ k % 18446744073709551616 = x at *
  generalize b / 18446744073709551616 ^ k % 18446744073709551616 = y at *
  generalize (a - b) / 18446744073709551616 ^ k % 18446744073709551616 = z at *
  by_cases h : (x : Int) - y - bw < 0
  · have := (hs.2 h).1; omega
  · have := (hs.1 (by omega)).1; omega

theorem carry_sub4 {a b : Nat} (ha : a < 18446744073709551616 ^ 4) (hb : b < 18446744073709551616 ^ 4) : carry subO (limb a) (limb b) 4 = 0 ↔ b ≤ a := by
  rw [carry_sub 4, Nat.mod_eq_of_lt ha, Nat.mod_eq_of_lt hb]
  by_cases h : a < b
  · rw [if_pos h]; omega
  · rw [if_neg h]; omega

/-- The number of four limbs. -/
def num (a b c d : Int) : Nat := a.toNat + 18446744073709551616 * (b.toNat + 18446744073709551616 * (c.toNat + 18446744073709551616 * d.toNat))

theorem num_lt {a b c d : Int} (a1 : a < 18446744073709551616) (b1 : b < 18446744073709551616) (c1 : c < 18446744073709551616) (d1 : d < 18446744073709551616) : num a b c d < 18446744073709551616 ^ 4 := by
  unfold num
  have : 18446744073709551616 ^ 4 = 18446744073709551616 * (18446744073709551616 * (18446744073709551616 * 18446744073709551616)) := by decide
  rw [this]
  omega

theorem limb_num {a b c d : Int} (a0 : 0 ≤ a) (a1 : a < 18446744073709551616) (b0 : 0 ≤ b) (b1 : b < 18446744073709551616) (c0 : 0 ≤ c) (c1 : c < 18446744073709551616) (d0 : 0 ≤ d) (d1 : d < 18446744073709551616) :
    limb (num a b c d) 0 = a ∧ limb (num a b c d) 1 = b ∧ limb (num a b c d) 2 = c ∧ limb (num a b c d) 3 = d := by
  obtain ⟨a, rfl⟩ := Int.eq_ofNat_of_zero_le a0
  obtain ⟨b, rfl⟩ := Int.eq_ofNat_of_zero_le b0
  obtain ⟨c, rfl⟩ := Int.eq_ofNat_of_zero_le c0
  obtain ⟨d, rfl⟩ := Int.eq_ofNat_of_zero_le d0
  unfold limb num
  simp only [Int.toNat_natCast]
  refine ⟨?_, ?_, ?_, ?_⟩
  · rw [Nat.pow_zero, Nat.div_one]; omega
  · rw [Nat.pow_one]; omega
  · rw [Nat.pow_two, ← Nat.div_div_eq_div_mul]; omega
  · rw [Nat.pow_succ, Nat.pow_two, ← Nat.div_div_eq_div_mul, ← Nat.div_div_eq_div_mul]; omega

theorem num_limb {n : Nat} (h : n < 18446744073709551616 ^ 4) : num (limb n 0) (limb n 1) (limb n 2) (limb n 3) = n := by
  unfold limb num
  simp only [Int.toNat_natCast]
  rw [Nat.pow_zero, Nat.div_one, Nat.pow_one, Nat.pow_two, ← Nat.div_div_eq_div_mul, Nat.pow_succ, Nat.pow_two, ← Nat.div_div_eq_div_mul, ← Nat.div_div_eq_div_mul]
  have : 18446744073709551616 ^ 4 = 18446744073709551616 * (18446744073709551616 * (18446744073709551616 * 18446744073709551616)) := by decide
  rw [this] at h
  omega

theorem limb_zero (k : Nat) : limb 0 k = 0 := by unfold limb; simp

/-- A number of four limbs, as a value. -/
abbrev big (a b c d : Int) : Value := .agg #[.int .u64 a, .int .u64 b, .int .u64 c, .int .u64 d]
abbrev bigN (n : Nat) : Value := big (limb n 0) (limb n 1) (limb n 2) (limb n 3)

theorem bigN_zero : bigN 0 = big 0 0 0 0 := by unfold bigN; simp only [limb_zero]

theorem big_num {a b c d : Int} (a0 : 0 ≤ a) (a1 : a < 18446744073709551616) (b0 : 0 ≤ b) (b1 : b < 18446744073709551616) (c0 : 0 ≤ c) (c1 : c < 18446744073709551616) (d0 : 0 ≤ d) (d1 : d < 18446744073709551616) :
    big a b c d = bigN (num a b c d) := by
  obtain ⟨h0, h1, h2, h3⟩ := limb_num a0 a1 b0 b1 c0 c1 d0 d1
  unfold bigN
  rw [h0, h1, h2, h3]

theorem bigN_inj {m n : Nat} (hm : m < 18446744073709551616 ^ 4) (hn : n < 18446744073709551616 ^ 4) : (limb m 0 = limb n 0 ∧ limb m 1 = limb n 1 ∧ limb m 2 = limb n 2 ∧ limb m 3 = limb n 3) ↔ m = n := by
  constructor
  · rintro ⟨h0, h1, h2, h3⟩
    rw [← num_limb hm, ← num_limb hn, h0, h1, h2, h3]
  · rintro rfl; exact ⟨rfl, rfl, rfl, rfl⟩
end Go.Proofs.YthdbhajpjkkehaaDoor

namespace Go.Proofs.YthdbhajpjkkehaaDoor
open Go.RowKit
set_option linter.unusedVariables false
set_option linter.unusedSimpArgs false

/-- What a step of a chain does. -/
def Steps4 (F : FuncId) (S O : Int → Int → Int → Int) : Prop :=
  (∀ a b c (w : World), 0 ≤ a → a < 18446744073709551616 → 0 ≤ b → b < 18446744073709551616 →
    Calls Tryd.prog F #[.int .u64 a, .int .u64 b, .int .u64 c] w fun e w' => e = .returned (.tuple #[.int .u64 (S a b c), .int .u64 (O a b c)]) ∧ w = w')

def lim (A : Nat → Int) (j : Nat) : Value := .int .u64 (A j)

theorem rowIs_big (w : World) (A : Nat → Int) (t : TypeId) : (w.alloc (.cells #[.int .u64 (A 0), .int .u64 (A 1), .int .u64 (A 2), .int .u64 (A 3)] t)).rowIs w.heap.size t 4 (lim A) :=
  World.rowIs_alloc w #[.int .u64 (A 0), .int .u64 (A 1), .int .u64 (A 2), .int .u64 (A 3)] t (lim A) (fun i hi => by
    match i, hi with
    | 0, _ => rfl
    | 1, _ => rfl
    | 2, _ => rfl
    | 3, _ => rfl)

def row4 (A : Nat → Int) : Obj := .cells #[.int .u64 (A 0), .int .u64 (A 1), .int .u64 (A 2), .int .u64 (A 3)] 26
def chainW (w : World) (A B : Nat → Int) : World := (((w.alloc (row4 A)).alloc (row4 B)).alloc (row4 fun _ => 0)).alloc (row4 fun _ => 0)

theorem chainW_facts (w : World) (A B : Nat → Int) : (chainW w A B).rowIs w.heap.size 26 4 (lim A) ∧ (chainW w A B).rowIs (w.heap.size + 1) 26 4 (lim B) ∧
    (chainW w A B).rowIs (w.heap.size + 1 + 1) 26 4 (lim fun _ => 0) ∧ (chainW w A B).rowIs (w.heap.size + 1 + 1 + 1) 26 4 (lim fun _ => 0) ∧ Below w.heap.size w (chainW w A B) := by
  unfold chainW
  have h1 := rowIs_big w A 26
  have h2 := rowIs_big (w.alloc (row4 A)) B 26
  have h3 := rowIs_big ((w.alloc (row4 A)).alloc (row4 B)) (fun _ => 0) 26
  have h4 := rowIs_big (((w.alloc (row4 A)).alloc (row4 B)).alloc (row4 fun _ => 0)) (fun _ => 0) 26
  rw [World.size_alloc] at h2 h3 h4
  rw [World.size_alloc] at h3 h4
  rw [World.size_alloc] at h4
  exact ⟨((h1.alloc _).alloc _).alloc _, (h2.alloc _).alloc _, h3.alloc _, h4, ((((Below.refl _ _).alloc (Nat.le_refl _) _).alloc (by simp) _).alloc (by simp; omega) _).alloc (by simp; omega) _⟩

def chainV (S O : Int → Int → Int → Int) (A B : Nat → Int) : Value :=
  if carry O A B 4 = 0 then .tuple #[big (S (A 0) (B 0) (carry O A B 0)) (S (A 1) (B 1) (carry O A B 1)) (S (A 2) (B 2) (carry O A B 2)) (S (A 3) (B 3) (carry O A B 3)), .int .i64 0]
  else .tuple #[big 0 0 0 0, .int .i64 2]

theorem chain_set {w : World} {g k : Nat} {t : TypeId} {S O : Int → Int → Int → Int} {A B : Nat → Int} {x : Int} (h : w.rowIs g t 4 (lim fun j => if j < k then S (A j) (B j) (carry O A B j) else 0)) (hx : x = S (A k) (B k) (carry O A B k)) :
    (w.setCell ⟨g, k, none⟩ (.int .u64 x)).rowIs g t 4 (lim fun j => if j < k + 1 then S (A j) (B j) (carry O A B j) else 0) := by
  subst hx
  refine (h.set k _).congr fun j hj => ?_
  unfold lim
  show (if j = k then Value.int .u64 (S (A k) (B k) (carry O A B k)) else Value.int .u64 (if j < k then S (A j) (B j) (carry O A B j) else 0)) = Value.int .u64 (if j < k + 1 then S (A j) (B j) (carry O A B j) else 0)
  by_cases e : j = k
  · subst e
    rw [if_pos rfl, if_pos (by omega)]
  · rw [if_neg e]
    by_cases h : j < k
    · rw [if_pos h, if_pos (by omega)]
    · rw [if_neg h, if_neg (by omega)]

/-- The four cells of a number, and that they may be written. -/
theorem cells4 {w : World} {g : Nat} {t : TypeId} {A : Nat → Int} (h : w.rowIs g t 4 (lim A)) :
    (w.cell? ⟨g, 0, none⟩ = some (.int .u64 (A 0)) ∧ w.cell? ⟨g, 1, none⟩ = some (.int .u64 (A 1)) ∧ w.cell? ⟨g, 2, none⟩ = some (.int .u64 (A 2)) ∧ w.cell? ⟨g, 3, none⟩ = some (.int .u64 (A 3))) ∧
    (w.frozen? ⟨g, 0, none⟩ = false ∧ w.frozen? ⟨g, 1, none⟩ = false ∧ w.frozen? ⟨g, 2, none⟩ = false ∧ w.frozen? ⟨g, 3, none⟩ = false) :=
  ⟨⟨h.cell (by omega), h.cell (by omega), h.cell (by omega), h.cell (by omega)⟩, h.frozen 0, h.frozen 1, h.frozen 2, h.frozen 3⟩

theorem hof_num {x : Int} (h0 : 0 ≤ x) (h1 : x < 18446744073709551616) : big x 0 0 0 = bigN x.toNat := by
  rw [big_num h0 h1 (by omega) (by omega) (by omega) (by omega) (by omega) (by omega)]
  unfold num
  rfl

def sumV (n : Nat) : Value := if n < 18446744073709551616 ^ 4 then .tuple #[bigN n, .int .i64 0] else .tuple #[bigN 0, .int .i64 2]
def diffV (a b : Nat) : Value := if b ≤ a then .tuple #[bigN (a - b), .int .i64 0] else .tuple #[bigN 0, .int .i64 2]

theorem chain_sum {a b : Nat} (ha : a < 18446744073709551616 ^ 4) (hb : b < 18446744073709551616 ^ 4) : chainV addS addO (limb a) (limb b) = sumV (a + b) := by
  unfold chainV sumV
  simp only [limb_add]
  by_cases h : a + b < 18446744073709551616 ^ 4
  · rw [if_pos ((carry_add4 ha hb).2 h), if_pos h]
  · rw [if_neg (fun h' => h ((carry_add4 ha hb).1 h')), if_neg h]; simp only [bigN, limb_zero]

theorem chain_diff {a b : Nat} (ha : a < 18446744073709551616 ^ 4) (hb : b < 18446744073709551616 ^ 4) : chainV subS subO (limb a) (limb b) = diffV a b := by
  unfold chainV diffV
  by_cases h : b ≤ a
  · rw [if_pos ((carry_sub4 ha hb).2 h), if_pos h]
    simp only [limb_sub h]
  · rw [if_neg (fun h' => h ((carry_sub4 ha hb).1 h')), if_neg h]; simp only [bigN, limb_zero]

end Go.Proofs.YthdbhajpjkkehaaDoor

namespace Go.Proofs.YthdbhajpjkkehaaDoor
open Go.RowKit Go.ChangeMaps
set_option linter.unusedVariables false

/-- The values of a row of whole numbers. -/
def ints (k : IntKind) (l : List Int) : Array Value := (l.map (Value.int k)).toArray

section
variable {P : Program} (w : World)
theorem eqItems_ints (d : Nat) {e : TypeId} {k : IntKind} (he : P.underlying e = some (.int k)) (hc : P.cellsOf e = 1) (l1 l2 : List Int) (n : Nat) (h1 : l1.length = n) (h2 : l2.length = n) :
    ∀ is : List Nat, (∀ i ∈ is, i < n) → (Op.eqItems (d + 1) e 1 (ints k l1) (ints k l2) is).run P w = .ok (is.all fun i => l1.getD i 0 == l2.getD i 0) w
  | [], _ => by simp [Op.eqItems]
  | i :: is, h => by
    have hi : i < n := h i (by simp)
    have hp : P.plainKey e = true := by simp [Program.plainKey, he]
    have p1 := run_part_plain (P := P) w hp (xs := ints k l1) (off := i * 1) (v := .int k (l1.getD i 0)) (by simp [ints, h1, hi, List.getD_eq_getElem?_getD])
    have p2 := run_part_plain (P := P) w hp (xs := ints k l2) (off := i * 1) (v := .int k (l2.getD i 0)) (by simp [ints, h2, hi, List.getD_eq_getElem?_getD])
    have p3 := run_equalIn_int (P := P) w d e k k (l1.getD i 0) (l2.getD i 0) he
    have ih := eqItems_ints d he hc l1 l2 n h1 h2 is (fun j hj => h j (by simp [hj]))
    simp only [Op.eqItems, Sem.run_bind, p1, p2, p3, Result.andThen_ok, List.all_cons]
    cases hr : (l1.getD i 0 == l2.getD i 0)
    · simp
    · simpa using ih

theorem all_range_eq {l1 l2 : List Int} {n : Nat} (h1 : l1.length = n) (h2 : l2.length = n) : ((List.range n).all fun i => l1.getD i 0 == l2.getD i 0) = decide (l1 = l2) := by
  rw [Bool.eq_iff_iff]
  simp only [List.all_eq_true, List.mem_range, beq_iff_eq, decide_eq_true_eq]
  constructor
  · intro h
    apply List.ext_getElem (by omega)
    intro i hi hi'
    have := h i (by omega)
    simpa [List.getD_eq_getElem?_getD, hi, hi'] using this
  · rintro rfl i _
    rfl

theorem equalIn_ints (d : Nat) {t e : TypeId} {n : Nat} {k : IntKind} {i : TypeInfo} (ht : P.underlying t = some (.array n e)) (he : P.underlying e = some (.int k)) (hi : P.info? e = some i) (hc : P.cellsOf e = 1)
    (l1 l2 : List Int) (h1 : l1.length = n) (h2 : l2.length = n) : (Op.equalIn (d + 2) t (.agg (ints k l1)) (.agg (ints k l2))).run P w = .ok (decide (l1 = l2)) w := by
  rw [run_equalIn_array w (d + 1) (ints k l1) (ints k l2) ht hi, hc, eqItems_ints w d he hc l1 l2 n h1 h2 _ (fun j hj => by simpa using hj), all_range_eq h1 h2]

theorem run_eql_ints {t e : TypeId} {n : Nat} {k : IntKind} {i : TypeInfo} (ht : P.underlying t = some (.array n e)) (he : P.underlying e = some (.int k)) (hi : P.info? e = some i) (hc : P.cellsOf e = 1)
    (l1 l2 : List Int) (h1 : l1.length = n) (h2 : l2.length = n) : (binOp .eql t (.agg (ints k l1)) (.agg (ints k l2))).run P w = .ok (.bool (decide (l1 = l2))) w := by
  rw [run_eql_struct, equalIn_ints w 9998 ht he hi hc l1 l2 h1 h2]
  rfl

theorem run_neq_ints {t e : TypeId} {n : Nat} {k : IntKind} {i : TypeInfo} (ht : P.underlying t = some (.array n e)) (he : P.underlying e = some (.int k)) (hi : P.info? e = some i) (hc : P.cellsOf e = 1)
    (l1 l2 : List Int) (h1 : l1.length = n) (h2 : l2.length = n) : (binOp .neq t (.agg (ints k l1)) (.agg (ints k l2))).run P w = .ok (.bool (!decide (l1 = l2))) w := by
  rw [run_neq_struct, equalIn_ints w 9998 ht he hi hc l1 l2 h1 h2]
  rfl
end

theorem Tryd.infoU64 : (Tryd.prog.info? 24).map (fun i => (i.zero, i.size, i.bytes)) = some (some (.int .u64 0), 1, 8) := by kernel_rfl
theorem Tryd.cellsU64 : Tryd.prog.cellsOf 24 = 1 := by kernel_rfl

/-- Two numbers of four limbs, held against each other. -/
@[go_sem] theorem equalIn_big (w : World) (a0 a1 a2 a3 b0 b1 b2 b3 : Int) :
    (Op.equalIn 10000 26 (.agg #[.int .u64 a0, .int .u64 a1, .int .u64 a2, .int .u64 a3]) (.agg #[.int .u64 b0, .int .u64 b1, .int .u64 b2, .int .u64 b3])).run Tryd.prog w =
      .ok (decide (a0 = b0 ∧ a1 = b1 ∧ a2 = b2 ∧ a3 = b3)) w := by
  obtain ⟨i, hi, _⟩ := Option.map_eq_some_iff.1 Tryd.infoU64
  have := equalIn_ints (P := Tryd.prog) w 9998 (t := 26) (k := .u64) Tryd.underlying26 Tryd.underlying24 hi Tryd.cellsU64 [a0, a1, a2, a3] [b0, b1, b2, b3] rfl rfl
  simpa [ints] using this
end Go.Proofs.YthdbhajpjkkehaaDoor

namespace Go.Proofs.YthdbhajpjkkehaaDoor
open Go.RowKit
set_option linter.unusedVariables false
set_option linter.unusedSimpArgs false

theorem cmp_step64 {a b k : Nat} (h : a / 18446744073709551616 ^ (k + 1) = b / 18446744073709551616 ^ (k + 1)) :
    (a / 18446744073709551616 ^ k % 18446744073709551616 < b / 18446744073709551616 ^ k % 18446744073709551616 → a < b) ∧ (a / 18446744073709551616 ^ k % 18446744073709551616 = b / 18446744073709551616 ^ k % 18446744073709551616 → a / 18446744073709551616 ^ k = b / 18446744073709551616 ^ k) := by
  have e (n : Nat) : n / 18446744073709551616 ^ (k + 1) = n / 18446744073709551616 ^ k / 18446744073709551616 := by rw [Nat.pow_succ, Nat.div_div_eq_div_mul]
  rw [e, e] at h
  constructor
  · intro hlt
    have : a / 18446744073709551616 ^ k < b / 18446744073709551616 ^ k := by
      generalize a / 18446744073709551616 ^ k = x at *
      generalize b / 18446744073709551616 ^ k = y at *
      omega
    by_cases hab : a < b
    · exact hab
    · have := Nat.div_le_div_right (c := 18446744073709551616 ^ k) (Nat.le_of_not_lt hab)
      omega
  · intro he
    generalize a / 18446744073709551616 ^ k = x at *
    generalize b / 18446744073709551616 ^ k = y at *
    omega

theorem num_top {a : Nat} (ha : a < 18446744073709551616 ^ 4) : a / 18446744073709551616 ^ 4 = 0 := Nat.div_eq_of_lt ha

/-- What lay there before reads as it read. -/
theorem bcell {W w1 : World} (hb : Below W.heap.size W w1) : (∀ b o, b < W.heap.size → w1.cell? ⟨b, o, none⟩ = W.cell? ⟨b, o, none⟩) ∧ (∀ b o, b < W.heap.size → w1.frozen? ⟨b, o, none⟩ = W.frozen? ⟨b, o, none⟩) :=
  ⟨fun b o h => hb.cell (p := ⟨b, o, none⟩) h, fun b o h => hb.frozen (p := ⟨b, o, none⟩) h⟩

def pick4 (a0 a1 a2 a3 : Int) : Nat → Int
  | 0 => a0
  | 1 => a1
  | 2 => a2
  | _ => a3

end Go.Proofs.YthdbhajpjkkehaaDoor

namespace Go.Proofs.YthdbhajpjkkehaaDoor
open Go.RowKit
set_option linter.unusedVariables false
set_option linter.unusedSimpArgs false

/-- Block g holds the number n. -/
def Box (w : World) (g n : Nat) : Prop := w.rowIs g 26 4 (lim (limb n))

theorem Box.lt {w : World} {g n : Nat} (h : Box w g n) : g < w.heap.size := World.rowIs.lt h
theorem Box.below {w w' : World} {g n B : Nat} (h : Box w g n) (hb : Below B w w') (hg : g < B) : Box w' g n := World.rowIs.of_block h (hb.block g hg)
theorem Box.later {w w' : World} {g n : Nat} (h : Box w g n) (hb : Below w.heap.size w w') : Box w' g n := h.below hb h.lt
theorem Box.other {w : World} {g n : Nat} (h : Box w g n) {a : Addr} (ha : g ≠ a.block) (v : Value) : Box (w.setCell a v) g n := World.rowIs.setOther h ha v
theorem Box.alloc {w : World} {g n : Nat} (h : Box w g n) (o : Obj) : Box (w.alloc o) g n := World.rowIs.alloc h o
theorem Box.drewN {w : World} {g n : Nat} (h : Box w g n) (m : Nat) : Box (w.drewN m) g n := h
theorem Box.drew {w : World} {g n : Nat} (h : Box w g n) : Box w.drew g n := h
theorem Box.new (w : World) (n : Nat) : Box (w.alloc (.cells #[.int .u64 (limb n 0), .int .u64 (limb n 1), .int .u64 (limb n 2), .int .u64 (limb n 3)] 26)) w.heap.size n := rowIs_big w (limb n) _
theorem Box.zero (w : World) : Box (w.alloc (.cells #[.int .u64 0, .int .u64 0, .int .u64 0, .int .u64 0] 26)) w.heap.size 0 := by
  have := Box.new w 0
  simp only [limb_zero] at this
  exact this

/-- What the walk reads and writes. -/
theorem Box.cells {w : World} {g n : Nat} (h : Box w g n) : (w.cell? ⟨g, 0, none⟩ = some (.int .u64 (limb n 0)) ∧ w.cell? ⟨g, 1, none⟩ = some (.int .u64 (limb n 1)) ∧ w.cell? ⟨g, 2, none⟩ = some (.int .u64 (limb n 2)) ∧ w.cell? ⟨g, 3, none⟩ = some (.int .u64 (limb n 3))) := (cells4 h).1
theorem Box.free {w : World} {g n : Nat} (h : Box w g n) : (w.frozen? ⟨g, 0, none⟩ = false ∧ w.frozen? ⟨g, 1, none⟩ = false ∧ w.frozen? ⟨g, 2, none⟩ = false ∧ w.frozen? ⟨g, 3, none⟩ = false) := (cells4 h).2
theorem Box.at {w : World} {g n k : Nat} (h : Box w g n) (hk : k < 4) : w.cell? ⟨g, k, none⟩ = some (.int .u64 (limb n k)) := World.rowIs.cell h hk
theorem Box.freeAt {w : World} {g n : Nat} (h : Box w g n) (k : Nat) : w.frozen? ⟨g, k, none⟩ = false := World.rowIs.frozen h k

/-- A whole number stored. -/
abbrev store4 (w : World) (g : Nat) (a b c d : Int) : World :=
  (((w.setCell ⟨g, 0, none⟩ (.int .u64 a)).setCell ⟨g, 1, none⟩ (.int .u64 b)).setCell ⟨g, 2, none⟩ (.int .u64 c)).setCell ⟨g, 3, none⟩ (.int .u64 d)

theorem Box.stored {w : World} {g n : Nat} (h : Box w g n) (m : Nat) : Box (store4 w g (limb m 0) (limb m 1) (limb m 2) (limb m 3)) g m := by
  have := (((World.rowIs.set h 0 (.int .u64 (limb m 0))).set 1 (.int .u64 (limb m 1))).set 2 (.int .u64 (limb m 2))).set 3 (.int .u64 (limb m 3))
  refine this.congr fun i hi => ?_
  match i, hi with
  | 0, _ => rfl
  | 1, _ => rfl
  | 2, _ => rfl
  | 3, _ => rfl
theorem Box.store_other {w : World} {g g' n : Nat} (h : Box w g n) (hg : g ≠ g') (a b c d : Int) : Box (store4 w g' a b c d) g n :=
  (((h.other (a := ⟨g', 0, none⟩) hg _).other (a := ⟨g', 1, none⟩) hg _).other (a := ⟨g', 2, none⟩) hg _).other (a := ⟨g', 3, none⟩) hg _
theorem below_store {B : Nat} {a w : World} (h : Below B a w) {g : Nat} (hg : B ≤ g) (x y z t : Int) : Below B a (store4 w g x y z t) :=
  (((h.setCell (p := ⟨g, 0, none⟩) hg _).setCell (p := ⟨g, 1, none⟩) hg _).setCell (p := ⟨g, 2, none⟩) hg _).setCell (p := ⟨g, 3, none⟩) hg _
theorem store_size (w : World) (g : Nat) (x y z t : Int) : (store4 w g x y z t).heap.size = w.heap.size := by simp [World.setCell]

theorem limb_set {U s k : Nat} (hU : U < 18446744073709551616 ^ k) (hs : s < 18446744073709551616) (j : Nat) : (if j = k then (s : Int) else limb U j) = limb (U + s * 18446744073709551616 ^ k) j := by
  have hp : 0 < 18446744073709551616 ^ k := Nat.pow_pos (by decide)
  unfold limb
  rcases Nat.lt_trichotomy j k with h | h | h
  · rw [if_neg (by omega)]
    obtain ⟨d, rfl⟩ : ∃ d, k = j + 1 + d := ⟨k - (j + 1), by omega⟩
    have e : s * 18446744073709551616 ^ (j + 1 + d) = 18446744073709551616 ^ j * (18446744073709551616 * (s * 18446744073709551616 ^ d)) := by
      rw [Nat.pow_add, Nat.pow_succ, Nat.mul_assoc, Nat.mul_left_comm s, Nat.mul_left_comm s]
    rw [e, Nat.add_mul_div_left _ _ (Nat.pow_pos (by decide)), Nat.add_mul_mod_self_left]
  · subst h
    rw [if_pos rfl, Nat.add_mul_div_right _ _ hp, Nat.div_eq_of_lt hU, Nat.zero_add, Nat.mod_eq_of_lt hs]
  · rw [if_neg (by omega)]
    obtain ⟨d, rfl⟩ : ∃ d, j = k + 1 + d := ⟨j - (k + 1), by omega⟩
    have h1 : U + s * 18446744073709551616 ^ k < 18446744073709551616 ^ (k + 1 + d) := by
      have : (s + 1) * 18446744073709551616 ^ k ≤ 18446744073709551616 * 18446744073709551616 ^ k := Nat.mul_le_mul_right _ hs
      have h2 : 18446744073709551616 ^ (k + 1) ≤ 18446744073709551616 ^ (k + 1 + d) := Nat.pow_le_pow_right (by decide) (by omega)
      rw [Nat.pow_succ, Nat.mul_comm _ 18446744073709551616] at h2
      rw [Nat.add_mul] at this
      omega
    have h3 : U < 18446744073709551616 ^ (k + 1 + d) := by omega
    rw [Nat.div_eq_of_lt h1, Nat.div_eq_of_lt h3]

/-- A limb stored above all that there is. -/
theorem Box.limb {w : World} {g U s k : Nat} (h : Box w g U) (hU : U < 18446744073709551616 ^ k) (hs : s < 18446744073709551616) {x : Int} (hx : x = (s : Int)) : Box (w.setCell ⟨g, k, none⟩ (.int .u64 x)) g (U + s * 18446744073709551616 ^ k) := by
  subst hx
  refine (World.rowIs.set h k (.int .u64 (s : Int))).congr fun j hj => ?_
  unfold lim
  rw [← limb_set hU hs j]
  by_cases e : j = k
  · rw [if_pos e, if_pos e]
  · rw [if_neg e, if_neg e]
end Go.Proofs.YthdbhajpjkkehaaDoor
