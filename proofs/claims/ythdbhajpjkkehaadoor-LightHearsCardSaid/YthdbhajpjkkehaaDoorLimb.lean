/- limb.Add, limb.Sub and limb.Mul answer sum, difference and product, whole. -/
import Derived.Test.YthdbhajpjkkehaaDoorLen
namespace Go.Proofs.YthdbhajpjkkehaaDoor
set_option linter.unusedVariables false

/-- The digits of a number, without noughts at the end. -/
def dig (n : Nat) : List Int := if h : n = 0 then [] else ((n % 65536 : Nat) : Int) :: dig (n / 65536)
termination_by n
decreasing_by omega

/-- The lowest k digits of a number. -/
def low : Nat → Nat → List Int
  | 0, _ => []
  | k + 1, n => ((n % 65536 : Nat) : Int) :: low k (n / 65536)

theorem dig_zero : dig 0 = [] := by rw [dig, dif_pos rfl]
theorem dig_pos {n : Nat} (h : 0 < n) : dig n = ((n % 65536 : Nat) : Int) :: dig (n / 65536) := by rw [dig, dif_neg (by omega)]
theorem dig_nil {n : Nat} (h : dig n = []) : n = 0 := by
  by_cases h0 : n = 0
  · exact h0
  · rw [dig_pos (by omega)] at h; cases h
theorem dig_len_zero {n : Nat} (h : (dig n).length = 0) : n = 0 := dig_nil (List.length_eq_zero_iff.1 h)
theorem low_length (k n : Nat) : (low k n).length = k := by
  induction k generalizing n with
  | zero => rfl
  | succ k ih => simp [low, ih]
theorem low_getElem (k n i : Nat) (h : i < k) : (low k n)[i]? = some ((n / 65536 ^ i % 65536 : Nat) : Int) := by
  induction k generalizing n i with
  | zero => omega
  | succ k ih =>
    cases i with
    | zero => simp [low]
    | succ i =>
      rw [low, List.getElem?_cons_succ, ih _ _ (by omega), Nat.div_div_eq_div_mul, Nat.pow_succ, Nat.mul_comm]
theorem low_getD (k n i : Nat) (h : i < k) : (low k n).getD i 0 = ((n / 65536 ^ i % 65536 : Nat) : Int) := by
  rw [List.getD_eq_getElem?_getD, low_getElem k n i h]; rfl
theorem dig_getD (n i : Nat) : (dig n).getD i 0 = ((n / 65536 ^ i % 65536 : Nat) : Int) := by
  induction i generalizing n with
  | zero =>
    by_cases h : n = 0
    · subst h; rw [dig_zero]; rfl
    · rw [dig_pos (by omega)]; simp
  | succ i ih =>
    by_cases h : n = 0
    · subst h; rw [dig_zero]; simp
    · rw [dig_pos (by omega), List.getD_cons_succ, ih, Nat.div_div_eq_div_mul, Nat.pow_succ, Nat.mul_comm]
theorem dig_lt (n : Nat) : n < 65536 ^ (dig n).length := by
  induction n using Nat.strongRecOn with
  | _ n ih =>
    by_cases h : n = 0
    · subst h; rw [dig_zero]; decide
    · have e := ih (n / 65536) (by omega)
      rw [dig_pos (by omega), List.length_cons, Nat.pow_succ]
      generalize 65536 ^ (dig (n / 65536)).length = p at *
      omega
theorem dig_len_le {n k : Nat} (h : n < 65536 ^ k) : (dig n).length ≤ k := by
  induction k generalizing n with
  | zero => have : n = 0 := by simpa using h
            subst this; rw [dig_zero]; simp
  | succ k ih =>
    by_cases h0 : n = 0
    · subst h0; rw [dig_zero]; simp
    · rw [dig_pos (by omega), List.length_cons]
      have := ih (n := n / 65536) (by rw [Nat.pow_succ] at h; omega)
      omega
theorem dig_div_len (n : Nat) (k : Nat) (h : (dig n).length ≤ k) : n / 65536 ^ k = 0 :=
  Nat.div_eq_of_lt (Nat.lt_of_lt_of_le (dig_lt n) (Nat.pow_le_pow_right (by decide) h))
theorem low_snoc (k n : Nat) : low (k + 1) n = low k n ++ [((n / 65536 ^ k % 65536 : Nat) : Int)] := by
  induction k generalizing n with
  | zero => simp [low]
  | succ k ih =>
    rw [low, ih, low, List.cons_append, Nat.div_div_eq_div_mul, Nat.pow_succ, Nat.mul_comm]
theorem low_zero (k : Nat) : low k 0 = List.replicate k 0 := by
  induction k with
  | zero => rfl
  | succ k ih => rw [low, List.replicate_succ, Nat.zero_div, ih]; rfl
/-- The digits are as many of the lowest as there are. -/
theorem dig_low (n : Nat) : dig n = low (dig n).length n := by
  induction n using Nat.strongRecOn with
  | _ n ih =>
    by_cases h : n = 0
    · subst h; rw [dig_zero]; rfl
    · have e := ih (n / 65536) (by omega)
      rw [dig_pos (by omega), List.length_cons, low, ← e]
theorem low_take (k j n : Nat) (h : j ≤ k) : (low k n).take j = low j n := by
  induction j generalizing k n with
  | zero => rfl
  | succ j ih =>
    obtain ⟨k, rfl⟩ : ∃ m, k = m + 1 := ⟨k - 1, by omega⟩
    rw [low, low, List.take_succ_cons, ih _ _ (by omega)]
theorem dig_digit (n i : Nat) (h : i < (dig n).length) : (dig n)[i]? = some ((n / 65536 ^ i % 65536 : Nat) : Int) := by
  have := dig_getD n i
  rw [List.getD_eq_getElem?_getD] at this
  rw [List.getElem?_eq_getElem h] at this ⊢
  simpa using this
/-- Noughts at the end are cut off. -/
theorem low_trim {k n : Nat} (h : n < 65536 ^ (k + 1)) (hz : n / 65536 ^ k % 65536 = 0) : n < 65536 ^ k := by
  rw [Nat.pow_succ] at h
  have h1 : n / 65536 ^ k < 65536 := Nat.div_lt_of_lt_mul h
  have h2 : n / 65536 ^ k = 0 := by
    generalize n / 65536 ^ k = x at *
    omega
  exact (Nat.div_eq_zero_iff_lt (Nat.pow_pos (by decide))).1 h2
theorem low_full {k n : Nat} (h : n < 65536 ^ (k + 1)) (hz : n / 65536 ^ k % 65536 ≠ 0) : dig n = low (k + 1) n := by
  have hl := dig_len_le h
  have : (dig n).length = k + 1 := by
    by_cases e : (dig n).length = k + 1
    · exact e
    · have := dig_div_len n k (by omega)
      rw [this] at hz
      simp at hz
  rw [dig_low, this]
/-- A digit set. -/
theorem low_set (k n j d : Nat) (hj : j < k) (hd : d < 65536) : (low k n).set j (d : Int) = low k (n - n / 65536 ^ j % 65536 * 65536 ^ j + d * 65536 ^ j) := by
  induction k generalizing n j with
  | zero => omega
  | succ k ih =>
    cases j with
    | zero =>
      simp only [low, List.set_cons_zero, Nat.pow_zero, Nat.div_one, Nat.mul_one]
      have e1 : (n - n % 65536 + d) % 65536 = d := by omega
      have e2 : (n - n % 65536 + d) / 65536 = n / 65536 := by omega
      rw [e1, e2]
    | succ j =>
      have hp : 0 < 65536 ^ j := Nat.pow_pos (by decide)
      have e0 : n / 65536 / 65536 ^ j = n / 65536 ^ (j + 1) := by rw [Nat.div_div_eq_div_mul, Nat.pow_succ, Nat.mul_comm]
      have hle : n / 65536 / 65536 ^ j % 65536 * 65536 ^ j ≤ n / 65536 :=
        Nat.le_trans (Nat.mul_le_mul_right _ (Nat.mod_le _ _)) (Nat.div_mul_le_self _ _)
      simp only [low, List.set_cons_succ]
      rw [ih _ _ (by omega)]
      rw [e0] at hle ⊢
      rw [Nat.pow_succ, ← Nat.mul_assoc, ← Nat.mul_assoc]
      rw [Nat.pow_succ] at hle
      generalize n / (65536 ^ j * 65536) % 65536 * 65536 ^ j = A at *
      generalize d * 65536 ^ j = D at *
      have e1 : (n - A * 65536 + D * 65536) % 65536 = n % 65536 := by omega
      have e2 : (n - A * 65536 + D * 65536) / 65536 = n / 65536 - A + D := by omega
      rw [e1, e2]
end Go.Proofs.YthdbhajpjkkehaaDoor

namespace Go.Proofs.YthdbhajpjkkehaaDoor
open Go.RowKit
set_option linter.unusedVariables false

/-- A slice of ints that reads as a list. -/
def Row (w : World) (v : Value) (l : List Int) : Prop :=
  ∃ A c, v = .slice A l.length c ∧ l.length ≤ c ∧ c ≤ maxLen ∧
    (l = [] ∨ ∃ g o, A = some ⟨g, o, none⟩ ∧ ∀ j, j < l.length → w.cell? ⟨g, o + j, none⟩ = some (.int .i64 (l.getD j 0)))

theorem Row.nil (w : World) : Row w (.slice none 0 0) [] := ⟨none, 0, rfl, Nat.le_refl _, by unfold maxLen; omega, .inl rfl⟩

/-- A slice that lies in no block below a base. -/
def Fresh (base : Nat) (v : Value) : Prop := ∀ k, v.ownBlock = some k → base ≤ k

theorem Row.setCell {w : World} {v : Value} {l : List Int} (h : Row w v l) {a : Addr} (ha : v.ownBlock ≠ some a.block) (u : Value) : Row (w.setCell a u) v l := by
  obtain ⟨A, c, rfl, h1, h2, h3⟩ := h
  refine ⟨A, c, rfl, h1, h2, ?_⟩
  rcases h3 with h3 | ⟨g, o, rfl, hc⟩
  · exact .inl h3
  · refine .inr ⟨g, o, rfl, fun j hj => ?_⟩
    rw [← hc j hj]
    exact World.cell?_setCell_other _ _ _ _ (by intro e; apply ha; rw [e]; rfl)

theorem Row.below {w w' : World} {v : Value} {l : List Int} (h : Row w v l) (hb : Below w.heap.size w w') : Row w' v l := by
  obtain ⟨A, c, rfl, h1, h2, h3⟩ := h
  refine ⟨A, c, rfl, h1, h2, ?_⟩
  rcases h3 with h3 | ⟨g, o, rfl, hc⟩
  · exact .inl h3
  · refine .inr ⟨g, o, rfl, fun j hj => ?_⟩
    have := hc j hj
    rw [hb.cell (p := ⟨g, o + j, none⟩) (World.block_lt_of_cell? w _ this)]
    exact this

theorem Row.drewN {w : World} {v : Value} {l : List Int} (h : Row w v l) (n : Nat) : Row (w.drewN n) v l := h

theorem Row.of_owns {w : World} {base : Nat} {e : TypeId} {v : Value} {l : List Int} (h : w.ownsRow base e 1 v l.length (l.map (Value.int .i64))) : Row w v l := by
  rcases h.2 with ⟨rfl, hn⟩ | ⟨g, cap, cur, rfl, hb, hg, hn, hm, hs, ht⟩
  · have : l = [] := List.length_eq_zero_iff.1 hn
    subst this
    exact Row.nil w
  · refine ⟨some ⟨g, 0, none⟩, cap, rfl, hn, hm, .inr ⟨g, 0, rfl, fun j hj => ?_⟩⟩
    have := h.cells (g := g) rfl j (.int .i64 (l.getD j 0)) (by simp [List.getD_eq_getElem?_getD, hj])
    have hadd : (⟨g, 0, none⟩ : Addr).add j = ⟨g, 0 + j, none⟩ := by unfold Addr.add; split <;> simp_all
    rw [hadd] at this
    exact this

theorem Tryd.infoInt : (Tryd.prog.info? 3).map (fun i => (i.zero, i.size, i.bytes)) = some (some (.int .i64 0), 1, 8) := by kernel_rfl

/-- A slice cut at its end. -/
theorem Row.take {w : World} {A : Option Addr} {n c : Nat} {l : List Int} (h : Row w (.slice A n c) l) {k : Nat} (hk : k ≤ l.length) : Row w (.slice A k c) (l.take k) := by
  obtain ⟨A', c', e, h1, h2, h3⟩ := h
  cases e
  refine ⟨A, c, by rw [List.length_take, Nat.min_eq_left hk], by rw [List.length_take]; omega, h2, ?_⟩
  rcases h3 with rfl | ⟨g, o, rfl, hc⟩
  · exact .inl (by simp)
  · refine .inr ⟨g, o, rfl, fun j hj => ?_⟩
    rw [List.length_take] at hj
    rw [hc j (by omega)]
    have : (l.take k).getD j 0 = l.getD j 0 := by
      rw [List.getD_eq_getElem?_getD, List.getD_eq_getElem?_getD, List.getElem?_take_of_lt (by omega)]
    rw [this]

end Go.Proofs.YthdbhajpjkkehaaDoor

namespace Go.Proofs.YthdbhajpjkkehaaDoor
open Go.RowKit
set_option linter.unusedVariables false

/-- A slice of the call's own, in memory from a base on. -/
def Own (w : World) (base : Nat) (v : Value) (l : List Int) : Prop := w.ownsRow base 3 1 v l.length (l.map (Value.int .i64))

theorem Own.nil (w : World) (base : Nat) : Own w base (.slice none 0 0) [] := World.ownsRow_nil _ _ _ _
theorem Own.row {w : World} {base : Nat} {v : Value} {l : List Int} (h : Own w base v l) : Row w v l := Row.of_owns h
theorem Own.drewN {w : World} {base : Nat} {v : Value} {l : List Int} (h : Own w base v l) (n : Nat) : Own (w.drewN n) base v l := h
theorem Own.below {w w' : World} {base : Nat} {v : Value} {l : List Int} (h : Own w base v l) (hb : Below w.heap.size w w') : Own w' base v l := by
  refine ⟨h.1, ?_⟩
  rcases h.2 with hn | ⟨g, cap, cur, rfl, hbg, hg, rest⟩
  · exact .inl hn
  · exact .inr ⟨g, cap, cur, rfl, hbg, by rw [hb.block g (Array.getElem?_eq_some_iff.1 hg).1]; exact hg, rest⟩

theorem below_drewN {B : Nat} {a w : World} (h : Below B a w) (n : Nat) : Below B a (w.drewN n) := ⟨h.os, h.tape, h.output, h.size, h.block⟩
theorem Drawn.below {w w' : World} (h : Drawn w w') (B : Nat) : Below B w w' := by
  obtain ⟨n, rfl⟩ := h
  exact below_drewN (Below.refl _ _) n

end Go.Proofs.YthdbhajpjkkehaaDoor

namespace Go.Proofs.YthdbhajpjkkehaaDoor
open Go.RowKit
set_option linter.unusedVariables false
set_option linter.unusedSimpArgs false

/-- A row that is handed back, in new memory. -/
def Gives (w : World) (n : Nat) (e : Ending) (w' : World) : Prop := ∃ v, e = .returned v ∧ Row w' v (dig n) ∧ Fresh w.heap.size v ∧ Below w.heap.size w w'

theorem dig_len_limb {x : Int} (h1 : x < 18446744073709551616) : (dig x.toNat).length ≤ 4 := dig_len_le (by omega)

/-- Which of two numbers is greater. -/
def cmpI (a b : Nat) : Int := if a < b then -1 else if b < a then 1 else 0

theorem cmp_step {a b k : Nat} (h : a / 65536 ^ (k + 1) = b / 65536 ^ (k + 1)) :
    (a / 65536 ^ k % 65536 < b / 65536 ^ k % 65536 → a < b) ∧ (a / 65536 ^ k % 65536 = b / 65536 ^ k % 65536 → a / 65536 ^ k = b / 65536 ^ k) := by
  have e (n : Nat) : n / 65536 ^ (k + 1) = n / 65536 ^ k / 65536 := by rw [Nat.pow_succ, Nat.div_div_eq_div_mul]
  rw [e, e] at h
  constructor
  · intro hlt
    have : a / 65536 ^ k < b / 65536 ^ k := by
      generalize a / 65536 ^ k = x at *
      generalize b / 65536 ^ k = y at *
      omega
    by_cases hab : a < b
    · exact hab
    · have := Nat.div_le_div_right (c := 65536 ^ k) (Nat.le_of_not_lt hab)
      omega
  · intro he
    generalize a / 65536 ^ k = x at *
    generalize b / 65536 ^ k = y at *
    omega

theorem top_eq (a b k : Nat) (h1 : (dig a).length ≤ k) (h2 : (dig b).length ≤ k) : a / 65536 ^ k = b / 65536 ^ k := by
  rw [dig_div_len a k h1, dig_div_len b k h2]

/-- A digit of a sum, and what is carried. -/
theorem add_step {a b k cy : Nat} (h : a % 65536 ^ k + b % 65536 ^ k = (a + b) % 65536 ^ k + cy * 65536 ^ k) :
    (a + b) / 65536 ^ k % 65536 = (a / 65536 ^ k % 65536 + b / 65536 ^ k % 65536 + cy) % 65536 ∧
    a % 65536 ^ (k + 1) + b % 65536 ^ (k + 1) = (a + b) % 65536 ^ (k + 1) + (a / 65536 ^ k % 65536 + b / 65536 ^ k % 65536 + cy) / 65536 * 65536 ^ (k + 1) := by
  have hp : 0 < 65536 ^ k := Nat.pow_pos (by decide)
  rw [Nat.pow_succ, Nat.mod_mul, Nat.mod_mul, Nat.mod_mul]
  generalize 65536 ^ k = p at *
  have ea := Nat.div_add_mod a p
  have eb := Nat.div_add_mod b p
  have es := Nat.div_add_mod (a + b) p
  have hd : (a + b) / p = a / p + b / p + cy := by
    have h1 : p * ((a + b) / p) = p * (a / p + b / p + cy) := by
      rw [Nat.mul_add, Nat.mul_add, Nat.mul_comm p cy]
      omega
    exact Nat.eq_of_mul_eq_mul_left hp h1
  rw [hd]
  generalize a / p = qa at *
  generalize b / p = qb at *
  refine ⟨by omega, ?_⟩
  have e1 : (qa % 65536 + qb % 65536 + cy) / 65536 * (p * 65536) = p * ((qa % 65536 + qb % 65536 + cy) / 65536 * 65536) := by
    rw [Nat.mul_comm p 65536, ← Nat.mul_assoc, Nat.mul_comm]
  have e2 : p * (qa % 65536) + p * (qb % 65536) + cy * p = p * ((qa + qb + cy) % 65536) + p * ((qa % 65536 + qb % 65536 + cy) / 65536 * 65536) := by
    rw [Nat.mul_comm cy p, ← Nat.mul_add, ← Nat.mul_add, ← Nat.mul_add]
    congr 1
    omega
  rw [e1]
  generalize p * (qa % 65536) = u at *
  generalize p * (qb % 65536) = v at *
  generalize p * ((qa + qb + cy) % 65536) = x at *
  generalize p * ((qa % 65536 + qb % 65536 + cy) / 65536 * 65536) = y at *
  omega

theorem add_end {a b k cy : Nat} (h : a % 65536 ^ k + b % 65536 ^ k = (a + b) % 65536 ^ k + cy * 65536 ^ k) (ha : (dig a).length ≤ k) (hb : (dig b).length ≤ k) (hc : cy = 0) : a + b < 65536 ^ k := by
  have h1 := Nat.lt_of_lt_of_le (dig_lt a) (Nat.pow_le_pow_right (show 0 < 65536 by decide) ha)
  have h2 := Nat.lt_of_lt_of_le (dig_lt b) (Nat.pow_le_pow_right (show 0 < 65536 by decide) hb)
  have h3 := Nat.mod_lt (a + b) (show 0 < 65536 ^ k from Nat.pow_pos (by decide))
  rw [Nat.mod_eq_of_lt h1, Nat.mod_eq_of_lt h2, hc] at h
  omega

theorem add_last {a b k cy : Nat} (h : a % 65536 ^ (k + 1) + b % 65536 ^ (k + 1) = (a + b) % 65536 ^ (k + 1) + cy * 65536 ^ (k + 1)) (ha : (dig a).length ≤ k) (hb : (dig b).length ≤ k) : cy = 0 := by
  have h1 := Nat.lt_of_lt_of_le (dig_lt a) (Nat.pow_le_pow_right (show 0 < 65536 by decide) ha)
  have h2 := Nat.lt_of_lt_of_le (dig_lt b) (Nat.pow_le_pow_right (show 0 < 65536 by decide) hb)
  rw [Nat.pow_succ] at h
  generalize 65536 ^ k = p at *
  rw [Nat.mod_eq_of_lt (by omega), Nat.mod_eq_of_lt (by omega), Nat.mod_eq_of_lt (by omega)] at h
  have : cy * (p * 65536) = 0 := by omega
  rcases Nat.mul_eq_zero.1 this with h0 | h0
  · exact h0
  · omega

/-- A digit of a difference, and what is borrowed. -/
theorem sub_step {a b k bw : Nat} (hab : b ≤ a) (hbw : bw ≤ 1) (h : a % 65536 ^ k + bw * 65536 ^ k = b % 65536 ^ k + (a - b) % 65536 ^ k) :
    let x : Int := (a / 65536 ^ k % 65536 : Nat) - (b / 65536 ^ k % 65536 : Nat) - bw
    (0 ≤ x → (((a - b) / 65536 ^ k % 65536 : Nat) : Int) = x ∧ a % 65536 ^ (k + 1) = b % 65536 ^ (k + 1) + (a - b) % 65536 ^ (k + 1)) ∧
    (x < 0 → (((a - b) / 65536 ^ k % 65536 : Nat) : Int) = x + 65536 ∧ a % 65536 ^ (k + 1) + 65536 ^ (k + 1) = b % 65536 ^ (k + 1) + (a - b) % 65536 ^ (k + 1)) := by
  have hp : 0 < 65536 ^ k := Nat.pow_pos (by decide)
  intro x
  show (0 ≤ x → _) ∧ _
  have hx : x = (a / 65536 ^ k % 65536 : Nat) - (b / 65536 ^ k % 65536 : Nat) - bw := rfl
  clear_value x
  rw [Nat.pow_succ, Nat.mod_mul, Nat.mod_mul, Nat.mod_mul]
  generalize 65536 ^ k = p at *
  have ea := Nat.div_add_mod a p
  have eb := Nat.div_add_mod b p
  have es := Nat.div_add_mod (a - b) p
  have hd : (a - b) / p + b / p + bw = a / p := by
    have h1 : p * ((a - b) / p + b / p + bw) = p * (a / p) := by
      rw [Nat.mul_add, Nat.mul_add, Nat.mul_comm p bw]
      omega
    exact Nat.eq_of_mul_eq_mul_left hp h1
  rw [← hd] at ea hx ⊢
  generalize (a - b) / p = qs at *
  generalize b / p = qb at *
  constructor
  · intro h0
    have e : (qs + qb + bw) % 65536 = qb % 65536 + bw + qs % 65536 := by omega
    refine ⟨by omega, ?_⟩
    rw [e, Nat.mul_add, Nat.mul_add, Nat.mul_comm p bw]
    generalize p * (qb % 65536) = u at *
    generalize p * (qs % 65536) = v at *
    omega
  · intro h0
    have e : (qs + qb + bw) % 65536 + 65536 = qb % 65536 + bw + qs % 65536 := by omega
    refine ⟨by omega, ?_⟩
    have e2 : p * ((qs + qb + bw) % 65536) + p * 65536 = p * (qb % 65536) + p * bw + p * (qs % 65536) := by
      rw [← Nat.mul_add, ← Nat.mul_add, ← Nat.mul_add, e]
    rw [Nat.mul_comm p bw] at e2
    generalize p * ((qs + qb + bw) % 65536) = z at *
    generalize p * (qb % 65536) = u at *
    generalize p * (qs % 65536) = v at *
    omega

end Go.Proofs.YthdbhajpjkkehaaDoor

namespace Go.Proofs.YthdbhajpjkkehaaDoor
open Go.RowKit
set_option linter.unusedVariables false
set_option linter.unusedSimpArgs false

/-- A digit, as it lies in memory. -/
def cell (V j : Nat) : Value := .int .i64 ((V / 65536 ^ j % 65536 : Nat) : Int)

/-- A number whose digit j is turned to d. -/
def turn (V j d : Nat) : Nat := V - V / 65536 ^ j % 65536 * 65536 ^ j + d * 65536 ^ j

theorem turn_le (V j : Nat) : V / 65536 ^ j % 65536 * 65536 ^ j ≤ V :=
  Nat.le_trans (Nat.mul_le_mul_right _ (Nat.mod_le _ _)) (Nat.div_mul_le_self _ _)

theorem cell_turn {L V j d i : Nat} (hj : j < L) (hd : d < 65536) (hi : i < L) : (if i = j then Value.int .i64 (d : Int) else cell V i) = cell (turn V j d) i := by
  have h := low_set L V j d hj hd
  have e := low_getD L (turn V j d) i hi
  unfold turn at e ⊢
  rw [← h, List.getD_eq_getElem?_getD, List.getElem?_set, low_length] at e
  unfold cell
  by_cases c : i = j
  · subst c
    rw [if_pos rfl]
    rw [if_pos rfl, if_pos hi] at e
    rw [← e]
    rfl
  · rw [if_neg c]
    rw [if_neg (fun h => c h.symm), low_getElem _ _ _ hi] at e
    rw [← e]
    rfl

theorem turn_lt {V j d n : Nat} (hj : j < n) (hd : d < 65536) (h : V < 65536 ^ n) : turn V j d < 65536 ^ n := by
  obtain ⟨m, rfl⟩ : ∃ m, n = j + 1 + m := ⟨n - (j + 1), by omega⟩
  have hp : 0 < 65536 ^ j := Nat.pow_pos (by decide)
  have e : turn V j d / 65536 ^ j = V / 65536 ^ j / 65536 * 65536 + d := by
    unfold turn
    have := Nat.div_add_mod V (65536 ^ j)
    have hm := Nat.mod_lt V hp
    have hle : V / 65536 ^ j % 65536 ≤ V / 65536 ^ j := Nat.mod_le _ _
    have hq : V / 65536 ^ j / 65536 * 65536 + V / 65536 ^ j % 65536 = V / 65536 ^ j := by omega
    generalize V / 65536 ^ j / 65536 * 65536 = A at *
    generalize V / 65536 ^ j % 65536 = D at *
    rw [← hq, Nat.mul_add] at this
    have e2 : V - D * 65536 ^ j + d * 65536 ^ j = V % 65536 ^ j + 65536 ^ j * (A + d) := by
      rw [Nat.mul_add, Nat.mul_comm D, Nat.mul_comm d]
      omega
    rw [e2, Nat.add_mul_div_left _ _ hp, Nat.div_eq_of_lt hm]
    omega
  have hV : V / 65536 ^ j / 65536 < 65536 ^ m := by
    rw [Nat.div_div_eq_div_mul, ← Nat.pow_succ]
    apply Nat.div_lt_of_lt_mul
    rw [← Nat.pow_add]
    exact h
  have hT : turn V j d / 65536 ^ j < 65536 ^ (m + 1) := by
    rw [e, Nat.pow_succ]
    generalize 65536 ^ m = p at *
    omega
  have := (Nat.div_lt_iff_lt_mul hp).1 hT
  rw [← Nat.pow_add] at this
  rwa [show m + 1 + j = j + 1 + m by omega] at this

/-- A digit of a product, and what is carried. -/
theorem mul_step {P S V cy x b i k : Nat} (h : V + cy * 65536 ^ (i + k) = P + S * 65536 ^ i * (b % 65536 ^ k)) (hx : x = V / 65536 ^ (i + k) % 65536 + S * (b / 65536 ^ k % 65536) + cy) :
    turn V (i + k) (x % 65536) + x / 65536 * 65536 ^ (i + (k + 1)) = P + S * 65536 ^ i * (b % 65536 ^ (k + 1)) := by
  have hle := turn_le V (i + k)
  unfold turn
  have e1 : 65536 ^ (i + (k + 1)) = 65536 ^ (i + k) * 65536 := by rw [← Nat.add_assoc, Nat.pow_succ]
  have e2 : b % 65536 ^ (k + 1) = b % 65536 ^ k + 65536 ^ k * (b / 65536 ^ k % 65536) := by rw [Nat.pow_succ, Nat.mod_mul]
  have e3 : S * 65536 ^ i * (65536 ^ k * (b / 65536 ^ k % 65536)) = S * (b / 65536 ^ k % 65536) * 65536 ^ (i + k) := by
    rw [Nat.pow_add, Nat.mul_assoc, ← Nat.mul_assoc (65536 ^ i), Nat.mul_comm (65536 ^ i * 65536 ^ k), ← Nat.mul_assoc]
  have e4 : x % 65536 * 65536 ^ (i + k) + x / 65536 * (65536 ^ (i + k) * 65536) = x * 65536 ^ (i + k) := by
    rw [Nat.mul_comm (65536 ^ (i + k)), ← Nat.mul_assoc, ← Nat.add_mul]
    congr 1
    omega
  have e5 : x * 65536 ^ (i + k) = V / 65536 ^ (i + k) % 65536 * 65536 ^ (i + k) + S * (b / 65536 ^ k % 65536) * 65536 ^ (i + k) + cy * 65536 ^ (i + k) := by
    rw [hx, Nat.add_mul, Nat.add_mul]
  rw [e1, e2, Nat.mul_add, e3]
  generalize V / 65536 ^ (i + k) % 65536 * 65536 ^ (i + k) = A at *
  generalize S * (b / 65536 ^ k % 65536) * 65536 ^ (i + k) = C at *
  generalize cy * 65536 ^ (i + k) = D at *
  generalize x % 65536 * 65536 ^ (i + k) = E at *
  generalize x / 65536 * (65536 ^ (i + k) * 65536) = F at *
  generalize x * 65536 ^ (i + k) = G at *
  omega

theorem mul_round {a b i lb V cy : Nat} (h : V + cy * 65536 ^ (i + lb) = a % 65536 ^ i * b + (a / 65536 ^ i % 65536) * 65536 ^ i * (b % 65536 ^ lb)) (hb : b < 65536 ^ lb) (hV : V < 65536 ^ (i + lb)) :
    turn V (i + lb) cy = a % 65536 ^ (i + 1) * b := by
  unfold turn
  rw [Nat.div_eq_of_lt hV]
  rw [Nat.mod_eq_of_lt hb] at h
  rw [Nat.pow_succ, Nat.mod_mul, Nat.add_mul, Nat.mul_comm (65536 ^ i) (a / 65536 ^ i % 65536)]
  simp only [Nat.zero_mod, Nat.zero_mul, Nat.sub_zero]
  exact h

theorem World.rowIs_row {w : World} {B n V : Nat} (h : w.rowIs B 3 n (cell V)) (hn : n ≤ maxLen) : Row w (.slice (some ⟨B, 0, none⟩) n n) (low n V) := by
  refine ⟨some ⟨B, 0, none⟩, n, by rw [low_length], by rw [low_length]; omega, hn, .inr ⟨B, 0, rfl, fun j hj => ?_⟩⟩
  rw [low_length] at hj
  rw [low_getD _ _ _ hj, Nat.zero_add]
  exact h.cell hj

theorem World.rowIs_drewN {w : World} {b n : Nat} {t : TypeId} {f : Nat → Value} (h : w.rowIs b t n f) (m : Nat) : (w.drewN m).rowIs b t n f := h

theorem cell_zero (j : Nat) : cell 0 j = .int .i64 0 := by unfold cell; simp

theorem row_cells {w : World} {A : Option Addr} {n c a : Nat} (h : Row w (.slice A n c) (dig a)) : ∀ j, j < n → ∃ g o, A = some ⟨g, o, none⟩ ∧ g < w.heap.size ∧ w.cell? ⟨g, o + j, none⟩ = some (cell a j) := by
  obtain ⟨A', c', e, h1, h2, h3⟩ := h
  cases e
  intro j hj
  rcases h3 with h3 | ⟨g, o, rfl, hc⟩
  · rw [h3] at hj; simp at hj
  · refine ⟨g, o, rfl, World.block_lt_of_cell? w _ (hc j hj), ?_⟩
    rw [hc j hj, dig_getD]
    rfl

theorem rowIs_turn {w : World} {B L V j d : Nat} {x : Int} (h : w.rowIs B 3 L (cell V)) (hj : j < L) (hd : d < 65536) (hx : x = (d : Int)) :
    (w.setCell ⟨B, j, none⟩ (.int .i64 x)).rowIs B 3 L (cell (turn V j d)) := by
  subst hx
  exact (h.set j (.int .i64 (d : Int))).congr fun i hi => cell_turn hj hd hi

end Go.Proofs.YthdbhajpjkkehaaDoor

namespace Go.Proofs.YthdbhajpjkkehaaDoor
open Go.RowKit
set_option linter.unusedVariables false
set_option linter.unusedSimpArgs false

theorem dig_mono {m n : Nat} (h : m ≤ n) : (dig m).length ≤ (dig n).length := dig_len_le (Nat.lt_of_le_of_lt h (dig_lt n))
theorem dig_twice {m n : Nat} (h : m < 2 * n) : (dig m).length ≤ (dig n).length + 1 := by
  apply dig_len_le
  have := dig_lt n
  rw [Nat.pow_succ]
  generalize 65536 ^ (dig n).length = p at *
  omega
theorem dig_one : dig 1 = [1] := by rw [dig_pos (by omega), show 1 / 65536 = 0 from rfl, dig_zero]; rfl

/-- One bit of a quotient. -/
def unitOf : Nat → Nat
  | 0 => 0
  | s + 1 => 2 ^ s

theorem unit_half (s : Nat) : unitOf (s + 1) / 2 = unitOf s := by
  cases s with
  | zero => rfl
  | succ s => show 2 ^ (s + 1) / 2 = 2 ^ s; rw [Nat.pow_succ]; omega

theorem bit_next (n s : Nat) : n / 2 ^ s = 2 * (n / 2 ^ (s + 1)) + n / 2 ^ s % 2 := by
  rw [Nat.pow_succ, ← Nat.div_div_eq_div_mul]
  omega

theorem bit_of (n i s : Nat) (hs : s < 16) : n / 65536 ^ i / 2 ^ s % 2 = n / 65536 ^ i % 65536 / 2 ^ s % 2 := by
  generalize n / 65536 ^ i = q
  have e : 65536 = 2 ^ s * (2 * 2 ^ (15 - s)) := by
    rw [← Nat.mul_assoc, ← Nat.pow_succ, ← Nat.pow_add, show s + 1 + (15 - s) = 16 by omega]
  rw [e, Nat.mod_mul_right_div_self, Nat.mod_mul_right_mod]

theorem div_round {P b bit : Nat} (hb : 0 < b) (hbit : bit ≤ 1) :
    (b ≤ 2 * (P % b) + bit → (2 * P + bit) / b = 2 * (P / b) + 1 ∧ (2 * P + bit) % b = 2 * (P % b) + bit - b) ∧
    (2 * (P % b) + bit < b → (2 * P + bit) / b = 2 * (P / b) ∧ (2 * P + bit) % b = 2 * (P % b) + bit) := by
  have e := Nat.div_add_mod P b
  have hr := Nat.mod_lt P hb
  have key : 2 * P + bit = (2 * (P % b) + bit) + b * (2 * (P / b)) := by
    have : b * (2 * (P / b)) = 2 * (b * (P / b)) := by rw [Nat.mul_left_comm]
    omega
  constructor
  · intro h
    have k2 : 2 * P + bit = (2 * (P % b) + bit - b) + b * (2 * (P / b) + 1) := by rw [Nat.mul_add]; omega
    rw [k2, Nat.add_mul_div_left _ _ hb, Nat.add_mul_mod_self_left, Nat.div_eq_of_lt (by omega), Nat.mod_eq_of_lt (by omega)]
    omega
  · intro h
    rw [key, Nat.add_mul_div_left _ _ hb, Nat.add_mul_mod_self_left, Nat.div_eq_of_lt h, Nat.mod_eq_of_lt h]
    omega

/-- A bit more in the quotient's digit. -/
theorem turn_bit (Q s i : Nat) (hs : s < 16) : (Q * 2 ^ (s + 1) * 65536 ^ i) / 65536 ^ i % 65536 + 2 ^ s < 65536 ∧
    turn (Q * 2 ^ (s + 1) * 65536 ^ i) i ((Q * 2 ^ (s + 1) * 65536 ^ i) / 65536 ^ i % 65536 + 2 ^ s) = (2 * Q + 1) * 2 ^ s * 65536 ^ i := by
  have hle := turn_le (Q * 2 ^ (s + 1) * 65536 ^ i) i
  unfold turn
  rw [Nat.mul_div_cancel _ (Nat.pow_pos (by decide))] at hle ⊢
  constructor
  · have e : 65536 = 2 ^ (s + 1) * 2 ^ (15 - s) := by rw [← Nat.pow_add, show s + 1 + (15 - s) = 16 by omega]
    have h1 : Q * 2 ^ (s + 1) % 65536 = (Q % 2 ^ (15 - s)) * 2 ^ (s + 1) := by
      rw [e, Nat.mul_comm Q, Nat.mul_mod_mul_left, Nat.mul_comm]
    rw [h1]
    have h2 : Q % 2 ^ (15 - s) + 1 ≤ 2 ^ (15 - s) := Nat.mod_lt _ (Nat.pow_pos (by decide))
    have h3 : (Q % 2 ^ (15 - s) + 1) * 2 ^ (s + 1) ≤ 65536 := by
      have := Nat.mul_le_mul_right (2 ^ (s + 1)) h2
      rw [Nat.mul_comm (2 ^ (15 - s)), ← e] at this
      exact this
    have h4 : 0 < 2 ^ s := Nat.pow_pos (by decide)
    rw [Nat.add_mul, Nat.one_mul] at h3
    have h5 : 2 ^ (s + 1) = 2 ^ s * 2 := Nat.pow_succ ..
    omega
  · rw [Nat.add_mul, Nat.add_mul, Nat.one_mul, Nat.add_mul (2 * Q * 2 ^ s)]
    have h5 : 2 * Q * 2 ^ s = Q * 2 ^ (s + 1) := by rw [Nat.pow_succ, Nat.mul_comm 2 Q, Nat.mul_assoc, Nat.mul_comm 2]
    rw [h5]
    omega

theorem row_one (w : World) : Row (w.alloc (.cells #[.int .i64 1] 3)) (.slice (some ⟨w.heap.size, 0, none⟩) 1 1) (dig 1) := by
  rw [dig_one]
  refine ⟨some ⟨w.heap.size, 0, none⟩, 1, rfl, by simp, by unfold maxLen; omega, .inr ⟨w.heap.size, 0, rfl, fun j hj => ?_⟩⟩
  have : j = 0 := by simp at hj; omega
  subst this
  exact cell_one_new w (.int .i64 1) 3 0 _ rfl

theorem cmp_ge {m n : Nat} (h : n ≤ m) : 0 ≤ cmpI m n := by
  unfold cmpI
  rw [if_neg (by omega)]
  split <;> omega
theorem cmp_lt {m n : Nat} (h : m < n) : cmpI m n < 0 := by
  unfold cmpI
  rw [if_pos h]
  omega
theorem cmp_bd (m n : Nat) : -1 ≤ cmpI m n ∧ cmpI m n ≤ 1 := by
  unfold cmpI
  split
  · omega
  · split <;> omega

end Go.Proofs.YthdbhajpjkkehaaDoor

namespace Go.Proofs.YthdbhajpjkkehaaDoor
open Go.RowKit
set_option linter.unusedVariables false
set_option linter.unusedSimpArgs false

def b2i (b : Bool) : Int := if b then 1 else 0

/-- What a carry counts. -/
def cin (c : Int) : Int := if c = 0 then 0 else 1

theorem u64_lo {x : Int} (h0 : 0 ≤ x) (h1 : x < 18446744073709551616) : IntKind.u64.wrap x = x := by rw [u64_wrap]; omega
theorem u64_hi {x : Int} (h0 : 18446744073709551616 ≤ x) (h1 : x < 36893488147419103232) : IntKind.u64.wrap x = x - 18446744073709551616 := by rw [u64_wrap]; omega
theorem u64_ne {x : Int} (h0 : x < 0) (h1 : -18446744073709551616 ≤ x) : IntKind.u64.wrap x = x + 18446744073709551616 := by rw [u64_wrap]; omega

def addS (a b c : Int) : Int := (a + b + cin c) % 18446744073709551616
def addO (a b c : Int) : Int := (a + b + cin c) / 18446744073709551616
def subS (a b c : Int) : Int := (a - b - cin c) % 18446744073709551616
def subO (a b c : Int) : Int := if a < b + cin c then 1 else 0

theorem cin_zero : cin 0 = 0 := rfl
theorem cin_one {c : Int} (h : c ≠ 0) : cin c = 1 := if_neg h

theorem prod_bd {x y : Int} (x0 : 0 ≤ x) (x1 : x < 4294967296) (y0 : 0 ≤ y) (y1 : y < 4294967296) : 0 ≤ x * y ∧ x * y ≤ 18446744065119617025 := by
  refine ⟨Int.mul_nonneg x0 y0, ?_⟩
  have h1 : x * y ≤ 4294967295 * y := Int.mul_le_mul_of_nonneg_right (by omega) y0
  omega

theorem prod_hi (a b : Int) : a / 4294967296 * (b / 4294967296) + (a / 4294967296 * (b % 4294967296) + a % 4294967296 * (b % 4294967296) / 4294967296) / 4294967296 +
    (a % 4294967296 * (b / 4294967296) + (a / 4294967296 * (b % 4294967296) + a % 4294967296 * (b % 4294967296) / 4294967296) % 4294967296) / 4294967296 = a * b / 18446744073709551616 := by
  have ea : a = 4294967296 * (a / 4294967296) + a % 4294967296 := by omega
  have eb : b = 4294967296 * (b / 4294967296) + b % 4294967296 := by omega
  have e : a * b = 18446744073709551616 * (a / 4294967296 * (b / 4294967296)) + 4294967296 * (a / 4294967296 * (b % 4294967296)) + 4294967296 * (a % 4294967296 * (b / 4294967296)) + a % 4294967296 * (b % 4294967296) := by
    have : a * b = (4294967296 * (a / 4294967296) + a % 4294967296) * (4294967296 * (b / 4294967296) + b % 4294967296) := by rw [← ea, ← eb]
    rw [this, Int.add_mul, Int.mul_add, Int.mul_add]
    have t1 : 4294967296 * (a / 4294967296) * (4294967296 * (b / 4294967296)) = 18446744073709551616 * (a / 4294967296 * (b / 4294967296)) := by
      rw [Int.mul_assoc, Int.mul_left_comm (a / 4294967296), ← Int.mul_assoc]; rfl
    have t2 : 4294967296 * (a / 4294967296) * (b % 4294967296) = 4294967296 * (a / 4294967296 * (b % 4294967296)) := Int.mul_assoc ..
    have t3 : a % 4294967296 * (4294967296 * (b / 4294967296)) = 4294967296 * (a % 4294967296 * (b / 4294967296)) := Int.mul_left_comm ..
    rw [t1, t2, t3]
    omega
  rw [e]
  generalize a / 4294967296 * (b / 4294967296) = p11 at *
  generalize a / 4294967296 * (b % 4294967296) = p10 at *
  generalize a % 4294967296 * (b / 4294967296) = p01 at *
  generalize a % 4294967296 * (b % 4294967296) = p00 at *
  omega

end Go.Proofs.YthdbhajpjkkehaaDoor
