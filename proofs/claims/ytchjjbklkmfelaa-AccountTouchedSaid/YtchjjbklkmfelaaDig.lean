/- Plain arithmetic of rows of digits of 16 bits, the lowest first. -/
import Derived.Test.YtchjjbklkmfelaaBase
namespace Go.Proofs.Ytchjjbklkmfelaa
set_option linter.unusedVariables false

/-- The digits of a number, without noughts at the end. -/
def dig (n : Nat) : List Int := if h : n = 0 then [] else ((n % 65536 : Nat) : Int) :: dig (n / 65536)
termination_by n
decreasing_by omega

/-- The lowest k digits of a number. -/
def low : Nat → Nat → List Int
  | 0, _ => []
  | k + 1, n => ((n % 65536 : Nat) : Int) :: low k (n / 65536)

theorem dig_zero : dig 0 = [] := by rw [dig, dif_pos rfl]
theorem dig_pos {n : Nat} (h : 0 < n) : dig n = ((n % 65536 : Nat) : Int) :: dig (n / 65536) := by rw [dig, dif_neg (by omega)]
theorem dig_nil {n : Nat} (h : dig n = []) : n = 0 := by
  by_cases h0 : n = 0
  · exact h0
  · rw [dig_pos (by omega)] at h; cases h
theorem dig_len_zero {n : Nat} (h : (dig n).length = 0) : n = 0 := dig_nil (List.length_eq_zero_iff.1 h)
theorem low_length (k n : Nat) : (low k n).length = k := by
  induction k generalizing n with
  | zero => rfl
  | succ k ih => simp [low, ih]
theorem low_getElem (k n i : Nat) (h : i < k) : (low k n)[i]? = some ((n / 65536 ^ i % 65536 : Nat) : Int) := by
  induction k generalizing n i with
  | zero => omega
  | succ k ih =>
    cases i with
    | zero => simp [low]
    | succ i =>
      rw [low, List.getElem?_cons_succ, ih _ _ (by omega), Nat.div_div_eq_div_mul, Nat.pow_succ, Nat.mul_comm]
theorem low_getD (k n i : Nat) (h : i < k) : (low k n).getD i 0 = ((n / 65536 ^ i % 65536 : Nat) : Int) := by
  rw [List.getD_eq_getElem?_getD, low_getElem k n i h]; rfl
theorem dig_getD (n i : Nat) : (dig n).getD i 0 = ((n / 65536 ^ i % 65536 : Nat) : Int) := by
  induction i generalizing n with
  | zero =>
    by_cases h : n = 0
    · subst h; rw [dig_zero]; rfl
    · rw [dig_pos (by omega)]; simp
  | succ i ih =>
    by_cases h : n = 0
    · subst h; rw [dig_zero]; simp
    · rw [dig_pos (by omega), List.getD_cons_succ, ih, Nat.div_div_eq_div_mul, Nat.pow_succ, Nat.mul_comm]
theorem dig_lt (n : Nat) : n < 65536 ^ (dig n).length := by
  induction n using Nat.strongRecOn with
  | _ n ih =>
    by_cases h : n = 0
    · subst h; rw [dig_zero]; decide
    · have e := ih (n / 65536) (by omega)
      rw [dig_pos (by omega), List.length_cons, Nat.pow_succ]
      generalize 65536 ^ (dig (n / 65536)).length = p at *
      omega
theorem dig_len_le {n k : Nat} (h : n < 65536 ^ k) : (dig n).length ≤ k := by
  induction k generalizing n with
  | zero => have : n = 0 := by simpa using h
            subst this; rw [dig_zero]; simp
  | succ k ih =>
    by_cases h0 : n = 0
    · subst h0; rw [dig_zero]; simp
    · rw [dig_pos (by omega), List.length_cons]
      have := ih (n := n / 65536) (by rw [Nat.pow_succ] at h; omega)
      omega
theorem dig_div_len (n : Nat) (k : Nat) (h : (dig n).length ≤ k) : n / 65536 ^ k = 0 :=
  Nat.div_eq_of_lt (Nat.lt_of_lt_of_le (dig_lt n) (Nat.pow_le_pow_right (by decide) h))
theorem low_snoc (k n : Nat) : low (k + 1) n = low k n ++ [((n / 65536 ^ k % 65536 : Nat) : Int)] := by
  induction k generalizing n with
  | zero => simp [low]
  | succ k ih =>
    rw [low, ih, low, List.cons_append, Nat.div_div_eq_div_mul, Nat.pow_succ, Nat.mul_comm]
theorem low_zero (k : Nat) : low k 0 = List.replicate k 0 := by
  induction k with
  | zero => rfl
  | succ k ih => rw [low, List.replicate_succ, Nat.zero_div, ih]; rfl
/-- The digits are as many of the lowest as there are. -/
theorem dig_low (n : Nat) : dig n = low (dig n).length n := by
  induction n using Nat.strongRecOn with
  | _ n ih =>
    by_cases h : n = 0
    · subst h; rw [dig_zero]; rfl
    · have e := ih (n / 65536) (by omega)
      rw [dig_pos (by omega), List.length_cons, low, ← e]
theorem low_take (k j n : Nat) (h : j ≤ k) : (low k n).take j = low j n := by
  induction j generalizing k n with
  | zero => rfl
  | succ j ih =>
    obtain ⟨k, rfl⟩ : ∃ m, k = m + 1 := ⟨k - 1, by omega⟩
    rw [low, low, List.take_succ_cons, ih _ _ (by omega)]
theorem dig_digit (n i : Nat) (h : i < (dig n).length) : (dig n)[i]? = some ((n / 65536 ^ i % 65536 : Nat) : Int) := by
  have := dig_getD n i
  rw [List.getD_eq_getElem?_getD] at this
  rw [List.getElem?_eq_getElem h] at this ⊢
  simpa using this
/-- Noughts at the end are cut off. -/
theorem low_trim {k n : Nat} (h : n < 65536 ^ (k + 1)) (hz : n / 65536 ^ k % 65536 = 0) : n < 65536 ^ k := by
  rw [Nat.pow_succ] at h
  have h1 : n / 65536 ^ k < 65536 := Nat.div_lt_of_lt_mul h
  have h2 : n / 65536 ^ k = 0 := by
    generalize n / 65536 ^ k = x at *
    omega
  exact (Nat.div_eq_zero_iff_lt (Nat.pow_pos (by decide))).1 h2
theorem low_full {k n : Nat} (h : n < 65536 ^ (k + 1)) (hz : n / 65536 ^ k % 65536 ≠ 0) : dig n = low (k + 1) n := by
  have hl := dig_len_le h
  have : (dig n).length = k + 1 := by
    by_cases e : (dig n).length = k + 1
    · exact e
    · have := dig_div_len n k (by omega)
      rw [this] at hz
      simp at hz
  rw [dig_low, this]
/-- A digit set. -/
theorem low_set (k n j d : Nat) (hj : j < k) (hd : d < 65536) : (low k n).set j (d : Int) = low k (n - n / 65536 ^ j % 65536 * 65536 ^ j + d * 65536 ^ j) := by
  induction k generalizing n j with
  | zero => omega
  | succ k ih =>
    cases j with
    | zero =>
      simp only [low, List.set_cons_zero, Nat.pow_zero, Nat.div_one, Nat.mul_one]
      have e1 : (n - n % 65536 + d) % 65536 = d := by omega
      have e2 : (n - n % 65536 + d) / 65536 = n / 65536 := by omega
      rw [e1, e2]
    | succ j =>
      have hp : 0 < 65536 ^ j := Nat.pow_pos (by decide)
      have e0 : n / 65536 / 65536 ^ j = n / 65536 ^ (j + 1) := by rw [Nat.div_div_eq_div_mul, Nat.pow_succ, Nat.mul_comm]
      have hle : n / 65536 / 65536 ^ j % 65536 * 65536 ^ j ≤ n / 65536 :=
        Nat.le_trans (Nat.mul_le_mul_right _ (Nat.mod_le _ _)) (Nat.div_mul_le_self _ _)
      simp only [low, List.set_cons_succ]
      rw [ih _ _ (by omega)]
      rw [e0] at hle ⊢
      rw [Nat.pow_succ, ← Nat.mul_assoc, ← Nat.mul_assoc]
      rw [Nat.pow_succ] at hle
      generalize n / (65536 ^ j * 65536) % 65536 * 65536 ^ j = A at *
      generalize d * 65536 ^ j = D at *
      have e1 : (n - A * 65536 + D * 65536) % 65536 = n % 65536 := by omega
      have e2 : (n - A * 65536 + D * 65536) / 65536 = n / 65536 - A + D := by omega
      rw [e1, e2]
end Go.Proofs.Ytchjjbklkmfelaa
