/- The decimal text of a number, in plain Lean. -/
import Derived.Test.YtoljemjnhomomaaLaw2
namespace Go.Proofs.Ytoljemjnhomomaa
open Go.RowKit Go.Lib
set_option linter.unusedVariables false
set_option linter.unusedSimpArgs false

/-- The digits of a number's text, the lowest first. -/
def decU (n : Nat) : List UInt8 := if h : n = 0 then [] else UInt8.ofNat (48 + n % 10) :: decU (n / 10)
termination_by n
decreasing_by omega
def textN (n : Nat) : List UInt8 := if n = 0 then [48] else (decU n).reverse

theorem decU_zero : decU 0 = [] := by rw [decU, dif_pos rfl]
theorem decU_pos {n : Nat} (h : 0 < n) : decU n = UInt8.ofNat (48 + n % 10) :: decU (n / 10) := by rw [decU, dif_neg (by omega)]
theorem decU_len (n i : Nat) : i < (decU n).length ↔ 0 < n / 10 ^ i := by
  induction i generalizing n with
  | zero =>
    by_cases h : n = 0
    · subst h; simp [decU_zero]
    · rw [decU_pos (by omega)]; simp; omega
  | succ i ih =>
    by_cases h : n = 0
    · subst h; simp [decU_zero]
    · rw [decU_pos (by omega), List.length_cons, Nat.succ_lt_succ_iff, ih, Nat.div_div_eq_div_mul, Nat.pow_succ, Nat.mul_comm]
theorem decU_getD (n i : Nat) (h : 0 < n / 10 ^ i) : (decU n).getD i 0 = UInt8.ofNat (48 + n / 10 ^ i % 10) := by
  induction i generalizing n with
  | zero => rw [decU_pos (by simpa using h)]; simp
  | succ i ih =>
    have h0 : 0 < n := by
      rcases Nat.eq_zero_or_pos n with e | e
      · subst e; simp at h
      · exact e
    have e : n / 10 / 10 ^ i = n / 10 ^ (i + 1) := by rw [Nat.div_div_eq_div_mul, Nat.pow_succ, Nat.mul_comm]
    rw [decU_pos h0, List.getD_cons_succ, ih _ (by rw [e]; exact h), e]
theorem decU_take_succ (n m : Nat) (h : 0 < n / 10 ^ m) : (decU n).take (m + 1) = (decU n).take m ++ [UInt8.ofNat (48 + n / 10 ^ m % 10)] := by
  have hl := (decU_len n m).2 h
  rw [List.take_succ_eq_append_getElem hl, ← decU_getD n m h, List.getD_eq_getElem?_getD, List.getElem?_eq_getElem hl]
  rfl
theorem decU_take_all (n m : Nat) (h : n / 10 ^ m = 0) : (decU n).take m = decU n := by
  apply List.take_of_length_le
  have := decU_len n m
  omega
theorem digit_toNat (n : Nat) : (UInt8.ofNat (48 + n % 10)).toNat = 48 + n % 10 := by
  rw [UInt8.toNat_ofNat']
  omega
theorem decU_dig (n : Nat) : ∀ c ∈ decU n, isDig c := by
  induction n using Nat.strongRecOn with
  | _ n ih =>
    by_cases h : n = 0
    · subst h; simp [decU_zero]
    · rw [decU_pos (by omega)]
      intro c hc
      rcases List.mem_cons.1 hc with rfl | hc
      · unfold isDig
        rw [digit_toNat]
        omega
      · exact ih _ (by omega) c hc
theorem decV_rev (n : Nat) : decV (decU n).reverse = n := by
  induction n using Nat.strongRecOn with
  | _ n ih =>
    by_cases h : n = 0
    · subst h; rw [decU_zero]; rfl
    · rw [decU_pos (by omega), List.reverse_cons, decV_snoc, ih _ (by omega), digit_toNat]
      omega
theorem decV_textN (n : Nat) : decV (textN n) = n := by
  unfold textN
  split
  · next h => subst h; rfl
  · exact decV_rev n
theorem decU_last (n : Nat) : (decU n).getLast? ≠ some 48 := by
  induction n using Nat.strongRecOn with
  | _ n ih =>
    by_cases h : n = 0
    · subst h; rw [decU_zero]; simp
    · rw [decU_pos (by omega), List.getLast?_cons]
      by_cases h1 : n / 10 = 0
      · rw [h1, decU_zero]
        show some (UInt8.ofNat (48 + n % 10)) ≠ some 48
        intro e
        have e1 := congrArg UInt8.toNat (Option.some.inj e)
        rw [digit_toNat, show (48 : UInt8).toNat = 48 from rfl] at e1
        have h2 : n % 10 = n := Nat.mod_eq_of_lt (by omega)
        omega
      · have := ih (n / 10) (by omega)
        cases hh : (decU (n / 10)).getLast? with
        | none => rw [List.getLast?_eq_none_iff] at hh; rw [decU_pos (by omega)] at hh; cases hh
        | some c => rw [hh] at this; simpa using this
theorem decU_of (r : List UInt8) (hd : ∀ c ∈ r, isDig c) (hl : r.getLast? ≠ some 48) : decU (decV r.reverse) = r := by
  induction r with
  | nil => rw [List.reverse_nil, show decV [] = 0 from rfl, decU_zero]
  | cons c r ih =>
    have hc : isDig c := hd c (by simp)
    unfold isDig at hc
    rw [List.reverse_cons, decV_snoc]
    have hof : ∀ k, k = c.toNat → UInt8.ofNat k = c := fun k hk => by subst hk; simp
    by_cases hr : r = []
    · subst hr
      simp at hl
      have hne : c.toNat ≠ 48 := fun e => hl (UInt8.toNat_inj.1 e)
      rw [List.reverse_nil, show decV [] = 0 from rfl, decU_pos (by omega), show (0 * 10 + (c.toNat - 48)) / 10 = 0 by omega, decU_zero, hof _ (by omega)]
    · have hl' : r.getLast? ≠ some 48 := by
        rw [List.getLast?_cons] at hl
        cases hh : r.getLast? with
        | none => simp
        | some d => rw [hh] at hl; simpa using hl
      have e := ih (fun c hc => hd c (by simp [hc])) hl'
      have hp : 0 < decV r.reverse := by
        rcases Nat.eq_zero_or_pos (decV r.reverse) with h | h
        · rw [h, decU_zero] at e; exact absurd e.symm hr
        · exact h
      rw [decU_pos (by omega), show (decV r.reverse * 10 + (c.toNat - 48)) / 10 = decV r.reverse by omega, e, hof _ (by omega)]
theorem textN_of (l : List UInt8) (h : ¬ badText l) : textN (decV l) = l := by
  unfold badText at h
  have h0 : l ≠ [] := fun e => h (.inl e)
  have h1 : 1 < l.length → l.getD 0 0 ≠ 48 := fun hl e => h (.inr (.inl ⟨hl, e⟩))
  have h2 : ∀ c ∈ l, isDig c := fun c hc => Decidable.byContradiction fun e => h (.inr (.inr ⟨c, hc, e⟩))
  by_cases hz : l = [48]
  · subst hz; rfl
  · have hl : l.reverse.getLast? ≠ some 48 := by
      rw [List.getLast?_reverse]
      cases l with
      | nil => simp
      | cons a t =>
        simp
        intro e
        subst e
        cases t with
        | nil => exact hz rfl
        | cons b t => exact h1 (by simp) (by simp)
    have e := decU_of l.reverse (fun c hc => h2 c (by simpa using hc)) hl
    rw [List.reverse_reverse] at e
    unfold textN
    split
    · next hn =>
      rw [hn, decU_zero] at e
      exact absurd (by simpa using e.symm) h0
    · rw [e, List.reverse_reverse]
theorem textN_good (n : Nat) : ¬ badText (textN n) := by
  unfold textN
  split
  · decide
  · next hn =>
    rintro (h | ⟨h1, h2⟩ | ⟨c, hc, h⟩)
    · rw [decU_pos (by omega)] at h; simp at h
    · have := decU_last n
      rw [← List.head?_reverse] at this
      cases hh : (decU n).reverse with
      | nil => rw [hh] at h1; simp at h1
      | cons a t => rw [hh] at this h2; simp at this h2; exact this h2
    · exact h (decU_dig n c (by simpa using hc))
theorem parseV_textN (n : Nat) : parseV (textN n) = sumV n := by rw [parseV, if_neg (textN_good n), decV_textN]
theorem ten78 : (18446744073709551616 : Nat) ^ 4 ≤ 10 ^ 78 := by decide
theorem decV_big (l : List UInt8) (h : ¬ badText l) (hl : 78 < l.length) : 18446744073709551616 ^ 4 ≤ decV l := by
  have e := textN_of l h
  generalize decV l = n at e
  unfold textN at e
  split at e
  · rw [← e] at hl; simp at hl
  · rw [← e, List.length_reverse, decU_len] at hl
    exact Nat.le_trans ten78 (by have := Nat.div_pos_iff.1 hl; exact this.2)
theorem textN_len (n : Nat) (h : n < 18446744073709551616 ^ 4) : (textN n).length ≤ 78 := by
  unfold textN
  split
  · decide
  · rw [List.length_reverse]
    have h1 := decU_len n 78
    rw [Nat.div_eq_of_lt (Nat.lt_of_lt_of_le h ten78)] at h1
    omega
end Go.Proofs.Ytoljemjnhomomaa
