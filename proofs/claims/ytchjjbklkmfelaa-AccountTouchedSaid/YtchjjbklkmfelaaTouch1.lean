/- account.Touched: plain Lean: the tokens that an account's events name, sorted and compacted. -/
import Derived.Test.YtchjjbklkmfelaaAcct3
import Derived.Sort.AssemblyPlain
import Derived.Lib.SlicesCompact
namespace Go.Proofs.Ytchjjbklkmfelaa
open Go.RowKit Go.Lib
set_option linter.unusedVariables false
set_option linter.unusedSimpArgs false

def touches (c : List Value) (who : Int) : Bool := givesV c who || takesV c who
def stepT (who : Int) (c : List Value) : List Int := if touches c who then [intAt c 35] else []
def touchN (l : List (List Value)) (who : Int) : Nat → List Int
  | 0 => []
  | k + 1 => touchN l who k ++ stepT who (l.getD k [])
theorem touchN_len (l : List (List Value)) (who : Int) (k : Nat) : (touchN l who k).length ≤ k := by
  induction k with
  | zero => exact Nat.le_refl _
  | succ k ih =>
    unfold touchN stepT
    rw [List.length_append]
    split <;> simp <;> omega
theorem stepL_iff (who tok : Int) (k : Nat) (c : List Value) : stepL who tok k c ≠ [] ↔ tok ∈ stepT who c := by
  unfold stepL stepT touches
  by_cases h : intAt c 35 = tok
  · rw [if_pos h]
    cases givesV c who <;> cases takesV c who <;> simp [h]
  · rw [if_neg h]
    have h' : ¬ tok = intAt c 35 := fun e => h e.symm
    cases givesV c who <;> cases takesV c who <;> simp [h']
theorem linesN_iff (l : List (List Value)) (who tok : Int) (k : Nat) : linesN l who tok k ≠ [] ↔ tok ∈ touchN l who k := by
  induction k with
  | zero => simp [linesN, touchN]
  | succ k ih =>
    unfold linesN touchN
    rw [List.mem_append, ← ih, ← stepL_iff who tok k]
    cases linesN l who tok k <;> simp

/-- Strictly ascending. -/
def Asc (l : List Int) : Prop := ∀ i j, i < j → j < l.length → l.getD i 0 < l.getD j 0
theorem asc_snoc {l : List Int} {x : Int} (h : Asc l) (hx : ∀ y ∈ l, y < x) : Asc (l ++ [x]) := by
  intro i j hij hj
  rw [List.length_append] at hj
  simp at hj
  have hi : i < l.length := by omega
  have e1 : (l ++ [x]).getD i 0 = l.getD i 0 := by simp [List.getD_eq_getElem?_getD, List.getElem?_append_left hi]
  rw [e1]
  by_cases hjl : j < l.length
  · have e2 : (l ++ [x]).getD j 0 = l.getD j 0 := by simp [List.getD_eq_getElem?_getD, List.getElem?_append_left hjl]
    rw [e2]
    exact h i j hij hjl
  · have hjl2 : j = l.length := by omega
    subst hjl2
    have e2 : (l ++ [x]).getD l.length 0 = x := by simp [List.getD_eq_getElem?_getD]
    rw [e2]
    apply hx
    rw [List.getD_eq_getElem?_getD, List.getElem?_eq_getElem hi]
    exact List.getElem_mem hi
theorem compact_law {d : Array Int} (hs : ∀ i j, i < j → j < d.size → d[i]! ≤ d[j]!) : ∀ m, m ≤ d.size → Asc (compactUpTo d m) ∧ (∀ x ∈ compactUpTo d m, 0 < m ∧ x ≤ d[m - 1]!) ∧ ∀ x, x ∈ compactUpTo d m ↔ ∃ i, i < m ∧ d[i]! = x := by
  intro m
  induction m with
  | zero =>
    intro _
    refine ⟨fun i j _ hj => by simp [compactUpTo] at hj, fun x hx => by simp [compactUpTo] at hx, fun x => ?_⟩
    simp [compactUpTo]
  | succ m ih =>
    intro hm
    obtain ⟨h1, h2, h3⟩ := ih (by omega)
    rw [compactUpTo_succ]
    cases hk : keeps d m
    · simp only [Bool.false_eq_true, if_false, List.append_nil]
      have hk' : ¬ (m = 0 ∨ d[m]! ≠ d[m - 1]!) := by unfold keeps at hk; exact of_decide_eq_false hk
      have h0 : m ≠ 0 := fun e => hk' (Or.inl e)
      have he : d[m]! = d[m - 1]! := Classical.byContradiction fun e => hk' (Or.inr e)
      refine ⟨h1, fun x hx => ⟨by omega, ?_⟩, fun x => ?_⟩
      · rw [Nat.add_sub_cancel, he]; exact (h2 x hx).2
      · rw [h3 x]
        constructor
        · rintro ⟨i, hi, e⟩; exact ⟨i, by omega, e⟩
        · rintro ⟨i, hi, e⟩
          by_cases hi2 : i < m
          · exact ⟨i, hi2, e⟩
          · obtain rfl : i = m := by omega
            exact ⟨i - 1, by omega, he.symm.trans e⟩
    · simp only [if_true]
      have hk' : m = 0 ∨ d[m]! ≠ d[m - 1]! := by unfold keeps at hk; exact of_decide_eq_true hk
      have hlt : ∀ y ∈ compactUpTo d m, y < d[m]! := fun y hy => by
        obtain ⟨hm0, hy2⟩ := h2 y hy
        rcases hk' with e | e
        · omega
        · have := hs (m - 1) m (by omega) (by omega)
          omega
      refine ⟨asc_snoc h1 hlt, fun x hx => ⟨by omega, ?_⟩, fun x => ?_⟩
      · rw [Nat.add_sub_cancel]
        rcases List.mem_append.1 hx with hx | hx
        · exact Int.le_of_lt (hlt x hx)
        · rw [List.mem_singleton.1 hx]; exact Int.le_refl _
      · rw [List.mem_append, h3 x, List.mem_singleton]
        constructor
        · rintro (⟨i, hi, e⟩ | e)
          · exact ⟨i, by omega, e⟩
          · exact ⟨m, by omega, e.symm⟩
        · rintro ⟨i, hi, e⟩
          by_cases hi2 : i < m
          · exact Or.inl ⟨i, hi2, e⟩
          · obtain rfl : i = m := by omega
            exact Or.inr e.symm
theorem mem_toList (d : Array Int) (x : Int) : x ∈ d.toList ↔ ∃ i, i < d.size ∧ d[i]! = x := by
  constructor
  · intro h
    obtain ⟨i, hi, e⟩ := List.getElem_of_mem h
    exact ⟨i, by simpa using hi, by rw [getElem!_pos d i (by simpa using hi)]; simpa using e⟩
  · rintro ⟨i, hi, e⟩
    rw [getElem!_pos d i hi] at e
    rw [← e]
    exact (Array.mem_toList_iff).2 (Array.getElem_mem hi)
/-- What Sort and Compact make of a list of numbers. -/
theorem sorted_compact (zs : List Int) : ∃ n, (Go.Sort.sort Go.Sort.ltInt zs.toArray).size = n ∧ n = zs.length ∧ Asc (compactUpTo (Go.Sort.sort Go.Sort.ltInt zs.toArray) n) ∧ (∀ x, x ∈ compactUpTo (Go.Sort.sort Go.Sort.ltInt zs.toArray) n ↔ x ∈ zs) ∧ (compactUpTo (Go.Sort.sort Go.Sort.ltInt zs.toArray) n).length ≤ n := by
  obtain ⟨hp, hs⟩ := Go.Sort.sort_sorts Go.Sort.ltInt Go.Sort.swo_ltInt zs.toArray
  have hz : (Go.Sort.sort Go.Sort.ltInt zs.toArray).size = zs.length := by rw [hp.1]; simp
  have hpm := hp.2.2
  generalize Go.Sort.sort Go.Sort.ltInt zs.toArray = d at *
  have hs2 : ∀ i j, i < j → j < d.size → d[i]! ≤ d[j]! := fun i j hij hj => by
    have := hs i j (Nat.zero_le _) hij (by simpa [hz] using hj)
    simp [Go.Sort.ltInt] at this
    exact this
  obtain ⟨h1, _, h3⟩ := compact_law hs2 d.size (Nat.le_refl _)
  refine ⟨d.size, rfl, hz, h1, fun x => ?_, ?_⟩
  · rw [h3 x, ← mem_toList d x]
    have e1 : (d.extract 0 zs.toArray.size).toList = d.toList := by rw [List.size_toArray, ← hz]; simp
    have e2 : (zs.toArray.extract 0 zs.toArray.size).toList = zs := by simp
    rw [e1, e2] at hpm
    exact hpm.mem_iff
  · unfold compactUpTo
    rw [List.length_map]
    exact Nat.le_trans (List.length_filter_le _ _) (by simp)
end Go.Proofs.Ytchjjbklkmfelaa
