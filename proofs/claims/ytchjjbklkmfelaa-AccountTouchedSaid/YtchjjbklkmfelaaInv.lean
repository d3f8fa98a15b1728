/- A region that draws its order, by what holds whatever has come up so far: one step for each operation, not one walk for each order. -/
import Derived.Test.YtchjjbklkmfelaaBase
import Derived.Orders
namespace Go.Proofs.Ytchjjbklkmfelaa
set_option linter.unusedVariables false
section
variable {P : Program} {md : Region.Mode} {ops : Array Oper} {Q : Exit → Act → World → Prop}

theorem count_less (p q : Nat → Bool) (i : Nat) (hq : q i = false) (hp : p i = true) (hle : ∀ j, q j = true → p j = true) : ∀ (l : List Nat), i ∈ l → l.countP q + 1 ≤ l.countP p
  | [], h => by cases h
  | j :: l, h => by
    have hmono : ∀ l : List Nat, l.countP q ≤ l.countP p := fun l => List.countP_mono_left (fun j _ => hle j)
    by_cases e : j = i
    · subst e
      rw [List.countP_cons_of_neg (by rw [hq]; decide), List.countP_cons_of_pos (by rw [hp])]
      exact Nat.succ_le_succ (hmono l)
    · have h' : i ∈ l := by
        rcases List.mem_cons.1 h with h | h
        · exact absurd h.symm e
        · exact h
      have ih := count_less p q i hq hp hle l h'
      by_cases hj : q j = true
      · rw [List.countP_cons_of_pos hj, List.countP_cons_of_pos (hle j hj)]
        omega
      · rw [List.countP_cons_of_neg hj, List.countP_cons]
        omega

theorem ready_spec {L : Array Bool} {i : Nat} (h : i ∈ Region.ready md ops L) :
    i < ops.size ∧ L.getD i true = false ∧ ∃ o, ops[i]? = some o ∧ ∀ e ∈ o.after, Region.binds md e = true → L.getD e.on false = true := by
  unfold Region.ready at h
  obtain ⟨h1, h2⟩ := List.mem_filter.1 h
  have hi := List.mem_range.1 h1
  simp only [Bool.and_eq_true, Bool.not_eq_true'] at h2
  refine ⟨hi, h2.1, ops[i], Array.getElem?_eq_getElem hi, fun e he hb => ?_⟩
  have h3 := h2.2
  rw [Array.getElem?_eq_getElem hi] at h3
  simp only [Option.map_some, Option.getD_some, Array.all_eq_true_iff_forall_mem] at h3
  have := h3 e he
  rw [hb] at this
  simpa using this

theorem any_inv (I : Array Bool → Act → World → Prop)
    (hend : ∀ L a w, I L a w → Region.ready md ops L = [] → Q .normal a w)
    (hstep : ∀ L a w i, I L a w → i ∈ Region.ready md ops L → wpOp P ops Q i (fun a' w' => I (L.setIfInBounds i true) a' w') a w) :
    ∀ (fuel : Nat) (L : Array Bool) (a : Act) (w : World), L.size = ops.size → I L a w → (List.range ops.size).countP (fun i => !L.getD i true) ≤ fuel → wpAny P md ops Q fuel L a w
  | 0, L, a, w, hs, hI, hc => by
    have hr : Region.ready md ops L = [] := by
      apply List.eq_nil_iff_forall_not_mem.2
      intro i hi
      obtain ⟨h1, h2, -⟩ := ready_spec hi
      have : 0 < (List.range ops.size).countP (fun i => !L.getD i true) := List.countP_pos_iff.2 ⟨i, List.mem_range.2 h1, by rw [h2]; rfl⟩
      omega
    exact ⟨hr, hend L a w hI hr⟩
  | fuel + 1, L, a, w, hs, hI, hc => by
    refine ⟨hend L a w hI, fun i hi => ?_⟩
    obtain ⟨h1, h2, -⟩ := ready_spec hi
    refine wpOp_mono (fun a' w' hI' => any_inv I hend hstep fuel _ a' w' (by simpa using hs) hI' ?_) (hstep L a w i hI hi)
    have := count_less (fun j => !L.getD j true) (fun j => !(L.setIfInBounds i true).getD j true) i (by simp [Array.getD, hs, h1]) (by rw [h2]; rfl) (fun j hj => by
      by_cases e : j = i
      · subst e
        simp [Array.getD, hs, h1] at hj
      · simp only [Array.getD_eq_getD_getElem?, Array.getElem?_setIfInBounds] at hj ⊢
        rw [if_neg (fun h => e h.symm)] at hj
        exact hj) (List.range ops.size) (List.mem_range.2 h1)
    omega
theorem region_inv {id : Nat} {a : Act} {w : World} (hm : P.follows .mixedOrders = true) (I : Array Bool → Act → World → Prop) (h0 : I (Array.replicate ops.size false) a w.drew)
    (hend : ∀ L a w, I L a w → Region.ready .any ops L = [] → Q .normal a w)
    (hstep : ∀ L a w i, I L a w → i ∈ Region.ready .any ops L → wpOp P ops Q i (fun a' w' => I (L.setIfInBounds i true) a' w') a w) :
    (Code.region id ops true).wp P Q a w :=
  wp_region_any hm (any_inv I hend hstep ops.size _ a _ (by simp) h0 (by
    refine Nat.le_trans List.countP_le_length ?_
    rw [List.length_range]
    exact Nat.le_refl _))
end
end Go.Proofs.Ytchjjbklkmfelaa
