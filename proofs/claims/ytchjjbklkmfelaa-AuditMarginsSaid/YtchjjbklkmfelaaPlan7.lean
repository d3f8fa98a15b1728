/- Slices of numbers that a region makes. -/
import Derived.Test.YtchjjbklkmfelaaPlan6
import Derived.Test.YtchjjbklkmfelaaNums
namespace Go.Proofs.Ytchjjbklkmfelaa
open Go.RowKit Go.Lib Go.Deep
set_option linter.unusedVariables false

theorem infoInt4 : (Try.prog.info? 28).map (fun i => (i.zero, i.size, i.bytes)) = some (some (.agg #[.int .u64 0, .int .u64 0, .int .u64 0, .int .u64 0]), 4, 32) := by kernel_rfl
section
variable {ops : Array Oper} {a : Act} {T : Sched} {C : Nat → (Nat → Prop) → World → Prop} {i : Nat} {o : Oper}
theorem pn_ints1 (ht : T.tag i = .new) (x : Operand) (hop : o.op = .buildSlice 93 1 #[(0, x)]) (hf : ∀ p, T.form i p = .slice (some ⟨p, 0, none⟩) 1 1) (n : Nat) (hx : ∀ c A, ReadsAs ops T a c i A (o.looksAt ops) → A.eval x = bigN n) (hxs : T.xs0 i = cells4L n) : StepAt ops Try.prog T a C i o := by
  obtain ⟨i0, hi, hz0, hz1, hz2⟩ := info_parts infoInt4
  refine pn_slice ht _ 28 1 _ hop i0 _ Try.underlying93 hi hz0 (by rw [hz1]; decide) (by rw [hz1]; decide) hf fun c A hr => ?_
  rw [hxs, hz1]
  simp only [List.map_toArray, List.map_cons, List.map_nil, hx c A hr]
  kernel_rfl
theorem pn_ints2 (ht : T.tag i = .new) (x y : Operand) (hop : o.op = .buildSlice 93 2 #[(0, x), (1, y)]) (hf : ∀ p, T.form i p = .slice (some ⟨p, 0, none⟩) 2 2) (n m : Nat) (hx : ∀ c A, ReadsAs ops T a c i A (o.looksAt ops) → A.eval x = bigN n) (hy : ∀ c A, ReadsAs ops T a c i A (o.looksAt ops) → A.eval y = bigN m) (hxs : T.xs0 i = cells4L n ++ cells4L m) : StepAt ops Try.prog T a C i o := by
  obtain ⟨i0, hi, hz0, hz1, hz2⟩ := info_parts infoInt4
  refine pn_slice ht _ 28 2 _ hop i0 _ Try.underlying93 hi hz0 (by rw [hz1]; decide) (by rw [hz1]; decide) hf fun c A hr => ?_
  rw [hxs, hz1]
  simp only [List.map_toArray, List.map_cons, List.map_nil, hx c A hr, hy c A hr]
  kernel_rfl
end
theorem cells4_at (l : List Nat) (o g : Nat) (w : World) (h : w.rangeAt g o (l.map cells4L).flatten) : ∀ i, i < l.length → ∀ j, j < 4 → w.cell? ⟨g, o + i * 4 + j, none⟩ = some (.int .u64 (limb (l.getD i 0) j)) := by
  induction l generalizing o with
  | nil => intro i hi; simp at hi
  | cons x r ih =>
    intro i hi j hj
    cases i with
    | zero =>
      have := h j (.int .u64 (limb x j)) (by
        rw [List.map_cons, List.flatten_cons, List.getElem?_append_left (by simpa [cells4L] using hj)]
        match j, hj with
        | 0, _ => rfl
        | 1, _ => rfl
        | 2, _ => rfl
        | 3, _ => rfl)
      simpa using this
    | succ i =>
      have h2 : w.rangeAt g (o + 4) (r.map cells4L).flatten := fun k v hv => by
        have := h (4 + k) v (by
          rw [List.map_cons, List.flatten_cons, List.getElem?_append_right (by simp [cells4L])]
          simpa [cells4L] using hv)
        rwa [← Nat.add_assoc] at this
      have := ih (o + 4) h2 i (by simpa using hi) j hj
      rw [show o + (i + 1) * 4 + j = o + 4 + i * 4 + j by omega]
      simpa using this
theorem nums_of_at {w : World} {g : Nat} {l : List Nat} (h : w.rangeAt g 0 (l.map cells4L).flatten) (hl : l.length ≤ 1000000) : Nums w (.slice (some ⟨g, 0, none⟩) l.length l.length) l :=
  ⟨_, _, rfl, Nat.le_refl _, by unfold maxLen; omega, .inr ⟨g, 0, rfl, cells4_at l 0 g w h⟩⟩
theorem limbs8_inj {a b : Nat} (ha : a < 18446744073709551616 ^ 8) (hb : b < 18446744073709551616 ^ 8) (h : [limb a 0, limb a 1, limb a 2, limb a 3, limb a 4, limb a 5, limb a 6, limb a 7] = [limb b 0, limb b 1, limb b 2, limb b 3, limb b 4, limb b 5, limb b 6, limb b 7]) : a = b := by
  have hj : ∀ j, j < 8 → limb a j = limb b j := fun j hj => by
    simp only [List.cons.injEq, and_true] at h
    obtain ⟨h0, h1, h2, h3, h4, h5, h6, h7⟩ := h
    match j, hj with
    | 0, _ => exact h0
    | 1, _ => exact h1
    | 2, _ => exact h2
    | 3, _ => exact h3
    | 4, _ => exact h4
    | 5, _ => exact h5
    | 6, _ => exact h6
    | 7, _ => exact h7
  have key : ∀ n, n ≤ 8 → a / 18446744073709551616 ^ (8 - n) = b / 18446744073709551616 ^ (8 - n) := by
    intro n
    induction n with
    | zero => intro _; rw [Nat.sub_zero, Nat.div_eq_of_lt ha, Nat.div_eq_of_lt hb]
    | succ n ih =>
      intro hn
      have h1 := ih (by omega)
      have h2 := hj (8 - (n + 1)) (by omega)
      rw [show 8 - n = 8 - (n + 1) + 1 by omega] at h1
      unfold limb at h2
      generalize 8 - (n + 1) = k at *
      have e (x : Nat) : x / 18446744073709551616 ^ (k + 1) = x / 18446744073709551616 ^ k / 18446744073709551616 := by rw [Nat.pow_succ, Nat.div_div_eq_div_mul]
      rw [e, e] at h1
      generalize a / 18446744073709551616 ^ k = x at *
      generalize b / 18446744073709551616 ^ k = y at *
      omega
  have := key 8 (by omega)
  simpa using this
theorem run_neq_wide (a b : Nat) (w : World) (ha : a < 18446744073709551616 ^ 8) (hb : b < 18446744073709551616 ^ 8) :
    (binOp .neq 111 (.agg #[.int .u64 (limb a 0), .int .u64 (limb a 1), .int .u64 (limb a 2), .int .u64 (limb a 3), .int .u64 (limb a 4), .int .u64 (limb a 5), .int .u64 (limb a 6), .int .u64 (limb a 7)]) (.agg #[.int .u64 (limb b 0), .int .u64 (limb b 1), .int .u64 (limb b 2), .int .u64 (limb b 3), .int .u64 (limb b 4), .int .u64 (limb b 5), .int .u64 (limb b 6), .int .u64 (limb b 7)])).run Try.prog w = .ok (.bool (decide (a ≠ b))) w := by
  obtain ⟨i, hi, _⟩ := Option.map_eq_some_iff.1 Try.infoU64
  have e : ∀ n : Nat, (#[.int .u64 (limb n 0), .int .u64 (limb n 1), .int .u64 (limb n 2), .int .u64 (limb n 3), .int .u64 (limb n 4), .int .u64 (limb n 5), .int .u64 (limb n 6), .int .u64 (limb n 7)] : Array Value) = ints .u64 [limb n 0, limb n 1, limb n 2, limb n 3, limb n 4, limb n 5, limb n 6, limb n 7] := fun n => by simp [ints]
  rw [e a, e b, run_neq_ints (P := Try.prog) (w := w) (t := 111) (k := .u64) Try.underlying111 Try.underlying24 hi Try.cellsU64 _ _ rfl rfl]
  have hd : ∀ (x y : List Int) (p q : Nat), (x = y ↔ p = q) → (!decide (x = y)) = decide (p ≠ q) := fun x y p q h => by
    rw [Bool.eq_iff_iff, Bool.not_eq_true', decide_eq_false_iff_not, decide_eq_true_eq, Ne, h]
  rw [hd _ _ a b ⟨fun h => limbs8_inj ha hb h, fun h => by rw [h]⟩]
end Go.Proofs.Ytchjjbklkmfelaa
