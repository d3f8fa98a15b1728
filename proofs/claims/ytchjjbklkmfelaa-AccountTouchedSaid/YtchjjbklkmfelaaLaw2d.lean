/- HugeSums: the sum of any numbers, in whatever order. -/
import Derived.Test.YtchjjbklkmfelaaLaw2b
import Derived.Test.YtchjjbklkmfelaaNums
namespace Go.Proofs.Ytchjjbklkmfelaa
open Go.RowKit Go.Lib
set_option linter.unusedVariables false
set_option linter.unusedSimpArgs false

def cells4L (n : Nat) : List Value := [.int .u64 (limb n 0), .int .u64 (limb n 1), .int .u64 (limb n 2), .int .u64 (limb n 3)]
def numsL (l : List Nat) : List Value := l.flatMap cells4L
theorem numsL_length (l : List Nat) : (numsL l).length = l.length * 4 := by
  induction l with
  | nil => rfl
  | cons a l ih => simp only [numsL, List.flatMap_cons, List.length_append] at ih ⊢; rw [ih]; simp [cells4L]; omega
theorem numsL_at (l : List Nat) (i j : Nat) (hi : i < l.length) (hj : j < 4) : (numsL l)[i * 4 + j]? = some (.int .u64 (limb (l.getD i 0) j)) := by
  induction l generalizing i with
  | nil => simp at hi
  | cons a l ih =>
    cases i with
    | zero =>
      match j, hj with
      | 0, _ => rfl
      | 1, _ => rfl
      | 2, _ => rfl
      | 3, _ => rfl
    | succ i =>
      have : (numsL (a :: l)) = cells4L a ++ numsL l := by simp [numsL]
      rw [this, List.getElem?_append_right (by simp [cells4L]; omega)]
      have e : (i + 1) * 4 + j - (cells4L a).length = i * 4 + j := by simp [cells4L]; omega
      rw [e, ih i (by simpa using hi)]
      simp

/-- A slice of numbers that the call itself makes. -/
def OwnN (w : World) (base : Nat) (v : Value) (l : List Nat) : Prop := w.ownsRow base 28 4 v l.length (numsL l)
theorem OwnN.nil (w : World) (base : Nat) : OwnN w base (.slice none 0 0) [] := World.ownsRow_nil _ _ _ _
theorem OwnN.below {w w' : World} {base : Nat} {v : Value} {l : List Nat} (h : OwnN w base v l) (hb : Below w.heap.size w w') : OwnN w' base v l := by
  refine ⟨h.1, ?_⟩
  rcases h.2 with hn | ⟨g, cap, cur, rfl, hbg, hg, rest⟩
  · exact .inl hn
  · exact .inr ⟨g, cap, cur, rfl, hbg, by rw [hb.block g (Array.getElem?_eq_some_iff.1 hg).1]; exact hg, rest⟩
theorem OwnN.nums {w : World} {base : Nat} {v : Value} {l : List Nat} (h : OwnN w base v l) : Nums w v l := by
  have h0 := h
  rcases h.2 with ⟨rfl, hn⟩ | ⟨g, cap, cur, rfl, hb, hg, hn, hm, hs, ht⟩
  · obtain rfl : l = [] := List.length_eq_zero_iff.1 hn
    exact ⟨none, 0, rfl, Nat.le_refl _, by unfold maxLen; omega, .inl rfl⟩
  · refine ⟨some ⟨g, 0, none⟩, cap, rfl, hn, hm, .inr ⟨g, 0, rfl, fun i hi j hj => ?_⟩⟩
    have := World.ownsRow.cells h0 (g := g) rfl (i * 4 + j) _ (numsL_at l i j hi hj)
    have hadd : (⟨g, 0, none⟩ : Addr).add (i * 4 + j) = ⟨g, 0 + i * 4 + j, none⟩ := by unfold Addr.add; split <;> simp_all
    rw [hadd] at this
    exact this

theorem Row.grown {w w' : World} {v : Value} {l : List Int} {r : Option Nat} (h : Row w v l) (hg : w.grownBy w' r) (hne : v.ownBlock ≠ r ∨ v.ownBlock = none) : Row w' v l := by
  obtain ⟨A, c, rfl, h1, h2, h3⟩ := h
  refine ⟨A, c, rfl, h1, h2, ?_⟩
  rcases h3 with h3 | ⟨g, o, rfl, hc⟩
  · exact .inl h3
  · refine .inr ⟨g, o, rfl, fun j hj => hg.cell (hc j hj) ?_⟩
    rcases hne with hne | hne
    · exact hne
    · simp [Value.ownBlock] at hne

theorem info4 : (Try.prog.info? 28).map (fun i => (i.zero, i.size, i.bytes)) = some (some (.agg #[.int .u64 0, .int .u64 0, .int .u64 0, .int .u64 0]), 4, 32) := by kernel_rfl

theorem wpList_app_num {ops : Array Oper} {rest : List Oper} {o : Oper} {a : Act} {Q : Exit → Act → World → Prop} {w : World} (hgd : o.guard = none) (s x : Operand)
    (ho : o.op = .call { callee := .builtin .append, args := #[s, x], argTypes := #[93, 93] })
    (base : Nat) (v : Value) (l : List Nat) (hs : a.eval s = v) (hown : OwnN w base v l) (y : Nat)
    (hx : a.eval x = .slice (some ⟨w.heap.size, 0, none⟩) 1 1) (hlen : l.length ≤ 1000000000) (hbase : base ≤ w.heap.size)
    (h : ∀ v' w', OwnN w' base v' (l ++ [y]) → (w.alloc (row4 (limb y))).grownBy w' v.ownBlock → Below base w w' → w.heap.size + 1 ≤ w'.heap.size → wpList Try.prog ops Q rest (a.put o.dst v') w') :
    wpList Try.prog ops Q (o :: rest) a (w.alloc (row4 (limb y))) := by
  obtain ⟨i0, hi, hz0, hz1, hz2⟩ := info_parts info4
  refine wpList_append_own _ hgd s x 93 ho base 28 i0 _ 4 32 Try.underlying93 hi hz0 hz1 hz2 rfl (by decide) v l.length (numsL l) hs (World.ownsRow.alloc hown _) ⟨w.heap.size, 0, none⟩ 1 1 (cells4L y) hx rfl ?_ ?_ (by unfold maxLen; omega) (by omega) (by simp; omega) ?_
  · intro j u hj
    match j, hj with
    | 0, hj => simp [cells4L] at hj; subst hj; have := (Box.new w y).cells.1; simp [Addr.add]; exact this
    | 1, hj => simp [cells4L] at hj; subst hj; have := (Box.new w y).cells.2.1; simp [Addr.add]; exact this
    | 2, hj => simp [cells4L] at hj; subst hj; have := (Box.new w y).cells.2.2.1; simp [Addr.add]; exact this
    | 3, hj => simp [cells4L] at hj; subst hj; have := (Box.new w y).cells.2.2.2; simp [Addr.add]; exact this
  · intro u hu; simp [cells4L] at hu; rcases hu with rfl | rfl | rfl | rfl <;> rfl
  · intro v' w' h1 h2 _
    refine h v' w' ?_ h2 ?_ ?_
    · unfold OwnN
      have : numsL (l ++ [y]) = numsL l ++ cells4L y := by simp [numsL]
      rw [List.length_append, this]; exact h1
    · exact ((Below.refl base w).alloc hbase _).grown h2 (by simp; omega) (fun k hk => (World.ownsRow.lt hown k hk).1)
    · have := h2.size; simp at this; omega

theorem rev_take (l : List Nat) (k : Nat) (h : k < l.length) : l.reverse.take (k + 1) = l.reverse.take k ++ [l.getD (l.length - 1 - k) 0] := by
  rw [List.take_succ_eq_append_getElem (by simpa using h), List.getElem_reverse, List.getD_eq_getElem?_getD, List.getElem?_eq_getElem (by omega)]
  rfl

theorem mem_getD {l : List Nat} {k : Nat} (h : k < l.length) : l.getD k 0 ∈ l := by
  rw [List.getD_eq_getElem?_getD, List.getElem?_eq_getElem h]
  exact List.getElem_mem _
theorem dig_len_sum {l : List Nat} (h : ∀ x ∈ l, x < 18446744073709551616 ^ 4) (hl : l.length ≤ 65536) : l.sum < 65536 ^ 17 := by
  have : l.sum ≤ l.length * 18446744073709551616 ^ 4 := by
    clear hl
    induction l with
    | nil => simp
    | cons a l ih =>
      have h1 := ih fun x hx => h x (List.mem_cons_of_mem _ hx)
      have h2 := h a (List.mem_cons_self ..)
      simp only [List.sum_cons, List.length_cons]
      rw [Nat.add_mul, Nat.one_mul]
      omega
  rw [show (65536 : Nat) ^ 17 = 65536 * 18446744073709551616 ^ 4 by decide]
  rcases Nat.eq_zero_or_pos l.length with h0 | h0
  · rw [h0] at this; omega
  · have h3 : l.length * 18446744073709551616 ^ 4 ≤ 65536 * 18446744073709551616 ^ 4 := Nat.mul_le_mul_right _ hl
    rcases Nat.lt_or_ge l.sum (65536 * 18446744073709551616 ^ 4) with h4 | h4
    · exact h4
    · exfalso
      have h5 : l.sum < l.length * 18446744073709551616 ^ 4 := by
        clear this h3 h4 hl
        induction l with
        | nil => simp at h0
        | cons a l ih =>
          have h2 := h a (List.mem_cons_self ..)
          simp only [List.sum_cons, List.length_cons]
          rw [Nat.add_mul, Nat.one_mul]
          rcases Nat.eq_zero_or_pos l.length with h6 | h6
          · obtain rfl : l = [] := List.length_eq_zero_iff.1 h6
            simp; exact h2
          · have := ih (fun x hx => h x (List.mem_cons_of_mem _ hx)) h6
            omega
      omega

end Go.Proofs.Ytchjjbklkmfelaa
