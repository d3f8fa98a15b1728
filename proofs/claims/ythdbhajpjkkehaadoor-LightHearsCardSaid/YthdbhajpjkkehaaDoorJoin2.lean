/- A whole slice of records, appended to one's own. -/
import Derived.Test.YthdbhajpjkkehaaDoorPost
import Derived.Deep.Slices
import Derived.Test.YthdbhajpjkkehaaDoorLaw2
import Derived.Great.BuildSlice
namespace Go.Proofs.YthdbhajpjkkehaaDoor
open Go.RowKit Go.Lib Go.Deep Go.ChangeShapes Go.WideShapes Go.ChangeAt
set_option linter.unusedVariables false

abbrev Kinds := List (Option IntKind)
/-- A slice of records. -/
def Recs (K : Kinds) (w : World) (v : Value) (l : List (List Value)) : Prop :=
  ∃ A c, v = .slice A l.length c ∧ l.length ≤ c ∧ c ≤ maxLen ∧ (∀ x ∈ l, Typed K x) ∧
    (l = [] ∨ ∃ g o, A = some ⟨g, o, none⟩ ∧ ∀ i, i < l.length → w.rangeAt g (o + i * K.length) (l.getD i []))

theorem range_below {w w' : World} {B g o : Nat} {cs : List Value} (h : w.rangeAt g o cs) (hb : Below B w w') (hg : g < B) : w'.rangeAt g o cs :=
  fun j v hv => (hb.cell (p := ⟨g, o + j, none⟩) hg).trans (h j v hv)
theorem range_lt {w : World} {g o : Nat} {cs : List Value} (h : w.rangeAt g o cs) (hl : 0 < cs.length) : g < w.heap.size :=
  World.block_lt_of_cell? w ⟨g, o + 0, none⟩ (h 0 _ (List.getElem?_eq_getElem hl))
theorem Recs.below {K : Kinds} {w w' : World} {v : Value} {l : List (List Value)} (hK : 0 < K.length) (h : Recs K w v l) (hb : Below w.heap.size w w') : Recs K w' v l := by
  obtain ⟨A, c, rfl, h1, h2, h4, h3⟩ := h
  refine ⟨A, c, rfl, h1, h2, h4, ?_⟩
  rcases h3 with h3 | ⟨g, o, rfl, hc⟩
  · exact .inl h3
  · refine .inr ⟨g, o, rfl, fun i hi => ?_⟩
    have hm : l.getD i [] ∈ l := by
      rw [List.getD_eq_getElem?_getD, List.getElem?_eq_getElem hi]
      exact List.getElem_mem _
    exact range_below (hc i hi) hb (range_lt (hc i hi) (by rw [(h4 _ hm).length]; exact hK))
theorem Recs.at {K : Kinds} {w : World} {A : Option Addr} {n c : Nat} {l : List (List Value)} (hK : 0 < K.length) (h : Recs K w (.slice A n c) l) (k : Nat) (hk : k < n) :
    ∃ g o, A = some ⟨g, o, none⟩ ∧ g < w.heap.size ∧ w.rangeAt g (o + k * K.length) (l.getD k []) ∧ Typed K (l.getD k []) := by
  obtain ⟨A', c', e, h1, h2, h4, h3⟩ := h
  cases e
  rcases h3 with h3 | ⟨g, o, rfl, hc⟩
  · subst h3; simp at hk
  · have hm : l.getD k [] ∈ l := by
      rw [List.getD_eq_getElem?_getD, List.getElem?_eq_getElem hk]
      exact List.getElem_mem _
    exact ⟨g, o, rfl, range_lt (hc k hk) (by rw [(h4 _ hm).length]; exact hK), hc k hk, h4 _ hm⟩

theorem heap_alloc (w : World) (o : Obj) : (w.alloc o).heap[w.heap.size]? = some o := by
  show (w.heap.push o)[w.heap.size]? = some o
  rw [Array.getElem?_push_size]
theorem there_alloc (w : World) (cs : Array Value) (t : TypeId) : (w.alloc (.cells cs t)).there w.heap.size 0 cs.size := fun j hj => by
  unfold World.cell? World.frozen?
  simp only [heap_alloc, Nat.zero_add]
  simp [hj]
theorem range_alloc (w : World) (cs : Array Value) (t : TypeId) : (w.alloc (.cells cs t)).rangeAt w.heap.size 0 cs.toList := fun j v hv => by
  rw [Array.getElem?_toList] at hv
  unfold World.cell?
  simp only [heap_alloc, Nat.zero_add]
  simpa using hv
theorem below_range {B g : Nat} {w0 : World} (hg : B ≤ g) (vs : List Value) : ∀ (o : Nat) (w : World), Below B w0 w → Below B w0 (w.setCells g o vs) := by
  induction vs with
  | nil => intro o w h; exact h
  | cons v vs ih => intro o w h; exact ih (o + 1) _ (h.setCell (p := ⟨g, o, none⟩) hg v)

/-- The whole number in a cell. -/
def intAt (c : List Value) (j : Nat) : Int := match c[j]? with | some (.int _ n) => n | _ => 0
theorem Typed.at {K : Kinds} {c : List Value} (h : Typed K c) : ∀ (j : Nat) (k : IntKind), K[j]? = some (some k) → c[j]? = some (.int k (intAt c j)) ∧ (Lit.int k (intAt c j)).wf = true := by
  induction K generalizing c with
  | nil => intro j k hk; simp at hk
  | cons k0 ks ih =>
    obtain ⟨v, vs, rfl, h1, h2⟩ := h
    intro j k hk
    cases j with
    | zero =>
      simp at hk
      subst hk
      obtain ⟨n, rfl, hw⟩ := h1
      exact ⟨rfl, hw⟩
    | succ j =>
      have := ih h2 j k (by simpa using hk)
      exact this

section
variable {H : Type} {enc : TypeId × Value → H} {P : Program}
theorem open_recs {W : World} {base n : Nat} {t e : TypeId} {K : Kinds} {v : Value} {d : DataW H} {p : List MemPlace} (ht : P.underlying t = some (.slice e)) (hK : flatK P n e = some K) (hc : P.cellsOf e = K.length) (hK0 : 0 < K.length)
    (hval : Value.okWide P W .any base t v) (h : DataW.Trod enc P W 0 (fun _ => true) true t v d p) : ∃ l, Recs K W v l := by
  obtain ⟨a1, len, cap, rfl⟩ := okWide_slice ht hval
  obtain ⟨fuel, hf⟩ := h
  rcases open_slice ht hf with ⟨hcs, hx⟩ | ⟨a, len', cap', m, n', D, Pl, hcs, hb, hl, hm, hmm, hx, hel⟩
  · simp [Value.cells] at hcs
    obtain ⟨rfl, rfl, rfl⟩ := hcs
    exact ⟨[], none, 0, rfl, Nat.le_refl _, by unfold maxLen; omega, by simp, .inl rfl⟩
  · simp [Value.cells] at hcs
    obtain ⟨rfl, rfl, rfl⟩ := hcs
    simp only [if_true] at hmm
    subst hmm
    rw [hc] at hel
    obtain ⟨N, hN⟩ := choose_lt (α := List Value) (p := fun i cs => W.cells? 0 (a.add (i * K.length)) K.length = some cs ∧ Typed K cs) (fun i hi => by
      obtain ⟨cs', h1, h2⟩ := hel i hi
      exact ⟨cs', h1, trod_flat _ _ _ _ _ _ hK h2⟩)
    have hlen : ((List.range len).map N).length = len := by simp
    refine ⟨(List.range len).map N, some a, m, by rw [hlen], by rw [hlen]; exact hl, hm, fun x hx => ?_, ?_⟩
    · obtain ⟨i, hi, rfl⟩ := List.mem_map.1 hx
      exact (hN i (by have := List.mem_range.1 hi; omega)).2
    rcases Nat.eq_zero_or_pos len with rfl | hp
    · exact .inl rfl
    · right
      obtain ⟨g, o, sp⟩ := a
      have hs : sp = none := by
        cases sp with
        | none => rfl
        | some q =>
          obtain ⟨_, hlen0, hcell⟩ := World.cells?_some (hN 0 (by omega)).1
          have h0 := hcell 0 hK0
          rw [List.getElem?_eq_getElem (by rw [hlen0]; exact hK0)] at h0
          have := World.cell?_spot h0
          simp [Addr.add] at this
      subst hs
      refine ⟨g, o, rfl, fun i hi j u hu => ?_⟩
      rw [hlen] at hi
      have e : ((List.range len).map N).getD i [] = N i := by
        rw [List.getD_eq_getElem?_getD, List.getElem?_map, List.getElem?_range hi]
        rfl
      rw [e] at hu
      obtain ⟨_, hlen1, hcell⟩ := World.cells?_some (hN i (by omega)).1
      have hj : j < K.length := by rw [← hlen1]; exact (List.getElem?_eq_some_iff.1 hu).1
      have := hcell j hj
      rw [Addr.add_lit, Addr.add_lit] at this
      rw [this, hu]

/-- A record that came in by value. -/
theorem open_flat {W : World} {base n : Nat} {t : TypeId} {K : Kinds} {v : Value} {d : DataW H} {p : List MemPlace} (hK : flatK P n t = some K) (h : DataW.Trod enc P W 0 (fun _ => true) true t v d p) : Typed K v.cells.toList := by
  obtain ⟨fuel, hf⟩ := h
  exact trod_flat _ _ _ _ _ _ hK hf
end
end Go.Proofs.YthdbhajpjkkehaaDoor

namespace Go.Proofs.YthdbhajpjkkehaaDoor
open Go.RowKit Go.Lib
set_option linter.unusedVariables false
set_option linter.unusedSimpArgs false

/-- Two numbers in blocks. -/
structure AB (w : World) (g h a b : Nat) : Prop where
  x : Box w g a
  y : Box w h b
theorem AB.later {w w' : World} {g h a b : Nat} (k : AB w g h a b) (hb : Below w.heap.size w w') : AB w' g h a b := ⟨k.x.later hb, k.y.later hb⟩
theorem AB.drew {w : World} {g h a b : Nat} (k : AB w g h a b) : AB w.drew g h a b := ⟨k.x.drew, k.y.drew⟩
theorem AB.drewN {w : World} {g h a b : Nat} (k : AB w g h a b) (n : Nat) : AB (w.drewN n) g h a b := ⟨k.x.drewN n, k.y.drewN n⟩
theorem AB.alloc {w : World} {g h a b : Nat} (k : AB w g h a b) (o : Obj) : AB (w.alloc o) g h a b := ⟨k.x.alloc o, k.y.alloc o⟩
theorem AB.start (w : World) (a b : Nat) : AB ((w.alloc (row4 (limb a))).alloc (row4 (limb b))) w.heap.size (w.heap.size + 1) a b := by
  have h2 := Box.new (w.alloc (row4 (limb a))) b
  rw [World.size_alloc] at h2
  exact ⟨(Box.new w a).alloc _, h2⟩
theorem AB.cells {w : World} {g h a b : Nat} (k : AB w g h a b) : w.cell? ⟨g, 0, none⟩ = some (.int .u64 (limb a 0)) ∧ w.cell? ⟨g, 1, none⟩ = some (.int .u64 (limb a 1)) ∧ w.cell? ⟨g, 2, none⟩ = some (.int .u64 (limb a 2)) ∧ w.cell? ⟨g, 3, none⟩ = some (.int .u64 (limb a 3)) ∧
    w.cell? ⟨h, 0, none⟩ = some (.int .u64 (limb b 0)) ∧ w.cell? ⟨h, 1, none⟩ = some (.int .u64 (limb b 1)) ∧ w.cell? ⟨h, 2, none⟩ = some (.int .u64 (limb b 2)) ∧ w.cell? ⟨h, 3, none⟩ = some (.int .u64 (limb b 3)) := by
  obtain ⟨a0, a1, a2, a3⟩ := k.x.cells
  obtain ⟨b0, b1, b2, b3⟩ := k.y.cells
  exact ⟨a0, a1, a2, a3, b0, b1, b2, b3⟩

theorem cells12 {w : World} {g h a b i c : Nat} (k : AB w g h a b) (l : Box w i c) : w.cell? ⟨i, 0, none⟩ = some (.int .u64 (limb c 0)) ∧ w.cell? ⟨i, 1, none⟩ = some (.int .u64 (limb c 1)) ∧ w.cell? ⟨i, 2, none⟩ = some (.int .u64 (limb c 2)) ∧ w.cell? ⟨i, 3, none⟩ = some (.int .u64 (limb c 3)) ∧
    w.cell? ⟨g, 0, none⟩ = some (.int .u64 (limb a 0)) ∧ w.cell? ⟨g, 1, none⟩ = some (.int .u64 (limb a 1)) ∧ w.cell? ⟨g, 2, none⟩ = some (.int .u64 (limb a 2)) ∧ w.cell? ⟨g, 3, none⟩ = some (.int .u64 (limb a 3)) ∧
    w.cell? ⟨h, 0, none⟩ = some (.int .u64 (limb b 0)) ∧ w.cell? ⟨h, 1, none⟩ = some (.int .u64 (limb b 1)) ∧ w.cell? ⟨h, 2, none⟩ = some (.int .u64 (limb b 2)) ∧ w.cell? ⟨h, 3, none⟩ = some (.int .u64 (limb b 3)) := by
  obtain ⟨c0, c1, c2, c3⟩ := l.cells
  exact ⟨c0, c1, c2, c3, k.cells⟩

end Go.Proofs.YthdbhajpjkkehaaDoor

namespace Go.Proofs.YthdbhajpjkkehaaDoor
open Go.RowKit Go.Lib
set_option linter.unusedVariables false
set_option linter.unusedSimpArgs false

/-- A slice of numbers, as it is read. -/
def Nums (w : World) (v : Value) (l : List Nat) : Prop :=
  ∃ A c, v = .slice A l.length c ∧ l.length ≤ c ∧ c ≤ maxLen ∧
    (l = [] ∨ ∃ g o, A = some ⟨g, o, none⟩ ∧ ∀ i, i < l.length → ∀ j, j < 4 → w.cell? ⟨g, o + i * 4 + j, none⟩ = some (.int .u64 (limb (l.getD i 0) j)))

theorem Nums.below {w w' : World} {v : Value} {l : List Nat} (h : Nums w v l) (hb : Below w.heap.size w w') : Nums w' v l := by
  obtain ⟨A, c, rfl, h1, h2, h3⟩ := h
  refine ⟨A, c, rfl, h1, h2, ?_⟩
  rcases h3 with h3 | ⟨g, o, rfl, hc⟩
  · exact .inl h3
  · exact .inr ⟨g, o, rfl, fun i hi j hj => (hb.cell (p := ⟨g, o + i * 4 + j, none⟩) (World.block_lt_of_cell? w _ (hc i hi j hj))).trans (hc i hi j hj)⟩

theorem Nums.at {w : World} {A : Option Addr} {n c : Nat} {l : List Nat} (h : Nums w (.slice A n c) l) (k : Nat) (hk : k < n) :
    ∃ g o, A = some ⟨g, o, none⟩ ∧ g < w.heap.size ∧ ∀ j, j < 4 → w.cell? ⟨g, o + k * 4 + j, none⟩ = some (.int .u64 (limb (l.getD k 0) j)) := by
  obtain ⟨A', c', e, h1, h2, h3⟩ := h
  cases e
  rcases h3 with h3 | ⟨g, o, rfl, hc⟩
  · subst h3; simp at hk
  · exact ⟨g, o, rfl, World.block_lt_of_cell? w _ (hc k hk 0 (by omega)), hc k hk⟩

theorem sum_take (l : List Nat) (k : Nat) (h : k < l.length) : (l.take (k + 1)).sum = (l.take k).sum + l.getD k 0 := by
  rw [List.take_succ_eq_append_getElem h, List.sum_append, List.getD_eq_getElem?_getD, List.getElem?_eq_getElem h]
  simp
theorem sum_take_le (l : List Nat) (k : Nat) : (l.take k).sum ≤ l.sum := by
  have h : (l.take k ++ l.drop k).sum = l.sum := by rw [List.take_append_drop]
  rw [List.sum_append] at h
  omega

end Go.Proofs.YthdbhajpjkkehaaDoor

namespace Go.Proofs.YthdbhajpjkkehaaDoor
open Go.RowKit Go.Lib
set_option linter.unusedVariables false
set_option linter.unusedSimpArgs false

def cells4L (n : Nat) : List Value := [.int .u64 (limb n 0), .int .u64 (limb n 1), .int .u64 (limb n 2), .int .u64 (limb n 3)]
def numsL (l : List Nat) : List Value := l.flatMap cells4L
theorem numsL_length (l : List Nat) : (numsL l).length = l.length * 4 := by
  induction l with
  | nil => rfl
  | cons a l ih => simp only [numsL, List.flatMap_cons, List.length_append] at ih ⊢; rw [ih]; simp [cells4L]; omega
theorem numsL_at (l : List Nat) (i j : Nat) (hi : i < l.length) (hj : j < 4) : (numsL l)[i * 4 + j]? = some (.int .u64 (limb (l.getD i 0) j)) := by
  induction l generalizing i with
  | nil => simp at hi
  | cons a l ih =>
    cases i with
    | zero =>
      match j, hj with
      | 0, _ => rfl
      | 1, _ => rfl
      | 2, _ => rfl
      | 3, _ => rfl
    | succ i =>
      have : (numsL (a :: l)) = cells4L a ++ numsL l := by simp [numsL]
      rw [this, List.getElem?_append_right (by simp [cells4L]; omega)]
      have e : (i + 1) * 4 + j - (cells4L a).length = i * 4 + j := by simp [cells4L]; omega
      rw [e, ih i (by simpa using hi)]
      simp

/-- A slice of numbers that the call itself makes. -/
def OwnN (w : World) (base : Nat) (v : Value) (l : List Nat) : Prop := w.ownsRow base 26 4 v l.length (numsL l)
theorem OwnN.nil (w : World) (base : Nat) : OwnN w base (.slice none 0 0) [] := World.ownsRow_nil _ _ _ _
theorem OwnN.below {w w' : World} {base : Nat} {v : Value} {l : List Nat} (h : OwnN w base v l) (hb : Below w.heap.size w w') : OwnN w' base v l := by
  refine ⟨h.1, ?_⟩
  rcases h.2 with hn | ⟨g, cap, cur, rfl, hbg, hg, rest⟩
  · exact .inl hn
  · exact .inr ⟨g, cap, cur, rfl, hbg, by rw [hb.block g (Array.getElem?_eq_some_iff.1 hg).1]; exact hg, rest⟩
theorem OwnN.nums {w : World} {base : Nat} {v : Value} {l : List Nat} (h : OwnN w base v l) : Nums w v l := by
  have h0 := h
  rcases h.2 with ⟨rfl, hn⟩ | ⟨g, cap, cur, rfl, hb, hg, hn, hm, hs, ht⟩
  · obtain rfl : l = [] := List.length_eq_zero_iff.1 hn
    exact ⟨none, 0, rfl, Nat.le_refl _, by unfold maxLen; omega, .inl rfl⟩
  · refine ⟨some ⟨g, 0, none⟩, cap, rfl, hn, hm, .inr ⟨g, 0, rfl, fun i hi j hj => ?_⟩⟩
    have := World.ownsRow.cells h0 (g := g) rfl (i * 4 + j) _ (numsL_at l i j hi hj)
    have hadd : (⟨g, 0, none⟩ : Addr).add (i * 4 + j) = ⟨g, 0 + i * 4 + j, none⟩ := by unfold Addr.add; split <;> simp_all
    rw [hadd] at this
    exact this

theorem Row.grown {w w' : World} {v : Value} {l : List Int} {r : Option Nat} (h : Row w v l) (hg : w.grownBy w' r) (hne : v.ownBlock ≠ r ∨ v.ownBlock = none) : Row w' v l := by
  obtain ⟨A, c, rfl, h1, h2, h3⟩ := h
  refine ⟨A, c, rfl, h1, h2, ?_⟩
  rcases h3 with h3 | ⟨g, o, rfl, hc⟩
  · exact .inl h3
  · refine .inr ⟨g, o, rfl, fun j hj => hg.cell (hc j hj) ?_⟩
    rcases hne with hne | hne
    · exact hne
    · simp [Value.ownBlock] at hne

theorem info4 : (Tryd.prog.info? 26).map (fun i => (i.zero, i.size, i.bytes)) = some (some (.agg #[.int .u64 0, .int .u64 0, .int .u64 0, .int .u64 0]), 4, 32) := by kernel_rfl

theorem rev_take (l : List Nat) (k : Nat) (h : k < l.length) : l.reverse.take (k + 1) = l.reverse.take k ++ [l.getD (l.length - 1 - k) 0] := by
  rw [List.take_succ_eq_append_getElem (by simpa using h), List.getElem_reverse, List.getD_eq_getElem?_getD, List.getElem?_eq_getElem (by omega)]
  rfl

theorem mem_getD {l : List Nat} {k : Nat} (h : k < l.length) : l.getD k 0 ∈ l := by
  rw [List.getD_eq_getElem?_getD, List.getElem?_eq_getElem h]
  exact List.getElem_mem _
theorem dig_len_sum {l : List Nat} (h : ∀ x ∈ l, x < 18446744073709551616 ^ 4) (hl : l.length ≤ 65536) : l.sum < 65536 ^ 17 := by
  have : l.sum ≤ l.length * 18446744073709551616 ^ 4 := by
    clear hl
    induction l with
    | nil => simp
    | cons a l ih =>
      have h1 := ih fun x hx => h x (List.mem_cons_of_mem _ hx)
      have h2 := h a (List.mem_cons_self ..)
      simp only [List.sum_cons, List.length_cons]
      rw [Nat.add_mul, Nat.one_mul]
      omega
  rw [show (65536 : Nat) ^ 17 = 65536 * 18446744073709551616 ^ 4 by decide]
  rcases Nat.eq_zero_or_pos l.length with h0 | h0
  · rw [h0] at this; omega
  · have h3 : l.length * 18446744073709551616 ^ 4 ≤ 65536 * 18446744073709551616 ^ 4 := Nat.mul_le_mul_right _ hl
    rcases Nat.lt_or_ge l.sum (65536 * 18446744073709551616 ^ 4) with h4 | h4
    · exact h4
    · exfalso
      have h5 : l.sum < l.length * 18446744073709551616 ^ 4 := by
        clear this h3 h4 hl
        induction l with
        | nil => simp at h0
        | cons a l ih =>
          have h2 := h a (List.mem_cons_self ..)
          simp only [List.sum_cons, List.length_cons]
          rw [Nat.add_mul, Nat.one_mul]
          rcases Nat.eq_zero_or_pos l.length with h6 | h6
          · obtain rfl : l = [] := List.length_eq_zero_iff.1 h6
            simp; exact h2
          · have := ih (fun x hx => h x (List.mem_cons_of_mem _ hx)) h6
            omega
      omega

end Go.Proofs.YthdbhajpjkkehaaDoor

namespace Go.Proofs.YthdbhajpjkkehaaDoor
open Go.RowKit Go.Lib
set_option linter.unusedVariables false
set_option linter.unusedSimpArgs false

def OwnR (E : TypeId) (K : Kinds) (w : World) (base : Nat) (v : Value) (l : List (List Value)) : Prop := w.ownsRow base E K.length v l.length l.flatten ∧ ∀ x ∈ l, Typed K x
theorem OwnR.nil (E : TypeId) (K : Kinds) (w : World) (base : Nat) : OwnR E K w base (.slice none 0 0) [] := ⟨World.ownsRow_nil _ _ _ _, by simp⟩
theorem OwnR.later {E : TypeId} {K : Kinds} {w w' : World} {base : Nat} {v : Value} {l : List (List Value)} (h : OwnR E K w base v l) (hb : Below w.heap.size w w') : OwnR E K w' base v l := by
  refine ⟨⟨h.1.1, ?_⟩, h.2⟩
  rcases h.1.2 with h2 | ⟨g', cap, cur, rfl, hb', hc, h3⟩
  · exact .inl h2
  · refine .inr ⟨g', cap, cur, rfl, hb', ?_, h3⟩
    rw [hb.block g' (Array.getElem?_eq_some_iff.1 hc).1]
    exact hc
theorem flat_at {n : Nat} : ∀ {l : List (List Value)} (hl : ∀ x ∈ l, x.length = n) (i j : Nat) (u : Value), i < l.length → (l.getD i [])[j]? = some u → l.flatten[i * n + j]? = some u
  | [], _, i, j, u, hi, _ => by simp at hi
  | x :: l, hl, 0, j, u, hi, hu => by
    have hj : j < x.length := (List.getElem?_eq_some_iff.1 hu).1
    rw [List.flatten_cons, Nat.zero_mul, Nat.zero_add, List.getElem?_append_left hj]
    exact hu
  | x :: l, hl, i + 1, j, u, hi, hu => by
    rw [List.flatten_cons, List.getElem?_append_right (by rw [hl x (by simp), Nat.add_mul]; omega), hl x (by simp), show (i + 1) * n + j - n = i * n + j by rw [Nat.add_mul, Nat.one_mul]; omega]
    exact flat_at (fun y hy => hl y (by simp [hy])) i j u (by simpa using hi) (by simpa using hu)
theorem OwnR.recs {E : TypeId} {K : Kinds} {w : World} {base : Nat} {v : Value} {l : List (List Value)} (h : OwnR E K w base v l) : Recs K w v l := by
  have h0 := h.1
  rcases h.1.2 with ⟨rfl, hn⟩ | ⟨g, cap, cur, rfl, hb, hg, hn, hm, hs, ht⟩
  · obtain rfl : l = [] := List.length_eq_zero_iff.1 hn
    exact ⟨none, 0, rfl, Nat.le_refl _, by unfold maxLen; omega, by simp, .inl rfl⟩
  · refine ⟨some ⟨g, 0, none⟩, cap, rfl, hn, hm, h.2, .inr ⟨g, 0, rfl, fun i hi j u hu => ?_⟩⟩
    have := World.ownsRow.cells h0 (g := g) rfl (i * K.length + j) u (flat_at (fun x hx => (h.2 x hx).length) i j u hi hu)
    rw [Addr.add_lit] at this
    rw [Nat.zero_add] at this
    rw [Nat.zero_add]
    exact this
theorem OwnR.lt {E : TypeId} {K : Kinds} {w : World} {base : Nat} {v : Value} {l : List (List Value)} (h : OwnR E K w base v l) : ∀ k, v.ownBlock = some k → base ≤ k ∧ k < w.heap.size := World.ownsRow.lt h.1
theorem OwnR.grown {E : TypeId} {K : Kinds} {w w' : World} {base : Nat} {v : Value} {l : List (List Value)} {row : Option Nat} (h : OwnR E K w base v l) (hg : w.grownBy w' row) (hne : v.ownBlock = none ∨ v.ownBlock ≠ row) : OwnR E K w' base v l :=
  ⟨World.ownsRow.kept h.1 hg hne, h.2⟩
theorem OwnR.alloc {E : TypeId} {K : Kinds} {w : World} {base : Nat} {v : Value} {l : List (List Value)} (h : OwnR E K w base v l) (o : Obj) : OwnR E K (w.alloc o) base v l := ⟨World.ownsRow.alloc h.1 o, h.2⟩

section
variable {P : Program}
theorem wpList_app_rec {ops : Array Oper} {rest : List Oper} {o : Oper} {a : Act} {Q : Exit → Act → World → Prop} {w : World} (hgd : o.guard = none) (s x : Operand) (t E : TypeId) (K : Kinds) (z : Value) (bytes : Nat)
    (ho : o.op = .call { callee := .builtin .append, args := #[s, x], argTypes := #[t, t] }) (hu : P.underlying t = some (.slice E))
    (hi : (P.info? E).map (fun i => (i.zero, i.size, i.bytes)) = some (some z, K.length, bytes)) (hz : z.cells.size = K.length) (hK : 0 < K.length) (hby : bytes ≤ 1000)
    (base : Nat) (v : Value) (l : List (List Value)) (hs : a.eval s = v) (hown : OwnR E K w base v l) (y : List Value) (hy : Typed K y)
    (hx : a.eval x = .slice (some ⟨w.heap.size, 0, none⟩) 1 1) (hlen : l.length ≤ 1000000000) (hbase : base ≤ w.heap.size)
    (h : ∀ v' w', OwnR E K w' base v' (l ++ [y]) → (w.alloc (.cells y.toArray E)).grownBy w' v.ownBlock → Below base w w' → w.heap.size + 1 ≤ w'.heap.size → (v'.ownBlock = v.ownBlock ∨ v'.ownBlock = some (w.heap.size + 1)) → wpList P ops Q rest (a.put o.dst v') w') :
    wpList P ops Q (o :: rest) a (w.alloc (.cells y.toArray E)) := by
  obtain ⟨i0, hi0, hz0, hz1, hz2⟩ := info_parts hi
  refine wpList_append_own_at _ hgd s x t ho base E i0 z K.length bytes hu hi0 hz0 hz1 hz2 hz hK v l.length l.flatten hs (World.ownsRow.alloc hown.1 _) ⟨w.heap.size, 0, none⟩ 1 1 y hx (by rw [hy.length]; omega) (fun j u hj => ?_) hy.one (by unfold maxLen; omega) ?_ (by simp; omega) ?_
  · have := range_alloc w y.toArray E j u hj
    rw [Nat.zero_add] at this
    rw [Addr.add_lit, Nat.zero_add]
    exact this
  · have : (l.length + 1) * bytes ≤ 1000000001 * 1000 := Nat.mul_le_mul (by omega) hby
    omega
  · intro v' w' h1 h2 _ h4
    refine h v' w' ⟨?_, fun x hx => ?_⟩ h2 ?_ ?_ ?_
    · rw [List.length_append, List.flatten_append]
      simpa using h1
    · rcases List.mem_append.1 hx with hx | hx
      · exact hown.2 x hx
      · rw [List.mem_singleton.1 hx]; exact hy
    · exact ((Below.refl base w).alloc hbase _).grown h2 (by simp; omega) (fun k hk => (OwnR.lt hown k hk).1)
    · have := h2.size; simp at this; omega
    · simpa using h4
end

/-- Numbers as records. -/
abbrev numK : Kinds := List.replicate 4 (some .u64)
theorem cells4_typed (n : Nat) : Typed numK (cells4L n) := by
  have hw : ∀ k, (Lit.int .u64 (limb n k)).wf = true := fun k => by
    have := limb_bd n k
    simp [Lit.wf, IntKind.min, IntKind.max, IntKind.signed, IntKind.bits]
    omega
  exact ⟨_, _, rfl, ⟨_, rfl, hw 0⟩, _, _, rfl, ⟨_, rfl, hw 1⟩, _, _, rfl, ⟨_, rfl, hw 2⟩, _, _, rfl, ⟨_, rfl, hw 3⟩, rfl⟩
theorem OwnR.numsOf {w : World} {base : Nat} {v : Value} {l : List Nat} (h : OwnR 26 numK w base v (l.map cells4L)) : Nums w v l := by
  refine OwnN.nums (base := base) ?_
  unfold OwnN
  have := h.1
  rw [List.length_map] at this
  exact this
end Go.Proofs.YthdbhajpjkkehaaDoor

namespace Go.Proofs.YthdbhajpjkkehaaDoor
open Go.RowKit Go.Lib
set_option linter.unusedVariables false
section
variable {P : Program}
theorem wpList_build1 {ops : Array Oper} {rest : List Oper} {o : Oper} {a : Act} {w : World} {Q : Exit → Act → World → Prop} (hg : o.guard = none) (t E : TypeId) (y : Operand) (ho : o.op = .buildSlice t 1 #[(0, y)])
    (x : List Value) (hy : a.eval y = .agg x.toArray) (K : Kinds) (hx : Typed K x) (z : Value) (bytes : Nat) (hu : P.underlying t = some (.slice E))
    (hi : (P.info? E).map (fun i => (i.zero, i.size, i.bytes)) = some (some z, K.length, bytes)) (hK : 0 < K.length) (hsm : K.length ≤ 2 ^ 24)
    (h : wpList P ops Q rest (a.put o.dst (.slice (some ⟨w.heap.size, 0, none⟩) 1 1)) (w.alloc (.cells x.toArray E))) : wpList P ops Q (o :: rest) a w := by
  obtain ⟨i0, hi0, hz0, hz1, hz2⟩ := info_parts hi
  refine wpList_buildSlice hg t E 1 #[(0, y)] ho x.toArray i0 z hu hi0 hz0 (by rw [hz1]; omega) (by rw [hz1]; omega) ?_ h
  have hl := hx.length
  have := Great.fill_whole (s := i0.size) (by rw [hz1]; exact hK) [.agg x.toArray] ((Array.range (1 * i0.size)).map (z.cells[· % z.cells.size]!)) (fun v hv => by
    rw [List.mem_singleton.1 hv, hz1]; simp [Value.cells, hl]) (by simp)
  simp [hy]
  simpa [Value.cells] using this
end
end Go.Proofs.YthdbhajpjkkehaaDoor

namespace Go.Proofs.YthdbhajpjkkehaaDoor
open Go.RowKit Go.Lib
set_option linter.unusedVariables false
section
variable {P : Program}
theorem flat_of {n : Nat} : ∀ {l : List (List Value)} (hl : ∀ x ∈ l, x.length = n) (hn : 0 < n) (j : Nat) (u : Value), l.flatten[j]? = some u → j / n < l.length ∧ (l.getD (j / n) [])[j % n]? = some u
  | [], _, _, j, u, h => by simp at h
  | x :: l, hl, hn, j, u, h => by
    have hx := hl x (by simp)
    rw [List.flatten_cons] at h
    rcases Nat.lt_or_ge j n with hj | hj
    · rw [List.getElem?_append_left (by omega)] at h
      rw [Nat.div_eq_of_lt hj, Nat.mod_eq_of_lt hj]
      exact ⟨by simp, by simpa using h⟩
    · rw [List.getElem?_append_right (by omega), hx] at h
      obtain ⟨h1, h2⟩ := flat_of (fun y hy => hl y (by simp [hy])) hn (j - n) u h
      have e1 : j / n = (j - n) / n + 1 := by rw [← Nat.sub_add_cancel hj, Nat.add_div_right _ hn, Nat.sub_add_cancel hj]
      have e2 : j % n = (j - n) % n := by conv => lhs; rw [← Nat.sub_add_cancel hj, Nat.add_mod_right]
      rw [e1, e2]
      exact ⟨by simpa using h1, by simpa using h2⟩
theorem flat_len {K : Kinds} : ∀ {l : List (List Value)}, (∀ x ∈ l, Typed K x) → l.flatten.length = l.length * K.length
  | [], _ => by simp
  | y :: l, h => by
    rw [List.flatten_cons, List.length_append, flat_len (fun x hx => h x (by simp [hx])), (h y (by simp)).length, List.length_cons, Nat.add_mul, Nat.one_mul, Nat.add_comm]
theorem wpList_app_all {ops : Array Oper} {rest : List Oper} {o : Oper} {a : Act} {Q : Exit → Act → World → Prop} {w : World} (hgd : o.guard = none) (s x : Operand) (t E : TypeId) (K : Kinds) (z : Value) (bytes : Nat)
    (ho : o.op = .call { callee := .builtin .append, args := #[s, x], argTypes := #[t, t] }) (hu : P.underlying t = some (.slice E))
    (hi : (P.info? E).map (fun i => (i.zero, i.size, i.bytes)) = some (some z, K.length, bytes)) (hz : z.cells.size = K.length) (hK : 0 < K.length) (hby : bytes ≤ 1000)
    (base : Nat) (v : Value) (l l2 : List (List Value)) (hs : a.eval s = v) (hown : OwnR E K w base v l) (ad : Addr) (m c : Nat)
    (hx : a.eval x = .slice (some ad) m c) (hrec : Recs K w (.slice (some ad) m c) l2) (hlen : l.length ≤ 1000000) (hlen2 : m ≤ 1000000) (hbase : base ≤ w.heap.size)
    (h : ∀ v' w', OwnR E K w' base v' (l ++ l2) → w.grownBy w' v.ownBlock → Below base w w' → wpList P ops Q rest (a.put o.dst v') w') :
    wpList P ops Q (o :: rest) a w := by
  obtain ⟨i0, hi0, hz0, hz1, hz2⟩ := info_parts hi
  obtain ⟨A', c', e, h1, h2, h4, h3⟩ := id hrec
  cases e
  have hfl : l2.flatten.length = l2.length * K.length := flat_len h4
  refine wpList_append_own_at _ hgd s x t ho base E i0 z K.length bytes hu hi0 hz0 hz1 hz2 hz hK v l.length l.flatten hs hown.1 ad l2.length c l2.flatten hx hfl (fun j u hj => ?_) (fun u hu => ?_) (by unfold maxLen; omega) ?_ hbase ?_
  · obtain ⟨q1, q2⟩ := flat_of (fun x hx => (h4 x hx).length) hK j u hj
    obtain ⟨g, o', e1, _, hr, _⟩ := hrec.at hK (j / K.length) q1
    cases e1
    have := hr (j % K.length) u q2
    rw [Addr.add_lit]
    rw [show o' + j = o' + j / K.length * K.length + j % K.length by rw [Nat.add_assoc, Nat.div_add_mod']]
    exact this
  · obtain ⟨y, hy, hu'⟩ := List.mem_flatten.1 hu
    exact (h4 y hy).one u hu'
  · have : (l.length + l2.length) * bytes ≤ 2000000 * 1000 := Nat.mul_le_mul (by omega) hby
    omega
  · intro v' w' k1 k2 _ _
    refine h v' w' ⟨?_, fun x hx => ?_⟩ k2 ?_
    · rw [List.length_append, List.flatten_append]
      exact k1
    · rcases List.mem_append.1 hx with hx | hx
      · exact hown.2 x hx
      · exact h4 x hx
    · exact (Below.refl base w).grown k2 hbase (fun k hk => (OwnR.lt hown k hk).1)
/-- A slice that came in: nil, or somewhere. -/
def NilOr (v : Value) : Prop := v = .slice none 0 0 ∨ ∃ a n c, v = .slice (some a) n c
theorem wpList_app_any {ops : Array Oper} {rest : List Oper} {o : Oper} {a : Act} {Q : Exit → Act → World → Prop} {w : World} (hgd : o.guard = none) (s x : Operand) (t E : TypeId) (K : Kinds) (z : Value) (bytes : Nat)
    (ho : o.op = .call { callee := .builtin .append, args := #[s, x], argTypes := #[t, t] }) (hu : P.underlying t = some (.slice E))
    (hi : (P.info? E).map (fun i => (i.zero, i.size, i.bytes)) = some (some z, K.length, bytes)) (hz : z.cells.size = K.length) (hK : 0 < K.length) (hby : bytes ≤ 1000)
    (base : Nat) (v : Value) (l l2 : List (List Value)) (hs : a.eval s = v) (hown : OwnR E K w base v l) (xv : Value)
    (hx : a.eval x = xv) (hrec : Recs K w xv l2) (hnil : NilOr xv) (hlen : l.length ≤ 1000000) (hlen2 : l2.length ≤ 1000000) (hbase : base ≤ w.heap.size)
    (h : ∀ v' w', OwnR E K w' base v' (l ++ l2) → Below base w w' → wpList P ops Q rest (a.put o.dst v') w') :
    wpList P ops Q (o :: rest) a w := by
  rcases hnil with rfl | ⟨ad, m, c, rfl⟩
  · obtain ⟨A', c', e, h1, h2, h4, h3⟩ := hrec
    have hl2 : l2 = [] := by
      apply List.eq_nil_of_length_eq_zero
      injection e with _ e2 _
      exact e2.symm
    subst hl2
    obtain ⟨i0, hi0, hz0, hz1, hz2⟩ := info_parts hi
    refine wpList_plain hgd fun Kk hKk => ?_
    have hr := run_append_owned_none (P := P) w base t o.type E i0 K.length hu hi0 v l.length l.flatten hown.1
    unfold Oper.wp execOp
    simp only [ho, resolve, invoke, builtin, Sem.run_bind, Sem.run_pure, Result.andThen_ok, List.map_toArray, List.map_cons, List.map_nil, hs, hx, hr]
    exact hKk _ _ (h v w (by rw [List.append_nil]; exact hown) (Below.refl _ _))
  · obtain ⟨A', c', e, h1, h2, h4, h3⟩ := id hrec
    have hm : m = l2.length := by injection e
    exact wpList_app_all hgd s x t E K z bytes ho hu hi hz hK hby base v l l2 hs hown ad m c hx hrec hlen (by omega) hbase (fun v' w' k1 _ k3 => h v' w' k1 k3)
end
end Go.Proofs.YthdbhajpjkkehaaDoor
