/- Slices of records of whole numbers and truth values, as they are read; how one is opened. -/
import Derived.Test.YtchjjbklkmfelaaFlat
import Derived.Test.YtchjjbklkmfelaaPost
import Derived.Deep.Slices
namespace Go.Proofs.Ytchjjbklkmfelaa
open Go.RowKit Go.Lib Go.Deep Go.ChangeShapes Go.WideShapes Go.ChangeAt
set_option linter.unusedVariables false

abbrev Kinds := List (Option IntKind)
/-- A slice of records. -/
def Recs (K : Kinds) (w : World) (v : Value) (l : List (List Value)) : Prop :=
  ∃ A c, v = .slice A l.length c ∧ l.length ≤ c ∧ c ≤ maxLen ∧ (∀ x ∈ l, Typed K x) ∧
    (l = [] ∨ ∃ g o, A = some ⟨g, o, none⟩ ∧ ∀ i, i < l.length → w.rangeAt g (o + i * K.length) (l.getD i []))

theorem range_below {w w' : World} {B g o : Nat} {cs : List Value} (h : w.rangeAt g o cs) (hb : Below B w w') (hg : g < B) : w'.rangeAt g o cs :=
  fun j v hv => (hb.cell (p := ⟨g, o + j, none⟩) hg).trans (h j v hv)
theorem range_lt {w : World} {g o : Nat} {cs : List Value} (h : w.rangeAt g o cs) (hl : 0 < cs.length) : g < w.heap.size :=
  World.block_lt_of_cell? w ⟨g, o + 0, none⟩ (h 0 _ (List.getElem?_eq_getElem hl))
theorem Recs.below {K : Kinds} {w w' : World} {v : Value} {l : List (List Value)} (hK : 0 < K.length) (h : Recs K w v l) (hb : Below w.heap.size w w') : Recs K w' v l := by
  obtain ⟨A, c, rfl, h1, h2, h4, h3⟩ := h
  refine ⟨A, c, rfl, h1, h2, h4, ?_⟩
  rcases h3 with h3 | ⟨g, o, rfl, hc⟩
  · exact .inl h3
  · refine .inr ⟨g, o, rfl, fun i hi => ?_⟩
    have hm : l.getD i [] ∈ l := by
      rw [List.getD_eq_getElem?_getD, List.getElem?_eq_getElem hi]
      exact List.getElem_mem _
    exact range_below (hc i hi) hb (range_lt (hc i hi) (by rw [(h4 _ hm).length]; exact hK))
theorem Recs.at {K : Kinds} {w : World} {A : Option Addr} {n c : Nat} {l : List (List Value)} (hK : 0 < K.length) (h : Recs K w (.slice A n c) l) (k : Nat) (hk : k < n) :
    ∃ g o, A = some ⟨g, o, none⟩ ∧ g < w.heap.size ∧ w.rangeAt g (o + k * K.length) (l.getD k []) ∧ Typed K (l.getD k []) := by
  obtain ⟨A', c', e, h1, h2, h4, h3⟩ := h
  cases e
  rcases h3 with h3 | ⟨g, o, rfl, hc⟩
  · subst h3; simp at hk
  · have hm : l.getD k [] ∈ l := by
      rw [List.getD_eq_getElem?_getD, List.getElem?_eq_getElem hk]
      exact List.getElem_mem _
    exact ⟨g, o, rfl, range_lt (hc k hk) (by rw [(h4 _ hm).length]; exact hK), hc k hk, h4 _ hm⟩

theorem heap_alloc (w : World) (o : Obj) : (w.alloc o).heap[w.heap.size]? = some o := by
  show (w.heap.push o)[w.heap.size]? = some o
  rw [Array.getElem?_push_size]
theorem there_alloc (w : World) (cs : Array Value) (t : TypeId) : (w.alloc (.cells cs t)).there w.heap.size 0 cs.size := fun j hj => by
  unfold World.cell? World.frozen?
  simp only [heap_alloc, Nat.zero_add]
  simp [hj]
theorem range_alloc (w : World) (cs : Array Value) (t : TypeId) : (w.alloc (.cells cs t)).rangeAt w.heap.size 0 cs.toList := fun j v hv => by
  rw [Array.getElem?_toList] at hv
  unfold World.cell?
  simp only [heap_alloc, Nat.zero_add]
  simpa using hv
theorem below_range {B g : Nat} {w0 : World} (hg : B ≤ g) (vs : List Value) : ∀ (o : Nat) (w : World), Below B w0 w → Below B w0 (w.setCells g o vs) := by
  induction vs with
  | nil => intro o w h; exact h
  | cons v vs ih => intro o w h; exact ih (o + 1) _ (h.setCell (p := ⟨g, o, none⟩) hg v)

/-- The whole number in a cell. -/
def intAt (c : List Value) (j : Nat) : Int := match c[j]? with | some (.int _ n) => n | _ => 0
theorem Typed.at {K : Kinds} {c : List Value} (h : Typed K c) : ∀ (j : Nat) (k : IntKind), K[j]? = some (some k) → c[j]? = some (.int k (intAt c j)) ∧ (Lit.int k (intAt c j)).wf = true := by
  induction K generalizing c with
  | nil => intro j k hk; simp at hk
  | cons k0 ks ih =>
    obtain ⟨v, vs, rfl, h1, h2⟩ := h
    intro j k hk
    cases j with
    | zero =>
      simp at hk
      subst hk
      obtain ⟨n, rfl, hw⟩ := h1
      exact ⟨rfl, hw⟩
    | succ j =>
      have := ih h2 j k (by simpa using hk)
      exact this

section
variable {H : Type} {enc : TypeId × Value → H} {P : Program}
theorem open_recs {W : World} {base n : Nat} {t e : TypeId} {K : Kinds} {v : Value} {d : DataW H} {p : List MemPlace} (ht : P.underlying t = some (.slice e)) (hK : flatK P n e = some K) (hc : P.cellsOf e = K.length) (hK0 : 0 < K.length)
    (hval : Value.okWide P W .any base t v) (h : DataW.Trod enc P W 0 (fun _ => true) true t v d p) : ∃ l, Recs K W v l := by
  obtain ⟨a1, len, cap, rfl⟩ := okWide_slice ht hval
  obtain ⟨fuel, hf⟩ := h
  rcases open_slice ht hf with ⟨hcs, hx⟩ | ⟨a, len', cap', m, n', D, Pl, hcs, hb, hl, hm, hmm, hx, hel⟩
  · simp [Value.cells] at hcs
    obtain ⟨rfl, rfl, rfl⟩ := hcs
    exact ⟨[], none, 0, rfl, Nat.le_refl _, by unfold maxLen; omega, by simp, .inl rfl⟩
  · simp [Value.cells] at hcs
    obtain ⟨rfl, rfl, rfl⟩ := hcs
    simp only [if_true] at hmm
    subst hmm
    rw [hc] at hel
    obtain ⟨N, hN⟩ := choose_lt (α := List Value) (p := fun i cs => W.cells? 0 (a.add (i * K.length)) K.length = some cs ∧ Typed K cs) (fun i hi => by
      obtain ⟨cs', h1, h2⟩ := hel i hi
      exact ⟨cs', h1, trod_flat _ _ _ _ _ _ hK h2⟩)
    have hlen : ((List.range len).map N).length = len := by simp
    refine ⟨(List.range len).map N, some a, m, by rw [hlen], by rw [hlen]; exact hl, hm, fun x hx => ?_, ?_⟩
    · obtain ⟨i, hi, rfl⟩ := List.mem_map.1 hx
      exact (hN i (by have := List.mem_range.1 hi; omega)).2
    rcases Nat.eq_zero_or_pos len with rfl | hp
    · exact .inl rfl
    · right
      obtain ⟨g, o, sp⟩ := a
      have hs : sp = none := by
        cases sp with
        | none => rfl
        | some q =>
          obtain ⟨_, hlen0, hcell⟩ := World.cells?_some (hN 0 (by omega)).1
          have h0 := hcell 0 hK0
          rw [List.getElem?_eq_getElem (by rw [hlen0]; exact hK0)] at h0
          have := World.cell?_spot h0
          simp [Addr.add] at this
      subst hs
      refine ⟨g, o, rfl, fun i hi j u hu => ?_⟩
      rw [hlen] at hi
      have e : ((List.range len).map N).getD i [] = N i := by
        rw [List.getD_eq_getElem?_getD, List.getElem?_map, List.getElem?_range hi]
        rfl
      rw [e] at hu
      obtain ⟨_, hlen1, hcell⟩ := World.cells?_some (hN i (by omega)).1
      have hj : j < K.length := by rw [← hlen1]; exact (List.getElem?_eq_some_iff.1 hu).1
      have := hcell j hj
      rw [Addr.add_lit, Addr.add_lit] at this
      rw [this, hu]

/-- A record that came in by value. -/
theorem open_flat {W : World} {base n : Nat} {t : TypeId} {K : Kinds} {v : Value} {d : DataW H} {p : List MemPlace} (hK : flatK P n t = some K) (h : DataW.Trod enc P W 0 (fun _ => true) true t v d p) : Typed K v.cells.toList := by
  obtain ⟨fuel, hf⟩ := h
  exact trod_flat _ _ _ _ _ _ hK hf
end
end Go.Proofs.Ytchjjbklkmfelaa
