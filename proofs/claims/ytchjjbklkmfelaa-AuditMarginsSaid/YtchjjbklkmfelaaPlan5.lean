/- What lies at a place of a block, and may be written: rows of cells, whatever they are. -/
import Derived.Test.YtchjjbklkmfelaaPlan4
import Derived.Test.YtchjjbklkmfelaaLaw2d
namespace Go.Proofs.Ytchjjbklkmfelaa
open Go.RowKit Go.Lib Go.Deep
set_option linter.unusedVariables false

/-- The cells cs lie in block g from offset o on, and may be written. -/
def At (w : World) (g o : Nat) (cs : List Value) : Prop := w.rangeAt g o cs ∧ w.there g o cs.length
section
variable {w w' : World} {g o : Nat} {cs : List Value}
theorem At.below {B : Nat} (h : At w g o cs) (hb : Below B w w') (hg : g < B) : At w' g o cs := ⟨range_of_block h.1 (hb.block g hg), there_of_block h.2 (hb.block g hg)⟩
theorem At.lt (h : At w g o cs) (hl : 0 < cs.length) : g < w.heap.size := range_lt h.1 hl
theorem At.later (h : At w g o cs) (hb : Below w.heap.size w w') (hl : 0 < cs.length) : At w' g o cs := h.below hb (h.lt hl)
theorem At.drew (h : At w g o cs) : At w.drew g o cs := h
theorem At.drewN (h : At w g o cs) (n : Nat) : At (w.drewN n) g o cs := h
theorem At.alloc (h : At w g o cs) (ob : Obj) : At (w.alloc ob) g o cs := ⟨World.rangeAt_alloc h.1 ob, World.there_alloc h.2 ob⟩
theorem At.new (w : World) (cs : Array Value) (t : TypeId) : At (w.alloc (.cells cs t)) w.heap.size 0 cs.toList := ⟨range_alloc w cs t, by rw [Array.length_toList]; exact there_alloc w cs t⟩
theorem At.cell (h : At w g o cs) {j : Nat} {v : Value} (hv : cs[j]? = some v) : w.cell? ⟨g, o + j, none⟩ = some v := h.1 j v hv
theorem At.free (h : At w g o cs) {j : Nat} (hj : j < cs.length) : w.frozen? ⟨g, o + j, none⟩ = false := (h.2 j hj).2
theorem At.part (h : At w g o cs) (a n : Nat) (hl : a + n ≤ cs.length) : At w g (o + a) ((cs.drop a).take n) := by
  refine ⟨fun j v hv => ?_, fun j hj => ?_⟩
  · rw [List.getElem?_take] at hv
    split at hv
    · rw [List.getElem?_drop] at hv
      have := h.1 (a + j) v hv
      rwa [← Nat.add_assoc] at this
    · cases hv
  · rw [List.length_take, List.length_drop] at hj
    have := h.2 (a + j) (by omega)
    rwa [← Nat.add_assoc] at this
theorem At.cells (h : At w g o cs) (xs : List Value) (hl : xs.length = cs.length) : At (w.setCells g o xs) g o xs := ⟨World.rangeAt_setCells_same _ _ _ _ (by rw [hl]; exact h.2), World.there_setCells (by rw [hl]; exact h.2) _ _ _⟩
theorem At.apart (h : At w g o cs) (b p : Nat) (xs : List Value) (ha : g ≠ b ∨ o + cs.length ≤ p ∨ p + xs.length ≤ o) : At (w.setCells b p xs) g o cs := ⟨World.rangeAt_setCells_apart h.1 b p xs ha, World.there_setCells h.2 b p xs⟩
theorem At.other (h : At w g o cs) {x : Addr} (hx : g ≠ x.block) (v : Value) : At (w.setCell x v) g o cs := by
  refine ⟨fun j u hu => ?_, fun j hj => ?_⟩
  · rw [World.cell?_setCell_other _ _ _ _ (by intro e; apply hx; rw [e])]
    exact h.1 j u hu
  · rw [World.cell?_setCell_other _ _ _ _ (by intro e; apply hx; rw [e]), World.frozen?_setCell]
    exact h.2 j hj
end
theorem At.of_row {w : World} {g n : Nat} {t : TypeId} {f : Nat → Value} (h : w.rowIs g t n f) : At w g 0 ((List.range n).map f) := by
  refine ⟨fun j v hv => ?_, fun j hj => ?_⟩
  · rw [List.getElem?_map] at hv
    cases hq : (List.range n)[j]? with
    | none => rw [hq] at hv; cases hv
    | some k =>
      rw [hq] at hv
      obtain ⟨hj, e⟩ := List.getElem?_eq_some_iff.1 hq
      rw [List.getElem_range] at e
      subst e
      cases hv
      rw [Nat.zero_add]
      exact h.cell (by simpa using hj)
  · have hj' : j < n := by simpa using hj
    rw [Nat.zero_add, h.cell hj']
    exact ⟨rfl, h.frozen j⟩

/-- Block g holds, from offset o on, the number n. -/
def NAt (w : World) (g o n : Nat) : Prop := At w g o (cells4L n)
theorem NAt.of_box {w : World} {g n : Nat} (h : Box w g n) : NAt w g 0 n := At.of_row h
theorem NAt.new (w : World) (n : Nat) : NAt (w.alloc (.cells #[.int .u64 (limb n 0), .int .u64 (limb n 1), .int .u64 (limb n 2), .int .u64 (limb n 3)] 28)) w.heap.size 0 n := At.new w _ _
theorem NAt.cells {w : World} {g o n : Nat} (h : NAt w g o n) : (w.cell? ⟨g, o, none⟩ = some (.int .u64 (limb n 0)) ∧ w.cell? ⟨g, o + 1, none⟩ = some (.int .u64 (limb n 1)) ∧ w.cell? ⟨g, o + 2, none⟩ = some (.int .u64 (limb n 2)) ∧ w.cell? ⟨g, o + 3, none⟩ = some (.int .u64 (limb n 3))) ∧
    (w.frozen? ⟨g, o, none⟩ = false ∧ w.frozen? ⟨g, o + 1, none⟩ = false ∧ w.frozen? ⟨g, o + 2, none⟩ = false ∧ w.frozen? ⟨g, o + 3, none⟩ = false) :=
  ⟨⟨At.cell h (j := 0) rfl, At.cell h (j := 1) rfl, At.cell h (j := 2) rfl, At.cell h (j := 3) rfl⟩, At.free h (j := 0) (by simp [cells4L]), At.free h (j := 1) (by simp [cells4L]), At.free h (j := 2) (by simp [cells4L]), At.free h (j := 3) (by simp [cells4L])⟩
theorem NAt.cells0 {w : World} {g n : Nat} (h : NAt w g 0 n) : (w.cell? ⟨g, 0, none⟩ = some (.int .u64 (limb n 0)) ∧ w.cell? ⟨g, 1, none⟩ = some (.int .u64 (limb n 1)) ∧ w.cell? ⟨g, 2, none⟩ = some (.int .u64 (limb n 2)) ∧ w.cell? ⟨g, 3, none⟩ = some (.int .u64 (limb n 3))) ∧
    (w.frozen? ⟨g, 0, none⟩ = false ∧ w.frozen? ⟨g, 1, none⟩ = false ∧ w.frozen? ⟨g, 2, none⟩ = false ∧ w.frozen? ⟨g, 3, none⟩ = false) := by
  have := NAt.cells h
  simpa using this
theorem NAt.stored {w : World} {g n : Nat} (h : NAt w g 0 n) (m : Nat) : NAt (store4 w g (limb m 0) (limb m 1) (limb m 2) (limb m 3)) g 0 m := At.cells (cs := cells4L n) h (cells4L m) rfl
theorem NAt.store_other {w : World} {g g' o n : Nat} (h : NAt w g o n) (hg : g ≠ g') (a b c d : Int) : NAt (store4 w g' a b c d) g o n :=
  ((((At.other h (x := ⟨g', 0, none⟩) hg _).other (x := ⟨g', 1, none⟩) hg _).other (x := ⟨g', 2, none⟩) hg _).other (x := ⟨g', 3, none⟩) hg _)
theorem int_info : (Try.prog.info? 28).map (·.size) = some 4 := by kernel_rfl
theorem cells4_one (n : Nat) : ∀ v ∈ cells4L n, v.oneCell' = true := by
  intro v hv
  simp [cells4L] at hv
  rcases hv with rfl | rfl | rfl | rfl <;> rfl
/-- On: what came later, too. -/
theorem below_on {W w w2 : World} (h : Below W.heap.size W w) (hb : Below w.heap.size w w2) : Below W.heap.size W w2 := h.trans (hb.mono h.size)
theorem below_new {W w : World} (h : Below W.heap.size W w) (o : Obj) : Below W.heap.size W (w.alloc o) := h.alloc h.size o
end Go.Proofs.Ytchjjbklkmfelaa
