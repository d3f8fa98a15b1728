/- A variable that holds a number of four limbs; huge.row, huge.Short. -/
import Derived.Test.YtchjjbklkmfelaaHuge2
namespace Go.Proofs.Ytchjjbklkmfelaa
open Go.RowKit
set_option linter.unusedVariables false
set_option linter.unusedSimpArgs false

/-- Block g holds the number n. -/
def Box (w : World) (g n : Nat) : Prop := w.rowIs g 28 4 (lim (limb n))

theorem Box.lt {w : World} {g n : Nat} (h : Box w g n) : g < w.heap.size := World.rowIs.lt h
theorem Box.below {w w' : World} {g n B : Nat} (h : Box w g n) (hb : Below B w w') (hg : g < B) : Box w' g n := World.rowIs.of_block h (hb.block g hg)
theorem Box.later {w w' : World} {g n : Nat} (h : Box w g n) (hb : Below w.heap.size w w') : Box w' g n := h.below hb h.lt
theorem Box.other {w : World} {g n : Nat} (h : Box w g n) {a : Addr} (ha : g ≠ a.block) (v : Value) : Box (w.setCell a v) g n := World.rowIs.setOther h ha v
theorem Box.alloc {w : World} {g n : Nat} (h : Box w g n) (o : Obj) : Box (w.alloc o) g n := World.rowIs.alloc h o
theorem Box.drewN {w : World} {g n : Nat} (h : Box w g n) (m : Nat) : Box (w.drewN m) g n := h
theorem Box.drew {w : World} {g n : Nat} (h : Box w g n) : Box w.drew g n := h
theorem Box.new (w : World) (n : Nat) : Box (w.alloc (.cells #[.int .u64 (limb n 0), .int .u64 (limb n 1), .int .u64 (limb n 2), .int .u64 (limb n 3)] 28)) w.heap.size n := rowIs_big w (limb n) _
theorem Box.zero (w : World) : Box (w.alloc (.cells #[.int .u64 0, .int .u64 0, .int .u64 0, .int .u64 0] 28)) w.heap.size 0 := by
  have := Box.new w 0
  simp only [limb_zero] at this
  exact this

/-- What the walk reads and writes. -/
theorem Box.cells {w : World} {g n : Nat} (h : Box w g n) : (w.cell? ⟨g, 0, none⟩ = some (.int .u64 (limb n 0)) ∧ w.cell? ⟨g, 1, none⟩ = some (.int .u64 (limb n 1)) ∧ w.cell? ⟨g, 2, none⟩ = some (.int .u64 (limb n 2)) ∧ w.cell? ⟨g, 3, none⟩ = some (.int .u64 (limb n 3))) := (cells4 h).1
theorem Box.free {w : World} {g n : Nat} (h : Box w g n) : (w.frozen? ⟨g, 0, none⟩ = false ∧ w.frozen? ⟨g, 1, none⟩ = false ∧ w.frozen? ⟨g, 2, none⟩ = false ∧ w.frozen? ⟨g, 3, none⟩ = false) := (cells4 h).2
theorem Box.at {w : World} {g n k : Nat} (h : Box w g n) (hk : k < 4) : w.cell? ⟨g, k, none⟩ = some (.int .u64 (limb n k)) := World.rowIs.cell h hk
theorem Box.freeAt {w : World} {g n : Nat} (h : Box w g n) (k : Nat) : w.frozen? ⟨g, k, none⟩ = false := World.rowIs.frozen h k

/-- A whole number stored. -/
abbrev store4 (w : World) (g : Nat) (a b c d : Int) : World :=
  (((w.setCell ⟨g, 0, none⟩ (.int .u64 a)).setCell ⟨g, 1, none⟩ (.int .u64 b)).setCell ⟨g, 2, none⟩ (.int .u64 c)).setCell ⟨g, 3, none⟩ (.int .u64 d)

theorem Box.stored {w : World} {g n : Nat} (h : Box w g n) (m : Nat) : Box (store4 w g (limb m 0) (limb m 1) (limb m 2) (limb m 3)) g m := by
  have := (((World.rowIs.set h 0 (.int .u64 (limb m 0))).set 1 (.int .u64 (limb m 1))).set 2 (.int .u64 (limb m 2))).set 3 (.int .u64 (limb m 3))
  refine this.congr fun i hi => ?_
  match i, hi with
  | 0, _ => rfl
  | 1, _ => rfl
  | 2, _ => rfl
  | 3, _ => rfl
theorem Box.store_other {w : World} {g g' n : Nat} (h : Box w g n) (hg : g ≠ g') (a b c d : Int) : Box (store4 w g' a b c d) g n :=
  (((h.other (a := ⟨g', 0, none⟩) hg _).other (a := ⟨g', 1, none⟩) hg _).other (a := ⟨g', 2, none⟩) hg _).other (a := ⟨g', 3, none⟩) hg _
theorem below_store {B : Nat} {a w : World} (h : Below B a w) {g : Nat} (hg : B ≤ g) (x y z t : Int) : Below B a (store4 w g x y z t) :=
  (((h.setCell (p := ⟨g, 0, none⟩) hg _).setCell (p := ⟨g, 1, none⟩) hg _).setCell (p := ⟨g, 2, none⟩) hg _).setCell (p := ⟨g, 3, none⟩) hg _
theorem store_size (w : World) (g : Nat) (x y z t : Int) : (store4 w g x y z t).heap.size = w.heap.size := by simp [World.setCell]

theorem limb_set {U s k : Nat} (hU : U < 18446744073709551616 ^ k) (hs : s < 18446744073709551616) (j : Nat) : (if j = k then (s : Int) else limb U j) = limb (U + s * 18446744073709551616 ^ k) j := by
  have hp : 0 < 18446744073709551616 ^ k := Nat.pow_pos (by decide)
  unfold limb
  rcases Nat.lt_trichotomy j k with h | h | h
  · rw [if_neg (by omega)]
    obtain ⟨d, rfl⟩ : ∃ d, k = j + 1 + d := ⟨k - (j + 1), by omega⟩
    have e : s * 18446744073709551616 ^ (j + 1 + d) = 18446744073709551616 ^ j * (18446744073709551616 * (s * 18446744073709551616 ^ d)) := by
      rw [Nat.pow_add, Nat.pow_succ, Nat.mul_assoc, Nat.mul_left_comm s, Nat.mul_left_comm s]
    rw [e, Nat.add_mul_div_left _ _ (Nat.pow_pos (by decide)), Nat.add_mul_mod_self_left]
  · subst h
    rw [if_pos rfl, Nat.add_mul_div_right _ _ hp, Nat.div_eq_of_lt hU, Nat.zero_add, Nat.mod_eq_of_lt hs]
  · rw [if_neg (by omega)]
    obtain ⟨d, rfl⟩ : ∃ d, j = k + 1 + d := ⟨j - (k + 1), by omega⟩
    have h1 : U + s * 18446744073709551616 ^ k < 18446744073709551616 ^ (k + 1 + d) := by
      have : (s + 1) * 18446744073709551616 ^ k ≤ 18446744073709551616 * 18446744073709551616 ^ k := Nat.mul_le_mul_right _ hs
      have h2 : 18446744073709551616 ^ (k + 1) ≤ 18446744073709551616 ^ (k + 1 + d) := Nat.pow_le_pow_right (by decide) (by omega)
      rw [Nat.pow_succ, Nat.mul_comm _ 18446744073709551616] at h2
      rw [Nat.add_mul] at this
      omega
    have h3 : U < 18446744073709551616 ^ (k + 1 + d) := by omega
    rw [Nat.div_eq_of_lt h1, Nat.div_eq_of_lt h3]

/-- A limb stored above all that there is. -/
theorem Box.limb {w : World} {g U s k : Nat} (h : Box w g U) (hU : U < 18446744073709551616 ^ k) (hs : s < 18446744073709551616) {x : Int} (hx : x = (s : Int)) : Box (w.setCell ⟨g, k, none⟩ (.int .u64 x)) g (U + s * 18446744073709551616 ^ k) := by
  subst hx
  refine (World.rowIs.set h k (.int .u64 (s : Int))).congr fun j hj => ?_
  unfold lim
  rw [← limb_set hU hs j]
  by_cases e : j = k
  · rw [if_pos e, if_pos e]
  · rw [if_neg e, if_neg e]
end Go.Proofs.Ytchjjbklkmfelaa
