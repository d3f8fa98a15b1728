/- huge.Mul: a product of two numbers of four limbs, or that it is too great. -/
import Derived.Test.YtchjjbklkmfelaaHMul
namespace Go.Proofs.Ytchjjbklkmfelaa
open Go.RowKit
set_option linter.unusedVariables false
set_option linter.unusedSimpArgs false

theorem limb_shift (n j : Nat) : limb (n * 18446744073709551616) 0 = 0 ∧ limb (n * 18446744073709551616) (j + 1) = limb n j := by
  unfold limb
  constructor
  · rw [Nat.pow_zero, Nat.div_one, Nat.mul_mod_left]; rfl
  · rw [Nat.pow_succ, Nat.mul_comm (18446744073709551616 ^ j), ← Nat.div_div_eq_div_mul, Nat.mul_div_cancel _ (by decide)]

theorem limb3_zero {n : Nat} (h : n < 18446744073709551616 ^ 4) : limb n 3 = 0 ↔ n < 18446744073709551616 ^ 3 := by
  have hp : 0 < 18446744073709551616 ^ 3 := by decide
  have h1 : n / 18446744073709551616 ^ 3 < 18446744073709551616 := Nat.div_lt_of_lt_mul (by rw [← Nat.pow_succ]; exact h)
  unfold limb
  rw [Nat.mod_eq_of_lt h1]
  constructor
  · intro h0
    have : n / 18446744073709551616 ^ 3 = 0 := by omega
    exact (Nat.div_eq_zero_iff_lt hp).1 this
  · intro h0
    rw [Nat.div_eq_of_lt h0]; rfl

/-- The product so far, one limb further down. -/
theorem mul_down (a b k : Nat) : b / 18446744073709551616 ^ k * a = b / 18446744073709551616 ^ (k + 1) * a * 18446744073709551616 + a * (b / 18446744073709551616 ^ k % 18446744073709551616) := by
  have e : b / 18446744073709551616 ^ k = 18446744073709551616 * (b / 18446744073709551616 ^ (k + 1)) + b / 18446744073709551616 ^ k % 18446744073709551616 := by
    rw [Nat.pow_succ, ← Nat.div_div_eq_div_mul]
    exact (Nat.div_add_mod _ _).symm
  have e2 : b / 18446744073709551616 ^ k * a = (18446744073709551616 * (b / 18446744073709551616 ^ (k + 1)) + b / 18446744073709551616 ^ k % 18446744073709551616) * a := by rw [← e]
  rw [e2, Nat.add_mul, Nat.mul_comm (b / 18446744073709551616 ^ k % 18446744073709551616) a, Nat.mul_comm 18446744073709551616, Nat.mul_right_comm]

theorem mul_part (a b k : Nat) : b / 18446744073709551616 ^ k * a ≤ a * b := by
  rw [Nat.mul_comm]
  exact Nat.mul_le_mul_left _ (Nat.div_le_self _ _)

theorem mul_high {a b k : Nat} (h : 18446744073709551616 ^ 3 ≤ b / 18446744073709551616 ^ (k + 1) * a) : 18446744073709551616 ^ 4 ≤ a * b := by
  have e := mul_down a b k
  have h2 := mul_part a b k
  have h3 : 18446744073709551616 ^ 3 * 18446744073709551616 ≤ b / 18446744073709551616 ^ (k + 1) * a * 18446744073709551616 := Nat.mul_le_mul_right _ h
  rw [← Nat.pow_succ] at h3
  omega

theorem sumV_lt {n : Nat} (h : n < 18446744073709551616 ^ 4) : sumV n = .tuple #[bigN n, .int .i64 0] := if_pos h
theorem sumV_ge {n : Nat} (h : 18446744073709551616 ^ 4 ≤ n) : sumV n = .tuple #[big 0 0 0 0, .int .i64 2] := by
  unfold sumV
  rw [if_neg (by omega), bigN_zero]

def mulW (w : World) (a b : Nat) : World := (((w.alloc (row4 (limb a))).alloc (row4 (limb b))).alloc (row4 fun _ => 0)).alloc (row4 fun _ => 0)
theorem mulW_facts (w : World) (a b : Nat) : Box (mulW w a b) w.heap.size a ∧ Box (mulW w a b) (w.heap.size + 1) b ∧ Box (mulW w a b) (w.heap.size + 1 + 1) 0 ∧ Box (mulW w a b) (w.heap.size + 1 + 1 + 1) 0 ∧ Below w.heap.size w (mulW w a b) := by
  have hz : limb 0 = fun _ => 0 := funext limb_zero
  have := chainW_facts w (limb a) (limb b)
  unfold Box
  rw [hz]
  exact this

theorem past {w : World} {o : Obj} {a : Addr} {v : Value} (h : w.cell? a = some v) : (w.alloc o).cell? a = some v := (World.cell?_alloc_some w a o (by rw [h]; rfl)).trans h
section
variable {w w' : World} {g h i : Nat} {v0 v1 v2 v3 v4 : Value}
theorem past5 {o : Obj} (x : w.cell? ⟨g, 0, none⟩ = some v0 ∧ w.cell? ⟨g, 1, none⟩ = some v1 ∧ w.cell? ⟨g, 2, none⟩ = some v2 ∧ w.cell? ⟨g, 3, none⟩ = some v3 ∧ w.cell? ⟨h, i, none⟩ = some v4) : (w.alloc o).cell? ⟨g, 0, none⟩ = some v0 ∧ (w.alloc o).cell? ⟨g, 1, none⟩ = some v1 ∧ (w.alloc o).cell? ⟨g, 2, none⟩ = some v2 ∧ (w.alloc o).cell? ⟨g, 3, none⟩ = some v3 ∧ (w.alloc o).cell? ⟨h, i, none⟩ = some v4 := ⟨past x.1, past x.2.1, past x.2.2.1, past x.2.2.2.1, past x.2.2.2.2⟩
theorem drew5 (x : w.cell? ⟨g, 0, none⟩ = some v0 ∧ w.cell? ⟨g, 1, none⟩ = some v1 ∧ w.cell? ⟨g, 2, none⟩ = some v2 ∧ w.cell? ⟨g, 3, none⟩ = some v3 ∧ w.cell? ⟨h, i, none⟩ = some v4) : w.drew.cell? ⟨g, 0, none⟩ = some v0 ∧ w.drew.cell? ⟨g, 1, none⟩ = some v1 ∧ w.drew.cell? ⟨g, 2, none⟩ = some v2 ∧ w.drew.cell? ⟨g, 3, none⟩ = some v3 ∧ w.drew.cell? ⟨h, i, none⟩ = some v4 := x
theorem later5 (hb : Below w.heap.size w w') (x : w.cell? ⟨g, 0, none⟩ = some v0 ∧ w.cell? ⟨g, 1, none⟩ = some v1 ∧ w.cell? ⟨g, 2, none⟩ = some v2 ∧ w.cell? ⟨g, 3, none⟩ = some v3 ∧ w.cell? ⟨h, i, none⟩ = some v4) : w'.cell? ⟨g, 0, none⟩ = some v0 ∧ w'.cell? ⟨g, 1, none⟩ = some v1 ∧ w'.cell? ⟨g, 2, none⟩ = some v2 ∧ w'.cell? ⟨g, 3, none⟩ = some v3 ∧ w'.cell? ⟨h, i, none⟩ = some v4 :=
  have k : ∀ {a : Addr} {v : Value}, w.cell? a = some v → w'.cell? a = some v := fun {a} {v} e => (hb.cell (World.block_lt_of_cell? w a e)).trans e
  ⟨k x.1, k x.2.1, k x.2.2.1, k x.2.2.2.1, k x.2.2.2.2⟩
theorem far5 {a : Addr} {v : Value} (hg : g ≠ a.block) (hh : h ≠ a.block) (x : w.cell? ⟨g, 0, none⟩ = some v0 ∧ w.cell? ⟨g, 1, none⟩ = some v1 ∧ w.cell? ⟨g, 2, none⟩ = some v2 ∧ w.cell? ⟨g, 3, none⟩ = some v3 ∧ w.cell? ⟨h, i, none⟩ = some v4) : (w.setCell a v).cell? ⟨g, 0, none⟩ = some v0 ∧ (w.setCell a v).cell? ⟨g, 1, none⟩ = some v1 ∧ (w.setCell a v).cell? ⟨g, 2, none⟩ = some v2 ∧ (w.setCell a v).cell? ⟨g, 3, none⟩ = some v3 ∧ (w.setCell a v).cell? ⟨h, i, none⟩ = some v4 :=
  have k : ∀ {b j : Nat} {u : Value}, b ≠ a.block → w.cell? ⟨b, j, none⟩ = some u → (w.setCell a v).cell? ⟨b, j, none⟩ = some u := fun {b} {j} {u} hb e => (World.cell?_setCell_other _ _ _ _ (by rintro rfl; exact hb rfl)).trans e
  ⟨k hg x.1, k hg x.2.1, k hg x.2.2.1, k hg x.2.2.2.1, k hh x.2.2.2.2⟩
end

abbrev obj4 (a b c d : Int) : Obj := .cells #[.int .u64 a, .int .u64 b, .int .u64 c, .int .u64 d] 28

/-- The five numbers of a round. -/
structure Five (w W : World) (g a b n pp p : Nat) : Prop where
  x1 : Box W g a
  x2 : Box W (g + 1) b
  x3 : Box W (g + 1 + 1) 0
  x4 : Box W (g + 1 + 1 + 1) n
  x5 : Box W pp p
  far : g + 1 + 1 + 1 < pp
  below : Below g w W

theorem five_a {w wr w' : World} {g a b n p : Nat} (X1 : Box wr g a) (X2 : Box wr (g + 1) b) (X3 : Box wr (g + 1 + 1) 0) (X4 : Box wr (g + 1 + 1 + 1) n) (hb : Below g w wr) (hb1 : Below wr.drew.heap.size wr.drew w') :
    Five w (w'.alloc (obj4 (limb p 0) (limb p 1) (limb p 2) (limb p 3))) g a b n w'.heap.size p := by
  have hs : wr.heap.size ≤ w'.heap.size := hb1.size
  have l4 := X4.lt
  exact ⟨(Box.later (w := wr.drew) X1.drew hb1).alloc _, (Box.later (w := wr.drew) X2.drew hb1).alloc _, (Box.later (w := wr.drew) X3.drew hb1).alloc _, (Box.later (w := wr.drew) X4.drew hb1).alloc _, Box.new w' p, by omega,
    (hb.drew.trans (hb1.mono (by show g ≤ wr.heap.size; omega))).alloc (by omega) _⟩

theorem five_b {w wr w' : World} {g a b n p : Nat} (X1 : Box wr g a) (X2 : Box wr (g + 1) b) (X3 : Box wr (g + 1 + 1) 0) (X4 : Box wr (g + 1 + 1 + 1) n) (hb : Below g w wr) (hb1 : Below (wr.alloc (obj4 0 0 0 0)).drew.heap.size (wr.alloc (obj4 0 0 0 0)).drew w') :
    Five w (store4 w' wr.heap.size (limb p 0) (limb p 1) (limb p 2) (limb p 3)) g a b n wr.heap.size p := by
  have l4 := X4.lt
  have hz : (wr.alloc (obj4 0 0 0 0)).drew.heap.size = wr.heap.size + 1 := World.size_alloc wr _
  have Z : Box w' wr.heap.size 0 := Box.later (w := (wr.alloc (obj4 0 0 0 0)).drew) (Box.zero wr).drew hb1
  exact ⟨(Box.later (w := (wr.alloc (obj4 0 0 0 0)).drew) (X1.alloc _).drew hb1).store_other (by omega) _ _ _ _, (Box.later (w := (wr.alloc (obj4 0 0 0 0)).drew) (X2.alloc _).drew hb1).store_other (by omega) _ _ _ _,
    (Box.later (w := (wr.alloc (obj4 0 0 0 0)).drew) (X3.alloc _).drew hb1).store_other (by omega) _ _ _ _, (Box.later (w := (wr.alloc (obj4 0 0 0 0)).drew) (X4.alloc _).drew hb1).store_other (by omega) _ _ _ _,
    Z.stored p, by omega, below_store (((hb.alloc (by omega) _).drew).trans (hb1.mono (by omega))) (by omega) _ _ _ _⟩

theorem five_next {w W w6 : World} {g a b n pp p : Nat} (Z : Five w W g a b n pp p) (hb : Below W.heap.size W w6) :
    Box w6 g a ∧ Box w6 (g + 1) b ∧ Box w6 (g + 1 + 1) 0 ∧ Box w6 (g + 1 + 1 + 1) n ∧ Below g w w6 := by
  have l4 := Z.x4.lt
  exact ⟨Z.x1.later hb, Z.x2.later hb, Z.x3.later hb, Z.x4.later hb, Z.below.trans (hb.mono (by omega))⟩

end Go.Proofs.Ytchjjbklkmfelaa
