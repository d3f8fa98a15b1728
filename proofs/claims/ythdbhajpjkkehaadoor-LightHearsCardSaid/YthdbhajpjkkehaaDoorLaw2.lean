/- Layer 2 (huge): what its statements share (the chapter's example, 'is'), and the first of them. -/
import Derived.Test.YthdbhajpjkkehaaDoorBox
import Derived.Test.YthdbhajpjkkehaaDoorLimb
import Derived.Test.YthdbhajpjkkehaaDoorLen
import Derived.Laws.BitsAllLaws
namespace Go.Proofs.YthdbhajpjkkehaaDoor
open Go.RowKit
set_option linter.unusedVariables false
set_option linter.unusedSimpArgs false

theorem limb_digit (n i j : Nat) (hj : j < 4) : n / 18446744073709551616 ^ i % 18446744073709551616 / 65536 ^ j % 65536 = n / 65536 ^ (4 * i + j) % 65536 := by
  have e1 : 18446744073709551616 ^ i = 65536 ^ (4 * i) := by rw [Nat.pow_mul]
  rw [e1, Nat.pow_add, ← Nat.div_div_eq_div_mul]
  generalize n / 65536 ^ (4 * i) = q
  match j, hj with
  | 0, _ => simp only [Nat.pow_zero, Nat.div_one]; omega
  | 1, _ => simp only [Nat.pow_one]; omega
  | 2, _ => rw [show 65536 ^ 2 = 4294967296 from rfl]; omega
  | 3, _ => rw [show 65536 ^ 3 = 281474976710656 from rfl]; omega

theorem idx_big0 (a b c d : Int) (w : World) : (Instr.index 26 (.agg #[.int .u64 a, .int .u64 b, .int .u64 c, .int .u64 d]) (.int .i64 0)).run Tryd.prog w = .ok (.int .u64 a) w := by kernel_rfl
theorem idx_big1 (a b c d : Int) (w : World) : (Instr.index 26 (.agg #[.int .u64 a, .int .u64 b, .int .u64 c, .int .u64 d]) (.int .i64 1)).run Tryd.prog w = .ok (.int .u64 b) w := by kernel_rfl
theorem idx_big2 (a b c d : Int) (w : World) : (Instr.index 26 (.agg #[.int .u64 a, .int .u64 b, .int .u64 c, .int .u64 d]) (.int .i64 2)).run Tryd.prog w = .ok (.int .u64 c) w := by kernel_rfl
theorem idx_big3 (a b c d : Int) (w : World) : (Instr.index 26 (.agg #[.int .u64 a, .int .u64 b, .int .u64 c, .int .u64 d]) (.int .i64 3)).run Tryd.prog w = .ok (.int .u64 d) w := by kernel_rfl
theorem idx_big (n i : Nat) (hi : i < 4) (w : World) : (Instr.index 26 (.agg #[.int .u64 (limb n 0), .int .u64 (limb n 1), .int .u64 (limb n 2), .int .u64 (limb n 3)]) (.int .i64 (i : Int))).run Tryd.prog w = .ok (.int .u64 (limb n i)) w := by
  match i, hi with
  | 0, _ => exact idx_big0 _ _ _ _ _
  | 1, _ => exact idx_big1 _ _ _ _ _
  | 2, _ => exact idx_big2 _ _ _ _ _
  | 3, _ => exact idx_big3 _ _ _ _ _

end Go.Proofs.YthdbhajpjkkehaaDoor

namespace Go.Proofs.YthdbhajpjkkehaaDoor
open Go.RowKit
set_option linter.unusedVariables false
set_option linter.unusedSimpArgs false

theorem row_math {a y k U ov x : Nat} (hU : U = (a % 18446744073709551616 ^ k * y) % 18446744073709551616 ^ k) (hov : ov = (a % 18446744073709551616 ^ k * y) / 18446744073709551616 ^ k) (hx : x = a / 18446744073709551616 ^ k % 18446744073709551616) :
    U + (x * y + ov) % 18446744073709551616 * 18446744073709551616 ^ k = (a % 18446744073709551616 ^ (k + 1) * y) % 18446744073709551616 ^ (k + 1) ∧
    (x * y + ov) / 18446744073709551616 = (a % 18446744073709551616 ^ (k + 1) * y) / 18446744073709551616 ^ (k + 1) := by
  have hp : 0 < 18446744073709551616 ^ k := Nat.pow_pos (by decide)
  have em : a % 18446744073709551616 ^ (k + 1) = a % 18446744073709551616 ^ k + 18446744073709551616 ^ k * x := by rw [Nat.pow_succ, Nat.mod_mul, ← hx]
  rw [em, Nat.pow_succ]
  clear em
  generalize 18446744073709551616 ^ k = p at *
  have e := Nat.div_add_mod (a % p * y) p
  rw [← hU, ← hov] at e
  have hUp : U < p := by rw [hU]; exact Nat.mod_lt _ hp
  have key : (a % p + p * x) * y = U + p * (x * y + ov) := by
    rw [Nat.add_mul, ← e, Nat.mul_add, Nat.mul_assoc]
    omega
  rw [key]
  have m := Nat.div_add_mod (x * y + ov) 18446744073709551616
  generalize x * y + ov = t at *
  constructor
  · rw [Nat.mod_mul, Nat.add_mul_mod_self_left, Nat.mod_eq_of_lt hUp, Nat.add_mul_div_left _ _ hp, Nat.div_eq_of_lt hUp, Nat.zero_add, Nat.mul_comm p]
  · rw [← Nat.div_div_eq_div_mul, Nat.add_mul_div_left _ _ hp, Nat.div_eq_of_lt hUp, Nat.zero_add]

theorem row_ov {a y k : Nat} (hy : y < 18446744073709551616) : (a % 18446744073709551616 ^ k * y) / 18446744073709551616 ^ k < 18446744073709551616 := by
  have hp : 0 < 18446744073709551616 ^ k := Nat.pow_pos (by decide)
  apply Nat.div_lt_of_lt_mul
  have h1 := Nat.mod_lt a hp
  have h2 : a % 18446744073709551616 ^ k * y ≤ 18446744073709551616 ^ k * y := Nat.mul_le_mul_right _ (Nat.le_of_lt h1)
  have h3 : 18446744073709551616 ^ k * y < 18446744073709551616 ^ k * 18446744073709551616 := Nat.mul_lt_mul_of_pos_left hy hp
  omega

end Go.Proofs.YthdbhajpjkkehaaDoor

namespace Go.Proofs.YthdbhajpjkkehaaDoor
open Go.RowKit
set_option linter.unusedVariables false
set_option linter.unusedSimpArgs false

theorem limb_shift (n j : Nat) : limb (n * 18446744073709551616) 0 = 0 ∧ limb (n * 18446744073709551616) (j + 1) = limb n j := by
  unfold limb
  constructor
  · rw [Nat.pow_zero, Nat.div_one, Nat.mul_mod_left]; rfl
  · rw [Nat.pow_succ, Nat.mul_comm (18446744073709551616 ^ j), ← Nat.div_div_eq_div_mul, Nat.mul_div_cancel _ (by decide)]

theorem limb3_zero {n : Nat} (h : n < 18446744073709551616 ^ 4) : limb n 3 = 0 ↔ n < 18446744073709551616 ^ 3 := by
  have hp : 0 < 18446744073709551616 ^ 3 := by decide
  have h1 : n / 18446744073709551616 ^ 3 < 18446744073709551616 := Nat.div_lt_of_lt_mul (by rw [← Nat.pow_succ]; exact h)
  unfold limb
  rw [Nat.mod_eq_of_lt h1]
  constructor
  · intro h0
    have : n / 18446744073709551616 ^ 3 = 0 := by omega
    exact (Nat.div_eq_zero_iff_lt hp).1 this
  · intro h0
    rw [Nat.div_eq_of_lt h0]; rfl

/-- The product so far, one limb further down. -/
theorem mul_down (a b k : Nat) : b / 18446744073709551616 ^ k * a = b / 18446744073709551616 ^ (k + 1) * a * 18446744073709551616 + a * (b / 18446744073709551616 ^ k % 18446744073709551616) := by
  have e : b / 18446744073709551616 ^ k = 18446744073709551616 * (b / 18446744073709551616 ^ (k + 1)) + b / 18446744073709551616 ^ k % 18446744073709551616 := by
    rw [Nat.pow_succ, ← Nat.div_div_eq_div_mul]
    exact (Nat.div_add_mod _ _).symm
  have e2 : b / 18446744073709551616 ^ k * a = (18446744073709551616 * (b / 18446744073709551616 ^ (k + 1)) + b / 18446744073709551616 ^ k % 18446744073709551616) * a := by rw [← e]
  rw [e2, Nat.add_mul, Nat.mul_comm (b / 18446744073709551616 ^ k % 18446744073709551616) a, Nat.mul_comm 18446744073709551616, Nat.mul_right_comm]

theorem mul_part (a b k : Nat) : b / 18446744073709551616 ^ k * a ≤ a * b := by
  rw [Nat.mul_comm]
  exact Nat.mul_le_mul_left _ (Nat.div_le_self _ _)

theorem mul_high {a b k : Nat} (h : 18446744073709551616 ^ 3 ≤ b / 18446744073709551616 ^ (k + 1) * a) : 18446744073709551616 ^ 4 ≤ a * b := by
  have e := mul_down a b k
  have h2 := mul_part a b k
  have h3 : 18446744073709551616 ^ 3 * 18446744073709551616 ≤ b / 18446744073709551616 ^ (k + 1) * a * 18446744073709551616 := Nat.mul_le_mul_right _ h
  rw [← Nat.pow_succ] at h3
  omega

theorem sumV_lt {n : Nat} (h : n < 18446744073709551616 ^ 4) : sumV n = .tuple #[bigN n, .int .i64 0] := if_pos h
theorem sumV_ge {n : Nat} (h : 18446744073709551616 ^ 4 ≤ n) : sumV n = .tuple #[big 0 0 0 0, .int .i64 2] := by
  unfold sumV
  rw [if_neg (by omega), bigN_zero]

def mulW (w : World) (a b : Nat) : World := (((w.alloc (row4 (limb a))).alloc (row4 (limb b))).alloc (row4 fun _ => 0)).alloc (row4 fun _ => 0)
theorem mulW_facts (w : World) (a b : Nat) : Box (mulW w a b) w.heap.size a ∧ Box (mulW w a b) (w.heap.size + 1) b ∧ Box (mulW w a b) (w.heap.size + 1 + 1) 0 ∧ Box (mulW w a b) (w.heap.size + 1 + 1 + 1) 0 ∧ Below w.heap.size w (mulW w a b) := by
  have hz : limb 0 = fun _ => 0 := funext limb_zero
  have := chainW_facts w (limb a) (limb b)
  unfold Box
  rw [hz]
  exact this

theorem past {w : World} {o : Obj} {a : Addr} {v : Value} (h : w.cell? a = some v) : (w.alloc o).cell? a = some v := (World.cell?_alloc_some w a o (by rw [h]; rfl)).trans h
section
variable {w w' : World} {g h i : Nat} {v0 v1 v2 v3 v4 : Value}
theorem past5 {o : Obj} (x : w.cell? ⟨g, 0, none⟩ = some v0 ∧ w.cell? ⟨g, 1, none⟩ = some v1 ∧ w.cell? ⟨g, 2, none⟩ = some v2 ∧ w.cell? ⟨g, 3, none⟩ = some v3 ∧ w.cell? ⟨h, i, none⟩ = some v4) : (w.alloc o).cell? ⟨g, 0, none⟩ = some v0 ∧ (w.alloc o).cell? ⟨g, 1, none⟩ = some v1 ∧ (w.alloc o).cell? ⟨g, 2, none⟩ = some v2 ∧ (w.alloc o).cell? ⟨g, 3, none⟩ = some v3 ∧ (w.alloc o).cell? ⟨h, i, none⟩ = some v4 := ⟨past x.1, past x.2.1, past x.2.2.1, past x.2.2.2.1, past x.2.2.2.2⟩
theorem drew5 (x : w.cell? ⟨g, 0, none⟩ = some v0 ∧ w.cell? ⟨g, 1, none⟩ = some v1 ∧ w.cell? ⟨g, 2, none⟩ = some v2 ∧ w.cell? ⟨g, 3, none⟩ = some v3 ∧ w.cell? ⟨h, i, none⟩ = some v4) : w.drew.cell? ⟨g, 0, none⟩ = some v0 ∧ w.drew.cell? ⟨g, 1, none⟩ = some v1 ∧ w.drew.cell? ⟨g, 2, none⟩ = some v2 ∧ w.drew.cell? ⟨g, 3, none⟩ = some v3 ∧ w.drew.cell? ⟨h, i, none⟩ = some v4 := x
theorem later5 (hb : Below w.heap.size w w') (x : w.cell? ⟨g, 0, none⟩ = some v0 ∧ w.cell? ⟨g, 1, none⟩ = some v1 ∧ w.cell? ⟨g, 2, none⟩ = some v2 ∧ w.cell? ⟨g, 3, none⟩ = some v3 ∧ w.cell? ⟨h, i, none⟩ = some v4) : w'.cell? ⟨g, 0, none⟩ = some v0 ∧ w'.cell? ⟨g, 1, none⟩ = some v1 ∧ w'.cell? ⟨g, 2, none⟩ = some v2 ∧ w'.cell? ⟨g, 3, none⟩ = some v3 ∧ w'.cell? ⟨h, i, none⟩ = some v4 :=
  have k : ∀ {a : Addr} {v : Value}, w.cell? a = some v → w'.cell? a = some v := fun {a} {v} e => (hb.cell (World.block_lt_of_cell? w a e)).trans e
  ⟨k x.1, k x.2.1, k x.2.2.1, k x.2.2.2.1, k x.2.2.2.2⟩
theorem far5 {a : Addr} {v : Value} (hg : g ≠ a.block) (hh : h ≠ a.block) (x : w.cell? ⟨g, 0, none⟩ = some v0 ∧ w.cell? ⟨g, 1, none⟩ = some v1 ∧ w.cell? ⟨g, 2, none⟩ = some v2 ∧ w.cell? ⟨g, 3, none⟩ = some v3 ∧ w.cell? ⟨h, i, none⟩ = some v4) : (w.setCell a v).cell? ⟨g, 0, none⟩ = some v0 ∧ (w.setCell a v).cell? ⟨g, 1, none⟩ = some v1 ∧ (w.setCell a v).cell? ⟨g, 2, none⟩ = some v2 ∧ (w.setCell a v).cell? ⟨g, 3, none⟩ = some v3 ∧ (w.setCell a v).cell? ⟨h, i, none⟩ = some v4 :=
  have k : ∀ {b j : Nat} {u : Value}, b ≠ a.block → w.cell? ⟨b, j, none⟩ = some u → (w.setCell a v).cell? ⟨b, j, none⟩ = some u := fun {b} {j} {u} hb e => (World.cell?_setCell_other _ _ _ _ (by rintro rfl; exact hb rfl)).trans e
  ⟨k hg x.1, k hg x.2.1, k hg x.2.2.1, k hg x.2.2.2.1, k hh x.2.2.2.2⟩
end

abbrev obj4 (a b c d : Int) : Obj := .cells #[.int .u64 a, .int .u64 b, .int .u64 c, .int .u64 d] 26

/-- The five numbers of a round. -/
structure Five (w W : World) (g a b n pp p : Nat) : Prop where
  x1 : Box W g a
  x2 : Box W (g + 1) b
  x3 : Box W (g + 1 + 1) 0
  x4 : Box W (g + 1 + 1 + 1) n
  x5 : Box W pp p
  far : g + 1 + 1 + 1 < pp
  below : Below g w W

theorem five_a {w wr w' : World} {g a b n p : Nat} (X1 : Box wr g a) (X2 : Box wr (g + 1) b) (X3 : Box wr (g + 1 + 1) 0) (X4 : Box wr (g + 1 + 1 + 1) n) (hb : Below g w wr) (hb1 : Below wr.drew.heap.size wr.drew w') :
    Five w (w'.alloc (obj4 (limb p 0) (limb p 1) (limb p 2) (limb p 3))) g a b n w'.heap.size p := by
  have hs : wr.heap.size ≤ w'.heap.size := hb1.size
  have l4 := X4.lt
  exact ⟨(Box.later (w := wr.drew) X1.drew hb1).alloc _, (Box.later (w := wr.drew) X2.drew hb1).alloc _, (Box.later (w := wr.drew) X3.drew hb1).alloc _, (Box.later (w := wr.drew) X4.drew hb1).alloc _, Box.new w' p, by omega,
    (hb.drew.trans (hb1.mono (by show g ≤ wr.heap.size; omega))).alloc (by omega) _⟩

theorem five_b {w wr w' : World} {g a b n p : Nat} (X1 : Box wr g a) (X2 : Box wr (g + 1) b) (X3 : Box wr (g + 1 + 1) 0) (X4 : Box wr (g + 1 + 1 + 1) n) (hb : Below g w wr) (hb1 : Below (wr.alloc (obj4 0 0 0 0)).drew.heap.size (wr.alloc (obj4 0 0 0 0)).drew w') :
    Five w (store4 w' wr.heap.size (limb p 0) (limb p 1) (limb p 2) (limb p 3)) g a b n wr.heap.size p := by
  have l4 := X4.lt
  have hz : (wr.alloc (obj4 0 0 0 0)).drew.heap.size = wr.heap.size + 1 := World.size_alloc wr _
  have Z : Box w' wr.heap.size 0 := Box.later (w := (wr.alloc (obj4 0 0 0 0)).drew) (Box.zero wr).drew hb1
  exact ⟨(Box.later (w := (wr.alloc (obj4 0 0 0 0)).drew) (X1.alloc _).drew hb1).store_other (by omega) _ _ _ _, (Box.later (w := (wr.alloc (obj4 0 0 0 0)).drew) (X2.alloc _).drew hb1).store_other (by omega) _ _ _ _,
    (Box.later (w := (wr.alloc (obj4 0 0 0 0)).drew) (X3.alloc _).drew hb1).store_other (by omega) _ _ _ _, (Box.later (w := (wr.alloc (obj4 0 0 0 0)).drew) (X4.alloc _).drew hb1).store_other (by omega) _ _ _ _,
    Z.stored p, by omega, below_store (((hb.alloc (by omega) _).drew).trans (hb1.mono (by omega))) (by omega) _ _ _ _⟩

theorem five_next {w W w6 : World} {g a b n pp p : Nat} (Z : Five w W g a b n pp p) (hb : Below W.heap.size W w6) :
    Box w6 g a ∧ Box w6 (g + 1) b ∧ Box w6 (g + 1 + 1) 0 ∧ Box w6 (g + 1 + 1 + 1) n ∧ Below g w w6 := by
  have l4 := Z.x4.lt
  exact ⟨Z.x1.later hb, Z.x2.later hb, Z.x3.later hb, Z.x4.later hb, Z.below.trans (hb.mono (by omega))⟩

end Go.Proofs.YthdbhajpjkkehaaDoor

namespace Go.Proofs.YthdbhajpjkkehaaDoor
open Go.RowKit Go.Lib
set_option linter.unusedVariables false
set_option linter.unusedSimpArgs false

/-- The number that digits stand for. -/
def decV (l : List UInt8) : Nat := l.foldl (fun n c => n * 10 + (c.toNat - 48)) 0
def isDig (c : UInt8) : Prop := 48 ≤ c.toNat ∧ c.toNat ≤ 57
instance (c : UInt8) : Decidable (isDig c) := inferInstanceAs (Decidable (_ ∧ _))
/-- A text that is no number's. -/
def badText (l : List UInt8) : Prop := l = [] ∨ (1 < l.length ∧ l.getD 0 0 = 48) ∨ ∃ c ∈ l, ¬ isDig c
def okE (n : Nat) : Int := if n < 18446744073709551616 ^ 4 then 0 else 2
def kept (n : Nat) : Nat := if n < 18446744073709551616 ^ 4 then n else 0

theorem decV_snoc (l : List UInt8) (c : UInt8) : decV (l ++ [c]) = decV l * 10 + (c.toNat - 48) := by simp [decV]
theorem decV_take (l : List UInt8) (k : Nat) (h : k < l.length) : decV (l.take (k + 1)) = decV (l.take k) * 10 + ((l.getD k 0).toNat - 48) := by
  rw [List.take_succ_eq_append_getElem h, decV_snoc]
  simp [List.getD_eq_getElem?_getD, h]
theorem sumV_kept (n : Nat) : sumV n = .tuple #[bigN (kept n), .int .i64 (okE n)] := by
  unfold sumV kept okE
  split <;> rfl

theorem below_bytes (w : World) (e : TypeId) (s : ByteArray) : Below w.heap.size w (bytesWorld w e s) :=
  ⟨rfl, rfl, rfl, by rw [bytesWorld_size]; omega, fun k hk => bytesWorld_at_old w e s k hk⟩

/-- What Parse holds in a round. -/
structure PS (w : World) (g : Nat) (l : List UInt8) (n : Nat) : Prop where
  res : Box w g 0
  out : Box w (g + 1) n
  txt : ∀ j, j < l.length → w.cell? ⟨g + 1 + 1, j, none⟩ = some (.int .u8 ((l.getD j 0).toNat : Int))
  size : g + 1 + 1 < w.heap.size

theorem PS.later {w w' : World} {g n : Nat} {l : List UInt8} (h : PS w g l n) (hb : Below w.heap.size w w') : PS w' g l n :=
  ⟨h.res.later hb, h.out.later hb, fun j hj => (hb.cell h.size).trans (h.txt j hj), Nat.lt_of_lt_of_le h.size hb.size⟩
theorem PS.stored {w : World} {g n : Nat} {l : List UInt8} (h : PS w g l n) (m : Nat) : PS (store4 w (g + 1) (limb m 0) (limb m 1) (limb m 2) (limb m 3)) g l m :=
  ⟨h.res.store_other (by omega) _ _ _ _, h.out.stored m, fun j hj => by
    unfold store4
    rw [World.cell?_setCell_other _ _ _ _ (by intro e; injection e; omega), World.cell?_setCell_other _ _ _ _ (by intro e; injection e; omega), World.cell?_setCell_other _ _ _ _ (by intro e; injection e; omega), World.cell?_setCell_other _ _ _ _ (by intro e; injection e; omega)]
    exact h.txt j hj, by rw [store_size]; exact h.size⟩
theorem PS.drew {w : World} {g n : Nat} {l : List UInt8} (h : PS w g l n) : PS w.drew g l n := ⟨h.res, h.out, h.txt, h.size⟩
theorem PS.drewN {w : World} {g n : Nat} {l : List UInt8} (h : PS w g l n) (m : Nat) : PS (w.drewN m) g l n := ⟨h.res, h.out, h.txt, h.size⟩

theorem PS.step {w wr w1 w2 : World} {g n : Nat} {l : List UInt8} (h : PS wr g l n) (hb : Below g w wr) (h1 : Below wr.drew.heap.size wr.drew w1) (h2 : Below w1.heap.size w1 w2) :
    PS w2 g l n ∧ Below g w w2 := by
  have z0 := h.res.lt
  have z1 : wr.heap.size ≤ w1.heap.size := h1.size
  exact ⟨(PS.later (w := wr.drew) h.drew h1).later h2, (hb.drew.trans (h1.mono (by show g ≤ wr.heap.size; omega))).trans (h2.mono (by omega))⟩

theorem parse_start (w : World) (s : ByteArray) : PS (bytesWorld ((w.alloc (obj4 0 0 0 0)).alloc (obj4 0 0 0 0)) 5 s) w.heap.size s.data.toList 0 ∧
    Below w.heap.size w (bytesWorld ((w.alloc (obj4 0 0 0 0)).alloc (obj4 0 0 0 0)) 5 s) := by
  have B := below_bytes ((w.alloc (obj4 0 0 0 0)).alloc (obj4 0 0 0 0)) 5 s
  have z : ((w.alloc (obj4 0 0 0 0)).alloc (obj4 0 0 0 0)).heap.size = w.heap.size + 1 + 1 := by simp
  have b0 : Box ((w.alloc (obj4 0 0 0 0)).alloc (obj4 0 0 0 0)) w.heap.size 0 := (Box.zero w).alloc _
  have b1 : Box ((w.alloc (obj4 0 0 0 0)).alloc (obj4 0 0 0 0)) (w.heap.size + 1) 0 := by
    have := Box.zero (w.alloc (obj4 0 0 0 0))
    rw [World.size_alloc] at this
    exact this
  refine ⟨⟨b0.later B, b1.later B, fun j hj => ?_, by rw [bytesWorld_size, z]; omega⟩, ((((Below.refl _ _).alloc (Nat.le_refl _) _).alloc (by simp) _)).trans (B.mono (by rw [z]; omega))⟩
  have := bytesWorld_cell ((w.alloc (obj4 0 0 0 0)).alloc (obj4 0 0 0 0)) 5 s j (by simpa using hj)
  rw [z] at this
  exact this

theorem getD_byte (s : ByteArray) (k : Nat) (h : k < s.size) : s.data.toList.getD k 0 = s[k] := by
  rw [List.getD_eq_getElem?_getD, List.getElem?_eq_getElem (by simpa using h)]
  rfl

theorem parse_conv (w : World) (s : ByteArray) : (convert 9 66 (.string s)).run Tryd.prog w = .ok (.slice (some ⟨w.heap.size, 0, none⟩) s.size (grownCap w s.size 0 5)) (bytesWorld w 5 s) :=
  Go.Lib.run_convert_string_bytes (P := Tryd.prog) w 9 66 5 s (u := .string) (by kernel_rfl) (by kernel_rfl) (by kernel_rfl)

end Go.Proofs.YthdbhajpjkkehaaDoor

namespace Go.Proofs.YthdbhajpjkkehaaDoor
open Go.RowKit
set_option linter.unusedVariables false
set_option linter.unusedSimpArgs false

/-- What Int tells. -/
def intV (n : Nat) : Value := if n < 18446744073709551616 ^ 4 then .tuple #[bigN n, .bool true] else .tuple #[bigN 0, .bool false]

/-- A limb while digits from the k-th on are taken. -/
def icell (n k j : Nat) : Nat := n / 65536 ^ (max k (4 * j)) % 65536 ^ (4 * j + 4 - max k (4 * j))
theorem icell_top {n k : Nat} (h : n < 65536 ^ k) (j : Nat) : icell n k j = 0 := by
  unfold icell
  rw [Nat.div_eq_of_lt (Nat.lt_of_lt_of_le h (Nat.pow_le_pow_right (by decide) (Nat.le_max_left _ _))), Nat.zero_mod]
theorem icell_zero (n j : Nat) : icell n 0 j = n / 18446744073709551616 ^ j % 18446744073709551616 := by
  unfold icell
  rw [Nat.zero_max, Nat.pow_mul, show 4 * j + 4 - 4 * j = 4 by omega]
theorem icell_lt (n k j : Nat) : icell n k j < 18446744073709551616 := by
  unfold icell
  refine Nat.lt_of_lt_of_le (Nat.mod_lt _ (Nat.pow_pos (by decide))) ?_
  exact Nat.le_trans (Nat.pow_le_pow_right (by decide) (show _ ≤ 4 by omega)) (by decide)
theorem icell_step (n k : Nat) : icell n k (k / 4) = icell n (k + 1) (k / 4) * 65536 + n / 65536 ^ k % 65536 := by
  unfold icell
  rw [show max k (4 * (k / 4)) = k by omega, show max (k + 1) (4 * (k / 4)) = k + 1 by omega]
  obtain ⟨e, he⟩ : ∃ e, 4 * (k / 4) + 4 - k = e + 1 := ⟨4 * (k / 4) + 4 - k - 1, by omega⟩
  rw [he, show 4 * (k / 4) + 4 - (k + 1) = e by omega, Nat.pow_succ 65536 k, ← Nat.div_div_eq_div_mul, Nat.pow_succ, Nat.mul_comm (65536 ^ e), Nat.mod_mul]
  omega
theorem icell_other (n k j : Nat) (h : j ≠ k / 4) : icell n k j = icell n (k + 1) j := by
  unfold icell
  by_cases hj : 4 * j ≤ k
  · rw [show 4 * j + 4 - max k (4 * j) = 0 by omega, show 4 * j + 4 - max (k + 1) (4 * j) = 0 by omega, Nat.pow_zero, Nat.mod_one, Nat.mod_one]
  · rw [show max k (4 * j) = 4 * j by omega, show max (k + 1) (4 * j) = 4 * j by omega]
def ic (n k j : Nat) : Value := .int .u64 (icell n k j : Int)

theorem ic_box {w : World} {g n : Nat} (h : w.rowIs g 26 4 (ic n 0)) : Box w g n := h.congr fun j _ => by
  unfold ic lim limb
  rw [icell_zero]
theorem ic_start {w : World} {g n k : Nat} (h : Box w g 0) (hn : n < 65536 ^ k) : w.rowIs g 26 4 (ic n k) := h.congr fun j _ => by
  unfold ic lim
  rw [icell_top hn, limb_zero]
  rfl
theorem ic_set {w : World} {g n k : Nat} (h : w.rowIs g 26 4 (ic n (k + 1))) : (w.setCell ⟨g, k / 4, none⟩ (.int .u64 ((icell n (k + 1) (k / 4) * 65536 + n / 65536 ^ k % 65536 : Nat) : Int))).rowIs g 26 4 (ic n k) :=
  (h.set (k / 4) _).congr fun j _ => by
    by_cases hj : j = k / 4
    · subst hj; simp [ic, icell_step]
    · simp [ic, hj, icell_other n k j hj]

end Go.Proofs.YthdbhajpjkkehaaDoor

namespace Go.Proofs.YthdbhajpjkkehaaDoor
open Go.RowKit
set_option linter.unusedVariables false
set_option linter.unusedSimpArgs false

/-- A block of ints, written out. -/
theorem row_lit (w : World) (l : List Int) (n : Nat) (hn : l.length = n) (hm : n ≤ maxLen) :
    Row (w.alloc (.cells (l.map (Value.int .i64)).toArray 3)) (.slice (some ⟨w.heap.size, 0, none⟩) n n) l := by
  subst hn
  refine ⟨some ⟨w.heap.size, 0, none⟩, l.length, rfl, Nat.le_refl _, hm, .inr ⟨w.heap.size, 0, rfl, fun j hj => ?_⟩⟩
  rw [Nat.zero_add, cell_of_row _ _ _ _ _ _ (heap_alloc_new w _)]
  simp [hj]

theorem dig_limb : dig 18446744073709551616 = [0, 0, 0, 0, 1] := by
  rw [dig_pos (by omega), dig_pos (by omega), dig_pos (by omega), dig_pos (by omega), dig_pos (by omega), show 18446744073709551616 / 65536 / 65536 / 65536 / 65536 / 65536 = 0 from rfl, dig_zero]
  rfl

theorem below_row {w w' w'' : World} (h : Below w.heap.size w w') (h' : Below w'.heap.size w' w'') : Below w.heap.size w w'' := h.trans (h'.mono h.size)

end Go.Proofs.YthdbhajpjkkehaaDoor

namespace Go.Proofs.YthdbhajpjkkehaaDoor
open Go.RowKit
set_option linter.unusedVariables false
set_option linter.unusedSimpArgs false


theorem dig_many {n : Nat} (h : 18446744073709551616 ≤ n) : 4 < (dig n).length := by
  have := dig_lt n
  by_cases hl : (dig n).length ≤ 4
  · have h2 := Nat.lt_of_lt_of_le this (Nat.pow_le_pow_right (show 0 < 65536 by decide) hl)
    omega
  · omega

theorem dig_few {n : Nat} (h : n < 18446744073709551616) : (dig n).length ≤ 4 := dig_len_le (by omega)

end Go.Proofs.YthdbhajpjkkehaaDoor

namespace Go.Proofs.YthdbhajpjkkehaaDoor
open Go.RowKit
theorem or64_bd {a b : Int} (a0 : 0 ≤ a) (a1 : a < 18446744073709551616) (b0 : 0 ≤ b) (b1 : b < 18446744073709551616) :
    0 ≤ bits .or .u64 a b ∧ bits .or .u64 a b < 18446744073709551616 ∧ a ≤ bits .or .u64 a b ∧ b ≤ bits .or .u64 a b := by
  rw [u64_or a b a0 a1 b0 b1]
  have h1 := Nat.or_lt_two_pow (x := a.toNat) (y := b.toNat) (n := 64) (by omega) (by omega)
  have h2 : a.toNat ≤ a.toNat ||| b.toNat := Nat.left_le_or
  have h3 : b.toNat ≤ a.toNat ||| b.toNat := Nat.right_le_or
  omega
end Go.Proofs.YthdbhajpjkkehaaDoor

namespace Go.Proofs.YthdbhajpjkkehaaDoor
open Go.RowKit Go.Lib
set_option linter.unusedVariables false
set_option linter.unusedSimpArgs false

instance (l : List UInt8) : Decidable (badText l) := inferInstanceAs (Decidable (_ ∨ _ ∨ _))
/-- What Parse tells of a text. -/
def parseV (l : List UInt8) : Value := if badText l then .tuple #[bigN 0, .int .i64 6] else sumV (decV l)

theorem parse_ex : parseV [49, 56, 52, 52, 54, 55, 52, 52, 48, 55, 51, 55, 48, 57, 53, 53, 49, 54, 49, 54] = .tuple #[big 0 1 0 0, .int .i64 0] := by
  unfold parseV
  rw [if_neg (by decide +kernel), show decV [49, 56, 52, 52, 54, 55, 52, 52, 48, 55, 51, 55, 48, 57, 53, 53, 49, 54, 49, 54] = 18446744073709551616 by decide +kernel, sumV_lt (by decide)]
  have e : ∀ k, limb 18446744073709551616 k = ((18446744073709551616 / 18446744073709551616 ^ k % 18446744073709551616 : Nat) : Int) := fun k => rfl
  have h0 : limb 18446744073709551616 0 = 0 := by rw [e]; decide
  have h1 : limb 18446744073709551616 1 = 1 := by rw [e]; decide
  have h2 : limb 18446744073709551616 2 = 0 := by rw [e]; decide
  have h3 : limb 18446744073709551616 3 = 0 := by rw [e]; decide
  unfold bigN
  rw [h0, h1, h2, h3]

end Go.Proofs.YthdbhajpjkkehaaDoor
