/- huge.Mul: a product of two numbers of four limbs, or that it is too great. -/
import Derived.Test.YtoljemjnhomomaaHMul
namespace Go.Proofs.Ytoljemjnhomomaa
open Go.RowKit
set_option linter.unusedVariables false
set_option linter.unusedSimpArgs false

theorem limb_shift (n j : Nat) : limb (n * 18446744073709551616) 0 = 0 ∧ limb (n * 18446744073709551616) (j + 1) = limb n j := by
  unfold limb
  constructor
  · rw [Nat.pow_zero, Nat.div_one, Nat.mul_mod_left]; rfl
  · rw [Nat.pow_succ, Nat.mul_comm (18446744073709551616 ^ j), ← Nat.div_div_eq_div_mul, Nat.mul_div_cancel _ (by decide)]

theorem limb3_zero {n : Nat} (h : n < 18446744073709551616 ^ 4) : limb n 3 = 0 ↔ n < 18446744073709551616 ^ 3 := by
  have hp : 0 < 18446744073709551616 ^ 3 := by decide
  have h1 : n / 18446744073709551616 ^ 3 < 18446744073709551616 := Nat.div_lt_of_lt_mul (by rw [← Nat.pow_succ]; exact h)
  unfold limb
  rw [Nat.mod_eq_of_lt h1]
  constructor
  · intro h0
    have : n / 18446744073709551616 ^ 3 = 0 := by omega
    exact (Nat.div_eq_zero_iff_lt hp).1 this
  · intro h0
    rw [Nat.div_eq_of_lt h0]; rfl

/-- The product so far, one limb further down. -/
theorem mul_down (a b k : Nat) : b / 18446744073709551616 ^ k * a = b / 18446744073709551616 ^ (k + 1) * a * 18446744073709551616 + a * (b / 18446744073709551616 ^ k % 18446744073709551616) := by
  have e : b / 18446744073709551616 ^ k = 18446744073709551616 * (b / 18446744073709551616 ^ (k + 1)) + b / 18446744073709551616 ^ k % 18446744073709551616 := by
    rw [Nat.pow_succ, ← Nat.div_div_eq_div_mul]
    exact (Nat.div_add_mod _ _).symm
  have e2 : b / 18446744073709551616 ^ k * a = (18446744073709551616 * (b / 18446744073709551616 ^ (k + 1)) + b / 18446744073709551616 ^ k % 18446744073709551616) * a := by rw [← e]
  rw [e2, Nat.add_mul, Nat.mul_comm (b / 18446744073709551616 ^ k % 18446744073709551616) a, Nat.mul_comm 18446744073709551616, Nat.mul_right_comm]

theorem mul_part (a b k : Nat) : b / 18446744073709551616 ^ k * a ≤ a * b := by
  rw [Nat.mul_comm]
  exact Nat.mul_le_mul_left _ (Nat.div_le_self _ _)

theorem mul_high {a b k : Nat} (h : 18446744073709551616 ^ 3 ≤ b / 18446744073709551616 ^ (k + 1) * a) : 18446744073709551616 ^ 4 ≤ a * b := by
  have e := mul_down a b k
  have h2 := mul_part a b k
  have h3 : 18446744073709551616 ^ 3 * 18446744073709551616 ≤ b / 18446744073709551616 ^ (k + 1) * a * 18446744073709551616 := Nat.mul_le_mul_right _ h
  rw [← Nat.pow_succ] at h3
  omega

theorem sumV_lt {n : Nat} (h : n < 18446744073709551616 ^ 4) : sumV n = .tuple #[bigN n, .int .i64 0] := if_pos h
theorem sumV_ge {n : Nat} (h : 18446744073709551616 ^ 4 ≤ n) : sumV n = .tuple #[big 0 0 0 0, .int .i64 2] := by
  unfold sumV
  rw [if_neg (by omega), bigN_zero]

def mulW (w : World) (a b : Nat) : World := (((w.alloc (row4 (limb a))).alloc (row4 (limb b))).alloc (row4 fun _ => 0)).alloc (row4 fun _ => 0)
theorem mulW_facts (w : World) (a b : Nat) : Box (mulW w a b) w.heap.size a ∧ Box (mulW w a b) (w.heap.size + 1) b ∧ Box (mulW w a b) (w.heap.size + 1 + 1) 0 ∧ Box (mulW w a b) (w.heap.size + 1 + 1 + 1) 0 ∧ Below w.heap.size w (mulW w a b) := by
  have hz : limb 0 = fun _ => 0 := funext limb_zero
  have := chainW_facts w (limb a) (limb b)
  unfold Box
  rw [hz]
  exact this

theorem past {w : World} {o : Obj} {a : Addr} {v : Value} (h : w.cell? a = some v) : (w.alloc o).cell? a = some v := (World.cell?_alloc_some w a o (by rw [h]; rfl)).trans h
section
variable {w w' : World} {g h i : Nat} {v0 v1 v2 v3 v4 : Value}
theorem past5 {o : Obj} (x : w.cell? ⟨g, 0, none⟩ = some v0 ∧ w.cell? ⟨g, 1, none⟩ = some v1 ∧ w.cell? ⟨g, 2, none⟩ = some v2 ∧ w.cell? ⟨g, 3, none⟩ = some v3 ∧ w.cell? ⟨h, i, none⟩ = some v4) : (w.alloc o).cell? ⟨g, 0, none⟩ = some v0 ∧ (w.alloc o).cell? ⟨g, 1, none⟩ = some v1 ∧ (w.alloc o).cell? ⟨g, 2, none⟩ = some v2 ∧ (w.alloc o).cell? ⟨g, 3, none⟩ = some v3 ∧ (w.alloc o).cell? ⟨h, i, none⟩ = some v4 := ⟨past x.1, past x.2.1, past x.2.2.1, past x.2.2.2.1, past x.2.2.2.2⟩
theorem drew5 (x : w.cell? ⟨g, 0, none⟩ = some v0 ∧ w.cell? ⟨g, 1, none⟩ = some v1 ∧ w.cell? ⟨g, 2, none⟩ = some v2 ∧ w.cell? ⟨g, 3, none⟩ = some v3 ∧ w.cell? ⟨h, i, none⟩ = some v4) : w.drew.cell? ⟨g, 0, none⟩ = some v0 ∧ w.drew.cell? ⟨g, 1, none⟩ = some v1 ∧ w.drew.cell? ⟨g, 2, none⟩ = some v2 ∧ w.drew.cell? ⟨g, 3, none⟩ = some v3 ∧ w.drew.cell? ⟨h, i, none⟩ = some v4 := x
theorem later5 (hb : Below w.heap.size w w') (x : w.cell? ⟨g, 0, none⟩ = some v0 ∧ w.cell? ⟨g, 1, none⟩ = some v1 ∧ w.cell? ⟨g, 2, none⟩ = some v2 ∧ w.cell? ⟨g, 3, none⟩ = some v3 ∧ w.cell? ⟨h, i, none⟩ = some v4) : w'.cell? ⟨g, 0, none⟩ = some v0 ∧ w'.cell? ⟨g, 1, none⟩ = some v1 ∧ w'.cell? ⟨g, 2, none⟩ = some v2 ∧ w'.cell? ⟨g, 3, none⟩ = some v3 ∧ w'.cell? ⟨h, i, none⟩ = some v4 :=
  have k : ∀ {a : Addr} {v : Value}, w.cell? a = some v → w'.cell? a = some v := fun {a} {v} e => (hb.cell (World.block_lt_of_cell? w a e)).trans e
  ⟨k x.1, k x.2.1, k x.2.2.1, k x.2.2.2.1, k x.2.2.2.2⟩
theorem far5 {a : Addr} {v : Value} (hg : g ≠ a.block) (hh : h ≠ a.block) (x : w.cell? ⟨g, 0, none⟩ = some v0 ∧ w.cell? ⟨g, 1, none⟩ = some v1 ∧ w.cell? ⟨g, 2, none⟩ = some v2 ∧ w.cell? ⟨g, 3, none⟩ = some v3 ∧ w.cell? ⟨h, i, none⟩ = some v4) : (w.setCell a v).cell? ⟨g, 0, none⟩ = some v0 ∧ (w.setCell a v).cell? ⟨g, 1, none⟩ = some v1 ∧ (w.setCell a v).cell? ⟨g, 2, none⟩ = some v2 ∧ (w.setCell a v).cell? ⟨g, 3, none⟩ = some v3 ∧ (w.setCell a v).cell? ⟨h, i, none⟩ = some v4 :=
  have k : ∀ {b j : Nat} {u : Value}, b ≠ a.block → w.cell? ⟨b, j, none⟩ = some u → (w.setCell a v).cell? ⟨b, j, none⟩ = some u := fun {b} {j} {u} hb e => (World.cell?_setCell_other _ _ _ _ (by rintro rfl; exact hb rfl)).trans e
  ⟨k hg x.1, k hg x.2.1, k hg x.2.2.1, k hg x.2.2.2.1, k hh x.2.2.2.2⟩
end

abbrev obj4 (a b c d : Int) : Obj := .cells #[.int .u64 a, .int .u64 b, .int .u64 c, .int .u64 d] 42

/-- The five numbers of a round. -/
structure Five (w W : World) (g a b n pp p : Nat) : Prop where
  x1 : Box W g a
  x2 : Box W (g + 1) b
  x3 : Box W (g + 1 + 1) 0
  x4 : Box W (g + 1 + 1 + 1) n
  x5 : Box W pp p
  far : g + 1 + 1 + 1 < pp
  below : Below g w W

theorem five_a {w wr w' : World} {g a b n p : Nat} (X1 : Box wr g a) (X2 : Box wr (g + 1) b) (X3 : Box wr (g + 1 + 1) 0) (X4 : Box wr (g + 1 + 1 + 1) n) (hb : Below g w wr) (hb1 : Below wr.drew.heap.size wr.drew w') :
    Five w (w'.alloc (obj4 (limb p 0) (limb p 1) (limb p 2) (limb p 3))) g a b n w'.heap.size p := by
  have hs : wr.heap.size ≤ w'.heap.size := hb1.size
  have l4 := X4.lt
  exact ⟨(Box.later (w := wr.drew) X1.drew hb1).alloc _, (Box.later (w := wr.drew) X2.drew hb1).alloc _, (Box.later (w := wr.drew) X3.drew hb1).alloc _, (Box.later (w := wr.drew) X4.drew hb1).alloc _, Box.new w' p, by omega,
    (hb.drew.trans (hb1.mono (by show g ≤ wr.heap.size; omega))).alloc (by omega) _⟩

theorem five_b {w wr w' : World} {g a b n p : Nat} (X1 : Box wr g a) (X2 : Box wr (g + 1) b) (X3 : Box wr (g + 1 + 1) 0) (X4 : Box wr (g + 1 + 1 + 1) n) (hb : Below g w wr) (hb1 : Below (wr.alloc (obj4 0 0 0 0)).drew.heap.size (wr.alloc (obj4 0 0 0 0)).drew w') :
    Five w (store4 w' wr.heap.size (limb p 0) (limb p 1) (limb p 2) (limb p 3)) g a b n wr.heap.size p := by
  have l4 := X4.lt
  have hz : (wr.alloc (obj4 0 0 0 0)).drew.heap.size = wr.heap.size + 1 := World.size_alloc wr _
  have Z : Box w' wr.heap.size 0 := Box.later (w := (wr.alloc (obj4 0 0 0 0)).drew) (Box.zero wr).drew hb1
  exact ⟨(Box.later (w := (wr.alloc (obj4 0 0 0 0)).drew) (X1.alloc _).drew hb1).store_other (by omega) _ _ _ _, (Box.later (w := (wr.alloc (obj4 0 0 0 0)).drew) (X2.alloc _).drew hb1).store_other (by omega) _ _ _ _,
    (Box.later (w := (wr.alloc (obj4 0 0 0 0)).drew) (X3.alloc _).drew hb1).store_other (by omega) _ _ _ _, (Box.later (w := (wr.alloc (obj4 0 0 0 0)).drew) (X4.alloc _).drew hb1).store_other (by omega) _ _ _ _,
    Z.stored p, by omega, below_store (((hb.alloc (by omega) _).drew).trans (hb1.mono (by omega))) (by omega) _ _ _ _⟩

theorem five_next {w W w6 : World} {g a b n pp p : Nat} (Z : Five w W g a b n pp p) (hb : Below W.heap.size W w6) :
    Box w6 g a ∧ Box w6 (g + 1) b ∧ Box w6 (g + 1 + 1) 0 ∧ Box w6 (g + 1 + 1 + 1) n ∧ Below g w w6 := by
  have l4 := Z.x4.lt
  exact ⟨Z.x1.later hb, Z.x2.later hb, Z.x3.later hb, Z.x4.later hb, Z.below.trans (hb.mono (by omega))⟩

set_option maxHeartbeats 1000000 in
set_option maxRecDepth 100000 in
theorem hmul_calls (a b : Nat) (w : World) (ha : a < 18446744073709551616 ^ 4) (hb : b < 18446744073709551616 ^ 4) :
    Calls Try.prog 39 #[bigN a, bigN b] w fun e w' => e = .returned (sumV (a * b)) ∧ Below w.heap.size w w' := by
  obtain ⟨f1, f2, f3, f4, f5⟩ := mulW_facts w a b
  have HF1 := Lib.hid f1
  have HF2 := Lib.hid f2
  have HF3 := Lib.hid f3
  have HF4 := Lib.hid f4
  have HF5 := Lib.hid f5
  have HA := Lib.hid ha
  have HB := Lib.hid hb
  have HT := Lib.hid (num_top hb)
  clear f1 f2 f3 f4 f5 ha hb
  go_enter Try.func39, Try.ntmps39
  go_wp2_with fail
  obtain ⟨W, hW⟩ : ∃ W, W = mulW w a b := ⟨_, rfl⟩
  rw [← hW] at HF1 HF2 HF3 HF4 HF5
  unfold mulW row4 at hW
  rw [← hW]
  clear hW
  go_loopw [7] (fun i wr => ∃ k : Nat, i = .int .i64 ((k : Int) - 1) ∧ k ≤ 4 ∧ Box wr w.heap.size a ∧ Box wr (w.heap.size + 1) b ∧ Box wr (w.heap.size + 1 + 1) 0 ∧
      Hid (Box wr (w.heap.size + 1 + 1 + 1) (b / 18446744073709551616 ^ k * a)) ∧ Hid (b / 18446744073709551616 ^ k * a < 18446744073709551616 ^ 4) ∧ Below w.heap.size w wr) (fun i _ => (intOf i + 1).toNat)
  case atStart => exact ⟨4, rfl, by omega, HF1.out, HF2.out, HF3.out, by rw [HT.out, Nat.zero_mul]; exact HF4, by rw [HT.out, Nat.zero_mul]; exact Lib.hid (by decide), HF5.out⟩
  case round =>
    obtain ⟨k, rfl, hk, X1, X2, X3, X4, HL, hb⟩ := hrel
    clear HF1 HF2 HF3 HF4 HF5 HT
    cases k with
    | zero =>
      have e0 : b / 18446744073709551616 ^ 0 * a = a * b := by rw [Nat.pow_zero, Nat.div_one, Nat.mul_comm]
      rw [e0] at X4 HL
      obtain ⟨c0, c1, c2, c3⟩ := (X4.out).cells
      obtain ⟨d0, d1, d2, d3⟩ := X3.cells
      obtain ⟨g0, g1, g2, g3⟩ := X3.free
      have HV := Lib.hid (sumV_lt HL.out)
      clear e0 X1 X2
      generalize he : a * b = n at *
      have HE := Lib.hid he
      clear he
      go_wp2_with fail
      exact bodyPost_ret (v := .tuple #[bigN n, .int .i64 0]) (by simp [results, Try.results39, go_sem, c0, c1, c2, c3, d0, d1, d2, d3]) rfl ⟨by rw [HE.out, HV.out], below_store hb (by omega) _ _ _ _⟩
    | succ k =>
      have e1 : (((k + 1 : Nat) : Int) - 1) = (k : Int) := by omega
      rw [e1]
      clear e1
      have HD := Lib.hid (mul_down a b k)
      have HP := Lib.hid (mul_part a b k)
      have HH := Lib.hid (mul_high (a := a) (b := b) (k := k))
      have H3 := Lib.hid (limb3_zero HL.out)
      have HSh := Lib.hid (limb_shift (b / 18446744073709551616 ^ (k + 1) * a))
      obtain ⟨c0, c1, c2, c3⟩ := (X4.out).cells
      have hs4 := (X4.out).lt
      generalize hn : b / 18446744073709551616 ^ (k + 1) * a = n at *
      clear hn
      by_cases hz : limb n 3 = 0
      · have hn3 := H3.out.1 hz
        have hz' : (limb n 3 != 0) = false := by rw [hz]; rfl
        have hsh : n * 18446744073709551616 < 18446744073709551616 ^ 4 := by
          have : n * 18446744073709551616 < 18446744073709551616 ^ 3 * 18446744073709551616 := Nat.mul_lt_mul_of_pos_right hn3 (by decide)
          rw [← Nat.pow_succ] at this
          exact this
        have hat := X2.at (k := k) (by omega)
        obtain ⟨a0, a1, a2, a3⟩ := X1.cells
        have l1 := X1.lt
        have l2 := X2.lt
        have l3 := X3.lt
        have hk3 : k < 4 := by omega
        have hk4 : (k : Int) < 4 := by omega
        have HDg := Lib.hid (show limb b k = ((b / 18446744073709551616 ^ k % 18446744073709551616 : Nat) : Int) from rfl)
        have hdl : b / 18446744073709551616 ^ k % 18446744073709551616 < 18446744073709551616 := Nat.mod_lt _ (by decide)
        rw [HDg.out] at hat
        generalize b / 18446744073709551616 ^ k % 18446744073709551616 = d at *
        have HR := Lib.hid (fun w => hrow_calls a d w HA.out hdl)
        have hsmm : ∀ w : World, Calls Try.prog 32 #[.agg #[.int .u64 0, .int .u64 (limb n 0), .int .u64 (limb n 1), .int .u64 (limb n 2)], bigN (a * d % 18446744073709551616 ^ 4)] w fun e w' => e = .returned (sumV (n * 18446744073709551616 + a * d % 18446744073709551616 ^ 4)) ∧ Below w.heap.size w w' := by
          intro w
          have := hadd_calls (n * 18446744073709551616) (a * d % 18446744073709551616 ^ 4) w hsh (Nat.mod_lt _ (by decide))
          unfold bigN big at this
          rw [(HSh.out 0).1, (HSh.out 0).2, (HSh.out 1).2, (HSh.out 2).2] at this
          exact this
        have HSm := Lib.hid hsmm
        have HMD := Lib.hid (Nat.div_add_mod (a * d) (18446744073709551616 ^ 4))
        have hpl := Nat.mod_lt (a * d) (show 0 < 18446744073709551616 ^ 4 by decide)
        generalize a * d % 18446744073709551616 ^ 4 = p at *
        generalize a * d / 18446744073709551616 ^ 4 = ov at *
        obtain ⟨OV, hOV⟩ : ∃ OV : Int, (ov : Int) = OV := ⟨_, rfl⟩
        rw [hOV] at HR
        have HOV := Lib.hid hOV
        have HPL := Lib.hid hpl
        clear hsmm hpl hOV
        have e0 := (⟨a0, a1, a2, a3, hat⟩ : wr.cell? ⟨w.heap.size, 0, none⟩ = some (.int .u64 (limb a 0)) ∧ wr.cell? ⟨w.heap.size, 1, none⟩ = some (.int .u64 (limb a 1)) ∧ wr.cell? ⟨w.heap.size, 2, none⟩ = some (.int .u64 (limb a 2)) ∧ wr.cell? ⟨w.heap.size, 3, none⟩ = some (.int .u64 (limb a 3)) ∧ wr.cell? ⟨w.heap.size + 1, k, none⟩ = some (.int .u64 (d : Int)))
        have nA : w.heap.size ≠ wr.heap.size := by omega
        have nB : w.heap.size + 1 ≠ wr.heap.size := by omega
        clear hsh hdl HDg
        go_wp2_with fail
        go_region_held3 (fun w' => w'.cell? ⟨w.heap.size, 0, none⟩ = some (.int .u64 (limb a 0)) ∧ w'.cell? ⟨w.heap.size, 1, none⟩ = some (.int .u64 (limb a 1)) ∧ w'.cell? ⟨w.heap.size, 2, none⟩ = some (.int .u64 (limb a 2)) ∧ w'.cell? ⟨w.heap.size, 3, none⟩ = some (.int .u64 (limb a 3)) ∧ w'.cell? ⟨w.heap.size + 1, k, none⟩ = some (.int .u64 (d : Int)))
          (first
            | (with_reducible exact drew5 e0)
            | (with_reducible exact drew5 (past5 e0))
            | (with_reducible exact q0)
            | (with_reducible exact past5 q0)
            | (with_reducible exact far5 nA nB (far5 nA nB (far5 nA nB (far5 nA nB q0)))))
          (first | (go_at_call 51; refine (HR.out _).mono ?_; rintro e w' ⟨rfl, hb1⟩; have q0 := (by first | (with_reducible exact later5 hb1 (drew5 e0)) | exact later5 hb1 (drew5 (past5 e0))); obtain ⟨hc1, hf1⟩ := bcell hb1; have hz1 : wr.heap.size ≤ w'.heap.size := (by have := hb1.size; simp at this; omega)))
        · have hF := five_a (p := p) X1 X2 X3 X4.out hb hb1
          clear hc1 hf1
          generalize hpw : w'.heap.size = pp at *
          generalize hW5 : w'.alloc (.cells #[.int .u64 (limb p 0), .int .u64 (limb p 1), .int .u64 (limb p 2), .int .u64 (limb p 3)] 42) = W5 at *
          clear hW5 hpw
          obtain ⟨Z1, Z2, Z3, Z4, Z5, hfar, hbz⟩ := hF
          obtain ⟨c0, c1, c2, c3⟩ := Z4.cells
          obtain ⟨p0, p1, p2, p3⟩ := Z5.cells
          obtain ⟨d0, d1, d2, d3⟩ := Z3.cells
          obtain ⟨g0, g1, g2, g3⟩ := Z3.free
          clear hb1 a0 a1 a2 a3 hat q0 e0 hz1 X1 X2 X3 l1 l2 l3 nA nB
          go_wp2_with fail
          by_cases hs : n * 18446744073709551616 + p < 18446744073709551616 ^ 4
          · have HVs := Lib.hid (sumV_lt hs)
            have HSS := Lib.hid hs
            rw [HVs.out] at HSm
            clear hs
            refine (HSm.out _).mono ?_
            rintro e w6 ⟨rfl, hb6⟩
            obtain ⟨hc6, hf6⟩ := bcell hb6
            have hz6 := hb6.size
            have HF2 := Lib.hid (five_next (Z := ⟨Z1, Z2, Z3, Z4, Z5, hfar, hbz⟩) hb6)
            generalize hmm : n * 18446744073709551616 + p = m at *
            have HMM := Lib.hid hmm
            clear hmm c0 c1 c2 c3 p0 p1 p2 p3 d0 d1 d2 d3 g0 g1 g2 g3
            have hz4 := Z4.lt
            have hup : w.heap.size + 1 + 1 + 1 < w6.heap.size := by omega
            have hup2 : w.heap.size + 1 + 1 < w6.heap.size := by omega
            obtain ⟨r0, r1, r2, r3⟩ := (Z4.later hb6).cells
            obtain ⟨s0, s1, s2, s3⟩ := (Z4.later hb6).free
            obtain ⟨q0, q1, q2, q3⟩ := (Z3.later hb6).cells
            obtain ⟨t0, t1, t2, t3⟩ := (Z3.later hb6).free
            clear hc6 hf6
            by_cases ho : ov = 0
            · have ho' : (OV != 0) = false := by rw [← HOV.out, ho]; rfl
              have he : b / 18446744073709551616 ^ k * a = m := by have := HMD.out; rw [ho, Nat.mul_zero, Nat.zero_add] at this; rw [HD.out, ← HMM.out, ← this]
              have HE := Lib.hid he
              clear he ho
              go_wp2_with fail
              obtain ⟨V1, V2, V3, V4, hbw⟩ := HF2.out
              go_roundw
              case rel =>
                refine ⟨k, rfl, by omega, (V1.store_other (by omega) _ _ _ _).alloc _, (V2.store_other (by omega) _ _ _ _).alloc _, (V3.store_other (by omega) _ _ _ _).alloc _, ?_, ?_, (below_store hbw (by omega) _ _ _ _).alloc (by simp [World.setCell]; omega) _⟩
                · rw [HE.out]; exact Lib.hid ((V4.stored m).alloc _)
                · rw [HE.out]; exact HSS
              case measure => simp [intOf]
            · have ho' : (OV != 0) = true := by rw [← HOV.out, bne_iff_ne]; omega
              have hov : 18446744073709551616 ^ 4 ≤ a * b := by
                have h1 := HP.out
                rw [HD.out, ← HMD.out] at h1
                have h2 : 18446744073709551616 ^ 4 * 1 ≤ 18446744073709551616 ^ 4 * ov := Nat.mul_le_mul_left _ (by omega)
                omega
              have HV := Lib.hid (sumV_ge hov)
              clear hov ho
              obtain ⟨V1, V2, V3, V4, hbw⟩ := HF2.out
              clear V1 V2 V3 V4
              go_wp2_with fail
              exact bodyPost_ret (v := .tuple #[big 0 0 0 0, .int .i64 2]) (by simp [results, Try.results39, go_sem, q0, q1, q2, q3, hup2]) rfl ⟨by rw [HV.out], (below_store hbw (by omega) _ _ _ _).alloc (by simp [World.setCell]; omega) _⟩
          · have HVs := Lib.hid (sumV_ge (n := n * 18446744073709551616 + p) (by omega))
            have hov : 18446744073709551616 ^ 4 ≤ a * b := by
              have h1 := HP.out
              have h2 := HMD.out
              rw [HD.out] at h1
              have h3 : p ≤ a * d := by rw [← h2]; exact Nat.le_add_left _ _
              omega
            have HV := Lib.hid (sumV_ge hov)
            rw [HVs.out] at HSm
            clear hs hov
            refine (HSm.out _).mono ?_
            rintro e w6 ⟨rfl, hb6⟩
            have hz6 := hb6.size
            have HF2 := Lib.hid (five_next (Z := ⟨Z1, Z2, Z3, Z4, Z5, hfar, hbz⟩) hb6)
            clear c0 c1 c2 c3 p0 p1 p2 p3 d0 d1 d2 d3 g0 g1 g2 g3
            have hz4 := Z4.lt
            have hup2 : w.heap.size + 1 + 1 < w6.heap.size := by omega
            obtain ⟨q0, q1, q2, q3⟩ := (Z3.later hb6).cells
            obtain ⟨t0, t1, t2, t3⟩ := (Z3.later hb6).free
            obtain ⟨V1, V2, V3, V4, hbw⟩ := HF2.out
            clear V1 V2 V3 V4
            by_cases ho : ov = 0
            · have ho' : (OV != 0) = false := by rw [← HOV.out, ho]; rfl
              clear ho
              go_wp2_with fail
              exact bodyPost_ret (v := .tuple #[big 0 0 0 0, .int .i64 2]) (by simp [results, Try.results39, go_sem, q0, q1, q2, q3, hup2]) rfl ⟨by rw [HV.out], (below_store hbw (by omega) _ _ _ _).alloc (by simp [World.setCell]; omega) _⟩
            · have ho' : (OV != 0) = true := by rw [← HOV.out, bne_iff_ne]; omega
              clear ho
              go_wp2_with fail
              exact bodyPost_ret (v := .tuple #[big 0 0 0 0, .int .i64 2]) (by simp [results, Try.results39, go_sem, q0, q1, q2, q3, hup2]) rfl ⟨by rw [HV.out], (below_store hbw (by omega) _ _ _ _).alloc (by simp [World.setCell]; omega) _⟩
        · have hF := five_b (p := p) X1 X2 X3 X4.out hb hb1
          clear hc1 hf1
          dsimp only [store4] at hF
          generalize hpw : wr.heap.size = pp at *
          generalize hW5 : (((w'.setCell ⟨pp, 0, none⟩ (.int .u64 (limb p 0))).setCell ⟨pp, 1, none⟩ (.int .u64 (limb p 1))).setCell ⟨pp, 2, none⟩ (.int .u64 (limb p 2))).setCell ⟨pp, 3, none⟩ (.int .u64 (limb p 3)) = W5 at *
          clear hW5 hpw
          obtain ⟨Z1, Z2, Z3, Z4, Z5, hfar, hbz⟩ := hF
          obtain ⟨c0, c1, c2, c3⟩ := Z4.cells
          obtain ⟨p0, p1, p2, p3⟩ := Z5.cells
          obtain ⟨d0, d1, d2, d3⟩ := Z3.cells
          obtain ⟨g0, g1, g2, g3⟩ := Z3.free
          clear hb1 a0 a1 a2 a3 hat q0 e0 hz1 X1 X2 X3 l1 l2 l3 nA nB
          go_wp2_with fail
          by_cases hs : n * 18446744073709551616 + p < 18446744073709551616 ^ 4
          · have HVs := Lib.hid (sumV_lt hs)
            have HSS := Lib.hid hs
            rw [HVs.out] at HSm
            clear hs
            refine (HSm.out _).mono ?_
            rintro e w6 ⟨rfl, hb6⟩
            obtain ⟨hc6, hf6⟩ := bcell hb6
            have hz6 := hb6.size
            have HF2 := Lib.hid (five_next (Z := ⟨Z1, Z2, Z3, Z4, Z5, hfar, hbz⟩) hb6)
            generalize hmm : n * 18446744073709551616 + p = m at *
            have HMM := Lib.hid hmm
            clear hmm c0 c1 c2 c3 p0 p1 p2 p3 d0 d1 d2 d3 g0 g1 g2 g3
            have hz4 := Z4.lt
            have hup : w.heap.size + 1 + 1 + 1 < w6.heap.size := by omega
            have hup2 : w.heap.size + 1 + 1 < w6.heap.size := by omega
            obtain ⟨r0, r1, r2, r3⟩ := (Z4.later hb6).cells
            obtain ⟨s0, s1, s2, s3⟩ := (Z4.later hb6).free
            obtain ⟨q0, q1, q2, q3⟩ := (Z3.later hb6).cells
            obtain ⟨t0, t1, t2, t3⟩ := (Z3.later hb6).free
            clear hc6 hf6
            by_cases ho : ov = 0
            · have ho' : (OV != 0) = false := by rw [← HOV.out, ho]; rfl
              have he : b / 18446744073709551616 ^ k * a = m := by have := HMD.out; rw [ho, Nat.mul_zero, Nat.zero_add] at this; rw [HD.out, ← HMM.out, ← this]
              have HE := Lib.hid he
              clear he ho
              go_wp2_with fail
              obtain ⟨V1, V2, V3, V4, hbw⟩ := HF2.out
              go_roundw
              case rel =>
                refine ⟨k, rfl, by omega, (V1.store_other (by omega) _ _ _ _).alloc _, (V2.store_other (by omega) _ _ _ _).alloc _, (V3.store_other (by omega) _ _ _ _).alloc _, ?_, ?_, (below_store hbw (by omega) _ _ _ _).alloc (by simp [World.setCell]; omega) _⟩
                · rw [HE.out]; exact Lib.hid ((V4.stored m).alloc _)
                · rw [HE.out]; exact HSS
              case measure => simp [intOf]
            · have ho' : (OV != 0) = true := by rw [← HOV.out, bne_iff_ne]; omega
              have hov : 18446744073709551616 ^ 4 ≤ a * b := by
                have h1 := HP.out
                rw [HD.out, ← HMD.out] at h1
                have h2 : 18446744073709551616 ^ 4 * 1 ≤ 18446744073709551616 ^ 4 * ov := Nat.mul_le_mul_left _ (by omega)
                omega
              have HV := Lib.hid (sumV_ge hov)
              clear hov ho
              obtain ⟨V1, V2, V3, V4, hbw⟩ := HF2.out
              clear V1 V2 V3 V4
              go_wp2_with fail
              exact bodyPost_ret (v := .tuple #[big 0 0 0 0, .int .i64 2]) (by simp [results, Try.results39, go_sem, q0, q1, q2, q3, hup2]) rfl ⟨by rw [HV.out], (below_store hbw (by omega) _ _ _ _).alloc (by simp [World.setCell]; omega) _⟩
          · have HVs := Lib.hid (sumV_ge (n := n * 18446744073709551616 + p) (by omega))
            have hov : 18446744073709551616 ^ 4 ≤ a * b := by
              have h1 := HP.out
              have h2 := HMD.out
              rw [HD.out] at h1
              have h3 : p ≤ a * d := by rw [← h2]; exact Nat.le_add_left _ _
              omega
            have HV := Lib.hid (sumV_ge hov)
            rw [HVs.out] at HSm
            clear hs hov
            refine (HSm.out _).mono ?_
            rintro e w6 ⟨rfl, hb6⟩
            have hz6 := hb6.size
            have HF2 := Lib.hid (five_next (Z := ⟨Z1, Z2, Z3, Z4, Z5, hfar, hbz⟩) hb6)
            clear c0 c1 c2 c3 p0 p1 p2 p3 d0 d1 d2 d3 g0 g1 g2 g3
            have hz4 := Z4.lt
            have hup2 : w.heap.size + 1 + 1 < w6.heap.size := by omega
            obtain ⟨q0, q1, q2, q3⟩ := (Z3.later hb6).cells
            obtain ⟨t0, t1, t2, t3⟩ := (Z3.later hb6).free
            obtain ⟨V1, V2, V3, V4, hbw⟩ := HF2.out
            clear V1 V2 V3 V4
            by_cases ho : ov = 0
            · have ho' : (OV != 0) = false := by rw [← HOV.out, ho]; rfl
              clear ho
              go_wp2_with fail
              exact bodyPost_ret (v := .tuple #[big 0 0 0 0, .int .i64 2]) (by simp [results, Try.results39, go_sem, q0, q1, q2, q3, hup2]) rfl ⟨by rw [HV.out], (below_store hbw (by omega) _ _ _ _).alloc (by simp [World.setCell]; omega) _⟩
            · have ho' : (OV != 0) = true := by rw [← HOV.out, bne_iff_ne]; omega
              clear ho
              go_wp2_with fail
              exact bodyPost_ret (v := .tuple #[big 0 0 0 0, .int .i64 2]) (by simp [results, Try.results39, go_sem, q0, q1, q2, q3, hup2]) rfl ⟨by rw [HV.out], (below_store hbw (by omega) _ _ _ _).alloc (by simp [World.setCell]; omega) _⟩
      · have hz' : (limb n 3 != 0) = true := bne_iff_ne.2 hz
        have hov : 18446744073709551616 ^ 4 ≤ a * b := HH.out (by
          by_cases h : n < 18446744073709551616 ^ 3
          · exact absurd (H3.out.2 h) hz
          · omega)
        have HV := Lib.hid (sumV_ge hov)
        obtain ⟨d0, d1, d2, d3⟩ := X3.cells
        obtain ⟨g0, g1, g2, g3⟩ := X3.free
        clear hz hov HH HP HD H3
        go_wp2_with fail
        exact bodyPost_ret (v := .tuple #[big 0 0 0 0, .int .i64 2]) (by simp [results, Try.results39, go_sem, c0, c1, c2, c3, d0, d1, d2, d3]) rfl ⟨by rw [HV.out], below_store hb (by omega) _ _ _ _⟩
end Go.Proofs.Ytoljemjnhomomaa
