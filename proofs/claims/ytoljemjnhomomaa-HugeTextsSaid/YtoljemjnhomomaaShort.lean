/- huge.Short: a number by a limb. -/
import Derived.Test.YtoljemjnhomomaaLaw2
namespace Go.Proofs.Ytoljemjnhomomaa
open Go.RowKit Go.Lib
set_option linter.unusedVariables false
set_option linter.unusedSimpArgs false

/-- A quotient of which the limbs from the k-th on are there. -/
def scell (q k j : Nat) : Value := .int .u64 (if j < k then 0 else limb q j)

theorem short_dig (a y k : Nat) (hy : 0 < y) : (a / 18446744073709551616 ^ (k + 1) % y * 18446744073709551616 + a / 18446744073709551616 ^ k % 18446744073709551616) / y = a / y / 18446744073709551616 ^ k % 18446744073709551616 ∧
    (a / 18446744073709551616 ^ (k + 1) % y * 18446744073709551616 + a / 18446744073709551616 ^ k % 18446744073709551616) % y = a / 18446744073709551616 ^ k % y := by
  rw [Nat.div_div_eq_div_mul a y, Nat.mul_comm y, ← Nat.div_div_eq_div_mul, Nat.pow_succ, ← Nat.div_div_eq_div_mul]
  generalize a / 18446744073709551616 ^ k = m
  have h1 := Nat.div_add_mod m 18446744073709551616
  have h2 := Nat.div_add_mod (m / 18446744073709551616) y
  have h3 := Nat.mod_lt m (show 0 < 18446744073709551616 by decide)
  have h4 := Nat.mod_lt (m / 18446744073709551616) hy
  generalize m / 18446744073709551616 % y = r at *
  generalize m / 18446744073709551616 / y = Q at *
  generalize m / 18446744073709551616 = A at *
  generalize m % 18446744073709551616 = d at *
  have h5 : m = y * (Q * 18446744073709551616) + (r * 18446744073709551616 + d) := by
    rw [← h1, ← h2, Nat.mul_add, Nat.mul_comm 18446744073709551616 (y * Q), Nat.mul_assoc]
    omega
  have h6 : (r * 18446744073709551616 + d) / y < 18446744073709551616 := by
    rw [Nat.div_lt_iff_lt_mul hy]
    have h7 : (r + 1) * 18446744073709551616 ≤ y * 18446744073709551616 := Nat.mul_le_mul_right _ h4
    rw [Nat.mul_comm 18446744073709551616 y]
    omega
  rw [h5, Nat.mul_add_div hy, Nat.mul_add_mod]
  generalize (r * 18446744073709551616 + d) / y = q at *
  constructor
  · omega
  · rfl
theorem sc_start {w : World} {g q : Nat} (h : Box w g 0) : w.rowIs g 42 4 (scell q 4) := h.congr fun j hj => by
  unfold scell lim
  rw [if_pos hj, limb_zero]
theorem sc_box {w : World} {g q : Nat} (h : w.rowIs g 42 4 (scell q 0)) : Box w g q := h.congr fun j hj => by
  unfold scell lim
  rw [if_neg (by omega)]
theorem sc_set {w : World} {g q k : Nat} (h : w.rowIs g 42 4 (scell q (k + 1))) : (w.setCell ⟨g, k, none⟩ (.int .u64 (limb q k))).rowIs g 42 4 (scell q k) :=
  (h.set k _).congr fun j _ => by
    by_cases hj : j = k
    · subst hj; simp [scell]
    · by_cases h2 : j < k
      · simp [scell, hj, h2, show j < k + 1 by omega]
      · simp [scell, hj, h2, show ¬ j < k + 1 by omega]

set_option maxHeartbeats 1000000 in
set_option maxRecDepth 100000 in
theorem short_zero (a : Nat) (w : World) :
    Calls Try.prog 40 #[bigN a, .int .u64 0] w fun e w' => e = .returned (.tuple #[bigN 0, .int .u64 0, .int .i64 3]) ∧ Below w.heap.size w w' := by
  have HZ := Lib.hid bigN_zero
  have T0 := Box.zero (w.alloc (row4 (limb a)))
  rw [World.size_alloc] at T0
  have Q0 : Below w.heap.size w ((w.alloc (row4 (limb a))).alloc (obj4 0 0 0 0)) := ((Below.refl _ _).alloc (Nat.le_refl _) _).alloc (by simp) _
  go_enter Try.func40, Try.ntmps40
  go_wp2_with fail
  exact bodyPost_ret (v := .tuple #[big 0 0 0 0, .int .u64 0, .int .i64 3]) (by simp [results, Try.results40, go_sem]) rfl ⟨by rw [HZ.out], Q0⟩

set_option maxHeartbeats 1000000 in
set_option maxRecDepth 100000 in
theorem short_calls (a y : Nat) (w : World) (hy : 0 < y) (hy1 : y < 18446744073709551616) (ha : a < 18446744073709551616 ^ 4) :
    Calls Try.prog 40 #[bigN a, .int .u64 (y : Int)] w fun e w' => e = .returned (.tuple #[bigN (a / y), .int .u64 ((a % y : Nat) : Int), .int .i64 0]) ∧ Below w.heap.size w w' := by
  have B1 : Box ((w.alloc (row4 (limb a))).alloc (obj4 0 0 0 0)) w.heap.size a := (Box.new w a).alloc _
  have T0 := Box.zero (w.alloc (row4 (limb a)))
  rw [World.size_alloc] at T0
  have Q0 : Below w.heap.size w ((w.alloc (row4 (limb a))).alloc (obj4 0 0 0 0)) := ((Below.refl _ _).alloc (Nat.le_refl _) _).alloc (by simp) _
  have HY := Lib.hid (And.intro hy hy1)
  have HA := Lib.hid ha
  obtain ⟨Y, hY⟩ : ∃ Y : Int, (y : Int) = Y := ⟨_, rfl⟩
  rw [hY]
  have Y0 : 0 < Y := by omega
  have Y1 : Y < 18446744073709551616 := by omega
  have HYe := Lib.hid hY
  have hYb : (Y == 0) = false := by rw [beq_eq_false_iff_ne]; omega
  clear hY hy hy1 ha
  go_enter Try.func40, Try.ntmps40
  go_wp2_with fail
  obtain ⟨W, hW⟩ : ∃ W, (w.alloc (row4 (limb a))).alloc (obj4 0 0 0 0) = W := ⟨_, rfl⟩
  dsimp only [row4, obj4] at hW
  rw [hW]
  dsimp only [row4, obj4] at B1 T0 Q0
  rw [hW] at B1 T0 Q0
  clear hW
  go_loopw [5, 7] (fun r i wr => ∃ k : Nat, i = .int .i64 ((k : Int) - 1) ∧ k ≤ 4 ∧ r = .int .u64 ((a / 18446744073709551616 ^ k % y : Nat) : Int) ∧ Box wr w.heap.size a ∧ wr.rowIs (w.heap.size + 1) 42 4 (scell (a / y) k) ∧ Below w.heap.size w wr) (fun _ i _ => (intOf i + 1).toNat)
  case atStart => exact ⟨4, rfl, by omega, by rw [Nat.div_eq_of_lt HA.out, Nat.zero_mod]; rfl, B1, sc_start T0, Q0⟩
  case round =>
    obtain ⟨k, rfl, hk, rfl, X, hrow, hb⟩ := hrel
    clear B1 T0 Q0
    cases k with
    | zero =>
      have e0 : a / 18446744073709551616 ^ 0 % y = a % y := by rw [Nat.pow_zero, Nat.div_one]
      rw [e0]
      have Z := sc_box hrow
      obtain ⟨c0, c1, c2, c3⟩ := Z.cells
      obtain ⟨d0, d1, d2, d3⟩ := Z.free
      have lt := Z.lt
      clear e0 hrow
      have HE := Lib.hid (show (bigN (a / y), a % y) = (bigN (a / y), a % y) from rfl)
      generalize hm : a % y = m at *
      generalize hn : a / y = n at *
      have HM := Lib.hid hm
      have HN := Lib.hid hn
      clear hm hn HE
      go_wp2_with fail
      exact bodyPost_ret (v := .tuple #[bigN n, .int .u64 (m : Int), .int .i64 0]) (by simp [results, Try.results40, go_sem, c0, c1, c2, c3, lt]) rfl ⟨by rw [HM.out, HN.out], below_store hb (by omega) _ _ _ _⟩
    | succ k =>
      have e1 : (((k + 1 : Nat) : Int) - 1) = (k : Int) := by omega
      rw [e1]
      clear e1
      obtain ⟨s1, s2⟩ := short_dig a y k HY.out.1
      have hk4 : k < 4 := by omega
      have hk4' : (k : Int) < 4 := by omega
      have hat := X.at hk4
      have hc := hrow.cell hk4
      have hfr := hrow.frozen k
      have lx := X.lt
      obtain ⟨z, hz⟩ : ∃ z, scell (a / y) (k + 1) k = .int .u64 z := ⟨_, rfl⟩
      rw [hz] at hc
      have hr := Nat.mod_lt (a / 18446744073709551616 ^ (k + 1)) HY.out.1
      have hd : limb a k = ((a / 18446744073709551616 ^ k % 18446744073709551616 : Nat) : Int) := rfl
      have hq : limb (a / y) k = ((a / y / 18446744073709551616 ^ k % 18446744073709551616 : Nat) : Int) := rfl
      have hdl := limb_bd a k
      have HS := Lib.hid (sc_set hrow)
      rw [hq, ← s1] at HS
      rw [hd] at hat
      generalize a / 18446744073709551616 ^ (k + 1) % y = r at *
      generalize a / 18446744073709551616 ^ k % 18446744073709551616 = d at *
      obtain ⟨R, hR⟩ : ∃ R : Int, (r : Int) = R := ⟨_, rfl⟩
      obtain ⟨D, hD⟩ : ∃ D : Int, (d : Int) = D := ⟨_, rfl⟩
      have hRY : R < Y := by rw [← hR, ← HYe.out]; omega
      have hR0 : 0 ≤ R := by omega
      rw [hd, hD] at hdl
      have HDv := Lib.hid (fun w => div_calls R D Y w hR0 hRY hdl.1 hdl.2 Y1)
      have E1 : (R * 18446744073709551616 + D) / Y = (((r * 18446744073709551616 + d) / y : Nat) : Int) := by rw [← hR, ← hD, ← HYe.out]; rfl
      have E2 : (R * 18446744073709551616 + D) % Y = (((r * 18446744073709551616 + d) % y : Nat) : Int) := by rw [← hR, ← hD, ← HYe.out]; rfl
      rw [E1, E2, s2] at HDv
      clear hz s1 s2 hr hq E1 E2 hrow
      rw [hD] at hat
      rw [hR]
      generalize (r * 18446744073709551616 + d) / y = qd at *
      clear hd
      go_wp2_with fail
      refine (HDv.out _).mono ?_
      rintro e w' ⟨rfl, n, rfl⟩
      go_wp2_with fail
      go_roundw
      case rel => exact ⟨k, rfl, by omega, rfl, (X.other (by simp) _).drewN n, HS.out, (below_drewN (hb.setCell (by simp) _) n)⟩
      case measure => simp [intOf]
end Go.Proofs.Ytoljemjnhomomaa
