/- huge.row: a number times a limb; huge.Mul: a product; huge.Short: a quotient by a limb. -/
import Derived.Test.YtoljemjnhomomaaBox
import Derived.Test.YtoljemjnhomomaaRef4
namespace Go.Proofs.Ytoljemjnhomomaa
open Go.RowKit
set_option linter.unusedVariables false
set_option linter.unusedSimpArgs false

theorem row_math {a y k U ov x : Nat} (hU : U = (a % 18446744073709551616 ^ k * y) % 18446744073709551616 ^ k) (hov : ov = (a % 18446744073709551616 ^ k * y) / 18446744073709551616 ^ k) (hx : x = a / 18446744073709551616 ^ k % 18446744073709551616) :
    U + (x * y + ov) % 18446744073709551616 * 18446744073709551616 ^ k = (a % 18446744073709551616 ^ (k + 1) * y) % 18446744073709551616 ^ (k + 1) ∧
    (x * y + ov) / 18446744073709551616 = (a % 18446744073709551616 ^ (k + 1) * y) / 18446744073709551616 ^ (k + 1) := by
  have hp : 0 < 18446744073709551616 ^ k := Nat.pow_pos (by decide)
  have em : a % 18446744073709551616 ^ (k + 1) = a % 18446744073709551616 ^ k + 18446744073709551616 ^ k * x := by rw [Nat.pow_succ, Nat.mod_mul, ← hx]
  rw [em, Nat.pow_succ]
  clear em
  generalize 18446744073709551616 ^ k = p at *
  have e := Nat.div_add_mod (a % p * y) p
  rw [← hU, ← hov] at e
  have hUp : U < p := by rw [hU]; exact Nat.mod_lt _ hp
  have key : (a % p + p * x) * y = U + p * (x * y + ov) := by
    rw [Nat.add_mul, ← e, Nat.mul_add, Nat.mul_assoc]
    omega
  rw [key]
  have m := Nat.div_add_mod (x * y + ov) 18446744073709551616
  generalize x * y + ov = t at *
  constructor
  · rw [Nat.mod_mul, Nat.add_mul_mod_self_left, Nat.mod_eq_of_lt hUp, Nat.add_mul_div_left _ _ hp, Nat.div_eq_of_lt hUp, Nat.zero_add, Nat.mul_comm p]
  · rw [← Nat.div_div_eq_div_mul, Nat.add_mul_div_left _ _ hp, Nat.div_eq_of_lt hUp, Nat.zero_add]

theorem row_ov {a y k : Nat} (hy : y < 18446744073709551616) : (a % 18446744073709551616 ^ k * y) / 18446744073709551616 ^ k < 18446744073709551616 := by
  have hp : 0 < 18446744073709551616 ^ k := Nat.pow_pos (by decide)
  apply Nat.div_lt_of_lt_mul
  have h1 := Nat.mod_lt a hp
  have h2 : a % 18446744073709551616 ^ k * y ≤ 18446744073709551616 ^ k * y := Nat.mul_le_mul_right _ (Nat.le_of_lt h1)
  have h3 : 18446744073709551616 ^ k * y < 18446744073709551616 ^ k * 18446744073709551616 := Nat.mul_lt_mul_of_pos_left hy hp
  omega

set_option maxHeartbeats 2000000 in
set_option maxRecDepth 100000 in
theorem hrow_calls (a y : Nat) (w : World) (ha : a < 18446744073709551616 ^ 4) (hy : y < 18446744073709551616) :
    Calls Try.prog 51 #[bigN a, .int .u64 (y : Int)] w fun e w' => e = .returned (.tuple #[bigN (a * y % 18446744073709551616 ^ 4), .int .u64 ((a * y / 18446744073709551616 ^ 4 : Nat) : Int)]) ∧ Below w.heap.size w w' := by
  have HX := Lib.hid (idx_big a)
  have HA := Lib.hid ha
  have HY := Lib.hid hy
  have B0 := (Box.new w a)
  have B1 := Box.zero (w.alloc (.cells #[.int .u64 (limb a 0), .int .u64 (limb a 1), .int .u64 (limb a 2), .int .u64 (limb a 3)] 42))
  rw [World.size_alloc] at B1
  have HBl : Hid (Below w.heap.size w ((w.alloc (.cells #[.int .u64 (limb a 0), .int .u64 (limb a 1), .int .u64 (limb a 2), .int .u64 (limb a 3)] 42)).alloc (.cells #[.int .u64 0, .int .u64 0, .int .u64 0, .int .u64 0] 42))) :=
    Lib.hid (((Below.refl _ _).alloc (Nat.le_refl _) _).alloc (by simp) _)
  have HB1 := Lib.hid B1
  clear B0 B1 ha hy
  obtain ⟨Y, hY⟩ : ∃ Y : Int, (y : Int) = Y := ⟨_, rfl⟩
  rw [hY]
  have HYe := Lib.hid hY
  clear hY
  go_enter Try.func51, Try.ntmps51
  go_wp2_with fail
  generalize hW : (w.alloc (.cells #[.int .u64 (limb a 0), .int .u64 (limb a 1), .int .u64 (limb a 2), .int .u64 (limb a 3)] 42)).alloc (.cells #[.int .u64 0, .int .u64 0, .int .u64 0, .int .u64 0] 42) = W at *
  clear hW
  go_loopw [5, 13] (fun ov i wr => ∃ (k : Nat) (o : Int), i = .int .i64 k ∧ k ≤ 4 ∧ ov = .int .u64 o ∧ Hid (o = (((a % 18446744073709551616 ^ k * y) / 18446744073709551616 ^ k : Nat) : Int)) ∧
      Hid (Box wr (w.heap.size + 1) ((a % 18446744073709551616 ^ k * y) % 18446744073709551616 ^ k)) ∧ Below w.heap.size w wr) (fun _ i _ => 4 - (intOf i).toNat)
  case atStart => exact ⟨0, 0, rfl, by omega, rfl, Lib.hid (by simp [Nat.mod_one]), by simp only [Nat.pow_zero, Nat.mod_one, Nat.zero_mul, Nat.zero_mod]; exact HB1, HBl.out⟩
  case round =>
    obtain ⟨k, o, rfl, hk, rfl, HO, HB, hb⟩ := hrel
    clear HB1 HBl
    by_cases hk4 : k < 4
    · have hk4' : (k : Int) < 4 := by omega
      have hidx := HX.out k hk4
      obtain ⟨x, hx⟩ : ∃ x : Int, limb a k = x := ⟨_, rfl⟩
      rw [hx] at hidx
      have x0 : 0 ≤ x := by rw [← hx]; exact limb_nonneg a k
      have x1 : x < 18446744073709551616 := by rw [← hx]; exact limb_lt a k
      have y0 : 0 ≤ Y := by rw [← HYe.out]; omega
      have y1 : Y < 18446744073709551616 := by rw [← HYe.out]; have := HY.out; omega
      have o0 : 0 ≤ o := by rw [HO.out]; exact Int.natCast_nonneg _
      have o1 : o < 18446744073709551616 := by rw [HO.out]; exact Int.ofNat_lt.2 (row_ov (a := a) (k := k) HY.out)
      have hm := row_math (a := a) (y := y) (k := k) rfl rfl rfl
      have hxx : x = ((a / 18446744073709551616 ^ k % 18446744073709551616 : Nat) : Int) := hx.symm
      have xy0 : 0 ≤ x * Y := Int.mul_nonneg x0 y0
      have hov := row_ov (a := a) (k := k + 1) HY.out
      have ht : ((a / 18446744073709551616 ^ k % 18446744073709551616 * y + (a % 18446744073709551616 ^ k * y) / 18446744073709551616 ^ k : Nat) : Int) = x * Y + o := by
        rw [HO.out, hxx, ← HYe.out, Int.natCast_add, Int.natCast_mul]
      have HM := Lib.hid (lmul_calls x Y)
      generalize x * Y = P at *
      have lo0 : 0 ≤ P % 18446744073709551616 := by omega
      have lo1 : P % 18446744073709551616 < 18446744073709551616 := by omega
      have hS : addS (P % 18446744073709551616) o 0 = (P + o) % 18446744073709551616 := by unfold addS; rw [cin_zero]; omega
      have hO : P / 18446744073709551616 + addO (P % 18446744073709551616) o 0 = (P + o) / 18446744073709551616 := by unfold addO; rw [cin_zero]; omega
      have hO2 : 0 ≤ addO (P % 18446744073709551616) o 0 := by unfold addO; rw [cin_zero]; omega
      have hT : (P + o) / 18446744073709551616 < 18446744073709551616 := by
        rw [← ht]
        have := hm.2
        omega
      have hi0 : 0 ≤ P / 18446744073709551616 := by omega
      have hhi : P / 18446744073709551616 + addO (P % 18446744073709551616) o 0 < 18446744073709551616 := by omega
      have HA2 := Lib.hid (ladd_calls (P % 18446744073709551616) o 0)
      rw [hS] at HA2
      have HNO := Lib.hid (show (P + o) / 18446744073709551616 = (((a % 18446744073709551616 ^ (k + 1) * y) / 18446744073709551616 ^ (k + 1) : Nat) : Int) by rw [← ht, ← hm.2]; omega)
      have HNS := Lib.hid (show (P + o) % 18446744073709551616 = (((a / 18446744073709551616 ^ k % 18446744073709551616 * y + (a % 18446744073709551616 ^ k * y) / 18446744073709551616 ^ k) % 18446744073709551616 : Nat) : Int) by rw [← ht]; omega)
      have HM1 := Lib.hid hm.1
      have HOO := Lib.hid hO
      have hfree := (HB.out).freeAt k
      have hat := (HB.out).at hk4
      obtain ⟨z, hz⟩ : ∃ z, limb ((a % 18446744073709551616 ^ k * y) % 18446744073709551616 ^ k) k = z := ⟨_, rfl⟩
      rw [hz] at hat
      clear hz hm ht hxx hx hS hO hov
      generalize addO (P % 18446744073709551616) o 0 = c at *
      generalize hh : P / 18446744073709551616 = hi at *
      generalize hl : P % 18446744073709551616 = lo at *
      clear hh hl
      go_wp2_with fail
      refine (HM.out _ x0 x1 y0 y1).mono ?_
      rintro e w1 ⟨rfl, n1, rfl⟩
      go_wp2_with fail
      refine (HA2.out _ lo0 lo1 o0 o1).mono ?_
      rintro e w1 ⟨rfl, rfl⟩
      go_wp2_with fail
      go_roundw
      case rel =>
        refine ⟨k + 1, hi + c, by go_num, by omega, rfl, Lib.hid (HOO.out.trans HNO.out), ?_, (below_drewN hb _).setCell (show w.heap.size ≤ w.heap.size + 1 by omega) _⟩
        rw [← HM1.out]
        exact Lib.hid (((HB.out).drewN n1).limb (Nat.mod_lt _ (Nat.pow_pos (by decide))) (Nat.mod_lt _ (by decide)) HNS.out)
      case measure => simp [intOf]; omega
    · have hk5 : k = 4 := by omega
      subst hk5
      have e1 : a % 18446744073709551616 ^ 4 = a := Nat.mod_eq_of_lt HA.out
      rw [e1] at HB HO
      have HO2 := HO
      clear e1 HX
      obtain ⟨c0, c1, c2, c3⟩ := (HB.out).cells
      obtain ⟨f0, f1, f2, f3⟩ := (HB.out).free
      generalize hq : a * y % 18446744073709551616 ^ 4 = q at *
      generalize hq2 : a * y / 18446744073709551616 ^ 4 = q2 at *
      have HQ := Lib.hid hq
      have HQ2 := Lib.hid hq2
      clear hq hq2
      go_wp2_with fail
      rw [HO2.out]
      exact bodyPost_ret (v := .tuple #[bigN q, .int .u64 (q2 : Int)]) (by simp [results, Try.results51, go_sem, c0, c1, c2, c3]) rfl ⟨by rw [HQ.out, HQ2.out], below_store hb (by omega) _ _ _ _⟩
end Go.Proofs.Ytoljemjnhomomaa
