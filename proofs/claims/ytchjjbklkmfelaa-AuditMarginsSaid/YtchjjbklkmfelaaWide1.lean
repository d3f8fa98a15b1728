/- wide.mulAdd: a limb times a number is added to the limbs of another one, from a place on. -/
import Derived.Test.YtchjjbklkmfelaaAud1
namespace Go.Proofs.Ytchjjbklkmfelaa
open Go.RowKit Go.Lib Go.Deep
set_option linter.unusedVariables false
set_option linter.unusedSimpArgs false

theorem limb_plus_below (N t : Nat) {j m : Nat} (h : j < m) : limb (N + t * 18446744073709551616 ^ m) j = limb N j := by
  unfold limb
  congr 1
  have e : 18446744073709551616 ^ m = 18446744073709551616 ^ j * (18446744073709551616 * 18446744073709551616 ^ (m - j - 1)) := by
    rw [← Nat.pow_succ', ← Nat.pow_add]
    congr 1
    omega
  have hp : 0 < 18446744073709551616 ^ j := Nat.pow_pos (by decide)
  rw [e, show t * (18446744073709551616 ^ j * (18446744073709551616 * 18446744073709551616 ^ (m - j - 1))) = 18446744073709551616 ^ j * (18446744073709551616 * (t * 18446744073709551616 ^ (m - j - 1))) by
    rw [← Nat.mul_assoc, Nat.mul_comm t, Nat.mul_assoc, ← Nat.mul_assoc t, Nat.mul_comm t, Nat.mul_assoc], Nat.add_mul_div_left _ _ hp, Nat.add_mul_mod_self_left]

theorem wmul_step {n N ov t m : Nat} (h : N / 18446744073709551616 ^ m = n / 18446744073709551616 ^ m + ov) :
    (N + t * 18446744073709551616 ^ m) / 18446744073709551616 ^ m % 18446744073709551616 = (n / 18446744073709551616 ^ m % 18446744073709551616 + (t + ov)) % 18446744073709551616 ∧
    (N + t * 18446744073709551616 ^ m) / 18446744073709551616 ^ (m + 1) = n / 18446744073709551616 ^ (m + 1) + (n / 18446744073709551616 ^ m % 18446744073709551616 + (t + ov)) / 18446744073709551616 := by
  have hp : 0 < 18446744073709551616 ^ m := Nat.pow_pos (by decide)
  have e : (N + t * 18446744073709551616 ^ m) / 18446744073709551616 ^ m = n / 18446744073709551616 ^ m + ov + t := by rw [Nat.add_mul_div_right _ _ hp, h]
  rw [Nat.pow_succ, ← Nat.div_div_eq_div_mul, ← Nat.div_div_eq_div_mul, e]
  generalize n / 18446744073709551616 ^ m = Q at *
  omega

/-- The limbs when those below m are the sum's, and the others are as they were. -/
def partL (n N m : Nat) (j : Nat) : Value := .int .u64 (if j < m then limb N j else limb n j)
theorem wmul_ov {a y k i n : Nat} (hy : y < 18446744073709551616) :
    (n + a % 18446744073709551616 ^ k * y * 18446744073709551616 ^ i) / 18446744073709551616 ^ (i + k) - n / 18446744073709551616 ^ (i + k) ≤ 18446744073709551615 := by
  have hp : 0 < 18446744073709551616 ^ (i + k) := Nat.pow_pos (by decide)
  have h1 : a % 18446744073709551616 ^ k * y * 18446744073709551616 ^ i ≤ 18446744073709551615 * 18446744073709551616 ^ (i + k) := by
    have e : 18446744073709551615 * 18446744073709551616 ^ (i + k) = (18446744073709551616 ^ k * 18446744073709551615) * 18446744073709551616 ^ i := by
      rw [Nat.pow_add, Nat.mul_comm (18446744073709551616 ^ i), ← Nat.mul_assoc, Nat.mul_comm 18446744073709551615]
    rw [e]
    exact Nat.mul_le_mul_right _ (Nat.mul_le_mul (Nat.le_of_lt (Nat.mod_lt _ (Nat.pow_pos (by decide)))) (by omega))
  have h2 : (n + a % 18446744073709551616 ^ k * y * 18446744073709551616 ^ i) / 18446744073709551616 ^ (i + k) ≤ (n + 18446744073709551615 * 18446744073709551616 ^ (i + k)) / 18446744073709551616 ^ (i + k) := Nat.div_le_div_right (by omega)
  rw [Nat.add_mul_div_right _ _ hp] at h2
  omega

theorem limb_none {n m j : Nat} (h : n < 18446744073709551616 ^ m) (hj : m ≤ j) : limb n j = 0 := by
  have := Nat.pow_le_pow_right (n := 18446744073709551616) (by decide) hj
  unfold limb
  rw [Nat.div_eq_of_lt (by omega)]
  rfl
theorem wmul_next (a y k i n : Nat) : n + a % 18446744073709551616 ^ (k + 1) * y * 18446744073709551616 ^ i = (n + a % 18446744073709551616 ^ k * y * 18446744073709551616 ^ i) + (a / 18446744073709551616 ^ k % 18446744073709551616 * y) * 18446744073709551616 ^ (i + k) := by
  rw [Nat.pow_succ, Nat.mod_mul, Nat.pow_add]
  generalize a % 18446744073709551616 ^ k = A
  generalize a / 18446744073709551616 ^ k % 18446744073709551616 = x
  generalize 18446744073709551616 ^ k = p
  generalize 18446744073709551616 ^ i = q
  rw [Nat.add_mul, Nat.add_mul, Nat.add_assoc]
  congr 2
  ac_rfl

set_option maxHeartbeats 2000000 in
set_option maxRecDepth 100000 in
theorem mulAdd_calls {t : TypeId} {M : Nat} (a y n i g L : Nat) (w : World) (ha : a < 18446744073709551616 ^ 4) (hy : y < 18446744073709551616) (hi : i + 5 ≤ M) (hL : 5 ≤ L) (hLm : L ≤ 1000) (him : i ≤ 1000)
    (hn : n < 18446744073709551616 ^ (i + 4)) (h : w.rowIs g t M (lim (limb n))) :
    Calls Try.prog 86 #[.slice (some ⟨g, i, none⟩) L L, bigN a, .int .u64 (y : Int)] w fun e w' => e = .returned (.tuple #[]) ∧ w'.rowIs g t M (lim (limb (n + a * y * 18446744073709551616 ^ i))) ∧ Below g w w' := by
  have HX := Lib.hid (idx_big a)
  have HA := Lib.hid ha
  have HY := Lib.hid hy
  have HN := Lib.hid hn
  have hg := World.rowIs.lt h
  have B0 := Box.new w a
  have HR0 := Lib.hid (World.rowIs.alloc h (row4 (limb a)))
  have HBl : Hid (Below g w (w.alloc (row4 (limb a)))) := Lib.hid ((Below.refl _ _).alloc (Nat.le_of_lt hg) _)
  clear ha hy hn h
  obtain ⟨Y, hY⟩ : ∃ Y : Int, (y : Int) = Y := ⟨_, rfl⟩
  rw [hY]
  have HYe := Lib.hid hY
  clear hY
  go_enter Try.func86, Try.ntmps86
  go_wp2_with fail
  clear B0
  obtain ⟨W, hW⟩ : ∃ W, w.alloc (row4 (limb a)) = W := ⟨_, rfl⟩
  rw [hW] at HR0 HBl
  dsimp only [row4] at hW
  rw [hW]
  clear hW
  go_loopw [6, 15] (fun ov j wr => ∃ (k : Nat) (o : Int), j = .int .i64 k ∧ k ≤ 4 ∧ ov = .int .u64 o ∧
      Hid (∃ q : Nat, o = (q : Int) ∧ (n + a % 18446744073709551616 ^ k * y * 18446744073709551616 ^ i) / 18446744073709551616 ^ (i + k) = n / 18446744073709551616 ^ (i + k) + q) ∧
      Hid (wr.rowIs g t M (partL n (n + a % 18446744073709551616 ^ k * y * 18446744073709551616 ^ i) (i + k))) ∧ Below g w wr) (fun _ j _ => 4 - (intOf j).toNat)
  case atStart =>
    refine ⟨0, 0, rfl, by omega, rfl, Lib.hid ⟨0, rfl, by simp [Nat.mod_one]⟩, Lib.hid (HR0.out.congr fun j _ => ?_), HBl.out⟩
    simp [Nat.mod_one, partL, lim]
  case round =>
    obtain ⟨k, o, rfl, hk, rfl, HO, HB, hb⟩ := hrel
    clear HR0 HBl
    obtain ⟨q, hoq, hdq⟩ := HO.out
    have hov := wmul_ov (a := a) (y := y) (k := k) (i := i) (n := n) HY.out
    rw [hdq, Nat.add_sub_cancel_left] at hov
    have o0 : 0 ≤ o := by rw [hoq]; exact Int.natCast_nonneg _
    have o1 : o < 18446744073709551616 := by rw [hoq]; omega
    have hlt := World.rowIs.lt HB.out
    by_cases hk4 : k < 4
    · have hk4' : (k : Int) < 4 := by omega
      have hk0 : (0 : Int) ≤ (k : Int) := by omega
      have hkL : (k : Int) < (L : Int) := by omega
      have hidx := HX.out k hk4
      have hs := wmul_step (t := a / 18446744073709551616 ^ k % 18446744073709551616 * y) hdq
      rw [← wmul_next] at hs
      have HS := Lib.hid hs
      have HNx := Lib.hid (wmul_next a y k i n)
      obtain ⟨x, hx⟩ : ∃ x : Int, limb a k = x := ⟨_, rfl⟩
      rw [hx] at hidx
      have x0 : 0 ≤ x := by rw [← hx]; exact limb_nonneg a k
      have x1 : x < 18446744073709551616 := by rw [← hx]; exact limb_lt a k
      have y0 : 0 ≤ Y := by rw [← HYe.out]; omega
      have y1 : Y < 18446744073709551616 := by rw [← HYe.out]; have := HY.out; omega
      have hat := World.rowIs.cell HB.out (i := i + k) (by omega)
      have hfree := World.rowIs.frozen HB.out (i + k)
      unfold partL at hat
      rw [if_neg (by omega)] at hat
      obtain ⟨z, hz⟩ : ∃ z, limb n (i + k) = z := ⟨_, rfl⟩
      rw [hz] at hat
      have z0 : 0 ≤ z := by rw [← hz]; exact limb_nonneg n _
      have z1 : z < 18446744073709551616 := by rw [← hz]; exact limb_lt n _
      have xy0 : 0 ≤ x * Y := Int.mul_nonneg x0 y0
      have xy1 : x * Y ≤ 18446744073709551615 * 18446744073709551615 := Int.mul_le_mul (by omega) (by omega) y0 (by decide)
      have ht : ((n / 18446744073709551616 ^ (i + k) % 18446744073709551616 + (a / 18446744073709551616 ^ k % 18446744073709551616 * y + q) : Nat) : Int) = z + (x * Y + o) := by
        rw [hoq, ← hx, ← HYe.out, ← hz, Int.natCast_add, Int.natCast_add, Int.natCast_mul]
        rfl
      have HM := Lib.hid (lmul_calls x Y)
      generalize x * Y = P at *
      have lo0 : 0 ≤ P % 18446744073709551616 := by omega
      have lo1 : P % 18446744073709551616 < 18446744073709551616 := by omega
      have hi0 : 0 ≤ P / 18446744073709551616 := by omega
      have HA1 := Lib.hid (ladd_calls (P % 18446744073709551616) o 0)
      have c0 : 0 ≤ addO (P % 18446744073709551616) o 0 := by unfold addO; rw [cin_zero]; omega
      have s0 : 0 ≤ addS (P % 18446744073709551616) o 0 := by unfold addS; rw [cin_zero]; omega
      have s1 : addS (P % 18446744073709551616) o 0 < 18446744073709551616 := by unfold addS; rw [cin_zero]; omega
      have HA2 := Lib.hid (ladd_calls z (addS (P % 18446744073709551616) o 0) 0)
      have d0 : 0 ≤ addO z (addS (P % 18446744073709551616) o 0) 0 := by unfold addO; rw [cin_zero]; omega
      have hsum : addS z (addS (P % 18446744073709551616) o 0) 0 = (z + (P + o)) % 18446744073709551616 := by unfold addS; rw [cin_zero]; omega
      have hov2 : P / 18446744073709551616 + addO (P % 18446744073709551616) o 0 + addO z (addS (P % 18446744073709551616) o 0) 0 = (z + (P + o)) / 18446744073709551616 := by unfold addO addS; rw [cin_zero]; omega
      have hT : (z + (P + o)) / 18446744073709551616 < 18446744073709551616 := by omega
      have HSum := Lib.hid hsum
      have HOv := Lib.hid hov2
      have HT := Lib.hid ht
      have HZ := Lib.hid hz
      clear hz ht hx hs hoq hdq hov hsum xy0 xy1
      generalize addO (P % 18446744073709551616) o 0 = c at *
      generalize addS (P % 18446744073709551616) o 0 = s at *
      generalize addO z s 0 = d at *
      generalize addS z s 0 = r at *
      have hcd : P / 18446744073709551616 + c + d < 18446744073709551616 := by omega
      have hc1 : P / 18446744073709551616 + c < 18446744073709551616 := by omega
      clear hT hov2
      obtain ⟨h, hh⟩ : ∃ h, P / 18446744073709551616 = h := ⟨_, rfl⟩
      obtain ⟨l, hl⟩ : ∃ l, P % 18446744073709551616 = l := ⟨_, rfl⟩
      rw [hh] at HM HOv hi0 hcd hc1
      rw [hl] at HM HA1 lo0 lo1
      clear hh hl
      go_wp2_with fail
      refine (HM.out _ x0 x1 y0 y1).mono ?_
      rintro e w1 ⟨rfl, n1, rfl⟩
      go_wp2_with fail
      refine (HA1.out _ lo0 lo1 o0 o1).mono ?_
      rintro e w1 ⟨rfl, rfl⟩
      go_wp2_with fail
      refine (HA2.out _ z0 z1 s0 s1).mono ?_
      rintro e w1 ⟨rfl, rfl⟩
      go_wp2_with fail
      go_roundw
      case rel =>
        refine ⟨k + 1, h + c + d, by go_num, by omega, rfl, Lib.hid ⟨_, ?_, HS.out.2⟩, Lib.hid (((show (wr.drewN n1).rowIs g t M _ from HB.out).set (i + k) _).congr fun j _ => ?_), (below_drewN hb _).setCell (Nat.le_refl _) _⟩
        · rw [HOv.out, ← HT.out]; rfl
        · unfold partL
          by_cases hj : j = i + k
          · subst hj
            rw [if_pos rfl, if_pos (by omega), HSum.out, ← HT.out]
            show _ = Value.int .u64 (limb _ _)
            unfold limb
            rw [HS.out.1]
            rfl
          · rw [if_neg hj]
            by_cases hj2 : j < i + k
            · rw [if_pos hj2, if_pos (by omega), HNx.out, limb_plus_below _ _ hj2]
            · rw [if_neg hj2, if_neg (by omega)]
      case measure => simp [intOf]; omega
    · have hk5 : k = 4 := by omega
      subst hk5
      have hdn : n / 18446744073709551616 ^ (i + 4) = 0 := Nat.div_eq_of_lt HN.out
      have e1 : a % 18446744073709551616 ^ 4 = a := Nat.mod_eq_of_lt HA.out
      rw [hdn, Nat.zero_add] at hdq
      rw [e1] at hdq
      have HB2 := HB.out
      rw [e1] at HB2
      have hat := World.rowIs.cell HB2 (i := i + 4) (by omega)
      have hfree := World.rowIs.frozen HB2 (i + 4)
      unfold partL at hat
      rw [if_neg (by omega), limb_none HN.out (Nat.le_refl _)] at hat
      have hL4 : (4 : Int) < (L : Int) := by omega
      have HQ := Lib.hid hdq
      have HOQ := Lib.hid hoq
      have HOV := Lib.hid hov
      have HBB := Lib.hid HB2
      clear hdq hoq hov HB2 e1 hdn HB HO
      go_wp2_with fail
      go_end0
      refine ⟨rfl, (HBB.out.set (i + 4) _).congr fun j _ => ?_, hb.setCell (Nat.le_refl _) _⟩
      unfold partL lim
      by_cases hj : j = i + 4
      · subst hj
        rw [if_pos rfl]
        unfold limb
        rw [HQ.out, Nat.mod_eq_of_lt (by have := HOV.out; omega), ← HOQ.out]
      · rw [if_neg hj]
        by_cases hj2 : j < i + 4
        · rw [if_pos hj2]
        · rw [if_neg hj2, limb_none HN.out (by omega), limb_none (m := i + 5) ?_ (by omega)]
          have hp : 0 < 18446744073709551616 ^ (i + 4) := Nat.pow_pos (by decide)
          have hm := Nat.div_add_mod (n + a * y * 18446744073709551616 ^ i) (18446744073709551616 ^ (i + 4))
          have hm2 := Nat.mod_lt (n + a * y * 18446744073709551616 ^ i) hp
          rw [HQ.out] at hm
          rw [Nat.pow_succ]
          have h3 : 18446744073709551616 ^ (i + 4) * q ≤ 18446744073709551616 ^ (i + 4) * 18446744073709551615 := Nat.mul_le_mul_left _ HOV.out
          omega
end Go.Proofs.Ytchjjbklkmfelaa
