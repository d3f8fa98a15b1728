/- The second reference: a number's row of digits, and the number of a row. -/
import Derived.Test.YtchjjbklkmfelaaHuge2
namespace Go.Proofs.Ytchjjbklkmfelaa
open Go.RowKit
set_option linter.unusedVariables false
set_option linter.unusedSimpArgs false

theorem limb_digit (n i j : Nat) (hj : j < 4) : n / 18446744073709551616 ^ i % 18446744073709551616 / 65536 ^ j % 65536 = n / 65536 ^ (4 * i + j) % 65536 := by
  have e1 : 18446744073709551616 ^ i = 65536 ^ (4 * i) := by rw [Nat.pow_mul]
  rw [e1, Nat.pow_add, ← Nat.div_div_eq_div_mul]
  generalize n / 65536 ^ (4 * i) = q
  match j, hj with
  | 0, _ => simp only [Nat.pow_zero, Nat.div_one]; omega
  | 1, _ => simp only [Nat.pow_one]; omega
  | 2, _ => rw [show 65536 ^ 2 = 4294967296 from rfl]; omega
  | 3, _ => rw [show 65536 ^ 3 = 281474976710656 from rfl]; omega

theorem idx_big0 (a b c d : Int) (w : World) : (Instr.index 28 (.agg #[.int .u64 a, .int .u64 b, .int .u64 c, .int .u64 d]) (.int .i64 0)).run Try.prog w = .ok (.int .u64 a) w := by kernel_rfl
theorem idx_big1 (a b c d : Int) (w : World) : (Instr.index 28 (.agg #[.int .u64 a, .int .u64 b, .int .u64 c, .int .u64 d]) (.int .i64 1)).run Try.prog w = .ok (.int .u64 b) w := by kernel_rfl
theorem idx_big2 (a b c d : Int) (w : World) : (Instr.index 28 (.agg #[.int .u64 a, .int .u64 b, .int .u64 c, .int .u64 d]) (.int .i64 2)).run Try.prog w = .ok (.int .u64 c) w := by kernel_rfl
theorem idx_big3 (a b c d : Int) (w : World) : (Instr.index 28 (.agg #[.int .u64 a, .int .u64 b, .int .u64 c, .int .u64 d]) (.int .i64 3)).run Try.prog w = .ok (.int .u64 d) w := by kernel_rfl
theorem idx_big (n i : Nat) (hi : i < 4) (w : World) : (Instr.index 28 (.agg #[.int .u64 (limb n 0), .int .u64 (limb n 1), .int .u64 (limb n 2), .int .u64 (limb n 3)]) (.int .i64 (i : Int))).run Try.prog w = .ok (.int .u64 (limb n i)) w := by
  match i, hi with
  | 0, _ => exact idx_big0 _ _ _ _ _
  | 1, _ => exact idx_big1 _ _ _ _ _
  | 2, _ => exact idx_big2 _ _ _ _ _
  | 3, _ => exact idx_big3 _ _ _ _ _

set_option maxHeartbeats 1000000 in
set_option maxRecDepth 100000 in
theorem rowof_calls (n : Nat) (w : World) (hn : n < 18446744073709551616 ^ 4) :
    Calls Try.prog 37 #[bigN n] w (Gives w n) := by
  have HN := Lib.hid (show n < 65536 ^ 16 from hn)
  have HX := Lib.hid (idx_big n)
  have HB0 := Lib.hid (show Below w.heap.size w (w.alloc (.cells #[.int .u64 (limb n 0), .int .u64 (limb n 1), .int .u64 (limb n 2), .int .u64 (limb n 3)] 28)) from (Below.refl _ _).alloc (Nat.le_refl _) _)
  have HL := Lib.hid (limb_bd n)
  clear hn
  unfold bigN
  go_enter Try.func37, Try.ntmps37
  go_wp2_with fail
  generalize hW : w.alloc (.cells #[.int .u64 (limb n 0), .int .u64 (limb n 1), .int .u64 (limb n 2), .int .u64 (limb n 3)] 28) = W at *
  clear hW
  go_loopw [3, 7] (fun v i wr => ∃ k : Nat, i = .int .i64 k ∧ k ≤ 4 ∧ Own wr w.heap.size v (low (4 * k) n) ∧ Below w.heap.size w wr) (fun _ i _ => 4 - (intOf i).toNat)
  case atStart => exact ⟨0, rfl, by omega, Own.nil _ _, HB0.out⟩
  case round =>
    obtain ⟨i, rfl, hi, hown, hb⟩ := hrel
    by_cases hi4 : i < 4
    · have hi4' : (i : Int) < 4 := by omega
      have hidx := HX.out i hi4
      have hx := HL.out i
      have HX2 := Lib.hid (fun j => limb_digit n i j)
      have hlim : limb n i = ((n / 18446744073709551616 ^ i % 18446744073709551616 : Nat) : Int) := rfl
      rw [hlim] at hidx hx
      clear hlim
      generalize hx0 : n / 18446744073709551616 ^ i % 18446744073709551616 = x at *
      clear hx0
      go_wp2_with fail
      obtain ⟨wo, rfl⟩ : ∃ wo : World, wo = wr := ⟨_, rfl⟩
      go_loopw [3, 5, 10] (fun v xv jv wr => ∃ (j : Nat) (y : Int), jv = .int .i64 j ∧ xv = .int .u64 y ∧ j ≤ 4 ∧ 0 ≤ y ∧ y < 18446744073709551616 ∧ Hid (y = ((x / 65536 ^ j : Nat) : Int)) ∧ Own wr w.heap.size v (low (4 * i + j) n) ∧ Below w.heap.size w wr) (fun _ _ jv _ => 4 - (intOf jv).toNat)
      case atStart => exact ⟨0, (x : Int), rfl, rfl, by omega, hx.1, hx.2, Lib.hid (by simp), hown, hb⟩
      case round =>
        obtain ⟨j, y, rfl, rfl, hj, hy0, hy, HY, hown', hb'⟩ := hrel
        clear hown hb hx
        by_cases hj4 : j < 4
        · have hd := HX2.out j hj4
          have hs := low_snoc (4 * i + j) n
          rw [← hd, show ((x / 65536 ^ j % 65536 : Nat) : Int) = y % 65536 by rw [HY.out]; omega] at hs
          have HS := Lib.hid hs
          have HY2 : Hid (y / 65536 = ((x / 65536 ^ (j + 1) : Nat) : Int)) := by rw [HY.out, Nat.pow_succ, ← Nat.div_div_eq_div_mul]; exact Lib.hid (by omega)
          have hll := low_length (4 * i + j) n
          have HLL := Lib.hid hll
          clear hd hs HY hll
          go_wp2_with (at_builtin; refine wpList_app_int rfl _ _ rfl _ _ _ rfl hown' _ rfl ?c1 ?c2 ?_)
          case c1 => rw [HLL.out]; omega
          case c2 => exact hb'.size
          intro v' w' ho _ hb2 _
          go_wp2
          go_roundw
          case rel => exact ⟨j + 1, y / 65536, by go_num, rfl, by omega, by omega, by omega, HY2, by rw [← Nat.add_assoc, HS.out]; exact ho, hb'.trans hb2⟩
          case measure => simp [intOf]; omega
        · have hj5 : j = 4 := by omega
          subst hj5
          go_wp2_with fail
          go_roundw
          case rel => exact ⟨i + 1, by go_num, by omega, by rw [show 4 * (i + 1) = 4 * i + 4 by omega]; exact hown', hb'⟩
          case measure => simp [intOf]; omega
    · have hi5 : i = 4 := by omega
      subst hi5
      go_wp2_with fail
      refine (trim_calls _ (4 * 4) n wr hown.row HN.out).mono ?_
      rintro e w' ⟨v', rfl, hr, hob, hd⟩
      go_wp2_with fail
      go_ret
      exact ⟨_, rfl, hr, fun k hk => (World.ownsRow.lt hown k (hob.symm.trans hk)).1, hb.trans (hd.below _)⟩
end Go.Proofs.Ytchjjbklkmfelaa
