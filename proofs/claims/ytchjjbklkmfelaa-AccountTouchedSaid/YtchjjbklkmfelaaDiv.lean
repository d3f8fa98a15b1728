/- The quotient of a pair of limbs by a limb: limb.digit and limb.Div answer the quotient and the rest. -/
import Derived.Test.YtchjjbklkmfelaaBase
namespace Go.Proofs.Ytchjjbklkmfelaa
open Go.RowKit
set_option linter.unusedVariables false
set_option linter.unusedSimpArgs false

/-- What the slots of a round hold: a guess that is not too small, and what is left by it. -/
structure Guess (hi lo y q left : Int) : Prop where
  sum : q * (y / 4294967296) + left = hi
  left0 : 0 ≤ left
  left1 : left < 4294967296
  up : hi * 4294967296 + lo < (q + 1) * y
  q0 : 0 ≤ q
  q1 : q ≤ 4294967299

theorem guess_start {hi lo y : Int} (h0 : 0 ≤ hi) (h1 : hi < y) (h2 : 0 ≤ lo) (h3 : lo < 4294967296) (h4 : 9223372036854775808 ≤ y) (h5 : y < 18446744073709551616) :
    Guess hi lo y (hi / (y / 4294967296)) (hi % (y / 4294967296)) := by
  have hy1 : 2147483648 ≤ y / 4294967296 := by omega
  have hy2 : y / 4294967296 < 4294967296 := by omega
  generalize hY : y / 4294967296 = Y at *
  have e := Int.mul_ediv_add_emod hi Y
  have r0 := Int.emod_nonneg hi (show Y ≠ 0 by omega)
  have r1 := Int.emod_lt_of_pos hi (show 0 < Y by omega)
  have q0 : 0 ≤ hi / Y := Int.ediv_nonneg h0 (by omega)
  generalize hi / Y = q at *
  generalize hi % Y = r at *
  have eq : q * Y + r = hi := by rw [Int.mul_comm]; exact e
  refine ⟨by rw [hY]; exact eq, r0, by omega, ?_, q0, ?_⟩
  · have : (q + 1) * Y * 4294967296 ≤ (q + 1) * y := by
      have : (q + 1) * (Y * 4294967296) ≤ (q + 1) * y := Int.mul_le_mul_of_nonneg_left (by omega) (by omega)
      rw [Int.mul_assoc]; exact this
    have h : (q + 1) * Y = hi - r + Y := by rw [Int.add_mul]; omega
    omega
  · by_cases hq : q ≤ 4294967299
    · exact hq
    · have : 4294967300 * Y ≤ q * Y := Int.mul_le_mul_of_nonneg_right (by omega) (by omega)
      omega

/-- The guess is right where the test says no. -/
theorem guess_done {hi lo y q left : Int} (h1 : hi < y) (h2 : 0 ≤ lo) (h4 : 9223372036854775808 ≤ y) (g : Guess hi lo y q left)
    (ht : q * (y % 4294967296) ≤ left * 4294967296 + lo) : q = (hi * 4294967296 + lo) / y := by
  have e : q * y ≤ hi * 4294967296 + lo := by
    have ey : y = (y / 4294967296) * 4294967296 + y % 4294967296 := by omega
    have : q * y = q * (y / 4294967296) * 4294967296 + q * (y % 4294967296) := by
      rw [Int.mul_assoc, ← Int.mul_add, ← ey]
    have := g.sum
    omega
  have u := g.up
  have h : (q + 1) * y = q * y + y := by rw [Int.add_mul]; omega
  apply Int.le_antisymm
  · exact Int.le_ediv_of_mul_le (by omega) e
  · have : (hi * 4294967296 + lo) / y < q + 1 := Int.ediv_lt_of_lt_mul (by omega) u
    omega

/-- One less, where the test says yes. -/
theorem guess_less {hi lo y q left : Int} (h0 : 0 ≤ hi) (h1 : hi < y) (h2 : 0 ≤ lo) (h3 : lo < 4294967296) (h4 : 9223372036854775808 ≤ y) (h5 : y < 18446744073709551616) (g : Guess hi lo y q left)
    (ht : 4294967296 ≤ q ∨ left * 4294967296 + lo < q * (y % 4294967296)) :
    1 ≤ q ∧ (q - 1) * (y / 4294967296) + (left + y / 4294967296) = hi ∧ hi * 4294967296 + lo < (q - 1 + 1) * y := by
  have N : hi * 4294967296 + lo < q * y := by
    rcases ht with ht | ht
    · have : 4294967296 * y ≤ q * y := Int.mul_le_mul_of_nonneg_right ht (by omega)
      omega
    · have ey : y = (y / 4294967296) * 4294967296 + y % 4294967296 := by omega
      have : q * y = q * (y / 4294967296) * 4294967296 + q * (y % 4294967296) := by
        rw [Int.mul_assoc, ← Int.mul_add, ← ey]
      have := g.sum
      omega
  refine ⟨?_, ?_, ?_⟩
  · by_cases hq : 1 ≤ q
    · exact hq
    · have := g.q0
      have e : q = 0 := by omega
      rw [e] at N
      omega
  · have := g.sum
    have : (q - 1) * (y / 4294967296) = q * (y / 4294967296) - y / 4294967296 := by rw [Int.sub_mul]; omega
    omega
  · rw [show q - 1 + 1 = q by omega]; exact N

/-- A guess whose rest has left the digit is right. -/
theorem guess_wide {hi lo y q left : Int} (h0 : 0 ≤ hi) (h1 : hi < y) (h2 : 0 ≤ lo) (h4 : 9223372036854775808 ≤ y) (h5 : y < 18446744073709551616)
    (hs : q * (y / 4294967296) + left = hi) (hl : 4294967296 ≤ left) (hu : hi * 4294967296 + lo < (q + 1) * y) (q0 : 0 ≤ q) : q = (hi * 4294967296 + lo) / y := by
  have hy1 : 2147483648 ≤ y / 4294967296 := by omega
  have q1 : q < 4294967296 := by
    by_cases hq : q < 4294967296
    · exact hq
    · have : 4294967296 * (y / 4294967296) ≤ q * (y / 4294967296) := Int.mul_le_mul_of_nonneg_right (by omega) (by omega)
      omega
  have e : q * y ≤ hi * 4294967296 + lo := by
    have ey : y = (y / 4294967296) * 4294967296 + y % 4294967296 := by omega
    have : q * y = q * (y / 4294967296) * 4294967296 + q * (y % 4294967296) := by
      rw [Int.mul_assoc, ← Int.mul_add, ← ey]
    have : q * (y % 4294967296) ≤ q * 4294967296 := Int.mul_le_mul_of_nonneg_left (by omega) q0
    omega
  have h : (q + 1) * y = q * y + y := by rw [Int.add_mul]; omega
  apply Int.le_antisymm
  · exact Int.le_ediv_of_mul_le (by omega) e
  · have : (hi * 4294967296 + lo) / y < q + 1 := Int.ediv_lt_of_lt_mul (by omega) hu
    omega

theorem digit_rest {hi lo y q : Int} (h4 : 9223372036854775808 ≤ y) (h5 : y < 18446744073709551616) (hq : q = (hi * 4294967296 + lo) / y) :
    IntKind.u64.wrap (IntKind.u64.wrap (IntKind.u64.wrap (hi * 4294967296) + lo) - IntKind.u64.wrap (q * y)) = (hi * 4294967296 + lo) % y := by
  have e := Int.mul_ediv_add_emod (hi * 4294967296 + lo) y
  have r0 := Int.emod_nonneg (hi * 4294967296 + lo) (show y ≠ 0 by omega)
  have r1 := Int.emod_lt_of_pos (hi * 4294967296 + lo) (show 0 < y by omega)
  rw [← hq, Int.mul_comm] at e
  simp only [u64_wrap]
  generalize (hi * 4294967296 + lo) % y = r at *
  generalize q * y = p at *
  omega

set_option maxHeartbeats 1000000 in
set_option maxRecDepth 100000 in
theorem digit_calls (hi lo y : Int) (w : World) (h0 : 0 ≤ hi) (h1 : hi < y) (h2 : 0 ≤ lo) (h3 : lo < 4294967296) (h4 : 9223372036854775808 ≤ y) (h5 : y < 18446744073709551616) :
    Calls Try.prog 96 #[.int .u64 hi, .int .u64 lo, .int .u64 y] w fun e w' => e = .returned (.tuple #[.int .u64 ((hi * 4294967296 + lo) / y), .int .u64 ((hi * 4294967296 + lo) % y)]) ∧ Drawn w w' := by
  have hy1 : 2147483648 ≤ y / 4294967296 := by omega
  have hy2 : y / 4294967296 < 4294967296 := by omega
  have g0 := guess_start h0 h1 h2 h3 h4 h5
  go_enter Try.func96, Try.ntmps96
  go_wp2
  refine wp_scope_jumps 0 (fun a' w' => Drawn w w' ∧ ∃ (q left : Int) (u11 u12 u13 u14 u15 u16 u17 u18 u19 u20 u21 u22 u23 u24 u25 u26 u27 u28 u29 u30 u31 u32 u33 u34 u35 u36 u37 u38 u39 u40 u41 u42 u43 u44 u45 u46 u47 u48 : Value), Guess hi lo y q left ∧ a' = { tmps := #[.int .u64 hi, .int .u64 lo, .int .u64 y, undef, undef, undef, .int .u64 q, .int .u64 0, .int .u64 (y / 4294967296), .int .u64 (y % 4294967296), .int .u64 left, u11, u12, u13, u14, u15, u16, u17, u18, u19, u20, u21, u22, u23, u24, u25, u26, u27, u28, u29, u30, u31, u32, u33, u34, u35, u36, u37, u38, u39, u40, u41, u42, u43, u44, u45, u46, u47, u48], defers := [] }) (fun a' _ => (intOf (a'.tmps.getD 6 undef)).toNat) rfl ?_ ?_
  · go_wp2
    go_quiet (fail)
    generalize hi / (y / 4294967296) = q at g0 ⊢
    generalize hi % (y / 4294967296) = left at g0 ⊢
    have b1 := g0.left0
    have b2 := g0.left1
    have b3 := g0.q0
    have b4 := g0.q1
    go_wp2
    go_step3
    by_cases hq : 4294967296 ≤ q
    · have hl := guess_less h0 h1 h2 h3 h4 h5 g0 (Or.inl hq)
      have hl1 := hl.1
      by_cases hw : left + y / 4294967296 < 4294967296
      · go_wp2
        go_step3
        exact ⟨rfl, ⟨nq, rfl⟩, _, _, _, _, _, _, _, _, _, _, _, _, _, _, _, _, _, _, _, _, _, _, _, _, _, _, _, _, _, _, _, _, _, _, _, _, _, _, _, _, ⟨hl.2.1, by omega, hw, hl.2.2, by omega, by omega⟩, rfl⟩
      · go_wp2
        simp only [Exit.jump]
        go_ret2
        have hd := guess_wide h0 h1 h2 h4 h5 hl.2.1 hw hl.2.2 (by omega)
        exact ⟨ret_two hd (digit_rest h4 h5 hd), nq, rfl⟩
    · have m1 : 0 ≤ q * (y % 4294967296) := Int.mul_nonneg b3 (by omega)
      have m2 : q * (y % 4294967296) < 18446744073709551616 := by
        have : q * (y % 4294967296) ≤ 4294967296 * (y % 4294967296) := Int.mul_le_mul_of_nonneg_right (by omega) (by omega)
        omega
      by_cases ht : left * 4294967296 + lo < q * (y % 4294967296)
      · have hl := guess_less h0 h1 h2 h3 h4 h5 g0 (Or.inr ht)
        have hl1 := hl.1
        by_cases hw : left + y / 4294967296 < 4294967296
        · go_wp2
          go_step3
          exact ⟨rfl, ⟨nq, rfl⟩, _, _, _, _, _, _, _, _, _, _, _, _, _, _, _, _, _, _, _, _, _, _, _, _, _, _, _, _, _, _, _, _, _, _, _, _, _, _, _, _, ⟨hl.2.1, by omega, hw, hl.2.2, by omega, by omega⟩, rfl⟩
        · go_wp2
          simp only [Exit.jump]
          go_ret2
          have hd := guess_wide h0 h1 h2 h4 h5 hl.2.1 hw hl.2.2 (by omega)
          exact ⟨ret_two hd (digit_rest h4 h5 hd), nq, rfl⟩
      · go_wp2
        simp only [Exit.jump]
        go_ret2
        have hd := guess_done h1 h2 h4 g0 (by omega)
        exact ⟨ret_two hd (digit_rest h4 h5 hd), nq, rfl⟩
  · rintro a' w' ⟨⟨nq, rfl⟩, q, left, u11, u12, u13, u14, u15, u16, u17, u18, u19, u20, u21, u22, u23, u24, u25, u26, u27, u28, u29, u30, u31, u32, u33, u34, u35, u36, u37, u38, u39, u40, u41, u42, u43, u44, u45, u46, u47, u48, g0, rfl⟩
    have b1 := g0.left0
    have b2 := g0.left1
    have b3 := g0.q0
    have b4 := g0.q1
    by_cases hq : 4294967296 ≤ q
    · have hl := guess_less h0 h1 h2 h3 h4 h5 g0 (Or.inl hq)
      have hl1 := hl.1
      by_cases hw : left + y / 4294967296 < 4294967296
      · go_wp2
        go_step3
        exact ⟨rfl, ⟨⟨nq, rfl⟩, _, _, _, _, _, _, _, _, _, _, _, _, _, _, _, _, _, _, _, _, _, _, _, _, _, _, _, _, _, _, _, _, _, _, _, _, _, _, _, _, ⟨hl.2.1, by omega, hw, hl.2.2, by omega, by omega⟩, rfl⟩, by simp [intOf]; omega⟩
      · go_wp2
        simp only [Exit.jump]
        go_ret2
        have hd := guess_wide h0 h1 h2 h4 h5 hl.2.1 hw hl.2.2 (by omega)
        exact ⟨ret_two hd (digit_rest h4 h5 hd), nq, rfl⟩
    · have m1 : 0 ≤ q * (y % 4294967296) := Int.mul_nonneg b3 (by omega)
      have m2 : q * (y % 4294967296) < 18446744073709551616 := by
        have : q * (y % 4294967296) ≤ 4294967296 * (y % 4294967296) := Int.mul_le_mul_of_nonneg_right (by omega) (by omega)
        omega
      by_cases ht : left * 4294967296 + lo < q * (y % 4294967296)
      · have hl := guess_less h0 h1 h2 h3 h4 h5 g0 (Or.inr ht)
        have hl1 := hl.1
        by_cases hw : left + y / 4294967296 < 4294967296
        · go_wp2
          go_step3
          exact ⟨rfl, ⟨⟨nq, rfl⟩, _, _, _, _, _, _, _, _, _, _, _, _, _, _, _, _, _, _, _, _, _, _, _, _, _, _, _, _, _, _, _, _, _, _, _, _, _, _, _, _, ⟨hl.2.1, by omega, hw, hl.2.2, by omega, by omega⟩, rfl⟩, by simp [intOf]; omega⟩
        · go_wp2
          simp only [Exit.jump]
          go_ret2
          have hd := guess_wide h0 h1 h2 h4 h5 hl.2.1 hw hl.2.2 (by omega)
          exact ⟨ret_two hd (digit_rest h4 h5 hd), nq, rfl⟩
      · go_wp2
        simp only [Exit.jump]
        go_ret2
        have hd := guess_done h1 h2 h4 g0 (by omega)
        exact ⟨ret_two hd (digit_rest h4 h5 hd), nq, rfl⟩
end Go.Proofs.Ytchjjbklkmfelaa
