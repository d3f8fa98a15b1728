/- limb.Add, limb.Sub and limb.Mul answer sum, difference and product, whole. -/
import Derived.Test.YtchjjbklkmfelaaLen
import Derived.Test.YtchjjbklkmfelaaRef3
namespace Go.Proofs.Ytchjjbklkmfelaa
open Go.RowKit
set_option linter.unusedVariables false
set_option linter.unusedSimpArgs false

def b2i (b : Bool) : Int := if b then 1 else 0

set_option maxHeartbeats 400000 in
theorem bit_calls (b : Bool) (w : World) : Calls Try.prog 53 #[.bool b] w fun e w' => e = .returned (.int .u64 (b2i b)) ∧ w = w' := by
  cases b
  all_goals
    go_enter Try.func53, Try.ntmps53
    go_wp2
    go_ret
    exact ⟨rfl, rfl⟩

/-- What a carry counts. -/
def cin (c : Int) : Int := if c = 0 then 0 else 1

theorem u64_lo {x : Int} (h0 : 0 ≤ x) (h1 : x < 18446744073709551616) : IntKind.u64.wrap x = x := by rw [u64_wrap]; omega
theorem u64_hi {x : Int} (h0 : 18446744073709551616 ≤ x) (h1 : x < 36893488147419103232) : IntKind.u64.wrap x = x - 18446744073709551616 := by rw [u64_wrap]; omega
theorem u64_ne {x : Int} (h0 : x < 0) (h1 : -18446744073709551616 ≤ x) : IntKind.u64.wrap x = x + 18446744073709551616 := by rw [u64_wrap]; omega

def addS (a b c : Int) : Int := (a + b + cin c) % 18446744073709551616
def addO (a b c : Int) : Int := (a + b + cin c) / 18446744073709551616
def subS (a b c : Int) : Int := (a - b - cin c) % 18446744073709551616
def subO (a b c : Int) : Int := if a < b + cin c then 1 else 0

theorem cin_zero : cin 0 = 0 := rfl
theorem cin_one {c : Int} (h : c ≠ 0) : cin c = 1 := if_neg h

set_option maxHeartbeats 1000000 in
set_option maxRecDepth 100000 in
theorem ladd_calls (a b c : Int) (w : World) (a0 : 0 ≤ a) (a1 : a < 18446744073709551616) (b0 : 0 ≤ b) (b1 : b < 18446744073709551616) :
    Calls Try.prog 33 #[.int .u64 a, .int .u64 b, .int .u64 c] w fun e w' => e = .returned (.tuple #[.int .u64 (addS a b c), .int .u64 (addO a b c)]) ∧ w = w' := by
  obtain ⟨s, hs, hlt, s0, s1, hsum⟩ : ∃ s, IntKind.u64.wrap (a + b) = s ∧ (decide (s < a) = decide (18446744073709551616 ≤ a + b)) ∧ 0 ≤ s ∧ s < 18446744073709551616 ∧ Hid (s = a + b ∨ s + 18446744073709551616 = a + b) := by
    refine ⟨_, rfl, ?_⟩
    rw [u64_wrap]
    refine ⟨?_, by omega, by omega, Lib.hid (by omega)⟩
    rw [decide_eq_decide]; omega
  have HL := Lib.hid hlt
  clear hlt
  obtain ⟨o, ho⟩ : ∃ o, decide (s < a) = o := ⟨_, rfl⟩
  by_cases hc : c = 0
  · subst hc
    go_enter Try.func33, Try.ntmps33
    go_wp2_with (go_at_call 53; refine (bit_calls _ _).mono ?_; rintro e w' ⟨rfl, rfl⟩)
    go_ret2
    refine ⟨ret_two ?_ ?_, rfl⟩
    · unfold addS; rw [cin_zero]; have := hsum.out; omega
    · unfold addO b2i; rw [cin_zero, ← ho, HL.out]; have := hsum.out
      by_cases h : 18446744073709551616 ≤ a + b
      · rw [if_pos (by simpa using h)]; omega
      · rw [if_neg (by simpa using h)]; omega
  · have hcb : (c != 0) = true := bne_iff_ne.2 hc
    have HC := Lib.hid (cin_one hc)
    clear hc
    by_cases h1 : s + 1 = 18446744073709551616
    · have hw : IntKind.u64.wrap (s + 1) = 0 := by rw [u64_wrap, h1]; decide
      have H1 := Lib.hid h1
      clear h1
      cases o
      all_goals
        go_enter Try.func33, Try.ntmps33
        go_wp2_with (go_at_call 53; refine (bit_calls _ _).mono ?_; rintro e w' ⟨rfl, rfl⟩)
        go_ret2
        refine ⟨ret_two ?_ ?_, rfl⟩
        · unfold addS; rw [HC.out]; have := hsum.out; have := H1.out; omega
        · unfold addO; rw [HC.out]; have hl := HL.out; rw [ho] at hl; have := hsum.out; have := H1.out
          first
            | (have h := of_decide_eq_false hl.symm; show (1 : Int) = _; omega)
            | (have h := of_decide_eq_true hl.symm; omega)
    · have hw : IntKind.u64.wrap (s + 1) = s + 1 := by rw [u64_wrap]; omega
      have hz : (s + 1 == 0) = false := beq_eq_false_iff_ne.2 (by omega)
      cases o
      all_goals
        go_enter Try.func33, Try.ntmps33
        go_wp2_with (go_at_call 53; refine (bit_calls _ _).mono ?_; rintro e w' ⟨rfl, rfl⟩)
        go_ret2
        refine ⟨ret_two ?_ ?_, rfl⟩
        · unfold addS; rw [HC.out]; have := hsum.out; omega
        · unfold addO; rw [HC.out]; have hl := HL.out; rw [ho] at hl; have := hsum.out
          first
            | (have h := of_decide_eq_false hl.symm; show (0 : Int) = _; omega)
            | (have h := of_decide_eq_true hl.symm; show (1 : Int) = _; omega)

set_option maxHeartbeats 1000000 in
set_option maxRecDepth 100000 in
theorem lsub_calls (a b c : Int) (w : World) (a0 : 0 ≤ a) (a1 : a < 18446744073709551616) (b0 : 0 ≤ b) (b1 : b < 18446744073709551616) :
    Calls Try.prog 41 #[.int .u64 a, .int .u64 b, .int .u64 c] w fun e w' => e = .returned (.tuple #[.int .u64 (subS a b c), .int .u64 (subO a b c)]) ∧ w = w' := by
  obtain ⟨s, hs, s0, s1, hsum⟩ : ∃ s, IntKind.u64.wrap (a - b) = s ∧ 0 ≤ s ∧ s < 18446744073709551616 ∧ Hid ((b ≤ a ∧ s = a - b) ∨ (a < b ∧ s = a - b + 18446744073709551616)) := by
    refine ⟨_, rfl, ?_⟩
    rw [u64_wrap]
    exact ⟨by omega, by omega, Lib.hid (by omega)⟩
  obtain ⟨o, ho⟩ : ∃ o, decide (a < b) = o := ⟨_, rfl⟩
  by_cases hc : c = 0
  · subst hc
    go_enter Try.func41, Try.ntmps41
    go_wp2_with (go_at_call 53; refine (bit_calls _ _).mono ?_; rintro e w' ⟨rfl, rfl⟩)
    go_ret2
    refine ⟨ret_two ?_ ?_, rfl⟩
    · unfold subS; rw [cin_zero]; have := hsum.out; omega
    · unfold subO b2i; rw [cin_zero, ← ho]
      by_cases h : a < b
      · rw [if_pos (by simpa using h), if_pos (by omega)]
      · rw [if_neg (by simpa using h), if_neg (by omega)]
  · have hcb : (c != 0) = true := bne_iff_ne.2 hc
    have HC := Lib.hid (cin_one hc)
    clear hc
    by_cases h1 : s = 0
    · have hz : (s == 0) = true := beq_iff_eq.2 h1
      have hw : IntKind.u64.wrap (s - 1) = 18446744073709551615 := by rw [u64_wrap, h1]; decide
      have H1 := Lib.hid h1
      clear h1
      cases o
      all_goals
        go_enter Try.func41, Try.ntmps41
        go_wp2_with (go_at_call 53; refine (bit_calls _ _).mono ?_; rintro e w' ⟨rfl, rfl⟩)
        go_ret2
        refine ⟨ret_two ?_ ?_, rfl⟩
        · unfold subS; rw [HC.out]; have := hsum.out; have := H1.out; omega
        · unfold subO; rw [HC.out]; have := hsum.out; have := H1.out
          rw [if_pos (by omega)]
          first | rfl | decide
    · have hw : IntKind.u64.wrap (s - 1) = s - 1 := by rw [u64_wrap]; omega
      have hz : (s == 0) = false := beq_eq_false_iff_ne.2 h1
      cases o
      all_goals
        go_enter Try.func41, Try.ntmps41
        go_wp2_with (go_at_call 53; refine (bit_calls _ _).mono ?_; rintro e w' ⟨rfl, rfl⟩)
        go_ret2
        refine ⟨ret_two ?_ ?_, rfl⟩
        · unfold subS; rw [HC.out]; have := hsum.out; omega
        · unfold subO; rw [HC.out]; have := hsum.out
          first
            | (have h := of_decide_eq_true ho; rw [if_pos (by omega)]; first | rfl | decide)
            | (have h := of_decide_eq_false ho; rw [if_neg (by omega)]; first | rfl | decide)

theorem prod_bd {x y : Int} (x0 : 0 ≤ x) (x1 : x < 4294967296) (y0 : 0 ≤ y) (y1 : y < 4294967296) : 0 ≤ x * y ∧ x * y ≤ 18446744065119617025 := by
  refine ⟨Int.mul_nonneg x0 y0, ?_⟩
  have h1 : x * y ≤ 4294967295 * y := Int.mul_le_mul_of_nonneg_right (by omega) y0
  omega

theorem prod_hi (a b : Int) : a / 4294967296 * (b / 4294967296) + (a / 4294967296 * (b % 4294967296) + a % 4294967296 * (b % 4294967296) / 4294967296) / 4294967296 +
    (a % 4294967296 * (b / 4294967296) + (a / 4294967296 * (b % 4294967296) + a % 4294967296 * (b % 4294967296) / 4294967296) % 4294967296) / 4294967296 = a * b / 18446744073709551616 := by
  have ea : a = 4294967296 * (a / 4294967296) + a % 4294967296 := by omega
  have eb : b = 4294967296 * (b / 4294967296) + b % 4294967296 := by omega
  have e : a * b = 18446744073709551616 * (a / 4294967296 * (b / 4294967296)) + 4294967296 * (a / 4294967296 * (b % 4294967296)) + 4294967296 * (a % 4294967296 * (b / 4294967296)) + a % 4294967296 * (b % 4294967296) := by
    have : a * b = (4294967296 * (a / 4294967296) + a % 4294967296) * (4294967296 * (b / 4294967296) + b % 4294967296) := by rw [← ea, ← eb]
    rw [this, Int.add_mul, Int.mul_add, Int.mul_add]
    have t1 : 4294967296 * (a / 4294967296) * (4294967296 * (b / 4294967296)) = 18446744073709551616 * (a / 4294967296 * (b / 4294967296)) := by
      rw [Int.mul_assoc, Int.mul_left_comm (a / 4294967296), ← Int.mul_assoc]; rfl
    have t2 : 4294967296 * (a / 4294967296) * (b % 4294967296) = 4294967296 * (a / 4294967296 * (b % 4294967296)) := Int.mul_assoc ..
    have t3 : a % 4294967296 * (4294967296 * (b / 4294967296)) = 4294967296 * (a % 4294967296 * (b / 4294967296)) := Int.mul_left_comm ..
    rw [t1, t2, t3]
    omega
  rw [e]
  generalize a / 4294967296 * (b / 4294967296) = p11 at *
  generalize a / 4294967296 * (b % 4294967296) = p10 at *
  generalize a % 4294967296 * (b / 4294967296) = p01 at *
  generalize a % 4294967296 * (b % 4294967296) = p00 at *
  omega

set_option maxHeartbeats 1000000 in
set_option maxRecDepth 100000 in
theorem lmul_calls (a b : Int) (w : World) (a0 : 0 ≤ a) (a1 : a < 18446744073709551616) (b0 : 0 ≤ b) (b1 : b < 18446744073709551616) :
    Calls Try.prog 94 #[.int .u64 a, .int .u64 b] w fun e w' => e = .returned (.tuple #[.int .u64 (a * b / 18446744073709551616), .int .u64 (a * b % 18446744073709551616)]) ∧ Drawn w w' := by
  obtain ⟨m11, n11⟩ := prod_bd (x := a / 4294967296) (y := b / 4294967296) (by omega) (by omega) (by omega) (by omega)
  obtain ⟨m10, n10⟩ := prod_bd (x := a / 4294967296) (y := b % 4294967296) (by omega) (by omega) (by omega) (by omega)
  obtain ⟨m01, n01⟩ := prod_bd (x := a % 4294967296) (y := b / 4294967296) (by omega) (by omega) (by omega) (by omega)
  obtain ⟨m00, n00⟩ := prod_bd (x := a % 4294967296) (y := b % 4294967296) (by omega) (by omega) (by omega) (by omega)
  have HP := Lib.hid (prod_hi a b)
  go_enter Try.func94, Try.ntmps94
  go_wp2_with (fail)
  go_ret2
  exact ⟨ret_two HP.out (u64_wrap _), Drawn.refl _⟩
end Go.Proofs.Ytchjjbklkmfelaa
