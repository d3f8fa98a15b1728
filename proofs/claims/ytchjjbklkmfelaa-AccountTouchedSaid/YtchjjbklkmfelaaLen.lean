/- limb.Len answers how many bits a limb has; limb.Div the quotient and the rest, or why there is none. -/
import Derived.Test.YtchjjbklkmfelaaDiv
namespace Go.Proofs.Ytchjjbklkmfelaa
open Go.RowKit
set_option linter.unusedVariables false
set_option linter.unusedSimpArgs false

/-- How many bits a number has. -/
def blen (x : Int) : Nat := if x ≤ 0 then 0 else Nat.log2 x.toNat + 1

theorem blen_zero : blen 0 = 0 := rfl
theorem blen_half {x : Int} (h : 1 ≤ x) : blen x = blen (x / 2) + 1 := by
  unfold blen
  rw [if_neg (by omega)]
  by_cases h2 : x / 2 ≤ 0
  · rw [if_pos h2]
    have : x = 1 := by omega
    subst this
    decide
  · rw [if_neg h2, Nat.log2_def, if_pos (by omega)]
    have : (x / 2).toNat = x.toNat / 2 := by omega
    rw [this]
theorem blen_pow {x : Int} (h : 1 ≤ x) : (2 : Int) ^ (blen x - 1) ≤ x ∧ x < (2 : Int) ^ blen x ∧ 1 ≤ blen x := by
  unfold blen
  rw [if_neg (by omega)]
  have h0 : x.toNat ≠ 0 := by omega
  have a := Nat.log2_self_le h0
  have b := @Nat.lt_log2_self x.toNat
  refine ⟨?_, ?_, by omega⟩
  · have : ((2 ^ (Nat.log2 x.toNat) : Nat) : Int) ≤ (x.toNat : Int) := Int.ofNat_le.2 a
    rw [Nat.add_sub_cancel]
    push_cast at this
    omega
  · have : ((x.toNat : Nat) : Int) < ((2 ^ (Nat.log2 x.toNat + 1) : Nat) : Int) := Int.ofNat_lt.2 b
    push_cast at this
    omega
theorem blen_le {x : Int} (h : x < 18446744073709551616) : blen x ≤ 64 := by
  unfold blen
  by_cases h0 : x ≤ 0
  · rw [if_pos h0]; omega
  · rw [if_neg h0]
    have : Nat.log2 x.toNat < 64 := (Nat.log2_lt (by omega)).2 (by omega)
    omega

set_option maxHeartbeats 400000 in
theorem len_calls (x : Int) (w : World) (h0 : 0 ≤ x) (h1 : x < 18446744073709551616) :
    Calls Try.prog 83 #[.int .u64 x] w fun e w' => e = .returned (.int .i64 (blen x)) ∧ w = w' := by
  have hl := blen_le h1
  go_enter Try.func83, Try.ntmps83
  go_wp2
  go_loop [0, 3] (fun v n => ∃ (y : Int) (k : Nat), v = .int .u64 y ∧ n = .int .i64 k ∧ 0 ≤ y ∧ y < 18446744073709551616 ∧ k + blen y = blen x) (fun v _ => blen (intOf v))
  case atStart => exact ⟨x, 0, rfl, rfl, h0, h1, by omega⟩
  case round =>
    obtain ⟨y, k, rfl, rfl, hy0, hy1, hk⟩ := hrel
    have HK : Hid _ := Lib.hid hk
    clear hk
    by_cases hz : y = 0
    · subst hz
      go_wp2
      go_ret
      exact ⟨ret_one (by have := HK.out; rw [blen_zero] at this; omega), rfl⟩
    · have hh := blen_half (show 1 ≤ y by omega)
      have HH : Hid _ := Lib.hid hh
      clear hh
      have hk2 : (k : Int) < 64 := by have := HK.out; have := HH.out; omega
      go_wp2
      go_round
      case rel => exact ⟨y / 2, k + 1, rfl, by go_num, by omega, by omega, by have := HK.out; have := HH.out; omega⟩
      case measure => have := HH.out; simp [intOf]; omega

/-- What the shifts make of a pair and a divisor. -/
theorem pow_split (n : Nat) (h : n ≤ 64) : (2 : Int) ^ (64 - n) * (2 : Int) ^ n = 18446744073709551616 := by
  rw [← Int.pow_add, Nat.sub_add_cancel h]
  decide

theorem or_add (a b B : Int) (s : Nat) (hB : B = (2 : Int) ^ s) (ha : 0 ≤ a) (ha2 : a * B + b < 18446744073709551616) (hb : 0 ≤ b) (hb2 : b < B) : bits .or .u64 (a * B) b = a * B + b := by
  have hB1 : 0 < B := by omega
  have hab : 0 ≤ a * B := Int.mul_nonneg ha (by omega)
  obtain ⟨m, rfl⟩ := Int.eq_ofNat_of_zero_le ha
  obtain ⟨k, rfl⟩ := Int.eq_ofNat_of_zero_le hb
  have e1 : (m : Int) * B = ((2 ^ s * m : Nat) : Int) := by rw [hB]; push_cast; rw [Int.mul_comm]
  rw [e1] at ha2 hab ⊢
  have hk : k < 2 ^ s := by
    have : (k : Int) < ((2 ^ s : Nat) : Int) := by push_cast; rw [← hB]; exact hb2
    exact Int.ofNat_lt.1 this
  rw [u64_or_nat _ _ (by omega) (by omega), ← Nat.two_pow_add_eq_or_of_lt hk]
  push_cast
  rfl

structure Shifted (hi lo y B C : Int) : Prop where
  y0 : 9223372036854775808 ≤ y * B
  y1 : y * B < 18446744073709551616
  h0 : 0 ≤ hi * B + lo / C
  h1 : hi * B + lo / C < y * B
  r1 : lo / C < B
  r0 : 0 ≤ lo / C
  w : hi * B < 18446744073709551616
  hb : 0 ≤ hi * B
  lo : lo * B % 18446744073709551616 = (lo % C) * B

theorem shifted {hi lo y : Int} (h0 : 0 ≤ hi) (h1 : hi < y) (h2 : 0 ≤ lo) (h3 : lo < 18446744073709551616) (h5 : y < 18446744073709551616) :
    Shifted hi lo y ((2 : Int) ^ (64 - blen y)) ((2 : Int) ^ blen y) := by
  obtain ⟨p1, p2, p3⟩ := blen_pow (show 1 ≤ y by omega)
  have hl := blen_le h5
  have hs := pow_split (blen y) hl
  have hB : 0 < (2 : Int) ^ (64 - blen y) := Int.pow_pos (by decide)
  have hC : 0 < (2 : Int) ^ blen y := Int.pow_pos (by decide)
  have hD : (2 : Int) ^ blen y = 2 * (2 : Int) ^ (blen y - 1) := by
    have : blen y = (blen y - 1) + 1 := by omega
    rw [this, Int.pow_succ, Nat.add_sub_cancel, Int.mul_comm]
  generalize (2 : Int) ^ (64 - blen y) = B at *
  generalize (2 : Int) ^ blen y = C at *
  generalize (2 : Int) ^ (blen y - 1) = D at *
  have hBD : B * D * 2 = 18446744073709551616 := by rw [Int.mul_assoc, Int.mul_comm D 2, ← hD]; exact hs
  have a1 : D * B ≤ y * B := Int.mul_le_mul_of_nonneg_right p1 (by omega)
  have a2 : (y + 1) * B ≤ C * B := Int.mul_le_mul_of_nonneg_right (by omega) (by omega)
  have a3 : (hi + 1) * B ≤ y * B := Int.mul_le_mul_of_nonneg_right (by omega) (by omega)
  have e1 : (y + 1) * B = y * B + B := by rw [Int.add_mul]; omega
  have e3 : (hi + 1) * B = hi * B + B := by rw [Int.add_mul]; omega
  have e4 : D * B = B * D := Int.mul_comm _ _
  have e5 : C * B = 18446744073709551616 := by rw [Int.mul_comm]; exact hs
  have c1 : 0 ≤ lo / C := Int.ediv_nonneg h2 (by omega)
  have c2 : lo / C < B := Int.ediv_lt_of_lt_mul hC (by omega)
  have c3 : 0 ≤ hi * B := Int.mul_nonneg h0 (by omega)
  refine ⟨by omega, by omega, by omega, by omega, c2, c1, by omega, c3, ?_⟩
  have e := Int.mul_ediv_add_emod lo C
  have l0 := Int.emod_nonneg lo (show C ≠ 0 by omega)
  have l1 := Int.emod_lt_of_pos lo hC
  have k : lo * B = 18446744073709551616 * (lo / C) + (lo % C) * B := by
    have : lo * B = (C * (lo / C) + lo % C) * B := by rw [e]
    rw [this, Int.add_mul, Int.mul_right_comm, e5]
  have m0 : 0 ≤ (lo % C) * B := Int.mul_nonneg l0 (by omega)
  have m1 : (lo % C + 1) * B ≤ C * B := Int.mul_le_mul_of_nonneg_right (by omega) (by omega)
  have m2 : (lo % C + 1) * B = (lo % C) * B + B := by rw [Int.add_mul]; omega
  rw [k]
  generalize (lo % C) * B = z at *
  generalize lo / C = v at *
  omega

/-- The two digits, put together. -/
theorem div_joined {hi lo y B C : Int} (h0 : 0 ≤ hi) (h1 : hi < y) (h2 : 0 ≤ lo) (hB : 0 < B) (hBC : B * C = 18446744073709551616) (g : Shifted hi lo y B C)
    {q1 r1 q0 r0 : Int} (hq1 : q1 = ((hi * B + lo / C) * 4294967296 + ((lo % C) * B) / 4294967296) / (y * B)) (hr1 : r1 = ((hi * B + lo / C) * 4294967296 + ((lo % C) * B) / 4294967296) % (y * B))
    (hq0 : q0 = (r1 * 4294967296 + ((lo % C) * B) % 4294967296) / (y * B)) (hr0 : r0 = (r1 * 4294967296 + ((lo % C) * B) % 4294967296) % (y * B)) :
    IntKind.u64.wrap (IntKind.u64.wrap (q1 * 4294967296) + q0) = (hi * 18446744073709551616 + lo) / y ∧ r0 / B = (hi * 18446744073709551616 + lo) % y := by
  have hC : 0 < C := by
    by_cases hC : 0 < C
    · exact hC
    · have : B * C ≤ B * 0 := Int.mul_le_mul_of_nonneg_left (by omega) (by omega)
      omega
  have hy := g.y0
  have l0 := Int.emod_nonneg lo (show C ≠ 0 by omega)
  have l1 := Int.emod_lt_of_pos lo hC
  have z0 : 0 ≤ (lo % C) * B := Int.mul_nonneg l0 (by omega)
  have z1 : (lo % C) * B < 18446744073709551616 := by
    have := g.lo
    omega
  have N : (hi * 18446744073709551616 + lo) * B = (hi * B + lo / C) * 18446744073709551616 + (lo % C) * B := by
    have e := Int.mul_ediv_add_emod lo C
    have : lo * B = (C * (lo / C) + lo % C) * B := by rw [e]
    rw [Int.add_mul, this, Int.add_mul, Int.mul_right_comm C, Int.mul_comm C B, hBC, Int.mul_right_comm]
    omega
  have E1 := Int.mul_ediv_add_emod ((hi * B + lo / C) * 4294967296 + ((lo % C) * B) / 4294967296) (y * B)
  have R10 := Int.emod_nonneg ((hi * B + lo / C) * 4294967296 + ((lo % C) * B) / 4294967296) (show y * B ≠ 0 by omega)
  have R11 := Int.emod_lt_of_pos ((hi * B + lo / C) * 4294967296 + ((lo % C) * B) / 4294967296) (show 0 < y * B by omega)
  rw [← hq1, ← hr1] at E1
  rw [← hr1] at R10 R11
  have E0 := Int.mul_ediv_add_emod (r1 * 4294967296 + ((lo % C) * B) % 4294967296) (y * B)
  have R00 := Int.emod_nonneg (r1 * 4294967296 + ((lo % C) * B) % 4294967296) (show y * B ≠ 0 by omega)
  have R01 := Int.emod_lt_of_pos (r1 * 4294967296 + ((lo % C) * B) % 4294967296) (show 0 < y * B by omega)
  rw [← hq0, ← hr0] at E0
  rw [← hr0] at R00 R01
  have H0 := g.h0
  have H1 := g.h1
  have Q1a : 0 ≤ q1 := by rw [hq1]; exact Int.ediv_nonneg (by omega) (by omega)
  have Q1b : q1 < 4294967296 := by rw [hq1]; exact Int.ediv_lt_of_lt_mul (by omega) (by omega)
  have Q0a : 0 ≤ q0 := by rw [hq0]; exact Int.ediv_nonneg (by omega) (by omega)
  have Q0b : q0 < 4294967296 := by rw [hq0]; exact Int.ediv_lt_of_lt_mul (by omega) (by omega)
  have T : (hi * 18446744073709551616 + lo) * B = ((q1 * 4294967296 + q0) * y) * B + r0 := by
    have a : ((q1 * 4294967296 + q0) * y) * B = y * B * q1 * 4294967296 + y * B * q0 := by
      rw [Int.mul_assoc, Int.add_mul, Int.mul_comm q0, Int.mul_right_comm, Int.mul_comm q1]
    rw [N, a]
    generalize y * B * q1 = u at *
    generalize y * B * q0 = v at *
    generalize lo % C * B = z at *
    omega
  have D : r0 = (hi * 18446744073709551616 + lo - (q1 * 4294967296 + q0) * y) * B := by
    rw [Int.sub_mul]
    omega
  have F : r0 / B = hi * 18446744073709551616 + lo - (q1 * 4294967296 + q0) * y := by
    rw [D]; exact Int.mul_ediv_cancel _ (by omega)
  have F0 : 0 ≤ r0 / B := Int.ediv_nonneg R00 (by omega)
  have F1 : r0 / B < y := Int.ediv_lt_of_lt_mul hB R01
  have W : IntKind.u64.wrap (IntKind.u64.wrap (q1 * 4294967296) + q0) = q1 * 4294967296 + q0 := by
    rw [u64_wrap, u64_wrap]; omega
  rw [W]
  generalize r0 / B = r at *
  have Z : hi * 18446744073709551616 + lo = r + y * (q1 * 4294967296 + q0) := by rw [Int.mul_comm y]; omega
  rw [Z]
  constructor
  · rw [Int.add_mul_ediv_left _ _ (by omega), Int.ediv_eq_zero_of_lt F0 F1]; omega
  · rw [Int.add_mul_emod_self_left, Int.emod_eq_of_lt F0 F1]

set_option maxHeartbeats 400000 in
set_option maxRecDepth 100000 in
theorem div_calls (hi lo y : Int) (w : World) (h0 : 0 ≤ hi) (h1 : hi < y) (h2 : 0 ≤ lo) (h3 : lo < 18446744073709551616) (h5 : y < 18446744073709551616) :
    Calls Try.prog 93 #[.int .u64 hi, .int .u64 lo, .int .u64 y] w fun e w' => e = .returned (.tuple #[.int .u64 ((hi * 18446744073709551616 + lo) / y), .int .u64 ((hi * 18446744073709551616 + lo) % y), .int .i64 0]) ∧ Drawn w w' := by
  have hy : 0 < y := by omega
  have hl := blen_le h5
  have g := shifted h0 h1 h2 h3 h5
  have hor := or_add hi (lo / (2 : Int) ^ blen y) _ (64 - blen y) rfl h0 (by have := g.h1; have := g.y1; omega) g.r0 g.r1
  have hB : 0 < (2 : Int) ^ (64 - blen y) := Int.pow_pos (by decide)
  have HP := Lib.hid (pow_split (blen y) hl)
  have hw0 : IntKind.u64.wrap (y * (2 : Int) ^ (64 - blen y)) = y * (2 : Int) ^ (64 - blen y) := by rw [u64_wrap]; have := g.y0; have := g.y1; omega
  have hw1 : IntKind.u64.wrap (hi * (2 : Int) ^ (64 - blen y)) = hi * (2 : Int) ^ (64 - blen y) := by rw [u64_wrap]; have := g.w; have := g.hb; omega
  have hw2 : IntKind.u64.wrap (lo * (2 : Int) ^ (64 - blen y)) = (lo % (2 : Int) ^ blen y) * (2 : Int) ^ (64 - blen y) := by rw [u64_wrap]; exact g.lo
  have g1 := g.y0
  have g2 := g.y1
  have g3 := g.h0
  have g4 := g.h1
  have l0 : 0 ≤ lo % (2 : Int) ^ blen y * (2 : Int) ^ (64 - blen y) := by rw [← g.lo]; omega
  have l1 : lo % (2 : Int) ^ blen y * (2 : Int) ^ (64 - blen y) < 18446744073709551616 := by rw [← g.lo]; omega
  go_enter Try.func93, Try.ntmps93
  go_wp2_with ((go_at_call 83; refine (len_calls _ _ (by omega) h5).mono ?_; rintro e w' ⟨rfl, rfl⟩))
  have hk : 64 - (64 - blen y) = blen y := by omega
  go_quiet (fail)
  clear hk
  go_wp2_with (fail)
  generalize hB2 : (2 : Int) ^ (64 - blen y) = B at *
  generalize hC2 : (2 : Int) ^ blen y = C at *
  have HB2 := Lib.hid hB2
  clear hB2 hC2 hw0 hw1 hw2 hor
  refine (digit_calls _ _ _ _ g3 g4 (by omega) (by omega) g1 g2).mono ?_
  rintro e w' ⟨rfl, n1, rfl⟩
  have r0 := Int.emod_nonneg ((hi * B + lo / C) * 4294967296 + (lo % C * B) / 4294967296) (show y * B ≠ 0 by omega)
  have r1 := Int.emod_lt_of_pos ((hi * B + lo / C) * 4294967296 + (lo % C * B) / 4294967296) (show 0 < y * B by omega)
  go_wp2_with (fail)
  refine (digit_calls _ _ _ _ r0 r1 (by omega) (by omega) g1 g2).mono ?_
  rintro e w' ⟨rfl, n2, rfl⟩
  go_wp2_with (fail)
  go_quiet (fail)
  go_wp2_with (fail)
  have J := div_joined h0 h1 h2 hB HP.out g rfl rfl rfl rfl
  rw [HB2.out]
  go_ret3
  exact ⟨ret_three J.1 J.2 rfl, (Drawn.of _ _).drewN _⟩

set_option maxHeartbeats 400000 in
theorem div_zero (hi lo : Int) (w : World) :
    Calls Try.prog 93 #[.int .u64 hi, .int .u64 lo, .int .u64 0] w fun e w' => e = .returned (.tuple #[.int .u64 0, .int .u64 0, .int .i64 3]) ∧ Drawn w w' := by
  go_enter Try.func93, Try.ntmps93
  go_wp2_with (fail)
  go_ret3
  exact ⟨rfl, 0, rfl⟩

set_option maxHeartbeats 400000 in
theorem div_over (hi lo y : Int) (w : World) (h0 : 0 < y) (h1 : y ≤ hi) :
    Calls Try.prog 93 #[.int .u64 hi, .int .u64 lo, .int .u64 y] w fun e w' => e = .returned (.tuple #[.int .u64 0, .int .u64 0, .int .i64 2]) ∧ Drawn w w' := by
  go_enter Try.func93, Try.ntmps93
  go_wp2_with (fail)
  go_ret3
  exact ⟨rfl, 0, rfl⟩
end Go.Proofs.Ytchjjbklkmfelaa
