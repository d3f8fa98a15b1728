/- The statements of layer 1 (limb) as Go functions: whatever the limbs, each answers true, and leaves what was there as it was. -/
import Derived.Test.YtoljemjnhomomaaLaw1
namespace Go.Proofs.Ytoljemjnhomomaa
open Go.RowKit
set_option linter.unusedVariables false
set_option linter.unusedSimpArgs false


theorem dig_many {n : Nat} (h : 18446744073709551616 ≤ n) : 4 < (dig n).length := by
  have := dig_lt n
  by_cases hl : (dig n).length ≤ 4
  · have h2 := Nat.lt_of_lt_of_le this (Nat.pow_le_pow_right (show 0 < 65536 by decide) hl)
    omega
  · omega

theorem dig_few {n : Nat} (h : n < 18446744073709551616) : (dig n).length ≤ 4 := dig_len_le (by omega)

set_option maxHeartbeats 2000000 in
set_option maxRecDepth 100000 in
theorem limbDivs_calls (hi lo y : Int) (w : World) (h0 : 0 ≤ hi) (h1 : hi < 18446744073709551616) (l0 : 0 ≤ lo) (l1 : lo < 18446744073709551616) (y0 : 0 ≤ y) (y1 : y < 18446744073709551616) :
    Calls Try.prog 3 #[.int .u64 hi, .int .u64 lo, .int .u64 y] w (Yes w) := by
  by_cases hy : y = 0
  · subst hy
    go_enter Try.func3, Try.ntmps3
    go_wp2_with fail
    refine (lives1_calls _).mono ?_
    rintro e w' ⟨rfl, n1, rfl⟩
    go_wp2_with fail
    refine (div_zero _ _ _).mono ?_
    rintro e w' ⟨rfl, n2, rfl⟩
    go_wp2_with fail
    go_ret
    exact ⟨rfl, below_drewN (Below.refl _ _) _⟩
  · have hyb : (y == 0) = false := beq_eq_false_iff_ne.2 hy
    have hy2 : 0 < y := by omega
    have hs : (dig (hi.toNat * 18446744073709551616 + lo.toNat)).length ≤ 100000 := Nat.le_trans (dig_len_le (k := 8) (by omega)) (by decide)
    have HS := Lib.hid hs
    have HY := Lib.hid (dig_len_limb y1)
    clear hy hs
    by_cases hlt : y ≤ hi
    · have hm : 4 < (dig ((hi.toNat * 18446744073709551616 + lo.toNat) / y.toNat)).length := dig_many (by
        rw [Nat.le_div_iff_mul_le (by omega)]
        have : 18446744073709551616 * y.toNat ≤ 18446744073709551616 * hi.toNat := Nat.mul_le_mul_left _ (by omega)
        omega)
      have HM := Lib.hid hm
      clear hm
      go_enter Try.func3, Try.ntmps3
      go_wp2_with fail
      refine (lives1_calls _).mono ?_
      rintro e w' ⟨rfl, n1, rfl⟩
      go_wp2_with fail
      refine (div_over _ _ _ _ hy2 hlt).mono ?_
      rintro e w' ⟨rfl, n2, rfl⟩
      go_wp2_with fail
      refine (pair_calls _ _ _ h0 h1 l0 l1).mono ?_
      rintro e w1 ⟨v1, rfl, r1, f1, b1⟩
      go_wp2_with fail
      refine (of_calls _ _ y0 y1).mono ?_
      rintro e w2 ⟨v2, rfl, r2, f2, b2⟩
      go_wp2_with fail
      refine (refdiv_calls _ _ _ _ _ (r1.below b2) r2 HS.out (by have := HY.out; omega) (by omega)).mono ?_
      rintro e w3 ⟨v3, v4, rfl, r3, r4, b3⟩
      obtain ⟨A, c, rfl, c1, c2, -⟩ := r3
      have hm := HM.out
      generalize (dig ((hi.toNat * 18446744073709551616 + lo.toNat) / y.toNat)).length = L at *
      unfold maxLen at c2
      go_wp2_with fail
      go_ret
      exact ⟨rfl, below_row (below_row (below_row (below_drewN (Below.refl _ _) _) b1) b2) b3⟩
    · have hN : ((hi.toNat * 18446744073709551616 + lo.toNat) / y.toNat) = ((hi * 18446744073709551616 + lo) / y).toNat := by
        obtain ⟨a, rfl⟩ := Int.eq_ofNat_of_zero_le h0
        obtain ⟨b, rfl⟩ := Int.eq_ofNat_of_zero_le l0
        obtain ⟨d, rfl⟩ := Int.eq_ofNat_of_zero_le y0
        simp only [Int.toNat_natCast]
        rw [show ((a : Int) * 18446744073709551616 + (b : Int)) = ((a * 18446744073709551616 + b : Nat) : Int) by omega, ← Int.natCast_ediv, Int.toNat_natCast]
      have hR : ((hi.toNat * 18446744073709551616 + lo.toNat) % y.toNat) = ((hi * 18446744073709551616 + lo) % y).toNat := by
        obtain ⟨a, rfl⟩ := Int.eq_ofNat_of_zero_le h0
        obtain ⟨b, rfl⟩ := Int.eq_ofNat_of_zero_le l0
        obtain ⟨d, rfl⟩ := Int.eq_ofNat_of_zero_le y0
        simp only [Int.toNat_natCast]
        rw [show ((a : Int) * 18446744073709551616 + (b : Int)) = ((a * 18446744073709551616 + b : Nat) : Int) by omega, ← Int.natCast_emod, Int.toNat_natCast]
      have q0 : 0 ≤ (hi * 18446744073709551616 + lo) / y := Int.ediv_nonneg (by omega) (by omega)
      have q1 : (hi * 18446744073709551616 + lo) / y < 18446744073709551616 := Int.ediv_lt_of_lt_mul hy2 (by
        have : (hi + 1) * 18446744073709551616 ≤ y * 18446744073709551616 := Int.mul_le_mul_of_nonneg_right (by omega) (by omega)
        rw [Int.mul_comm 18446744073709551616]
        omega)
      have r0 := Int.emod_nonneg (hi * 18446744073709551616 + lo) (show y ≠ 0 by omega)
      have r1 := Int.emod_lt_of_pos (hi * 18446744073709551616 + lo) hy2
      have hD := div_calls hi lo y
      generalize (hi * 18446744073709551616 + lo) / y = q at *
      generalize (hi * 18446744073709551616 + lo) % y = r at *
      have HN := Lib.hid hN
      have HR := Lib.hid hR
      have HM := Lib.hid (dig_few (n := q.toNat) (by omega))
      have HD := Lib.hid hD
      clear hN hR hD
      go_enter Try.func3, Try.ntmps3
      go_wp2_with fail
      refine (lives1_calls _).mono ?_
      rintro e w' ⟨rfl, n1, rfl⟩
      go_wp2_with fail
      refine (HD.out _ h0 (by omega) l0 l1 y1).mono ?_
      rintro e w' ⟨rfl, n2, rfl⟩
      go_wp2_with fail
      refine (pair_calls _ _ _ h0 h1 l0 l1).mono ?_
      rintro e w1 ⟨v1, rfl, s1, f1, b1⟩
      go_wp2_with fail
      refine (of_calls _ _ y0 y1).mono ?_
      rintro e w2 ⟨v2, rfl, s2, f2, b2⟩
      go_wp2_with fail
      refine (refdiv_calls _ _ _ _ _ (s1.below b2) s2 HS.out (by have := HY.out; omega) (by omega)).mono ?_
      rintro e w3 ⟨v3, v4, rfl, s3, s4, b3⟩
      rw [HN.out] at s3
      rw [HR.out] at s4
      obtain ⟨A, c, rfl, c1, c2, -⟩ := id s3
      have hm := HM.out
      have S3 := Lib.hid s3
      clear s3
      obtain ⟨L, hL⟩ : ∃ L, L = (dig q.toNat).length := ⟨_, rfl⟩
      rw [← hL] at hm c1 S3 ⊢
      clear hL
      unfold maxLen at c2
      go_wp2_with fail
      refine (of_calls _ _ q0 q1).mono ?_
      rintro e w4 ⟨v5, rfl, s5, f5, b4⟩
      go_wp2_with fail
      refine (same_calls _ _ _ _ _ s5 (S3.out.below b4)).mono ?_
      rintro e w' ⟨rfl, rfl⟩
      rw [decide_eq_true rfl]
      go_wp2_with fail
      refine (of_calls _ _ r0 (by omega)).mono ?_
      rintro e w5 ⟨v6, rfl, s6, f6, b5⟩
      go_wp2_with fail
      refine (same_calls _ _ _ _ _ s6 ((s4.below b4).below b5)).mono ?_
      rintro e w' ⟨rfl, rfl⟩
      rw [decide_eq_true rfl]
      go_wp2_with fail
      go_ret
      exact ⟨rfl, below_row (below_row (below_row (below_row (below_row (below_drewN (Below.refl _ _) _) b1) b2) b3) b4) b5⟩

set_option maxHeartbeats 1000000 in
set_option maxRecDepth 100000 in
theorem limbLens_calls (x : Int) (w : World) (h0 : 0 ≤ x) (h1 : x < 18446744073709551616) :
    Calls Try.prog 4 #[.int .u64 x] w (Yes w) := by
  by_cases hx : x = 0
  · subst hx
    go_enter Try.func4, Try.ntmps4
    go_wp2_with fail
    refine (lives1_calls _).mono ?_
    rintro e w' ⟨rfl, n1, rfl⟩
    go_wp2_with fail
    refine (len_calls _ _ (by omega) (by omega)).mono ?_
    rintro e w' ⟨rfl, rfl⟩
    rw [blen_zero]
    go_wp2_with fail
    go_ret
    exact ⟨rfl, below_drewN (Below.refl _ _) _⟩
  · obtain ⟨p1, p2, p3⟩ := blen_pow (show 1 ≤ x by omega)
    have hl := blen_le h1
    have hC := len_calls x (h0 := h0) (h1 := h1)
    generalize blen x = n at *
    obtain ⟨m, rfl⟩ : ∃ m, n = m + 1 := ⟨n - 1, by omega⟩
    have hq : x / (2 : Int) ^ m = 1 := by
      rw [Nat.add_sub_cancel] at p1
      rw [Int.pow_succ] at p2
      have hp : 0 < (2 : Int) ^ m := Int.pow_pos (by decide)
      generalize (2 : Int) ^ m = p at *
      have e : x = (x - p) + p * 1 := by omega
      rw [e, Int.add_mul_ediv_left _ _ (by omega), Int.ediv_eq_zero_of_lt (by omega) (by omega)]
      rfl
    have HC := Lib.hid hC
    clear hC p1 p2 p3 hx
    have hn0 : (((m : Int) + 1) == 0) = false := beq_eq_false_iff_ne.2 (by omega)
    have hn1 : (0 ≤ (m : Int) + 1) := by omega
    go_enter Try.func4, Try.ntmps4
    go_wp2_with fail
    refine (lives1_calls _).mono ?_
    rintro e w' ⟨rfl, n1, rfl⟩
    go_wp2_with fail
    refine (HC.out _).mono ?_
    rintro e w' ⟨rfl, rfl⟩
    go_wp2_with fail
    go_ret
    exact ⟨rfl, below_drewN (Below.refl _ _) _⟩

set_option maxHeartbeats 1000000 in
set_option maxRecDepth 100000 in
theorem limbMuls_calls (a b : Int) (w : World) (a0 : 0 ≤ a) (a1 : a < 18446744073709551616) (b0 : 0 ≤ b) (b1 : b < 18446744073709551616) :
    Calls Try.prog 5 #[.int .u64 a, .int .u64 b] w (Yes w) := by
  have hab : a * b < 340282366920938463463374607431768211456 := by
    have h1 : a * b ≤ 18446744073709551615 * b := Int.mul_le_mul_of_nonneg_right (by omega) b0
    omega
  have hab0 : 0 ≤ a * b := Int.mul_nonneg a0 b0
  have hN : (a * b / 18446744073709551616).toNat * 18446744073709551616 + (a * b % 18446744073709551616).toNat = a.toNat * b.toNat := by
    rw [← Int.toNat_mul a0 b0]
    generalize a * b = p at *
    omega
  have s1 := dig_len_limb a1
  have s2 := dig_len_limb b1
  have h0 : 0 ≤ a * b / 18446744073709551616 := by omega
  have h1 : a * b / 18446744073709551616 < 18446744073709551616 := by omega
  have l0 : 0 ≤ a * b % 18446744073709551616 := by omega
  have l1 : a * b % 18446744073709551616 < 18446744073709551616 := by omega
  have HM := Lib.hid (lmul_calls a b)
  generalize a * b / 18446744073709551616 = hi at *
  generalize a * b % 18446744073709551616 = lo at *
  have HN := Lib.hid hN
  clear hN hab hab0
  go_enter Try.func5, Try.ntmps5
  go_wp2_with fail
  refine (lives1_calls _).mono ?_
  rintro e w' ⟨rfl, n1, rfl⟩
  go_wp2_with fail
  refine (HM.out _ a0 a1 b0 b1).mono ?_
  rintro e w' ⟨rfl, n2, rfl⟩
  go_wp2_with fail
  refine (pair_calls _ _ _ h0 h1 l0 l1).mono ?_
  rintro e w1 ⟨v1, rfl, r1, f1, b1'⟩
  rw [HN.out] at r1
  go_wp2_with fail
  refine (of_calls _ _ a0 a1).mono ?_
  rintro e w2 ⟨v2, rfl, r2, f2, b2'⟩
  go_wp2_with fail
  refine (of_calls _ _ b0 b1).mono ?_
  rintro e w3 ⟨v3, rfl, r3, f3, b3'⟩
  go_wp2_with fail
  refine (mul_calls _ _ _ _ _ (r2.below b3') r3 (by omega) (by omega)).mono ?_
  rintro e w4 ⟨v4, rfl, r4, f4, b4'⟩
  go_wp2_with fail
  refine (same_calls _ _ _ _ _ (((r1.below b2').below b3').below b4') r4).mono ?_
  rintro e w' ⟨rfl, rfl⟩
  rw [decide_eq_true rfl]
  go_wp2_with fail
  go_ret
  exact ⟨rfl, below_row (below_row (below_row (below_row (below_drewN (Below.refl _ _) _) b1') b2') b3') b4'⟩

set_option maxHeartbeats 2000000 in
set_option maxRecDepth 100000 in
theorem limbAdds_calls (a b c : Int) (w : World) (a0 : 0 ≤ a) (a1 : a < 18446744073709551616) (b0 : 0 ≤ b) (b1 : b < 18446744073709551616) (_c0 : 0 ≤ c) (_c1 : c < 18446744073709551616) :
    Calls Try.prog 6 #[.int .u64 a, .int .u64 b, .int .u64 c] w (Yes w) := by
  have s0 : 0 ≤ addS a b c := by unfold addS; omega
  have s1 : addS a b c < 18446744073709551616 := by unfold addS; omega
  have d0 : 0 ≤ subS a b c := by unfold subS; omega
  have d1 : subS a b c < 18446744073709551616 := by unfold subS; omega
  have hc : (c = 0 ∧ cin c = 0) ∨ (c ≠ 0 ∧ cin c = 1) := by
    by_cases h : c = 0
    · exact .inl ⟨h, by rw [h]; rfl⟩
    · exact .inr ⟨h, cin_one h⟩
  have o0 : 0 ≤ addO a b c ∧ addO a b c ≤ 1 := by unfold addO; omega
  have p0 : 0 ≤ subO a b c ∧ subO a b c ≤ 1 := by unfold subO; split <;> omega
  have e1 : (addO a b c).toNat * 18446744073709551616 + (addS a b c).toNat = a.toNat + (b.toNat + (cin c).toNat) := by unfold addO addS; omega
  have e2 : (subS a b c).toNat + (b.toNat + (cin c).toNat) = (subO a b c).toNat * 18446744073709551616 + a.toNat := by unfold subO subS; split <;> omega
  have la := dig_len_limb a1
  have lb := dig_len_limb b1
  have l1 : (dig (b.toNat + (cin c).toNat)).length ≤ 1000000 := Nat.le_trans (dig_len_le (k := 5) (by omega)) (by decide)
  have l2 : (dig (subS a b c).toNat).length ≤ 4 := dig_len_limb d1
  obtain ⟨o0, o1⟩ := o0
  obtain ⟨p0, p1⟩ := p0
  have HA := Lib.hid (ladd_calls a b c)
  have HS := Lib.hid (lsub_calls a b c)
  generalize addS a b c = s at *
  generalize addO a b c = o at *
  generalize subS a b c = d at *
  generalize subO a b c = p at *
  have E1 := Lib.hid e1
  have E2 := Lib.hid e2
  have L1 := Lib.hid l1
  have L2 := Lib.hid l2
  clear e1 e2 l1 l2
  rcases hc with ⟨hc, hcin⟩ | ⟨hc, hcin⟩
  · subst hc
    have HC := Lib.hid hcin
    have HONE : ∀ (w : World) (n : Nat), Row ((w.drewN n).alloc (.cells #[] 3)) (.slice (some ⟨w.heap.size, 0, none⟩) 0 0) (dig (cin 0).toNat) := by
      intro w n
      rw [hcin, show (0 : Int).toNat = 0 from rfl, dig_zero]
      exact ⟨some ⟨w.heap.size, 0, none⟩, 0, rfl, Nat.le_refl _, by unfold maxLen; omega, .inl rfl⟩
    have BASE : ∀ (w : World) (n : Nat), Below w.heap.size w ((w.drewN n).alloc (.cells #[] 3)) := fun w n => (below_drewN (Below.refl _ _) n).alloc (Nat.le_refl _) _
    have HH := Lib.hid HONE
    have HB := Lib.hid BASE
    clear hcin HONE BASE
    go_enter Try.func6, Try.ntmps6
    go_wp2_with fail
    refine (lives1_calls _).mono ?_
    rintro e w' ⟨rfl, n1, rfl⟩
    go_wp2_with fail
    refine (HA.out _ a0 a1 b0 b1).mono ?_
    rintro e w' ⟨rfl, rfl⟩
    go_wp2_with fail
    refine (of_calls _ _ a0 a1).mono ?_
    rintro e w1 ⟨v1, rfl, r1, f1, b1'⟩
    go_wp2_with fail
    refine (of_calls _ _ b0 b1).mono ?_
    rintro e w2 ⟨v2, rfl, r2, f2, b2'⟩
    have ro : Row w2 _ (dig (cin 0).toNat) := ((HH.out w n1).below b1').below b2'
    go_wp2_with fail
    refine (add_calls _ _ _ _ _ r2 ro (by omega) (by rw [HC.out]; rw [show (0 : Int).toNat = 0 from rfl, dig_zero]; simp)).mono ?_
    rintro e w3 ⟨v3, rfl, r3, f3, b3'⟩
    go_wp2_with fail
    refine (pair_calls _ _ _ o0 (by omega) s0 s1).mono ?_
    rintro e w4 ⟨v4, rfl, r4, f4, b4'⟩
    go_wp2_with fail
    refine (add_calls _ _ _ _ _ (((r1.below b2').below b3').below b4') (r3.below b4') (by omega) L1.out).mono ?_
    rintro e w5 ⟨v5, rfl, r5, f5, b5'⟩
    go_wp2_with fail
    refine (same_calls _ _ _ _ _ (r4.below b5') r5).mono ?_
    rintro e w' ⟨rfl, rfl⟩
    rw [decide_eq_true E1.out]
    go_wp2_with fail
    refine (HS.out _ a0 a1 b0 b1).mono ?_
    rintro e w' ⟨rfl, rfl⟩
    go_wp2_with fail
    refine (of_calls _ _ d0 d1).mono ?_
    rintro e w6 ⟨v6, rfl, r6, f6, b6'⟩
    go_wp2_with fail
    refine (add_calls _ _ _ _ _ r6 (((r3.below b4').below b5').below b6') (by have := L2.out; omega) L1.out).mono ?_
    rintro e w7 ⟨v7, rfl, r7, f7, b7'⟩
    go_wp2_with fail
    refine (pair_calls _ _ _ p0 (by omega) a0 a1).mono ?_
    rintro e w8 ⟨v8, rfl, r8, f8, b8'⟩
    go_wp2_with fail
    refine (same_calls _ _ _ _ _ (r7.below b8') r8).mono ?_
    rintro e w' ⟨rfl, rfl⟩
    rw [decide_eq_true E2.out]
    go_wp2_with fail
    go_ret
    exact ⟨rfl, below_row (below_row (below_row (below_row (below_row (below_row (below_row (below_row (HB.out w n1) b1') b2') b3') b4') b5') b6') b7') b8'⟩
  · have hcb : (c != 0) = true := bne_iff_ne.2 hc
    have HC := Lib.hid hcin
    have HONE : ∀ (w : World) (n : Nat), Row (((w.drewN n).alloc (.cells #[] 3)).alloc (.cells #[.int .i64 1] 3)) (.slice (some ⟨w.heap.size + 1, 0, none⟩) 1 1) (dig (cin c).toNat) := by
      intro w n
      rw [hcin, show (1 : Int).toNat = 1 from rfl]
      have := row_one ((w.drewN n).alloc (.cells #[] 3))
      simpa using this
    have BASE : ∀ (w : World) (n : Nat), Below w.heap.size w (((w.drewN n).alloc (.cells #[] 3)).alloc (.cells #[.int .i64 1] 3)) := fun w n => ((below_drewN (Below.refl _ _) n).alloc (Nat.le_refl _) _).alloc (by simp) _
    have HH := Lib.hid HONE
    have HB := Lib.hid BASE
    clear hcin HONE BASE hc
    go_enter Try.func6, Try.ntmps6
    go_wp2_with fail
    refine (lives1_calls _).mono ?_
    rintro e w' ⟨rfl, n1, rfl⟩
    go_wp2_with fail
    refine (HA.out _ a0 a1 b0 b1).mono ?_
    rintro e w' ⟨rfl, rfl⟩
    go_wp2_with fail
    refine (of_calls _ _ a0 a1).mono ?_
    rintro e w1 ⟨v1, rfl, r1, f1, b1'⟩
    go_wp2_with fail
    refine (of_calls _ _ b0 b1).mono ?_
    rintro e w2 ⟨v2, rfl, r2, f2, b2'⟩
    have ro : Row w2 _ (dig (cin c).toNat) := ((HH.out w n1).below b1').below b2'
    go_wp2_with fail
    refine (add_calls _ _ _ _ _ r2 ro (by omega) (by rw [HC.out]; rw [show (1 : Int).toNat = 1 from rfl, dig_one]; simp)).mono ?_
    rintro e w3 ⟨v3, rfl, r3, f3, b3'⟩
    go_wp2_with fail
    refine (pair_calls _ _ _ o0 (by omega) s0 s1).mono ?_
    rintro e w4 ⟨v4, rfl, r4, f4, b4'⟩
    go_wp2_with fail
    refine (add_calls _ _ _ _ _ (((r1.below b2').below b3').below b4') (r3.below b4') (by omega) L1.out).mono ?_
    rintro e w5 ⟨v5, rfl, r5, f5, b5'⟩
    go_wp2_with fail
    refine (same_calls _ _ _ _ _ (r4.below b5') r5).mono ?_
    rintro e w' ⟨rfl, rfl⟩
    rw [decide_eq_true E1.out]
    go_wp2_with fail
    refine (HS.out _ a0 a1 b0 b1).mono ?_
    rintro e w' ⟨rfl, rfl⟩
    go_wp2_with fail
    refine (of_calls _ _ d0 d1).mono ?_
    rintro e w6 ⟨v6, rfl, r6, f6, b6'⟩
    go_wp2_with fail
    refine (add_calls _ _ _ _ _ r6 (((r3.below b4').below b5').below b6') (by have := L2.out; omega) L1.out).mono ?_
    rintro e w7 ⟨v7, rfl, r7, f7, b7'⟩
    go_wp2_with fail
    refine (pair_calls _ _ _ p0 (by omega) a0 a1).mono ?_
    rintro e w8 ⟨v8, rfl, r8, f8, b8'⟩
    go_wp2_with fail
    refine (same_calls _ _ _ _ _ (r7.below b8') r8).mono ?_
    rintro e w' ⟨rfl, rfl⟩
    rw [decide_eq_true E2.out]
    go_wp2_with fail
    go_ret
    exact ⟨rfl, below_row (below_row (below_row (below_row (below_row (below_row (below_row (below_row (HB.out w n1) b1') b2') b3') b4') b5') b6') b7') b8'⟩

set_option maxHeartbeats 400000 in
set_option maxRecDepth 100000 in
theorem limbBack_calls (a b left : Int) (w : World) (a0 : 0 ≤ a) (a1 : a < 18446744073709551616) (b0 : 0 ≤ b) (b1 : b < 18446744073709551616) (l0 : 0 ≤ left) (l1 : left < 18446744073709551616) :
    Calls Try.prog 7 #[.int .u64 a, .int .u64 b, .int .u64 left] w (Yes w) := by
  have s0 : 0 ≤ addS a b left := by unfold addS; omega
  have s1 : addS a b left < 18446744073709551616 := by unfold addS; omega
  have hc : 0 ≤ cin left ∧ cin left ≤ 1 := by unfold cin; split <;> omega
  have e1 : subS (addS a b left) b left = a := by unfold subS addS; omega
  have e2 : subO (addS a b left) b left = addO a b left := by
    unfold subO addS addO
    split <;> omega
  have HA := Lib.hid (ladd_calls a b left)
  have HS := Lib.hid (lsub_calls (addS a b left) b left)
  rw [e1, e2] at HS
  generalize addS a b left = s at *
  generalize addO a b left = o at *
  clear e1 e2 hc
  by_cases hb : b = 0
  · subst hb
    go_enter Try.func7, Try.ntmps7
    go_wp2_with fail
    refine (lives1_calls _).mono ?_
    rintro e w' ⟨rfl, n1, rfl⟩
    go_wp2_with fail
    refine (HA.out _ a0 a1 b0 b1).mono ?_
    rintro e w' ⟨rfl, rfl⟩
    go_wp2_with fail
    refine (HS.out _ s0 s1 b0 b1).mono ?_
    rintro e w' ⟨rfl, rfl⟩
    go_wp2_with fail
    go_ret
    exact ⟨rfl, below_drewN (Below.refl _ _) _⟩
  · have hbb : (b == 0) = false := beq_eq_false_iff_ne.2 hb
    have hb2 : 0 < b := by omega
    clear hb
    have m0 := Int.emod_nonneg left (show b ≠ 0 by omega)
    have m1 := Int.emod_lt_of_pos left hb2
    have hab : a * b ≤ 18446744073709551615 * b := Int.mul_le_mul_of_nonneg_right (by omega) b0
    have hab0 : 0 ≤ a * b := Int.mul_nonneg a0 b0
    have hdm : (a * b + left % b) / b = a ∧ (a * b + left % b) % b = left % b := by
      rw [Int.add_comm, Int.mul_comm]
      constructor
      · rw [Int.add_mul_ediv_left _ _ (by omega), Int.ediv_eq_zero_of_lt m0 m1]; omega
      · rw [Int.add_mul_emod_self_left, Int.emod_eq_of_lt m0 m1]
    have hM := lmul_calls a b
    generalize hlr : left % b = r at *
    have hbh : a * b + r < b * 18446744073709551616 := by omega
    generalize a * b = p at *
    have hi0 : 0 ≤ p / 18446744073709551616 := by omega
    have lo0 : 0 ≤ p % 18446744073709551616 := by omega
    have lo1 : p % 18446744073709551616 < 18446744073709551616 := by omega
    have ha2 : addS (p % 18446744073709551616) r 0 = (p + r) % 18446744073709551616 := by unfold addS; rw [cin_zero]; omega
    have hb3 : addO (p % 18446744073709551616) r 0 + p / 18446744073709551616 = (p + r) / 18446744073709551616 := by unfold addO; rw [cin_zero]; omega
    have hb4 : 0 ≤ addO (p % 18446744073709551616) r 0 := by unfold addO; rw [cin_zero]; omega
    have hA2 := ladd_calls (p % 18446744073709551616) r 0
    rw [ha2] at hA2
    have hD := div_calls ((p + r) / 18446744073709551616) ((p + r) % 18446744073709551616) b
    rw [show (p + r) / 18446744073709551616 * 18446744073709551616 + (p + r) % 18446744073709551616 = p + r by omega, hdm.1, hdm.2] at hD
    have hh0 : 0 ≤ (p + r) / 18446744073709551616 := by omega
    have hh1 : (p + r) / 18446744073709551616 < b := by omega
    have ll0 : 0 ≤ (p + r) % 18446744073709551616 := by omega
    have ll1 : (p + r) % 18446744073709551616 < 18446744073709551616 := by omega
    have hw : p / 18446744073709551616 + addO (p % 18446744073709551616) r 0 = (p + r) / 18446744073709551616 := by omega
    have HW := Lib.hid hw
    have HM := Lib.hid hM
    have HA2 := Lib.hid hA2
    have HD := Lib.hid hD
    have hh2 : p / 18446744073709551616 + addO (p % 18446744073709551616) r 0 < 18446744073709551616 := by omega
    generalize (p + r) / 18446744073709551616 = hh at *
    generalize (p + r) % 18446744073709551616 = ll at *
    generalize addO (p % 18446744073709551616) r 0 = oo at *
    generalize p / 18446744073709551616 = hi at *
    generalize p % 18446744073709551616 = lo at *
    clear hM hA2 hD hw hb3 ha2 hdm
    go_enter Try.func7, Try.ntmps7
    go_wp2_with fail
    refine (lives1_calls _).mono ?_
    rintro e w' ⟨rfl, n1, rfl⟩
    go_wp2_with fail
    refine (HA.out _ a0 a1 b0 b1).mono ?_
    rintro e w' ⟨rfl, rfl⟩
    go_wp2_with fail
    refine (HS.out _ s0 s1 b0 b1).mono ?_
    rintro e w' ⟨rfl, rfl⟩
    go_wp2_with fail
    refine (HM.out _ a0 a1 b0 b1).mono ?_
    rintro e w' ⟨rfl, n2, rfl⟩
    go_wp2_with fail
    refine (HA2.out _ lo0 lo1 m0 (by omega)).mono ?_
    rintro e w' ⟨rfl, rfl⟩
    go_wp2_with fail
    rw [HW.out]
    refine (HD.out _ hh0 hh1 ll0 ll1 b1).mono ?_
    rintro e w' ⟨rfl, n3, rfl⟩
    go_wp2_with fail
    go_ret
    exact ⟨rfl, below_drewN (Below.refl _ _) _⟩
end Go.Proofs.Ytoljemjnhomomaa
