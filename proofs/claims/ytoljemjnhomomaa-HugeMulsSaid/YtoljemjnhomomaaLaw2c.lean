/- HugeMuls: product and quotient. -/
import Derived.Test.YtoljemjnhomomaaLaw2b
import Derived.Test.YtoljemjnhomomaaShort
namespace Go.Proofs.Ytoljemjnhomomaa
open Go.RowKit Go.Lib
set_option linter.unusedVariables false
set_option linter.unusedSimpArgs false

set_option maxHeartbeats 1000000 in
set_option maxRecDepth 100000 in
theorem hugeMuls0_calls (a b : Nat) (w : World) (ha : a < 18446744073709551616 ^ 4) (hb : b < 18446744073709551616 ^ 4) :
    Calls Try.prog 12 #[bigN a, bigN b, .int .u64 0] w (Yes w) := by
  have la : (dig a).length ≤ 16 := dig_len_le (k := 16) (by rw [show (65536 : Nat) ^ 16 = 18446744073709551616 ^ 4 by decide]; exact ha)
  have lb : (dig b).length ≤ 16 := dig_len_le (k := 16) (by rw [show (65536 : Nat) ^ 16 = 18446744073709551616 ^ 4 by decide]; exact hb)
  have lab : (dig (a * b)).length ≤ 1000000 := Nat.le_trans (dig_len_le (k := 32) (by
    have := Nat.mul_lt_mul'' ha hb
    rw [show (65536 : Nat) ^ 32 = 18446744073709551616 ^ 4 * 18446744073709551616 ^ 4 by decide]; exact this)) (by decide)
  have T0 := AB.start w a b
  have Q0 : Below w.heap.size w ((w.alloc (row4 (limb a))).alloc (row4 (limb b))) := ((Below.refl _ _).alloc (Nat.le_refl _) _).alloc (by simp) _
  have hmul := fun w => hmul_calls a b w ha hb
  simp only [sumV_kept] at hmul
  have HMul := Lib.hid hmul
  have HRa := Lib.hid (show ∀ w, Calls Try.prog 29 #[.agg #[.int .u64 (limb a 0), .int .u64 (limb a 1), .int .u64 (limb a 2), .int .u64 (limb a 3)]] w (Gives w a) from fun w => rowof_calls a w ha)
  have HRb := Lib.hid (show ∀ w, Calls Try.prog 29 #[.agg #[.int .u64 (limb b 0), .int .u64 (limb b 1), .int .u64 (limb b 2), .int .u64 (limb b 3)]] w (Gives w b) from fun w => rowof_calls b w hb)
  have HMr := Lib.hid (fun v v' w h1 h2 => mul_calls v v' a b w h1 h2 (Nat.le_trans la (by decide)) (Nat.le_trans lb (by decide)))
  have HIs := Lib.hid (fun v w h => is_calls v (a * b) w h lab)
  have HLA := Lib.hid la
  have HA := Lib.hid ha
  clear ha hb lab hmul la lb
  have HSh := Lib.hid (fun w => short_zero a w)
  go_enter Try.func12, Try.ntmps12
  go_wp2_with fail
  refine (lives2_calls _).mono ?_
  rintro e w1 ⟨rfl, hb1⟩
  have T1 := T0.later hb1
  have Q1 := Q0.trans (hb1.mono Q0.size)
  clear T0 Q0 hb1
  obtain ⟨a0, a1, a2, a3, b0, b1, b2, b3⟩ := T1.cells
  go_wp2_with fail
  clear a0 a1 a2 a3 b0 b1 b2 b3
  refine (HRa.out _).mono ?_
  rintro e w2 ⟨v1, rfl, r1, f1, hb2⟩
  have T2 := T1.later hb2
  have Q2 := Q1.trans (hb2.mono Q1.size)
  obtain ⟨a0, a1, a2, a3, b0, b1, b2, b3⟩ := T2.cells
  go_wp2_with fail
  clear a0 a1 a2 a3 b0 b1 b2 b3
  refine (HMul.out _).mono ?_
  rintro e w4 ⟨rfl, hb4⟩
  have T4 := (T2.later hb4).alloc (row4 (limb (kept (a * b))))
  have U4 := Box.new w4 (kept (a * b))
  have Q4 := (Q2.trans (hb4.mono Q2.size)).alloc (Nat.le_trans Q2.size hb4.size) (row4 (limb (kept (a * b))))
  have ra := ((r1.below hb4).below ((Below.refl _ w4).alloc (Nat.le_refl _) (row4 (limb (kept (a * b))))))
  obtain ⟨a0, a1, a2, a3, b0, b1, b2, b3⟩ := (T2.later hb4).cells
  have lx := (T2.later hb4).x.lt
  have ly := (T2.later hb4).y.lt
  clear T1 T2 Q1 Q2 hb2 hb4 r1 f1
  go_wp2_with fail
  clear a0 a1 a2 a3 b0 b1 b2 b3 lx ly
  obtain ⟨W4, hW4⟩ : ∃ W, w4.alloc (row4 (limb (kept (a * b)))) = W := ⟨_, rfl⟩
  dsimp only [row4] at hW4
  rw [hW4]
  dsimp only [row4] at T4 U4 Q4 ra
  rw [hW4] at T4 U4 Q4 ra
  clear hW4
  generalize w4.heap.size = s at *
  generalize hS : a * b = S at *
  clear hS
  refine (HSh.out _).mono ?_
  rintro e w5 ⟨rfl, hb5⟩
  have T5 := (T4.later hb5).alloc (row4 (limb 0))
  have U5 := (U4.later hb5).alloc (row4 (limb 0))
  have V5 := Box.new w5 0
  have Q5 := (Q4.trans (hb5.mono Q4.size)).alloc (Nat.le_trans Q4.size hb5.size) (row4 (limb 0))
  have ra5 := ((ra.below hb5).below ((Below.refl _ w5).alloc (Nat.le_refl _) (row4 (limb 0))))
  clear T4 U4 Q4 ra hb5 HSh
  go_wp2_with fail
  obtain ⟨W5, hW5⟩ : ∃ W, w5.alloc (row4 (limb 0)) = W := ⟨_, rfl⟩
  dsimp only [row4] at hW5
  rw [hW5]
  dsimp only [row4] at T5 U5 V5 Q5 ra5
  rw [hW5] at T5 U5 V5 Q5 ra5
  clear hW5
  generalize w5.heap.size = t at *
  go_region_held3 (fun w' => w'.cell? ⟨s, 0, none⟩ = some (.int .u64 (limb (kept S) 0)) ∧ w'.cell? ⟨s, 1, none⟩ = some (.int .u64 (limb (kept S) 1)) ∧ w'.cell? ⟨s, 2, none⟩ = some (.int .u64 (limb (kept S) 2)) ∧ w'.cell? ⟨s, 3, none⟩ = some (.int .u64 (limb (kept S) 3)) ∧
      w'.cell? ⟨w.heap.size, 0, none⟩ = some (.int .u64 (limb a 0)) ∧ w'.cell? ⟨w.heap.size, 1, none⟩ = some (.int .u64 (limb a 1)) ∧ w'.cell? ⟨w.heap.size, 2, none⟩ = some (.int .u64 (limb a 2)) ∧ w'.cell? ⟨w.heap.size, 3, none⟩ = some (.int .u64 (limb a 3)) ∧
      w'.cell? ⟨w.heap.size + 1, 0, none⟩ = some (.int .u64 (limb b 0)) ∧ w'.cell? ⟨w.heap.size + 1, 1, none⟩ = some (.int .u64 (limb b 1)) ∧ w'.cell? ⟨w.heap.size + 1, 2, none⟩ = some (.int .u64 (limb b 2)) ∧ w'.cell? ⟨w.heap.size + 1, 3, none⟩ = some (.int .u64 (limb b 3)))
    (first
      | exact cells12 T5.drew U5.drew
      | exact cells12 T6 U6
      | exact cells12 T7 U7
      | exact cells12 T8 U8)
    (first
      | (go_at_call 29; refine (HRb.out W5.drew).mono ?_; rintro e w6 ⟨v3, rfl, r3, f3, hb6⟩; have T6 := AB.later (w := W5.drew) T5.drew hb6; have U6 := Box.later (w := W5.drew) U5.drew hb6; have V6 := Box.later (w := W5.drew) V5.drew hb6; have Q6 := Q5.drew.trans (hb6.mono Q5.size); have ra6 := Row.below (w := W5.drew) ra5 hb6)
      | (go_at_call 22; refine (HMr.out _ _ _ ra6 r3).mono ?_; rintro e w7 ⟨v4, rfl, r4, f4, hb7⟩; have T7 := T6.later hb7; have U7 := U6.later hb7; have V7 := V6.later hb7; have Q7 := Q6.trans (hb7.mono Q6.size); have ra7 := ra6.below hb7)
      | (go_at_call 31; refine (HIs.out v4 _ r4).mono ?_; rintro e w8 ⟨rfl, hb8⟩; have T8 := T7.later hb8; have U8 := U7.later hb8; have V8 := V7.later hb8; have Q8 := Q7.trans (hb8.mono Q7.size); have ra8 := ra7.below hb8))
  clear T5 T6 T7 T8 U5 U6 U7 U8 V5 V6 V7 Q5 Q6 Q7 ra5 ra6 ra7 hb6 hb7 hb8 r3 r4
  have Z8 := V8.cells
  simp only [limb_zero] at Z8
  obtain ⟨z0, z1, z2, z3⟩ := Z8
  go_wp2_with fail
  go_ret
  exact ⟨rfl, Q8⟩

set_option maxHeartbeats 1000000 in
set_option maxRecDepth 100000 in
theorem hugeMuls1_calls (a b y : Nat) (w : World) (ha : a < 18446744073709551616 ^ 4) (hb : b < 18446744073709551616 ^ 4) (y0 : 0 < y) (y1 : y < 18446744073709551616) :
    Calls Try.prog 12 #[bigN a, bigN b, .int .u64 (y : Int)] w (Yes w) := by
  have la : (dig a).length ≤ 16 := dig_len_le (k := 16) (by rw [show (65536 : Nat) ^ 16 = 18446744073709551616 ^ 4 by decide]; exact ha)
  have lb : (dig b).length ≤ 16 := dig_len_le (k := 16) (by rw [show (65536 : Nat) ^ 16 = 18446744073709551616 ^ 4 by decide]; exact hb)
  have lab : (dig (a * b)).length ≤ 1000000 := Nat.le_trans (dig_len_le (k := 32) (by
    have := Nat.mul_lt_mul'' ha hb
    rw [show (65536 : Nat) ^ 32 = 18446744073709551616 ^ 4 * 18446744073709551616 ^ 4 by decide]; exact this)) (by decide)
  have T0 := AB.start w a b
  have Q0 : Below w.heap.size w ((w.alloc (row4 (limb a))).alloc (row4 (limb b))) := ((Below.refl _ _).alloc (Nat.le_refl _) _).alloc (by simp) _
  have hmul := fun w => hmul_calls a b w ha hb
  simp only [sumV_kept] at hmul
  have HMul := Lib.hid hmul
  have HRa := Lib.hid (show ∀ w, Calls Try.prog 29 #[.agg #[.int .u64 (limb a 0), .int .u64 (limb a 1), .int .u64 (limb a 2), .int .u64 (limb a 3)]] w (Gives w a) from fun w => rowof_calls a w ha)
  have HRb := Lib.hid (show ∀ w, Calls Try.prog 29 #[.agg #[.int .u64 (limb b 0), .int .u64 (limb b 1), .int .u64 (limb b 2), .int .u64 (limb b 3)]] w (Gives w b) from fun w => rowof_calls b w hb)
  have HMr := Lib.hid (fun v v' w h1 h2 => mul_calls v v' a b w h1 h2 (Nat.le_trans la (by decide)) (Nat.le_trans lb (by decide)))
  have HIs := Lib.hid (fun v w h => is_calls v (a * b) w h lab)
  have HLA := Lib.hid la
  have HA := Lib.hid ha
  clear ha hb lab hmul la lb
  have hdl : a / y < 18446744073709551616 ^ 4 := Nat.lt_of_le_of_lt (Nat.div_le_self a y) HA.out
  have HIs2 := Lib.hid (show ∀ v w, Row w v (dig (a / y)) → Calls Try.prog 31 #[.agg #[.int .u64 (limb (a / y) 0), .int .u64 (limb (a / y) 1), .int .u64 (limb (a / y) 2), .int .u64 (limb (a / y) 3)], .int .i64 0, v] w (Yes w) from fun v w h => by
    have := is_calls v (a / y) w h (Nat.le_trans (dig_len_le (k := 16) (by rw [show (65536 : Nat) ^ 16 = 18446744073709551616 ^ 4 by decide]; exact hdl)) (by decide))
    rw [show kept (a / y) = a / y from if_pos hdl, show okE (a / y) = 0 from if_pos hdl] at this
    exact this)
  have hsh := fun w => short_calls a y w y0 y1 HA.out
  have ly : (dig y).length ≤ 100000 := Nat.le_trans (dig_few y1) (by decide)
  have hdv := fun (v v' : Value) (w : World) h1 h2 => refdiv_calls v v' a y w h1 h2 (Nat.le_trans HLA.out (by decide)) ly y0
  obtain ⟨Y, hY⟩ : ∃ Y : Int, (y : Int) = Y := ⟨_, rfl⟩
  have hOf := fun w => of_calls Y w (by omega) (by omega)
  rw [show Y.toNat = y by omega] at hOf
  have hYb : (Y == 0) = false := by rw [beq_eq_false_iff_ne]; omega
  rw [hY] at hsh ⊢
  have hml := Nat.mod_lt a y0
  generalize a / y = q at *
  generalize a % y = m at *
  obtain ⟨M, hM⟩ : ∃ M : Int, (m : Int) = M := ⟨_, rfl⟩
  have hOm := fun w => of_calls M w (by omega) (by omega)
  rw [show M.toNat = m by omega] at hOm
  rw [hM] at hsh
  have HSh := Lib.hid hsh
  have HDv := Lib.hid hdv
  have HOf := Lib.hid hOf
  have HOm := Lib.hid hOm
  have HCm := Lib.hid (fun v v' w h1 h2 => cmp_calls v v' m m w h1 h2)
  have hcm : cmpI m m = 0 := by unfold cmpI; rw [if_neg (by omega), if_neg (by omega)]
  rw [hcm] at HCm
  clear hsh hdv hOf hOm hcm hY hM hml ly y0 y1 hdl
  go_enter Try.func12, Try.ntmps12
  go_wp2_with fail
  refine (lives2_calls _).mono ?_
  rintro e w1 ⟨rfl, hb1⟩
  have T1 := T0.later hb1
  have Q1 := Q0.trans (hb1.mono Q0.size)
  clear T0 Q0 hb1
  obtain ⟨a0, a1, a2, a3, b0, b1, b2, b3⟩ := T1.cells
  go_wp2_with fail
  clear a0 a1 a2 a3 b0 b1 b2 b3
  refine (HRa.out _).mono ?_
  rintro e w2 ⟨v1, rfl, r1, f1, hb2⟩
  have T2 := T1.later hb2
  have Q2 := Q1.trans (hb2.mono Q1.size)
  obtain ⟨a0, a1, a2, a3, b0, b1, b2, b3⟩ := T2.cells
  go_wp2_with fail
  clear a0 a1 a2 a3 b0 b1 b2 b3
  refine (HMul.out _).mono ?_
  rintro e w4 ⟨rfl, hb4⟩
  have T4 := (T2.later hb4).alloc (row4 (limb (kept (a * b))))
  have U4 := Box.new w4 (kept (a * b))
  have Q4 := (Q2.trans (hb4.mono Q2.size)).alloc (Nat.le_trans Q2.size hb4.size) (row4 (limb (kept (a * b))))
  have ra := ((r1.below hb4).below ((Below.refl _ w4).alloc (Nat.le_refl _) (row4 (limb (kept (a * b))))))
  obtain ⟨a0, a1, a2, a3, b0, b1, b2, b3⟩ := (T2.later hb4).cells
  have lx := (T2.later hb4).x.lt
  have ly := (T2.later hb4).y.lt
  clear T1 T2 Q1 Q2 hb2 hb4 r1 f1
  go_wp2_with fail
  clear a0 a1 a2 a3 b0 b1 b2 b3 lx ly
  obtain ⟨W4, hW4⟩ : ∃ W, w4.alloc (row4 (limb (kept (a * b)))) = W := ⟨_, rfl⟩
  dsimp only [row4] at hW4
  rw [hW4]
  dsimp only [row4] at T4 U4 Q4 ra
  rw [hW4] at T4 U4 Q4 ra
  clear hW4
  generalize w4.heap.size = s at *
  generalize hS : a * b = S at *
  clear hS
  refine (HSh.out _).mono ?_
  rintro e w5 ⟨rfl, hb5⟩
  have T5 := (T4.later hb5).alloc (row4 (limb q))
  have U5 := (U4.later hb5).alloc (row4 (limb q))
  have V5 := Box.new w5 q
  have Q5 := (Q4.trans (hb5.mono Q4.size)).alloc (Nat.le_trans Q4.size hb5.size) (row4 (limb q))
  have ra5 := ((ra.below hb5).below ((Below.refl _ w5).alloc (Nat.le_refl _) (row4 (limb q))))
  clear T4 U4 Q4 ra hb5 HSh
  go_wp2_with fail
  obtain ⟨W5, hW5⟩ : ∃ W, w5.alloc (row4 (limb q)) = W := ⟨_, rfl⟩
  dsimp only [row4] at hW5
  rw [hW5]
  dsimp only [row4] at T5 U5 V5 Q5 ra5
  rw [hW5] at T5 U5 V5 Q5 ra5
  clear hW5
  generalize w5.heap.size = t at *
  go_region_held3 (fun w' => w'.cell? ⟨s, 0, none⟩ = some (.int .u64 (limb (kept S) 0)) ∧ w'.cell? ⟨s, 1, none⟩ = some (.int .u64 (limb (kept S) 1)) ∧ w'.cell? ⟨s, 2, none⟩ = some (.int .u64 (limb (kept S) 2)) ∧ w'.cell? ⟨s, 3, none⟩ = some (.int .u64 (limb (kept S) 3)) ∧
      w'.cell? ⟨w.heap.size, 0, none⟩ = some (.int .u64 (limb a 0)) ∧ w'.cell? ⟨w.heap.size, 1, none⟩ = some (.int .u64 (limb a 1)) ∧ w'.cell? ⟨w.heap.size, 2, none⟩ = some (.int .u64 (limb a 2)) ∧ w'.cell? ⟨w.heap.size, 3, none⟩ = some (.int .u64 (limb a 3)) ∧
      w'.cell? ⟨w.heap.size + 1, 0, none⟩ = some (.int .u64 (limb b 0)) ∧ w'.cell? ⟨w.heap.size + 1, 1, none⟩ = some (.int .u64 (limb b 1)) ∧ w'.cell? ⟨w.heap.size + 1, 2, none⟩ = some (.int .u64 (limb b 2)) ∧ w'.cell? ⟨w.heap.size + 1, 3, none⟩ = some (.int .u64 (limb b 3)))
    (first
      | exact cells12 T5.drew U5.drew
      | exact cells12 T6 U6
      | exact cells12 T7 U7
      | exact cells12 T8 U8)
    (first
      | (go_at_call 29; refine (HRb.out W5.drew).mono ?_; rintro e w6 ⟨v3, rfl, r3, f3, hb6⟩; have T6 := AB.later (w := W5.drew) T5.drew hb6; have U6 := Box.later (w := W5.drew) U5.drew hb6; have V6 := Box.later (w := W5.drew) V5.drew hb6; have Q6 := Q5.drew.trans (hb6.mono Q5.size); have ra6 := Row.below (w := W5.drew) ra5 hb6)
      | (go_at_call 22; refine (HMr.out _ _ _ ra6 r3).mono ?_; rintro e w7 ⟨v4, rfl, r4, f4, hb7⟩; have T7 := T6.later hb7; have U7 := U6.later hb7; have V7 := V6.later hb7; have Q7 := Q6.trans (hb7.mono Q6.size); have ra7 := ra6.below hb7)
      | (go_at_call 31; refine (HIs.out v4 _ r4).mono ?_; rintro e w8 ⟨rfl, hb8⟩; have T8 := T7.later hb8; have U8 := U7.later hb8; have V8 := V7.later hb8; have Q8 := Q7.trans (hb8.mono Q7.size); have ra8 := ra7.below hb8))
  clear T5 T6 T7 T8 U5 U6 U7 U8 V5 V6 V7 Q5 Q6 Q7 ra5 ra6 ra7 hb6 hb7 hb8 r3 r4
  go_wp2_with fail
  refine (HOf.out _).mono ?_
  rintro e w9 ⟨v5, rfl, r5, f5, hb9⟩
  have V9 := V8.later hb9
  have Q9 := Q8.trans (hb9.mono Q8.size)
  have ra9 := ra8.below hb9
  go_wp2_with fail
  refine (HDv.out _ _ _ ra9 r5).mono ?_
  rintro e w10 ⟨v6, v7, rfl, r6, r7, hb10⟩
  have V10 := V9.later hb10
  have Q10 := Q9.trans (hb10.mono Q9.size)
  obtain ⟨z0, z1, z2, z3⟩ := V10.cells
  go_wp2_with fail
  refine (HIs2.out _ _ r6).mono ?_
  rintro e w11 ⟨rfl, hb11⟩
  have Q11 := Q10.trans (hb11.mono Q10.size)
  go_wp2_with fail
  refine (HOm.out _).mono ?_
  rintro e w12 ⟨v8, rfl, r8, f8, hb12⟩
  have Q12 := Q11.trans (hb12.mono Q11.size)
  go_wp2_with fail
  refine (HCm.out _ _ _ r8 ((r7.below hb11).below hb12)).mono ?_
  rintro e w' ⟨rfl, rfl⟩
  go_wp2_with fail
  go_ret
  exact ⟨rfl, Q12⟩

theorem hugeMuls_calls (a b : Nat) (y : Int) (w : World) (ha : a < 18446744073709551616 ^ 4) (hb : b < 18446744073709551616 ^ 4) (y0 : 0 ≤ y) (y1 : y < 18446744073709551616) :
    Calls Try.prog 12 #[bigN a, bigN b, .int .u64 y] w (Yes w) := by
  obtain ⟨n, rfl⟩ := Int.eq_ofNat_of_zero_le y0
  rcases Nat.eq_zero_or_pos n with rfl | h
  · exact hugeMuls0_calls a b w ha hb
  · exact hugeMuls1_calls a b n w ha hb h (by omega)
end Go.Proofs.Ytoljemjnhomomaa
