/- HugeAdds: sum, difference and order. -/
import Derived.Test.YtoljemjnhomomaaLaw2
namespace Go.Proofs.Ytoljemjnhomomaa
open Go.RowKit Go.Lib
set_option linter.unusedVariables false
set_option linter.unusedSimpArgs false

/-- Two numbers in blocks. -/
structure AB (w : World) (g h a b : Nat) : Prop where
  x : Box w g a
  y : Box w h b
theorem AB.later {w w' : World} {g h a b : Nat} (k : AB w g h a b) (hb : Below w.heap.size w w') : AB w' g h a b := ⟨k.x.later hb, k.y.later hb⟩
theorem AB.drew {w : World} {g h a b : Nat} (k : AB w g h a b) : AB w.drew g h a b := ⟨k.x.drew, k.y.drew⟩
theorem AB.drewN {w : World} {g h a b : Nat} (k : AB w g h a b) (n : Nat) : AB (w.drewN n) g h a b := ⟨k.x.drewN n, k.y.drewN n⟩
theorem AB.alloc {w : World} {g h a b : Nat} (k : AB w g h a b) (o : Obj) : AB (w.alloc o) g h a b := ⟨k.x.alloc o, k.y.alloc o⟩
theorem AB.start (w : World) (a b : Nat) : AB ((w.alloc (row4 (limb a))).alloc (row4 (limb b))) w.heap.size (w.heap.size + 1) a b := by
  have h2 := Box.new (w.alloc (row4 (limb a))) b
  rw [World.size_alloc] at h2
  exact ⟨(Box.new w a).alloc _, h2⟩
theorem AB.cells {w : World} {g h a b : Nat} (k : AB w g h a b) : w.cell? ⟨g, 0, none⟩ = some (.int .u64 (limb a 0)) ∧ w.cell? ⟨g, 1, none⟩ = some (.int .u64 (limb a 1)) ∧ w.cell? ⟨g, 2, none⟩ = some (.int .u64 (limb a 2)) ∧ w.cell? ⟨g, 3, none⟩ = some (.int .u64 (limb a 3)) ∧
    w.cell? ⟨h, 0, none⟩ = some (.int .u64 (limb b 0)) ∧ w.cell? ⟨h, 1, none⟩ = some (.int .u64 (limb b 1)) ∧ w.cell? ⟨h, 2, none⟩ = some (.int .u64 (limb b 2)) ∧ w.cell? ⟨h, 3, none⟩ = some (.int .u64 (limb b 3)) := by
  obtain ⟨a0, a1, a2, a3⟩ := k.x.cells
  obtain ⟨b0, b1, b2, b3⟩ := k.y.cells
  exact ⟨a0, a1, a2, a3, b0, b1, b2, b3⟩

theorem cells12 {w : World} {g h a b i c : Nat} (k : AB w g h a b) (l : Box w i c) : w.cell? ⟨i, 0, none⟩ = some (.int .u64 (limb c 0)) ∧ w.cell? ⟨i, 1, none⟩ = some (.int .u64 (limb c 1)) ∧ w.cell? ⟨i, 2, none⟩ = some (.int .u64 (limb c 2)) ∧ w.cell? ⟨i, 3, none⟩ = some (.int .u64 (limb c 3)) ∧
    w.cell? ⟨g, 0, none⟩ = some (.int .u64 (limb a 0)) ∧ w.cell? ⟨g, 1, none⟩ = some (.int .u64 (limb a 1)) ∧ w.cell? ⟨g, 2, none⟩ = some (.int .u64 (limb a 2)) ∧ w.cell? ⟨g, 3, none⟩ = some (.int .u64 (limb a 3)) ∧
    w.cell? ⟨h, 0, none⟩ = some (.int .u64 (limb b 0)) ∧ w.cell? ⟨h, 1, none⟩ = some (.int .u64 (limb b 1)) ∧ w.cell? ⟨h, 2, none⟩ = some (.int .u64 (limb b 2)) ∧ w.cell? ⟨h, 3, none⟩ = some (.int .u64 (limb b 3)) := by
  obtain ⟨c0, c1, c2, c3⟩ := l.cells
  exact ⟨c0, c1, c2, c3, k.cells⟩

set_option maxHeartbeats 1000000 in
set_option maxRecDepth 100000 in
theorem hugeAdds_calls (a b : Nat) (w : World) (ha : a < 18446744073709551616 ^ 4) (hb : b < 18446744073709551616 ^ 4) :
    Calls Try.prog 10 #[bigN a, bigN b] w (Yes w) := by
  have la : (dig a).length ≤ 1000000 := Nat.le_trans (dig_len_le (k := 16) (by rw [show (65536 : Nat) ^ 16 = 18446744073709551616 ^ 4 by decide]; exact ha)) (by decide)
  have lb : (dig b).length ≤ 1000000 := Nat.le_trans (dig_len_le (k := 16) (by rw [show (65536 : Nat) ^ 16 = 18446744073709551616 ^ 4 by decide]; exact hb)) (by decide)
  have lab : (dig (a + b)).length ≤ 1000000 := Nat.le_trans (dig_len_le (k := 17) (by rw [show (65536 : Nat) ^ 17 = 65536 * 18446744073709551616 ^ 4 by decide]; omega)) (by decide)
  have T0 := AB.start w a b
  have Q0 : Below w.heap.size w ((w.alloc (row4 (limb a))).alloc (row4 (limb b))) := ((Below.refl _ _).alloc (Nat.le_refl _) _).alloc (by simp) _
  have HLAB := Lib.hid lab
  have HA := Lib.hid ha
  have HB := Lib.hid hb
  have hadd := fun w => hadd_calls a b w ha hb
  simp only [sumV_kept] at hadd
  have HAdd := Lib.hid hadd
  have HRa := Lib.hid (show ∀ w, Calls Try.prog 29 #[.agg #[.int .u64 (limb a 0), .int .u64 (limb a 1), .int .u64 (limb a 2), .int .u64 (limb a 3)]] w (Gives w a) from fun w => rowof_calls a w ha)
  have HRb := Lib.hid (show ∀ w, Calls Try.prog 29 #[.agg #[.int .u64 (limb b 0), .int .u64 (limb b 1), .int .u64 (limb b 2), .int .u64 (limb b 3)]] w (Gives w b) from fun w => rowof_calls b w hb)
  clear ha hb lab hadd
  go_enter Try.func10, Try.ntmps10
  go_wp2_with fail
  refine (lives2_calls _).mono ?_
  rintro e w1 ⟨rfl, hb1⟩
  have T1 := T0.later hb1
  have Q1 := Q0.trans (hb1.mono Q0.size)
  clear T0 Q0 hb1
  go_wp2_with fail
  go_region_held3 (fun w' => w'.cell? ⟨w.heap.size, 0, none⟩ = some (.int .u64 (limb a 0)) ∧ w'.cell? ⟨w.heap.size, 1, none⟩ = some (.int .u64 (limb a 1)) ∧ w'.cell? ⟨w.heap.size, 2, none⟩ = some (.int .u64 (limb a 2)) ∧ w'.cell? ⟨w.heap.size, 3, none⟩ = some (.int .u64 (limb a 3)) ∧
      w'.cell? ⟨w.heap.size + 1, 0, none⟩ = some (.int .u64 (limb b 0)) ∧ w'.cell? ⟨w.heap.size + 1, 1, none⟩ = some (.int .u64 (limb b 1)) ∧ w'.cell? ⟨w.heap.size + 1, 2, none⟩ = some (.int .u64 (limb b 2)) ∧ w'.cell? ⟨w.heap.size + 1, 3, none⟩ = some (.int .u64 (limb b 3)))
    (first
      | exact T1.drew.cells
      | exact T2.cells
      | exact T3.cells)
    (first
      | (go_at_call 29; (with_reducible refine (HRa.out _).mono ?_); rintro e w2 ⟨v1, rfl, r1, f1, hb2⟩; have T2 := AB.later (w := w1.drew) T1.drew hb2; have Q2 := (Below.drew Q1).trans (hb2.mono Q1.size))
      | (go_at_call 29; (with_reducible refine (HRb.out _).mono ?_); rintro e w3 ⟨v2, rfl, r2, f2, hb3⟩; have T3 := T2.later hb3; have Q3 := Q2.trans (hb3.mono Q2.size); have r1' := r1.below hb3))
  go_wp2_with fail
  refine (HAdd.out _).mono ?_
  rintro e w4 ⟨rfl, hb4⟩
  have T4 := (T3.later hb4).alloc (row4 (limb (kept (a + b))))
  have U4 := Box.new w4 (kept (a + b))
  have Q4 := (Q3.trans (hb4.mono Q3.size)).alloc (Nat.le_trans Q3.size hb4.size) (row4 (limb (kept (a + b))))
  have z4 : w4.heap.size < (w4.alloc (row4 (limb (kept (a + b))))).heap.size := by simp
  have ra := ((r1'.below hb4).below ((Below.refl _ w4).alloc (Nat.le_refl _) (row4 (limb (kept (a + b))))))
  have rb := ((r2.below hb4).below ((Below.refl _ w4).alloc (Nat.le_refl _) (row4 (limb (kept (a + b))))))
  obtain ⟨a0, a1, a2, a3, b0, b1, b2, b3⟩ := (T3.later hb4).cells
  have lx := (T3.later hb4).x.lt
  have ly := (T3.later hb4).y.lt
  clear T1 T2 T3 Q1 Q2 Q3 hb2 hb3 hb4 r1 r1' r2 f1 f2
  go_wp2_with fail
  clear a0 a1 a2 a3 b0 b1 b2 b3 lx ly
  obtain ⟨W4, hW4⟩ : ∃ W, w4.alloc (row4 (limb (kept (a + b)))) = W := ⟨_, rfl⟩
  dsimp only [row4] at hW4
  rw [hW4]
  dsimp only [row4] at T4 U4 Q4 z4 ra rb
  rw [hW4] at T4 U4 Q4 z4 ra rb
  clear hW4
  generalize w4.heap.size = s at *
  generalize hS : a + b = S at *
  have HSm := Lib.hid hS
  clear hS
  by_cases hab : b ≤ a
  · have HSub := Lib.hid (show ∀ w, Calls Try.prog 33 #[bigN a, bigN b] w fun e w' => e = .returned (.tuple #[bigN (a - b), .int .i64 0]) ∧ Below w.heap.size w w' from fun w => by
      have := hsub_calls a b w HA.out HB.out
      rw [show diffV a b = .tuple #[bigN (a - b), .int .i64 0] from if_pos hab] at this
      exact this)
    refine (HSub.out _).mono ?_
    rintro e w5 ⟨rfl, hb5⟩
    have T5 := (T4.later hb5).alloc (row4 (limb (a - b)))
    have U5 := (U4.later hb5).alloc (row4 (limb (a - b)))
    have V5 := Box.new w5 (a - b)
    have Q5 := (Q4.trans (hb5.mono Q4.size)).alloc (Nat.le_trans Q4.size hb5.size) (row4 (limb (a - b)))
    have ra5 := ((ra.below hb5).below ((Below.refl _ w5).alloc (Nat.le_refl _) (row4 (limb (a - b)))))
    have rb5 := ((rb.below hb5).below ((Below.refl _ w5).alloc (Nat.le_refl _) (row4 (limb (a - b)))))
    clear T4 U4 Q4 ra rb hb5 HSub
    go_wp2_with fail
    obtain ⟨W5, hW5⟩ : ∃ W, w5.alloc (row4 (limb (a - b))) = W := ⟨_, rfl⟩
    dsimp only [row4] at hW5
    rw [hW5]
    dsimp only [row4] at T5 U5 V5 Q5 ra5 rb5
    rw [hW5] at T5 U5 V5 Q5 ra5 rb5
    clear hW5
    generalize w5.heap.size = t at *
    refine (cmp_calls v1 v2 a b _ ra5 rb5).mono ?_
    rintro e w' ⟨rfl, rfl⟩
    have HCm := Lib.hid (fun w => hcmp_calls a b w HA.out HB.out)
    have hc : 0 ≤ cmpI a b := (by unfold cmpI; split; omega; split <;> omega)
    generalize cmpI a b = c at *
    have HAd := Lib.hid (show ∀ w, Row w v1 (dig a) → Row w v2 (dig b) → Calls Try.prog 24 #[v1, v2] w (Gives w S) from fun w h1 h2 => by
      rw [← HSm.out]
      exact add_calls v1 v2 a b w h1 h2 la lb)
    have HIs := Lib.hid (fun v w h => is_calls v S w h HLAB.out)
    go_wp2_with fail
    go_region_held3 (fun w' => w'.cell? ⟨s, 0, none⟩ = some (.int .u64 (limb (kept S) 0)) ∧ w'.cell? ⟨s, 1, none⟩ = some (.int .u64 (limb (kept S) 1)) ∧ w'.cell? ⟨s, 2, none⟩ = some (.int .u64 (limb (kept S) 2)) ∧ w'.cell? ⟨s, 3, none⟩ = some (.int .u64 (limb (kept S) 3)) ∧
        w'.cell? ⟨w.heap.size, 0, none⟩ = some (.int .u64 (limb a 0)) ∧ w'.cell? ⟨w.heap.size, 1, none⟩ = some (.int .u64 (limb a 1)) ∧ w'.cell? ⟨w.heap.size, 2, none⟩ = some (.int .u64 (limb a 2)) ∧ w'.cell? ⟨w.heap.size, 3, none⟩ = some (.int .u64 (limb a 3)) ∧
        w'.cell? ⟨w.heap.size + 1, 0, none⟩ = some (.int .u64 (limb b 0)) ∧ w'.cell? ⟨w.heap.size + 1, 1, none⟩ = some (.int .u64 (limb b 1)) ∧ w'.cell? ⟨w.heap.size + 1, 2, none⟩ = some (.int .u64 (limb b 2)) ∧ w'.cell? ⟨w.heap.size + 1, 3, none⟩ = some (.int .u64 (limb b 3)))
      (first
        | exact cells12 T5.drew U5.drew
        | exact cells12 T6 U6
        | exact cells12 T7 U7
        | exact cells12 T8 U8)
      (first
        | (go_at_call 24; refine (HAd.out W5.drew ra5 rb5).mono ?_; rintro e w6 ⟨v3, rfl, r3, f3, hb6⟩; have T6 := AB.later (w := W5.drew) T5.drew hb6; have U6 := Box.later (w := W5.drew) U5.drew hb6; have V6 := Box.later (w := W5.drew) V5.drew hb6; have Q6 := Q5.drew.trans (hb6.mono Q5.size); have ra6 := Row.below (w := W5.drew) ra5 hb6; have rb6 := Row.below (w := W5.drew) rb5 hb6)
        | (go_at_call 31; refine (HIs.out v3 _ r3).mono ?_; rintro e w7 ⟨rfl, hb7⟩; have T7 := T6.later hb7; have U7 := U6.later hb7; have V7 := V6.later hb7; have Q7 := Q6.trans (hb7.mono Q6.size); have ra7 := ra6.below hb7; have rb7 := rb6.below hb7)
        | (go_at_call 35; refine (HCm.out _).mono ?_; rintro e w8 ⟨rfl, hb8⟩; have T8 := T7.later hb8; have U8 := U7.later hb8; have V8 := V7.later hb8; have Q8 := Q7.trans (hb8.mono Q7.size); have ra8 := ra7.below hb8; have rb8 := rb7.below hb8))
    have HSb := Lib.hid (show ∀ w, Row w v1 (dig a) → Row w v2 (dig b) → Calls Try.prog 36 #[v1, v2] w (Gives w (a - b)) from fun w h1 h2 => sub_calls v1 v2 a b w h1 h2 la hab)
    have hlt : a - b < 18446744073709551616 ^ 4 := Nat.lt_of_le_of_lt (Nat.sub_le a b) HA.out
    have HIs2 := Lib.hid (show ∀ v w, Row w v (dig (a - b)) → Calls Try.prog 31 #[.agg #[.int .u64 (limb (a - b) 0), .int .u64 (limb (a - b) 1), .int .u64 (limb (a - b) 2), .int .u64 (limb (a - b) 3)], .int .i64 0, v] w (Yes w) from fun v w h => by
      have := is_calls v (a - b) w h (Nat.le_trans (dig_len_le (k := 16) (by rw [show (65536 : Nat) ^ 16 = 18446744073709551616 ^ 4 by decide]; exact hlt)) (by decide))
      rw [show kept (a - b) = a - b from if_pos hlt, show okE (a - b) = 0 from if_pos hlt] at this
      exact this)
    clear hlt
    generalize a - b = D at *
    go_wp2_with fail
    go_region_held3 (fun w' => w'.cell? ⟨t, 0, none⟩ = some (.int .u64 (limb D 0)) ∧ w'.cell? ⟨t, 1, none⟩ = some (.int .u64 (limb D 1)) ∧ w'.cell? ⟨t, 2, none⟩ = some (.int .u64 (limb D 2)) ∧ w'.cell? ⟨t, 3, none⟩ = some (.int .u64 (limb D 3)))
      (first
        | exact V8.drew.cells
        | exact V9.cells
        | exact V10.cells)
      (first
        | (go_at_call 36; refine (HSb.out w8.drew ra8 rb8).mono ?_; rintro e w9 ⟨v4, rfl, r4, f4, hb9⟩; have V9 := Box.later (w := w8.drew) V8.drew hb9; have Q9 := Q8.drew.trans (hb9.mono Q8.size))
        | (go_at_call 31; refine (HIs2.out v4 _ r4).mono ?_; rintro e w10 ⟨rfl, hb10⟩; have V10 := V9.later hb10; have Q10 := Q9.trans (hb10.mono Q9.size)))
    go_wp2_with fail
    go_ret
    exact ⟨rfl, Q10⟩
  · have HSub := Lib.hid (show ∀ w, Calls Try.prog 33 #[bigN a, bigN b] w fun e w' => e = .returned (.tuple #[bigN 0, .int .i64 2]) ∧ Below w.heap.size w w' from fun w => by
      have := hsub_calls a b w HA.out HB.out
      rw [show diffV a b = .tuple #[bigN 0, .int .i64 2] from if_neg hab] at this
      exact this)
    refine (HSub.out _).mono ?_
    rintro e w5 ⟨rfl, hb5⟩
    have T5 := (T4.later hb5).alloc (row4 (limb 0))
    have U5 := (U4.later hb5).alloc (row4 (limb 0))
    have V5 := Box.new w5 0
    have Q5 := (Q4.trans (hb5.mono Q4.size)).alloc (Nat.le_trans Q4.size hb5.size) (row4 (limb 0))
    have ra5 := ((ra.below hb5).below ((Below.refl _ w5).alloc (Nat.le_refl _) (row4 (limb 0))))
    have rb5 := ((rb.below hb5).below ((Below.refl _ w5).alloc (Nat.le_refl _) (row4 (limb 0))))
    clear T4 U4 Q4 ra rb hb5 HSub
    go_wp2_with fail
    obtain ⟨W5, hW5⟩ : ∃ W, w5.alloc (row4 (limb 0)) = W := ⟨_, rfl⟩
    dsimp only [row4] at hW5
    rw [hW5]
    dsimp only [row4] at T5 U5 V5 Q5 ra5 rb5
    rw [hW5] at T5 U5 V5 Q5 ra5 rb5
    clear hW5
    generalize w5.heap.size = t at *
    refine (cmp_calls v1 v2 a b _ ra5 rb5).mono ?_
    rintro e w' ⟨rfl, rfl⟩
    have HCm := Lib.hid (fun w => hcmp_calls a b w HA.out HB.out)
    have hc : cmpI a b < 0 := (by unfold cmpI; rw [if_pos (by omega)]; omega)
    generalize cmpI a b = c at *
    have HAd := Lib.hid (show ∀ w, Row w v1 (dig a) → Row w v2 (dig b) → Calls Try.prog 24 #[v1, v2] w (Gives w S) from fun w h1 h2 => by
      rw [← HSm.out]
      exact add_calls v1 v2 a b w h1 h2 la lb)
    have HIs := Lib.hid (fun v w h => is_calls v S w h HLAB.out)
    go_wp2_with fail
    go_region_held3 (fun w' => w'.cell? ⟨s, 0, none⟩ = some (.int .u64 (limb (kept S) 0)) ∧ w'.cell? ⟨s, 1, none⟩ = some (.int .u64 (limb (kept S) 1)) ∧ w'.cell? ⟨s, 2, none⟩ = some (.int .u64 (limb (kept S) 2)) ∧ w'.cell? ⟨s, 3, none⟩ = some (.int .u64 (limb (kept S) 3)) ∧
        w'.cell? ⟨w.heap.size, 0, none⟩ = some (.int .u64 (limb a 0)) ∧ w'.cell? ⟨w.heap.size, 1, none⟩ = some (.int .u64 (limb a 1)) ∧ w'.cell? ⟨w.heap.size, 2, none⟩ = some (.int .u64 (limb a 2)) ∧ w'.cell? ⟨w.heap.size, 3, none⟩ = some (.int .u64 (limb a 3)) ∧
        w'.cell? ⟨w.heap.size + 1, 0, none⟩ = some (.int .u64 (limb b 0)) ∧ w'.cell? ⟨w.heap.size + 1, 1, none⟩ = some (.int .u64 (limb b 1)) ∧ w'.cell? ⟨w.heap.size + 1, 2, none⟩ = some (.int .u64 (limb b 2)) ∧ w'.cell? ⟨w.heap.size + 1, 3, none⟩ = some (.int .u64 (limb b 3)))
      (first
        | exact cells12 T5.drew U5.drew
        | exact cells12 T6 U6
        | exact cells12 T7 U7
        | exact cells12 T8 U8)
      (first
        | (go_at_call 24; refine (HAd.out W5.drew ra5 rb5).mono ?_; rintro e w6 ⟨v3, rfl, r3, f3, hb6⟩; have T6 := AB.later (w := W5.drew) T5.drew hb6; have U6 := Box.later (w := W5.drew) U5.drew hb6; have V6 := Box.later (w := W5.drew) V5.drew hb6; have Q6 := Q5.drew.trans (hb6.mono Q5.size); have ra6 := Row.below (w := W5.drew) ra5 hb6; have rb6 := Row.below (w := W5.drew) rb5 hb6)
        | (go_at_call 31; refine (HIs.out v3 _ r3).mono ?_; rintro e w7 ⟨rfl, hb7⟩; have T7 := T6.later hb7; have U7 := U6.later hb7; have V7 := V6.later hb7; have Q7 := Q6.trans (hb7.mono Q6.size); have ra7 := ra6.below hb7; have rb7 := rb6.below hb7)
        | (go_at_call 35; refine (HCm.out _).mono ?_; rintro e w8 ⟨rfl, hb8⟩; have T8 := T7.later hb8; have U8 := U7.later hb8; have V8 := V7.later hb8; have Q8 := Q7.trans (hb8.mono Q7.size); have ra8 := ra7.below hb8; have rb8 := rb7.below hb8))
    have Z8 := V8.cells
    simp only [limb_zero] at Z8
    obtain ⟨z0, z1, z2, z3⟩ := Z8
    go_wp2_with fail
    go_ret
    exact ⟨rfl, Q8⟩
end Go.Proofs.Ytoljemjnhomomaa
