/- The statements of layer 1 as Go functions: each answers true, and leaves memory as it was. -/
import Derived.Test.YtoljemjnhomomaaLimb
namespace Go.Proofs.Ytoljemjnhomomaa
open Go.RowKit
set_option linter.unusedVariables false
set_option linter.unusedSimpArgs false

/-- A block of ints, written out. -/
theorem row_lit (w : World) (l : List Int) (n : Nat) (hn : l.length = n) (hm : n ≤ maxLen) :
    Row (w.alloc (.cells (l.map (Value.int .i64)).toArray 3)) (.slice (some ⟨w.heap.size, 0, none⟩) n n) l := by
  subst hn
  refine ⟨some ⟨w.heap.size, 0, none⟩, l.length, rfl, Nat.le_refl _, hm, .inr ⟨w.heap.size, 0, rfl, fun j hj => ?_⟩⟩
  rw [Nat.zero_add, cell_of_row _ _ _ _ _ _ (heap_alloc_new w _)]
  simp [hj]

theorem dig_limb : dig 18446744073709551616 = [0, 0, 0, 0, 1] := by
  rw [dig_pos (by omega), dig_pos (by omega), dig_pos (by omega), dig_pos (by omega), dig_pos (by omega), show 18446744073709551616 / 65536 / 65536 / 65536 / 65536 / 65536 = 0 from rfl, dig_zero]
  rfl

theorem below_row {w w' w'' : World} (h : Below w.heap.size w w') (h' : Below w'.heap.size w' w'') : Below w.heap.size w w'' := h.trans (h'.mono h.size)

set_option maxHeartbeats 1000000 in
set_option maxRecDepth 100000 in
theorem pair_calls (hi lo : Int) (w : World) (h0 : 0 ≤ hi) (h1 : hi < 18446744073709551616) (l0 : 0 ≤ lo) (l1 : lo < 18446744073709551616) :
    Calls Try.prog 17 #[.int .u64 hi, .int .u64 lo] w (Gives w (hi.toNat * 18446744073709551616 + lo.toNat)) := by
  have s1 := dig_len_limb h1
  have s2 := dig_len_limb l1
  have hb8 : (dig (hi.toNat * 18446744073709551616)).length ≤ 1000000 := Nat.le_trans (dig_len_le (k := 8) (by omega)) (by decide)
  have H8 := Lib.hid hb8
  have D := Lib.hid dig_limb
  clear hb8
  go_enter Try.func17, Try.ntmps17
  go_wp2_with fail
  refine (of_calls _ _ h0 h1).mono ?_
  rintro e w1 ⟨v1, rfl, r1, f1, b1⟩
  have rl : Row (w1.alloc (.cells #[.int .i64 0, .int .i64 0, .int .i64 0, .int .i64 0, .int .i64 1] 3)) (.slice (some ⟨w1.heap.size, 0, none⟩) 5 5) (dig 18446744073709551616) := by
    rw [D.out]; exact row_lit w1 [0, 0, 0, 0, 1] 5 rfl (by unfold maxLen; omega)
  have ba : Below w1.heap.size w1 (w1.alloc (.cells #[.int .i64 0, .int .i64 0, .int .i64 0, .int .i64 0, .int .i64 1] 3)) := (Below.refl _ _).alloc (Nat.le_refl _) _
  go_wp2_with fail
  refine (mul_calls _ _ _ _ _ (r1.below ba) rl (by omega) (by rw [D.out]; simp)).mono ?_
  rintro e w2 ⟨v2, rfl, r2, f2, b2⟩
  have b3 := below_row (below_row b1 ba) b2
  go_wp2_with fail
  refine (of_calls _ _ l0 l1).mono ?_
  rintro e w3 ⟨v3, rfl, r3, f3, b4⟩
  go_wp2_with fail
  refine (add_calls _ _ _ _ _ (r2.below b4) r3 H8.out (by omega)).mono ?_
  rintro e w4 ⟨v4, rfl, r4, f4, b5⟩
  have b6 := below_row (below_row b3 b4) b5
  go_wp2_with fail
  go_ret
  exact ⟨_, rfl, r4, fun k hk => by have := f4 k hk; have := (below_row b3 b4).size; omega, b6⟩

set_option maxHeartbeats 400000 in
theorem same_calls (v v' : Value) (a b : Nat) (w : World) (ha : Row w v (dig a)) (hb : Row w v' (dig b)) :
    Calls Try.prog 19 #[v, v'] w fun e w' => e = .returned (.bool (decide (a = b))) ∧ w = w' := by
  have hc := cmp_bd a b
  have h1 : (cmpI a b == 0) = decide (a = b) := by
    unfold cmpI
    rcases Nat.lt_trichotomy a b with h | h | h
    · rw [if_pos h, decide_eq_false (by omega)]; rfl
    · rw [if_neg (by omega), if_neg (by omega), decide_eq_true h]; rfl
    · rw [if_neg (by omega), if_pos h, decide_eq_false (by omega)]; rfl
  have H1 := Lib.hid h1
  clear h1
  go_enter Try.func19, Try.ntmps19
  go_wp2_with fail
  refine (cmp_calls _ _ _ _ _ ha hb).mono ?_
  rintro e w' ⟨rfl, rfl⟩
  generalize cmpI a b = c at *
  go_wp2_with fail
  go_ret
  exact ⟨ret_bool H1.out, rfl⟩

set_option maxHeartbeats 1000000 in
set_option maxRecDepth 100000 in
theorem lives1_calls (w : World) : Calls Try.prog 14 #[] w fun e w' => e = .returned (.bool true) ∧ Drawn w w' := by
  have e1 : addS 18446744073709551615 1 0 = 0 := by decide
  have e2 : addO 18446744073709551615 1 0 = 1 := by decide
  have ca := ladd_calls 18446744073709551615 1 0 w (by omega) (by omega) (by omega) (by omega)
  rw [e1, e2] at ca
  have cd : ∀ w, Calls Try.prog 15 #[.int .u64 1, .int .u64 0, .int .u64 2] w fun e w' => e = .returned (.tuple #[.int .u64 9223372036854775808, .int .u64 0, .int .i64 0]) ∧ Drawn w w' :=
    fun w => div_calls 1 0 2 w (by omega) (by omega) (by omega) (by omega) (by omega)
  have CA := Lib.hid ca
  have CD := Lib.hid cd
  clear ca cd e1 e2
  go_enter Try.func14, Try.ntmps14
  go_wp2_with fail
  refine CA.out.mono ?_
  rintro e w' ⟨rfl, rfl⟩
  go_wp2_with fail
  refine (CD.out _).mono ?_
  rintro e w' ⟨rfl, n, rfl⟩
  go_wp2_with fail
  go_ret
  exact ⟨rfl, n, rfl⟩
end Go.Proofs.Ytoljemjnhomomaa
