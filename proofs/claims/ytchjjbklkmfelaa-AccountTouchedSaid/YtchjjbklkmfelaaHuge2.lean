/- huge: Cmp and Low. -/
import Derived.Test.YtchjjbklkmfelaaHuge
import Derived.Test.YtchjjbklkmfelaaEq
namespace Go.Proofs.Ytchjjbklkmfelaa
open Go.RowKit
set_option linter.unusedVariables false
set_option linter.unusedSimpArgs false

theorem cmp_step64 {a b k : Nat} (h : a / 18446744073709551616 ^ (k + 1) = b / 18446744073709551616 ^ (k + 1)) :
    (a / 18446744073709551616 ^ k % 18446744073709551616 < b / 18446744073709551616 ^ k % 18446744073709551616 → a < b) ∧ (a / 18446744073709551616 ^ k % 18446744073709551616 = b / 18446744073709551616 ^ k % 18446744073709551616 → a / 18446744073709551616 ^ k = b / 18446744073709551616 ^ k) := by
  have e (n : Nat) : n / 18446744073709551616 ^ (k + 1) = n / 18446744073709551616 ^ k / 18446744073709551616 := by rw [Nat.pow_succ, Nat.div_div_eq_div_mul]
  rw [e, e] at h
  constructor
  · intro hlt
    have : a / 18446744073709551616 ^ k < b / 18446744073709551616 ^ k := by
      generalize a / 18446744073709551616 ^ k = x at *
      generalize b / 18446744073709551616 ^ k = y at *
      omega
    by_cases hab : a < b
    · exact hab
    · have := Nat.div_le_div_right (c := 18446744073709551616 ^ k) (Nat.le_of_not_lt hab)
      omega
  · intro he
    generalize a / 18446744073709551616 ^ k = x at *
    generalize b / 18446744073709551616 ^ k = y at *
    omega

theorem num_top {a : Nat} (ha : a < 18446744073709551616 ^ 4) : a / 18446744073709551616 ^ 4 = 0 := Nat.div_eq_of_lt ha

set_option maxHeartbeats 1000000 in
set_option maxRecDepth 100000 in
theorem hcmp_calls (a b : Nat) (w : World) (ha : a < 18446744073709551616 ^ 4) (hb : b < 18446744073709551616 ^ 4) :
    Calls Try.prog 56 #[bigN a, bigN b] w fun e w' => e = .returned (.int .i64 (cmpI a b)) ∧ Below w.heap.size w w' := by
  have HT := Lib.hid (show a / 18446744073709551616 ^ 4 = b / 18446744073709551616 ^ 4 by rw [num_top ha, num_top hb])
  have RA := (rowIs_big w (limb a) 28).alloc (row4 (limb b))
  have RB := rowIs_big (w.alloc (row4 (limb a))) (limb b) 28
  rw [World.size_alloc] at RB
  have HB : Below w.heap.size w ((w.alloc (row4 (limb a))).alloc (row4 (limb b))) := ((Below.refl _ _).alloc (Nat.le_refl _) _).alloc (by simp) _
  unfold row4 at RA RB HB
  have HRA := Lib.hid RA
  have HRB := Lib.hid RB
  have HHB := Lib.hid HB
  clear RA RB HB ha hb
  unfold bigN
  go_enter Try.func56, Try.ntmps56
  go_wp2_with fail
  generalize hW : (w.alloc (.cells #[.int .u64 (limb a 0), .int .u64 (limb a 1), .int .u64 (limb a 2), .int .u64 (limb a 3)] 28)).alloc (.cells #[.int .u64 (limb b 0), .int .u64 (limb b 1), .int .u64 (limb b 2), .int .u64 (limb b 3)] 28) = W at *
  clear hW
  go_loopw [5] (fun t wr => ∃ k : Nat, t = .int .i64 ((k : Int) - 1) ∧ k ≤ 4 ∧ Hid (a / 18446744073709551616 ^ k = b / 18446744073709551616 ^ k) ∧ Drawn W wr) (fun t _ => (intOf t + 1).toNat)
  case atStart => exact ⟨4, rfl, by omega, HT, Drawn.refl _⟩
  case round =>
    obtain ⟨k, rfl, hk, HK, n, rfl⟩ := hrel
    clear HT
    cases k with
    | zero =>
      have he : a = b := by simpa using HK.out
      go_wp2_with fail
      go_ret
      exact ⟨ret_one (by unfold cmpI; rw [if_neg (by omega), if_neg (by omega)]), below_drewN HHB.out _⟩
    | succ k =>
      have hs := cmp_step64 HK.out
      have hs' := cmp_step64 HK.out.symm
      have c1 := (HRA.out).cell (i := k) (by omega)
      have c2 := (HRB.out).cell (i := k) (by omega)
      have e1 : (((k + 1 : Nat) : Int) - 1) = (k : Int) := by omega
      unfold lim limb at c1 c2
      generalize a / 18446744073709551616 ^ k % 18446744073709551616 = x at *
      generalize b / 18446744073709551616 ^ k % 18446744073709551616 = y at *
      have HS := Lib.hid hs
      have HS' := Lib.hid hs'
      clear hs hs' HK
      rw [e1]
      clear e1
      by_cases h1 : x < y
      · go_wp2_with fail
        go_quiet (fail)
        go_wp2_with fail
        go_ret
        exact ⟨ret_one (by unfold cmpI; rw [if_pos (HS.out.1 h1)]), below_drewN (below_drewN HHB.out _) _⟩
      · by_cases h2 : y < x
        · go_wp2_with fail
          go_quiet (fail)
          go_wp2_with fail
          go_quiet (fail)
          go_wp2_with fail
          go_ret
          exact ⟨ret_one (by unfold cmpI; have := HS'.out.1 h2; rw [if_neg (by omega), if_pos this]), below_drewN (below_drewN (below_drewN HHB.out _) _) _⟩
        · go_wp2_with fail
          go_quiet (fail)
          go_wp2_with fail
          go_quiet (fail)
          go_wp2_with fail
          go_roundw
          case rel => exact ⟨k, rfl, by omega, Lib.hid (HS.out.2 (by omega)), ⟨_, rfl⟩⟩
          case measure => simp [intOf]

/-- What lay there before reads as it read. -/
theorem bcell {W w1 : World} (hb : Below W.heap.size W w1) : (∀ b o, b < W.heap.size → w1.cell? ⟨b, o, none⟩ = W.cell? ⟨b, o, none⟩) ∧ (∀ b o, b < W.heap.size → w1.frozen? ⟨b, o, none⟩ = W.frozen? ⟨b, o, none⟩) :=
  ⟨fun b o h => hb.cell (p := ⟨b, o, none⟩) h, fun b o h => hb.frozen (p := ⟨b, o, none⟩) h⟩

def pick4 (a0 a1 a2 a3 : Int) : Nat → Int
  | 0 => a0
  | 1 => a1
  | 2 => a2
  | _ => a3

end Go.Proofs.Ytchjjbklkmfelaa
