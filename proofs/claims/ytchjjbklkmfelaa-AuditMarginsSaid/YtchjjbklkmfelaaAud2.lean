/- audit.more. -/
import Derived.Test.YtchjjbklkmfelaaAud1
import Derived.Test.YtchjjbklkmfelaaHuge2
namespace Go.Proofs.Ytchjjbklkmfelaa
open Go.RowKit Go.Lib
set_option linter.unusedVariables false
set_option linter.unusedSimpArgs false

set_option maxHeartbeats 1000000 in
set_option maxRecDepth 100000 in
theorem amore_calls (a b : Nat) (w : World) (ha : a < 18446744073709551616 ^ 8) (hb : b < 18446744073709551616 ^ 8) :
    Calls Try.prog 55 #[wideN a, wideN b] w fun e w' => e = .returned (.bool (decide (b < a))) ∧ Below w.heap.size w w' := by
  have HT := Lib.hid (show a / 18446744073709551616 ^ 8 = b / 18446744073709551616 ^ 8 by rw [Nat.div_eq_of_lt ha, Nat.div_eq_of_lt hb])
  have RA := (WBox.new w a).alloc (obj8 (limb b 0) (limb b 1) (limb b 2) (limb b 3) (limb b 4) (limb b 5) (limb b 6) (limb b 7))
  have RB := WBox.new (w.alloc (obj8 (limb a 0) (limb a 1) (limb a 2) (limb a 3) (limb a 4) (limb a 5) (limb a 6) (limb a 7))) b
  rw [World.size_alloc] at RB
  have HB : Below w.heap.size w ((w.alloc (obj8 (limb a 0) (limb a 1) (limb a 2) (limb a 3) (limb a 4) (limb a 5) (limb a 6) (limb a 7))).alloc (obj8 (limb b 0) (limb b 1) (limb b 2) (limb b 3) (limb b 4) (limb b 5) (limb b 6) (limb b 7))) := ((Below.refl _ _).alloc (Nat.le_refl _) _).alloc (by simp) _
  obtain ⟨W, hW⟩ : ∃ W, (w.alloc (obj8 (limb a 0) (limb a 1) (limb a 2) (limb a 3) (limb a 4) (limb a 5) (limb a 6) (limb a 7))).alloc (obj8 (limb b 0) (limb b 1) (limb b 2) (limb b 3) (limb b 4) (limb b 5) (limb b 6) (limb b 7)) = W := ⟨_, rfl⟩
  rw [hW] at RA RB HB
  have HRA := Lib.hid RA
  have HRB := Lib.hid RB
  have HHB := Lib.hid HB
  have HW := Lib.hid hW
  clear RA RB HB ha hb hW
  unfold wideN
  go_enter Try.func55, Try.ntmps55
  go_wp2_with fail
  have hW := HW.out
  dsimp only [obj8] at hW
  rw [hW]
  clear hW HW
  go_loopw [5] (fun t wr => ∃ k : Nat, t = .int .i64 ((k : Int) - 1) ∧ k ≤ 8 ∧ Hid (a / 18446744073709551616 ^ k = b / 18446744073709551616 ^ k) ∧ Drawn W wr) (fun t _ => (intOf t + 1).toNat)
  case atStart => exact ⟨8, rfl, by omega, HT, Drawn.refl _⟩
  case round =>
    obtain ⟨k, rfl, hk, HK, n, rfl⟩ := hrel
    clear HT
    cases k with
    | zero =>
      have he : a = b := by simpa using HK.out
      subst he
      go_wp2_with fail
      go_ret
      exact ⟨ret_bool (by simp), below_drewN HHB.out _⟩
    | succ k =>
      have hs := cmp_step64 HK.out
      have hs' := cmp_step64 HK.out.symm
      have c1 := (HRA.out).at (k := k) (by omega)
      have c2 := (HRB.out).at (k := k) (by omega)
      have e1 : (((k + 1 : Nat) : Int) - 1) = (k : Int) := by omega
      unfold limb at c1 c2
      generalize a / 18446744073709551616 ^ k % 18446744073709551616 = x at *
      generalize b / 18446744073709551616 ^ k % 18446744073709551616 = y at *
      have HS := Lib.hid hs
      have HS' := Lib.hid hs'
      clear hs hs' HK
      rw [e1]
      clear e1
      by_cases h1 : x < y
      · have n1 : ((x : Int) != (y : Int)) = true := by simp; omega
        go_wp2_with fail
        go_quiet (fail)
        go_wp2_with fail
        go_quiet (fail)
        go_wp2_with fail
        go_ret
        exact ⟨ret_bool (by have := HS.out.1 h1; simp; omega), below_drewN (below_drewN (below_drewN HHB.out _) _) _⟩
      · by_cases h2 : y < x
        · have n1 : ((x : Int) != (y : Int)) = true := by simp; omega
          go_wp2_with fail
          go_quiet (fail)
          go_wp2_with fail
          go_quiet (fail)
          go_wp2_with fail
          go_ret
          exact ⟨ret_bool (by have := HS'.out.1 h2; simp; omega), below_drewN (below_drewN (below_drewN HHB.out _) _) _⟩
        · have n1 : ((x : Int) != (y : Int)) = false := by simp; omega
          go_wp2_with fail
          go_quiet (fail)
          go_wp2_with fail
          go_roundw
          case rel => exact ⟨k, rfl, by omega, Lib.hid (HS.out.2 (by omega)), ⟨_, rfl⟩⟩
          case measure => simp [intOf]
end Go.Proofs.Ytchjjbklkmfelaa
