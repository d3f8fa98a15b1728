/- What an event does to an account: account.ways, account.of. -/
import Derived.Test.YtchjjbklkmfelaaEv
namespace Go.Proofs.Ytchjjbklkmfelaa
open Go.RowKit Go.Lib
set_option linter.unusedVariables false
set_option linter.unusedSimpArgs false

/-- What a kind does to its two accounts. -/
def waysK (k side : Int) : Int :=
  if k = 1 then (if side = 0 then 5 else 0) else if k = 8 then 5 else if k = 0 ∨ k = 11 ∨ k = 13 ∨ k = 14 ∨ k = 15 ∨ k = 18 then 1
  else if k = 6 ∨ k = 16 then 2 else if k = 2 ∨ k = 4 ∨ k = 9 ∨ k = 10 ∨ k = 17 then 4 else 0
def waysV (c : List Value) : Int := waysK (intAt c 0) (intAt c 34)
theorem waysK_cases (k s : Int) : waysK k s = 0 ∨ waysK k s = 1 ∨ waysK k s = 2 ∨ waysK k s = 4 ∨ waysK k s = 5 := by
  unfold waysK
  repeat' split
  all_goals simp

theorem box_ev (w : World) {c : List Value} (hc : Typed evK c) : (w.alloc (.cells c.toArray 31)).rangeAt w.heap.size 0 c ∧ Below w.heap.size w (w.alloc (.cells c.toArray 31)) ∧ w.heap.size < (w.alloc (.cells c.toArray 31)).heap.size :=
  ⟨range_alloc w c.toArray _, (Below.refl _ _).alloc (Nat.le_refl _) _, by simp⟩

set_option maxHeartbeats 4000000 in
set_option maxRecDepth 100000 in
theorem ways_calls (c : List Value) (w : World) (hc : Typed evK c) :
    Calls Try.prog 59 #[.agg c.toArray] w fun e w' => e = .returned (.int .u8 (waysV c)) ∧ Below w.heap.size w w' := by
  obtain ⟨hr, hb, hs⟩ := box_ev w hc
  have hv : waysV c = waysK (intAt c 0) (intAt c 34) := rfl
  have c0 := ev_cell hr hc 0 .u8 (by kernel_rfl)
  have c34 := ev_cell hr hc 34 .u8 (by kernel_rfl)
  generalize intAt c 0 = k at *
  generalize intAt c 34 = s at *
  have HV := Lib.hid hv
  obtain ⟨W, hW⟩ : ∃ W, w.alloc (.cells c.toArray 31) = W := ⟨_, rfl⟩
  rw [hW] at c0 c34 hb hs
  have HW := Lib.hid hW
  clear hv hr hc hW
  go_enter Try.func59, Try.ntmps59
  go_upto_region 1 with fail
  rw [HW.out]
  clear HW
  by_cases h0 : k = 1
  · subst h0
    by_cases hs0 : s = 0
    · subst hs0
      go_wp2_with fail
      go_ret
      exact ⟨by rw [HV.out]; rfl, hb⟩
    · have hs1 : (s == 0) = false := beq_eq_false_iff_ne.2 hs0
      have HE := Lib.hid (show (0 : Int) = waysV c by rw [HV.out]; unfold waysK; rw [if_pos rfl, if_neg hs0])
      go_wp2_with fail
      go_ret
      exact ⟨congrArg (fun z => Ending.returned (.int .u8 z)) HE.out, hb⟩
  have g0 : (k == 1) = false := beq_eq_false_iff_ne.2 h0
  by_cases h1 : k = 8
  · subst h1
    go_wp2_with fail
    go_ret
    exact ⟨by rw [HV.out]; rfl, hb⟩
  have g1 : (k == 8) = false := beq_eq_false_iff_ne.2 h1
  by_cases h2 : k = 0
  · subst h2
    go_wp2_with fail
    go_ret
    exact ⟨by rw [HV.out]; rfl, hb⟩
  have g2 : (k == 0) = false := beq_eq_false_iff_ne.2 h2
  by_cases h3 : k = 11
  · subst h3
    go_wp2_with fail
    go_ret
    exact ⟨by rw [HV.out]; rfl, hb⟩
  have g3 : (k == 11) = false := beq_eq_false_iff_ne.2 h3
  by_cases h4 : k = 13
  · subst h4
    go_wp2_with fail
    go_ret
    exact ⟨by rw [HV.out]; rfl, hb⟩
  have g4 : (k == 13) = false := beq_eq_false_iff_ne.2 h4
  by_cases h5 : k = 14
  · subst h5
    go_wp2_with fail
    go_ret
    exact ⟨by rw [HV.out]; rfl, hb⟩
  have g5 : (k == 14) = false := beq_eq_false_iff_ne.2 h5
  by_cases h6 : k = 15
  · subst h6
    go_wp2_with fail
    go_ret
    exact ⟨by rw [HV.out]; rfl, hb⟩
  have g6 : (k == 15) = false := beq_eq_false_iff_ne.2 h6
  by_cases h7 : k = 18
  · subst h7
    go_wp2_with fail
    go_ret
    exact ⟨by rw [HV.out]; rfl, hb⟩
  have g7 : (k == 18) = false := beq_eq_false_iff_ne.2 h7
  by_cases h8 : k = 6
  · subst h8
    go_wp2_with fail
    go_ret
    exact ⟨by rw [HV.out]; rfl, hb⟩
  have g8 : (k == 6) = false := beq_eq_false_iff_ne.2 h8
  by_cases h9 : k = 16
  · subst h9
    go_wp2_with fail
    go_ret
    exact ⟨by rw [HV.out]; rfl, hb⟩
  have g9 : (k == 16) = false := beq_eq_false_iff_ne.2 h9
  by_cases h10 : k = 2
  · subst h10
    go_wp2_with fail
    go_ret
    exact ⟨by rw [HV.out]; rfl, hb⟩
  have g10 : (k == 2) = false := beq_eq_false_iff_ne.2 h10
  by_cases h11 : k = 4
  · subst h11
    go_wp2_with fail
    go_ret
    exact ⟨by rw [HV.out]; rfl, hb⟩
  have g11 : (k == 4) = false := beq_eq_false_iff_ne.2 h11
  by_cases h12 : k = 9
  · subst h12
    go_wp2_with fail
    go_ret
    exact ⟨by rw [HV.out]; rfl, hb⟩
  have g12 : (k == 9) = false := beq_eq_false_iff_ne.2 h12
  by_cases h13 : k = 10
  · subst h13
    go_wp2_with fail
    go_ret
    exact ⟨by rw [HV.out]; rfl, hb⟩
  have g13 : (k == 10) = false := beq_eq_false_iff_ne.2 h13
  by_cases h14 : k = 17
  · subst h14
    go_wp2_with fail
    go_ret
    exact ⟨by rw [HV.out]; rfl, hb⟩
  have g14 : (k == 17) = false := beq_eq_false_iff_ne.2 h14
  have HE := Lib.hid (show (0 : Int) = waysV c by
    rw [HV.out]
    unfold waysK
    rw [if_neg h0, if_neg h1, if_neg (by omega), if_neg (by omega), if_neg (by omega)])
  go_wp2_with fail
  go_ret
  exact ⟨congrArg (fun z => Ending.returned (.int .u8 z)) HE.out, hb⟩
end Go.Proofs.Ytchjjbklkmfelaa
