/- (trace.Exit).Once; what is counted of two rows together. -/
import Derived.Test.YtchjjbklkmfelaaTrace1
namespace Go.Proofs.Ytchjjbklkmfelaa
open Go.RowKit Go.Lib
set_option linter.unusedVariables false
set_option linter.unusedSimpArgs false

def Ex.once (x : Ex) : Bool := decide (x.fills + x.redeems ≤ 1) && decide (x.refunds ≤ 1) && decide (x.carries ≤ 1)

set_option maxHeartbeats 2000000 in
set_option maxRecDepth 100000 in
theorem once_calls (x : Ex) (w : World) (hs : x.sum ≤ 1000000) :
    Calls Try.prog 14 #[.agg x.list.toArray] w fun e w' => e = .returned (.bool x.once) ∧ Below w.heap.size w w' := by
  have hr : (w.alloc (.cells x.list.toArray 35)).rangeAt w.heap.size 0 x.list := range_alloc w x.list.toArray _
  have hb : Below w.heap.size w (w.alloc (.cells x.list.toArray 35)) := (Below.refl _ _).alloc (Nat.le_refl _) _
  have hx : x.once = (decide (x.fills + x.redeems ≤ 1) && decide (x.refunds ≤ 1) && decide (x.carries ≤ 1)) := rfl
  have hsum : x.sum = x.burns + x.fills + x.redeems + x.refunds + x.carries := rfl
  obtain ⟨W, hW⟩ : ∃ W, w.alloc (.cells x.list.toArray 35) = W := ⟨_, rfl⟩
  rw [hW] at hr hb
  have HW := Lib.hid hW
  have c34 : W.cell? ⟨w.heap.size, 34, none⟩ = some (.int .i64 (x.fills : Int)) := ex_lies hr 34 (by decide)
  have c35 : W.cell? ⟨w.heap.size, 35, none⟩ = some (.int .i64 (x.redeems : Int)) := ex_lies hr 35 (by decide)
  have c36 : W.cell? ⟨w.heap.size, 36, none⟩ = some (.int .i64 (x.refunds : Int)) := ex_lies hr 36 (by decide)
  have c37 : W.cell? ⟨w.heap.size, 37, none⟩ = some (.int .i64 (x.carries : Int)) := ex_lies hr 37 (by decide)
  have HX := Lib.hid hx
  clear hW hx hr
  generalize x.fills = f at *
  generalize x.redeems = r at *
  generalize x.refunds = u at *
  generalize x.carries = k at *
  have w1 : IntKind.i64.wrap ((f : Int) + r) = (f : Int) + r := IntWalk.i64_in _ (by omega)
  clear hsum hs
  go_enter Try.func14, Try.ntmps14
  go_upto_region 1 with fail
  rw [HW.out]
  clear HW
  by_cases h1 : f + r ≤ 1
  · have h1' : (f : Int) + r ≤ 1 := by omega
    by_cases h2 : u ≤ 1
    · have h2' : (u : Int) ≤ 1 := by omega
      by_cases h3 : k ≤ 1
      · have h3' : (k : Int) ≤ 1 := by omega
        have HE := Lib.hid (show true = x.once by rw [HX.out, decide_eq_true h1, decide_eq_true h2, decide_eq_true h3]; rfl)
        clear h1 h2 h3
        go_wp2_with fail
        go_ret
        exact ⟨by rw [← HE.out]; simp [h1', h2', h3'], hb⟩
      · have h3' : ¬ (k : Int) ≤ 1 := by omega
        have HE := Lib.hid (show false = x.once by rw [HX.out, decide_eq_true h1, decide_eq_true h2, decide_eq_false h3]; rfl)
        clear h1 h2 h3
        go_wp2_with fail
        go_ret
        exact ⟨by rw [← HE.out]; simp [h1', h2', h3'], hb⟩
    · have h2' : ¬ (u : Int) ≤ 1 := by omega
      have HE := Lib.hid (show false = x.once by rw [HX.out, decide_eq_true h1, decide_eq_false h2]; rfl)
      clear h1 h2
      go_wp2_with fail
      go_ret
      exact ⟨by rw [← HE.out]; simp [h1', h2'], hb⟩
  · have h1' : ¬ (f : Int) + r ≤ 1 := by omega
    have HE := Lib.hid (show false = x.once by rw [HX.out, decide_eq_false h1]; rfl)
    clear h1
    go_wp2_with fail
    go_ret
    exact ⟨by rw [← HE.out]; simp [h1'], hb⟩

/-- What is counted of a row behind another one. -/
structure Cnt where
  b : Nat
  f : Nat
  r : Nat
  u : Nat
  c : Nat
def Ex.cnt (x : Ex) : Cnt := ⟨x.burns, x.fills, x.redeems, x.refunds, x.carries⟩
def Cnt.add (x y : Cnt) : Cnt := ⟨x.b + y.b, x.f + y.f, x.r + y.r, x.u + y.u, x.c + y.c⟩
/-- One event's count. -/
def one (c : List Value) : Cnt := if ctr (intAt c 0) = none then ⟨0, 0, 0, 0, 0⟩ else if intAt c 0 = 3 then ⟨1, 0, 0, 0, 0⟩ else if intAt c 0 = 8 then ⟨0, 1, 0, 0, 0⟩ else if intAt c 0 = 13 then ⟨0, 0, 1, 0, 0⟩ else if intAt c 0 = 11 then ⟨0, 0, 0, 1, 0⟩ else ⟨0, 0, 0, 0, 1⟩
theorem take_cnt (x : Ex) (c : List Value) : (x.take c).cnt = x.cnt.add (one c) := by
  unfold Ex.take one
  split
  · rfl
  · have h1 : ((((x.first c).count (intAt c 0)).fees c).pays c).cnt = ((x.first c).count (intAt c 0)).cnt := by
      unfold Ex.pays Ex.fees
      repeat' split
      all_goals rfl
    rw [h1]
    have h2 : (x.first c).cnt = x.cnt := by
      unfold Ex.first
      split <;> rfl
    unfold Ex.count
    rw [← h2]
    repeat' split
    all_goals rfl
def paidE (c : List Value) : Nat := if intAt c 0 = 8 ∨ intAt c 0 = 13 then numAt c 38 else 0
theorem sat_assoc (a b c : Nat) : sat (sat a b) c = if a + b + c < 18446744073709551616 ^ 4 then a + b + c else 18446744073709551616 ^ 4 - 1 := by
  unfold sat
  repeat' split
  all_goals omega
theorem take_paid (x : Ex) (c : List Value) (h : x.paid < 18446744073709551616 ^ 4) : (x.take c).paid = sat x.paid (paidE c) := by
  have hc : ∀ k, ctr k = none → ¬ (k = 8 ∨ k = 13) := fun k hk h => by
    rcases h with rfl | rfl <;> simp [ctr] at hk
  have h0 : sat x.paid 0 = x.paid := by unfold sat; rw [Nat.add_zero, if_pos h]
  unfold Ex.take paidE
  by_cases h1 : ctr (intAt c 0) = none
  · rw [if_pos h1, if_neg (hc _ h1), h0]
  · rw [if_neg h1]
    have hp : (((x.first c).count (intAt c 0)).fees c).paid = x.paid := by
      rw [show (((x.first c).count (intAt c 0)).fees c).paid = ((x.first c).count (intAt c 0)).paid by unfold Ex.fees; split <;> rfl, ((x.first c).count_sum _).2.1, (x.first_sum c).2.1]
    unfold Ex.pays
    split
    · rw [hp]
    · rw [h0, hp]
end Go.Proofs.Ytchjjbklkmfelaa
