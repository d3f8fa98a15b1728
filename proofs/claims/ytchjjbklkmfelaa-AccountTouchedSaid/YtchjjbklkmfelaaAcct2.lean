/- account.of: what an event gives to an account, and takes from it. -/
import Derived.Test.YtchjjbklkmfelaaAcct1
namespace Go.Proofs.Ytchjjbklkmfelaa
open Go.RowKit Go.Lib
set_option linter.unusedVariables false
set_option linter.unusedSimpArgs false

def givesV (c : List Value) (who : Int) : Bool := (decide (waysV c = 1 ∨ waysV c = 5) && (intAt c 37 == who)) || (decide (waysV c = 2) && (intAt c 36 == who))
def takesV (c : List Value) (who : Int) : Bool := decide (waysV c = 4 ∨ waysV c = 5) && (intAt c 36 == who)

set_option maxHeartbeats 4000000 in
set_option maxRecDepth 100000 in
theorem aof_calls (c : List Value) (who : Int) (w : World) (hc : Typed evK c) :
    Calls Try.prog 39 #[.agg c.toArray, .int .u8 who] w fun e w' => e = .returned (.tuple #[.bool (givesV c who), .bool (takesV c who)]) ∧ Below w.heap.size w w' := by
  obtain ⟨hr, hb, hs⟩ := box_ev w hc
  have hg : givesV c who = ((decide (waysV c = 1 ∨ waysV c = 5) && (intAt c 37 == who)) || (decide (waysV c = 2) && (intAt c 36 == who))) := rfl
  have ht : takesV c who = (decide (waysV c = 4 ∨ waysV c = 5) && (intAt c 36 == who)) := rfl
  obtain ⟨W, hW⟩ : ∃ W, w.alloc (.cells c.toArray 31) = W := ⟨_, rfl⟩
  rw [hW] at hr hb hs
  have HW := Lib.hid hW
  have hin := ev_info hc
  have HC := Lib.hid hc
  have HWy := Lib.hid (ways_calls c W hc)
  have hcs := waysK_cases (intAt c 0) (intAt c 34)
  have hcs' : waysV c = 0 ∨ waysV c = 1 ∨ waysV c = 2 ∨ waysV c = 4 ∨ waysV c = 5 := hcs
  clear hW hc hcs
  go_enter Try.func39, Try.ntmps39
  go_upto_region 1 with fail
  rw [HW.out]
  clear HW
  go_wp2_with (first
    | refine wpList_load_mid rfl 31 _ rfl w.heap.size 0 rfl c _ hr Try.underlying31 rfl hin ?_)
  refine HWy.out.mono ?_
  rintro e w1 ⟨rfl, hb1⟩
  have hr1 := range_below hr hb1 hs
  have hbb := hb.trans (hb1.mono (by omega))
  have c36 := ev_cell hr1 HC.out 36 .u8 (by kernel_rfl)
  have c37 := ev_cell hr1 HC.out 37 .u8 (by kernel_rfl)
  generalize waysV c = wy at *
  generalize intAt c 36 = f at *
  generalize intAt c 37 = t at *
  have HG := Lib.hid hg
  have HT := Lib.hid ht
  clear hg ht hr hr1 hb hs HWy hin hb1
  by_cases e1 : t = who
  all_goals by_cases e2 : f = who
  all_goals first | (have b1 : (t == who) = true := beq_iff_eq.2 e1) | (have b1 : (t == who) = false := beq_eq_false_iff_ne.2 e1)
  all_goals first | (have b2 : (f == who) = true := beq_iff_eq.2 e2) | (have b2 : (f == who) = false := beq_eq_false_iff_ne.2 e2)
  all_goals rcases hcs' with rfl | rfl | rfl | rfl | rfl
  all_goals
    have HBs := Lib.hid (And.intro b1 b2)
    clear e1 e2
    go_wp2_with fail
    go_quiet (fail)
    go_wp2_with fail
    go_ret2
    exact ⟨by rw [HG.out, HT.out, HBs.out.1, HBs.out.2]; rfl, below_drewN hbb _⟩
end Go.Proofs.Ytchjjbklkmfelaa
