/- An account was slashed just as often as events say so, with a fee. -/
import Derived.Test.YtchjjbklkmfelaaTraceOf
import Derived.Test.YtchjjbklkmfelaaTyped
namespace Go.Proofs.Ytchjjbklkmfelaa
open Go.RowKit Go.Lib
set_option linter.unusedVariables false
set_option linter.unusedSimpArgs false

/-- The chapter's example. -/
def livEv : List Value := [.int .u8 8, .int .u64 0] ++ List.replicate 32 (.int .u8 0) ++ [.int .u8 0, .int .u8 0, .int .u8 0, .int .u8 0] ++ [.int .u64 9, .int .u64 0, .int .u64 0, .int .u64 0, .int .u64 1, .int .u64 0, .int .u64 0, .int .u64 0, .int .u32 0]
def zeroId : List Value := List.replicate 32 (.int .u8 0)
theorem zeroId_typed : Typed hashK zeroId := Ex.zero_ok.1
theorem livEv_typed : Typed evK livEv := typed_of_B _ _ (by kernel_rfl)
theorem livEx : (exOf [livEv] zeroId).fills = 1 ∧ (exOf [livEv] zeroId).paid = 9 ∧ (exOf [livEv] zeroId).fee = 1 := ⟨by kernel_rfl, by kernel_rfl, by kernel_rfl⟩

theorem ex_lies {w : World} {g : Nat} {x : Ex} (h : w.rangeAt g 0 x.list) (j : Nat) (hj : j < 46) : w.cell? ⟨g, j, none⟩ = some (x.cell j) := by
  have := h j (x.cell j) (by unfold Ex.list; rw [List.getElem?_map, List.getElem?_range hj]; rfl)
  rwa [Nat.zero_add] at this
theorem ex_there (w : World) (x : Ex) : (w.alloc objEx).there w.heap.size 0 x.list.toArray.size := by
  rw [show x.list.toArray.size = 46 by rw [List.size_toArray, x.list_len]]
  exact row_there (ExAt.zero w)
theorem ex_laid (w : World) (x : Ex) : ((w.alloc objEx).setCells w.heap.size 0 x.list).rangeAt w.heap.size 0 x.list :=
  World.rangeAt_setCells_same _ _ _ _ (by rw [x.list_len]; exact row_there (ExAt.zero w))

set_option maxHeartbeats 2000000 in
set_option maxRecDepth 100000 in
theorem tlives_calls (w : World) : Calls Try.prog 10 #[] w (Yes w) := by
  have hrec : Recs evK (w.alloc (.cells livEv.toArray 31)) (.slice (some ⟨w.heap.size, 0, none⟩) 1 1) [livEv] :=
    ⟨_, _, rfl, Nat.le_refl _, by unfold maxLen; omega, fun x hx => by rw [List.mem_singleton.1 hx]; exact livEv_typed, .inr ⟨w.heap.size, 0, rfl, fun i hi => by
      have : i = 0 := by simp at hi; omega
      subst this
      exact range_alloc w livEv.toArray _⟩⟩
  have hC := of_calls _ zeroId [livEv] _ hrec zeroId_typed (by decide)
  have HC := Lib.hid hC
  have HOK := Lib.hid (exOf_ok [livEv] zeroId (fun c hc => by rw [List.mem_singleton.1 hc]; exact livEv_typed)).1
  obtain ⟨l1, l2, l3⟩ := livEx
  generalize exOf [livEv] zeroId = X at *
  have Q0 : Below w.heap.size w (w.alloc (.cells livEv.toArray 31)) := (Below.refl _ _).alloc (Nat.le_refl _) _
  clear hC hrec
  go_enter Try.func10, Try.ntmps10
  go_wp2_with fail
  refine HC.out.mono ?_
  rintro e w' ⟨rfl, hb⟩
  have hQ := Q0.trans (hb.mono Q0.size)
  have hth := ex_there w' X
  have hL := ex_laid w' X
  have hQ2 := hQ.trans ((new_below w' objEx X.list).mono hQ.size)
  have hone := all_oneCell_toArray (Ex.list_one HOK.out)
  have hin' := ex_info' X
  unfold objEx at hth
  clear hb hQ Q0 HC
  go_upto_region 2 with (first
    | refine wpList_store_mid rfl 35 _ _ rfl w'.heap.size 0 X.list.toArray rfl rfl hth hin' hone ?_)
  obtain ⟨W2, hW2⟩ : ∃ W2, (w'.alloc objEx).setCells w'.heap.size 0 X.list = W2 := ⟨_, rfl⟩
  rw [hW2] at hL hQ2
  unfold objEx at hW2
  rw [hW2]
  clear hW2 hth
  have c34 : W2.cell? ⟨w'.heap.size, 34, none⟩ = some (.int .i64 (X.fills : Int)) := ex_lies hL 34 (by decide)
  have c38 : W2.cell? ⟨w'.heap.size, 38, none⟩ = some (.int .u64 (limb X.paid 0)) := ex_lies hL 38 (by decide)
  have c39 : W2.cell? ⟨w'.heap.size, 39, none⟩ = some (.int .u64 (limb X.paid 1)) := ex_lies hL 39 (by decide)
  have c40 : W2.cell? ⟨w'.heap.size, 40, none⟩ = some (.int .u64 (limb X.paid 2)) := ex_lies hL 40 (by decide)
  have c41 : W2.cell? ⟨w'.heap.size, 41, none⟩ = some (.int .u64 (limb X.paid 3)) := ex_lies hL 41 (by decide)
  have c42 : W2.cell? ⟨w'.heap.size, 42, none⟩ = some (.int .u64 (limb X.fee 0)) := ex_lies hL 42 (by decide)
  have c43 : W2.cell? ⟨w'.heap.size, 43, none⟩ = some (.int .u64 (limb X.fee 1)) := ex_lies hL 43 (by decide)
  have c44 : W2.cell? ⟨w'.heap.size, 44, none⟩ = some (.int .u64 (limb X.fee 2)) := ex_lies hL 44 (by decide)
  have c45 : W2.cell? ⟨w'.heap.size, 45, none⟩ = some (.int .u64 (limb X.fee 3)) := ex_lies hL 45 (by decide)
  rw [l1] at c34
  rw [l2] at c38 c39 c40 c41
  rw [l3] at c42 c43 c44 c45
  rw [show limb 9 0 = 9 by decide] at c38
  rw [show limb 9 1 = 0 by decide] at c39
  rw [show limb 9 2 = 0 by decide] at c40
  rw [show limb 9 3 = 0 by decide] at c41
  rw [show limb 1 0 = 1 by decide] at c42
  rw [show limb 1 1 = 0 by decide] at c43
  rw [show limb 1 2 = 0 by decide] at c44
  rw [show limb 1 3 = 0 by decide] at c45
  clear hL
  go_wp2_with fail
  go_ret
  exact ⟨rfl, hQ2⟩

set_option maxHeartbeats 2000000 in
set_option maxRecDepth 100000 in
theorem traceSlashed_many (v : Value) (who : Int) (l : List (List Value)) (w : World) (h : Recs evK w v l) (hl : 40 < l.length) :
    Calls Try.prog 3 #[v, .int .u8 who] w (Yes w) := by
  obtain ⟨A, c, rfl, a1, a2, -, -⟩ := id h
  unfold maxLen at a2
  have hl' : (40 : Int) < (l.length : Int) := by omega
  generalize l.length = n at *
  go_enter Try.func3, Try.ntmps3
  go_wp2_with fail
  refine (tlives_calls _).mono ?_
  rintro e w1 ⟨rfl, hb1⟩
  go_wp2_with fail
  refine (tlives_calls _).mono ?_
  rintro e w2 ⟨rfl, hb2⟩
  go_wp2_with fail
  go_ret
  exact ⟨rfl, hb1.trans (hb2.mono hb1.size)⟩
set_option maxHeartbeats 4000000 in
set_option maxRecDepth 100000 in
theorem traceSlashed_few (v : Value) (who : Int) (l : List (List Value)) (w : World) (h : Recs evK w v l) (hl : l.length ≤ 40) :
    Calls Try.prog 3 #[v, .int .u8 who] w (Yes w) := by
  obtain ⟨A, c, rfl, a1, a2, -, -⟩ := id h
  unfold maxLen at a2
  have hl' : (l.length : Int) ≤ 40 := by omega
  have HR0 := Lib.hid h
  clear h
  generalize hn : l.length = n at *
  have HN := Lib.hid hn
  clear hn
  go_enter Try.func3, Try.ntmps3
  go_wp2_with fail
  refine (tlives_calls _).mono ?_
  rintro e w1 ⟨rfl, hb1⟩
  have HR := Lib.hid (HR0.out.below (by rw [evK_len]; decide) hb1)
  clear HR0
  go_wp2_with fail
  go_loopw [5, 18] (fun m i wr => ∃ k : Nat, i = .int .i64 k ∧ k ≤ n ∧ m = .int .i64 (((l.take k).filter (slashed who)).length : Int) ∧ Below w1.heap.size w1 wr) (fun _ i _ => n - (RowKit.intOf i).toNat)
  case atStart => exact ⟨0, rfl, by omega, by simp, Below.refl _ _⟩
  case round =>
    obtain ⟨k, rfl, hk, rfl, hb⟩ := hrel
    by_cases hlt : k < n
    · have hlt' : (k : Int) < (n : Int) := by omega
      obtain ⟨g, o, rfl, hg, hr, ht⟩ := (HR.out.below (by rw [evK_len]; decide) hb).at (by rw [evK_len]; decide) k hlt
      have hft := filter_take (slashed who) l [] k (by rw [HN.out]; exact hlt)
      obtain ⟨x, hxe⟩ : ∃ x, l.getD k [] = x := ⟨_, rfl⟩
      rw [hxe] at hr ht
      rw [evK_len] at hr
      have HTh := Lib.hid (ev_there wr ht)
      unfold objEv at HTh
      go_upto_region 7 with (first
        | refine wpList_load_mid rfl 31 _ rfl g (o + k * 47) rfl x _ hr Try.underlying31 rfl (ev_info ht) ?_
        | refine wpList_store_mid rfl 31 _ _ rfl wr.heap.size 0 x.toArray rfl rfl HTh.out (ev_info' ht) (ev_one ht) ?_)
      have hL := ev_laid wr ht
      have hbb := hb.trans ((new_below wr objEv x).mono hb.size)
      have hs : wr.heap.size < ((wr.alloc objEv).setCells wr.heap.size 0 x).heap.size := range_lt hL (by rw [ht.length]; decide)
      unfold objEv at hL hbb hs
      obtain ⟨W2, hW2⟩ : ∃ W2, (wr.alloc objEv).setCells wr.heap.size 0 x = W2 := ⟨_, rfl⟩
      unfold objEv at hW2
      rw [hW2] at hL hbb hs
      rw [hW2]
      clear hW2 HTh
      have c0 := ev_cell hL ht 0 .u8 (by kernel_rfl)
      have c36 := ev_cell hL ht 36 .u8 (by kernel_rfl)
      have c42 := ev_cell hL ht 42 .u64 (by kernel_rfl)
      have c43 := ev_cell hL ht 43 .u64 (by kernel_rfl)
      have c44 := ev_cell hL ht 44 .u64 (by kernel_rfl)
      have c45 := ev_cell hL ht 45 .u64 (by kernel_rfl)
      have hsl : slashed who x = (intAt x 0 == 14 && intAt x 36 == who && !decide (intAt x 42 = 0 ∧ intAt x 43 = 0 ∧ intAt x 44 = 0 ∧ intAt x 45 = 0)) := rfl
      have hw : IntKind.i64.wrap ((k : Int) + 1) = (k : Int) + 1 := IntWalk.i64_in _ (by omega)
      rw [hxe] at hft
      generalize intAt x 0 = f0 at *
      generalize intAt x 36 = f36 at *
      generalize intAt x 42 = f42 at *
      generalize intAt x 43 = f43 at *
      generalize intAt x 44 = f44 at *
      generalize intAt x 45 = f45 at *
      have hm : ((l.take k).filter (slashed who)).length ≤ k := by
        refine Nat.le_trans (List.length_filter_le _ _) ?_
        rw [List.length_take]
        omega
      have HFT := Lib.hid hft
      clear hft
      generalize ((l.take k).filter (slashed who)).length = m at *
      have hw2 : IntKind.i64.wrap ((m : Int) + 1) = (m : Int) + 1 := IntWalk.i64_in _ (by omega)
      clear hL ht hr hb
      have HSL := Lib.hid hsl
      clear hsl
      have key : ∀ b : Bool, slashed who x = b → ((((l.take (k + 1)).filter (slashed who)).length : Nat) : Int) = if b then (m : Int) + 1 else m := fun b hb => by
        rw [HFT.out, hb]
        cases b <;> simp
      have HK := Lib.hid key
      clear key
      by_cases e1 : f0 = 14
      · subst e1
        by_cases e2 : f36 = who
        · subst e2
          by_cases e3 : f42 = 0 ∧ f43 = 0 ∧ f44 = 0 ∧ f45 = 0
          · obtain ⟨rfl, rfl, rfl, rfl⟩ := e3
            go_wp2_with fail
            go_roundw
            case rel => exact ⟨k + 1, rfl, by omega, congrArg (Value.int .i64) (HK.out false (by rw [HSL.out]; simp)).symm, hbb⟩
            case measure => simp [RowKit.intOf]; omega
          · go_wp2_with fail
            go_roundw
            case rel => exact ⟨k + 1, rfl, by omega, congrArg (Value.int .i64) (HK.out true (by rw [HSL.out]; simp [e3])).symm, hbb⟩
            case measure => simp [RowKit.intOf]; omega
        · have e2' : (f36 == who) = false := beq_eq_false_iff_ne.2 e2
          go_wp2_with fail
          go_roundw
          case rel => exact ⟨k + 1, rfl, by omega, congrArg (Value.int .i64) (HK.out false (by rw [HSL.out]; simp [e2])).symm, hbb⟩
          case measure => simp [RowKit.intOf]; omega
      · have e1' : (f0 == 14) = false := beq_eq_false_iff_ne.2 e1
        go_wp2_with fail
        go_roundw
        case rel => exact ⟨k + 1, rfl, by omega, congrArg (Value.int .i64) (HK.out false (by rw [HSL.out]; simp [e1])).symm, hbb⟩
        case measure => simp [RowKit.intOf]; omega
    · have hkn : k = n := by omega
      subst hkn
      rw [List.take_of_length_le (by rw [HN.out]; exact Nat.le_refl _)]
      have HSl := Lib.hid (slashed_calls _ who l wr (HR.out.below (by rw [evK_len]; decide) hb) (by rw [HN.out]; omega))
      have hbb := hb1.trans (hb.mono hb1.size)
      generalize (l.filter (slashed who)).length = m at *
      go_wp2_with fail
      refine HSl.out.mono ?_
      rintro e w' ⟨rfl, hb'⟩
      have hbe := hbb.trans (hb'.mono hbb.size)
      go_wp2_with fail
      go_ret
      exact ⟨rfl, hbe⟩

theorem traceSlashed_calls (v : Value) (who : Int) (w : World) (h : ∃ l, Recs evK w v l) (w0 : 0 ≤ who) (w1 : who < 256) :
    Calls Try.prog 3 #[v, .int .u8 who] w (Yes w) := by
  obtain ⟨l, h⟩ := h
  rcases Nat.lt_or_ge 40 l.length with hl | hl
  · exact traceSlashed_many v who l w h hl
  · exact traceSlashed_few v who l w h hl
end Go.Proofs.Ytchjjbklkmfelaa
