/- Rows of events; how often an account was slashed. -/
import Derived.Test.YtchjjbklkmfelaaRecs
import Derived.Test.YtchjjbklkmfelaaEq
import Derived.Test.YtchjjbklkmfelaaBig
namespace Go.Proofs.Ytchjjbklkmfelaa
open Go.RowKit Go.Lib
set_option linter.unusedVariables false
set_option linter.unusedSimpArgs false

/-- An event's cells. -/
def evK : Kinds := [some .u8, some .u64] ++ List.replicate 32 (some .u8) ++ [some .u8, some .u8, some .u8, some .u8] ++ List.replicate 8 (some .u64) ++ [some .u32]
theorem evK_flat : flatK Try.prog 6 31 = some evK := by kernel_rfl
theorem evK_cells : Try.prog.cellsOf 31 = evK.length := by kernel_rfl
theorem evK_info : (Try.prog.info? 31).map (·.size) = some 47 := by kernel_rfl
set_option maxRecDepth 10000 in
theorem evK_len : evK.length = 47 := by kernel_rfl
set_option maxRecDepth 100000 in
/-- A new variable for one. -/
def objEv : Obj := .cells #[.int .u8 0, .int .u64 0, .int .u8 0, .int .u8 0, .int .u8 0, .int .u8 0, .int .u8 0, .int .u8 0, .int .u8 0, .int .u8 0, .int .u8 0, .int .u8 0, .int .u8 0, .int .u8 0, .int .u8 0, .int .u8 0, .int .u8 0, .int .u8 0, .int .u8 0, .int .u8 0, .int .u8 0, .int .u8 0, .int .u8 0, .int .u8 0, .int .u8 0, .int .u8 0, .int .u8 0, .int .u8 0, .int .u8 0, .int .u8 0, .int .u8 0, .int .u8 0, .int .u8 0, .int .u8 0, .int .u8 0, .int .u8 0, .int .u8 0, .int .u8 0, .int .u64 0, .int .u64 0, .int .u64 0, .int .u64 0, .int .u64 0, .int .u64 0, .int .u64 0, .int .u64 0, .int .u32 0] 31
theorem ev_info {c : List Value} (h : Typed evK c) : (Try.prog.info? 31).map (·.size) = some c.length := by rw [h.length]; exact evK_info
theorem ev_info' {c : List Value} (h : Typed evK c) : (Try.prog.info? 31).map (·.size) = some c.toArray.size := by rw [List.size_toArray]; exact ev_info h
theorem ev_one {c : List Value} (h : Typed evK c) : c.toArray.all (·.oneCell') = true := all_oneCell_toArray h.one
theorem evK_pos : 0 < evK.length := by rw [evK_len]; omega
set_option maxRecDepth 100000 in
theorem Evs_open {H : Type} {enc : TypeId × Value → H} {W : World} {base : Nat} {v : Value} {d : DataW H} {p : List MemPlace} (hval : Value.okWide Try.prog W .any base 22 v) (h : DataW.Trod enc Try.prog W 0 (fun _ => true) true 22 v d p) :
    ∃ l, Recs evK W v l := open_recs Try.underlying22 evK_flat evK_cells evK_pos hval h

set_option maxRecDepth 100000 in
theorem ev_there (w : World) {c : List Value} (h : Typed evK c) : (w.alloc objEv).there w.heap.size 0 c.toArray.size := by
  have := there_alloc w #[.int .u8 0, .int .u64 0, .int .u8 0, .int .u8 0, .int .u8 0, .int .u8 0, .int .u8 0, .int .u8 0, .int .u8 0, .int .u8 0, .int .u8 0, .int .u8 0, .int .u8 0, .int .u8 0, .int .u8 0, .int .u8 0, .int .u8 0, .int .u8 0, .int .u8 0, .int .u8 0, .int .u8 0, .int .u8 0, .int .u8 0, .int .u8 0, .int .u8 0, .int .u8 0, .int .u8 0, .int .u8 0, .int .u8 0, .int .u8 0, .int .u8 0, .int .u8 0, .int .u8 0, .int .u8 0, .int .u8 0, .int .u8 0, .int .u8 0, .int .u8 0, .int .u64 0, .int .u64 0, .int .u64 0, .int .u64 0, .int .u64 0, .int .u64 0, .int .u64 0, .int .u64 0, .int .u32 0] 31
  rw [show c.toArray.size = 47 by rw [List.size_toArray, h.length, evK_len]]
  exact this
theorem ev_laid (w : World) {c : List Value} (h : Typed evK c) : ((w.alloc objEv).setCells w.heap.size 0 c).rangeAt w.heap.size 0 c :=
  World.rangeAt_setCells_same _ _ _ _ (by have := ev_there w h; rwa [List.size_toArray] at this)
theorem new_below (w : World) (o : Obj) (c : List Value) : Below w.heap.size w ((w.alloc o).setCells w.heap.size 0 c) := below_range (Nat.le_refl _) c 0 _ ((Below.refl _ _).alloc (Nat.le_refl _) o)

theorem ev_cell {W : World} {g : Nat} {x : List Value} (hL : W.rangeAt g 0 x) (ht : Typed evK x) (j : Nat) (k : IntKind) (hk : evK[j]? = some (some k)) : W.cell? ⟨g, j, none⟩ = some (.int k (intAt x j)) := by
  have := hL j _ (ht.at j k hk).1
  rwa [Nat.zero_add] at this
theorem filter_take {α : Type} (p : α → Bool) (l : List α) (d : α) (k : Nat) (h : k < l.length) : ((l.take (k + 1)).filter p).length = ((l.take k).filter p).length + if p (l.getD k d) then 1 else 0 := by
  rw [List.take_succ_eq_append_getElem h, List.filter_append, List.length_append, List.getD_eq_getElem?_getD, List.getElem?_eq_getElem h]
  simp only [Option.getD_some, List.filter_cons, List.filter_nil]
  split <;> rfl

/-- Is an event a slash of an account, with a fee? -/
def slashed (who : Int) (c : List Value) : Bool := intAt c 0 == 14 && intAt c 36 == who && !decide (intAt c 42 = 0 ∧ intAt c 43 = 0 ∧ intAt c 44 = 0 ∧ intAt c 45 = 0)

set_option maxHeartbeats 2000000 in
set_option maxRecDepth 100000 in
theorem slashed_calls (v : Value) (who : Int) (l : List (List Value)) (w : World) (h : Recs evK w v l) (hl : l.length ≤ 1000000) :
    Calls Try.prog 11 #[v, .int .u8 who] w fun e w' => e = .returned (.int .i64 ((l.filter (slashed who)).length : Int)) ∧ Below w.heap.size w w' := by
  obtain ⟨A, c, rfl, a1, a2, -, -⟩ := id h
  unfold maxLen at a2
  have HR := Lib.hid h
  clear h
  generalize hn : l.length = n at *
  have HN := Lib.hid hn
  clear hn
  go_enter Try.func11, Try.ntmps11
  go_wp2_with fail
  go_loopw [5, 10] (fun m i wr => ∃ k : Nat, i = .int .i64 k ∧ k ≤ n ∧ m = .int .i64 (((l.take k).filter (slashed who)).length : Int) ∧ Below w.heap.size w wr) (fun _ i _ => n - (RowKit.intOf i).toNat)
  case atStart => exact ⟨0, rfl, by omega, by simp, Below.refl _ _⟩
  case round =>
    obtain ⟨k, rfl, hk, rfl, hb⟩ := hrel
    by_cases hlt : k < n
    · have hlt' : (k : Int) < (n : Int) := by omega
      obtain ⟨g, o, rfl, hg, hr, ht⟩ := (HR.out.below (by decide) hb).at (by decide) k hlt
      have hft := filter_take (slashed who) l [] k (by rw [HN.out]; exact hlt)
      obtain ⟨x, hxe⟩ : ∃ x, l.getD k [] = x := ⟨_, rfl⟩
      rw [hxe] at hr ht
      rw [evK_len] at hr
      have HTh := Lib.hid (ev_there wr ht)
      unfold objEv at HTh
      go_upto_region 5 with (first
        | refine wpList_load_mid rfl 31 _ rfl g (o + k * 47) rfl x _ hr Try.underlying31 rfl (ev_info ht) ?_
        | refine wpList_store_mid rfl 31 _ _ rfl wr.heap.size 0 x.toArray rfl rfl HTh.out (ev_info' ht) (ev_one ht) ?_)
      have hL := ev_laid wr ht
      have hbb := hb.trans ((new_below wr objEv x).mono hb.size)
      have hs : wr.heap.size < ((wr.alloc objEv).setCells wr.heap.size 0 x).heap.size := range_lt hL (by rw [ht.length]; decide)
      unfold objEv at hL hbb hs
      obtain ⟨W2, hW2⟩ : ∃ W2, (wr.alloc objEv).setCells wr.heap.size 0 x = W2 := ⟨_, rfl⟩
      unfold objEv at hW2
      rw [hW2] at hL hbb hs
      rw [hW2]
      clear hW2 HTh
      have c0 := ev_cell hL ht 0 .u8 (by kernel_rfl)
      have c36 := ev_cell hL ht 36 .u8 (by kernel_rfl)
      have c42 := ev_cell hL ht 42 .u64 (by kernel_rfl)
      have c43 := ev_cell hL ht 43 .u64 (by kernel_rfl)
      have c44 := ev_cell hL ht 44 .u64 (by kernel_rfl)
      have c45 := ev_cell hL ht 45 .u64 (by kernel_rfl)
      have hsl : slashed who x = (intAt x 0 == 14 && intAt x 36 == who && !decide (intAt x 42 = 0 ∧ intAt x 43 = 0 ∧ intAt x 44 = 0 ∧ intAt x 45 = 0)) := rfl
      have hw : IntKind.i64.wrap ((k : Int) + 1) = (k : Int) + 1 := IntWalk.i64_in _ (by omega)
      rw [hxe] at hft
      generalize intAt x 0 = f0 at *
      generalize intAt x 36 = f36 at *
      generalize intAt x 42 = f42 at *
      generalize intAt x 43 = f43 at *
      generalize intAt x 44 = f44 at *
      generalize intAt x 45 = f45 at *
      have hm : ((l.take k).filter (slashed who)).length ≤ k := by
        refine Nat.le_trans (List.length_filter_le _ _) ?_
        rw [List.length_take]
        omega
      have HFT := Lib.hid hft
      clear hft
      generalize ((l.take k).filter (slashed who)).length = m at *
      have hw2 : IntKind.i64.wrap ((m : Int) + 1) = (m : Int) + 1 := IntWalk.i64_in _ (by omega)
      clear hL ht hr hb
      have HSL := Lib.hid hsl
      clear hsl
      have key : ∀ b : Bool, slashed who x = b → ((((l.take (k + 1)).filter (slashed who)).length : Nat) : Int) = if b then (m : Int) + 1 else m := fun b hb => by
        rw [HFT.out, hb]
        cases b <;> simp
      have HK := Lib.hid key
      clear key
      by_cases e1 : f0 = 14
      · subst e1
        by_cases e2 : f36 = who
        · subst e2
          by_cases e3 : f42 = 0 ∧ f43 = 0 ∧ f44 = 0 ∧ f45 = 0
          · obtain ⟨rfl, rfl, rfl, rfl⟩ := e3
            go_wp2_with fail
            go_roundw
            case rel => exact ⟨k + 1, rfl, by omega, congrArg (Value.int .i64) (HK.out false (by rw [HSL.out]; simp)).symm, hbb⟩
            case measure => simp [RowKit.intOf]; omega
          · go_wp2_with fail
            go_roundw
            case rel => exact ⟨k + 1, rfl, by omega, congrArg (Value.int .i64) (HK.out true (by rw [HSL.out]; simp [e3])).symm, hbb⟩
            case measure => simp [RowKit.intOf]; omega
        · have e2' : (f36 == who) = false := beq_eq_false_iff_ne.2 e2
          go_wp2_with fail
          go_roundw
          case rel => exact ⟨k + 1, rfl, by omega, congrArg (Value.int .i64) (HK.out false (by rw [HSL.out]; simp [e2])).symm, hbb⟩
          case measure => simp [RowKit.intOf]; omega
      · have e1' : (f0 == 14) = false := beq_eq_false_iff_ne.2 e1
        go_wp2_with fail
        go_roundw
        case rel => exact ⟨k + 1, rfl, by omega, congrArg (Value.int .i64) (HK.out false (by rw [HSL.out]; simp [e1])).symm, hbb⟩
        case measure => simp [RowKit.intOf]; omega
    · have hkn : k = n := by omega
      subst hkn
      rw [List.take_of_length_le (by rw [HN.out]; exact Nat.le_refl _)]
      go_wp2_with fail
      go_ret
      exact ⟨rfl, hb⟩
end Go.Proofs.Ytchjjbklkmfelaa
