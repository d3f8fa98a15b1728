/- law09.Refs: events, as the document has them. -/
import Derived.Test.YtchjjbklkmfelaaEv
import Derived.Test.YtchjjbklkmfelaaBuild
namespace Go.Proofs.Ytchjjbklkmfelaa
open Go.RowKit Go.Lib
set_option linter.unusedVariables false
set_option linter.unusedSimpArgs false

abbrev OwnF (w : World) (base : Nat) (v : Value) (l : List (List Value)) : Prop := OwnR 96 evK w base v l
set_option maxRecDepth 100000 in
theorem infoRef : (Try.prog.info? 96).map (fun i => (i.zero, i.size, i.bytes)) = some (some (.agg #[.int .u8 0, .int .u64 0, .int .u8 0, .int .u8 0, .int .u8 0, .int .u8 0, .int .u8 0, .int .u8 0, .int .u8 0, .int .u8 0, .int .u8 0, .int .u8 0, .int .u8 0, .int .u8 0, .int .u8 0, .int .u8 0, .int .u8 0, .int .u8 0, .int .u8 0, .int .u8 0, .int .u8 0, .int .u8 0, .int .u8 0, .int .u8 0, .int .u8 0, .int .u8 0, .int .u8 0, .int .u8 0, .int .u8 0, .int .u8 0, .int .u8 0, .int .u8 0, .int .u8 0, .int .u8 0, .int .u8 0, .int .u8 0, .int .u8 0, .int .u8 0, .int .u64 0, .int .u64 0, .int .u64 0, .int .u64 0, .int .u64 0, .int .u64 0, .int .u64 0, .int .u64 0, .int .u32 0]), 47, 128) := by kernel_rfl
theorem infoRef' : ∃ z : Value, (Try.prog.info? 96).map (fun i => (i.zero, i.size, i.bytes)) = some (some z, evK.length, 128) ∧ z.cells.size = evK.length := by
  rw [evK_len]
  exact ⟨_, infoRef, rfl⟩
theorem evK_small' : evK.length ≤ 2 ^ 24 := by rw [evK_len]; decide

set_option maxHeartbeats 4000000 in
set_option maxRecDepth 100000 in
theorem refs_calls (v : Value) (l : List (List Value)) (w : World) (h : Recs evK w v l) (hl : l.length ≤ 100000) :
    Calls Try.prog 27 #[v] w fun e w' => ∃ r, e = .returned r ∧ Recs evK w' r l ∧ Below w.heap.size w w' := by
  obtain ⟨A, c, rfl, a1, a2, -, -⟩ := id h
  unfold maxLen at a2
  obtain ⟨n, hn⟩ : ∃ n, l.length = n := ⟨_, rfl⟩
  rw [hn] at a1 hl h ⊢
  have HN := Lib.hid hn
  have HR := Lib.hid h
  clear hn h
  go_enter Try.func27, Try.ntmps27
  go_wp2_with fail
  go_loopw [3, 8] (fun r i wr => ∃ k : Nat, i = .int .i64 k ∧ k ≤ n ∧ OwnF wr w.heap.size r (l.take k) ∧ Below w.heap.size w wr) (fun _ i _ => n - (RowKit.intOf i).toNat)
  case atStart => exact ⟨0, rfl, by omega, OwnR.nil _ _ _ _, Below.refl _ _⟩
  case round =>
    obtain ⟨k, rfl, hk, ho, hb⟩ := hrel
    by_cases hlt : k < n
    · have hlt' : (k : Int) < (n : Int) := by omega
      obtain ⟨g, o, rfl, hg, hr, ht⟩ := (HR.out.below (by rw [evK_len]; decide) hb).at (by rw [evK_len]; decide) k hlt
      have hst : l.take (k + 1) = l.take k ++ [l.getD k []] := by
        rw [List.take_succ_eq_append_getElem (by have := HN.out; omega), List.getD_eq_getElem?_getD, List.getElem?_eq_getElem (by have := HN.out; omega)]
        rfl
      obtain ⟨x, hxe⟩ : ∃ x, l.getD k [] = x := ⟨_, rfl⟩
      rw [hxe] at hr ht hst
      rw [evK_len] at hr
      have HTh := Lib.hid (ev_there wr ht)
      unfold objEv at HTh
      go_upto_region 5 with (first
        | refine wpList_load_mid rfl 31 _ rfl g (o + k * 47) rfl x _ hr Try.underlying31 rfl (ev_info ht) ?_
        | refine wpList_store_mid rfl 31 _ _ rfl wr.heap.size 0 x.toArray rfl rfl HTh.out (ev_info' ht) (ev_one ht) ?_)
      have hL := ev_laid wr ht
      have hbn := new_below wr objEv x
      have hbb := hb.trans (hbn.mono hb.size)
      have hs : wr.heap.size < ((wr.alloc objEv).setCells wr.heap.size 0 x).heap.size := range_lt hL (by rw [ht.length, evK_len]; decide)
      have ho2 := ho.later hbn
      obtain ⟨W2, hW2⟩ : ∃ W2, (wr.alloc objEv).setCells wr.heap.size 0 x = W2 := ⟨_, rfl⟩
      rw [hW2] at hL hbb hs ho2
      unfold objEv at hW2
      rw [hW2]
      clear hW2 HTh ho hr hb hbn
      have hw : IntKind.i64.wrap ((k : Int) + 1) = (k : Int) + 1 := IntWalk.i64_in _ (by omega)
      have l1 : (l.take k).length ≤ 1000000000 := by rw [List.length_take]; omega
      have hei := ev_info ht
      have HTx := Lib.hid ht
      have HST := Lib.hid hst
      clear ht hst
      obtain ⟨zE, hzE, hzS⟩ := infoRef'
      go_wp2_with (first
        | refine wpList_load_mid rfl 31 _ rfl wr.heap.size 0 rfl x _ hL Try.underlying31 rfl hei ?_
        | refine wpList_build1 rfl 67 96 _ rfl x rfl evK HTx.out zE 128 Try.underlying67 hzE evK_pos evK_small' ?_
        | (at_builtin; refine wpList_app_rec rfl _ _ 67 96 evK zE 128 rfl Try.underlying67 hzE hzS evK_pos (by decide) w.heap.size u3 (l.take k) rfl ho2 x HTx.out rfl l1 hbb.size ?_))
      intro v' w4 ho4 hg4 hb4 hs4 hat
      have hbb4 := hbb.trans hb4
      clear hzE hzS hL ho2 hbb
      go_wp2_with fail
      go_roundw
      case rel => exact ⟨k + 1, rfl, by omega, by rw [HST.out]; exact ho4, hbb4⟩
      case measure => simp [RowKit.intOf]; omega
    · have hkn : k = n := by omega
      subst hkn
      rw [List.take_of_length_le (by rw [HN.out]; exact Nat.le_refl _)] at ho
      have HO := Lib.hid ho.recs
      clear ho
      go_wp2_with fail
      go_ret
      exact ⟨_, rfl, HO.out, hb⟩
end Go.Proofs.Ytchjjbklkmfelaa
