/- trace.sides, event.Total. -/
import Derived.Test.YtchjjbklkmfelaaTrace1
import Derived.Test.YtchjjbklkmfelaaAcct1
import Derived.Test.YtchjjbklkmfelaaRecOwn
namespace Go.Proofs.Ytchjjbklkmfelaa
open Go.RowKit Go.Lib
set_option linter.unusedVariables false
set_option linter.unusedSimpArgs false

/-- What an event gives to an account, and takes from it, of an exit. -/
def gotK (k : Int) (f t : Bool) : Bool := if k = 8 then t else if k = 9 ∨ k = 10 then false else if k = 13 ∨ k = 11 ∨ k = 14 ∨ k = 15 then t else if k = 16 then f else false
def gaveK (k : Int) (f : Bool) : Bool := if k = 8 ∨ k = 9 ∨ k = 10 then f else false
def gotV (c : List Value) (who : Int) : Bool := gotK (intAt c 0) (intAt c 36 == who) (intAt c 37 == who)
def gaveV (c : List Value) (who : Int) : Bool := gaveK (intAt c 0) (intAt c 36 == who)

set_option maxHeartbeats 4000000 in
set_option maxRecDepth 100000 in
theorem sides_calls (c : List Value) (who : Int) (w : World) (hc : Typed evK c) :
    Calls Try.prog 42 #[.agg c.toArray, .int .u8 who] w fun e w' => e = .returned (.tuple #[.bool (gotV c who), .bool (gaveV c who)]) ∧ Below w.heap.size w w' := by
  obtain ⟨hr, hb, hs⟩ := box_ev w hc
  have hg : gotV c who = gotK (intAt c 0) (intAt c 36 == who) (intAt c 37 == who) := rfl
  have ht : gaveV c who = gaveK (intAt c 0) (intAt c 36 == who) := rfl
  have c0 := ev_cell hr hc 0 .u8 (by kernel_rfl)
  have c36 := ev_cell hr hc 36 .u8 (by kernel_rfl)
  have c37 := ev_cell hr hc 37 .u8 (by kernel_rfl)
  generalize intAt c 0 = k at *
  generalize intAt c 36 = f at *
  generalize intAt c 37 = t at *
  obtain ⟨W, hW⟩ : ∃ W, w.alloc (.cells c.toArray 31) = W := ⟨_, rfl⟩
  rw [hW] at c0 c36 c37 hb hs
  have HW := Lib.hid hW
  have HG := Lib.hid hg
  have HT := Lib.hid ht
  clear hg ht hr hc hW
  go_enter Try.func42, Try.ntmps42
  go_upto_region 1 with fail
  rw [HW.out]
  clear HW
  go_cut [6, 7] from 8 to 16 (fun a b wx => a = .bool (f == who) ∧ b = .bool (t == who) ∧ ∃ n, wx = W.drewN n)
  case first =>
    go_quiet (fail)
    go_wp2_with fail
    go_meet
    exact ⟨rfl, rfl, _, rfl⟩
  case rest =>
  obtain ⟨rfl, rfl, nq, hwx⟩ := hcut
  have c0' : (W.drewN nq).cell? ⟨w.heap.size, 0, none⟩ = some (.int .u8 k) := c0
  have hb' : Below w.heap.size w (W.drewN nq) := below_drewN hb nq
  have hs' : w.heap.size < (W.drewN nq).heap.size := hs
  rw [← hwx] at c0' hb' hs'
  clear hwx c0 c36 c37 hb hs
  generalize (f == who) = bf at *
  generalize (t == who) = bt at *
  by_cases h0 : k = 8
  · subst h0
    go_wp2_with fail
    go_ret2
    exact ⟨by rw [HG.out, HT.out]; rfl, hb'⟩
  have g0 : (k == 8) = false := beq_eq_false_iff_ne.2 h0
  by_cases h1 : k = 9
  · subst h1
    go_wp2_with fail
    go_ret2
    exact ⟨by rw [HG.out, HT.out]; rfl, hb'⟩
  have g1 : (k == 9) = false := beq_eq_false_iff_ne.2 h1
  by_cases h2 : k = 10
  · subst h2
    go_wp2_with fail
    go_ret2
    exact ⟨by rw [HG.out, HT.out]; rfl, hb'⟩
  have g2 : (k == 10) = false := beq_eq_false_iff_ne.2 h2
  by_cases h3 : k = 13
  · subst h3
    go_wp2_with fail
    go_ret2
    exact ⟨by rw [HG.out, HT.out]; rfl, hb'⟩
  have g3 : (k == 13) = false := beq_eq_false_iff_ne.2 h3
  by_cases h4 : k = 11
  · subst h4
    go_wp2_with fail
    go_ret2
    exact ⟨by rw [HG.out, HT.out]; rfl, hb'⟩
  have g4 : (k == 11) = false := beq_eq_false_iff_ne.2 h4
  by_cases h5 : k = 14
  · subst h5
    go_wp2_with fail
    go_ret2
    exact ⟨by rw [HG.out, HT.out]; rfl, hb'⟩
  have g5 : (k == 14) = false := beq_eq_false_iff_ne.2 h5
  by_cases h6 : k = 15
  · subst h6
    go_wp2_with fail
    go_ret2
    exact ⟨by rw [HG.out, HT.out]; rfl, hb'⟩
  have g6 : (k == 15) = false := beq_eq_false_iff_ne.2 h6
  by_cases h7 : k = 16
  · subst h7
    go_wp2_with fail
    go_ret2
    exact ⟨by rw [HG.out, HT.out]; rfl, hb'⟩
  have g7 : (k == 16) = false := beq_eq_false_iff_ne.2 h7
  have HE1 := Lib.hid (show gotV c who = false by
    rw [HG.out]
    unfold gotK
    rw [if_neg h0, if_neg (by omega), if_neg (by omega), if_neg (by omega)])
  have HE2 := Lib.hid (show gaveV c who = false by
    rw [HT.out]
    unfold gaveK
    rw [if_neg (by omega)])
  go_wp2_with fail
  go_ret2
  exact ⟨by rw [HE1.out, HE2.out]; rfl, hb'⟩

/-- What events bring. -/
def amtE (c : List Value) : Nat := numAt c 38
set_option maxRecDepth 100000 in
theorem infoEv : (Try.prog.info? 31).map (fun i => (i.zero, i.size, i.bytes)) = some (some (.agg #[.int .u8 0, .int .u64 0, .int .u8 0, .int .u8 0, .int .u8 0, .int .u8 0, .int .u8 0, .int .u8 0, .int .u8 0, .int .u8 0, .int .u8 0, .int .u8 0, .int .u8 0, .int .u8 0, .int .u8 0, .int .u8 0, .int .u8 0, .int .u8 0, .int .u8 0, .int .u8 0, .int .u8 0, .int .u8 0, .int .u8 0, .int .u8 0, .int .u8 0, .int .u8 0, .int .u8 0, .int .u8 0, .int .u8 0, .int .u8 0, .int .u8 0, .int .u8 0, .int .u8 0, .int .u8 0, .int .u8 0, .int .u8 0, .int .u8 0, .int .u8 0, .int .u64 0, .int .u64 0, .int .u64 0, .int .u64 0, .int .u64 0, .int .u64 0, .int .u64 0, .int .u64 0, .int .u32 0]), 47, 128) := by kernel_rfl
theorem amt_take (l : List (List Value)) (k : Nat) (h : k < l.length) : (l.take (k + 1)).map amtE = (l.take k).map amtE ++ [amtE (l.getD k [])] := by
  rw [List.take_succ_eq_append_getElem h, List.map_append, List.getD_eq_getElem?_getD, List.getElem?_eq_getElem h]
  rfl
theorem amtE_facts {c : List Value} (ht : Typed evK c) : amtE c < 18446744073709551616 ^ 4 ∧ limb (amtE c) 0 = intAt c 38 ∧ limb (amtE c) 1 = intAt c 39 ∧ limb (amtE c) 2 = intAt c 40 ∧ limb (amtE c) 3 = intAt c 41 :=
  numAt_facts ht 38 (by kernel_rfl) (by kernel_rfl) (by kernel_rfl) (by kernel_rfl)

set_option maxHeartbeats 4000000 in
set_option maxRecDepth 100000 in
theorem total_calls (v : Value) (l : List (List Value)) (w : World) (h : Recs evK w v l) (hl : l.length ≤ 100000) :
    Calls Try.prog 43 #[v] w fun e w' => e = .returned (sumV (l.map amtE).sum) ∧ Below w.heap.size w w' := by
  obtain ⟨A, c, rfl, a1, a2, hty, -⟩ := id h
  unfold maxLen at a2
  have HTY := Lib.hid hty
  clear hty
  obtain ⟨n, hn⟩ : ∃ n, l.length = n := ⟨_, rfl⟩
  rw [hn] at a1 hl h ⊢
  have HN := Lib.hid hn
  have HR := Lib.hid h
  clear hn h
  have B0 := Box.zero w
  have Q0 : Below w.heap.size w (w.alloc (obj4 0 0 0 0)) := (Below.refl _ _).alloc (Nat.le_refl _) _
  go_enter Try.func43, Try.ntmps43
  go_wp2_with fail
  obtain ⟨W, hW⟩ : ∃ W, w.alloc (obj4 0 0 0 0) = W := ⟨_, rfl⟩
  dsimp only [obj4] at hW B0 Q0
  rw [hW] at B0 Q0
  rw [hW]
  clear hW
  go_loopw [4, 9] (fun ri i wr => ∃ k : Nat, i = .int .i64 k ∧ k ≤ n ∧ OwnR 28 numK wr (w.heap.size + 1) ri (((l.take k).map amtE).map cells4L) ∧ Box wr w.heap.size 0 ∧ Below w.heap.size w wr) (fun _ i _ => n - (RowKit.intOf i).toNat)
  case atStart => exact ⟨0, rfl, by omega, OwnR.nil _ _ _ _, B0, Q0⟩
  case round =>
    obtain ⟨k, rfl, hk, hi, b1, hb⟩ := hrel
    clear B0 Q0
    by_cases hlt : k < n
    · have hlt' : (k : Int) < (n : Int) := by omega
      obtain ⟨g, o, rfl, hg, hr, ht⟩ := (HR.out.below (by rw [evK_len]; decide) hb).at (by rw [evK_len]; decide) k hlt
      have hst := amt_take l k (by have := HN.out; omega)
      obtain ⟨x, hxe⟩ : ∃ x, l.getD k [] = x := ⟨_, rfl⟩
      rw [hxe] at hr ht hst
      rw [evK_len] at hr
      have HTh := Lib.hid (ev_there wr ht)
      unfold objEv at HTh
      have sz2 := b1.lt
      go_upto_region 5 with (first
        | refine wpList_load_mid rfl 31 _ rfl g (o + k * 47) rfl x _ hr Try.underlying31 rfl (ev_info ht) ?_
        | refine wpList_store_mid rfl 31 _ _ rfl wr.heap.size 0 x.toArray rfl rfl HTh.out (ev_info' ht) (ev_one ht) ?_)
      have hL := ev_laid wr ht
      have hbn := new_below wr objEv x
      have hbb := hb.trans (hbn.mono hb.size)
      have hs : wr.heap.size < ((wr.alloc objEv).setCells wr.heap.size 0 x).heap.size := range_lt hL (by rw [ht.length, evK_len]; decide)
      have hi2 := hi.later hbn
      have b12 := b1.later hbn
      obtain ⟨W2, hW2⟩ : ∃ W2, (wr.alloc objEv).setCells wr.heap.size 0 x = W2 := ⟨_, rfl⟩
      rw [hW2] at hL hbb hs hi2 b12
      unfold objEv at hW2
      rw [hW2]
      clear hW2 HTh hi hr hb hbn b1
      have hw : IntKind.i64.wrap ((k : Int) + 1) = (k : Int) + 1 := IntWalk.i64_in _ (by omega)
      have l1 : (((l.take k).map amtE).map cells4L).length ≤ 1000000000 := by rw [List.length_map, List.length_map, List.length_take]; omega
      have hbs : w.heap.size + 1 ≤ W2.heap.size := by omega
      obtain ⟨am, m0, m1, m2, m3⟩ := amtE_facts ht
      have c3 := ev_cell hL ht 38 .u64 (by kernel_rfl)
      have c4 := ev_cell hL ht 39 .u64 (by kernel_rfl)
      have c5 := ev_cell hL ht 40 .u64 (by kernel_rfl)
      have c6 := ev_cell hL ht 41 .u64 (by kernel_rfl)
      rw [← m0] at c3
      rw [← m1] at c4
      rw [← m2] at c5
      rw [← m3] at c6
      have HIn := Lib.hid hst
      clear hL ht m0 m1 m2 m3 hst
      generalize amtE x = a at *
      go_wp2_with (at_builtin; refine wpList_app_rec rfl _ _ 93 28 numK _ 32 rfl Try.underlying93 info4 rfl (by decide) (by decide) (w.heap.size + 1) u4 (((l.take k).map amtE).map cells4L) rfl hi2 (cells4L a) (cells4_typed a) rfl l1 hbs ?_)
      intro v' w4 hi4 hg4 hb4 hs4 hat
      have b14 := b12.below hb4 (by omega)
      have hbb4 := hbb.trans (hb4.mono (by omega))
      clear c3 c4 c5 c6
      go_wp2_with fail
      go_roundw
      case rel => exact ⟨k + 1, rfl, by omega, by rw [HIn.out]; simpa using hi4, b14, hbb4⟩
      case measure => simp [RowKit.intOf]; omega
    · have hkn : k = n := by omega
      subst hkn
      rw [List.take_of_length_le (by rw [HN.out]; exact Nat.le_refl _)] at hi
      have HS1 := Lib.hid (hsum_calls u4 (l.map amtE) wr (OwnR.numsOf hi) (by rw [List.length_map]; have := HN.out; omega) (fun n hn => by
        obtain ⟨c, hc, rfl⟩ := List.mem_map.1 hn
        exact (amtE_facts (HTY.out c hc)).1))
      clear hi
      have HSk := Lib.hid (sumV_kept (l.map amtE).sum)
      rw [sumV_kept] at HS1
      generalize kept (l.map amtE).sum = ka at *
      generalize okE (l.map amtE).sum = oa at *
      go_wp2_with fail
      refine HS1.out.mono ?_
      rintro e w1 ⟨rfl, hb1⟩
      have b11 := b1.later hb1
      have hbb1 := hb.trans (hb1.mono hb.size)
      obtain ⟨r0, r1, r2, r3⟩ := b11.cells
      obtain ⟨d0, d1, d2, d3⟩ := b11.free
      have lt1 := b11.lt
      clear HS1 b1 hb hb1 b11
      go_wp2_with fail
      exact bodyPost_ret (v := .tuple #[bigN ka, .int .i64 oa]) (by simp [results, Try.results43, go_sem, r0, r1, r2, r3, lt1]) rfl ⟨by rw [HSk.out], below_store hbb1 (Nat.le_refl _) _ _ _ _⟩
end Go.Proofs.Ytchjjbklkmfelaa
