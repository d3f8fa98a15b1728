/- ref29.Flow: what an account got and gave of an id, by the document. -/
import Derived.Test.YtchjjbklkmfelaaFlow2
import Derived.Test.YtchjjbklkmfelaaFlow3
import Derived.Test.YtchjjbklkmfelaaRef5
namespace Go.Proofs.Ytchjjbklkmfelaa
open Go.RowKit Go.Lib
set_option linter.unusedVariables false
set_option linter.unusedSimpArgs false

theorem intV_eq (n : Nat) : intV n = .tuple #[bigN (kept n), .bool (decide (n < 18446744073709551616 ^ 4))] := by
  unfold intV kept
  by_cases h : n < 18446744073709551616 ^ 4
  · rw [if_pos h, if_pos h, decide_eq_true h]
  · rw [if_neg h, if_neg h, decide_eq_false h]
set_option maxRecDepth 100000 in
theorem objRef_there (w : World) {c : List Value} (h : Typed evK c) : (w.alloc (.cells #[.int .u8 0, .int .u64 0, .int .u8 0, .int .u8 0, .int .u8 0, .int .u8 0, .int .u8 0, .int .u8 0, .int .u8 0, .int .u8 0, .int .u8 0, .int .u8 0, .int .u8 0, .int .u8 0, .int .u8 0, .int .u8 0, .int .u8 0, .int .u8 0, .int .u8 0, .int .u8 0, .int .u8 0, .int .u8 0, .int .u8 0, .int .u8 0, .int .u8 0, .int .u8 0, .int .u8 0, .int .u8 0, .int .u8 0, .int .u8 0, .int .u8 0, .int .u8 0, .int .u8 0, .int .u8 0, .int .u8 0, .int .u8 0, .int .u8 0, .int .u8 0, .int .u64 0, .int .u64 0, .int .u64 0, .int .u64 0, .int .u64 0, .int .u64 0, .int .u64 0, .int .u64 0, .int .u32 0] 96)).there w.heap.size 0 c.toArray.size := by
  have := there_alloc w #[.int .u8 0, .int .u64 0, .int .u8 0, .int .u8 0, .int .u8 0, .int .u8 0, .int .u8 0, .int .u8 0, .int .u8 0, .int .u8 0, .int .u8 0, .int .u8 0, .int .u8 0, .int .u8 0, .int .u8 0, .int .u8 0, .int .u8 0, .int .u8 0, .int .u8 0, .int .u8 0, .int .u8 0, .int .u8 0, .int .u8 0, .int .u8 0, .int .u8 0, .int .u8 0, .int .u8 0, .int .u8 0, .int .u8 0, .int .u8 0, .int .u8 0, .int .u8 0, .int .u8 0, .int .u8 0, .int .u8 0, .int .u8 0, .int .u8 0, .int .u8 0, .int .u64 0, .int .u64 0, .int .u64 0, .int .u64 0, .int .u64 0, .int .u64 0, .int .u64 0, .int .u64 0, .int .u32 0] 96
  rw [show c.toArray.size = 47 by rw [List.size_toArray, h.length, evK_len]]
  exact this
set_option maxRecDepth 100000 in
def objRef : Obj := .cells #[.int .u8 0, .int .u64 0, .int .u8 0, .int .u8 0, .int .u8 0, .int .u8 0, .int .u8 0, .int .u8 0, .int .u8 0, .int .u8 0, .int .u8 0, .int .u8 0, .int .u8 0, .int .u8 0, .int .u8 0, .int .u8 0, .int .u8 0, .int .u8 0, .int .u8 0, .int .u8 0, .int .u8 0, .int .u8 0, .int .u8 0, .int .u8 0, .int .u8 0, .int .u8 0, .int .u8 0, .int .u8 0, .int .u8 0, .int .u8 0, .int .u8 0, .int .u8 0, .int .u8 0, .int .u8 0, .int .u8 0, .int .u8 0, .int .u8 0, .int .u8 0, .int .u64 0, .int .u64 0, .int .u64 0, .int .u64 0, .int .u64 0, .int .u64 0, .int .u64 0, .int .u64 0, .int .u32 0] 96
theorem ref_laid (w : World) {c : List Value} (h : Typed evK c) : ((w.alloc objRef).setCells w.heap.size 0 c).rangeAt w.heap.size 0 c :=
  World.rangeAt_setCells_same _ _ _ _ (by have := objRef_there w h; rwa [List.size_toArray] at this)
theorem ref_info {c : List Value} (h : Typed evK c) : (Try.prog.info? 96).map (·.size) = some c.length := by rw [h.length, evK_len]; kernel_rfl
theorem ref_info' {c : List Value} (h : Typed evK c) : (Try.prog.info? 96).map (·.size) = some c.toArray.size := by rw [List.size_toArray]; exact ref_info h
theorem Four.put {w : World} {g : Nat} {x0 x1 x2 x3 : Int} (h : Four w g x0 x1 x2 x3) (a b c d : Int) : Four (store4 w g a b c d) g a b c d := by
  obtain ⟨⟨h0, h1, h2, h3⟩, f0, f1, f2, f3⟩ := h
  unfold store4
  have n : ∀ (i j : Nat), i ≠ j → (⟨g, i, none⟩ : Addr) ≠ ⟨g, j, none⟩ := fun i j hij e => hij (by injection e)
  refine ⟨⟨?_, ?_, ?_, ?_⟩, by simpa using f0, by simpa using f1, by simpa using f2, by simpa using f3⟩
  · rw [World.cell?_setCell_other _ _ _ _ (n _ _ (by decide)), World.cell?_setCell_other _ _ _ _ (n _ _ (by decide)), World.cell?_setCell_other _ _ _ _ (n _ _ (by decide)), World.cell?_setCell_same _ _ _ h0]
  · rw [World.cell?_setCell_other _ _ _ _ (n _ _ (by decide)), World.cell?_setCell_other _ _ _ _ (n _ _ (by decide)), World.cell?_setCell_same _ _ _ ((World.cell?_setCell_other _ _ _ _ (n _ _ (by decide))).trans h1)]
  · rw [World.cell?_setCell_other _ _ _ _ (n _ _ (by decide)), World.cell?_setCell_same _ _ _ ((World.cell?_setCell_other _ _ _ _ (n _ _ (by decide))).trans ((World.cell?_setCell_other _ _ _ _ (n _ _ (by decide))).trans h2))]
  · rw [World.cell?_setCell_same _ _ _ ((World.cell?_setCell_other _ _ _ _ (n _ _ (by decide))).trans ((World.cell?_setCell_other _ _ _ _ (n _ _ (by decide))).trans ((World.cell?_setCell_other _ _ _ _ (n _ _ (by decide))).trans h3)))]
theorem sum_bd (l : List (List Value)) (h : ∀ c ∈ l, Typed evK c) (hl : l.length ≤ 65536) : (dig (l.map amtE).sum).length ≤ 100 := by
  have := dig_len_sum (l := l.map amtE) (fun x hx => by
    obtain ⟨c, hc, rfl⟩ := List.mem_map.1 hx
    exact (amtE_facts (h c hc)).1) (by rw [List.length_map]; exact hl)
  exact Nat.le_trans (dig_len_le this) (by decide)
theorem sum_if (l : List (List Value)) (x : List Value) (b : Bool) : ((l ++ if b then [x] else []).map amtE).sum = (l.map amtE).sum + if b then amtE x else 0 := by
  cases b <;> simp

set_option maxHeartbeats 8000000 in
set_option maxRecDepth 100000 in
theorem rflow_calls (v : Value) (ids : List Value) (who : Int) (l : List (List Value)) (w : World) (h : Recs evK w v l) (hids : Typed hashK ids) (hl : l.length ≤ 60000) :
    Calls Try.prog 26 #[v, .agg ids.toArray, .int .u8 who] w fun e w' => e = .returned (flowV l ids who) ∧ Below w.heap.size w w' := by
  obtain ⟨A, c, rfl, a1, a2, hty, -⟩ := id h
  unfold maxLen at a2
  have HTY := Lib.hid hty
  clear hty
  obtain ⟨n, hn⟩ : ∃ n, l.length = n := ⟨_, rfl⟩
  rw [hn] at a1 hl h ⊢
  have HN := Lib.hid hn
  have HR := Lib.hid h
  have HI := Lib.hid hids
  clear hn h hids
  have R0 := range_alloc w ids.toArray 26
  have B1 := Box.zero (w.alloc (.cells ids.toArray 26))
  have B2 := Box.zero ((w.alloc (.cells ids.toArray 26)).alloc (obj4 0 0 0 0))
  simp only [World.size_alloc] at B1 B2
  have B1' := B1.alloc (obj4 0 0 0 0)
  have Q0 : Below w.heap.size w (((w.alloc (.cells ids.toArray 26)).alloc (obj4 0 0 0 0)).alloc (obj4 0 0 0 0)) := (((Below.refl _ _).alloc (Nat.le_refl _) _).alloc (by simp) _).alloc (by simp; omega) _
  have R0' : (((w.alloc (.cells ids.toArray 26)).alloc (obj4 0 0 0 0)).alloc (obj4 0 0 0 0)).rangeAt w.heap.size 0 ids := range_below R0 (((Below.refl _ _).alloc (by simp) _).alloc (by simp) _) (Nat.lt_succ_self _)
  clear R0 B1
  go_enter Try.func26, Try.ntmps26
  go_wp2_with fail
  obtain ⟨W, hW⟩ : ∃ W, ((w.alloc (.cells ids.toArray 26)).alloc (obj4 0 0 0 0)).alloc (obj4 0 0 0 0) = W := ⟨_, rfl⟩
  dsimp only [obj4] at hW B1' B2 Q0 R0'
  rw [hW] at B1' B2 Q0 R0'
  rw [hW]
  clear hW
  have hs0 := B2.lt
  go_loopw [9, 10, 20] (fun ri ro i wr => ∃ k : Nat, i = .int .i64 k ∧ k ≤ n ∧ Hid (Row wr ri (dig ((inE (l.take k) ids who).map amtE).sum)) ∧ Hid (Row wr ro (dig ((outE (l.take k) ids who).map amtE).sum)) ∧
    wr.rangeAt w.heap.size 0 ids ∧ Box wr (w.heap.size + 1) 0 ∧ Box wr (w.heap.size + 1 + 1) 0 ∧ Below w.heap.size w wr) (fun _ _ i _ => n - (RowKit.intOf i).toNat)
  case atStart => exact ⟨0, rfl, by omega, Lib.hid (by rw [show ((inE (l.take 0) ids who).map amtE).sum = 0 from rfl, dig_zero]; exact Row.nil _), Lib.hid (by rw [show ((outE (l.take 0) ids who).map amtE).sum = 0 from rfl, dig_zero]; exact Row.nil _), R0', B1', B2, Q0⟩
  case round =>
    obtain ⟨k, rfl, hk, hi, ho, hri, b1, b2, hb⟩ := hrel
    clear B1' B2 Q0 hs0 R0'
    by_cases hlt : k < n
    · have hlt' : (k : Int) < (n : Int) := by omega
      obtain ⟨g, o, rfl, hg, hr, ht⟩ := (HR.out.below (by rw [evK_len]; decide) hb).at (by rw [evK_len]; decide) k hlt
      have hst := filter_step (fun c => hasId ids c && gotV c who) l [] k (by have := HN.out; omega)
      have hso := filter_step (fun c => hasId ids c && gaveV c who) l [] k (by have := HN.out; omega)
      obtain ⟨x, hxe⟩ : ∃ x, l.getD k [] = x := ⟨_, rfl⟩
      rw [hxe] at hr ht hst hso
      rw [evK_len] at hr
      have HTh := Lib.hid (objRef_there wr ht)
      have sz2 := b2.lt
      go_upto_region 6 with (first
        | refine wpList_load_mid rfl 96 _ rfl g (o + k * 47) rfl x _ hr Try.underlying96 rfl (ref_info ht) ?_
        | refine wpList_store_mid rfl 96 _ _ rfl wr.heap.size 0 x.toArray rfl rfl HTh.out (ref_info' ht) (ev_one ht) ?_)
      have hL := ref_laid wr ht
      have hbn := new_below wr objRef x
      have hbb := hb.trans (hbn.mono hb.size)
      have hs : wr.heap.size < ((wr.alloc objRef).setCells wr.heap.size 0 x).heap.size := range_lt hL (by rw [ht.length, evK_len]; decide)
      have hi2 := Lib.hid (hi.out.below hbn)
      have ho2 := Lib.hid (ho.out.below hbn)
      have b12 := b1.later hbn
      have b22 := b2.later hbn
      have hri2 := range_below hri hbn (by omega)
      obtain ⟨W2, hW2⟩ : ∃ W2, (wr.alloc objRef).setCells wr.heap.size 0 x = W2 := ⟨_, rfl⟩
      rw [hW2] at hL hbb hs hi2 ho2 b12 b22 hri2
      unfold objRef at hW2
      rw [hW2]
      clear hW2 HTh hi ho hr hb hbn b1 b2 hri
      have hw : IntKind.i64.wrap ((k : Int) + 1) = (k : Int) + 1 := IntWalk.i64_in _ (by omega)
      have hid := range_part hL 2 32
      rw [Nat.zero_add] at hid
      have hit := id_typed ht
      have heq := hash_equal hit HI.out W2
      have hhas : hasId ids x = decide (intsOf (idOf x) = intsOf ids) := rfl
      unfold idOf at hit heq hhas
      rw [← hhas] at heq
      have hil := hash_info (hash_len hit)
      have hil2 := hash_info (hash_len HI.out)
      have HTx := Lib.hid ht
      have HIn := Lib.hid hst
      have HOut := Lib.hid hso
      clear hhas hit ht hst hso
      generalize (x.drop 2).take 32 = ic at *
      obtain ⟨bb, hbb'⟩ : ∃ bb, hasId ids x = bb := ⟨_, rfl⟩
      have HBB := Lib.hid hbb'
      rw [hbb'] at heq
      clear hbb'
      cases bb with
      | false =>
        have e1 : inE (l.take (k + 1)) ids who = inE (l.take k) ids who := by
          have := HIn.out
          rw [HBB.out] at this
          simpa [inE] using this
        have e2 : outE (l.take (k + 1)) ids who = outE (l.take k) ids who := by
          have := HOut.out
          rw [HBB.out] at this
          simpa [outE] using this
        have HE := Lib.hid (And.intro e1 e2)
        clear e1 e2 HIn HOut
        go_wp2_with (first
          | refine wpList_load_mid rfl 26 _ rfl wr.heap.size 2 rfl ic _ hid Try.underlying26 rfl hil ?_
          | refine wpList_load_mid rfl 26 _ rfl w.heap.size 0 rfl ids _ hri2 Try.underlying26 rfl hil2 ?_)
        go_roundw
        case rel => exact ⟨k + 1, rfl, by omega, by rw [HE.out.1]; exact hi2, by rw [HE.out.2]; exact ho2, hri2, b12, b22, hbb⟩
        case measure => simp [RowKit.intOf]; omega
      | true =>
        have e1 : inE (l.take (k + 1)) ids who = inE (l.take k) ids who ++ if gotV x who then [x] else [] := by
          have := HIn.out
          rw [HBB.out] at this
          simpa [inE] using this
        have e2 : outE (l.take (k + 1)) ids who = outE (l.take k) ids who ++ if gaveV x who then [x] else [] := by
          have := HOut.out
          rw [HBB.out] at this
          simpa [outE] using this
        have HE1 := Lib.hid (show ((inE (l.take (k + 1)) ids who).map amtE).sum = ((inE (l.take k) ids who).map amtE).sum + (if gotV x who then amtE x else 0) by rw [e1, sum_if])
        have HE2 := Lib.hid (show ((outE (l.take (k + 1)) ids who).map amtE).sum = ((outE (l.take k) ids who).map amtE).sum + (if gaveV x who then amtE x else 0) by rw [e2, sum_if])
        have hS1 : (dig ((inE (l.take k) ids who).map amtE).sum).length ≤ 1000000 := Nat.le_trans (sum_bd _ (fun c hc => HTY.out c (List.mem_of_mem_take (List.mem_filter.1 hc).1)) (Nat.le_trans (List.length_filter_le _ _) (by rw [List.length_take]; omega))) (by decide)
        have hS2 : (dig ((outE (l.take k) ids who).map amtE).sum).length ≤ 1000000 := Nat.le_trans (sum_bd _ (fun c hc => HTY.out c (List.mem_of_mem_take (List.mem_filter.1 hc).1)) (Nat.le_trans (List.length_filter_le _ _) (by rw [List.length_take]; omega))) (by decide)
        have HS := Lib.hid (And.intro hS1 hS2)
        clear e1 e2 HIn HOut hS1 hS2
        generalize ((inE (l.take k) ids who).map amtE).sum = S1 at *
        generalize ((outE (l.take k) ids who).map amtE).sum = S2 at *
        obtain ⟨am, m0, m1, m2, m3⟩ := amtE_facts HTx.out
        have c3 := ev_cell hL HTx.out 38 .u64 (by kernel_rfl)
        have c4 := ev_cell hL HTx.out 39 .u64 (by kernel_rfl)
        have c5 := ev_cell hL HTx.out 40 .u64 (by kernel_rfl)
        have c6 := ev_cell hL HTx.out 41 .u64 (by kernel_rfl)
        rw [← m0] at c3
        rw [← m1] at c4
        rw [← m2] at c5
        rw [← m3] at c6
        have HRw := Lib.hid (fun w => rowof_calls (amtE x) w am)
        have HDa := Lib.hid (show (dig (amtE x)).length ≤ 1000000 from Nat.le_trans (dig_len_le (k := 16) (by rw [show (65536 : Nat) ^ 16 = 18446744073709551616 ^ 4 by decide]; exact am)) (by decide))
        clear m0 m1 m2 m3 am
        generalize amtE x = a at *
        go_wp2_with (first
          | refine wpList_load_mid rfl 26 _ rfl wr.heap.size 2 rfl ic _ hid Try.underlying26 rfl hil ?_
          | refine wpList_load_mid rfl 26 _ rfl w.heap.size 0 rfl ids _ hri2 Try.underlying26 rfl hil2 ?_)
        refine (HRw.out _).mono ?_
        rintro e w3 ⟨rn, rfl, hrn, -, hb3⟩
        have hL3 := range_below hL hb3 hs
        have hri3 := range_below hri2 hb3 (by omega)
        have hi3 := Lib.hid (hi2.out.below hb3)
        have ho3 := Lib.hid (ho2.out.below hb3)
        have b13 := b12.later hb3
        have b23 := b22.later hb3
        have hbb3 := hbb.trans (hb3.mono hbb.size)
        have HRN := Lib.hid hrn
        clear hL hid hri2 hi2 ho2 b12 b22 hbb heq hb3 hil hil2 c3 c4 c5 c6 hrn HRw
        have k0 := ev_cell hL3 HTx.out 0 .u8 (by kernel_rfl)
        have k36 := ev_cell hL3 HTx.out 36 .u8 (by kernel_rfl)
        have k37 := ev_cell hL3 HTx.out 37 .u8 (by kernel_rfl)
        have hgV : gotV x who = gotK (intAt x 0) (intAt x 36 == who) (intAt x 37 == who) := rfl
        have hvV : gaveV x who = gaveK (intAt x 0) (intAt x 36 == who) := rfl
        rw [hgV] at HE1
        rw [hvV] at HE2
        clear hgV hvV
        generalize hkd : intAt x 0 = kd at *
        generalize hfr : intAt x 36 = fr at *
        generalize htt : intAt x 37 = tt at *
        have HKD := Lib.hid (And.intro hkd hfr)
        clear hkd hfr htt
        have hcs : kd = 8 ∨ kd = 9 ∨ kd = 10 ∨ kd = 13 ∨ kd = 11 ∨ kd = 14 ∨ kd = 15 ∨ kd = 16 ∨ (kd ≠ 8 ∧ kd ≠ 9 ∧ kd ≠ 10 ∧ kd ≠ 13 ∧ kd ≠ 11 ∧ kd ≠ 14 ∧ kd ≠ 15 ∧ kd ≠ 16) := by omega
        have HCS := Lib.hid hcs
        clear hcs
        go_upto_region 8 with fail
        go_cut [70] from 31 to 70 (fun v wx => v = .bool (gotK kd (fr == who) (tt == who)) ∧ wx = w3)
        case first =>
          have hcs := HCS.out
          obtain ⟨bf, hbf⟩ : ∃ b, (fr == who) = b := ⟨_, rfl⟩
          obtain ⟨bt, hbt⟩ : ∃ b, (tt == who) = b := ⟨_, rfl⟩
          have HBF := Lib.hid (And.intro hbf hbt)
          cases bf
          all_goals cases bt
          all_goals rcases hcs with rfl | rfl | rfl | rfl | rfl | rfl | rfl | rfl | ⟨n8, n9, n10, n13, n11, n14, n15, n16⟩
          all_goals first
            | (have q8 : (kd == 8) = false := beq_eq_false_iff_ne.2 n8
               have q13 : (kd == 13) = false := beq_eq_false_iff_ne.2 n13
               have q11 : (kd == 11) = false := beq_eq_false_iff_ne.2 n11
               have q14 : (kd == 14) = false := beq_eq_false_iff_ne.2 n14
               have q15 : (kd == 15) = false := beq_eq_false_iff_ne.2 n15
               have q16 : (kd == 16) = false := beq_eq_false_iff_ne.2 n16
               have HN' := Lib.hid (show ∀ b1 b2, gotK kd b1 b2 = false from fun b1 b2 => by unfold gotK; rw [if_neg n8, if_neg (by omega), if_neg (by omega), if_neg n16])
               clear n8 n9 n10 n13 n11 n14 n15 n16
               go_wp2_with fail
               go_meet
               exact ⟨by rw [HN'.out], rfl⟩)
            | (go_wp2_with fail
               go_meet
               exact ⟨by rw [HBF.out.1, HBF.out.2]; rfl, rfl⟩)
        case rest =>
        obtain ⟨rfl, hwx⟩ := hcut
        rw [hwx]
        clear hwx
        obtain ⟨B1, hB1⟩ : ∃ b, gotK kd (fr == who) (tt == who) = b := ⟨_, rfl⟩
        rw [hB1] at HE1 ⊢
        clear hB1
        go_upto_if 70 with fail
        go_cut [9] from 71 to 73 (fun v9 wx => Hid (Row wx v9 (dig (S1 + if B1 then a else 0)) ∧ Row wx u10 (dig S2) ∧ Row wx rn (dig a)) ∧ wx.rangeAt wr.heap.size 0 x ∧ wx.rangeAt w.heap.size 0 ids ∧ Box wx (w.heap.size + 1) 0 ∧ Box wx (w.heap.size + 1 + 1) 0 ∧ Below w.heap.size w wx)
        case first =>
          cases B1 with
          | false =>
            go_wp2_with fail
            go_meet
            exact ⟨Lib.hid ⟨by simpa using hi3.out, ho3.out, HRN.out⟩, hL3, hri3, b13, b23, hbb3⟩
          | true =>
            have HAd := Lib.hid (add_calls u9 rn S1 a w3 hi3.out HRN.out HS.out.1 HDa.out)
            clear k0 k36 k37
            go_wp2_with fail
            refine HAd.out.mono ?_
            rintro e w4 ⟨rv, rfl, hrv, -, hb4⟩
            have hL4 := range_below hL3 hb4 (range_lt hL3 (by rw [HTx.out.length, evK_len]; decide))
            have hri4 := range_below hri3 hb4 (by have := b13.lt; omega)
            have hr4 := Lib.hid (And.intro hrv (And.intro (ho3.out.below hb4) (HRN.out.below hb4)))
            have b14 := b13.later hb4
            have b24 := b23.later hb4
            have hbb4 := hbb3.trans (hb4.mono hbb3.size)
            clear hrv hb4 HAd
            go_wp2_with fail
            go_meet
            exact ⟨by simpa using hr4, hL4, hri4, b14, b24, hbb4⟩
        case rest =>
        obtain ⟨HRows, hL4, hri4, b14, b24, hbb4⟩ := hcut
        clear hL3 hri3 hi3 ho3 b13 b23 hbb3 HRN k0 k36 k37
        have k0 := ev_cell hL4 HTx.out 0 .u8 (by kernel_rfl)
        have k36 := ev_cell hL4 HTx.out 36 .u8 (by kernel_rfl)
        rw [HKD.out.1] at k0
        rw [HKD.out.2] at k36
        generalize hwq : wc = wq at *
        clear hwq
        go_upto_region 10 with fail
        go_cut [92] from 74 to 92 (fun v wx => v = .bool (gaveK kd (fr == who)) ∧ wx = wq)
        case first =>
          have hcs := HCS.out
          obtain ⟨bf, hbf⟩ : ∃ b, (fr == who) = b := ⟨_, rfl⟩
          have HBF := Lib.hid hbf
          cases bf
          all_goals rcases hcs with rfl | rfl | rfl | rfl | rfl | rfl | rfl | rfl | ⟨n8, n9, n10, n13, n11, n14, n15, n16⟩
          all_goals first
            | (have q8 : (kd == 8) = false := beq_eq_false_iff_ne.2 n8
               have q9 : (kd == 9) = false := beq_eq_false_iff_ne.2 n9
               have q10 : (kd == 10) = false := beq_eq_false_iff_ne.2 n10
               have HN' := Lib.hid (show ∀ b1, gaveK kd b1 = false from fun b1 => by unfold gaveK; rw [if_neg (by omega)])
               clear n8 n9 n10 n13 n11 n14 n15 n16
               go_wp2_with fail
               go_meet
               exact ⟨by rw [HN'.out], rfl⟩)
            | (go_wp2_with fail
               go_meet
               exact ⟨by rw [HBF.out]; rfl, rfl⟩)
        case rest =>
        obtain ⟨rfl, hwx⟩ := hcut
        rw [hwx]
        clear hwx
        obtain ⟨B2, hB2⟩ : ∃ b, gaveK kd (fr == who) = b := ⟨_, rfl⟩
        rw [hB2] at HE2 ⊢
        clear hB2
        cases B2 with
        | false =>
          go_wp2_with fail
          go_roundw
          case rel => exact ⟨k + 1, rfl, by omega, by rw [HE1.out]; exact Lib.hid HRows.out.1, by rw [HE2.out]; exact Lib.hid (by simpa using HRows.out.2.1), hri4, b14, b24, hbb4⟩
          case measure => simp [RowKit.intOf]; omega
        | true =>
          have HAd := Lib.hid (add_calls u10 rn S2 a wq HRows.out.2.1 HRows.out.2.2 HS.out.2 HDa.out)
          clear k0 k36
          go_wp2_with fail
          refine HAd.out.mono ?_
          rintro e w5 ⟨rv, rfl, hrv, -, hb5⟩
          have hri5 := range_below hri4 hb5 (by have := b14.lt; omega)
          have hr5 := Lib.hid (And.intro (HRows.out.1.below hb5) hrv)
          have b15 := b14.later hb5
          have b25 := b24.later hb5
          have hbb5 := hbb4.trans (hb5.mono hbb4.size)
          clear hrv hb5 HAd
          go_wp2_with fail
          go_roundw
          case rel => exact ⟨k + 1, rfl, by omega, by rw [HE1.out]; exact Lib.hid hr5.out.1, by rw [HE2.out]; exact Lib.hid (by simpa using hr5.out.2), hri5, b15, b25, hbb5⟩
          case measure => simp [RowKit.intOf]; omega
    · have hkn : k = n := by omega
      subst hkn
      rw [List.take_of_length_le (by rw [HN.out]; exact Nat.le_refl _)] at hi ho
      have hS1 : (dig ((inE l ids who).map amtE).sum).length ≤ 1000000 := Nat.le_trans (sum_bd _ (fun c hc => HTY.out c (List.mem_filter.1 hc).1) (Nat.le_trans (List.length_filter_le _ _) (by rw [HN.out]; omega))) (by decide)
      have hS2 : (dig ((outE l ids who).map amtE).sum).length ≤ 1000000 := Nat.le_trans (sum_bd _ (fun c hc => HTY.out c (List.mem_filter.1 hc).1) (Nat.le_trans (List.length_filter_le _ _) (by rw [HN.out]; omega))) (by decide)
      have hV : flowV l ids who = totV ((inE l ids who).map amtE).sum ((outE l ids who).map amtE).sum := rfl
      have HV := Lib.hid hV
      have HI1 := Lib.hid (int_calls u9 _ wr hi.out hS1)
      have HO1 := Lib.hid ho
      clear hV hri hi ho hS1
      generalize ((inE l ids who).map amtE).sum = a at *
      generalize ((outE l ids who).map amtE).sum = b at *
      rw [intV_eq] at HI1
      obtain ⟨oa, hoa⟩ : ∃ o, decide (a < 18446744073709551616 ^ 4) = o := ⟨_, rfl⟩
      rw [hoa] at HI1
      have HOA := Lib.hid hoa
      clear hoa
      go_wp2_with fail
      refine HI1.out.mono ?_
      rintro e w1 ⟨rfl, hb1⟩
      have b11 := (b1.later hb1).alloc (row4 (limb (kept a)))
      have b21 := (b2.later hb1).alloc (row4 (limb (kept a)))
      have hz1 := (b2.later hb1).lt
      have X1 := Box.new w1 (kept a)
      have hbb1 := hb.trans (hb1.mono hb.size)
      have hbb1' := hbb1.alloc hbb1.size (row4 (limb (kept a)))
      have ho1 := Lib.hid ((HO1.out.out.below hb1).below ((Below.refl _ _).alloc (Nat.le_refl _) (row4 (limb (kept a)))))
      go_upto_region 14 with fail
      obtain ⟨W2, hW2⟩ : ∃ W2, w1.alloc (row4 (limb (kept a))) = W2 := ⟨_, rfl⟩
      dsimp only [row4] at hW2 b11 b21 X1 hbb1' ho1
      rw [hW2] at b11 b21 X1 hbb1' ho1
      rw [hW2]
      clear hW2 hbb1 HI1 HO1 b1 b2 hb hb1
      have HI2 := Lib.hid (int_calls u10 _ W2 ho1.out hS2)
      rw [intV_eq] at HI2
      obtain ⟨ob, hob⟩ : ∃ o, decide (b < 18446744073709551616 ^ 4) = o := ⟨_, rfl⟩
      rw [hob] at HI2
      have HOB := Lib.hid hob
      clear hob hS2 ho1
      go_wp2_with fail
      refine HI2.out.mono ?_
      rintro e w3 ⟨rfl, hb3⟩
      have b13 := (b11.later hb3).alloc (row4 (limb (kept b)))
      have b23 := (b21.later hb3).alloc (row4 (limb (kept b)))
      have X3 := (X1.later hb3).alloc (row4 (limb (kept b)))
      have Y3 := Box.new w3 (kept b)
      have hbb3 := hbb1'.trans (hb3.mono hbb1'.size)
      have hbb3' := hbb3.alloc hbb3.size (row4 (limb (kept b)))
      go_upto_region 15 with fail
      obtain ⟨W4, hW4⟩ : ∃ W4, w3.alloc (row4 (limb (kept b))) = W4 := ⟨_, rfl⟩
      have hsz3 := hbb3.size
      have hX1 := (X1.later hb3).lt
      dsimp only [row4] at hW4 b13 b23 X3 Y3 hbb3'
      rw [hW4] at b13 b23 X3 Y3 hbb3'
      rw [hW4]
      have hb13 := (b11.later hb3).lt
      have hb23 := (b21.later hb3).lt
      have hX1' := X1.lt
      have hb11 := b21.lt
      clear hW4 hbb3 HI2 b11 b21 X1 hbb1' hb3
      obtain ⟨r0, r1, r2, r3⟩ := b13.cells
      obtain ⟨d0, d1, d2, d3⟩ := b13.free
      obtain ⟨s0, s1, s2, s3⟩ := b23.cells
      obtain ⟨f0, f1, f2, f3⟩ := b23.free
      have lt1 := b13.lt
      have lt2 := b23.lt
      cases oa with
      | false =>
        have HT := Lib.hid (show flowV l ids who = .tuple #[big 0 0 0 0, big 0 0 0 0, .int .i64 2] by rw [HV.out, ← bigN_zero]; exact if_neg (fun h => of_decide_eq_false HOA.out h.1))
        clear X3 Y3 b13 b23
        go_wp2_with fail
        exact bodyPost_ret (v := .tuple #[big 0 0 0 0, big 0 0 0 0, .int .i64 2]) (by simp [results, Try.results26, go_sem, r0, r1, r2, r3, s0, s1, s2, s3, lt1, lt2]) rfl ⟨by rw [HT.out], below_store (below_store hbb3' (Nat.le_succ _) 0 0 0 0) (show w.heap.size ≤ w.heap.size + 1 + 1 by omega) 0 0 0 0⟩
      | true =>
        cases ob with
        | false =>
          have HT := Lib.hid (show flowV l ids who = .tuple #[big 0 0 0 0, big 0 0 0 0, .int .i64 2] by rw [HV.out, ← bigN_zero]; exact if_neg (fun h => of_decide_eq_false HOB.out h.2))
          clear X3 Y3 b13 b23
          go_wp2_with fail
          exact bodyPost_ret (v := .tuple #[big 0 0 0 0, big 0 0 0 0, .int .i64 2]) (by simp [results, Try.results26, go_sem, r0, r1, r2, r3, s0, s1, s2, s3, lt1, lt2]) rfl ⟨by rw [HT.out], below_store (below_store hbb3' (Nat.le_succ _) 0 0 0 0) (show w.heap.size ≤ w.heap.size + 1 + 1 by omega) 0 0 0 0⟩
        | true =>
          have ha := of_decide_eq_true HOA.out
          have hb := of_decide_eq_true HOB.out
          have HT := Lib.hid (show flowV l ids who = .tuple #[bigN a, bigN b, .int .i64 0] by rw [HV.out]; exact if_pos ⟨ha, hb⟩)
          have e3 : kept a = a := if_pos ha
          have e4 : kept b = b := if_pos hb
          rw [e3] at X3
          rw [e4] at Y3
          have HEE := Lib.hid (And.intro e3 e4)
          clear ha hb e3 e4
          obtain ⟨x0, x1, x2, x3⟩ := X3.cells
          obtain ⟨y0, y1, y2, y3⟩ := Y3.cells
          obtain ⟨g0, g1, g2, g3⟩ := X3.free
          obtain ⟨h0, h1, h2, h3⟩ := Y3.free
          have lx := X3.lt
          have ly := Y3.lt
          have F1 : Four W4 (w.heap.size + 1) (limb 0 0) (limb 0 1) (limb 0 2) (limb 0 3) := ⟨⟨r0, r1, r2, r3⟩, d0, d1, d2, d3⟩
          have F2 : Four W4 (w.heap.size + 1 + 1) (limb 0 0) (limb 0 1) (limb 0 2) (limb 0 3) := ⟨⟨s0, s1, s2, s3⟩, f0, f1, f2, f3⟩
          have G1 : Four W4 w1.heap.size (limb a 0) (limb a 1) (limb a 2) (limb a 3) := ⟨⟨x0, x1, x2, x3⟩, g0, g1, g2, g3⟩
          have G2 : Four W4 w3.heap.size (limb b 0) (limb b 1) (limb b 2) (limb b 3) := ⟨⟨y0, y1, y2, y3⟩, h0, h1, h2, h3⟩
          have z1 : w1.heap.size ≠ w.heap.size + 1 := by omega
          have z2 : w1.heap.size ≠ w.heap.size + 1 + 1 := by omega
          have z3 : w3.heap.size ≠ w.heap.size + 1 := by omega
          have z4 : w3.heap.size ≠ w.heap.size + 1 + 1 := by omega
          have K1 := And.intro (G1.other z1 (limb a 0) (limb a 1) (limb a 2) (limb a 3)) (G2.other z3 (limb a 0) (limb a 1) (limb a 2) (limb a 3))
          have K12 := And.intro (K1.1.other z2 (limb b 0) (limb b 1) (limb b 2) (limb b 3)) (K1.2.other z4 (limb b 0) (limb b 1) (limb b 2) (limb b 3))
          have E1 := (F1.put (limb a 0) (limb a 1) (limb a 2) (limb a 3)).other (show w.heap.size + 1 ≠ w.heap.size + 1 + 1 by omega) (limb b 0) (limb b 1) (limb b 2) (limb b 3)
          have E2 := (F2.other (show w.heap.size + 1 + 1 ≠ w.heap.size + 1 by omega) (limb a 0) (limb a 1) (limb a 2) (limb a 3)).put (limb b 0) (limb b 1) (limb b 2) (limb b 3)
          have HK := Lib.hid (And.intro (And.intro G1 G2) (And.intro K1 K12))
          have HE := Lib.hid (And.intro E1 E2)
          have hbf := below_store (below_store hbb3' (Nat.le_succ _) (limb a 0) (limb a 1) (limb a 2) (limb a 3)) (show w.heap.size ≤ w.heap.size + 1 + 1 by omega) (limb b 0) (limb b 1) (limb b 2) (limb b 3)
          have HBf := Lib.hid hbf
          clear F1 F2 G1 G2 K1 K12 E1 E2 hbf
          go_wp2_with fail
          go_region_held3 (fun w' => ((w'.cell? ⟨w1.heap.size, 0, none⟩ = some (.int .u64 (limb a 0)) ∧ w'.cell? ⟨w1.heap.size, 1, none⟩ = some (.int .u64 (limb a 1)) ∧ w'.cell? ⟨w1.heap.size, 2, none⟩ = some (.int .u64 (limb a 2)) ∧ w'.cell? ⟨w1.heap.size, 3, none⟩ = some (.int .u64 (limb a 3))) ∧
            (w'.frozen? ⟨w1.heap.size, 0, none⟩ = false ∧ w'.frozen? ⟨w1.heap.size, 1, none⟩ = false ∧ w'.frozen? ⟨w1.heap.size, 2, none⟩ = false ∧ w'.frozen? ⟨w1.heap.size, 3, none⟩ = false)) ∧
            ((w'.cell? ⟨w3.heap.size, 0, none⟩ = some (.int .u64 (limb b 0)) ∧ w'.cell? ⟨w3.heap.size, 1, none⟩ = some (.int .u64 (limb b 1)) ∧ w'.cell? ⟨w3.heap.size, 2, none⟩ = some (.int .u64 (limb b 2)) ∧ w'.cell? ⟨w3.heap.size, 3, none⟩ = some (.int .u64 (limb b 3))) ∧
            (w'.frozen? ⟨w3.heap.size, 0, none⟩ = false ∧ w'.frozen? ⟨w3.heap.size, 1, none⟩ = false ∧ w'.frozen? ⟨w3.heap.size, 2, none⟩ = false ∧ w'.frozen? ⟨w3.heap.size, 3, none⟩ = false)))
            (((try simp only [World.cell?_drew, World.frozen?_drew]); (first | (with_reducible exact HK.out.1) | (with_reducible exact HK.out.2.1) | (with_reducible exact HK.out.2.2)))) (fail)
          obtain ⟨Wf, hWf⟩ : ∃ Wf, store4 (store4 W4 (w.heap.size + 1) (limb a 0) (limb a 1) (limb a 2) (limb a 3)) (w.heap.size + 1 + 1) (limb b 0) (limb b 1) (limb b 2) (limb b 3) = Wf := ⟨_, rfl⟩
          rw [hWf] at HE HBf
          unfold store4 at hWf
          rw [hWf]
          clear hWf HK r0 r1 r2 r3 d0 d1 d2 d3 s0 s1 s2 s3 f0 f1 f2 f3 x0 x1 x2 x3 y0 y1 y2 y3 g0 g1 g2 g3 h0 h1 h2 h3
          obtain ⟨⟨⟨r0, r1, r2, r3⟩, -⟩, ⟨s0, s1, s2, s3⟩, -⟩ := HE.out
          go_wp2_with fail
          exact bodyPost_ret (v := .tuple #[bigN a, bigN b, .int .i64 0]) (by simp [results, Try.results26, go_sem, r0, r1, r2, r3, s0, s1, s2, s3]) rfl ⟨by rw [HT.out], HBf.out.drew⟩
end Go.Proofs.Ytchjjbklkmfelaa
