/- trace.Flow: what an account got and gave of an id. -/
import Derived.Test.YtchjjbklkmfelaaFlow1
import Derived.Test.YtchjjbklkmfelaaAcct4
import Derived.Test.YtchjjbklkmfelaaBuild
namespace Go.Proofs.Ytchjjbklkmfelaa
open Go.RowKit Go.Lib
set_option linter.unusedVariables false
set_option linter.unusedSimpArgs false

theorem evK_small : evK.length ≤ 2 ^ 24 := by rw [evK_len]; decide
theorem infoEv' : ∃ z : Value, (Try.prog.info? 31).map (fun i => (i.zero, i.size, i.bytes)) = some (some z, evK.length, 128) ∧ z.cells.size = evK.length := by
  rw [evK_len]
  exact ⟨_, infoEv, rfl⟩
def inE (l : List (List Value)) (ids : List Value) (who : Int) : List (List Value) := l.filter fun c => hasId ids c && gotV c who
def outE (l : List (List Value)) (ids : List Value) (who : Int) : List (List Value) := l.filter fun c => hasId ids c && gaveV c who
theorem filter_step {α : Type} (p : α → Bool) (l : List α) (d : α) (k : Nat) (h : k < l.length) : (l.take (k + 1)).filter p = (l.take k).filter p ++ if p (l.getD k d) then [l.getD k d] else [] := by
  rw [List.take_succ_eq_append_getElem h, List.filter_append, List.getD_eq_getElem?_getD, List.getElem?_eq_getElem h]
  simp only [Option.getD_some, List.filter_cons, List.filter_nil]
abbrev OwnE (w : World) (base : Nat) (v : Value) (l : List (List Value)) : Prop := OwnR 31 evK w base v l
def flowV (l : List (List Value)) (ids : List Value) (who : Int) : Value := totV ((inE l ids who).map amtE).sum ((outE l ids who).map amtE).sum

set_option maxHeartbeats 8000000 in
set_option maxRecDepth 100000 in
theorem flow_calls (v : Value) (ids : List Value) (who : Int) (l : List (List Value)) (w : World) (h : Recs evK w v l) (hids : Typed hashK ids) (hl : l.length ≤ 100000) :
    Calls Try.prog 25 #[v, .agg ids.toArray, .int .u8 who] w fun e w' => e = .returned (flowV l ids who) ∧ Below w.heap.size w w' := by
  obtain ⟨A, c, rfl, a1, a2, hty, -⟩ := id h
  unfold maxLen at a2
  have HTY := Lib.hid hty
  clear hty
  obtain ⟨n, hn⟩ : ∃ n, l.length = n := ⟨_, rfl⟩
  rw [hn] at a1 hl h ⊢
  have HN := Lib.hid hn
  have HR := Lib.hid h
  have HI := Lib.hid hids
  clear hn h hids
  have R0 := range_alloc w ids.toArray 26
  have B1 := Box.zero (w.alloc (.cells ids.toArray 26))
  have B2 := Box.zero ((w.alloc (.cells ids.toArray 26)).alloc (obj4 0 0 0 0))
  simp only [World.size_alloc] at B1 B2
  have B1' := B1.alloc (obj4 0 0 0 0)
  have Q0 : Below w.heap.size w (((w.alloc (.cells ids.toArray 26)).alloc (obj4 0 0 0 0)).alloc (obj4 0 0 0 0)) := (((Below.refl _ _).alloc (Nat.le_refl _) _).alloc (by simp) _).alloc (by simp; omega) _
  have R0' : (((w.alloc (.cells ids.toArray 26)).alloc (obj4 0 0 0 0)).alloc (obj4 0 0 0 0)).rangeAt w.heap.size 0 ids := range_below R0 (((Below.refl _ _).alloc (by simp) _).alloc (by simp) _) (Nat.lt_succ_self _)
  clear R0 B1
  go_enter Try.func25, Try.ntmps25
  go_wp2_with fail
  obtain ⟨W, hW⟩ : ∃ W, ((w.alloc (.cells ids.toArray 26)).alloc (obj4 0 0 0 0)).alloc (obj4 0 0 0 0) = W := ⟨_, rfl⟩
  dsimp only [obj4] at hW B1' B2 Q0 R0'
  rw [hW] at B1' B2 Q0 R0'
  rw [hW]
  clear hW
  have hs0 := B2.lt
  go_loopw [9, 10, 18] (fun ri ro i wr => ∃ k : Nat, i = .int .i64 k ∧ k ≤ n ∧ OwnE wr (w.heap.size + 3) ri (inE (l.take k) ids who) ∧ OwnE wr (w.heap.size + 3) ro (outE (l.take k) ids who) ∧
    Hid (Apart ri ro) ∧ wr.rangeAt w.heap.size 0 ids ∧ Box wr (w.heap.size + 1) 0 ∧ Box wr (w.heap.size + 1 + 1) 0 ∧ Below w.heap.size w wr) (fun _ _ i _ => n - (RowKit.intOf i).toNat)
  case atStart => exact ⟨0, rfl, by omega, OwnR.nil _ _ _ _, OwnR.nil _ _ _ _, Lib.hid (fun k hk => by simp [Value.ownBlock] at hk), R0', B1', B2, Q0⟩
  case round =>
    obtain ⟨k, rfl, hk, hi, ho, HA, hri, b1, b2, hb⟩ := hrel
    clear B1' B2 Q0 hs0 R0'
    by_cases hlt : k < n
    · have hlt' : (k : Int) < (n : Int) := by omega
      obtain ⟨g, o, rfl, hg, hr, ht⟩ := (HR.out.below (by rw [evK_len]; decide) hb).at (by rw [evK_len]; decide) k hlt
      have hst := filter_step (fun c => hasId ids c && gotV c who) l [] k (by have := HN.out; omega)
      have hso := filter_step (fun c => hasId ids c && gaveV c who) l [] k (by have := HN.out; omega)
      obtain ⟨x, hxe⟩ : ∃ x, l.getD k [] = x := ⟨_, rfl⟩
      rw [hxe] at hr ht hst hso
      rw [evK_len] at hr
      have HTh := Lib.hid (ev_there wr ht)
      unfold objEv at HTh
      have sz2 := b2.lt
      go_upto_region 5 with (first
        | refine wpList_load_mid rfl 31 _ rfl g (o + k * 47) rfl x _ hr Try.underlying31 rfl (ev_info ht) ?_
        | refine wpList_store_mid rfl 31 _ _ rfl wr.heap.size 0 x.toArray rfl rfl HTh.out (ev_info' ht) (ev_one ht) ?_)
      have hL := ev_laid wr ht
      have hbn := new_below wr objEv x
      have hbb := hb.trans (hbn.mono hb.size)
      have hs : wr.heap.size < ((wr.alloc objEv).setCells wr.heap.size 0 x).heap.size := range_lt hL (by rw [ht.length, evK_len]; decide)
      have HLi := Lib.hid (OwnR.lt hi)
      have HLo := Lib.hid (OwnR.lt ho)
      have hi2 := hi.later hbn
      have ho2 := ho.later hbn
      have b12 := b1.later hbn
      have b22 := b2.later hbn
      have hri2 := range_below hri hbn (by omega)
      obtain ⟨W2, hW2⟩ : ∃ W2, (wr.alloc objEv).setCells wr.heap.size 0 x = W2 := ⟨_, rfl⟩
      rw [hW2] at hL hbb hs hi2 ho2 b12 b22 hri2
      unfold objEv at hW2
      rw [hW2]
      clear hW2 HTh hi ho hr hb hbn b1 b2 hri
      have hw : IntKind.i64.wrap ((k : Int) + 1) = (k : Int) + 1 := IntWalk.i64_in _ (by omega)
      have hbs : w.heap.size + 3 ≤ W2.heap.size := by omega
      have hid := range_part hL 2 32
      rw [Nat.zero_add] at hid
      have hit := id_typed ht
      have heq := hash_equal hit HI.out W2
      have hhas : hasId ids x = decide (intsOf (idOf x) = intsOf ids) := rfl
      unfold idOf at hit heq hhas
      rw [← hhas] at heq
      have hil := hash_info (hash_len hit)
      have hil2 := hash_info (hash_len HI.out)
      have hei := ev_info ht
      have HTx := Lib.hid ht
      have hx47 : x.length = 47 := by rw [ht.length, evK_len]
      have HIn := Lib.hid hst
      have HOut := Lib.hid hso
      clear hhas hit ht hst hso
      generalize (x.drop 2).take 32 = ic at *
      obtain ⟨bb, hbb'⟩ : ∃ bb, hasId ids x = bb := ⟨_, rfl⟩
      have HBB := Lib.hid hbb'
      rw [hbb'] at heq
      clear hbb'
      cases bb with
      | false =>
        have e1 : inE (l.take (k + 1)) ids who = inE (l.take k) ids who := by
          have := HIn.out
          rw [HBB.out] at this
          simpa [inE] using this
        have e2 : outE (l.take (k + 1)) ids who = outE (l.take k) ids who := by
          have := HOut.out
          rw [HBB.out] at this
          simpa [outE] using this
        have HE := Lib.hid (And.intro e1 e2)
        clear e1 e2 HIn HOut
        go_wp2_with (first
          | refine wpList_load_mid rfl 26 _ rfl wr.heap.size 2 rfl ic _ hid Try.underlying26 rfl hil ?_
          | refine wpList_load_mid rfl 26 _ rfl w.heap.size 0 rfl ids _ hri2 Try.underlying26 rfl hil2 ?_)
        go_roundw
        case rel => exact ⟨k + 1, rfl, by omega, by rw [HE.out.1]; exact hi2, by rw [HE.out.2]; exact ho2, HA, hri2, b12, b22, hbb⟩
        case measure => simp [RowKit.intOf]; omega
      | true =>
        have e1 : inE (l.take (k + 1)) ids who = inE (l.take k) ids who ++ if gotV x who then [x] else [] := by
          have := HIn.out
          rw [HBB.out] at this
          simpa [inE] using this
        have e2 : outE (l.take (k + 1)) ids who = outE (l.take k) ids who ++ if gaveV x who then [x] else [] := by
          have := HOut.out
          rw [HBB.out] at this
          simpa [outE] using this
        have HSd := Lib.hid (sides_calls x who W2 HTx.out)
        have l1 : (inE (l.take k) ids who).length ≤ 1000000 := Nat.le_trans (List.length_filter_le _ _) (by rw [List.length_take]; omega)
        have l2 : (outE (l.take k) ids who).length ≤ 1000000 := Nat.le_trans (List.length_filter_le _ _) (by rw [List.length_take]; omega)
        have HE1 := Lib.hid e1
        have HE2 := Lib.hid e2
        clear e1 e2 HIn HOut
        go_wp2_with (first
          | refine wpList_load_mid rfl 26 _ rfl wr.heap.size 2 rfl ic _ hid Try.underlying26 rfl hil ?_
          | refine wpList_load_mid rfl 26 _ rfl w.heap.size 0 rfl ids _ hri2 Try.underlying26 rfl hil2 ?_
          | refine wpList_load_mid rfl 31 _ rfl wr.heap.size 0 rfl x _ hL Try.underlying31 rfl hei ?_)
        refine HSd.out.mono ?_
        rintro e w3 ⟨rfl, hb3⟩
        have hL3 := range_below hL hb3 hs
        have hri3 := range_below hri2 hb3 (by omega)
        have hi3 := hi2.later hb3
        have ho3 := ho2.later hb3
        have b13 := b12.later hb3
        have b23 := b22.later hb3
        have hbb3 := hbb.trans (hb3.mono hbb.size)
        have hs3 : wr.heap.size < w3.heap.size := Nat.lt_of_lt_of_le hs hb3.size
        have hbs3 : w.heap.size + 3 ≤ w3.heap.size := by omega
        clear hL hid hri2 hi2 ho2 b12 b22 hbb HSd heq hb3 hil hil2
        cases hgt : gotV x who with
        | false =>
          cases hgv : gaveV x who with
          | false =>
            rw [hgt] at HE1
            rw [hgv] at HE2
            go_wp2_with fail
            go_roundw
            case rel => exact ⟨k + 1, rfl, by omega, by rw [HE1.out]; simpa using hi3, by rw [HE2.out]; simpa using ho3, HA, hri3, b13, b23, hbb3⟩
            case measure => simp [RowKit.intOf]; omega
          | true =>
            rw [hgt] at HE1
            rw [hgv] at HE2
            obtain ⟨zE, hzE, hzS⟩ := infoEv'
            have HZ := Lib.hid hzE
            go_wp2_with (first
              | refine wpList_load_mid rfl 31 _ rfl wr.heap.size 0 rfl x _ hL3 Try.underlying31 rfl hei ?_
              | refine wpList_build1 rfl 22 31 _ rfl x rfl evK HTx.out zE 128 Try.underlying22 hzE evK_pos evK_small ?_
              | (at_builtin; refine wpList_app_rec rfl _ _ 22 31 evK zE 128 rfl Try.underlying22 hzE hzS evK_pos (by decide) (w.heap.size + 3) u10 (outE (l.take k) ids who) rfl ho3 x HTx.out rfl (by omega) hbs3 ?_))
            intro v' w4 ho4 hg4 hb4 hs4 hat
            have hi4 := (hi3.alloc (.cells x.toArray 31)).keep hg4 HA.out.symm
            have hA4 := (Apart.grown hi3 HA.out.symm hat).symm
            have hri4 := range_below hri3 hb4 (by omega)
            have b14 := b13.below hb4 (by omega)
            have b24 := b23.below hb4 (by omega)
            have hbb4 := hbb3.trans (hb4.mono (by omega))
            clear hzE hzS hL3 hri3 hi3 ho3 b13 b23 hbb3
            go_wp2_with fail
            go_roundw
            case rel => exact ⟨k + 1, rfl, by omega, by rw [HE1.out]; simpa using hi4, by rw [HE2.out]; simpa using ho4, Lib.hid hA4, hri4, b14, b24, hbb4⟩
            case measure => simp [RowKit.intOf]; omega
        | true =>
          cases hgv : gaveV x who with
          | false =>
            rw [hgt] at HE1
            rw [hgv] at HE2
            obtain ⟨zE, hzE, hzS⟩ := infoEv'
            go_wp2_with (first
              | refine wpList_load_mid rfl 31 _ rfl wr.heap.size 0 rfl x _ hL3 Try.underlying31 rfl hei ?_
              | refine wpList_build1 rfl 22 31 _ rfl x rfl evK HTx.out zE 128 Try.underlying22 hzE evK_pos evK_small ?_
              | (at_builtin; refine wpList_app_rec rfl _ _ 22 31 evK zE 128 rfl Try.underlying22 hzE hzS evK_pos (by decide) (w.heap.size + 3) u9 (inE (l.take k) ids who) rfl hi3 x HTx.out rfl (by omega) hbs3 ?_))
            intro v' w4 hi4 hg4 hb4 hs4 hat
            have ho4 := (ho3.alloc (.cells x.toArray 31)).keep hg4 HA.out
            have hA4 := Apart.grown ho3 HA.out hat
            have hri4 := range_below hri3 hb4 (by omega)
            have b14 := b13.below hb4 (by omega)
            have b24 := b23.below hb4 (by omega)
            have hbb4 := hbb3.trans (hb4.mono (by omega))
            clear hzE hzS hL3 hri3 hi3 ho3 b13 b23 hbb3
            go_wp2_with fail
            go_roundw
            case rel => exact ⟨k + 1, rfl, by omega, by rw [HE1.out]; simpa using hi4, by rw [HE2.out]; simpa using ho4, Lib.hid hA4, hri4, b14, b24, hbb4⟩
            case measure => simp [RowKit.intOf]; omega
          | true =>
            rw [hgt] at HE1
            rw [hgv] at HE2
            obtain ⟨zE, hzE, hzS⟩ := infoEv'
            go_wp2_with (first
              | refine wpList_load_mid rfl 31 _ rfl wr.heap.size 0 rfl x _ hL3 Try.underlying31 rfl hei ?_
              | refine wpList_build1 rfl 22 31 _ rfl x rfl evK HTx.out zE 128 Try.underlying22 hzE evK_pos evK_small ?_
              | (at_builtin; refine wpList_app_rec rfl _ _ 22 31 evK zE 128 rfl Try.underlying22 hzE hzS evK_pos (by decide) (w.heap.size + 3) u9 (inE (l.take k) ids who) rfl hi3 x HTx.out rfl (by omega) hbs3 ?_))
            intro v' w4 hi4 hg4 hb4 hs4 hat
            have ho4 := (ho3.alloc (.cells x.toArray 31)).keep hg4 HA.out
            have hA4 := Apart.grown ho3 HA.out hat
            have hri4 := range_below hri3 hb4 (by omega)
            have b14 := b13.below hb4 (by omega)
            have b24 := b23.below hb4 (by omega)
            have hbb4 := hbb3.trans (hb4.mono (by omega))
            have hL4 : w4.rangeAt wr.heap.size 0 x := fun j u hu => hg4.cell (range_below hL3 ((Below.refl _ _).alloc (Nat.le_refl _) _) hs3 j u hu) (by
              intro e
              exact Nat.lt_irrefl _ (HLi.out _ e.symm).2)
            have hbs4 : w.heap.size + 3 ≤ w4.heap.size := by omega
            have lx4 : wr.heap.size < w4.heap.size := by omega
            clear hL3 hri3 hi3 ho3 b13 b23 hbb3 hs3 hbs3
            go_wp2_with (first
              | refine wpList_load_mid rfl 31 _ rfl wr.heap.size 0 rfl x _ hL4 Try.underlying31 rfl hei ?_
              | refine wpList_build1 rfl 22 31 _ rfl x rfl evK HTx.out zE 128 Try.underlying22 hzE evK_pos evK_small ?_
              | (at_builtin; refine wpList_app_rec rfl _ _ 22 31 evK zE 128 rfl Try.underlying22 hzE hzS evK_pos (by decide) (w.heap.size + 3) u10 (outE (l.take k) ids who) rfl ho4 x HTx.out rfl (by omega) hbs4 ?_))
            intro v5 w5 ho5 hg5 hb5 hs5 hat5
            have hi5 := (hi4.alloc (.cells x.toArray 31)).keep hg5 hA4.symm
            have hA5 := (Apart.grown hi4 hA4.symm hat5).symm
            have hri5 := range_below hri4 hb5 (by omega)
            have b15 := b14.below hb5 (by omega)
            have b25 := b24.below hb5 (by omega)
            have hbb5 := hbb4.trans (hb5.mono (by omega))
            clear hzE hzS hL4 hri4 hi4 ho4 b14 b24 hbb4
            go_wp2_with fail
            go_roundw
            case rel => exact ⟨k + 1, rfl, by omega, by rw [HE1.out]; simpa using hi5, by rw [HE2.out]; simpa using ho5, Lib.hid hA5, hri5, b15, b25, hbb5⟩
            case measure => simp [RowKit.intOf]; omega
    · have hkn : k = n := by omega
      subst hkn
      rw [List.take_of_length_le (by rw [HN.out]; exact Nat.le_refl _)] at hi ho
      have HS1 := Lib.hid (total_calls u9 (inE l ids who) wr hi.recs (Nat.le_trans (List.length_filter_le _ _) (by rw [HN.out]; omega)))
      have hV : flowV l ids who = totV ((inE l ids who).map amtE).sum ((outE l ids who).map amtE).sum := rfl
      have HV := Lib.hid hV
      have HO1 := Lib.hid ho
      clear hi ho hV hri
      generalize ((inE l ids who).map amtE).sum = a at *
      rw [sumV_kept] at HS1
      go_wp2_with fail
      refine HS1.out.mono ?_
      rintro e w1 ⟨rfl, hb1⟩
      have b11 := b1.later hb1
      have b21 := b2.later hb1
      have hbb1 := hb.trans (hb1.mono hb.size)
      have ho1 := (HO1.out.later hb1).store (g := (w.heap.size + 1)) (by omega) (limb (kept a) 0) (limb (kept a) 1) (limb (kept a) 2) (limb (kept a) 3)
      have b1s := b11.stored (kept a)
      have b2s := b21.store_other (g' := (w.heap.size + 1)) (by omega) (limb (kept a) 0) (limb (kept a) 1) (limb (kept a) 2) (limb (kept a) 3)
      have hbs := below_store hbb1 (Nat.le_succ _) (limb (kept a) 0) (limb (kept a) 1) (limb (kept a) 2) (limb (kept a) 3)
      obtain ⟨r0, r1, r2, r3⟩ := b11.cells
      obtain ⟨d0, d1, d2, d3⟩ := b11.free
      clear HS1 HO1 b1 b2 hb hb1 b11 b21 hbb1
      go_upto_region 13 with fail
      obtain ⟨W2, hW2⟩ : ∃ W2, store4 w1 (w.heap.size + 1) (limb (kept a) 0) (limb (kept a) 1) (limb (kept a) 2) (limb (kept a) 3) = W2 := ⟨_, rfl⟩
      rw [hW2] at ho1 b1s b2s hbs
      unfold store4 at hW2
      rw [hW2]
      clear hW2 r0 r1 r2 r3 d0 d1 d2 d3
      have HS2 := Lib.hid (total_calls u10 (outE l ids who) W2 ho1.recs (Nat.le_trans (List.length_filter_le _ _) (by rw [HN.out]; omega)))
      clear ho1
      generalize ((outE l ids who).map amtE).sum = b at *
      rw [sumV_kept] at HS2
      go_wp2_with fail
      refine HS2.out.mono ?_
      rintro e w3 ⟨rfl, hb3⟩
      have b13 := b1s.later hb3
      have b23 := b2s.later hb3
      have hbb3 := hbs.trans (hb3.mono hbs.size)
      have b1t := b13.store_other (g' := (w.heap.size + 1 + 1)) (by omega) (limb (kept b) 0) (limb (kept b) 1) (limb (kept b) 2) (limb (kept b) 3)
      have b2t := b23.stored (kept b)
      have hbt := below_store hbb3 (show w.heap.size ≤ (w.heap.size + 1 + 1) by omega) (limb (kept b) 0) (limb (kept b) 1) (limb (kept b) 2) (limb (kept b) 3)
      obtain ⟨r0, r1, r2, r3⟩ := b23.cells
      obtain ⟨d0, d1, d2, d3⟩ := b23.free
      clear HS2 b1s b2s hbs hb3 b13 b23 hbb3
      go_upto_region 14 with fail
      obtain ⟨W4, hW4⟩ : ∃ W4, store4 w3 ((w.heap.size + 1 + 1)) (limb (kept b) 0) (limb (kept b) 1) (limb (kept b) 2) (limb (kept b) 3) = W4 := ⟨_, rfl⟩
      rw [hW4] at b1t b2t hbt
      unfold store4 at hW4
      rw [hW4]
      clear hW4 r0 r1 r2 r3 d0 d1 d2 d3
      obtain ⟨r0, r1, r2, r3⟩ := b1t.cells
      obtain ⟨d0, d1, d2, d3⟩ := b1t.free
      obtain ⟨s0, s1, s2, s3⟩ := b2t.cells
      obtain ⟨f0, f1, f2, f3⟩ := b2t.free
      have lt1 := b1t.lt
      have lt2 := b2t.lt
      have hcs : (a < 18446744073709551616 ^ 4 ∧ b < 18446744073709551616 ^ 4) ∨ ¬ (a < 18446744073709551616 ^ 4 ∧ b < 18446744073709551616 ^ 4) := Decidable.em _
      rcases hcs with hab | hab
      · have e1 : okE a = 0 := if_pos hab.1
        have e2 : okE b = 0 := if_pos hab.2
        have e3 : kept a = a := if_pos hab.1
        have e4 : kept b = b := if_pos hab.2
        have HT := Lib.hid (show flowV l ids who = .tuple #[bigN a, bigN b, .int .i64 0] by rw [HV.out]; exact if_pos hab)
        rw [e3] at r0 r1 r2 r3
        rw [e4] at s0 s1 s2 s3
        rw [e1, e2]
        clear e1 e2 e3 e4 hab b1t b2t
        go_wp2_with fail
        have F1 : Four W4 (w.heap.size + 1) (limb a 0) (limb a 1) (limb a 2) (limb a 3) := ⟨⟨r0, r1, r2, r3⟩, d0, d1, d2, d3⟩
        have F2 : Four W4 ((w.heap.size + 1 + 1)) (limb b 0) (limb b 1) (limb b 2) (limb b 3) := ⟨⟨s0, s1, s2, s3⟩, f0, f1, f2, f3⟩
        have n1 : (w.heap.size + 1) ≠ (w.heap.size + 1 + 1) := by omega
        have n2 : (w.heap.size + 1 + 1) ≠ (w.heap.size + 1) := by omega
        have K1 := And.intro F1.same (F2.other n2 (limb a 0) (limb a 1) (limb a 2) (limb a 3))
        have K2 := And.intro (F1.other n1 (limb b 0) (limb b 1) (limb b 2) (limb b 3)) F2.same
        have K12 := And.intro (K1.1.other n1 (limb b 0) (limb b 1) (limb b 2) (limb b 3)) K1.2.same
        have K21 := And.intro K2.1.same (K2.2.other n2 (limb a 0) (limb a 1) (limb a 2) (limb a 3))
        have HK := Lib.hid (And.intro (And.intro F1 F2) (And.intro K1 (And.intro K2 (And.intro K12 K21))))
        clear F1 F2 n1 n2 K1 K2 K12 K21
        go_region_held3 (fun w' => ((w'.cell? ⟨(w.heap.size + 1), 0, none⟩ = some (.int .u64 (limb a 0)) ∧ w'.cell? ⟨(w.heap.size + 1), 1, none⟩ = some (.int .u64 (limb a 1)) ∧ w'.cell? ⟨(w.heap.size + 1), 2, none⟩ = some (.int .u64 (limb a 2)) ∧ w'.cell? ⟨(w.heap.size + 1), 3, none⟩ = some (.int .u64 (limb a 3))) ∧
            (w'.frozen? ⟨(w.heap.size + 1), 0, none⟩ = false ∧ w'.frozen? ⟨(w.heap.size + 1), 1, none⟩ = false ∧ w'.frozen? ⟨(w.heap.size + 1), 2, none⟩ = false ∧ w'.frozen? ⟨(w.heap.size + 1), 3, none⟩ = false)) ∧
            ((w'.cell? ⟨(w.heap.size + 1 + 1), 0, none⟩ = some (.int .u64 (limb b 0)) ∧ w'.cell? ⟨(w.heap.size + 1 + 1), 1, none⟩ = some (.int .u64 (limb b 1)) ∧ w'.cell? ⟨(w.heap.size + 1 + 1), 2, none⟩ = some (.int .u64 (limb b 2)) ∧ w'.cell? ⟨(w.heap.size + 1 + 1), 3, none⟩ = some (.int .u64 (limb b 3))) ∧
            (w'.frozen? ⟨(w.heap.size + 1 + 1), 0, none⟩ = false ∧ w'.frozen? ⟨(w.heap.size + 1 + 1), 1, none⟩ = false ∧ w'.frozen? ⟨(w.heap.size + 1 + 1), 2, none⟩ = false ∧ w'.frozen? ⟨(w.heap.size + 1 + 1), 3, none⟩ = false)))
          (((try simp only [World.cell?_drew, World.frozen?_drew]); (first | (with_reducible exact HK.out.1) | (with_reducible exact HK.out.2.1) | (with_reducible exact HK.out.2.2.1) | (with_reducible exact HK.out.2.2.2.1) | (with_reducible exact HK.out.2.2.2.2)))) (fail)
        · have hbf := below_store (below_store hbt (Nat.le_succ _) (limb a 0) (limb a 1) (limb a 2) (limb a 3)) (show w.heap.size ≤ (w.heap.size + 1 + 1) by omega) (limb b 0) (limb b 1) (limb b 2) (limb b 3)
          obtain ⟨Wf, hWf⟩ : ∃ Wf, store4 (store4 W4 (w.heap.size + 1) (limb a 0) (limb a 1) (limb a 2) (limb a 3)) ((w.heap.size + 1 + 1)) (limb b 0) (limb b 1) (limb b 2) (limb b 3) = Wf := ⟨_, rfl⟩
          have HKf := HK.out.2.2.2.1
          rw [hWf] at hbf HKf
          unfold store4 at hWf
          rw [hWf]
          clear hWf HK r0 r1 r2 r3 d0 d1 d2 d3 s0 s1 s2 s3 f0 f1 f2 f3
          obtain ⟨⟨⟨r0, r1, r2, r3⟩, -⟩, ⟨s0, s1, s2, s3⟩, -⟩ := HKf
          go_wp2_with fail
          exact bodyPost_ret (v := .tuple #[bigN a, bigN b, .int .i64 0]) (by simp [results, Try.results25, go_sem, r0, r1, r2, r3, s0, s1, s2, s3]) rfl ⟨by rw [HT.out], hbf.drew⟩
      · have HT := Lib.hid (show flowV l ids who = .tuple #[big 0 0 0 0, big 0 0 0 0, .int .i64 2] by rw [HV.out, ← bigN_zero]; exact if_neg hab)
        have hoo : okE a = 2 ∨ okE a = 0 ∧ okE b = 2 := by
          by_cases ha : a < 18446744073709551616 ^ 4
          · exact .inr ⟨if_pos ha, if_neg fun hb => hab ⟨ha, hb⟩⟩
          · exact .inl (if_neg ha)
        clear hab b1t b2t
        rcases hoo with e1 | ⟨e1, e2⟩
        · rw [e1]
          clear e1
          go_wp2_with fail
          exact bodyPost_ret (v := .tuple #[big 0 0 0 0, big 0 0 0 0, .int .i64 2]) (by simp [results, Try.results25, go_sem, r0, r1, r2, r3, s0, s1, s2, s3, lt1, lt2]) rfl ⟨by rw [HT.out], below_store (below_store hbt (Nat.le_succ _) 0 0 0 0) (show w.heap.size ≤ (w.heap.size + 1 + 1) by omega) 0 0 0 0⟩
        · rw [e1, e2]
          clear e1 e2
          go_wp2_with fail
          exact bodyPost_ret (v := .tuple #[big 0 0 0 0, big 0 0 0 0, .int .i64 2]) (by simp [results, Try.results25, go_sem, r0, r1, r2, r3, s0, s1, s2, s3, lt1, lt2]) rfl ⟨by rw [HT.out], below_store (below_store hbt (Nat.le_succ _) 0 0 0 0) (show w.heap.size ≤ (w.heap.size + 1 + 1) by omega) 0 0 0 0⟩
end Go.Proofs.Ytchjjbklkmfelaa
