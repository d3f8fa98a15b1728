/- The tokens that account.Touched gives are ascending, and are those that have lines. -/
import Derived.Test.YtchjjbklkmfelaaTouch2
import Derived.Test.YtchjjbklkmfelaaAcct5
import Derived.Maps.OwnOps
import Derived.Maps.Views
namespace Go.Proofs.Ytchjjbklkmfelaa
open Go.RowKit Go.Lib Go.Maps
set_option linter.unusedVariables false
set_option linter.unusedSimpArgs false

theorem lawU8 : Keyed Try.prog 5 := int_keyed Try.underlying5
theorem zeroInt (w : World) : (zeroValue 3).run Try.prog w = .ok (.int .i64 0) w := by kernel_rfl
theorem wf_u8 {t : Int} (h0 : 0 ≤ t) (h1 : t < 256) : (Lit.int .u8 t).wf = true := by
  simp [Lit.wf, IntKind.min, IntKind.max, IntKind.signed, IntKind.bits]
  omega
theorem touchN_bd {w : World} {v : Value} {l : List (List Value)} (h : Recs evK w v l) (who : Int) : ∀ k, k ≤ l.length → ∀ t ∈ touchN l who k, 0 ≤ t ∧ t < 256
  | 0, _, t, ht => by simp [touchN] at ht
  | k + 1, hk, t, ht => by
    unfold touchN stepT at ht
    rcases List.mem_append.1 ht with ht | ht
    · exact touchN_bd h who k (by omega) t ht
    · split at ht
      · rw [List.mem_singleton.1 ht]
        obtain ⟨A, c, e, h1, h2, h4, h3⟩ := h
        have hm : l.getD k [] ∈ l := by
          rw [List.getD_eq_getElem?_getD, List.getElem?_eq_getElem (by omega)]
          exact List.getElem_mem _
        have := bounds_u8 ((h4 _ hm).at 35 .u8 (by kernel_rfl)).2
        omega
      · simp at ht
/-- What the map says of each token, k tokens on. -/
def Seen (D : DataW Unit) (tl : List Int) (k : Nat) : Prop := IsMap D ∧ ∀ t, D.atKey (.int .u8 t) (.lit (.int .i64 0)) = .lit (.int .i64 (if t ∈ tl.take k then 1 else 0))
theorem seen_zero (tl : List Int) : Seen (.map []) tl 0 := ⟨isMap_empty, fun t => by simp; rfl⟩
theorem seen_step {D : DataW Unit} {tl : List Int} {k : Nat} (h : Seen D tl k) (hk : k < tl.length) : Seen (D.put (.int .u8 (tl.getD k 0)) (.lit (.int .i64 1))) tl (k + 1) := by
  have hm : ∀ t, t ∈ tl.take (k + 1) ↔ t ∈ tl.take k ∨ t = tl.getD k 0 := fun t => by
    rw [List.take_succ_eq_append_getElem hk, List.mem_append, List.mem_singleton, List.getD_eq_getElem?_getD, List.getElem?_eq_getElem hk]
    rfl
  refine ⟨h.1.put _ _, fun t => ?_⟩
  by_cases e : t = tl.getD k 0
  · rw [← e, atKey_put_same h.1 (by trivial), if_pos ((hm t).2 (.inr e))]
  · rw [atKey_put_other (by intro h; injection h; contradiction), h.2 t]
    congr 3
    exact propext ((hm t).trans ⟨fun h => h.resolve_right e, Or.inl⟩).symm
theorem asc_new {tl : List Int} (h : Asc tl) {k : Nat} (hk : k < tl.length) : tl.getD k 0 ∉ tl.take k := by
  intro hm
  obtain ⟨i, hi, e⟩ := List.getElem_of_mem hm
  rw [List.length_take] at hi
  have := h i k (by omega) hk
  rw [List.getElem_take] at e
  rw [List.getD_eq_getElem?_getD, List.getElem?_eq_getElem (by omega), Option.getD_some, e] at this
  omega

set_option maxHeartbeats 2000000 in
set_option maxRecDepth 100000 in
theorem accountTouched_many (v : Value) (who : Int) (l : List (List Value)) (w : World) (h : Recs evK w v l) (hl : 40 < l.length) :
    Calls Try.prog 9 #[v, .int .u8 who] w (Yes w) := by
  obtain ⟨A, c, rfl, a1, a2, -, -⟩ := id h
  unfold maxLen at a2
  have hl' : (40 : Int) < (l.length : Int) := by omega
  generalize l.length = n at *
  go_enter Try.func9, Try.ntmps9
  go_wp2_with fail
  refine (alives_calls _).mono ?_
  rintro e w1 ⟨rfl, hb1⟩
  go_wp2_with fail
  refine (alives_calls _).mono ?_
  rintro e w2 ⟨rfl, hb2⟩
  go_wp2_with fail
  go_ret
  exact ⟨rfl, hb1.trans (hb2.mono hb1.size)⟩

set_option maxHeartbeats 4000000 in
set_option maxRecDepth 100000 in
theorem accountTouched_few (v : Value) (who : Int) (l : List (List Value)) (w : World) (h : Recs evK w v l) (hl : l.length ≤ 40) :
    Calls Try.prog 9 #[v, .int .u8 who] w (Yes w) := by
  have hbd := touchN_bd h who l.length (Nat.le_refl _)
  have hli := fun t => linesN_iff l who t l.length
  have HL := Lib.hid hl
  have HR0 := Lib.hid h
  obtain ⟨A, c, rfl, a1, a2, -, -⟩ := id h
  unfold maxLen at a2
  have hl' : (l.length : Int) ≤ 40 := by omega
  have hmm := @run_makeMap Try.prog
  have HLI := Lib.hid hli
  have HBd := Lib.hid hbd
  clear h hli hbd
  obtain ⟨n, hn⟩ : ∃ n, l.length = n := ⟨_, rfl⟩
  rw [hn] at HR0 a1 hl hl' HBd HLI
  rw [hn]
  have HN := Lib.hid hn
  clear hn
  go_enter Try.func9, Try.ntmps9
  go_wp2_with fail
  refine (alives_calls _).mono ?_
  rintro e w1 ⟨rfl, hb1⟩
  have HR1 := Lib.hid (HR0.out.below (by rw [evK_len]; decide) hb1)
  have HTc := Lib.hid (touched_calls _ who l w1 HR1.out (by rw [HN.out]; exact hl))
  clear HR0
  go_wp2_with fail
  refine HTc.out.mono ?_
  rintro e w2 ⟨A2, cap, tl, rfl, htk, hasc, hmem, hlen, hb2⟩
  rw [HN.out] at hmem
  obtain ⟨q, hq⟩ : ∃ q, tl.length = q := ⟨_, rfl⟩
  rw [hq] at hlen ⊢
  have HQ := Lib.hid hq
  have HTk := Lib.hid htk
  have HAsc := Lib.hid hasc
  have HMem := Lib.hid hmem
  have HR2 := Lib.hid (HR1.out.below (by rw [evK_len]; decide) hb2)
  have Q2 := hb1.trans (hb2.mono hb1.size)
  clear HR1 HTc hb1 hb2 htk hasc hmem hq
  go_wp2_with fail
  go_loopw [24] (fun vi wr => ∃ (k : Nat) (D : DataW Unit), vi = .int .i64 (k : Int) ∧ k ≤ q ∧ wr.ownsMap Try.prog 5 (plainElem Try.prog 3) w2.heap.size k D ∧ Hid (Seen D tl k) ∧ Below w2.heap.size w2 wr) (fun vi _ => q - (RowKit.intOf vi).toNat)
  case atStart => exact ⟨0, .map [], rfl, Nat.zero_le _, World.ownsMap_made _ _ _ _, Lib.hid (seen_zero tl), (Below.refl _ _).alloc (Nat.le_refl _) _⟩
  case round =>
    obtain ⟨k, D, rfl, hk, hown, HS, hb⟩ := hrel
    by_cases hlt : k < q
    · have hltI : (k : Int) < (q : Int) := by omega
      have hk0 : (0 : Int) ≤ (k : Int) := by omega
      have hwk : IntKind.i64.wrap ((k : Int) + 1) = (k : Int) + 1 := by rw [IntKind.wrap_i64]; omega
      have hkt : k < tl.length := by rw [HQ.out]; exact hlt
      rcases HTk.out with h0 | ⟨g, rfl, hg, hc⟩
      · rw [h0] at hkt; simp at hkt
      · have c1 := (hb.cell (p := ⟨g, k, none⟩) hg).trans (hc k hkt)
        have hbdT := HBd.out (tl.getD k 0) ((HMem.out _).1 (by rw [List.getD_eq_getElem?_getD, List.getElem?_eq_getElem hkt]; exact List.getElem_mem hkt))
        have hkey := keyOf_int_mk Try.underlying5 (wf_u8 hbdT.1 hbdT.2)
        have hat0 := HS.out.2 (tl.getD k 0)
        rw [if_neg (asc_new HAsc.out hkt)] at hat0
        have hst := seen_step HS.out hkt
        have hprev : ∀ p, k = p + 1 → wr.cell? ⟨g, p, none⟩ = some (.int .u8 (tl.getD p 0)) ∧ tl.getD p 0 < tl.getD k 0 := fun p e => ⟨(hb.cell (p := ⟨g, p, none⟩) hg).trans (hc p (by omega)), HAsc.out p k (by omega) hkt⟩
        obtain ⟨T, hT⟩ : ∃ T, tl.getD k 0 = T := ⟨_, rfl⟩
        rw [hT] at c1 hkey hat0 hst hprev
        have HSt := Lib.hid hst
        have HT := Lib.hid hT
        have HC := Lib.hid hc
        have HAt := Lib.hid hat0
        clear hst hT hc hat0 hbdT hkt
        rcases Nat.eq_zero_or_pos k with hz | hz
        · subst hz
          clear hprev
          go_upto_region 10 with fail
          go_wp2_with (first
            | (at_lookup; refine wpList_lookup_own_int _ rfl _ _ 76 rfl 5 3 .i64 lawU8 Try.underlying76 Try.underlying3 (zeroInt _) w2.heap.size 0 D rfl hown _ _ rfl hkey ?_; intro cv hat hwc)
            | (at_mapUpdate; refine wpList_mapUpdate_own _ rfl _ _ _ 76 rfl 5 3 lawU8 Try.underlying76 _ w2.heap.size 0 D rfl hown (by unfold maxLen; omega) _ _ _ rfl rfl hkey _ [] (plainElem_int Try.underlying3 (wrap64_wf _)) ?_; intro wx hown1 hgrow1)
            | go_in)
          have hcv : cv = 0 := by
            have e := HAt.out.symm.trans hat
            injection e with e
            injection e with _ e
            exact e.symm
          subst hcv
          go_roundw
          case rel =>
            refine ⟨0 + 1, _, rfl, by omega, hown1, Lib.hid (by rw [show wrap64 (0 + 1) = 1 by unfold wrap64; omega]; exact HSt.out), hb.grown hgrow1 hb.size (fun j hj => by cases hj; exact Nat.le_refl _)⟩
          case measure => simp [RowKit.intOf]; omega
        · have hzI : (0 : Int) < (k : Int) := by omega
          obtain ⟨p, hp⟩ : ∃ p, k - 1 = p := ⟨_, rfl⟩
          have hpI : (k : Int) - 1 = (p : Int) := by omega
          have hwp : IntKind.i64.wrap (p : Int) = (p : Int) := by rw [IntKind.wrap_i64]; omega
          have hpq : (p : Int) < (q : Int) := by omega
          obtain ⟨c0, hTT⟩ := hprev p (by omega)
          obtain ⟨T0, hT0⟩ : ∃ T0, tl.getD p 0 = T0 := ⟨_, rfl⟩
          rw [hT0] at c0 hTT
          have hle : ¬ T ≤ T0 := by omega
          clear hprev hT0 hp
          go_upto_region 10 with fail
          go_wp2_with (first
            | (at_lookup; refine wpList_lookup_own_int _ rfl _ _ 76 rfl 5 3 .i64 lawU8 Try.underlying76 Try.underlying3 (zeroInt _) w2.heap.size k D rfl hown _ _ rfl hkey ?_; intro cv hat hwc)
            | (at_mapUpdate; refine wpList_mapUpdate_own _ rfl _ _ _ 76 rfl 5 3 lawU8 Try.underlying76 _ w2.heap.size k D rfl hown (by unfold maxLen; omega) _ _ _ rfl rfl hkey _ [] (plainElem_int Try.underlying3 (wrap64_wf _)) ?_; intro wx hown1 hgrow1)
            | go_in)
          have hcv : cv = 0 := by
            have e := HAt.out.symm.trans hat
            injection e with e
            injection e with _ e
            exact e.symm
          subst hcv
          go_roundw
          case rel =>
            refine ⟨k + 1, _, rfl, by omega, hown1, Lib.hid (by rw [show wrap64 (0 + 1) = 1 by unfold wrap64; omega]; exact HSt.out), hb.grown hgrow1 hb.size (fun j hj => by cases hj; exact Nat.le_refl _)⟩
          case measure => simp [RowKit.intOf]; omega
    · have hkq : k = q := by omega
      subst hkq
      clear hk
      have hall : tl.take k = tl := List.take_of_length_le (by rw [HQ.out]; exact Nat.le_refl _)
      have hsn : ∀ t : Int, D.atKey (.int .u8 t) (.lit (.int .i64 0)) = .lit (.int .i64 (if t ∈ tl then 1 else 0)) := fun t => by rw [HS.out.2 t, hall]
      have HSn := Lib.hid hsn
      have HR3 := Lib.hid (HR2.out.below (by rw [evK_len]; decide) hb)
      have Q3 := Q2.trans (hb.mono Q2.size)
      clear hall hsn HS hb HR2 Q2
      go_wp2_with fail
      go_loopw [45] (fun vi wx => ∃ t : Nat, vi = .int .i64 (t : Int) ∧ t ≤ 256 ∧ wx.ownsMap Try.prog 5 (plainElem Try.prog 3) w2.heap.size k D ∧ Below w.heap.size w wx ∧ Hid (Recs evK wx (.slice A n c) l)) (fun vi _ => 256 - (RowKit.intOf vi).toNat)
      case atStart => exact ⟨0, rfl, by omega, hown, Q3, HR3⟩
      case round =>
        rename_i wm
        obtain ⟨t, rfl, ht, hown, Q4, HR4⟩ := hrel
        clear Q3 HR3
        by_cases ht2 : t < 256
        · have htI : (t : Int) < 256 := by omega
          have hw8 : IntKind.u8.wrap (t : Int) = (t : Int) := IntWalk.u8_in _ (by omega)
          have hwt : IntKind.i64.wrap ((t : Int) + 1) = (t : Int) + 1 := by rw [IntKind.wrap_i64]; omega
          obtain ⟨cv, hcv⟩ : ∃ cv : Int, (if (t : Int) ∈ tl then (1 : Int) else 0) = cv := ⟨_, rfl⟩
          have HLk : Hid (∀ X, Below wr.heap.size wr X → (Instr.lookup 76 (.map (some w2.heap.size)) (.int .u8 (t : Int)) false).run Try.prog X = .ok (.int .i64 cv) X) := Lib.hid (fun X hX => by
            have hX2 : X.ownsMap Try.prog 5 (plainElem Try.prog 3) w2.heap.size k D := hown.kept (row := none) ⟨hX.os, hX.tape, hX.output, hX.size, fun j hj _ => hX.block j hj⟩ (by simp)
            obtain ⟨c', hrun, hat, _⟩ := hX2.lookup_int lawU8 Try.underlying76 Try.underlying3 (zeroInt _) (keyOf_int_mk Try.underlying5 (wf_u8 (by omega) htI))
            rw [HSn.out, hcv] at hat
            injection hat with hat
            injection hat with _ hat
            rw [hrun, hat])
          obtain ⟨M, hM⟩ : ∃ M, (linesOf l who (t : Int)).length = M := ⟨_, rfl⟩
          have HLn : Hid (∀ X, Below wr.heap.size wr X → Calls Try.prog 21 #[.slice A n c, .int .u8 who, .int .u8 (t : Int)] X fun e w' => ∃ A9 c9, e = .returned (.slice A9 M c9) ∧ Below wr.heap.size wr w') := Lib.hid (fun X hX =>
            (lines_calls _ who (t : Int) l X (HR4.out.below (by rw [evK_len]; decide) hX) (by rw [HN.out]; omega)).mono fun e w' ⟨r, he, ho, hb⟩ => by
              obtain ⟨A9, c9, rfl, _⟩ := ho.recs
              rw [hM] at he
              exact ⟨A9, c9, he, hX.trans (hb.mono hX.size)⟩)
          have hMc : ((t : Int) ∈ tl ∧ 0 < M) ∨ (¬ (t : Int) ∈ tl ∧ M = 0) := by
            have e1 := HLI.out (t : Int)
            have e2 := HMem.out (t : Int)
            have e3 : linesN l who (t : Int) n ≠ [] ↔ 0 < M := by
              rw [← hM]
              show _ ↔ 0 < (linesN l who (t : Int) l.length).length
              rw [HN.out]
              exact List.length_pos_iff.symm
            by_cases hm : (t : Int) ∈ tl
            · exact .inl ⟨hm, e3.1 (e1.2 (e2.1 hm))⟩
            · refine .inr ⟨hm, ?_⟩
              have : ¬ 0 < M := fun h => hm (e2.2 (e1.1 (e3.2 h)))
              omega
          have hl1 := HLk.out wr (Below.refl _ _)
          have hl2 := HLk.out wr.drew (Below.refl _ _).drew
          have HOw := Lib.hid (fun X (hX : Below wr.heap.size wr X) => (World.ownsMap.kept (row := none) hown ⟨hX.os, hX.tape, hX.output, hX.size, fun j hj _ => hX.block j hj⟩ (by simp) : X.ownsMap Try.prog 5 (plainElem Try.prog 3) w2.heap.size k D))
          clear hM hown
          go_upto_region 15 with fail
          go_cut [60] (fun v wx => v = .bool false ∧ Below wr.heap.size wr wx)
          case first =>
            rcases hMc with ⟨hm, hp⟩ | ⟨hm, hp⟩
            · rw [if_pos hm] at hcv
              subst hcv
              clear hm
              go_region_with (first
                | (go_at_call 21
                   refine (HLn.out _ ?h1).mono ?_
                   case h1 => first | exact (Below.refl _ _).drew | exact Below.refl _ _
                   rintro e w9 ⟨A9, c9, rfl, hb9⟩
                   have hl9 := HLk.out w9 hb9))
              all_goals
                go_wp2_with fail
                go_meet
                case rel => exact ⟨rfl, hb9⟩
            · rw [if_neg hm] at hcv
              subst hcv
              subst hp
              clear hm
              go_region_with (first
                | (go_at_call 21
                   refine (HLn.out _ ?h1).mono ?_
                   case h1 => first | exact (Below.refl _ _).drew | exact Below.refl _ _
                   rintro e w9 ⟨A9, c9, rfl, hb9⟩
                   have hl9 := HLk.out w9 hb9))
              all_goals
                go_wp2_with fail
                go_meet
                case rel => exact ⟨rfl, hb9⟩
          case rest =>
            obtain ⟨rfl, hbx⟩ := hcut
            clear hl1 hl2 hcv hMc
            go_wp2_with fail
            go_roundw
            case rel => exact ⟨t + 1, rfl, by omega, HOw.out _ hbx, Q4.trans (hbx.mono Q4.size), Lib.hid (HR4.out.below (by rw [evK_len]; decide) hbx)⟩
            case measure => simp [RowKit.intOf]; omega
        · have ht256 : t = 256 := by omega
          subst ht256
          go_wp2_with fail
          go_ret
          exact ⟨rfl, Q4⟩
theorem accountTouched_calls (v : Value) (who : Int) (w : World) (h : ∃ l, Recs evK w v l) (a0 : 0 ≤ who) (a1 : who < 256) :
    Calls Try.prog 9 #[v, .int .u8 who] w (Yes w) := by
  obtain ⟨l, h⟩ := h
  rcases Nat.lt_or_ge 40 l.length with hl | hl
  · exact accountTouched_many v who l w h hl
  · exact accountTouched_few v who l w h hl
end Go.Proofs.Ytchjjbklkmfelaa
