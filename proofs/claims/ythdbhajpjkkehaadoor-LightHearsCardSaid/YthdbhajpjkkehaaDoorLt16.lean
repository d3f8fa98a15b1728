/- The law of the light client: whatever is heard, all answers are the document's. -/
import Derived.Test.YthdbhajpjkkehaaDoorLt15
namespace Go.Proofs.YthdbhajpjkkehaaDoor
open Go.RowKit Go.Lib Sha
set_option linter.unusedVariables false
set_option linter.unusedSimpArgs false

set_option maxRecDepth 100000
def heK : Kinds := evK ++ hdK
theorem heK_flat : flatK Tryd.prog 7 44 = some heK := by kernel_rfl
theorem heK_cells : Tryd.prog.cellsOf 44 = heK.length := by kernel_rfl
theorem heK_len : heK.length = 82 := by kernel_rfl
theorem heK_pos : 0 < heK.length := by rw [heK_len]; omega
theorem heK_info : (Tryd.prog.info? 44).map (·.size) = some 82 := by kernel_rfl
theorem he_info {c : List Value} (h : Typed heK c) : (Tryd.prog.info? 44).map (·.size) = some c.length := by rw [h.length, heK_len]; exact heK_info
theorem he_info' {c : List Value} (h : Typed heK c) : (Tryd.prog.info? 44).map (·.size) = some c.toArray.size := by rw [List.size_toArray]; exact he_info h
theorem he_zsize : Tryd.zeroCells44.size = 82 := by kernel_rfl
theorem he_there (w : World) {c : List Value} (h : Typed heK c) : (w.alloc (.cells Tryd.zeroCells44 44)).there w.heap.size 0 c.toArray.size := by
  have := there_alloc w Tryd.zeroCells44 44
  rw [he_zsize] at this
  rw [show c.toArray.size = 82 by rw [List.size_toArray, h.length, heK_len]]
  exact this
theorem he_laid (w : World) {c : List Value} (h : Typed heK c) : ((w.alloc (.cells Tryd.zeroCells44 44)).setCells w.heap.size 0 c).rangeAt w.heap.size 0 c :=
  World.rangeAt_setCells_same _ _ _ _ (by have := he_there w h; rwa [List.size_toArray] at this)
def zh : List Value := [.int .u8 0, .int .u8 0, .int .u8 0, .int .u8 0, .int .u8 0, .int .u8 0, .int .u8 0, .int .u8 0, .int .u8 0, .int .u8 0, .int .u8 0, .int .u8 0, .int .u8 0, .int .u8 0, .int .u8 0, .int .u8 0, .int .u8 0, .int .u8 0, .int .u8 0, .int .u8 0, .int .u8 0, .int .u8 0, .int .u8 0, .int .u8 0, .int .u8 0, .int .u8 0, .int .u8 0, .int .u8 0, .int .u8 0, .int .u8 0, .int .u8 0, .int .u8 0]
theorem zh_typed : Typed hashK zh := typed_of_B _ _ (by kernel_rfl)
theorem zh_info : (Tryd.prog.info? 38).bind (·.zero) = some (.agg zh.toArray) := by kernel_rfl
theorem range_join {w : World} {g o : Nat} {a b : List Value} (ha : w.rangeAt g o a) (hb : w.rangeAt g (o + a.length) b) : w.rangeAt g o (a ++ b) := fun j v hv => by
  rw [List.getElem?_append] at hv
  by_cases h : j < a.length
  · rw [if_pos h] at hv
    exact ha j v hv
  · rw [if_neg h] at hv
    have := hb (j - a.length) v hv
    rwa [show o + a.length + (j - a.length) = o + j by omega] at this
/-- The id of an event is written. -/
def withId (y id : List Value) : List Value := (y.take 2 ++ id) ++ y.drop 34
theorem withId_typed {y id : List Value} (h : Typed heK y) (hi : Typed hashK id) : Typed heK (withId y id) := by
  have e : (heK.take 2 ++ hashK) ++ heK.drop 34 = heK := by kernel_rfl
  rw [← e]
  exact ((h.take 2).append hi).append (h.drop 34)
theorem withId_laid {w : World} {g : Nat} {y id : List Value} (hr : w.rangeAt g 0 y) (hy : Typed heK y) (hi : id.length = 32) (ht : w.there g 2 id.length) : (w.setCells g 2 id).rangeAt g 0 (withId y id) := by
  have hl : y.length = 82 := by rw [hy.length, heK_len]
  have a1 : w.rangeAt g 0 (y.take 2) := fun j v hv => by
    rw [List.getElem?_take] at hv
    split at hv
    · exact hr j v hv
    · cases hv
  have a3 : w.rangeAt g 34 (y.drop 34) := fun j v hv => by
    rw [List.getElem?_drop] at hv
    have := hr (34 + j) v hv
    rwa [Nat.zero_add] at this
  have b1 := World.rangeAt_setCells_apart a1 g 2 id (.inr (.inl (by rw [List.length_take]; omega)))
  have b3 := World.rangeAt_setCells_apart a3 g 2 id (.inr (.inr (by omega)))
  have b2 := World.rangeAt_setCells_same w g 2 id ht
  refine range_join (range_join b1 (by rw [List.length_take, Nat.min_eq_left (by omega)]; exact b2)) ?_
  rw [List.length_append, List.length_take, Nat.min_eq_left (by omega), hi]
  exact b3
theorem there_range {w : World} {g o : Nat} {t : TypeId} {cs : List Value} {cur : Array Value} (hg : w.heap[g]? = some (.cells cur t (0, 0))) (hr : w.rangeAt g o cs) : w.there g o cs.length := fun j hj => by
  refine ⟨by rw [hr j _ (List.getElem?_eq_getElem hj)]; rfl, ?_⟩
  unfold World.frozen?
  simp only [hg]
  simp
theorem cnt_nil : cntOf [] = fun _ => (0, 0) := rfl
theorem pair_new {w1 w2 : World} (hc : CSt w2 w1.heap.size (w1.heap.size + 1) w1.heap.size (.slice none 0 0) [] 0 (fun _ => (0, 0))) :
    Pair (w2.alloc (.cells #[.slice none 0 0, .slice none 0 0, .slice none 0 0] 36)) w1.heap.size (w1.heap.size + 1) w1.heap.size w2.heap.size (.slice none 0 0) (.slice none 0 0) (.slice none 0 0) (.slice none 0 0) [] 0 [] := by
  have hb : Below w2.heap.size w2 (w2.alloc (.cells #[.slice none 0 0, .slice none 0 0, .slice none 0 0] 36)) := (Below.refl _ _).alloc (Nat.le_refl _) _
  have h1 := World.rowIs.lt hc.cl
  refine ⟨by rw [cnt_nil]; exact hc.later hb, ⟨OwnR.nil _ _ _ _, OwnR.nil _ _ _ _, OwnR.nil _ _ _ _, Nat.le_trans hc.bw hb.size, by simp⟩, rat_new w2 _ _ _, fun k hk => by simp [Value.ownBlock] at hk, fun k hk => by simp [Value.ownBlock] at hk, fun k hk => by simp [Value.ownBlock] at hk, fun hk => ?_, by omega⟩
  rcases hk with hk | hk | hk
  · omega
  · omega
  · simp [Value.ownBlock] at hk

theorem he_block (w : World) (y : List Value) : ∃ cur, ((w.alloc (.cells Tryd.zeroCells44 44)).setCells w.heap.size 0 y).heap[w.heap.size]? = some (.cells cur 44 (0, 0)) := by
  suffices ∀ (vs : List Value) (o : Nat) (u : World), (∃ cur, u.heap[w.heap.size]? = some (.cells cur 44 (0, 0))) → ∃ cur, (u.setCells w.heap.size o vs).heap[w.heap.size]? = some (.cells cur 44 (0, 0)) from this y 0 _ ⟨_, heap_alloc w _⟩
  intro vs
  induction vs with
  | nil => intro o u h; exact h
  | cons x vs ih =>
    intro o u ⟨cur, h⟩
    exact ih (o + 1) _ ⟨_, heap_setCell_same u w.heap.size o cur _ x h⟩
theorem only_cells (w : World) (q : Nat) : ∀ (vs : List Value) (o : Nat), Only (fun j => j = q) w (w.setCells q o vs) := by
  suffices ∀ (vs : List Value) (o : Nat) (u : World), Only (fun j => j = q) w u → Only (fun j => j = q) w (u.setCells q o vs) from fun vs o => this vs o w (Only.refl _ _)
  intro vs
  induction vs with
  | nil => intro o u h; exact h
  | cons x vs ih => intro o u h; exact ih (o + 1) _ (h.trans (Only.set (N := fun j => j = q) u q o x rfl))
theorem pair_other {w w' : World} {base c mb wq q : Nat} {v dv fv ev : Value} {hs : List (List Value)} {nf : Nat} {es : List (List Value)} (h : Pair w base c mb wq v dv fv ev hs nf es) (ho : Only (fun j => j = q) w w') (hq : ∀ j, CN c mb v j ∨ j = wq → j ≠ q) (hb : base ≤ q)
    (hd : ∀ x : Value, x = dv ∨ x = fv ∨ x = ev → ∀ k, x.ownBlock = some k → k ≠ q) : Pair w' base c mb wq v dv fv ev hs nf es :=
  ⟨h.cs.only ho (fun k hk e => hq k (.inl hk) e), h.ds.only ho (fun k hk e => hd _ (.inl rfl) k hk e) (fun k hk e => hd _ (.inr (.inl rfl)) k hk e) (fun k hk e => hd _ (.inr (.inr rfl)) k hk e), h.rw.of (ho.block wq h.rw.lt (hq wq (.inr rfl))), h.s1, h.s2, h.s3, h.nq, h.qb⟩
set_option maxHeartbeats 8000000 in
theorem lightHears_calls (v0 : Value) (L : List (List Value)) (idx tok own n : Nat) (w : World) (hR : Recs heK w v0 L) (hi : idx < 4294967296) (ht : tok < 256) (ho : own < 256) (hK : KAt w) (hB : BAt w) (hRK : RKAt w) :
    Calls Tryd.prog 3 #[v0, inV idx tok own n] w fun e w' => e = .returned (.bool true) ∧ Below w.heap.size w w' := by
  obtain ⟨A0, cp0, rfl, a1, a2, -, -⟩ := id hR
  unfold maxLen at a2
  have Q0 : Below w.heap.size w (w.alloc (objIn idx tok own n)) := (Below.refl _ _).alloc (Nat.le_refl _) _
  have hI := inAt_new w idx tok own n
  have hsz : w.heap.size < (w.alloc (objIn idx tok own n)).heap.size := by simp
  have HR := Lib.hid (hR.below heK_pos Q0)
  have HK := Lib.hid (hK.below Q0)
  have HB := Lib.hid (hB.below Q0)
  have HRK := Lib.hid (hRK.below Q0)
  have HQ := Lib.hid Q0
  have HI := Lib.hid hI
  have HID := Lib.hid (fun u hk hb => id_calls idx tok own n u hi ht ho hk hb)
  have HIt := Lib.hid (show idx < 4294967296 ∧ tok < 256 ∧ own < 256 from ⟨hi, ht, ho⟩)
  have HLv := Lib.hid (fun u => lives_calls u)
  obtain ⟨W, hW⟩ : ∃ W, w.alloc (objIn idx tok own n) = W := ⟨_, rfl⟩
  rw [hW] at HR HK HB HRK HQ HI hsz
  clear hR hi ht ho hK hB hRK Q0 hI
  unfold objIn at hW
  have hL0 : (L.length : Int) ≤ 9223372036854775807 := by omega
  go_enter Tryd.func3, Tryd.ntmps3
  go_upto_region 1 with fail
  clear hW
  by_cases h40 : L.length > 40
  · have h40' : (40 : Int) < (L.length : Int) := by omega
    go_upto_region 2 with (go_at_call 4; refine (HLv.out _).mono ?_; rintro e w1 ⟨rfl, hb1⟩)
    have HB1 := Lib.hid (HQ.out.trans (hb1.mono HQ.out.size))
    clear hb1
    go_wp2_with (go_at_call 4; refine (HLv.out _).mono ?_; rintro e w2 ⟨rfl, hb2⟩)
    go_ret
    exact ⟨rfl, HB1.out.trans (hb2.mono HB1.out.size)⟩
  · have h40' : ¬ (40 : Int) < (L.length : Int) := by omega
    have hL4 : L.length ≤ 40 := by omega
    have HL4 := Lib.hid hL4
    clear h40
    go_upto_region 3 with (go_at_call 4; refine (HLv.out _).mono ?_; rintro e w1 ⟨rfl, hb1⟩)
    have HB1 := Lib.hid (HQ.out.trans (hb1.mono HQ.out.size))
    have HI1 := Lib.hid (HI.out.below hb1 hsz)
    have hz1 : w.heap.size < w1.heap.size := Nat.lt_of_lt_of_le hsz hb1.size
    have HR1 := Lib.hid (HR.out.below heK_pos hb1)
    have HK1 := Lib.hid (HK.out.below hb1)
    have HBt1 := Lib.hid (HB.out.below hb1)
    have HRK1 := Lib.hid (HRK.out.below hb1)
    clear hb1 h40' hL4 a1 a2 hL0 HR HK HB HRK HI HLv HQ
    go_upto_region 4 with (go_at_call 5; refine (lnew_calls w1).mono ?_; rintro e w2 ⟨rfl, m1, m2, m3⟩)
    have hp := pair_new (cst_new m1 m2)
    have hb2 : Below w1.heap.size w1 (w2.alloc (.cells #[.slice none 0 0, .slice none 0 0, .slice none 0 0] 36)) := m3.alloc m3.size _
    have HP := Lib.hid hp
    have HB2 := Lib.hid hb2
    clear hp hb2 m1 m2 m3
    go_upto_region 5 with fail
    obtain ⟨U0, hU0⟩ : ∃ U0, w2.alloc (.cells #[.slice none 0 0, .slice none 0 0, .slice none 0 0] 36) = U0 := ⟨_, rfl⟩
    rw [hU0] at HP HB2
    rw [hU0]
    clear hU0
    obtain ⟨wq, hwq⟩ : ∃ q, w2.heap.size = q := ⟨_, rfl⟩
    rw [hwq] at HP
    rw [hwq]
    clear hwq
    obtain ⟨base, hbase⟩ : ∃ q, w1.heap.size = q := ⟨_, rfl⟩
    rw [hbase] at HP HB2 hz1
    rw [hbase]
    have HBs := Lib.hid hbase
    clear hbase
    go_wp2_with fail
    go_loopw [8, 9, 10, 26] (fun _ _ _ t wr => ∃ (k : Nat) (v dv fv ev : Value) (hs : List (List Value)) (nf : Nat) (es : List (List Value)), t = .int .i64 (k : Int) ∧ k ≤ L.length ∧ hs.length ≤ k ∧ es.length ≤ k ∧ Hid (Pair wr base (base + 1) base wq v dv fv ev hs nf es) ∧ Hid (Below base w1 wr)) (fun _ _ _ t _ => L.length - (RowKit.intOf t).toNat)
    case atStart => exact ⟨0, _, _, _, _, [], 0, [], rfl, by omega, Nat.le_refl _, Nat.le_refl _, HP, HB2⟩
    case round =>
      clear HP HB2
      obtain ⟨k, v, dv, fv, ev, hs, nf, es, rfl, hk, hhk, hek, HPr, HBr⟩ := hrel
      by_cases hlt : k < L.length
      · have hlt' : (k : Int) < (L.length : Int) := by omega
        have hbw1 : Below w1.heap.size w1 wr := by rw [HBs.out]; exact HBr.out
        obtain ⟨g, o, rfl, hg, hr, hty⟩ := (HR1.out.below heK_pos hbw1).at heK_pos k hlt
        obtain ⟨y, hy⟩ : ∃ y, L.getD k [] = y := ⟨_, rfl⟩
        rw [hy] at hr hty
        rw [heK_len] at hr
        have HTy := Lib.hid hty
        have HTh := Lib.hid (he_there wr hty)
        clear hy hg
        go_upto_region 8 with (first
          | refine wpList_load_mid rfl 44 _ rfl g (o + k * 82) rfl y _ hr Tryd.underlying44 rfl (he_info HTy.out) ?_
          | refine wpList_store_mid rfl 44 _ _ rfl wr.heap.size 0 y.toArray rfl rfl HTh.out (he_info' HTy.out) (all_oneCell_toArray HTy.out.one) ?_)
        have hyl := he_laid wr hty
        have hbn : Below wr.heap.size wr ((wr.alloc (.cells Tryd.zeroCells44 44)).setCells wr.heap.size 0 y) := hnew_below wr (.cells Tryd.zeroCells44 44) y
        have hcur : ∃ cur, ((wr.alloc (.cells Tryd.zeroCells44 44)).setCells wr.heap.size 0 y).heap[wr.heap.size]? = some (.cells cur 44 (0, 0)) := he_block wr y
        have HPu := Lib.hid (HPr.out.later hbn)
        have HBu := Lib.hid (HBr.out.trans (hbn.mono HPr.out.cs.bw))
        obtain ⟨U, hU⟩ : ∃ U, (wr.alloc (.cells Tryd.zeroCells44 44)).setCells wr.heap.size 0 y = U := ⟨_, rfl⟩
        rw [hU] at hyl hcur HPu HBu
        rw [hU]
        clear hU HTh hr hbn
        obtain ⟨q, hq⟩ : ∃ q, wr.heap.size = q := ⟨_, rfl⟩
        rw [hq] at hyl hcur
        rw [hq]
        have hqb : base ≤ q := by rw [← hq]; exact HPr.out.cs.bw
        have hqn : ∀ j, CN (base + 1) base v j ∨ j = wq → j ≠ q := fun j hj => by
          rcases hj with hj | hj
          · have := (CN.lt HPr.out.cs hj).2; omega
          · have := HPr.out.rw.lt; omega
        have HQn := Lib.hid hqn
        have HQd : Hid (∀ x : Value, x = dv ∨ x = fv ∨ x = ev → ∀ k, x.ownBlock = some k → k ≠ q) := Lib.hid (fun x hx j hj => by
          rcases hx with rfl | rfl | rfl
          · have := (OwnR.lt HPr.out.ds.hd j hj).2; omega
          · have := (OwnR.lt HPr.out.ds.fin j hj).2; omega
          · have := (OwnR.lt HPr.out.ds.ev j hj).2; omega)
        clear hq hqn HPr HBr
        have hidr := range_part hyl 2 32
        rw [Nat.zero_add] at hidr
        have hidt : Typed hashK ((y.drop 2).take 32) := hty.part 2 32 (by rw [hty.length, heK_len]; omega) (by kernel_rfl)
        have heq := hash_equal hidt zh_typed U
        have hidi := hashI (hash_len hidt)
        have HY := Lib.hid hyl
        have HCur := Lib.hid hcur
        clear hcur
        obtain ⟨bb, hbb⟩ : ∃ bb, decide (intsOf ((y.drop 2).take 32) = intsOf zh) = bb := ⟨_, rfl⟩
        rw [hbb] at heq
        generalize (y.drop 2).take 32 = idc at hidr heq hidi
        clear hidt hbb hyl hty
        cases bb with
        | false =>
          go_upto_region 10 with (first
            | refine wpList_load_mid rfl 38 _ rfl q 2 rfl idc _ hidr Tryd.underlying38 rfl hidi ?_
            | refine wpList_buildZ rfl 38 5 32 rfl Tryd.underlying38 (.agg zh.toArray) zh_info (by kernel_rfl) ?_)
          clear hidr heq hidi
          have HTz := HTy
          have HE : Hid (Typed evK ((y.drop 0).take 47)) := Lib.hid (HTz.out.part 0 47 (by rw [HTz.out.length, heK_len]; omega) (by kernel_rfl))
          have HHd : Hid (Typed hdK ((y.drop 47).take 35)) := Lib.hid (HTz.out.part 47 35 (by rw [HTz.out.length, heK_len]; omega) (by kernel_rfl))
          have hEr := range_part HY.out 0 47
          have hHr := range_part HY.out 47 35
          obtain ⟨E, hE⟩ : ∃ E, (y.drop 0).take 47 = E := ⟨_, rfl⟩
          obtain ⟨H, hH⟩ : ∃ H, (y.drop 47).take 35 = H := ⟨_, rfl⟩
          rw [hE] at HE hEr
          rw [hH] at HHd hHr
          rw [Nat.zero_add] at hEr hHr
          have HEr := Lib.hid hEr
          have HHr := Lib.hid hHr
          have hqU2 : q < U.heap.size := range_lt hEr (by rw [HE.out.length, evK_len]; omega)
          clear hE hH hEr hHr HTz
          have r0 := HPu.out.rw.c0
          have r1 := HPu.out.rw.c1
          have r2 := HPu.out.rw.c2
          have HRt := Lib.hid (rtake_calls base nf dv fv ev hs es E H U HPu.out.ds (by have := HL4.out; omega) (by have := HL4.out; omega) HE.out HHd.out)
          go_upto_region 11 with (first
            | refine wpList_load_mid rfl 40 _ rfl q 0 rfl E _ HEr.out Tryd.underlying40 rfl (ev_info HE.out) ?_
            | refine wpList_load_mid rfl 42 _ rfl q 47 rfl H _ HHr.out Tryd.underlying42 rfl (hd_info HHd.out) ?_
            | (go_at_call 7
               refine HRt.out.mono ?_
               rintro e w4 ⟨vv, rfl, dv', fv', ev', rfl, d1, d2, d3, d4, d5⟩
               obtain ⟨Ad, cd, rfl, -⟩ := id d1.hd.recs
               obtain ⟨Af, cf, rfl, -⟩ := id d1.fin.recs
               obtain ⟨Ae, ce, rfl, -⟩ := id d1.ev.recs))
          have hR9 := rat_new w4 (.slice Ad (tkH hs nf E H).length cd) (.slice Af (finL (tkH hs nf E H).length (tkN hs nf E)).length cf) (.slice Ae (tkS es E).length ce)
          have hb9 : Below w4.heap.size w4 (w4.alloc (.cells #[.slice Ad (tkH hs nf E H).length cd, .slice Af (finL (tkH hs nf E H).length (tkN hs nf E)).length cf, .slice Ae (tkS es E).length ce] 36)) := (Below.refl _ _).alloc (Nat.le_refl _) _
          have hb49 := d5.trans (hb9.mono d5.size)
          have hd9 := d1.later hb9
          have HR9 := Lib.hid hR9
          have HD9 := Lib.hid hd9
          have HB9 := Lib.hid hb49
          have HN9 := Lib.hid (show _ ∧ _ ∧ _ from ⟨d2, d3, d4⟩)
          clear d1 d2 d3 d4 d5 hR9 hb9 hb49 hd9
          obtain ⟨w5, hw5⟩ : ∃ w5, w4.alloc (.cells #[.slice Ad (tkH hs nf E H).length cd, .slice Af (finL (tkH hs nf E H).length (tkN hs nf E)).length cf, .slice Ae (tkS es E).length ce] 36) = w5 := ⟨_, rfl⟩
          rw [hw5] at HR9 HD9 HB9
          rw [hw5]
          clear hw5
          obtain ⟨q9, hq9⟩ : ∃ q9, w4.heap.size = q9 := ⟨_, rfl⟩
          rw [hq9] at HR9
          rw [hq9]
          clear hq9 r0 r1 r2
          have p0 := HR9.out.c0
          have p1 := HR9.out.c1
          have p2 := HR9.out.c2
          have HRw := Lib.hid (HPu.out.rw.of (HB9.out.block wq HPu.out.rw.lt))
          have x0 := HRw.out.c0
          have x1 := HRw.out.c1
          have x2 := HRw.out.c2
          have fz := fun o => World.rowIs.frozen HRw.out o
          obtain ⟨k1, k2, k3, k4, k5, k6⟩ := pair_doc HPu.out HB9.out HD9.out HN9.out.1 HN9.out.2.1 HN9.out.2.2
          have hoz := only_set3 w5 wq (.slice Ad (tkH hs nf E H).length cd) (.slice Af (finL (tkH hs nf E H).length (tkN hs nf E)).length cf) (.slice Ae (tkS es E).length ce)
          have hqw : q ≠ wq := fun e => HQn.out wq (.inr rfl) e.symm
          have hb6 : Below base U (((w5.setCell ⟨wq, 0, none⟩ (.slice Ad (tkH hs nf E H).length cd)).setCell ⟨wq, 1, none⟩ (.slice Af (finL (tkH hs nf E H).length (tkN hs nf E)).length cf)).setCell ⟨wq, 2, none⟩ (.slice Ae (tkS es E).length ce)) := (HB9.out.mono HPu.out.cs.bw).trans (hoz.below (Nat.le_trans HPu.out.cs.bw HB9.out.size) (fun j e => e ▸ HPu.out.qb))
          have HE6 := Lib.hid (range_of_block HEr.out ((hoz.block q (Nat.lt_of_lt_of_le hqU2 HB9.out.size) hqw).trans (HB9.out.block q hqU2)))
          have HH6 := Lib.hid (range_of_block HHr.out ((hoz.block q (Nat.lt_of_lt_of_le hqU2 HB9.out.size) hqw).trans (HB9.out.block q hqU2)))
          have HK6 := Lib.hid (show _ ∧ _ ∧ _ ∧ _ ∧ _ ∧ _ from ⟨k1, k2, k3, k4, k5, k6⟩)
          have HB6 := Lib.hid hb6
          clear k1 k2 k3 k4 k5 k6 hoz hb6
          go_upto_region 12 with fail
          obtain ⟨U6, hU6⟩ : ∃ U6, ((w5.setCell ⟨wq, 0, none⟩ (.slice Ad (tkH hs nf E H).length cd)).setCell ⟨wq, 1, none⟩ (.slice Af (finL (tkH hs nf E H).length (tkN hs nf E)).length cf)).setCell ⟨wq, 2, none⟩ (.slice Ae (tkS es E).length ce) = U6 := ⟨_, rfl⟩
          rw [hU6] at HE6 HH6 HK6 HB6
          rw [hU6]
          clear hU6 p0 p1 p2 x0 x1 x2 fz HRw
          have HTk := Lib.hid (ctake_calls base (base + 1) base nf v hs (cntOf es) E H U6 HK6.out.1 (by have := HL4.out; omega) HE.out HHd.out (fun j => ⟨Nat.le_trans (paid_le _ _) (by have := HL4.out; omega), Nat.le_trans (back_le _ _) (by have := HL4.out; omega)⟩))
          have HTl := Lib.hid (tkH_len hs nf E H)
          have HTs := Lib.hid (tkS_len es E)
          have HCt := Lib.hid (cnt_take es E)
          generalize tkE hs nf E H = er at HTk ⊢
          generalize tkH hs nf E H = hs' at *
          generalize tkN hs nf E = nf' at *
          generalize tkS es E = es' at *
          have herr : (er != er) = false := by simp
          go_wp2_with (first
            | refine wpList_load_mid rfl 40 _ rfl q 0 rfl E _ HE6.out Tryd.underlying40 rfl (ev_info HE.out) ?_
            | refine wpList_load_mid rfl 42 _ rfl q 47 rfl H _ HH6.out Tryd.underlying42 rfl (hd_info HHd.out) ?_
            | (go_at_call 8
               refine HTk.out.mono ?_
               rintro e w7 ⟨rfl, hce⟩
               obtain ⟨v7, hp7, hb7⟩ := pair_take hce HK6.out.1 HK6.out.2.1 HK6.out.2.2.1 HK6.out.2.2.2.1 HK6.out.2.2.2.2.1 HK6.out.2.2.2.2.2 HPu.out.nq HPu.out.qb HCt.out
               have s0 := hp7.rw.c0
               have s1 := hp7.rw.c1
               have s2 := hp7.rw.c2
               have HP7 := Lib.hid hp7
               have HB7 := Lib.hid hb7
               have HSm := Lib.hid (lsame_calls (base + 1) nf' v7 _ _ _ (.slice Ae es'.length ce) hs' w7 hp7.cs.cl hp7.cs.own.recs (ownH_nil_or hp7.cs.own) hp7.ds.hd.recs hp7.ds.fin.recs hp7.cs.le (by have := HTl.out; have := HL4.out; omega))
               clear hce hp7 hb7)
            | (go_at_call 9
               refine HSm.out.mono ?_
               rintro e w8 ⟨rfl, hb8⟩
               have HP8 := Lib.hid (HP7.out.later hb8)
               have HB8 := Lib.hid (((HBu.out.trans HB6.out).trans HB7.out).trans (hb8.mono HP7.out.cs.bw))
               clear hb8))
          go_roundw
          case rel => exact ⟨k + 1, _, _, _, _, hs', nf', es', by go_num, by omega, by have := HTl.out; omega, by have := HTs.out; omega, HP8, HB8⟩
          case measure => simp [RowKit.intOf]; omega
        | true =>
          have hi7 := HI1.out.below (show Below w1.heap.size w1 U by rw [HBs.out]; exact HBu.out) (by rw [HBs.out]; exact hz1)
          obtain ⟨i0, i1, i2, i3, i4, i5, i6⟩ := hi7
          have hbU : Below w1.heap.size w1 U := by rw [HBs.out]; exact HBu.out
          have HKu := Lib.hid (HK1.out.below hbU)
          have HBtu := Lib.hid (HBt1.out.below hbU)
          have hqU : q < U.heap.size := range_lt HY.out (by rw [HTy.out.length, heK_len]; omega)
          clear hbU
          go_upto_region 9 with (first
            | refine wpList_load_mid rfl 38 _ rfl q 2 rfl idc _ hidr Tryd.underlying38 rfl hidi ?_
            | refine wpList_buildZ rfl 38 5 32 rfl Tryd.underlying38 (.agg zh.toArray) zh_info (by kernel_rfl) ?_)
          clear hidr heq hidi
          have hln : (bV (idB idx tok own n)).length = 32 := by rw [bV_length, idB_length]
          have HI2 := Lib.hid (show (Tryd.prog.info? 38).map (·.size) = some (bV (idB idx tok own n)).toArray.size by rw [List.size_toArray, hln]; exact hinfo32)
          have HO := Lib.hid (all_oneCell_toArray (bV_one (idB idx tok own n)))
          have HLn := Lib.hid hln
          clear hln
          go_upto_region 10 with (first
            | (go_at_call 6
               refine (HID.out _ HKu.out HBtu.out).mono ?_
               rintro e w3 ⟨rfl, hb3⟩
               have hY3 := range_below HY.out hb3 hqU
               have HT3 : Hid (w3.there q 2 (bV (idB idx tok own n)).toArray.size) := Lib.hid (by
                 obtain ⟨cur, hcur⟩ := HCur.out
                 have h1 := range_part hY3 2 32
                 rw [Nat.zero_add] at h1
                 have h2 := there_range ((hb3.block q hqU).trans hcur) h1
                 rw [List.size_toArray, HLn.out]
                 rwa [show ((y.drop 2).take 32).length = 32 by rw [List.length_take, List.length_drop, HTy.out.length, heK_len]; rfl] at h2)
               have HY3 := Lib.hid hY3
               have HB3 := Lib.hid hb3
               clear hb3 hY3)
            | refine wpList_store_mid rfl 38 _ _ rfl q 2 (bV (idB idx tok own n)).toArray rfl rfl HT3.out HI2.out HO.out ?_)
          clear i0 i1 i2 i3 i4 i5 i6
          have HTz := Lib.hid (withId_typed HTy.out (idB_typed idx tok own n))
          have hyz := withId_laid HY3.out HTy.out HLn.out (by have := HT3.out; rwa [List.size_toArray] at this)
          have hob : Only (fun j => j = q) w3 (w3.setCells q 2 (bV (idB idx tok own n))) := only_cells w3 q _ 2
          have hpz := pair_other (HPu.out.later HB3.out) hob (fun j hj e => HQn.out j hj e) hqb HQd.out
          have hbz : Below base w1 (w3.setCells q 2 (bV (idB idx tok own n))) := below_range hqb _ 2 _ (HBu.out.trans (HB3.out.mono HPu.out.cs.bw))
          obtain ⟨Uz, hUz⟩ : ∃ Uz, w3.setCells q 2 (bV (idB idx tok own n)) = Uz := ⟨_, rfl⟩
          rw [hUz] at hyz hpz hbz
          try rw [hUz]
          clear hUz hob HKu HBtu HI2 HO HLn HT3 HY3 HB3 HPu HBu HY HTy
          obtain ⟨yz, hyzn⟩ : ∃ yz, withId y (bV (idB idx tok own n)) = yz := ⟨_, rfl⟩
          rw [hyzn] at HTz hyz
          clear hyzn
          have HPu := Lib.hid hpz
          have HBu := Lib.hid hbz
          have HY := Lib.hid hyz
          clear hpz hbz hyz
          have HE : Hid (Typed evK ((yz.drop 0).take 47)) := Lib.hid (HTz.out.part 0 47 (by rw [HTz.out.length, heK_len]; omega) (by kernel_rfl))
          have HHd : Hid (Typed hdK ((yz.drop 47).take 35)) := Lib.hid (HTz.out.part 47 35 (by rw [HTz.out.length, heK_len]; omega) (by kernel_rfl))
          have hEr := range_part HY.out 0 47
          have hHr := range_part HY.out 47 35
          obtain ⟨E, hE⟩ : ∃ E, (yz.drop 0).take 47 = E := ⟨_, rfl⟩
          obtain ⟨H, hH⟩ : ∃ H, (yz.drop 47).take 35 = H := ⟨_, rfl⟩
          rw [hE] at HE hEr
          rw [hH] at HHd hHr
          rw [Nat.zero_add] at hEr hHr
          have HEr := Lib.hid hEr
          have HHr := Lib.hid hHr
          have hqU2 : q < Uz.heap.size := range_lt hEr (by rw [HE.out.length, evK_len]; omega)
          clear hE hH hEr hHr HTz
          have r0 := HPu.out.rw.c0
          have r1 := HPu.out.rw.c1
          have r2 := HPu.out.rw.c2
          have HRt := Lib.hid (rtake_calls base nf dv fv ev hs es E H Uz HPu.out.ds (by have := HL4.out; omega) (by have := HL4.out; omega) HE.out HHd.out)
          go_upto_region 11 with (first
            | refine wpList_load_mid rfl 40 _ rfl q 0 rfl E _ HEr.out Tryd.underlying40 rfl (ev_info HE.out) ?_
            | refine wpList_load_mid rfl 42 _ rfl q 47 rfl H _ HHr.out Tryd.underlying42 rfl (hd_info HHd.out) ?_
            | (go_at_call 7
               refine HRt.out.mono ?_
               rintro e w4 ⟨vv, rfl, dv', fv', ev', rfl, d1, d2, d3, d4, d5⟩
               obtain ⟨Ad, cd, rfl, -⟩ := id d1.hd.recs
               obtain ⟨Af, cf, rfl, -⟩ := id d1.fin.recs
               obtain ⟨Ae, ce, rfl, -⟩ := id d1.ev.recs))
          have hR9 := rat_new w4 (.slice Ad (tkH hs nf E H).length cd) (.slice Af (finL (tkH hs nf E H).length (tkN hs nf E)).length cf) (.slice Ae (tkS es E).length ce)
          have hb9 : Below w4.heap.size w4 (w4.alloc (.cells #[.slice Ad (tkH hs nf E H).length cd, .slice Af (finL (tkH hs nf E H).length (tkN hs nf E)).length cf, .slice Ae (tkS es E).length ce] 36)) := (Below.refl _ _).alloc (Nat.le_refl _) _
          have hb49 := d5.trans (hb9.mono d5.size)
          have hd9 := d1.later hb9
          have HR9 := Lib.hid hR9
          have HD9 := Lib.hid hd9
          have HB9 := Lib.hid hb49
          have HN9 := Lib.hid (show _ ∧ _ ∧ _ from ⟨d2, d3, d4⟩)
          clear d1 d2 d3 d4 d5 hR9 hb9 hb49 hd9
          obtain ⟨w5, hw5⟩ : ∃ w5, w4.alloc (.cells #[.slice Ad (tkH hs nf E H).length cd, .slice Af (finL (tkH hs nf E H).length (tkN hs nf E)).length cf, .slice Ae (tkS es E).length ce] 36) = w5 := ⟨_, rfl⟩
          rw [hw5] at HR9 HD9 HB9
          rw [hw5]
          clear hw5
          obtain ⟨q9, hq9⟩ : ∃ q9, w4.heap.size = q9 := ⟨_, rfl⟩
          rw [hq9] at HR9
          rw [hq9]
          clear hq9 r0 r1 r2
          have p0 := HR9.out.c0
          have p1 := HR9.out.c1
          have p2 := HR9.out.c2
          have HRw := Lib.hid (HPu.out.rw.of (HB9.out.block wq HPu.out.rw.lt))
          have x0 := HRw.out.c0
          have x1 := HRw.out.c1
          have x2 := HRw.out.c2
          have fz := fun o => World.rowIs.frozen HRw.out o
          obtain ⟨k1, k2, k3, k4, k5, k6⟩ := pair_doc HPu.out HB9.out HD9.out HN9.out.1 HN9.out.2.1 HN9.out.2.2
          have hoz := only_set3 w5 wq (.slice Ad (tkH hs nf E H).length cd) (.slice Af (finL (tkH hs nf E H).length (tkN hs nf E)).length cf) (.slice Ae (tkS es E).length ce)
          have hqw : q ≠ wq := fun e => HQn.out wq (.inr rfl) e.symm
          have hb6 : Below base Uz (((w5.setCell ⟨wq, 0, none⟩ (.slice Ad (tkH hs nf E H).length cd)).setCell ⟨wq, 1, none⟩ (.slice Af (finL (tkH hs nf E H).length (tkN hs nf E)).length cf)).setCell ⟨wq, 2, none⟩ (.slice Ae (tkS es E).length ce)) := (HB9.out.mono HPu.out.cs.bw).trans (hoz.below (Nat.le_trans HPu.out.cs.bw HB9.out.size) (fun j e => e ▸ HPu.out.qb))
          have HE6 := Lib.hid (range_of_block HEr.out ((hoz.block q (Nat.lt_of_lt_of_le hqU2 HB9.out.size) hqw).trans (HB9.out.block q hqU2)))
          have HH6 := Lib.hid (range_of_block HHr.out ((hoz.block q (Nat.lt_of_lt_of_le hqU2 HB9.out.size) hqw).trans (HB9.out.block q hqU2)))
          have HK6 := Lib.hid (show _ ∧ _ ∧ _ ∧ _ ∧ _ ∧ _ from ⟨k1, k2, k3, k4, k5, k6⟩)
          have HB6 := Lib.hid hb6
          clear k1 k2 k3 k4 k5 k6 hoz hb6
          go_upto_region 12 with fail
          obtain ⟨U6, hU6⟩ : ∃ U6, ((w5.setCell ⟨wq, 0, none⟩ (.slice Ad (tkH hs nf E H).length cd)).setCell ⟨wq, 1, none⟩ (.slice Af (finL (tkH hs nf E H).length (tkN hs nf E)).length cf)).setCell ⟨wq, 2, none⟩ (.slice Ae (tkS es E).length ce) = U6 := ⟨_, rfl⟩
          rw [hU6] at HE6 HH6 HK6 HB6
          rw [hU6]
          clear hU6 p0 p1 p2 x0 x1 x2 fz HRw
          have HTk := Lib.hid (ctake_calls base (base + 1) base nf v hs (cntOf es) E H U6 HK6.out.1 (by have := HL4.out; omega) HE.out HHd.out (fun j => ⟨Nat.le_trans (paid_le _ _) (by have := HL4.out; omega), Nat.le_trans (back_le _ _) (by have := HL4.out; omega)⟩))
          have HTl := Lib.hid (tkH_len hs nf E H)
          have HTs := Lib.hid (tkS_len es E)
          have HCt := Lib.hid (cnt_take es E)
          generalize tkE hs nf E H = er at HTk ⊢
          generalize tkH hs nf E H = hs' at *
          generalize tkN hs nf E = nf' at *
          generalize tkS es E = es' at *
          have herr : (er != er) = false := by simp
          go_wp2_with (first
            | refine wpList_load_mid rfl 40 _ rfl q 0 rfl E _ HE6.out Tryd.underlying40 rfl (ev_info HE.out) ?_
            | refine wpList_load_mid rfl 42 _ rfl q 47 rfl H _ HH6.out Tryd.underlying42 rfl (hd_info HHd.out) ?_
            | (go_at_call 8
               refine HTk.out.mono ?_
               rintro e w7 ⟨rfl, hce⟩
               obtain ⟨v7, hp7, hb7⟩ := pair_take hce HK6.out.1 HK6.out.2.1 HK6.out.2.2.1 HK6.out.2.2.2.1 HK6.out.2.2.2.2.1 HK6.out.2.2.2.2.2 HPu.out.nq HPu.out.qb HCt.out
               have s0 := hp7.rw.c0
               have s1 := hp7.rw.c1
               have s2 := hp7.rw.c2
               have HP7 := Lib.hid hp7
               have HB7 := Lib.hid hb7
               have HSm := Lib.hid (lsame_calls (base + 1) nf' v7 _ _ _ (.slice Ae es'.length ce) hs' w7 hp7.cs.cl hp7.cs.own.recs (ownH_nil_or hp7.cs.own) hp7.ds.hd.recs hp7.ds.fin.recs hp7.cs.le (by have := HTl.out; have := HL4.out; omega))
               clear hce hp7 hb7)
            | (go_at_call 9
               refine HSm.out.mono ?_
               rintro e w8 ⟨rfl, hb8⟩
               have HP8 := Lib.hid (HP7.out.later hb8)
               have HB8 := Lib.hid (((HBu.out.trans HB6.out).trans HB7.out).trans (hb8.mono HP7.out.cs.bw))
               clear hb8))
          go_roundw
          case rel => exact ⟨k + 1, _, _, _, _, hs', nf', es', by go_num, by omega, by have := HTl.out; omega, by have := HTs.out; omega, HP8, HB8⟩
          case measure => simp [RowKit.intOf]; omega
      · obtain rfl : k = L.length := by omega
        have hbw1 : Below w1.heap.size w1 wr := by rw [HBs.out]; exact HBr.out
        obtain ⟨i0, i1, i2, i3, i4, i5, i6⟩ := HI1.out.below hbw1 (by rw [HBs.out]; exact hz1)
        have HKr := Lib.hid (HK1.out.below hbw1)
        have HBtr := Lib.hid (HBt1.out.below hbw1)
        have HRKr := Lib.hid (HRK1.out.below hbw1)
        have hqw : wq < wr.heap.size := HPr.out.rw.lt
        have hw0 : w.heap.size < wr.heap.size := by have := HBr.out.size; have := HBs.out; omega
        have hSt := settled_calls base (base + 1) base nf v hs (cntOf es) idx tok own n wr HPr.out.cs HIt.out.1 HIt.out.2.1 HIt.out.2.2 HKr.out HBtr.out
        have HRs := Lib.hid (fun u (hb : Below wr.heap.size wr u) => rsettled_calls dv fv ev es idx tok own n u (HPr.out.ds.ev.recs.below evK_pos hb) (by have := HL4.out; omega) HIt.out.1 HIt.out.2.1 HIt.out.2.2 (HRKr.out.below hb))
        have r0 := HPr.out.rw.c0
        have r1 := HPr.out.rw.c1
        have r2 := HPr.out.rw.c2
        have hc1 : (cntOf es (idK idx tok own n)).1 = paidOf es (idK idx tok own n) := rfl
        have hc2 : (cntOf es (idK idx tok own n)).2 = backOf es (idK idx tok own n) := rfl
        rw [hc1, hc2] at hSt
        obtain ⟨pp, hpp⟩ : ∃ pp, paidOf es (idK idx tok own n) = pp := ⟨_, rfl⟩
        obtain ⟨bk, hbk⟩ : ∃ bk, backOf es (idK idx tok own n) = bk := ⟨_, rfl⟩
        rw [hpp, hbk] at hSt HRs
        have HSt := Lib.hid hSt
        clear hSt hc1 hc2 hpp hbk hbw1
        go_wp2_with (first
          | (go_at_call 10
             refine HSt.out.mono ?_
             rintro e w9 ⟨rfl, hb9⟩
             have HB9 := Lib.hid hb9
             have j0 := (hb9.cell (p := ⟨wq, 0, none⟩) hqw).trans r0
             have j1 := (hb9.cell (p := ⟨wq, 1, none⟩) hqw).trans r1
             have j2 := (hb9.cell (p := ⟨wq, 2, none⟩) hqw).trans r2
             have l0 := (hb9.cell (p := ⟨w.heap.size, 0, none⟩) hw0).trans i0
             have l1 := (hb9.cell (p := ⟨w.heap.size, 1, none⟩) hw0).trans i1
             have l2 := (hb9.cell (p := ⟨w.heap.size, 2, none⟩) hw0).trans i2
             have l3 := (hb9.cell (p := ⟨w.heap.size, 3, none⟩) hw0).trans i3
             have l4 := (hb9.cell (p := ⟨w.heap.size, 4, none⟩) hw0).trans i4
             have l5 := (hb9.cell (p := ⟨w.heap.size, 5, none⟩) hw0).trans i5
             have l6 := (hb9.cell (p := ⟨w.heap.size, 6, none⟩) hw0).trans i6
             clear hb9 i0 i1 i2 i3 i4 i5 i6 r0 r1 r2)
          | (go_at_call 11
             refine (HRs.out _ HB9.out).mono ?_
             rintro e w10 ⟨rfl, hb10⟩))
        go_ret
        refine ⟨by simp, ?_⟩
        have h1 : Below base w1 w10 := (HBr.out.trans (HB9.out.mono HPr.out.cs.bw)).trans (hb10.mono (Nat.le_trans HPr.out.cs.bw HB9.out.size))
        rw [← HBs.out] at h1
        exact HB1.out.trans (h1.mono HB1.out.size)

end Go.Proofs.YthdbhajpjkkehaaDoor
