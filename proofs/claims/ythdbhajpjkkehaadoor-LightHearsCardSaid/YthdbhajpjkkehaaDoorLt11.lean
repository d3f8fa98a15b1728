/- The document's light client: how often was paid, and refunded. -/
import Derived.Test.YthdbhajpjkkehaaDoorLt9
namespace Go.Proofs.YthdbhajpjkkehaaDoor
open Go.RowKit Go.Lib Sha
set_option linter.unusedVariables false
set_option linter.unusedSimpArgs false

theorem bV_typed : ∀ (l : List UInt8), Typed (List.replicate l.length (some .u8)) (bV l)
  | [] => rfl
  | c :: l => ⟨_, _, rfl, ⟨_, rfl, wf_byte _ (by omega) (by have := c.toNat_lt; omega)⟩, bV_typed l⟩
theorem idB_typed (idx tok own n : Nat) : Typed hashK (bV (idB idx tok own n)) := by
  have := bV_typed (idB idx tok own n)
  rwa [idB_length] at this
def idK (idx tok own n : Nat) : List Int := intsOf (bV (idB idx tok own n))
set_option maxHeartbeats 4000000 in
set_option maxRecDepth 100000 in
theorem settled_calls (base c mb nf : Nat) (v : Value) (hs : List (List Value)) (f : Cnts) (idx tok own n : Nat) (w : World) (hC : CSt w base c mb v hs nf f) (hi : idx < 4294967296) (ht : tok < 256) (ho : own < 256) (hK : KAt w) (hB : BAt w) :
    Calls Tryd.prog 10 #[.pointer (some ⟨c, 0, none⟩), inV idx tok own n] w fun e w' => e = .returned (.tuple #[.int .i64 ((f (idK idx tok own n)).1 : Int), .int .i64 ((f (idK idx tok own n)).2 : Int)]) ∧ Below w.heap.size w w' := by
  have hI := inAt_new w idx tok own n
  have Q0 : Below w.heap.size w (w.alloc (objIn idx tok own n)) := (Below.refl _ _).alloc (Nat.le_refl _) _
  have hCU := hC.later Q0
  have hKU := hK.below Q0
  have hBU := hB.below Q0
  have hsU : (w.alloc (objIn idx tok own n)).heap.size = w.heap.size + 1 := by simp
  obtain ⟨U, hU⟩ : ∃ U, w.alloc (objIn idx tok own n) = U := ⟨_, rfl⟩
  rw [hU] at hI Q0 hCU hKU hBU hsU
  have HQ0 := Lib.hid Q0
  have HI := Lib.hid hI
  have hc2 := hCU.cl.cells.2.2
  have HC := Lib.hid hCU
  have huc : c < U.heap.size := World.rowIs.lt hCU.cl
  have hum : mb < U.heap.size := hCU.ct.lt
  have huw : w.heap.size < U.heap.size := by omega
  have HKU := Lib.hid hKU
  have HBU := Lib.hid hBU
  have HID := Lib.hid (fun u hk hb => id_calls idx tok own n u hi ht ho hk hb)
  obtain ⟨p0, hp0⟩ : ∃ p, f (idK idx tok own n) = p := ⟨_, rfl⟩
  rw [hp0]
  have HLk : Hid (∀ u : World, u.heap[mb]? = U.heap[mb]? → (Instr.lookup 62 (.map (some mb)) (.agg (bV (idB idx tok own n)).toArray) false).run Tryd.prog u = .ok (.agg #[.int .i64 (p0.1 : Int), .int .i64 (p0.2 : Int)]) u) := Lib.hid (fun u hu => by
    have := ct_look (HC.out.ct.kept hu) (idB_typed idx tok own n)
    unfold idK at hp0
    rw [hp0] at this
    exact this)
  have hU0 : Below U.heap.size U U.drew := (Below.refl _ _).drew
  clear hC hCU hKU hBU hI Q0 hK hB hi ht ho hp0 hsU
  unfold objIn at hU
  go_enter Tryd.func10, Tryd.ntmps10
  go_upto_region 1 with fail
  clear hU
  refine region_G 8 (fun w' => Below U.heap.size U w') (by kernel_rfl) hU0 (fun h0 => ?_)

  refine wpAnyG_take 0 _ (.pointer (some ⟨c, 0, none⟩)) rfl (by kernel_rfl) (by kernel_rfl) (by kernel_rfl) (by kernel_rfl) (fun _ _ _ h => h) h0 (.inl ⟨by rfl, fun w hS => by rfl⟩) ?_
  try simp only [List.getElem_toArray, List.getElem_cons_zero, List.getElem_cons_succ, Act.put, List.setIfInBounds_toArray, List.set_cons_zero, List.set_cons_succ]
  refine wpAnyG_take 1 _ (.pointer (some ⟨c, 0, none⟩)) rfl (by kernel_rfl) (by kernel_rfl) (by kernel_rfl) (by kernel_rfl) (fun _ _ _ h => h) h0 (.inl ⟨by rfl, fun w hS => by rfl⟩) ?_
  try simp only [List.getElem_toArray, List.getElem_cons_zero, List.getElem_cons_succ, Act.put, List.setIfInBounds_toArray, List.set_cons_zero, List.set_cons_succ]
  refine wpAnyG_take 2 _ (.pointer (some ⟨c, 2, none⟩)) rfl (by kernel_rfl) (by kernel_rfl) (by kernel_rfl) (by kernel_rfl) (fun _ _ _ h => h) h0 (.inl ⟨by rfl, fun w hS => by rfl⟩) ?_
  try simp only [List.getElem_toArray, List.getElem_cons_zero, List.getElem_cons_succ, Act.put, List.setIfInBounds_toArray, List.set_cons_zero, List.set_cons_succ]
  refine wpAnyG_take 3 _ (.map (some mb)) rfl (by kernel_rfl) (by kernel_rfl) (by kernel_rfl) (by kernel_rfl) (fun _ _ _ h => h) h0 (.inl ⟨by rfl, fun w hS => by have hc := (hS.cell (p := ⟨c, 2, none⟩) huc).trans hc2; go_simp⟩) ?_
  try simp only [List.getElem_toArray, List.getElem_cons_zero, List.getElem_cons_succ, Act.put, List.setIfInBounds_toArray, List.set_cons_zero, List.set_cons_succ]
  refine wpAnyG_take 4 _ (inV idx tok own n) rfl (by kernel_rfl) (by kernel_rfl) (by kernel_rfl) (by kernel_rfl) (fun _ _ _ h => h) h0 (.inl ⟨by rfl, fun w hS => by obtain ⟨i0, i1, i2, i3, i4, i5, i6⟩ := HI.out.below hS huw; unfold inV; go_simp⟩) ?_
  try simp only [List.getElem_toArray, List.getElem_cons_zero, List.getElem_cons_succ, Act.put, List.setIfInBounds_toArray, List.set_cons_zero, List.set_cons_succ]
  refine wpAnyG_ready [5, 7] (by kernel_rfl) (by simp) ?_
  refine AllReadyG.cons 5 _ rfl (fun K' hK => ?_) (AllReadyG.cons 7 _ rfl (fun K' hK => ?_) AllReadyG.nil)
  · go_simp
    refine (HID.out _ (HKU.out.below h0) (HBU.out.below h0)).mono ?_
    rintro e w2 ⟨rfl, hb2⟩
    dsimp only
    have h1 : Below U.heap.size U w2 := h0.trans (hb2.mono h0.size)
    refine hK.out _ _ (fun _ => h1) ?_
    clear hK K'
    try simp only [List.getElem_toArray, List.getElem_cons_zero, List.getElem_cons_succ, Act.put, List.setIfInBounds_toArray, List.set_cons_zero, List.set_cons_succ]
    refine wpAnyG_take 6 _ (.agg #[.int .i64 (p0.1 : Int), .int .i64 (p0.2 : Int)]) rfl (by kernel_rfl) (by kernel_rfl) (by kernel_rfl) (by kernel_rfl) (fun _ _ _ h => h) h1 (.inl ⟨by rfl, fun w hS => by have hc := HLk.out w (hS.block mb hum); go_simp⟩) ?_
    try simp only [List.getElem_toArray, List.getElem_cons_zero, List.getElem_cons_succ, Act.put, List.setIfInBounds_toArray, List.set_cons_zero, List.set_cons_succ]
    refine wpAnyG_ready [7] (by kernel_rfl) (by simp) ?_
    refine AllReadyG.cons 7 _ rfl (fun K' hK => ?_) AllReadyG.nil
    go_simp
    refine hK.out _ _ (fun _ => h1.alloc h1.size _) ?_
    clear hK K'
    try simp only [List.getElem_toArray, List.getElem_cons_zero, List.getElem_cons_succ, Act.put, List.setIfInBounds_toArray, List.set_cons_zero, List.set_cons_succ]
    refine wpAnyG_ready [8] (by kernel_rfl) (by simp) ?_
    refine AllReadyG.cons 8 _ rfl (fun K' hK => ?_) AllReadyG.nil
    go_simp
    refine hK.out _ _ (fun h => absurd rfl h) ?_
    clear hK K'
    refine wpAnyG_done (by kernel_rfl) ?_ _
    have HH := Lib.hid (HQ0.out.trans (h1.mono HQ0.out.size))
    clear hb2 h1 h0 hU0
    go_upto_region 2 with fail
    refine region_still (by kernel_rfl) (by kernel_rfl) ?_
    iterate 6 still_step
    refine wpStill_nil ?_
    go_wp2_with fail
    go_ret2
    exact ⟨rfl, (HH.out.alloc HH.out.size _).drew⟩
  · go_simp
    refine hK.out _ _ (fun _ => h0.alloc (Nat.le_refl _) _) ?_
    clear hK K'
    try simp only [List.getElem_toArray, List.getElem_cons_zero, List.getElem_cons_succ, Act.put, List.setIfInBounds_toArray, List.set_cons_zero, List.set_cons_succ]
    have h1 : Below U.heap.size U ((U.alloc objCt).drew) := ((Below.refl _ _).alloc (Nat.le_refl _) _).drew
    have hv0 : ((U.alloc objCt).drew).rowIs U.heap.size 70 2 (fun _ => .int .i64 0) := World.rowIs_alloc U _ _ _ (fun i hi => by
      have h : i < 2 := hi
      match i, h with
      | 0, _ => rfl
      | 1, _ => rfl)
    obtain ⟨U1, hU1⟩ : ∃ U1, (U.alloc objCt).drew = U1 := ⟨_, rfl⟩
    rw [hU1] at h1 hv0
    unfold objCt at hU1
    rw [hU1]
    clear hU1
    refine wpAnyG_ready [5] (by kernel_rfl) (by simp) ?_
    refine AllReadyG.cons 5 _ rfl (fun K' hK => ?_) AllReadyG.nil
    go_simp
    refine (HID.out _ (HKU.out.below h1) (HBU.out.below h1)).mono ?_
    rintro e w2 ⟨rfl, hb2⟩
    dsimp only
    have h2 : Below U.heap.size U w2 := h1.trans (hb2.mono h1.size)
    refine hK.out _ _ (fun _ => h2) ?_
    clear hK K'
    try simp only [List.getElem_toArray, List.getElem_cons_zero, List.getElem_cons_succ, Act.put, List.setIfInBounds_toArray, List.set_cons_zero, List.set_cons_succ]
    refine wpAnyG_take 6 _ (.agg #[.int .i64 (p0.1 : Int), .int .i64 (p0.2 : Int)]) rfl (by kernel_rfl) (by kernel_rfl) (by kernel_rfl) (by kernel_rfl) (fun _ _ _ h => h) h2 (.inl ⟨by rfl, fun w hS => by have hc := HLk.out w (hS.block mb hum); go_simp⟩) ?_
    try simp only [List.getElem_toArray, List.getElem_cons_zero, List.getElem_cons_succ, Act.put, List.setIfInBounds_toArray, List.set_cons_zero, List.set_cons_succ]
    have hv2 : w2.rowIs U.heap.size 70 2 (fun _ => .int .i64 0) := World.rowIs.of_block hv0 (hb2.block _ (World.rowIs.lt hv0))
    have d0 := World.rowIs.cell hv2 (i := 0) (by omega)
    have d1 := World.rowIs.cell hv2 (i := 1) (by omega)
    have f0 := World.rowIs.frozen hv2 0
    have f1 := World.rowIs.frozen hv2 1
    refine wpAnyG_ready [8] (by kernel_rfl) (by simp) ?_
    refine AllReadyG.cons 8 _ rfl (fun K' hK => ?_) AllReadyG.nil
    go_simp
    refine hK.out _ _ (fun h => absurd rfl h) ?_
    clear hK K'
    refine wpAnyG_done (by kernel_rfl) ?_ _
    have HH := Lib.hid (HQ0.out.trans (h2.mono HQ0.out.size))
    clear hb2 h1 h2 h0 hU0 hv0 hv2
    go_upto_region 2 with fail
    refine region_still (by kernel_rfl) (by kernel_rfl) ?_
    iterate 6 still_step
    refine wpStill_nil ?_
    go_wp2_with fail
    go_ret2
    exact ⟨rfl, ((HH.out.setCell (p := ⟨U.heap.size, 0, none⟩) (Nat.le_of_lt huw) _).setCell (p := ⟨U.heap.size, 1, none⟩) (Nat.le_of_lt huw) _).drew⟩

end Go.Proofs.YthdbhajpjkkehaaDoor

namespace Go.Proofs.YthdbhajpjkkehaaDoor
open Go.RowKit Go.Lib Sha
set_option linter.unusedVariables false
set_option linter.unusedSimpArgs false

set_option maxRecDepth 100000
theorem revK_info : (Tryd.prog.info? 48).map (·.size) = some 47 := by kernel_rfl
theorem rev_info {c : List Value} (h : Typed evK c) : (Tryd.prog.info? 48).map (·.size) = some c.length := by rw [h.length]; exact revK_info
theorem rev_info' {c : List Value} (h : Typed evK c) : (Tryd.prog.info? 48).map (·.size) = some c.toArray.size := by rw [List.size_toArray]; exact rev_info h
def objRev : Obj := .cells #[.int .u8 0, .int .u64 0, .int .u8 0, .int .u8 0, .int .u8 0, .int .u8 0, .int .u8 0, .int .u8 0, .int .u8 0, .int .u8 0, .int .u8 0, .int .u8 0, .int .u8 0, .int .u8 0, .int .u8 0, .int .u8 0, .int .u8 0, .int .u8 0, .int .u8 0, .int .u8 0, .int .u8 0, .int .u8 0, .int .u8 0, .int .u8 0, .int .u8 0, .int .u8 0, .int .u8 0, .int .u8 0, .int .u8 0, .int .u8 0, .int .u8 0, .int .u8 0, .int .u8 0, .int .u8 0, .int .u8 0, .int .u8 0, .int .u8 0, .int .u8 0, .int .u64 0, .int .u64 0, .int .u64 0, .int .u64 0, .int .u64 0, .int .u64 0, .int .u64 0, .int .u64 0, .int .u32 0] 48
theorem rev_there (w : World) {c : List Value} (h : Typed evK c) : (w.alloc objRev).there w.heap.size 0 c.toArray.size := by
  have := there_alloc w #[.int .u8 0, .int .u64 0, .int .u8 0, .int .u8 0, .int .u8 0, .int .u8 0, .int .u8 0, .int .u8 0, .int .u8 0, .int .u8 0, .int .u8 0, .int .u8 0, .int .u8 0, .int .u8 0, .int .u8 0, .int .u8 0, .int .u8 0, .int .u8 0, .int .u8 0, .int .u8 0, .int .u8 0, .int .u8 0, .int .u8 0, .int .u8 0, .int .u8 0, .int .u8 0, .int .u8 0, .int .u8 0, .int .u8 0, .int .u8 0, .int .u8 0, .int .u8 0, .int .u8 0, .int .u8 0, .int .u8 0, .int .u8 0, .int .u8 0, .int .u8 0, .int .u64 0, .int .u64 0, .int .u64 0, .int .u64 0, .int .u64 0, .int .u64 0, .int .u64 0, .int .u64 0, .int .u32 0] 48
  rw [show c.toArray.size = 47 by rw [List.size_toArray, h.length, evK_len]]
  exact this
theorem rev_laid (w : World) {c : List Value} (h : Typed evK c) : ((w.alloc objRev).setCells w.heap.size 0 c).rangeAt w.heap.size 0 c :=
  World.rangeAt_setCells_same _ _ _ _ (by have := rev_there w h; rwa [List.size_toArray] at this)
theorem hashI {cs : List Value} (h : cs.length = 32) : (Tryd.prog.info? 38).map (·.size) = some cs.length := by rw [h]; kernel_rfl
def backOf (es : List (List Value)) (id : List Int) : Nat := (es.filter fun x => decide (intsOf (idOf x) = id) && decide (intAt x 0 = 11)).length
def paidOf (es : List (List Value)) (id : List Int) : Nat := (es.filter fun x => decide (intsOf (idOf x) = id) && !decide (intAt x 0 = 11)).length
theorem back_take (es : List (List Value)) (id : List Int) (k : Nat) (h : k < es.length) : backOf (es.take (k + 1)) id = backOf (es.take k) id + if (decide (intsOf (idOf (es.getD k [])) = id) && decide (intAt (es.getD k []) 0 = 11)) then 1 else 0 := filter_take _ es [] k h
theorem paid_take (es : List (List Value)) (id : List Int) (k : Nat) (h : k < es.length) : paidOf (es.take (k + 1)) id = paidOf (es.take k) id + if (decide (intsOf (idOf (es.getD k [])) = id) && !decide (intAt (es.getD k []) 0 = 11)) then 1 else 0 := filter_take _ es [] k h
theorem back_le (es : List (List Value)) (id : List Int) : backOf es id ≤ es.length := List.length_filter_le _ _
theorem paid_le (es : List (List Value)) (id : List Int) : paidOf es id ≤ es.length := List.length_filter_le _ _

set_option maxHeartbeats 4000000 in
theorem rsettled_calls (dv fv ev : Value) (es : List (List Value)) (idx tok own n : Nat) (w : World) (hR : Recs evK w ev es) (hl : es.length ≤ 1000) (hi : idx < 4294967296) (ht : tok < 256) (ho : own < 256) (hK : RKAt w) :
    Calls Tryd.prog 11 #[.agg #[dv, fv, ev], inV idx tok own n] w fun e w' => e = .returned (.tuple #[.int .i64 (paidOf es (idK idx tok own n) : Int), .int .i64 (backOf es (idK idx tok own n) : Int)]) ∧ Below w.heap.size w w' := by
  obtain ⟨A, cp, rfl, -⟩ := id hR
  have Q0 : Below w.heap.size w ((w.alloc (.cells #[dv, fv, .slice A es.length cp] 36)).alloc (objIn idx tok own n)) := ((Below.refl _ _).alloc (Nat.le_refl _) _).alloc (by simp) _
  have hI := inAt_new (w.alloc (.cells #[dv, fv, .slice A es.length cp] 36)) idx tok own n
  have hs1 : (w.alloc (.cells #[dv, fv, .slice A es.length cp] 36)).heap.size = w.heap.size + 1 := by simp
  rw [hs1] at hI
  have hc2 : ((w.alloc (.cells #[dv, fv, .slice A es.length cp] 36)).alloc (objIn idx tok own n)).cell? ⟨w.heap.size, 2, none⟩ = some (.slice A es.length cp) := by
    have h1 : (w.alloc (.cells #[dv, fv, .slice A es.length cp] 36)).cell? ⟨w.heap.size, 2, none⟩ = some (.slice A es.length cp) := by
      have := range_alloc w #[dv, fv, .slice A es.length cp] 36 2 (.slice A es.length cp) rfl
      rwa [Nat.zero_add] at this
    exact (((Below.refl (w.heap.size + 1) _).alloc (by simp) (objIn idx tok own n)).cell (p := ⟨w.heap.size, 2, none⟩) (Nat.lt_succ_self _)).trans h1
  have hRW := hR.below evK_pos Q0
  have hKW := hK.below Q0
  have HID := Lib.hid (fun u hk => rid_calls idx tok own n u hi ht ho hk)
  obtain ⟨W, hW⟩ : ∃ W, (w.alloc (.cells #[dv, fv, .slice A es.length cp] 36)).alloc (objIn idx tok own n) = W := ⟨_, rfl⟩
  have hsW : W.heap.size = w.heap.size + 2 := by rw [← hW]; simp
  rw [hW] at Q0 hI hc2 hRW hKW
  have HQ0 := Lib.hid Q0
  have HR := Lib.hid hRW
  have HK := Lib.hid hKW
  have HsW := Lib.hid hsW
  obtain ⟨i0, i1, i2, i3, i4, i5, i6⟩ := hI
  have hl' : (es.length : Int) ≤ 1000 := by omega
  have HLn := Lib.hid hl
  clear hR hK hi ht ho hs1 Q0 hRW hKW hsW hl
  unfold objIn at hW
  obtain ⟨ids, hids⟩ : ∃ ids, idK idx tok own n = ids := ⟨_, rfl⟩
  have hids2 : intsOf (bV (idB idx tok own n)) = ids := hids
  have HITy := Lib.hid (idB_typed idx tok own n)
  rw [hids]
  go_enter Tryd.func11, Tryd.ntmps11
  go_upto_region 1 with fail
  clear hW
  have hln : (bV (idB idx tok own n)).length = 32 := by rw [bV_length, idB_length]
  have HI2 := Lib.hid (show (Tryd.prog.info? 38).map (·.size) = some (bV (idB idx tok own n)).toArray.size by rw [List.size_toArray, hln]; exact hinfo32)
  have HI1 := Lib.hid (hashI hln)
  have HO := Lib.hid (all_oneCell_toArray (bV_one (idB idx tok own n)))
  clear hln
  go_wp2_with fail
  refine (HID.out _ HK.out).mono ?_
  rintro e w2 ⟨rfl, hb2⟩
  have hzw := hzero32 w2
  have hth : (w2.alloc hob32).there w2.heap.size 0 (bV (idB idx tok own n)).length := by rw [bV_length, idB_length]; exact rowIs_there hzw
  have HRr := Lib.hid (World.rangeAt_setCells_same (w2.alloc hob32) w2.heap.size 0 (bV (idB idx tok own n)) hth)
  have HTh : Hid ((w2.alloc hob32).there w2.heap.size 0 (bV (idB idx tok own n)).toArray.size) := Lib.hid (by rw [List.size_toArray]; exact hth)
  have hc2' := (hb2.cell (p := ⟨w.heap.size, 2, none⟩) (by show w.heap.size < W.heap.size; have := HsW.out; omega)).trans hc2
  have hbn := hnew_below w2 hob32 (bV (idB idx tok own n))
  have hc3 := (hbn.cell (p := ⟨w.heap.size, 2, none⟩) (by show w.heap.size < w2.heap.size; have := HsW.out; have := hb2.size; omega)).trans hc2'
  have HBB : Hid (Below w.heap.size w ((w2.alloc hob32).setCells w2.heap.size 0 (bV (idB idx tok own n)))) := Lib.hid ((HQ0.out.trans (hb2.mono HQ0.out.size)).trans (hbn.mono (HQ0.out.trans (hb2.mono HQ0.out.size)).size))
  have HRR := Lib.hid ((HR.out.below evK_pos hb2).below evK_pos hbn)
  have hszn : w2.heap.size < ((w2.alloc hob32).setCells w2.heap.size 0 (bV (idB idx tok own n))).heap.size := range_lt HRr.out (by rw [bV_length, idB_length]; decide)
  have hwb : w.heap.size ≤ w2.heap.size := Nat.le_trans HQ0.out.size hb2.size
  clear hzw i0 i1 i2 i3 i4 i5 i6 hth hc2 hc2' hbn hb2
  obtain ⟨W3, hW3⟩ : ∃ W3, (w2.alloc hob32).setCells w2.heap.size 0 (bV (idB idx tok own n)) = W3 := ⟨_, rfl⟩
  rw [hW3] at HRr hc3 HBB HRR hszn
  unfold hob32 at hW3 HTh
  go_upto_region 4 with (refine wpList_store_mid rfl 38 _ _ rfl w2.heap.size 0 (bV (idB idx tok own n)).toArray rfl rfl HTh.out HI2.out HO.out ?_)
  rw [hW3]
  clear hW3 HTh
  go_wp2_with fail
  obtain ⟨ic, hic⟩ : ∃ ic, bV (idB idx tok own n) = ic := ⟨_, rfl⟩
  rw [hic] at HRr HITy hids2
  have HI1' : Hid ((Tryd.prog.info? 38).map (·.size) = some ic.length) := by rw [← hic]; exact HI1
  clear hids hic HI1 HI2 HO HID
  go_loopw [6, 7, 10, 16] (fun p q _ t wr => ∃ k : Nat, t = .int .i64 (k : Int) ∧ k ≤ es.length ∧ p = .int .i64 (paidOf (es.take k) ids : Int) ∧ q = .int .i64 (backOf (es.take k) ids : Int) ∧ Below W3.heap.size W3 wr) (fun _ _ _ t _ => es.length - (RowKit.intOf t).toNat)
  case atStart => exact ⟨0, rfl, by omega, rfl, rfl, Below.refl _ _⟩
  case round =>
    obtain ⟨k, rfl, hk, rfl, rfl, hb⟩ := hrel
    by_cases hlt : k < es.length
    · have hlt' : (k : Int) < (es.length : Int) := by omega
      obtain ⟨g, o, rfl, hg, hr, ht⟩ := (HRR.out.below evK_pos hb).at evK_pos k hlt
      have hpt := paid_take es ids k hlt
      have hbt := back_take es ids k hlt
      have hp1 := paid_le (es.take k) ids
      have hb1 := back_le (es.take k) ids
      rw [List.length_take] at hp1 hb1
      obtain ⟨x, hxe⟩ : ∃ x, es.getD k [] = x := ⟨_, rfl⟩
      rw [hxe] at hr ht hpt hbt
      rw [evK_len] at hr
      have HPT := Lib.hid hpt
      have HBT := Lib.hid hbt
      clear hpt hbt
      generalize paidOf (es.take k) ids = p at *
      generalize backOf (es.take k) ids = q at *
      have HTx := Lib.hid ht
      have HTh := Lib.hid (rev_there wr ht)
      unfold objRev at HTh
      go_upto_region 7 with (first
        | refine wpList_load_mid rfl 48 _ rfl g (o + k * 47) rfl x _ hr Tryd.underlying48 rfl (rev_info HTx.out) ?_
        | refine wpList_store_mid rfl 48 _ _ rfl wr.heap.size 0 x.toArray rfl rfl HTh.out (rev_info' HTx.out) (ev_one HTx.out) ?_)
      have hL := rev_laid wr ht
      have hbn := new_below wr objRev x
      have hbb := hb.trans (hbn.mono hb.size)
      have e0 := ev_cell hL ht 0 .u8 (by kernel_rfl)
      have hid := range_part hL 2 32
      rw [Nat.zero_add] at hid
      have hri := range_below HRr.out hbb (by omega)
      have heq := hash_equal (id_typed ht) HITy.out ((wr.alloc objRev).setCells wr.heap.size 0 x)
      rw [hids2] at heq
      have hxl := hashI (hash_len (id_typed ht))
      unfold idOf at heq hxl
      have hfi : intsOf (idOf x) = intsOf ((x.drop 2).take 32) := rfl
      rw [hfi] at HPT HBT
      obtain ⟨xc, hxc⟩ : ∃ xc, (x.drop 2).take 32 = xc := ⟨_, rfl⟩
      rw [hxc] at hid heq hxl HPT HBT
      obtain ⟨bb, hbb'⟩ : ∃ bb, decide (intsOf xc = ids) = bb := ⟨_, rfl⟩
      rw [hbb'] at heq HPT HBT
      obtain ⟨kd, hkd⟩ : ∃ kd, intAt x 0 = kd := ⟨_, rfl⟩
      rw [hkd] at e0 HPT HBT
      have HBb := Lib.hid hbb
      have hw1 : IntKind.i64.wrap ((p : Int) + 1) = (p : Int) + 1 := IntWalk.i64_in _ (by omega)
      have hw2 : IntKind.i64.wrap ((q : Int) + 1) = (q : Int) + 1 := IntWalk.i64_in _ (by omega)
      have hw3 : IntKind.i64.wrap ((k : Int) + 1) = (k : Int) + 1 := IntWalk.i64_in _ (by omega)
      obtain ⟨W4, hW4⟩ : ∃ W4, (wr.alloc objRev).setCells wr.heap.size 0 x = W4 := ⟨_, rfl⟩
      rw [hW4] at hid heq e0 hri HBb
      unfold objRev at hW4
      rw [hW4]
      clear hW4 hL hbn hbb hb hr ht hxc hxe hfi hbb' hkd HTh
      cases bb with
      | false =>
        go_wp2_with (first
                  | refine wpList_load_mid rfl 38 _ rfl wr.heap.size 2 rfl xc _ hid Tryd.underlying38 rfl hxl ?_
                  | refine wpList_load_mid rfl 38 _ rfl w2.heap.size 0 rfl ic _ hri Tryd.underlying38 rfl HI1'.out ?_)
        go_roundw
        case rel => exact ⟨k + 1, by go_num, by omega, congrArg (Value.int .i64) (by rw [HPT.out]; simp), congrArg (Value.int .i64) (by rw [HBT.out]; simp), HBb.out⟩
        case measure => simp [RowKit.intOf]; omega
      | true =>
        by_cases h11 : kd = 11
        · subst h11
          go_wp2_with (first
                    | refine wpList_load_mid rfl 38 _ rfl wr.heap.size 2 rfl xc _ hid Tryd.underlying38 rfl hxl ?_
                    | refine wpList_load_mid rfl 38 _ rfl w2.heap.size 0 rfl ic _ hri Tryd.underlying38 rfl HI1'.out ?_)
          go_roundw
          case rel => exact ⟨k + 1, by go_num, by omega, congrArg (Value.int .i64) (by rw [HPT.out]; simp), congrArg (Value.int .i64) (by rw [HBT.out]; simp), HBb.out⟩
          case measure => simp [RowKit.intOf]; omega
        · have hb11 : (kd == 11) = false := beq_eq_false_iff_ne.2 h11
          have HD : Hid (decide (kd = 11) = false) := Lib.hid (decide_eq_false h11)
          clear h11
          go_wp2_with (first
                    | refine wpList_load_mid rfl 38 _ rfl wr.heap.size 2 rfl xc _ hid Tryd.underlying38 rfl hxl ?_
                    | refine wpList_load_mid rfl 38 _ rfl w2.heap.size 0 rfl ic _ hri Tryd.underlying38 rfl HI1'.out ?_)
          go_roundw
          case rel => exact ⟨k + 1, by go_num, by omega, congrArg (Value.int .i64) (by rw [HPT.out]; rw [HD.out]; simp), congrArg (Value.int .i64) (by rw [HBT.out]; rw [HD.out]; simp), HBb.out⟩
          case measure => simp [RowKit.intOf]; omega
    · obtain rfl : k = es.length := by omega
      rw [List.take_of_length_le (Nat.le_refl _)]
      go_wp2_with fail
      go_ret2
      exact ⟨rfl, HBB.out.trans (hb.mono HBB.out.size)⟩
end Go.Proofs.YthdbhajpjkkehaaDoor

