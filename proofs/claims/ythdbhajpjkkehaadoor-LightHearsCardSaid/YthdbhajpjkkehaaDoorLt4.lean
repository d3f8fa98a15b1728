/- The light client: the first that isn't final becomes final. -/
import Derived.Test.YthdbhajpjkkehaaDoorRsha1
import Derived.Test.YthdbhajpjkkehaaDoorRsha3
import Derived.Test.YthdbhajpjkkehaaDoorRpack2
import Derived.Lib.ConvBytes
import Derived.Test.YthdbhajpjkkehaaDoorJoin2
import Derived.Lib.Walk
import Derived.Shelf.Abstract
namespace Go.Proofs.YthdbhajpjkkehaaDoor
open Go.RowKit Go.Lib Sha
set_option linter.unusedVariables false
set_option linter.unusedSimpArgs false

theorem below_conv (w : World) (e : TypeId) (s : ByteArray) : Below w.heap.size w (bytesWorld w e s) :=
  ⟨rfl, rfl, rfl, by rw [bytesWorld_size]; omega, fun k hk => bytesWorld_at_old w e s k hk⟩
theorem text_conv (w : World) (s : ByteArray) : (convert 9 66 (.string s)).run Tryd.prog w = .ok (.slice (some ⟨w.heap.size, 0, none⟩) s.size (grownCap w s.size 0 5)) (bytesWorld w 5 s) :=
  Go.Lib.run_convert_string_bytes (P := Tryd.prog) w 9 66 5 s (u := .string) (by kernel_rfl) (by kernel_rfl) (by kernel_rfl)
theorem conv_row (w : World) (l : List UInt8) (hl : l.length ≤ 900000) :
    BRow (bytesWorld w 5 ⟨l.toArray⟩) (.slice (some ⟨w.heap.size, 0, none⟩) (⟨l.toArray⟩ : ByteArray).size (grownCap w (⟨l.toArray⟩ : ByteArray).size 0 5)) l := by
  rw [str_size]
  refine ⟨_, _, rfl, grownCap_ge _ _ _ _, grownCap_le_maxLen _ _ _ _ (by unfold maxLen; omega), .inr ⟨w.heap.size, 0, rfl, fun i hi => ?_⟩⟩
  rw [Nat.zero_add]
  exact (bytesWorld_cell w 5 ⟨l.toArray⟩ i (by rw [str_size]; exact hi))
set_option maxHeartbeats 1000000 in
set_option maxRecDepth 100000 in
theorem rof_calls (tag : Nat) (v : Value) (ps : List (List UInt8)) (w : World) (h : StrsAt w v ps) (ht : tag < 256) (hps : ps.length ≤ 1000) (hl : (domText tag ps).length ≤ 900000) (hK : RKAt w) :
    Calls Tryd.prog 32 #[.int .u8 (tag : Int), v] w fun e w' => e = .returned (.agg (bV (sum (domText tag ps))).toArray) ∧ Below w.heap.size w w' := by
  obtain ⟨A, c, rfl, -⟩ := id h
  have HZ := hzero32 w
  have Q0 : Below w.heap.size w (w.alloc hob32) := (Below.refl _ _).alloc (Nat.le_refl _) _
  have HT := Lib.hid (rdtext_calls tag _ ps (w.alloc hob32) (h.below Q0) ht hps hl)
  have hwW : w.heap.size < (w.alloc hob32).heap.size := HZ.lt
  have HL := Lib.hid hl
  have HK := Lib.hid (hK.below Q0)
  clear h hl hK hps ht
  go_enter Tryd.func32, Tryd.ntmps32
  go_wp2_with fail
  obtain ⟨W0, hW0⟩ : ∃ W0, w.alloc hob32 = W0 := ⟨_, rfl⟩
  rw [hW0] at HZ Q0 HT hwW HK
  unfold hob32 at hW0
  rw [hW0]
  clear hW0
  refine HT.out.mono ?_
  rintro e w1 ⟨rfl, b1⟩
  obtain ⟨tx, htx⟩ : ∃ tx, domText tag ps = tx := ⟨_, rfl⟩
  rw [htx] at HL ⊢
  have hcv := text_conv w1 ⟨tx.toArray⟩
  have hrow := conv_row w1 tx HL.out
  have Q1 := below_conv w1 5 ⟨tx.toArray⟩
  obtain ⟨W2, hW2⟩ : ∃ W2, bytesWorld w1 5 ⟨tx.toArray⟩ = W2 := ⟨_, rfl⟩
  obtain ⟨cp, hcp⟩ : ∃ cp, grownCap w1 (⟨tx.toArray⟩ : ByteArray).size 0 5 = cp := ⟨_, rfl⟩
  obtain ⟨S, hS⟩ : ∃ S : ByteArray, (⟨tx.toArray⟩ : ByteArray) = S := ⟨_, rfl⟩
  rw [hcp, hW2] at hcv hrow
  rw [hW2] at Q1
  rw [hS] at hcv hrow
  have HD := Lib.hid (rsum_calls _ tx W2 hrow (.inr ⟨_, _, _, rfl⟩) HL.out ((HK.out.below b1).below Q1))
  have HQ := Lib.hid (b1.trans (Q1.mono b1.size))
  clear hW2 hcp b1 Q1 HT hrow HK
  unfold sV
  rw [hS]
  have HTx := Lib.hid htx
  clear hS htx
  go_wp2_with fail
  refine HD.out.mono ?_
  rintro e w3 ⟨rfl, hb3⟩
  have hbf : Below W0.heap.size W0 w3 := HQ.out.trans (hb3.mono HQ.out.size)
  have HBf : Hid (Below w.heap.size w w3) := Lib.hid (Q0.trans (hbf.mono (Nat.le_of_lt hwW)))
  have HZ3 : w3.rowIs w.heap.size 38 32 (fun _ => .int .u8 0) := World.rowIs.of_block HZ (hbf.block _ hwW)
  have HWs0 : Hid ((sum tx).map (fun c => Value.int .u8 (c.toNat : Int)) = bV (sum tx)) := Lib.hid rfl
  rw [HWs0.out]
  have hln : (bV (sum tx)).length = 32 := by rw [bV_length, sum_length]
  have HI2 := Lib.hid (show (Tryd.prog.info? 38).map (·.size) = some (bV (sum tx)).toArray.size by rw [List.size_toArray, hln]; exact hinfo32)
  have HI := Lib.hid (show (Tryd.prog.info? 38).map (·.size) = some (bV (sum tx)).length by rw [hln]; exact hinfo32)
  have HO := Lib.hid (all_oneCell_toArray (bV_one (sum tx)))
  have HTh := Lib.hid (show w3.there w.heap.size 0 (bV (sum tx)).length by rw [hln]; exact rowIs_there HZ3)
  have HRr := Lib.hid (World.rangeAt_setCells_same w3 w.heap.size 0 (bV (sum tx)) HTh.out)
  clear hbf HZ3 hb3 HD HQ hln HWs0
  obtain ⟨ws, hws⟩ : ∃ ws, bV (sum tx) = ws := ⟨_, rfl⟩
  rw [hws] at HI HI2 HO HTh HRr ⊢
  have HWs := Lib.hid hws
  clear hws
  go_wp2_with (refine wpList_store_mid rfl 38 _ _ rfl w.heap.size 0 ws.toArray rfl rfl HTh.out HI2.out HO.out ?_)
  exact bodyPost_ret (v := .agg ws.toArray) (results_cell_mid rfl _ _ w.heap.size ws (.array 32 5) rfl HRr.out Tryd.underlying38 rfl HI.out) rfl ⟨by rw [HTx.out, HWs.out], below_setCells (Nat.le_refl _) _ _ _ HBf.out⟩
theorem strsAt_one (w : World) (p : List UInt8) (S : ByteArray) (hS : S = ⟨p.toArray⟩) : StrsAt (w.alloc (.cells #[.string S] 9)) (.slice (some ⟨w.heap.size, 0, none⟩) 1 1) [p] :=
  ⟨_, _, rfl, .inr ⟨w.heap.size, 0, rfl, fun i hi => by
    obtain rfl : i = 0 := by simpa using hi
    rw [hS]
    exact cell_new w (sV p) _⟩⟩
set_option maxHeartbeats 1000000 in
set_option maxRecDepth 100000 in
theorem rid_calls (idx tok own n : Nat) (w : World) (hi : idx < 4294967296) (ht : tok < 256) (ho : own < 256) (hK : RKAt w) :
    Calls Tryd.prog 21 #[inV idx tok own n] w fun e w' => e = .returned (.agg (bV (idB idx tok own n)).toArray) ∧ Below w.heap.size w w' := by
  have hI0 := inAt_new w idx tok own n
  have Q0 : Below w.heap.size w ((w.alloc (objIn idx tok own n)).alloc hob32) := ((Below.refl _ _).alloc (Nat.le_refl _) _).alloc (by simp) _
  have HZ := hzero32 (w.alloc (objIn idx tok own n))
  have hI1 : InAt ((w.alloc (objIn idx tok own n)).alloc hob32) w.heap.size idx tok own n := hI0.below ((Below.refl (w.heap.size + 1) _).alloc (by simp) hob32) (Nat.lt_succ_self _)
  have hK0 := hK.below Q0
  have hsz : (w.alloc (objIn idx tok own n)).heap.size = w.heap.size + 1 := by simp
  rw [hsz] at HZ
  have HIB := Lib.hid (fun w => rtext_calls idx tok own n w hi ht ho)
  clear hI0 hK hi ht ho
  go_enter Tryd.func21, Tryd.ntmps21
  go_wp2_with fail
  obtain ⟨W0, hW0⟩ : ∃ W0, (w.alloc (objIn idx tok own n)).alloc hob32 = W0 := ⟨_, rfl⟩
  rw [hW0] at HZ Q0 hI1 hK0
  unfold objIn hob32 at hW0
  rw [hW0]
  clear hW0
  refine (HIB.out W0).mono ?_
  rintro e w1 ⟨rfl, b1⟩
  unfold sV
  obtain ⟨S, hS⟩ : ∃ S : ByteArray, S = ⟨(inB idx tok own n).toArray⟩ := ⟨_, rfl⟩
  rw [← hS]
  have Q1 : Below w1.heap.size w1 (w1.alloc (.cells #[.string S] 9)) := (Below.refl _ _).alloc (Nat.le_refl _) _
  have HOf := Lib.hid (rof_calls 3 _ [inB idx tok own n] _ (strsAt_one w1 _ S hS) (by omega) (by simp) (by rw [domText_one, inB_length]; decide) ((hK0.below b1).below Q1))
  have HQ := Lib.hid (b1.trans (Q1.mono b1.size))
  have hwW : w.heap.size + 1 < W0.heap.size := HZ.lt
  have HZ0 := Lib.hid HZ
  have HQ0 := Lib.hid Q0
  clear b1 Q1 HIB hK0 hI1 HZ Q0 hS
  go_wp2_with fail
  refine HOf.out.mono ?_
  rintro e w3 ⟨rfl, hb3⟩
  have hbf : Below W0.heap.size W0 w3 := HQ.out.trans (hb3.mono HQ.out.size)
  have HBf : Hid (Below w.heap.size w w3) := Lib.hid (HQ0.out.trans (hbf.mono (by omega)))
  have HZ3 : w3.rowIs (w.heap.size + 1) 38 32 (fun _ => .int .u8 0) := World.rowIs.of_block HZ0.out (hbf.block _ hwW)
  have HWs0 : Hid (bV (sum (domText 3 [inB idx tok own n])) = bV (idB idx tok own n)) := Lib.hid rfl
  rw [HWs0.out]
  have hln : (bV (idB idx tok own n)).length = 32 := by rw [bV_length, idB_length]
  have HI2 := Lib.hid (show (Tryd.prog.info? 38).map (·.size) = some (bV (idB idx tok own n)).toArray.size by rw [List.size_toArray, hln]; exact hinfo32)
  have HI := Lib.hid (show (Tryd.prog.info? 38).map (·.size) = some (bV (idB idx tok own n)).length by rw [hln]; exact hinfo32)
  have HO := Lib.hid (all_oneCell_toArray (bV_one (idB idx tok own n)))
  have HTh := Lib.hid (show w3.there (w.heap.size + 1) 0 (bV (idB idx tok own n)).length by rw [hln]; exact rowIs_there HZ3)
  have HRr := Lib.hid (World.rangeAt_setCells_same w3 (w.heap.size + 1) 0 (bV (idB idx tok own n)) HTh.out)
  clear hbf HZ3 hb3 HOf HQ hln HWs0
  obtain ⟨ws, hws⟩ : ∃ ws, bV (idB idx tok own n) = ws := ⟨_, rfl⟩
  rw [hws] at HI HI2 HO HTh HRr ⊢
  have HWs := Lib.hid hws
  clear hws
  go_wp2_with (refine wpList_store_mid rfl 38 _ _ rfl (w.heap.size + 1) 0 ws.toArray rfl rfl HTh.out HI2.out HO.out ?_)
  exact bodyPost_ret (v := .agg ws.toArray) (results_cell_mid rfl _ _ (w.heap.size + 1) ws (.array 32 5) rfl HRr.out Tryd.underlying38 rfl HI.out) rfl ⟨by rw [HWs.out], below_setCells (Nat.le_succ _) _ _ _ HBf.out⟩
end Go.Proofs.YthdbhajpjkkehaaDoor

namespace Go.Proofs.YthdbhajpjkkehaaDoor
open Go.RowKit Go.Lib
set_option linter.unusedVariables false
set_option linter.unusedSimpArgs false

/-- A head's cells. -/
def hdK : Kinds := [some .u32, some .u64] ++ List.replicate 32 (some .u8) ++ [some .u64]
theorem hdK_flat : flatK Tryd.prog 6 42 = some hdK := by kernel_rfl
theorem hdK_cells : Tryd.prog.cellsOf 42 = hdK.length := by kernel_rfl
theorem hdK_info : (Tryd.prog.info? 42).map (·.size) = some 35 := by kernel_rfl
theorem rhK_info : (Tryd.prog.info? 49).map (·.size) = some 35 := by kernel_rfl
set_option maxRecDepth 10000 in
theorem hdK_len : hdK.length = 35 := by kernel_rfl
theorem hdK_pos : 0 < hdK.length := by rw [hdK_len]; omega
theorem hd_info {c : List Value} (h : Typed hdK c) : (Tryd.prog.info? 42).map (·.size) = some c.length := by rw [h.length]; exact hdK_info
theorem rh_info {c : List Value} (h : Typed hdK c) : (Tryd.prog.info? 49).map (·.size) = some c.length := by rw [h.length]; exact rhK_info
theorem hd_info' {c : List Value} (h : Typed hdK c) : (Tryd.prog.info? 42).map (·.size) = some c.toArray.size := by rw [List.size_toArray]; exact hd_info h
theorem rh_info' {c : List Value} (h : Typed hdK c) : (Tryd.prog.info? 49).map (·.size) = some c.toArray.size := by rw [List.size_toArray]; exact rh_info h
theorem hd_one {c : List Value} (h : Typed hdK c) : c.toArray.all (·.oneCell') = true := all_oneCell_toArray h.one
theorem hd_cell {W : World} {g : Nat} {x : List Value} (hL : W.rangeAt g 0 x) (ht : Typed hdK x) (j : Nat) (k : IntKind) (hk : hdK[j]? = some (some k)) : W.cell? ⟨g, j, none⟩ = some (.int k (intAt x j)) := by
  have := hL j _ (ht.at j k hk).1
  rwa [Nat.zero_add] at this
theorem box_hd (w : World) (T : TypeId) (c : List Value) : (w.alloc (.cells c.toArray T)).rangeAt w.heap.size 0 c ∧ Below w.heap.size w (w.alloc (.cells c.toArray T)) ∧ w.heap.size < (w.alloc (.cells c.toArray T)).heap.size :=
  ⟨range_alloc w c.toArray _, (Below.refl _ _).alloc (Nat.le_refl _) _, by simp⟩

/-- The place of a number; below 0: there is none. -/
def fnd (hs : List (List Value)) (m : Int) : Int := match hs.findIdx? (fun x => decide (intAt x 0 = m)) with
  | some i => (i : Int)
  | none => -1
theorem fnd_hit (hs : List (List Value)) (m : Int) (k : Nat) (hk : k < hs.length) (h : intAt (hs.getD k []) 0 = m) (ha : ∀ j, j < k → intAt (hs.getD j []) 0 ≠ m) : fnd hs m = (k : Int) := by
  have e : hs.findIdx? (fun x => decide (intAt x 0 = m)) = some k := by
    rw [List.findIdx?_eq_some_iff_getElem]
    refine ⟨hk, ?_, fun j hj => ?_⟩
    · rw [List.getD_eq_getElem?_getD, List.getElem?_eq_getElem hk] at h
      simpa using h
    · have := ha j hj
      rw [List.getD_eq_getElem?_getD, List.getElem?_eq_getElem (by omega)] at this
      simpa using this
  unfold fnd
  rw [e]
theorem fnd_miss (hs : List (List Value)) (m : Int) (ha : ∀ j, j < hs.length → intAt (hs.getD j []) 0 ≠ m) : fnd hs m = -1 := by
  have e : hs.findIdx? (fun x => decide (intAt x 0 = m)) = none := by
    rw [List.findIdx?_eq_none_iff]
    intro x hx
    obtain ⟨j, hj, rfl⟩ := List.getElem_of_mem hx
    have := ha j hj
    rw [List.getD_eq_getElem?_getD, List.getElem?_eq_getElem hj] at this
    simpa using this
  unfold fnd
  rw [e]

set_option maxHeartbeats 1000000 in
set_option maxRecDepth 100000 in
theorem pred_calls (x : List Value) (m : Int) (B : Nat) (w : World) (hx : Typed hdK x) (hB : w.cell? ⟨B, 0, none⟩ = some (.int .u32 m)) :
    Calls Tryd.prog 45 #[.agg x.toArray, .pointer (some ⟨B, 0, none⟩)] w fun e w' => e = .returned (.bool (decide (intAt x 0 = m))) ∧ Below w.heap.size w w' := by
  obtain ⟨hr, hb, hs⟩ := box_hd w 42 x
  have hlt : B < w.heap.size := World.block_lt_of_cell? w _ hB
  have hB' := (hb.cell (p := ⟨B, 0, none⟩) hlt).trans hB
  have c0 := hd_cell hr hx 0 .u32 (by kernel_rfl)
  have HB := Lib.hid hb
  obtain ⟨W, hW⟩ : ∃ W, w.alloc (.cells x.toArray 42) = W := ⟨_, rfl⟩
  rw [hW] at c0 hB' HB
  clear hr hb hs hB hlt
  generalize intAt x 0 = a at c0 ⊢
  go_enter Tryd.func45, Tryd.ntmps45
  go_upto_region 1 with fail
  clear hW
  go_wp2_with fail
  go_ret
  refine ⟨?_, HB.out⟩
  have e : (a == m) = decide (a = m) := by by_cases h : a = m <;> simp [h]
  show Ending.returned (.bool (a == m)) = _
  rw [e]

set_option maxHeartbeats 1000000 in
set_option maxRecDepth 100000 in
theorem ifn_calls (v : Value) (hs : List (List Value)) (m : Int) (B : Nat) (w : World) (hR : Recs hdK w v hs) (hl : hs.length ≤ 1000) (hB : w.cell? ⟨B, 0, none⟩ = some (.int .u32 m)) :
    Calls Tryd.prog 44 #[v, .func (.func 45) #[] #[.pointer (some ⟨B, 0, none⟩)]] w fun e w' => e = .returned (.int .i64 (fnd hs m)) ∧ Below w.heap.size w w' := by
  obtain ⟨A, c, rfl, -⟩ := id hR
  have HR := Lib.hid hR
  have HL : (hs.length : Int) ≤ 1000 := by omega
  have HB := Lib.hid hB
  have hBl := World.block_lt_of_cell? w _ hB
  have eg : ∀ args w, (callFunc 45 args).run Tryd.prog w = .ok (.enter 45 args) w := enters_of Tryd.func45 (by kernel_rfl) rfl
  clear hR hl hB
  go_enter Tryd.func44, Tryd.ntmps44
  go_wp2_with fail
  go_loopw [5, 8] (fun _ t wr => ∃ k : Nat, t = .int .i64 (k : Int) ∧ k ≤ hs.length ∧ Hid (∀ j, j < k → intAt (hs.getD j []) 0 ≠ m) ∧ Below w.heap.size w wr) (fun _ t _ => hs.length - (Lib.intOf t).toNat)
  case atStart => exact ⟨0, rfl, by omega, Lib.hid (by omega), Below.refl _ _⟩
  case round =>
    obtain ⟨k, rfl, hk, HN, hb⟩ := hrel
    by_cases hk1 : k < hs.length
    · have hk1' : (k : Int) < (hs.length : Int) := by omega
      obtain ⟨g, o, rfl, hg, hr, ht⟩ := HR.out.at hdK_pos k hk1
      have hr1 := range_below hr hb hg
      rw [hdK_len] at hr1
      have HH := Lib.hid (fun h1 h2 => fnd_hit hs m k hk1 h1 h2)
      obtain ⟨x, hx⟩ : ∃ x, hs.getD k [] = x := ⟨_, rfl⟩
      rw [hx] at hr1 ht HH
      have HX := Lib.hid hx
      have HP := Lib.hid (pred_calls x m B wr ht ((hb.cell (p := ⟨B, 0, none⟩) hBl).trans HB.out))
      have HI := Lib.hid (hd_info ht)
      have HBb := Lib.hid hb
      have hadr : (o : Nat) + k * 35 = o + k * 35 := rfl
      clear hr hb hx hg hadr
      cases hq : decide (intAt x 0 = m) with
      | true =>
        rw [hq] at HP
        go_wp2_with (first
          | refine wpList_load_mid rfl 42 _ rfl g (o + k * 35) rfl x _ hr1 Tryd.underlying42 rfl HI.out ?_
          | (go_at_fn 45
             refine HP.out.mono ?_
             rintro e w2 ⟨rfl, hb2⟩))
        go_ret
        exact ⟨by rw [HH.out (of_decide_eq_true hq) HN.out]; rfl, HBb.out.trans (hb2.mono HBb.out.size)⟩
      | false =>
        rw [hq] at HP
        have HQ := Lib.hid hq
        clear hq
        go_wp2_with (first
          | refine wpList_load_mid rfl 42 _ rfl g (o + k * 35) rfl x _ hr1 Tryd.underlying42 rfl HI.out ?_
          | (go_at_fn 45
             refine HP.out.mono ?_
             rintro e w2 ⟨rfl, hb2⟩))
        go_roundw
        case rel =>
          refine ⟨k + 1, by go_num, by omega, Lib.hid (fun j hj => ?_), HBb.out.trans (hb2.mono HBb.out.size)⟩
          by_cases e : j = k
          · rw [e, HX.out]
            exact of_decide_eq_false HQ.out
          · exact HN.out j (by omega)
        case measure => simp [Lib.intOf]; omega
    · obtain rfl : k = hs.length := by omega
      go_wp2_with fail
      go_ret
      exact ⟨by rw [fnd_miss hs m HN.out]; rfl, hb⟩
end Go.Proofs.YthdbhajpjkkehaaDoor

namespace Go.Proofs.YthdbhajpjkkehaaDoor
open Go.RowKit Go.Lib
set_option linter.unusedVariables false
set_option linter.unusedSimpArgs false

set_option maxHeartbeats 1000000 in
set_option maxRecDepth 100000 in
theorem find_calls (c : Nat) (v : Value) (hs : List (List Value)) (m : Int) (w : World) (h0 : w.cell? ⟨c, 0, none⟩ = some v) (hR : Recs hdK w v hs) (hl : hs.length ≤ 1000) :
    Calls Tryd.prog 31 #[.pointer (some ⟨c, 0, none⟩), .int .u32 m] w fun e w' => e = .returned (.int .i64 (fnd hs m)) ∧ Below w.heap.size w w' := by
  have Q0 : Below w.heap.size w (w.alloc (.cells #[.int .u32 m] 23)) := (Below.refl _ _).alloc (Nat.le_refl _) _
  have hc := (Q0.cell (p := ⟨c, 0, none⟩) (World.block_lt_of_cell? w _ h0)).trans h0
  have HC := Lib.hid (ifn_calls v hs m w.heap.size _ (hR.below hdK_pos Q0) hl (cell_new w (.int .u32 m) 23))
  have HQ := Lib.hid Q0
  obtain ⟨A, cp, rfl, -⟩ := id hR
  obtain ⟨W, hW⟩ : ∃ W, w.alloc (.cells #[.int .u32 m] 23) = W := ⟨_, rfl⟩
  rw [hW] at hc HC HQ
  clear h0 hR hl Q0
  go_enter Tryd.func31, Tryd.ntmps31
  go_upto_region 1 with fail
  clear hW
  go_wp2_with (go_at_call 44; refine HC.out.mono ?_; rintro e w2 ⟨rfl, hb2⟩)
  go_ret
  exact ⟨rfl, HQ.out.trans (hb2.mono HQ.out.size)⟩

set_option maxRecDepth 100000 in
theorem finals_calls (c : Nat) (n : Int) (w : World) (h1 : w.cell? ⟨c, 1, none⟩ = some (.int .i64 n)) :
    Calls Tryd.prog 14 #[.pointer (some ⟨c, 0, none⟩)] w fun e w' => e = .returned (.int .i64 n) ∧ w' = w := by
  go_enter Tryd.func14, Tryd.ntmps14
  go_wp2_with fail
  go_ret
  exact ⟨rfl, rfl⟩

set_option maxRecDepth 100000 in
/-- A new variable for one of the document's heads. -/
def objRh : Obj := .cells #[.int .u32 0, .int .u64 0, .int .u8 0, .int .u8 0, .int .u8 0, .int .u8 0, .int .u8 0, .int .u8 0, .int .u8 0, .int .u8 0, .int .u8 0, .int .u8 0, .int .u8 0, .int .u8 0, .int .u8 0, .int .u8 0, .int .u8 0, .int .u8 0, .int .u8 0, .int .u8 0, .int .u8 0, .int .u8 0, .int .u8 0, .int .u8 0, .int .u8 0, .int .u8 0, .int .u8 0, .int .u8 0, .int .u8 0, .int .u8 0, .int .u8 0, .int .u8 0, .int .u8 0, .int .u8 0, .int .u64 0] 49
set_option maxRecDepth 100000 in
theorem rh_there (w : World) {c : List Value} (h : Typed hdK c) : (w.alloc objRh).there w.heap.size 0 c.toArray.size := by
  have := there_alloc w #[.int .u32 0, .int .u64 0, .int .u8 0, .int .u8 0, .int .u8 0, .int .u8 0, .int .u8 0, .int .u8 0, .int .u8 0, .int .u8 0, .int .u8 0, .int .u8 0, .int .u8 0, .int .u8 0, .int .u8 0, .int .u8 0, .int .u8 0, .int .u8 0, .int .u8 0, .int .u8 0, .int .u8 0, .int .u8 0, .int .u8 0, .int .u8 0, .int .u8 0, .int .u8 0, .int .u8 0, .int .u8 0, .int .u8 0, .int .u8 0, .int .u8 0, .int .u8 0, .int .u8 0, .int .u8 0, .int .u64 0] 49
  rw [show c.toArray.size = 35 by rw [List.size_toArray, h.length, hdK_len]]
  exact this
theorem rh_laid (w : World) {c : List Value} (h : Typed hdK c) : ((w.alloc objRh).setCells w.heap.size 0 c).rangeAt w.heap.size 0 c :=
  World.rangeAt_setCells_same _ _ _ _ (by have := rh_there w h; rwa [List.size_toArray] at this)
theorem hnew_below (w : World) (o : Obj) (c : List Value) : Below w.heap.size w ((w.alloc o).setCells w.heap.size 0 c) := below_range (Nat.le_refl _) c 0 _ ((Below.refl _ _).alloc (Nat.le_refl _) o)
set_option maxHeartbeats 1000000 in
set_option maxRecDepth 100000 in
/-- The document's: the place of a number. -/
theorem rfind_calls (v f ev : Value) (hs : List (List Value)) (m : Int) (w : World) (hR : Recs hdK w v hs) (hl : hs.length ≤ 1000) :
    Calls Tryd.prog 17 #[.agg #[v, f, ev], .int .u32 m] w fun e w' => e = .returned (.int .i64 (fnd hs m)) ∧ Below w.heap.size w w' := by
  obtain ⟨A, cp, rfl, -⟩ := id hR
  have HR := Lib.hid hR
  have HL : (hs.length : Int) ≤ 1000 := by omega
  clear hR hl
  go_enter Tryd.func17, Tryd.ntmps17
  go_wp2_with fail
  go_loopw [5, 6, 10] (fun _ _ t wr => ∃ k : Nat, t = .int .i64 (k : Int) ∧ k ≤ hs.length ∧ Hid (∀ j, j < k → intAt (hs.getD j []) 0 ≠ m) ∧ Below w.heap.size w wr) (fun _ _ t _ => hs.length - (RowKit.intOf t).toNat)
  case atStart => exact ⟨0, rfl, by omega, Lib.hid (by omega), (Below.refl _ _).alloc (Nat.le_refl _) _⟩
  case round =>
    obtain ⟨k, rfl, hk, HN, hb⟩ := hrel
    by_cases hk1 : k < hs.length
    · have hk1' : (k : Int) < (hs.length : Int) := by omega
      obtain ⟨g, o, rfl, hg, hr, ht⟩ := HR.out.at hdK_pos k hk1
      have hr1 := range_below hr hb hg
      rw [hdK_len] at hr1
      have HH := Lib.hid (fun h1 h2 => fnd_hit hs m k hk1 h1 h2)
      obtain ⟨x, hx⟩ : ∃ x, hs.getD k [] = x := ⟨_, rfl⟩
      rw [hx] at hr1 ht HH
      have HX := Lib.hid hx
      have HTh := Lib.hid (rh_there wr ht)
      have HT := Lib.hid ht
      have HBb := Lib.hid hb
      unfold objRh at HTh
      clear hr hb hx hg ht
      go_upto_region 4 with (first
        | refine wpList_load_mid rfl 49 _ rfl g (o + k * 35) rfl x _ hr1 Tryd.underlying49 rfl (rh_info HT.out) ?_
        | refine wpList_store_mid rfl 49 _ _ rfl wr.heap.size 0 x.toArray rfl rfl HTh.out (rh_info' HT.out) (hd_one HT.out) ?_)
      have c0 := hd_cell (rh_laid wr HT.out) HT.out 0 .u32 (by kernel_rfl)
      have HB2 := Lib.hid (HBb.out.trans ((hnew_below wr objRh x).mono HBb.out.size))
      unfold objRh at c0 HB2
      obtain ⟨W, hW⟩ : ∃ W, (wr.alloc (.cells #[.int .u32 0, .int .u64 0, .int .u8 0, .int .u8 0, .int .u8 0, .int .u8 0, .int .u8 0, .int .u8 0, .int .u8 0, .int .u8 0, .int .u8 0, .int .u8 0, .int .u8 0, .int .u8 0, .int .u8 0, .int .u8 0, .int .u8 0, .int .u8 0, .int .u8 0, .int .u8 0, .int .u8 0, .int .u8 0, .int .u8 0, .int .u8 0, .int .u8 0, .int .u8 0, .int .u8 0, .int .u8 0, .int .u8 0, .int .u8 0, .int .u8 0, .int .u8 0, .int .u8 0, .int .u8 0, .int .u64 0] 49)).setCells wr.heap.size 0 x = W := ⟨_, rfl⟩
      rw [hW] at c0 HB2
      rw [hW]
      clear hW HTh hr1
      cases hq : decide (intAt x 0 = m) with
      | true =>
        have hq2 : (intAt x 0 == m) = true := beq_iff_eq.2 (of_decide_eq_true hq)
        go_wp2_with fail
        go_ret
        exact ⟨by rw [HH.out (of_decide_eq_true hq) HN.out]; rfl, HB2.out⟩
      | false =>
        have hq2 : (intAt x 0 == m) = false := beq_eq_false_iff_ne.2 (of_decide_eq_false hq)
        have HQ := Lib.hid hq
        clear hq
        go_wp2_with fail
        go_roundw
        case rel =>
          refine ⟨k + 1, by go_num, by omega, Lib.hid (fun j hj => ?_), HB2.out⟩
          by_cases e : j = k
          · rw [e, HX.out]
            exact of_decide_eq_false HQ.out
          · exact HN.out j (by omega)
        case measure => simp [RowKit.intOf]; omega
    · obtain rfl : k = hs.length := by omega
      go_wp2_with fail
      go_ret
      exact ⟨by rw [fnd_miss hs m HN.out]; rfl, hb⟩
end Go.Proofs.YthdbhajpjkkehaaDoor

namespace Go.Proofs.YthdbhajpjkkehaaDoor
open Go.RowKit Go.Lib
set_option linter.unusedVariables false
set_option linter.unusedSimpArgs false

set_option maxRecDepth 100000 in
def hdZ : Value := .agg #[.int .u32 0, .int .u64 0, .int .u8 0, .int .u8 0, .int .u8 0, .int .u8 0, .int .u8 0, .int .u8 0, .int .u8 0, .int .u8 0, .int .u8 0, .int .u8 0, .int .u8 0, .int .u8 0, .int .u8 0, .int .u8 0, .int .u8 0, .int .u8 0, .int .u8 0, .int .u8 0, .int .u8 0, .int .u8 0, .int .u8 0, .int .u8 0, .int .u8 0, .int .u8 0, .int .u8 0, .int .u8 0, .int .u8 0, .int .u8 0, .int .u8 0, .int .u8 0, .int .u8 0, .int .u8 0, .int .u64 0]
set_option maxRecDepth 100000 in
theorem hdZ_info : (Tryd.prog.info? 42).map (fun i => (i.zero, i.size, i.bytes)) = some (some hdZ, hdK.length, 56) := by kernel_rfl
set_option maxRecDepth 100000 in
theorem hdZ_size : hdZ.cells.size = hdK.length := by kernel_rfl
theorem heads_nil (a : Option Addr) (n c : Nat) (w : World) : (binOp .eql 59 (.slice a n c) (.slice none 0 0)).run Tryd.prog w = .ok (.bool a.isNone) w := Go.Lib.run_eql_slice_nil w 59 42 a n c 0 0 Tryd.underlying59
theorem ownH_empty (w : World) : OwnR 42 hdK (w.alloc (.cells #[] 42)) w.heap.size (.slice (some ⟨w.heap.size, 0, none⟩) 0 0) [] :=
  ⟨World.ownsRow_made w #[] 0 (Nat.le_refl _) (by unfold maxLen; omega) rfl, by simp⟩
theorem ownH_nil_or {E : TypeId} {K : Kinds} {w : World} {base : Nat} {v : Value} {l : List (List Value)} (h : OwnR E K w base v l) : NilOr v := by
  rcases h.1.2 with ⟨rfl, _⟩ | ⟨g, cap, cur, rfl, _⟩
  · exact .inl rfl
  · exact .inr ⟨_, _, _, rfl⟩
set_option maxHeartbeats 400000 in
set_option maxRecDepth 100000 in
theorem hclone_calls (v : Value) (hs : List (List Value)) (w : World) (h : Recs hdK w v hs) (hnil : NilOr v) (hl : hs.length ≤ 1000) :
    Calls Tryd.prog 26 #[v] w fun e w' => ∃ v', e = .returned v' ∧ OwnR 42 hdK w' w.heap.size v' hs ∧ NilOr v' ∧ Below w.heap.size w w' := by
  rcases hnil with rfl | ⟨ad, n, c, rfl⟩
  · obtain ⟨A', c', e, _⟩ := h
    obtain rfl : hs = [] := List.length_eq_zero_iff.1 (Value.slice.inj e).2.1.symm
    clear e hl
    have heq := fun w => heads_nil none 0 0 w
    go_enter Tryd.func26, Tryd.ntmps26
    go_wp2_with fail
    go_ret
    exact ⟨.slice none 0 0, rfl, OwnR.nil _ _ _ _, .inl rfl, Below.refl _ _⟩
  · have HB := Lib.hid h
    have HLn := Lib.hid hl
    clear h hl
    have HE := Lib.hid (ownH_empty w)
    have Q0 := Lib.hid (show Below w.heap.size w (w.alloc (.cells #[] 42)) from (Below.refl _ _).alloc (Nat.le_refl _) _)
    have heq := fun w => heads_nil (some ad) n c w
    go_enter Tryd.func26, Tryd.ntmps26
    go_wp2_with (at_builtin; refine wpList_app_any rfl _ _ 59 42 hdK hdZ 56 rfl Tryd.underlying59 hdZ_info hdZ_size hdK_pos (by decide) w.heap.size _ [] hs rfl HE.out _ rfl (HB.out.below hdK_pos Q0.out) (.inr ⟨_, _, _, rfl⟩) (by simp) (by have := HLn.out; omega) (by simp) ?_)
    intro v' w' h1 h4
    go_wp2_with fail
    go_ret
    exact ⟨v', rfl, h1, ownH_nil_or h1, Q0.out.trans (h4.mono (by simp))⟩
set_option maxHeartbeats 400000 in
set_option maxRecDepth 100000 in
theorem heads_calls (c : Nat) (v : Value) (hs : List (List Value)) (w : World) (h0 : w.cell? ⟨c, 0, none⟩ = some v) (h : Recs hdK w v hs) (hnil : NilOr v) (hl : hs.length ≤ 1000) :
    Calls Tryd.prog 13 #[.pointer (some ⟨c, 0, none⟩)] w fun e w' => ∃ v', e = .returned v' ∧ OwnR 42 hdK w' w.heap.size v' hs ∧ NilOr v' ∧ Below w.heap.size w w' := by
  have HC := Lib.hid (hclone_calls v hs w h hnil hl)
  obtain ⟨A, cp, rfl, -⟩ := id h
  clear h hnil hl
  go_enter Tryd.func13, Tryd.ntmps13
  go_wp2_with (go_at_call 26; refine HC.out.mono ?_; rintro e w2 ⟨v', rfl, u1, u2, u3⟩)
  go_ret
  exact ⟨v', rfl, u1, u2, u3⟩
end Go.Proofs.YthdbhajpjkkehaaDoor

namespace Go.Proofs.YthdbhajpjkkehaaDoor
open Go.RowKit Go.Lib
set_option linter.unusedVariables false
set_option linter.unusedSimpArgs false

/-- A client's own cells. -/
def clF (v : Value) (n : Nat) (mp : Value) (i : Nat) : Value := if i = 0 then v else if i = 1 then .int .i64 (n : Int) else mp
def ClAt (w : World) (c : Nat) (v : Value) (n : Nat) (mp : Value) : Prop := w.rowIs c 64 3 (clF v n mp)
theorem ClAt.cells {w : World} {c n : Nat} {v mp : Value} (h : ClAt w c v n mp) : w.cell? ⟨c, 0, none⟩ = some v ∧ w.cell? ⟨c, 1, none⟩ = some (.int .i64 (n : Int)) ∧ w.cell? ⟨c, 2, none⟩ = some mp :=
  ⟨World.rowIs.cell h (i := 0) (by omega), World.rowIs.cell h (i := 1) (by omega), World.rowIs.cell h (i := 2) (by omega)⟩
theorem ClAt.set_n {w : World} {c n : Nat} {v mp : Value} (h : ClAt w c v n mp) (k : Nat) : ClAt (w.setCell ⟨c, 1, none⟩ (.int .i64 (k : Int))) c v k mp :=
  (World.rowIs.set h 1 _).congr fun i hi => by
    unfold clF
    by_cases e : i = 1
    · subst e; rfl
    · rw [if_neg e, if_neg e, if_neg e]
theorem ClAt.set_v {w : World} {c n : Nat} {v mp : Value} (h : ClAt w c v n mp) (u : Value) : ClAt (w.setCell ⟨c, 0, none⟩ u) c u n mp :=
  (World.rowIs.set h 0 _).congr fun i hi => by
    unfold clF
    by_cases e : i = 0
    · subst e; rfl
    · rw [if_neg e, if_neg e, if_neg e]
theorem set_only (w : World) (c o : Nat) (u : Value) : Below c w (w.setCell ⟨c, o, none⟩ u) ∧ ∀ k, k ≠ c → (w.setCell ⟨c, o, none⟩ u).heap[k]? = w.heap[k]? := by
  have hb : ∀ k, k ≠ c → (w.setCell ⟨c, o, none⟩ u).heap[k]? = w.heap[k]? := fun k hk => by simp [World.setCell, Array.getElem?_modify, Ne.symm hk]
  exact ⟨⟨rfl, rfl, rfl, by simp [World.setCell], fun k hk => hb k (by omega)⟩, hb⟩
def finE (hs : List (List Value)) (n : Nat) (m : Int) : Int := if n = hs.length then 10 else if intAt (hs.getD n []) 0 = m then 0 else 11
set_option maxHeartbeats 1000000 in
set_option maxRecDepth 100000 in
theorem finalize_no (c n : Nat) (v mp : Value) (hs : List (List Value)) (m : Int) (w : World) (h : ClAt w c v n mp) (hR : Recs hdK w v hs) (hn : n ≤ hs.length) (hl : hs.length ≤ 1000) (hm : n = hs.length ∨ intAt (hs.getD n []) 0 ≠ m) :
    Calls Tryd.prog 20 #[.pointer (some ⟨c, 0, none⟩), .int .u32 m] w fun e w' => e = .returned (.int .i64 (finE hs n m)) ∧ Below w.heap.size w w' := by
  obtain ⟨h0, h1, h2⟩ := h.cells
  have HR := Lib.hid hR
  obtain ⟨A, cp, rfl, -⟩ := id hR
  clear hR
  by_cases he : n = hs.length
  · subst he
    have HE : Hid (finE hs hs.length m = 10) := Lib.hid (by simp [finE])
    clear hm
    rw [HE.out]
    go_enter Tryd.func20, Tryd.ntmps20
    go_upto_region 1 with fail
    refine region_still (by kernel_rfl) (by kernel_rfl) ?_
    iterate 11 still_step
    refine wpStill_nil ?_
    go_wp2_with fail
    go_ret
    exact ⟨rfl, ⟨rfl, rfl, rfl, Nat.le_refl _, fun _ _ => rfl⟩⟩
  · have hm' : intAt (hs.getD n []) 0 ≠ m := by rcases hm with h | h; exact absurd h he; exact h
    have HE : Hid (finE hs n m = 11) := Lib.hid (by simp only [finE, if_neg he, if_neg hm'])
    have hlt : n < hs.length := by omega
    obtain ⟨g, o, rfl, hg, hr, ht⟩ := HR.out.at hdK_pos n hlt
    rw [hdK_len] at hr
    have q1 : w.cell? ⟨g, o + n * 35, none⟩ = some (.int .u32 (intAt (hs.getD n []) 0)) := by
      have := hr 0 _ (ht.at 0 .u32 (by kernel_rfl)).1
      rwa [Nat.add_zero] at this
    have hi1 : (n : Int) < (hs.length : Int) := by omega
    have hb1 : ((n : Int) == (hs.length : Int)) = false := beq_eq_false_iff_ne.2 (by omega)
    have hb2 : (intAt (hs.getD n []) 0 != m) = true := bne_iff_ne.2 hm'
    obtain ⟨a, ha⟩ : ∃ a, intAt (hs.getD n []) 0 = a := ⟨_, rfl⟩
    rw [ha] at q1 hb2
    rw [HE.out]
    clear hr ht hm hm' he ha HE hg hn
    go_enter Tryd.func20, Tryd.ntmps20
    go_upto_region 1 with fail
    refine region_still (by kernel_rfl) (by kernel_rfl) ?_
    iterate 11 still_step
    refine wpStill_nil ?_
    go_upto_region 3 with fail
    refine region_still (by kernel_rfl) (by kernel_rfl) ?_
    iterate 14 still_step
    refine wpStill_nil ?_
    go_wp2_with fail
    go_ret
    exact ⟨rfl, ⟨rfl, rfl, rfl, Nat.le_refl _, fun _ _ => rfl⟩⟩
set_option maxHeartbeats 1000000 in
set_option maxRecDepth 100000 in
theorem finalize_yes (c n : Nat) (v mp : Value) (hs : List (List Value)) (m : Int) (w : World) (h : ClAt w c v n mp) (hR : Recs hdK w v hs) (hlt : n < hs.length) (hl : hs.length ≤ 1000) (hm : intAt (hs.getD n []) 0 = m) :
    Calls Tryd.prog 20 #[.pointer (some ⟨c, 0, none⟩), .int .u32 m] w fun e w' => e = .returned (.int .i64 0) ∧ ClAt w' c v (n + 1) mp ∧ Below c w w' ∧ ∀ k, k ≠ c → w'.heap[k]? = w.heap[k]? := by
  obtain ⟨h0, h1, h2⟩ := h.cells
  have hf := World.rowIs.frozen h 1
  have HCl := Lib.hid (h.set_n (n + 1))
  clear h
  obtain ⟨A, cp, rfl, -⟩ := id hR
  obtain ⟨g, o, rfl, hg, hr, ht⟩ := hR.at hdK_pos n hlt
  rw [hdK_len] at hr
  have q1 : w.cell? ⟨g, o + n * 35, none⟩ = some (.int .u32 m) := by
    have := hr 0 _ (ht.at 0 .u32 (by kernel_rfl)).1
    rw [Nat.add_zero, hm] at this
    exact this
  have hi1 : (n : Int) < (hs.length : Int) := by omega
  have hi2 : (hs.length : Int) ≤ 1000 := by omega
  have hb1 : ((n : Int) == (hs.length : Int)) = false := beq_eq_false_iff_ne.2 (by omega)
  have hb2 : (m != m) = false := by simp
  clear hr ht hm hg hR
  go_enter Tryd.func20, Tryd.ntmps20
  go_upto_region 1 with fail
  refine region_still (by kernel_rfl) (by kernel_rfl) ?_
  iterate 11 still_step
  refine wpStill_nil ?_
  go_upto_region 3 with fail
  refine region_still (by kernel_rfl) (by kernel_rfl) ?_
  iterate 14 still_step
  refine wpStill_nil ?_
  go_wp2_with fail
  go_ret
  have hso := set_only w c 1 (.int .i64 ((n : Int) + 1))
  exact ⟨rfl, HCl.out, ⟨hso.1.os, hso.1.tape, hso.1.output, hso.1.size, hso.1.block⟩, hso.2⟩
end Go.Proofs.YthdbhajpjkkehaaDoor
