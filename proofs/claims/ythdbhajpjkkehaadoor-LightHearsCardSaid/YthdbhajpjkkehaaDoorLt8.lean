/- The light client: one more head. -/
import Derived.Test.YthdbhajpjkkehaaDoorGo
namespace Go.Proofs.YthdbhajpjkkehaaDoor
open Go.RowKit Go.Lib
set_option linter.unusedVariables false
set_option linter.unusedSimpArgs false

set_option maxRecDepth 100000 in
/-- A new variable for one of the client's heads. -/
def objHd : Obj := .cells #[.int .u32 0, .int .u64 0, .int .u8 0, .int .u8 0, .int .u8 0, .int .u8 0, .int .u8 0, .int .u8 0, .int .u8 0, .int .u8 0, .int .u8 0, .int .u8 0, .int .u8 0, .int .u8 0, .int .u8 0, .int .u8 0, .int .u8 0, .int .u8 0, .int .u8 0, .int .u8 0, .int .u8 0, .int .u8 0, .int .u8 0, .int .u8 0, .int .u8 0, .int .u8 0, .int .u8 0, .int .u8 0, .int .u8 0, .int .u8 0, .int .u8 0, .int .u8 0, .int .u8 0, .int .u8 0, .int .u64 0] 42
set_option maxRecDepth 100000 in
theorem hd_there (w : World) {c : List Value} (h : Typed hdK c) : (w.alloc objHd).there w.heap.size 0 c.toArray.size := by
  have := there_alloc w #[.int .u32 0, .int .u64 0, .int .u8 0, .int .u8 0, .int .u8 0, .int .u8 0, .int .u8 0, .int .u8 0, .int .u8 0, .int .u8 0, .int .u8 0, .int .u8 0, .int .u8 0, .int .u8 0, .int .u8 0, .int .u8 0, .int .u8 0, .int .u8 0, .int .u8 0, .int .u8 0, .int .u8 0, .int .u8 0, .int .u8 0, .int .u8 0, .int .u8 0, .int .u8 0, .int .u8 0, .int .u8 0, .int .u8 0, .int .u8 0, .int .u8 0, .int .u8 0, .int .u8 0, .int .u8 0, .int .u64 0] 42
  rw [show c.toArray.size = 35 by rw [List.size_toArray, h.length, hdK_len]]
  exact this
theorem hd_laid (w : World) {c : List Value} (h : Typed hdK c) : ((w.alloc objHd).setCells w.heap.size 0 c).rangeAt w.heap.size 0 c :=
  World.rangeAt_setCells_same _ _ _ _ (by have := hd_there w h; rwa [List.size_toArray] at this)
theorem box2 (w : World) (T U : TypeId) (ev h : List Value) : ((w.alloc (.cells ev.toArray T)).alloc (.cells h.toArray U)).rangeAt w.heap.size 0 ev ∧ ((w.alloc (.cells ev.toArray T)).alloc (.cells h.toArray U)).rangeAt (w.heap.size + 1) 0 h ∧ Below w.heap.size w ((w.alloc (.cells ev.toArray T)).alloc (.cells h.toArray U)) ∧ ((w.alloc (.cells ev.toArray T)).alloc (.cells h.toArray U)).heap.size = w.heap.size + 2 := by
  have hs : (w.alloc (.cells ev.toArray T)).heap.size = w.heap.size + 1 := by simp
  refine ⟨range_below (range_alloc w ev.toArray T) ((Below.refl (w.heap.size + 1) _).alloc (by simp) _) (Nat.lt_succ_self _), ?_, ((Below.refl _ _).alloc (Nat.le_refl _) _).alloc (by simp) _, by simp⟩
  have := range_alloc (w.alloc (.cells ev.toArray T)) h.toArray U
  rw [hs] at this
  exact this
/-- All blocks but one's own stay. -/
def KeepBut (ow : Option Nat) (U w : World) : Prop := ∀ k, k < U.heap.size → ow ≠ some k → w.heap[k]? = U.heap[k]?
theorem KeepBut.alloc {ow : Option Nat} {U w : World} (h : KeepBut ow U w) (o : Obj) (hs : U.heap.size ≤ w.heap.size := by exact Nat.le_refl _) : KeepBut ow U (w.alloc o) := fun k hk hn => by
  have : (w.alloc o).heap[k]? = w.heap[k]? := ((Below.refl w.heap.size w).alloc (Nat.le_refl _) o).block k (by omega)
  rw [this, h k hk hn]
theorem cell_of_block {w w' : World} {p : Addr} (h : w'.heap[p.block]? = w.heap[p.block]?) : w'.cell? p = w.cell? p := by
  unfold World.cell?
  rw [h]
theorem range_of_block {w w' : World} {g o : Nat} {cs : List Value} (h : w.rangeAt g o cs) (hb : w'.heap[g]? = w.heap[g]?) : w'.rangeAt g o cs :=
  fun j v hv => (cell_of_block (p := ⟨g, o + j, none⟩) hb).trans (h j v hv)
theorem recs_one {K : Kinds} (w : World) (E : TypeId) {x : List Value} (hx : Typed K x) : Recs K (w.alloc (.cells x.toArray E)) (.slice (some ⟨w.heap.size, 0, none⟩) 1 1) [x] :=
  ⟨_, 1, rfl, Nat.le_refl _, by unfold maxLen; omega, by simpa using hx, .inr ⟨_, _, rfl, fun i hi => by
    obtain rfl : i = 0 := by simpa using hi
    rw [Nat.zero_mul]
    exact range_alloc w x.toArray E⟩⟩
/-- The answer to one more head. -/
def pst (hs : List (List Value)) (ev h : List Value) : Int :=
  if intAt h 0 = intAt ev 46 ∧ intAt h 34 = intAt ev 1 then
    if hs.length = 0 then 0 else if intAt h 0 ≤ intAt (hs.getD (hs.length - 1) []) 0 ∨ intAt h 1 < intAt (hs.getD (hs.length - 1) []) 1 ∨ intAt h 34 < intAt (hs.getD (hs.length - 1) []) 34 then 11 else 0
  else 1

set_option maxHeartbeats 1000000 in
set_option maxRecDepth 100000 in
theorem post_no (c n : Nat) (v mp : Value) (hs : List (List Value)) (ev h : List Value) (w : World) (hC : ClAt w c v n mp) (hR : Recs hdK w v hs) (hl : hs.length ≤ 1000) (he : Typed evK ev) (hh : Typed hdK h) (r : Int) (hp : pst hs ev h = r) (hr0 : r ≠ 0) :
    Calls Tryd.prog 18 #[.pointer (some ⟨c, 0, none⟩), .agg ev.toArray, .agg h.toArray] w fun e w' => e = .returned (.int .i64 r) ∧ Below w.heap.size w w' := by
  have HC := Lib.hid hC
  have HR := Lib.hid hR
  have HTh := Lib.hid hh
  have hlen : (hs.length : Int) ≤ 1000 := by omega
  obtain ⟨A, cp, rfl, -⟩ := id hR
  obtain ⟨hE, hH, hb, hsz⟩ := box2 w 40 42 ev h
  have e1 := ev_cell hE he 1 .u64 (by kernel_rfl)
  have e46 := ev_cell hE he 46 .u32 (by kernel_rfl)
  have g0 := hd_cell hH hh 0 .u32 (by kernel_rfl)
  have g1 := hd_cell hH hh 1 .u64 (by kernel_rfl)
  have g34 := hd_cell hH hh 34 .u64 (by kernel_rfl)
  have hcl := World.rowIs.lt hC
  have hC2 : ClAt ((w.alloc (.cells ev.toArray 40)).alloc (.cells h.toArray 42)) c (.slice A hs.length cp) n mp := World.rowIs.of_block hC (hb.block c hcl)
  have cc := hC2.cells.1
  have HC2 := Lib.hid hC2
  have HB := Lib.hid hb
  have HHr := Lib.hid hH
  have HSz := Lib.hid hsz
  have HR2 := Lib.hid (hR.below hdK_pos hb)
  obtain ⟨W, hW⟩ : ∃ W, (w.alloc (.cells ev.toArray 40)).alloc (.cells h.toArray 42) = W := ⟨_, rfl⟩
  rw [hW] at e1 e46 g0 g1 g34 cc HB HC2 HHr HSz HR2
  obtain ⟨a0, ha0⟩ : ∃ a, intAt h 0 = a := ⟨_, rfl⟩
  obtain ⟨a1, ha1⟩ : ∃ a, intAt h 1 = a := ⟨_, rfl⟩
  obtain ⟨a34, ha34⟩ : ∃ a, intAt h 34 = a := ⟨_, rfl⟩
  obtain ⟨b46, hb46⟩ : ∃ a, intAt ev 46 = a := ⟨_, rfl⟩
  obtain ⟨b1, hb1⟩ : ∃ a, intAt ev 1 = a := ⟨_, rfl⟩
  rw [ha0] at g0
  rw [ha1] at g1
  rw [ha34] at g34
  rw [hb46] at e46
  rw [hb1] at e1
  unfold pst at hp
  rw [ha0, ha1, ha34, hb46, hb1] at hp

  clear hC hR hE hH hb hsz hC2 hcl he hh ha0 ha1 ha34 hb46 hb1 hl
  by_cases q1 : a0 = b46
  · by_cases q2 : a34 = b1
    · rw [if_pos ⟨q1, q2⟩] at hp
      have hb1 : (a0 != b46) = false := by rw [q1]; simp
      have hb2 : (a34 != b1) = false := by rw [q2]; simp
      by_cases q3 : hs.length = 0
      · rw [if_pos q3] at hp; exact absurd hp.symm hr0
      rw [if_neg q3] at hp
      obtain ⟨k, hk⟩ : ∃ k, hs.length = k + 1 := ⟨hs.length - 1, by omega⟩
      obtain ⟨g, o, rfl, hg, hr, ht⟩ := HR2.out.at hdK_pos k (by omega)
      rw [hdK_len] at hr
      rw [hk, show k + 1 - 1 = k by omega] at hp
      obtain ⟨x, hx⟩ : ∃ x, hs.getD k [] = x := ⟨_, rfl⟩
      rw [hx] at hr ht hp
      have HX := Lib.hid ht
      have HXT := Lib.hid (hd_there W ht)
      have HXI := Lib.hid (hd_info ht)
      have HXI' := Lib.hid (hd_info' ht)
      have HX1 := Lib.hid (hd_one ht)
      unfold objHd at HXT
      have hlt1 : (k : Int) < (hs.length : Int) := by omega
      have hpos : (0 : Int) < (hs.length : Int) := by omega
      have hsub : IntKind.i64.wrap ((hs.length : Int) - 1) = (k : Int) := by
        rw [IntWalk.i64_in _ (by omega)]
        omega

      have hor : a0 ≤ intAt x 0 ∨ a1 < intAt x 1 ∨ a34 < intAt x 34 := by
        by_cases hq : a0 ≤ intAt x 0 ∨ a1 < intAt x 1 ∨ a34 < intAt x 34
        · exact hq
        · rw [if_neg hq] at hp; exact absurd hp.symm hr0
      rw [if_pos hor] at hp
      subst hp
      clear hr0 q1 q2 q3 ht hx
      go_enter Tryd.func18, Tryd.ntmps18
      go_upto_region 1 with fail
      clear hW
      go_upto_region 6 with (first
        | refine wpList_load_mid rfl 42 _ rfl g (o + k * 35) rfl x _ hr Tryd.underlying42 rfl HXI.out ?_
        | refine wpList_store_mid rfl 42 _ _ rfl W.heap.size 0 x.toArray rfl rfl HXT.out HXI'.out HX1.out ?_)
      have hL := hd_laid W HX.out
      have hbn := hnew_below W objHd x
      have l0 := hd_cell hL HX.out 0 .u32 (by kernel_rfl)
      have l1 := hd_cell hL HX.out 1 .u64 (by kernel_rfl)
      have l34 := hd_cell hL HX.out 34 .u64 (by kernel_rfl)
      have hszW := HSz.out
      have k0 := (hbn.cell (p := ⟨w.heap.size + 1, 0, none⟩) (by show w.heap.size + 1 < W.heap.size; omega)).trans g0
      have k1 := (hbn.cell (p := ⟨w.heap.size + 1, 1, none⟩) (by show w.heap.size + 1 < W.heap.size; omega)).trans g1
      have k34 := (hbn.cell (p := ⟨w.heap.size + 1, 34, none⟩) (by show w.heap.size + 1 < W.heap.size; omega)).trans g34
      have HB3 := Lib.hid (HB.out.trans (hbn.mono HB.out.size))
      have HBn := Lib.hid hbn
      have HL := Lib.hid hL
      obtain ⟨x0, hx0⟩ : ∃ a, intAt x 0 = a := ⟨_, rfl⟩
      obtain ⟨x1, hx1⟩ : ∃ a, intAt x 1 = a := ⟨_, rfl⟩
      obtain ⟨x34, hx34⟩ : ∃ a, intAt x 34 = a := ⟨_, rfl⟩
      rw [hx0] at hor l0
      rw [hx1] at hor l1
      rw [hx34] at hor l34
      clear hx0 hx1 hx34
      clear hL hbn hszW
      obtain ⟨W3, hW3⟩ : ∃ W3, (W.alloc objHd).setCells W.heap.size 0 x = W3 := ⟨_, rfl⟩
      rw [hW3] at l0 l1 l34 k0 k1 k34 HB3 HBn HL
      unfold objHd at hW3
      rw [hW3]
      clear hW3 g0 g1 g34 e1 e46 hr
      by_cases h1 : a0 ≤ x0
      · go_wp2_with fail
        go_ret
        exact ⟨rfl, HB3.out⟩
      · by_cases h2 : a1 < x1
        · go_wp2_with fail
          go_ret
          exact ⟨rfl, HB3.out⟩
        · have h3 : a34 < x34 := by
            rcases hor with hq | hq | hq
            · exact absurd hq h1
            · exact absurd hq h2
            · exact hq
          go_wp2_with fail
          go_ret
          exact ⟨rfl, HB3.out⟩
    · rw [if_neg (fun hq => q2 hq.2)] at hp
      subst hp
      have hb1 : (a0 != b46) = false := by rw [q1]; simp
      have hb2 : (a34 != b1) = true := bne_iff_ne.2 q2
      clear q1 q2 hr0
      go_enter Tryd.func18, Tryd.ntmps18
      go_upto_region 1 with fail
      clear hW
      go_wp2_with fail
      go_ret
      exact ⟨rfl, HB.out⟩
  · rw [if_neg (fun hq => q1 hq.1)] at hp
    subst hp
    have hb1 : (a0 != b46) = true := bne_iff_ne.2 q1
    clear q1 hr0
    go_enter Tryd.func18, Tryd.ntmps18
    go_upto_region 1 with fail
    clear hW
    go_wp2_with fail
    go_ret
    exact ⟨rfl, HB.out⟩

set_option maxHeartbeats 1000000 in
set_option maxRecDepth 100000 in
theorem post_yes (c n : Nat) (v mp : Value) (hs : List (List Value)) (ev h : List Value) (w : World) (hC : ClAt w c v n mp) (hR : Recs hdK w v hs) (hl : hs.length ≤ 1000) (he : Typed evK ev) (hh : Typed hdK h) (base : Nat) (hO : OwnR 42 hdK w base v hs) (hbase : base ≤ w.heap.size) (hcv : v.ownBlock ≠ some c) (hp : pst hs ev h = 0) :
    Calls Tryd.prog 18 #[.pointer (some ⟨c, 0, none⟩), .agg ev.toArray, .agg h.toArray] w fun e w' => e = .returned (.int .i64 0) ∧ ∃ v', ClAt w' c v' n mp ∧ OwnR 42 hdK w' base v' (hs ++ [h]) ∧ (v'.ownBlock = v.ownBlock ∨ ∀ k, v'.ownBlock = some k → w.heap.size ≤ k) ∧ Only (fun k => k = c ∨ v.ownBlock = some k) w w' := by
  have HO := Lib.hid hO
  have HClt := Lib.hid (World.rowIs.lt hC)
  have HC := Lib.hid hC
  have HR := Lib.hid hR
  have HTh := Lib.hid hh
  have hlen : (hs.length : Int) ≤ 1000 := by omega
  obtain ⟨A, cp, rfl, -⟩ := id hR
  obtain ⟨hE, hH, hb, hsz⟩ := box2 w 40 42 ev h
  have e1 := ev_cell hE he 1 .u64 (by kernel_rfl)
  have e46 := ev_cell hE he 46 .u32 (by kernel_rfl)
  have g0 := hd_cell hH hh 0 .u32 (by kernel_rfl)
  have g1 := hd_cell hH hh 1 .u64 (by kernel_rfl)
  have g34 := hd_cell hH hh 34 .u64 (by kernel_rfl)
  have hcl := World.rowIs.lt hC
  have hC2 : ClAt ((w.alloc (.cells ev.toArray 40)).alloc (.cells h.toArray 42)) c (.slice A hs.length cp) n mp := World.rowIs.of_block hC (hb.block c hcl)
  have cc := hC2.cells.1
  have HC2 := Lib.hid hC2
  have HB := Lib.hid hb
  have HHr := Lib.hid hH
  have HSz := Lib.hid hsz
  have HR2 := Lib.hid (hR.below hdK_pos hb)
  obtain ⟨W, hW⟩ : ∃ W, (w.alloc (.cells ev.toArray 40)).alloc (.cells h.toArray 42) = W := ⟨_, rfl⟩
  rw [hW] at e1 e46 g0 g1 g34 cc HB HC2 HHr HSz HR2
  obtain ⟨a0, ha0⟩ : ∃ a, intAt h 0 = a := ⟨_, rfl⟩
  obtain ⟨a1, ha1⟩ : ∃ a, intAt h 1 = a := ⟨_, rfl⟩
  obtain ⟨a34, ha34⟩ : ∃ a, intAt h 34 = a := ⟨_, rfl⟩
  obtain ⟨b46, hb46⟩ : ∃ a, intAt ev 46 = a := ⟨_, rfl⟩
  obtain ⟨b1, hb1⟩ : ∃ a, intAt ev 1 = a := ⟨_, rfl⟩
  rw [ha0] at g0
  rw [ha1] at g1
  rw [ha34] at g34
  rw [hb46] at e46
  rw [hb1] at e1
  unfold pst at hp
  rw [ha0, ha1, ha34, hb46, hb1] at hp

  have HCv := Lib.hid hcv
  have Hbase := Lib.hid hbase
  clear hO hcv hbase
  clear hC hR hE hH hb hsz hC2 hcl he hh ha0 ha1 ha34 hb46 hb1 hl
  by_cases q1 : a0 = b46
  · by_cases q2 : a34 = b1
    · rw [if_pos ⟨q1, q2⟩] at hp
      have hb1 : (a0 != b46) = false := by rw [q1]; simp
      have hb2 : (a34 != b1) = false := by rw [q2]; simp
      by_cases q3 : hs.length = 0
      · have hz : ¬ (0 : Int) < (hs.length : Int) := by omega
        clear hp q1 q2 q3
        go_enter Tryd.func18, Tryd.ntmps18
        go_upto_region 1 with fail
        clear hW
        go_upto_region 8 with fail
        have HBU := HB
        have cu := cc
        have HHu := HHr
        have HCu := HC2
        have HUs : Hid (w.heap.size + 1 < W.heap.size) := Lib.hid (by have := HSz.out; omega)
        have hU0 : KeepBut (Value.slice A hs.length cp).ownBlock W W.drew := fun k hk hn => rfl
        have huc : c < W.heap.size := Nat.lt_of_lt_of_le HClt.out HBU.out.size
        have huh : w.heap.size + 1 < W.heap.size := HUs.out
        have hnh : (Value.slice A hs.length cp).ownBlock ≠ some (w.heap.size + 1) := fun e => by have := (OwnR.lt HO.out _ e).2; omega
        have HO1 := Lib.hid (OwnR.later HO.out HBU.out)
        refine region_G 10 (KeepBut (Value.slice A hs.length cp).ownBlock W) (by kernel_rfl) hU0 (fun h0 => ?_)
        refine wpAnyG_take 0 _ (.pointer (some ⟨c, 0, none⟩)) rfl (by kernel_rfl) (by kernel_rfl) (by kernel_rfl) (by kernel_rfl) (fun _ _ _ h => h) h0 (.inl ⟨by rfl, fun w hS => by rfl⟩) ?_
        try simp only [List.getElem_toArray, List.getElem_cons_zero, List.getElem_cons_succ, Act.put, List.setIfInBounds_toArray, List.set_cons_zero, List.set_cons_succ]
        refine wpAnyG_take 1 _ (.pointer (some ⟨c, 0, none⟩)) rfl (by kernel_rfl) (by kernel_rfl) (by kernel_rfl) (by kernel_rfl) (fun _ _ _ h => h) h0 (.inl ⟨by rfl, fun w hS => by rfl⟩) ?_
        try simp only [List.getElem_toArray, List.getElem_cons_zero, List.getElem_cons_succ, Act.put, List.setIfInBounds_toArray, List.set_cons_zero, List.set_cons_succ]
        refine wpAnyG_take 2 _ (.pointer (some ⟨c, 0, none⟩)) rfl (by kernel_rfl) (by kernel_rfl) (by kernel_rfl) (by kernel_rfl) (fun _ _ _ h => h) h0 (.inl ⟨by rfl, fun w hS => by rfl⟩) ?_
        try simp only [List.getElem_toArray, List.getElem_cons_zero, List.getElem_cons_succ, Act.put, List.setIfInBounds_toArray, List.set_cons_zero, List.set_cons_succ]
        refine wpAnyG_take 3 _ (.pointer (some ⟨c, 0, none⟩)) rfl (by kernel_rfl) (by kernel_rfl) (by kernel_rfl) (by kernel_rfl) (fun _ _ _ h => h) h0 (.inl ⟨by rfl, fun w hS => by rfl⟩) ?_
        try simp only [List.getElem_toArray, List.getElem_cons_zero, List.getElem_cons_succ, Act.put, List.setIfInBounds_toArray, List.set_cons_zero, List.set_cons_succ]
        refine wpAnyG_take 4 _ (.slice A hs.length cp) rfl (by kernel_rfl) (by kernel_rfl) (by kernel_rfl) (by kernel_rfl) (fun _ _ _ h => h) h0 (.inl ⟨by rfl, fun w hS => by have hc := (cell_of_block (p := ⟨c, 0, none⟩) (hS c huc HCv.out)).trans cu; go_simp⟩) ?_
        try simp only [List.getElem_toArray, List.getElem_cons_zero, List.getElem_cons_succ, Act.put, List.setIfInBounds_toArray, List.set_cons_zero, List.set_cons_succ]
        refine wpAnyG_take 5 _ (.agg h.toArray) rfl (by kernel_rfl) (by kernel_rfl) (by kernel_rfl) (by kernel_rfl) (fun _ _ _ h => h) h0 (yieldsIf_load_mid (by rfl) 42 _ rfl (w.heap.size + 1) 0 rfl h _ (fun w hS => range_of_block HHu.out (hS _ huh hnh)) Tryd.underlying42 rfl (hd_info HTh.out)) ?_
        try simp only [List.getElem_toArray, List.getElem_cons_zero, List.getElem_cons_succ, Act.put, List.setIfInBounds_toArray, List.set_cons_zero, List.set_cons_succ]
        refine wpAnyG_ready [6] (by kernel_rfl) (by simp) ?_
        refine AllReadyG.cons 6 _ rfl (fun K' hK => ?_) AllReadyG.nil
        refine step_build1 rfl 59 42 (.tmp 60) rfl h rfl hdK HTh.out hdZ 56 Tryd.underlying59 hdZ_info hdK_pos (by decide) ?_
        refine hK.out _ _ (fun _ => KeepBut.alloc h0 _) ?_
        clear hK K'
        try simp only [List.getElem_toArray, List.getElem_cons_zero, List.getElem_cons_succ, Act.put, List.setIfInBounds_toArray, List.set_cons_zero, List.set_cons_succ]
        have h1 : KeepBut (Value.slice A hs.length cp).ownBlock W (W.drew.alloc (.cells h.toArray 42)) := KeepBut.alloc h0 _
        have HR1 := Lib.hid (recs_one W.drew 42 HTh.out)
        have HB1 : Hid (Below W.heap.size W (W.drew.alloc (.cells h.toArray 42))) := Lib.hid (((Below.refl _ _).drew).alloc (Nat.le_refl _) _)
        have HO2 := Lib.hid (OwnR.later HO1.out HB1.out)
        have hsU : W.drew.heap.size = W.heap.size := rfl
        have HBs : Hid (base ≤ (W.drew.alloc (.cells h.toArray 42)).heap.size) := Lib.hid (Nat.le_trans (Nat.le_trans Hbase.out HBU.out.size) HB1.out.size)
        obtain ⟨U1, hU1⟩ : ∃ U1, W.drew.alloc (.cells h.toArray 42) = U1 := ⟨_, rfl⟩
        rw [hU1] at h1 HR1 HB1 HO2 HBs
        rw [hU1]
        clear hU1
        refine wpAnyG_ready [7] (by kernel_rfl) (by simp) ?_
        refine AllReadyG.cons 7 _ rfl (fun K' hK => ?_) AllReadyG.nil
        refine step_app_rec rfl (.tmp 59) (.tmp 61) 59 42 hdK hdZ 56 Tryd.underlying59 hdZ_info hdZ_size hdK_pos (by decide) rfl base _ hs [h] rfl HO2.out _ rfl HR1.out (.inr ⟨_, _, _, rfl⟩) (by omega) (by simp) HBs.out ?_
        intro A2 c2 U2 o1 o2 o3 o4
        have h2 : KeepBut (Value.slice A hs.length cp).ownBlock W U2 := fun k hk hn => (o2.block k (Nat.lt_of_lt_of_le hk HB1.out.size) (Ne.symm hn)).trans (h1 k hk hn)
        refine hK.out _ _ (fun _ => h2) ?_
        clear hK K'
        try simp only [List.getElem_toArray, List.getElem_cons_zero, List.getElem_cons_succ, Act.put, List.setIfInBounds_toArray, List.set_cons_zero, List.set_cons_succ]
        have HP1 := Lib.hid o1
        have HP2 := Lib.hid o2
        have HP3 := Lib.hid o3
        clear o1 o2 o3 o4
        refine wpAnyG_ready [8] (by kernel_rfl) (by simp) ?_
        refine AllReadyG.cons 8 _ rfl (fun K' hK => ?_) AllReadyG.nil
        go_simp
        refine hK.out _ _ (fun _ => h2) ?_
        clear hK K'
        try simp only [List.getElem_toArray, List.getElem_cons_zero, List.getElem_cons_succ, Act.put, List.setIfInBounds_toArray, List.set_cons_zero, List.set_cons_succ]
        refine wpAnyG_take 9 _ (.pointer (some ⟨c, 0, none⟩)) rfl (by kernel_rfl) (by kernel_rfl) (by kernel_rfl) (by kernel_rfl) (fun _ _ _ h => h) h2 (.inl ⟨by rfl, fun w hS => by rfl⟩) ?_
        try simp only [List.getElem_toArray, List.getElem_cons_zero, List.getElem_cons_succ, Act.put, List.setIfInBounds_toArray, List.set_cons_zero, List.set_cons_succ]
        have hC9 : ClAt U2 c (.slice A hs.length cp) n mp := World.rowIs.of_block HCu.out (h2 c huc HCv.out)
        have hc9 := hC9.cells.1
        have hf9 := World.rowIs.frozen hC9 0
        have HC9 := Lib.hid hC9
        clear hC9
        refine wpAnyG_ready [10] (by kernel_rfl) (by simp) ?_
        refine AllReadyG.cons 10 _ rfl (fun K' hK => ?_) AllReadyG.nil
        go_simp
        refine hK.out _ _ (fun h => absurd rfl h) ?_
        clear hK K'
        refine wpAnyG_done (by kernel_rfl) ?_ _
        go_wp2_with fail
        go_ret
        have hso := fun u => set_only U2 c 0 u
        have hp1 := HP1.out
        have hp3 := HP3.out
        rw [List.length_append] at hp1 hp3
        have hne : (Value.slice A2 (hs.length + [h].length) c2).ownBlock ≠ some c := fun e => by
          rcases hp3 with hp3 | hp3
          · exact HCv.out (hp3.symm.trans e)
          · rw [hp3] at e
            have e2 := Option.some.inj e
            have := HB1.out.size
            omega
        refine ⟨rfl, _, HC9.out.set_v _, OwnR.grown hp1 (grown_set (World.grownBy.refl _ _) 0 _) (.inr hne), ?_, ?_⟩
        · rcases hp3 with hp3 | hp3
          · exact .inl hp3
          · right
            intro k hk
            have e2 := Option.some.inj (hp3.symm.trans hk)
            have := HB1.out.size
            have := HBU.out.size
            omega
        · exact (((Only.of_below HBU.out).trans (Only.of_below HB1.out)).trans (Only.of_grown HP2.out (fun k hk => .inr hk))).trans (Only.set U2 c 0 _ (.inl rfl))
      · rw [if_neg q3] at hp
        obtain ⟨k, hk⟩ : ∃ k, hs.length = k + 1 := ⟨hs.length - 1, by omega⟩
        obtain ⟨g, o, rfl, hg, hr, ht⟩ := HR2.out.at hdK_pos k (by omega)
        rw [hdK_len] at hr
        rw [hk, show k + 1 - 1 = k by omega] at hp
        obtain ⟨x, hx⟩ : ∃ x, hs.getD k [] = x := ⟨_, rfl⟩
        rw [hx] at hr ht hp
        have HX := Lib.hid ht
        have HXT := Lib.hid (hd_there W ht)
        have HXI := Lib.hid (hd_info ht)
        have HXI' := Lib.hid (hd_info' ht)
        have HX1 := Lib.hid (hd_one ht)
        unfold objHd at HXT
        have hlt1 : (k : Int) < (hs.length : Int) := by omega
        have hpos : (0 : Int) < (hs.length : Int) := by omega
        have hsub : IntKind.i64.wrap ((hs.length : Int) - 1) = (k : Int) := by
          rw [IntWalk.i64_in _ (by omega)]
          omega

        have hnor : ¬ (a0 ≤ intAt x 0 ∨ a1 < intAt x 1 ∨ a34 < intAt x 34) := fun hq => by rw [if_pos hq] at hp; exact absurd hp (by decide)
        have m1 : ¬ a0 ≤ intAt x 0 := fun hq => hnor (.inl hq)
        have m2 : ¬ a1 < intAt x 1 := fun hq => hnor (.inr (.inl hq))
        have m3 : ¬ a34 < intAt x 34 := fun hq => hnor (.inr (.inr hq))
        clear hp hnor q1 q2 q3 ht hx hk
        go_enter Tryd.func18, Tryd.ntmps18
        go_upto_region 1 with fail
        clear hW
        go_upto_region 6 with (first
          | refine wpList_load_mid rfl 42 _ rfl g (o + k * 35) rfl x _ hr Tryd.underlying42 rfl HXI.out ?_
          | refine wpList_store_mid rfl 42 _ _ rfl W.heap.size 0 x.toArray rfl rfl HXT.out HXI'.out HX1.out ?_)
        have hL := hd_laid W HX.out
        have hbn := hnew_below W objHd x
        have l0 := hd_cell hL HX.out 0 .u32 (by kernel_rfl)
        have l1 := hd_cell hL HX.out 1 .u64 (by kernel_rfl)
        have l34 := hd_cell hL HX.out 34 .u64 (by kernel_rfl)
        have hszW := HSz.out
        have k0 := (hbn.cell (p := ⟨w.heap.size + 1, 0, none⟩) (by show w.heap.size + 1 < W.heap.size; omega)).trans g0
        have k1 := (hbn.cell (p := ⟨w.heap.size + 1, 1, none⟩) (by show w.heap.size + 1 < W.heap.size; omega)).trans g1
        have k34 := (hbn.cell (p := ⟨w.heap.size + 1, 34, none⟩) (by show w.heap.size + 1 < W.heap.size; omega)).trans g34
        have HB3 := Lib.hid (HB.out.trans (hbn.mono HB.out.size))
        have HBn := Lib.hid hbn
        have HL := Lib.hid hL
        obtain ⟨x0, hx0⟩ : ∃ a, intAt x 0 = a := ⟨_, rfl⟩
        obtain ⟨x1, hx1⟩ : ∃ a, intAt x 1 = a := ⟨_, rfl⟩
        obtain ⟨x34, hx34⟩ : ∃ a, intAt x 34 = a := ⟨_, rfl⟩
        rw [hx0] at m1 l0
        rw [hx1] at m2 l1
        rw [hx34] at m3 l34
        clear hx0 hx1 hx34
        clear hL hbn hszW
        obtain ⟨W3, hW3⟩ : ∃ W3, (W.alloc objHd).setCells W.heap.size 0 x = W3 := ⟨_, rfl⟩
        rw [hW3] at l0 l1 l34 k0 k1 k34 HB3 HBn HL
        unfold objHd at hW3
        rw [hW3]
        clear hW3 g0 g1 g34 e1 e46 hr
  
        have HBU := HB3
        have hC3 : ClAt W3 c (.slice (some ⟨g, o, none⟩) hs.length cp) n mp := World.rowIs.of_block HC2.out (HBn.out.block c (Nat.lt_of_lt_of_le HClt.out HB.out.size))
        have cu := hC3.cells.1
        have HCu := Lib.hid hC3
        clear hC3
        have HHu := Lib.hid (range_below HHr.out HBn.out (by have := HSz.out; omega))
        have HUs : Hid (w.heap.size + 1 < W3.heap.size) := Lib.hid (by have := HSz.out; have := HBn.out.size; omega)
        clear cc
        go_upto_region 8 with fail
        have hU0 : KeepBut (Value.slice (some ⟨g, o, none⟩) hs.length cp).ownBlock W3 W3.drew := fun k hk hn => rfl
        have huc : c < W3.heap.size := Nat.lt_of_lt_of_le HClt.out HBU.out.size
        have huh : w.heap.size + 1 < W3.heap.size := HUs.out
        have hnh : (Value.slice (some ⟨g, o, none⟩) hs.length cp).ownBlock ≠ some (w.heap.size + 1) := fun e => by have := (OwnR.lt HO.out _ e).2; omega
        have HO1 := Lib.hid (OwnR.later HO.out HBU.out)
        refine region_G 10 (KeepBut (Value.slice (some ⟨g, o, none⟩) hs.length cp).ownBlock W3) (by kernel_rfl) hU0 (fun h0 => ?_)
        refine wpAnyG_take 0 _ (.pointer (some ⟨c, 0, none⟩)) rfl (by kernel_rfl) (by kernel_rfl) (by kernel_rfl) (by kernel_rfl) (fun _ _ _ h => h) h0 (.inl ⟨by rfl, fun w hS => by rfl⟩) ?_
        try simp only [List.getElem_toArray, List.getElem_cons_zero, List.getElem_cons_succ, Act.put, List.setIfInBounds_toArray, List.set_cons_zero, List.set_cons_succ]
        refine wpAnyG_take 1 _ (.pointer (some ⟨c, 0, none⟩)) rfl (by kernel_rfl) (by kernel_rfl) (by kernel_rfl) (by kernel_rfl) (fun _ _ _ h => h) h0 (.inl ⟨by rfl, fun w hS => by rfl⟩) ?_
        try simp only [List.getElem_toArray, List.getElem_cons_zero, List.getElem_cons_succ, Act.put, List.setIfInBounds_toArray, List.set_cons_zero, List.set_cons_succ]
        refine wpAnyG_take 2 _ (.pointer (some ⟨c, 0, none⟩)) rfl (by kernel_rfl) (by kernel_rfl) (by kernel_rfl) (by kernel_rfl) (fun _ _ _ h => h) h0 (.inl ⟨by rfl, fun w hS => by rfl⟩) ?_
        try simp only [List.getElem_toArray, List.getElem_cons_zero, List.getElem_cons_succ, Act.put, List.setIfInBounds_toArray, List.set_cons_zero, List.set_cons_succ]
        refine wpAnyG_take 3 _ (.pointer (some ⟨c, 0, none⟩)) rfl (by kernel_rfl) (by kernel_rfl) (by kernel_rfl) (by kernel_rfl) (fun _ _ _ h => h) h0 (.inl ⟨by rfl, fun w hS => by rfl⟩) ?_
        try simp only [List.getElem_toArray, List.getElem_cons_zero, List.getElem_cons_succ, Act.put, List.setIfInBounds_toArray, List.set_cons_zero, List.set_cons_succ]
        refine wpAnyG_take 4 _ (.slice (some ⟨g, o, none⟩) hs.length cp) rfl (by kernel_rfl) (by kernel_rfl) (by kernel_rfl) (by kernel_rfl) (fun _ _ _ h => h) h0 (.inl ⟨by rfl, fun w hS => by have hc := (cell_of_block (p := ⟨c, 0, none⟩) (hS c huc HCv.out)).trans cu; go_simp⟩) ?_
        try simp only [List.getElem_toArray, List.getElem_cons_zero, List.getElem_cons_succ, Act.put, List.setIfInBounds_toArray, List.set_cons_zero, List.set_cons_succ]
        refine wpAnyG_take 5 _ (.agg h.toArray) rfl (by kernel_rfl) (by kernel_rfl) (by kernel_rfl) (by kernel_rfl) (fun _ _ _ h => h) h0 (yieldsIf_load_mid (by rfl) 42 _ rfl (w.heap.size + 1) 0 rfl h _ (fun w hS => range_of_block HHu.out (hS _ huh hnh)) Tryd.underlying42 rfl (hd_info HTh.out)) ?_
        try simp only [List.getElem_toArray, List.getElem_cons_zero, List.getElem_cons_succ, Act.put, List.setIfInBounds_toArray, List.set_cons_zero, List.set_cons_succ]
        refine wpAnyG_ready [6] (by kernel_rfl) (by simp) ?_
        refine AllReadyG.cons 6 _ rfl (fun K' hK => ?_) AllReadyG.nil
        refine step_build1 rfl 59 42 (.tmp 60) rfl h rfl hdK HTh.out hdZ 56 Tryd.underlying59 hdZ_info hdK_pos (by decide) ?_
        refine hK.out _ _ (fun _ => KeepBut.alloc h0 _) ?_
        clear hK K'
        try simp only [List.getElem_toArray, List.getElem_cons_zero, List.getElem_cons_succ, Act.put, List.setIfInBounds_toArray, List.set_cons_zero, List.set_cons_succ]
        have h1 : KeepBut (Value.slice (some ⟨g, o, none⟩) hs.length cp).ownBlock W3 (W3.drew.alloc (.cells h.toArray 42)) := KeepBut.alloc h0 _
        have HR1 := Lib.hid (recs_one W3.drew 42 HTh.out)
        have HB1 : Hid (Below W3.heap.size W3 (W3.drew.alloc (.cells h.toArray 42))) := Lib.hid (((Below.refl _ _).drew).alloc (Nat.le_refl _) _)
        have HO2 := Lib.hid (OwnR.later HO1.out HB1.out)
        have hsU : W3.drew.heap.size = W3.heap.size := rfl
        have HBs : Hid (base ≤ (W3.drew.alloc (.cells h.toArray 42)).heap.size) := Lib.hid (Nat.le_trans (Nat.le_trans Hbase.out HBU.out.size) HB1.out.size)
        obtain ⟨U1, hU1⟩ : ∃ U1, W3.drew.alloc (.cells h.toArray 42) = U1 := ⟨_, rfl⟩
        rw [hU1] at h1 HR1 HB1 HO2 HBs
        rw [hU1]
        clear hU1
        refine wpAnyG_ready [7] (by kernel_rfl) (by simp) ?_
        refine AllReadyG.cons 7 _ rfl (fun K' hK => ?_) AllReadyG.nil
        refine step_app_rec rfl (.tmp 59) (.tmp 61) 59 42 hdK hdZ 56 Tryd.underlying59 hdZ_info hdZ_size hdK_pos (by decide) rfl base _ hs [h] rfl HO2.out _ rfl HR1.out (.inr ⟨_, _, _, rfl⟩) (by omega) (by simp) HBs.out ?_
        intro A2 c2 U2 o1 o2 o3 o4
        have h2 : KeepBut (Value.slice (some ⟨g, o, none⟩) hs.length cp).ownBlock W3 U2 := fun k hk hn => (o2.block k (Nat.lt_of_lt_of_le hk HB1.out.size) (Ne.symm hn)).trans (h1 k hk hn)
        refine hK.out _ _ (fun _ => h2) ?_
        clear hK K'
        try simp only [List.getElem_toArray, List.getElem_cons_zero, List.getElem_cons_succ, Act.put, List.setIfInBounds_toArray, List.set_cons_zero, List.set_cons_succ]
        have HP1 := Lib.hid o1
        have HP2 := Lib.hid o2
        have HP3 := Lib.hid o3
        clear o1 o2 o3 o4
        refine wpAnyG_ready [8] (by kernel_rfl) (by simp) ?_
        refine AllReadyG.cons 8 _ rfl (fun K' hK => ?_) AllReadyG.nil
        go_simp
        refine hK.out _ _ (fun _ => h2) ?_
        clear hK K'
        try simp only [List.getElem_toArray, List.getElem_cons_zero, List.getElem_cons_succ, Act.put, List.setIfInBounds_toArray, List.set_cons_zero, List.set_cons_succ]
        refine wpAnyG_take 9 _ (.pointer (some ⟨c, 0, none⟩)) rfl (by kernel_rfl) (by kernel_rfl) (by kernel_rfl) (by kernel_rfl) (fun _ _ _ h => h) h2 (.inl ⟨by rfl, fun w hS => by rfl⟩) ?_
        try simp only [List.getElem_toArray, List.getElem_cons_zero, List.getElem_cons_succ, Act.put, List.setIfInBounds_toArray, List.set_cons_zero, List.set_cons_succ]
        have hC9 : ClAt U2 c (.slice (some ⟨g, o, none⟩) hs.length cp) n mp := World.rowIs.of_block HCu.out (h2 c huc HCv.out)
        have hc9 := hC9.cells.1
        have hf9 := World.rowIs.frozen hC9 0
        have HC9 := Lib.hid hC9
        clear hC9
        refine wpAnyG_ready [10] (by kernel_rfl) (by simp) ?_
        refine AllReadyG.cons 10 _ rfl (fun K' hK => ?_) AllReadyG.nil
        go_simp
        refine hK.out _ _ (fun h => absurd rfl h) ?_
        clear hK K'
        refine wpAnyG_done (by kernel_rfl) ?_ _
        go_wp2_with fail
        go_ret
        have hso := fun u => set_only U2 c 0 u
        have hp1 := HP1.out
        have hp3 := HP3.out
        rw [List.length_append] at hp1 hp3
        have hne : (Value.slice A2 (hs.length + [h].length) c2).ownBlock ≠ some c := fun e => by
          rcases hp3 with hp3 | hp3
          · exact HCv.out (hp3.symm.trans e)
          · rw [hp3] at e
            have e2 := Option.some.inj e
            have := HB1.out.size
            omega
        refine ⟨rfl, _, HC9.out.set_v _, OwnR.grown hp1 (grown_set (World.grownBy.refl _ _) 0 _) (.inr hne), ?_, ?_⟩
        · rcases hp3 with hp3 | hp3
          · exact .inl hp3
          · right
            intro k hk
            have e2 := Option.some.inj (hp3.symm.trans hk)
            have := HB1.out.size
            have := HBU.out.size
            omega
        · exact (((Only.of_below HBU.out).trans (Only.of_below HB1.out)).trans (Only.of_grown HP2.out (fun k hk => .inr hk))).trans (Only.set U2 c 0 _ (.inl rfl))
    · rw [if_neg (fun hq => q2 hq.2)] at hp
      exact absurd hp (by decide)
  · rw [if_neg (fun hq => q1 hq.1)] at hp
    exact absurd hp (by decide)

end Go.Proofs.YthdbhajpjkkehaaDoor
