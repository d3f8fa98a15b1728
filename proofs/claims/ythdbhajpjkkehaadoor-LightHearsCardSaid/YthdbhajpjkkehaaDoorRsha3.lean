/- The document's sums: a block's words, its rounds. -/
import Derived.Test.YthdbhajpjkkehaaDoorRsha2
import Derived.Test.YthdbhajpjkkehaaDoorSha8
namespace Go.Proofs.YthdbhajpjkkehaaDoor
open Go.RowKit Go.Lib Sha
set_option linter.unusedVariables false
set_option linter.unusedSimpArgs false

def RKAt (w : World) : Prop := ∀ i, i < 64 → w.cell? ⟨1, i, none⟩ = some (wV (kAt i))
theorem RKAt.below {w w' : World} (h : RKAt w) (hb : Below w.heap.size w w') : RKAt w' := fun i hi => (hb.cell (p := ⟨1, i, none⟩) (World.block_lt_of_cell? w _ (h i hi))).trans (h i hi)
def blkOf (all : List UInt8) (k : Nat) : List UInt8 := (all.drop (64 * k)).take 64
theorem be4 (l : List UInt8) (i : Nat) (h : 4 * i + 4 ≤ l.length) : beN l i 4 = (((l.getD (4 * i) 0).toNat * 256 + (l.getD (4 * i + 1) 0).toNat) * 256 + (l.getD (4 * i + 2) 0).toNat) * 256 + (l.getD (4 * i + 3) 0).toNat := by
  rw [beN_succ l i 3 (by omega), beN_succ l i 2 (by omega), beN_succ l i 1 (by omega), beN_succ l i 0 (by omega), beN_zero]
  simp
theorem dn_t (x : Wd) (n : Nat) : dn x n true = x.rotateRight n := rfl
theorem dn_f (x : Wd) (n : Nat) : dn x n false = x >>> n := rfl
def objBegin : Obj := .cells #[.int .u32 1779033703, .int .u32 3144134277, .int .u32 1013904242, .int .u32 2773480762, .int .u32 1359893119, .int .u32 2600822924, .int .u32 528734635, .int .u32 1541459225] 108
theorem begin_new (w : World) : RowSt (w.alloc objBegin) w.heap.size St.begin :=
  World.rowIs_alloc w _ _ _ (fun i hi => by
    have h : i < 8 := hi
    match i, h with
    | 0, _ => rfl
    | 1, _ => rfl
    | 2, _ => rfl
    | 3, _ => rfl
    | 4, _ => rfl
    | 5, _ => rfl
    | 6, _ => rfl
    | 7, _ => rfl)
theorem ownB_some {w : World} {base : Nat} {v : Value} {l : List UInt8} (h : OwnB w base v l) (hl : 0 < l.length) : ∃ g c, v = .slice (some ⟨g, 0, none⟩) l.length c ∧ base ≤ g ∧ l.length ≤ c := by
  rcases h.1.2 with ⟨_, hn⟩ | ⟨g, cap, cur, rfl, hb, hg, hn, _⟩
  · rw [List.length_map] at hn; omega
  · rw [List.length_map] at hn
    exact ⟨g, cap, by rw [List.length_map], hb, hn⟩
theorem brow_cells {w : World} {A : Option Addr} {n c : Nat} {l : List UInt8} (h : BRow w (.slice A n c) l) (hn : 0 < n) : ∃ g o, A = some ⟨g, o, none⟩ ∧ ∀ k, k < n → w.cell? ⟨g, o + k, none⟩ = some (.int .u8 ((l.getD k 0).toNat : Int)) := by
  obtain ⟨g, o, e, _, hc⟩ := h.block hn
  exact ⟨g, o, e, hc⟩
theorem be4_val (y0 y1 y2 y3 : Nat) (l0 : y0 < 256) (l1 : y1 < 256) (l2 : y2 < 256) (l3 : y3 < 256) : IntKind.u32.wrap (IntKind.u32.wrap (IntKind.u32.wrap (IntKind.u32.wrap (IntKind.u32.wrap (y0 : Int) * 16777216) + IntKind.u32.wrap (IntKind.u32.wrap (y1 : Int) * 65536)) + IntKind.u32.wrap (IntKind.u32.wrap (y2 : Int) * 256)) + IntKind.u32.wrap (y3 : Int)) = ((((y0 * 256 + y1) * 256 + y2) * 256 + y3 : Nat) : Int) := by
  simp only [IntKind.wrap_u32']
  omega
theorem down_t {x y : Wd} {n : Nat} (h : n ≤ 31) (hy : x.rotateRight n = y) (w : World) {k : Int} (hk : k = (n : Int)) : Calls Tryd.prog 56 #[wV x, .int .i64 k, .bool true] w fun e w' => e = .returned (wV y) ∧ w' = w := by
  rw [hk]
  refine (down_calls x n true h w).mono fun e w' h => ?_
  have := isW_still e w' h
  rwa [dn_t, hy] at this
theorem down_f {x y : Wd} {n : Nat} (h : n ≤ 31) (hy : x >>> n = y) (w : World) {k : Int} (hk : k = (n : Int)) : Calls Tryd.prog 56 #[wV x, .int .i64 k, .bool false] w fun e w' => e = .returned (wV y) ∧ w' = w := by
  rw [hk]
  refine (down_calls x n false h w).mono fun e w' h => ?_
  have := isW_still e w' h
  rwa [dn_f, hy] at this
theorem both_s {a b c y : Wd} (hy : a ^^^ b ^^^ c = y) (w : World) : Calls Tryd.prog 55 #[wV a, wV b, wV c] w fun e w' => e = .returned (wV y) ∧ w' = w := by
  refine (both_calls a b c w).mono fun e w' h => ?_
  have := isW_still e w' h
  rwa [hy] at this
theorem sub_w (x : Wd) : IntKind.u32.wrap (4294967295 - (x.toNat : Int)) = ((4294967295#32 - x).toNat : Int) := by
  have := x.isLt
  rw [IntKind.wrap_u32', BitVec.toNat_sub]
  simp
  omega
theorem ref_t (h b1 e f g k w : Wd) : IntKind.u32.wrap (IntKind.u32.wrap (IntKind.u32.wrap (IntKind.u32.wrap ((h.toNat : Int) + (b1.toNat : Int)) + bits .or .u32 (bits .and .u32 (e.toNat : Int) (f.toNat : Int)) (bits .and .u32 (IntKind.u32.wrap (4294967295 - (e.toNat : Int))) (g.toNat : Int))) + (k.toNat : Int)) + (w.toNat : Int)) = ((h + b1 + choice e f g + k + w).toNat : Int) := by
  rw [sub_w, and_w, and_w, or_w, choice_or, add_w, add_w, add_w, add_w]
theorem ref_u (b0 a b c : Wd) : IntKind.u32.wrap ((b0.toNat : Int) + bits .or .u32 (bits .or .u32 (bits .and .u32 (a.toNat : Int) (b.toNat : Int)) (bits .and .u32 (a.toNat : Int) (c.toNat : Int))) (bits .and .u32 (b.toNat : Int) (c.toNat : Int))) = ((b0 + most a b c).toNat : Int) := by
  rw [and_w, and_w, and_w, or_w, or_w, most_or, add_w]
theorem rowOther8 {w : World} {h g n : Nat} {t : TypeId} {F : Nat → Value} (hr : w.rowIs h t n F) (hne : h ≠ g) (a b c d e f gg hh : Wd) : ((((((((w.setCell ⟨g, 0, none⟩ (wV a)).setCell ⟨g, 1, none⟩ (wV b)).setCell ⟨g, 2, none⟩ (wV c)).setCell ⟨g, 3, none⟩ (wV d)).setCell ⟨g, 4, none⟩ (wV e)).setCell ⟨g, 5, none⟩ (wV f)).setCell ⟨g, 6, none⟩ (wV gg)).setCell ⟨g, 7, none⟩ (wV hh)).drew.rowIs h t n F := by
  refine rowIs_drew ?_
  have h1 := World.rowIs.setOther hr (a := ⟨g, 0, none⟩) hne (wV a)
  have h2 := World.rowIs.setOther h1 (a := ⟨g, 1, none⟩) hne (wV b)
  have h3 := World.rowIs.setOther h2 (a := ⟨g, 2, none⟩) hne (wV c)
  have h4 := World.rowIs.setOther h3 (a := ⟨g, 3, none⟩) hne (wV d)
  have h5 := World.rowIs.setOther h4 (a := ⟨g, 4, none⟩) hne (wV e)
  have h6 := World.rowIs.setOther h5 (a := ⟨g, 5, none⟩) hne (wV f)
  have h7 := World.rowIs.setOther h6 (a := ⟨g, 6, none⟩) hne (wV gg)
  exact World.rowIs.setOther h7 (a := ⟨g, 7, none⟩) hne (wV hh)
def addR (st cur : St) (i j : Nat) : Value := if j < i then wV ((st.add cur).list.getD j 0) else wV (st.list.getD j 0)
theorem addR_zero (st cur : St) (j : Nat) : addR st cur 0 j = wV (st.list.getD j 0) := by unfold addR; simp
theorem addR_all (st cur : St) (j : Nat) (h : j < 8) : addR st cur 8 j = wV ((st.add cur).list.getD j 0) := by unfold addR; rw [if_pos h]
theorem addR_next (st cur : St) (i j : Nat) (h : i < 8) : (if j = i then wV (st.list.getD i 0 + cur.list.getD i 0) else addR st cur i j) = addR st cur (i + 1) j := by
  unfold addR
  by_cases h1 : j = i
  · subst h1
    rw [if_pos rfl, if_pos (Nat.lt_succ_self _), add_getD st cur j h]
  · by_cases h2 : j < i
    · simp [h1, h2, show j < i + 1 by omega]
    · simp [h1, h2, show ¬ j < i + 1 by omega]
theorem blocks_one (s : St) (B : List UInt8) (h : B.length = 64) : s.blocks B = s.take B := by
  rw [blocks_cons s B (by omega), List.take_of_length_le (by omega), blocks_short _ _ (by rw [List.length_drop]; omega)]
theorem blocks_take (all : List UInt8) (k : Nat) (h : 64 * k + 64 ≤ all.length) : St.begin.blocks (all.take (64 * (k + 1))) = (St.begin.blocks (all.take (64 * k))).take ((all.drop (64 * k)).take 64) := by
  have e : all.take (64 * (k + 1)) = all.take (64 * k) ++ (all.drop (64 * k)).take 64 := by
    rw [show 64 * (k + 1) = 64 * k + 64 by omega, List.take_add]
  have hr : restOf (all.take (64 * k)) = [] := by
    apply List.eq_nil_of_length_eq_zero
    rw [rest_length, List.length_take]
    omega
  have hl : ((all.drop (64 * k)).take 64).length = 64 := by rw [List.length_take, List.length_drop]; omega
  rw [e, blocks_append, hr, List.nil_append, blocks_one _ _ hl]
def ocell (st : St) (i j q : Nat) : Value := .int .u8 (if q < 4 * i ∨ (4 * i + 4 ≤ q + j ∧ q < 4 * i + 4) then ((Sha.byteOf st q).toNat : Int) else 0)
theorem ocell_zero (st : St) (i q : Nat) : ocell st i 0 q = hcell st (4 * i) q := by
  unfold ocell hcell
  congr 1
  by_cases h : q < 4 * i
  · rw [if_pos (.inl h), if_pos h]
  · rw [if_neg (by omega), if_neg h]
theorem ocell_end (st : St) (i q : Nat) : ocell st i 4 q = hcell st (4 * (i + 1)) q := by
  unfold ocell hcell
  congr 1
  by_cases h : q < 4 * (i + 1)
  · rw [if_pos (by omega), if_pos h]
  · rw [if_neg (by omega), if_neg h]
theorem ocell_here (st : St) (i j q : Nat) (h : q + j = 4 * i + 3) (hj : j < 4) : ocell st i j q = .int .u8 0 := by
  unfold ocell; rw [if_neg (by omega)]
theorem ocell_next (st : St) (i j q : Nat) (h : q + j = 4 * i + 3) (hj : j < 4) (z : Nat) : (if z = q then .int .u8 ((Sha.byteOf st q).toNat : Int) else ocell st i j z) = ocell st i (j + 1) z := by
  unfold ocell
  by_cases hz : z = q
  · subst hz; rw [if_pos rfl, if_pos (by omega)]
  · rw [if_neg hz]
    congr 1
    by_cases h1 : z < 4 * i ∨ (4 * i + 4 ≤ z + j ∧ z < 4 * i + 4)
    · rw [if_pos h1, if_pos (by omega)]
    · rw [if_neg h1, if_neg (by omega)]
theorem ref_byte (st : St) (i j q : Nat) (h : q + j = 4 * i + 3) (hj : j < 4) (hi : i < 8) : (((st.list.getD i 0).toNat / 256 ^ j : Nat) : Int) % 256 = ((Sha.byteOf st q).toNat : Int) := by
  unfold Sha.byteOf
  rw [show q / 4 = i by omega, show 3 - q % 4 = j by omega, UInt8.toNat_ofNat', show 2 ^ 8 = 256 by decide, Nat.mod_mod]
  rfl
theorem sig0_eq (x : Wd) : sig0 x = x.rotateRight 7 ^^^ x.rotateRight 18 ^^^ (x >>> 3) := rfl
theorem sig1_eq (x : Wd) : sig1 x = x.rotateRight 17 ^^^ x.rotateRight 19 ^^^ (x >>> 10) := rfl
attribute [local irreducible] word sched be sig0 sig1 bsig0 bsig1 choice most wordsV St.rounds kAt St.take
set_option maxHeartbeats 8000000 in
set_option maxRecDepth 100000 in
theorem rsum_calls (v : Value) (p : List UInt8) (w : World) (h : BRow w v p) (hn : NilOr v) (hl : p.length ≤ 900000) (hK : RKAt w) :
    Calls Tryd.prog 46 #[v] w fun e w' => e = .returned (.agg ((sum p).map fun c => .int .u8 (c.toNat : Int)).toArray) ∧ Below w.heap.size w w' := by
  have HZ := hzero32 w
  have HB0 := begin_new (w.alloc hob32)
  rw [World.size_alloc] at HB0
  have HZ0 : ((w.alloc hob32).alloc objBegin).rowIs w.heap.size 38 32 (fun _ => .int .u8 0) := World.rowIs.alloc HZ _
  have Q0 : Below w.heap.size w ((w.alloc hob32).alloc objBegin) := ((Below.refl _ _).alloc (Nat.le_refl _) _).alloc (by simp) _
  have HPd := Lib.hid (padded_calls v p _ (h.below Q0) hn hl)
  have HK := Lib.hid hK
  have HL := Lib.hid hl
  have hs0 : ((w.alloc hob32).alloc objBegin).heap.size = w.heap.size + 1 + 1 := by simp
  clear h hn hl hK HZ
  go_enter Tryd.func46, Tryd.ntmps46
  go_wp2_with fail
  obtain ⟨W0, hW0⟩ : ∃ W0, (w.alloc hob32).alloc objBegin = W0 := ⟨_, rfl⟩
  rw [hW0] at HB0 HZ0 Q0 HPd hs0
  unfold hob32 objBegin at hW0
  rw [hW0]
  clear hW0
  refine HPd.out.mono ?_
  rintro e w1 ⟨v4, rfl, ho, hb1⟩
  obtain ⟨all, hall⟩ : ∃ all, p ++ padOf p.length = all := ⟨_, rfl⟩
  rw [hall] at ho
  have HAll := Lib.hid hall
  have HAl : Hid (all.length % 64 = 0 ∧ 64 ≤ all.length ∧ all.length ≤ 900200) := Lib.hid (by
    have := HL.out
    rw [← hall, List.length_append]
    simp [padOf, lenBytes]
    omega)
  obtain ⟨ab, ca, rfl, hab, hac⟩ := ownB_some ho (by have := HAl.out; omega)
  have HBr := Lib.hid (OwnB.row ho)
  have HAb : Hid (W0.heap.size ≤ ab ∧ ab < w1.heap.size) := Lib.hid (by
    have := OwnR.lt ho ab rfl
    exact this)
  have HCa := Lib.hid hac
  have HB1 := Lib.hid (rowSt_later HB0 hb1)
  have HZ1 := Lib.hid (World.rowIs.of_block HZ0 (hb1.block _ HZ0.lt))
  have HQ1 := Lib.hid (Q0.trans (hb1.mono Q0.size))
  have HS0 := Lib.hid hs0
  clear hall ho hab hac hb1 HB0 HZ0 Q0 hs0 HPd
  obtain ⟨hb, hhb⟩ : ∃ hb, w.heap.size + 1 = hb := ⟨_, rfl⟩
  rw [hhb] at HB1 ⊢
  have HHb := Lib.hid hhb
  clear hhb
  go_wp2_with fail
  go_loopw [5] (fun t wr => ∃ k : Nat, t = .int .i64 ((64 * k : Nat) : Int) ∧ 64 * k ≤ all.length ∧ Hid (RowSt wr hb (St.begin.blocks (all.take (64 * k)))) ∧ Hid (BRow wr (.slice (some ⟨ab, 0, none⟩) all.length ca) all) ∧ Hid (wr.rowIs w.heap.size 38 32 (fun _ => .int .u8 0)) ∧ Hid (Below w.heap.size w wr)) (fun t _ => all.length - (intOf t).toNat)
  case atStart => exact ⟨0, by simp, by omega, Lib.hid (by simpa [blocks_short] using HB1.out), HBr, HZ1, HQ1⟩
  case round =>
    obtain ⟨k, rfl, hk, HSt, HB, HZ, HQ⟩ := hrel
    clear HB1 HBr HZ1 HQ1
    obtain ⟨n, hn⟩ : ∃ n, all.length = n := ⟨_, rfl⟩
    have HN := Lib.hid hn
    rw [hn] at hk HB HAl ⊢
    clear hn
    obtain ⟨a0, ha0⟩ : ∃ a, 64 * k = a := ⟨_, rfl⟩
    rw [ha0] at hk HSt ⊢
    have HA0 := Lib.hid ha0
    clear ha0
    by_cases hlt : a0 < n
    · have hlt' : (a0 : Int) < (n : Int) := by omega
      have Z1 := zero64 wr
      have Q1 : Below wr.heap.size wr (wr.alloc obj64) := (Below.refl _ _).alloc (Nat.le_refl _) _
      obtain ⟨X0, hX0⟩ : ∃ X : World, X = wr := ⟨_, rfl⟩
      subst hX0
      obtain ⟨blk, hblk⟩ : ∃ b, (all.drop (a0)).take 64 = b := ⟨_, rfl⟩
      have HBlk := Lib.hid hblk
      have hbl : blk.length = 64 := by have := HAl.out; have := HN.out; have := HA0.out; rw [← hblk, List.length_take, List.length_drop]; omega
      have HBl := Lib.hid hbl
      have HBy : Hid (∀ i, i < 64 → X0.cell? ⟨ab, a0 + i, none⟩ = some (.int .u8 ((blk.getD i 0).toNat : Int))) := Lib.hid (fun i hi => by
        obtain ⟨g', o', e, hc⟩ := brow_cells HB.out (by omega)
        cases e
        have h1 := hc (a0 + i) (by have := HAl.out; have := HA0.out; omega)
        rw [Nat.zero_add] at h1
        rw [h1, ← hblk]
        congr 4
        rw [List.getD_eq_getElem?_getD, List.getD_eq_getElem?_getD, List.getElem?_take_of_lt hi, List.getElem?_drop])
      have HAX : Hid (ab < X0.heap.size) := Lib.hid (World.block_lt_of_cell? X0 _ (HBy.out 0 (by omega)))
      have HX1 : Hid (Below X0.heap.size X0 (X0.alloc obj64)) := Lib.hid Q1
      have HZ1 := Lib.hid Z1
      have hk1 : a0 ≤ 1000000 := by have := HAl.out; omega
      have HK64 : Hid (a0 + 64 ≤ n) := Lib.hid (by have := HAl.out; have := HA0.out; omega)
      have HN9 : Hid (n ≤ 900200) := Lib.hid (by have := HAl.out; omega)
      clear hblk hbl Q1 Z1
      go_upto_block 2 with fail
      obtain ⟨X1, hX1⟩ : ∃ X1, X0.alloc obj64 = X1 := ⟨_, rfl⟩
      rw [hX1] at HX1 HZ1
      unfold obj64 at hX1
      rw [hX1]
      clear hX1
      obtain ⟨wb, hwb⟩ : ∃ wb, X0.heap.size = wb := ⟨_, rfl⟩
      rw [hwb] at HZ1 ⊢
      have HWb := Lib.hid hwb
      clear hwb
      go_cut [] from 29 to 104 (fun wx => ∃ W, W = wx ∧ Hid (W.rowIs wb 114 64 (fun j => wV (word blk j))) ∧ Hid (Below X0.heap.size X0 W))
      case first =>
        go_wp2_with fail
        go_loopw [29] (fun t wr => ∃ i : Nat, t = .int .i64 (i : Int) ∧ i ≤ 64 ∧ Hid (wr.rowIs wb 114 64 (wcell blk i 0)) ∧ Hid (Below X0.heap.size X0 wr)) (fun t _ => 64 - (intOf t).toNat)
        case atStart => exact ⟨0, rfl, by omega, Lib.hid (HZ1.out.congr fun j _ => by unfold wcell; simp), HX1⟩
        case round =>
          obtain ⟨i, rfl, hi, HR, HQ2⟩ := hrel
          by_cases hi64 : i < 64
          · have hi64' : (i : Int) < 64 := by omega
            have hci : wr.cell? ⟨wb, i, none⟩ = some (wV 0) := (HR.out.cell hi64).trans (by unfold wcell; simp)
            have hsz := HR.out.lt
            have hfz := HR.out.frozen i
            by_cases h16 : i < 16
            · have h16' : (i : Int) < 16 := by omega
              have m0 : IntKind.i64.wrap (4 * (i : Int)) = 4 * (i : Int) := IntWalk.i64_in _ (by omega)
              have hn9 := HN9.out
              have hk64 := HK64.out
              have hca := HCa.out
              rw [HN.out] at hca
              have m1 : IntKind.i64.wrap ((a0 : Int) + 4 * (i : Int)) = (a0 : Int) + 4 * (i : Int) := IntWalk.i64_in _ (by omega)
              have m2 : IntKind.i64.wrap ((a0 : Int) + 4 * (i : Int) + 4) = (a0 : Int) + 4 * (i : Int) + 4 := IntWalk.i64_in _ (by omega)
              have s2 : (a0 : Int) + 4 * (i : Int) + 4 ≤ (ca : Int) := by omega
              have s3 : a0 + 4 * i < ca := by omega
              have s4 : ¬ ca = a0 + 4 * i := by omega
              have hx := fun j (hj : j < 4) => (HQ2.out.cell (p := ⟨ab, a0 + (4 * i + j), none⟩) HAX.out).trans (HBy.out (4 * i + j) (by omega))
              have x0 := hx 0 (by omega)
              have x1 := hx 1 (by omega)
              have x2 := hx 2 (by omega)
              have x3 := hx 3 (by omega)
              rw [show a0 + (4 * i + 0) = a0 + 4 * i by omega] at x0
              rw [show a0 + (4 * i + 1) = a0 + 4 * i + 1 by omega] at x1
              rw [show a0 + (4 * i + 2) = a0 + 4 * i + 2 by omega] at x2
              rw [show a0 + (4 * i + 3) = a0 + 4 * i + 3 by omega] at x3
              have hbe := be4 blk i (by rw [HBl.out]; omega)
              have HW := Lib.hid (word_lo blk i h16)
              have HBt := Lib.hid (be_toNat blk i 4 (by omega))
              have l0 := (blk.getD (4 * i) 0).toNat_lt
              have l1 := (blk.getD (4 * i + 1) 0).toNat_lt
              have l2 := (blk.getD (4 * i + 2) 0).toNat_lt
              have l3 := (blk.getD (4 * i + 3) 0).toNat_lt
              generalize (blk.getD (4 * i) 0).toNat = y0 at *
              generalize (blk.getD (4 * i + 1) 0).toNat = y1 at *
              generalize (blk.getD (4 * i + 2) 0).toNat = y2 at *
              generalize (blk.getD (4 * i + 3) 0).toNat = y3 at *
              have HBe := Lib.hid hbe
              have e0 : wr.drew.cell? ⟨ab, a0 + 4 * i, none⟩ = some (.int .u8 (y0 : Int)) := x0
              have e1 : wr.drew.cell? ⟨ab, a0 + 4 * i + 1, none⟩ = some (.int .u8 (y1 : Int)) := x1
              have e2 : wr.drew.cell? ⟨ab, a0 + 4 * i + 2, none⟩ = some (.int .u8 (y2 : Int)) := x2
              have e3 : wr.drew.cell? ⟨ab, a0 + 4 * i + 3, none⟩ = some (.int .u8 (y3 : Int)) := x3
              have eci : wr.drew.cell? ⟨wb, i, none⟩ = some (wV 0) := hci
              have esz : wb < wr.drew.heap.size := hsz
              have efz : wr.drew.frozen? ⟨wb, i, none⟩ = false := hfz
              clear hx x0 x1 x2 x3 hbe hn9 hk64 hca
              go_upto_region 12 with fail
              refine region_tail 23 (by kernel_rfl) (by kernel_rfl) ?_
              simp only [List.take_succ_cons, List.take_zero, List.drop_succ_cons, List.drop_zero]
              iterate 23 still_step
              refine wpStill_nil ?_
              have HV : Hid (IntKind.u32.wrap (IntKind.u32.wrap (IntKind.u32.wrap (IntKind.u32.wrap (IntKind.u32.wrap (y0 : Int) * 16777216) + IntKind.u32.wrap (IntKind.u32.wrap (y1 : Int) * 65536)) + IntKind.u32.wrap (IntKind.u32.wrap (y2 : Int) * 256)) + IntKind.u32.wrap (y3 : Int)) = ((word blk i).toNat : Int)) := Lib.hid (by rw [be4_val y0 y1 y2 y3 l0 l1 l2 l3, HW.out, HBt.out, HBe.out])
              have HRn := Lib.hid ((HR.out.set i (wV (word blk i))).congr fun j _ => wcell_done blk i _ 0 rfl j)
              have HQn : Hid (Below X0.heap.size X0 (wr.setCell ⟨wb, i, none⟩ (wV (word blk i)))) := Lib.hid (HQ2.out.setCell (by rw [HWb.out]; exact Nat.le_refl _) _)
              have HV2 : Hid ((y0 : Int) * 16777216 + (y1 : Int) * 65536 + (y2 : Int) * 256 + (y3 : Int) = ((word blk i).toNat : Int)) := Lib.hid (by rw [HW.out, HBt.out, HBe.out]; omega)
              obtain ⟨y, hy⟩ : ∃ y, word blk i = y := ⟨_, rfl⟩
              rw [hy] at HV2 HRn HQn
              clear hy
              go_upto_region 16 with fail
              clear e0 e1 e2 e3 eci esz efz l0 l1 l2 l3 m0 m1 m2 s2 s3 s4
              go_wp2_with fail
              rw [HV2.out]
              go_roundw
              case rel => exact ⟨i + 1, by go_num, by omega, Lib.hid (rowIs_drew HRn.out), Lib.hid HQn.out.drew⟩
              case measure => simp [intOf]; omega
            · have h16' : ¬ (i : Int) < 16 := by omega
              have o15 : IntKind.i64.wrap ((i - 15 : Nat) : Int) = ((i - 15 : Nat) : Int) := IntWalk.i64_in _ (by omega)
              have o2 : IntKind.i64.wrap ((i - 2 : Nat) : Int) = ((i - 2 : Nat) : Int) := IntWalk.i64_in _ (by omega)
              have o16 : IntKind.i64.wrap ((i - 16 : Nat) : Int) = ((i - 16 : Nat) : Int) := IntWalk.i64_in _ (by omega)
              have o7 : IntKind.i64.wrap ((i - 7 : Nat) : Int) = ((i - 7 : Nat) : Int) := IntWalk.i64_in _ (by omega)
              have p15 : (i : Int) - 15 = ((i - 15 : Nat) : Int) := by omega
              have p2 : (i : Int) - 2 = ((i - 2 : Nat) : Int) := by omega
              have p16 : (i : Int) - 16 = ((i - 16 : Nat) : Int) := by omega
              have p7 : (i : Int) - 7 = ((i - 7 : Nat) : Int) := by omega
              have hc15 : wr.cell? ⟨wb, i - 15, none⟩ = some (wV (word blk (i - 15))) := (HR.out.cell (by omega)).trans (by unfold wcell; rw [if_pos (by omega)])
              have hc2 : wr.cell? ⟨wb, i - 2, none⟩ = some (wV (word blk (i - 2))) := (HR.out.cell (by omega)).trans (by unfold wcell; rw [if_pos (by omega)])
              have hc16 : wr.drew.cell? ⟨wb, i - 16, none⟩ = some (wV (word blk (i - 16))) := (HR.out.cell (by omega)).trans (by unfold wcell; rw [if_pos (by omega)])
              have hc7 : wr.drew.cell? ⟨wb, i - 7, none⟩ = some (wV (word blk (i - 7))) := (HR.out.cell (by omega)).trans (by unfold wcell; rw [if_pos (by omega)])
              have eci : wr.drew.cell? ⟨wb, i, none⟩ = some (wV 0) := hci
              have esz : wb < wr.drew.heap.size := hsz
              have efz : wr.drew.frozen? ⟨wb, i, none⟩ = false := hfz
              have HW := Lib.hid (word_hi blk i (by omega) hi64)
              have b15 : ((i - 15 : Nat) : Int) < 64 := by omega
              have b2 : ((i - 2 : Nat) : Int) < 64 := by omega
              have b16 : ((i - 16 : Nat) : Int) < 64 := by omega
              have b7 : ((i - 7 : Nat) : Int) < 64 := by omega
              generalize word blk (i - 15) = x15 at *
              generalize word blk (i - 2) = x2 at *
              generalize word blk (i - 16) = x16 at *
              generalize word blk (i - 7) = x7 at *
              generalize i - 15 = i15 at *
              generalize i - 2 = i2 at *
              generalize i - 16 = i16 at *
              generalize i - 7 = i7 at *
              obtain ⟨r7, hr7⟩ : ∃ r, x15.rotateRight 7 = r := ⟨_, rfl⟩
              obtain ⟨r18, hr18⟩ : ∃ r, x15.rotateRight 18 = r := ⟨_, rfl⟩
              obtain ⟨r3, hr3⟩ : ∃ r, x15 >>> 3 = r := ⟨_, rfl⟩
              obtain ⟨r17, hr17⟩ : ∃ r, x2.rotateRight 17 = r := ⟨_, rfl⟩
              obtain ⟨r19, hr19⟩ : ∃ r, x2.rotateRight 19 = r := ⟨_, rfl⟩
              obtain ⟨r10, hr10⟩ : ∃ r, x2 >>> 10 = r := ⟨_, rfl⟩
              obtain ⟨s0, hs0⟩ : ∃ r, r7 ^^^ r18 ^^^ r3 = r := ⟨_, rfl⟩
              obtain ⟨s1, hs1⟩ : ∃ r, r17 ^^^ r19 ^^^ r10 = r := ⟨_, rfl⟩
              have HS0 : Hid (sig0 x15 = s0) := Lib.hid (by rw [← hs0, ← hr7, ← hr18, ← hr3]; exact sig0_eq x15)
              have HS1 : Hid (sig1 x2 = s1) := Lib.hid (by rw [← hs1, ← hr17, ← hr19, ← hr10]; exact sig1_eq x2)
              have D7 := Lib.hid (fun w => down_t (n := 7) (by omega) hr7 w (k := 7) rfl)
              have D18 := Lib.hid (fun w => down_t (n := 18) (by omega) hr18 w (k := 18) rfl)
              have D3 := Lib.hid (fun w => down_f (n := 3) (by omega) hr3 w (k := 3) rfl)
              have D17 := Lib.hid (fun w => down_t (n := 17) (by omega) hr17 w (k := 17) rfl)
              have D19 := Lib.hid (fun w => down_t (n := 19) (by omega) hr19 w (k := 19) rfl)
              have D10 := Lib.hid (fun w => down_f (n := 10) (by omega) hr10 w (k := 10) rfl)
              have B0 := Lib.hid (fun w => both_s hs0 w)
              have B1 := Lib.hid (fun w => both_s hs1 w)
              clear hr7 hr18 hr3 hr17 hr19 hr10 hs0 hs1
              have HV : Hid (IntKind.u32.wrap (IntKind.u32.wrap (IntKind.u32.wrap ((x16.toNat : Int) + (x7.toNat : Int)) + (s0.toNat : Int)) + (s1.toNat : Int)) = ((word blk i).toNat : Int)) := Lib.hid (by rw [add_w, add_w, add_w, HW.out, HS0.out, HS1.out])
              have HRn := Lib.hid ((HR.out.set i (wV (word blk i))).congr fun j _ => wcell_done blk i _ 0 rfl j)
              have HQn : Hid (Below X0.heap.size X0 (wr.setCell ⟨wb, i, none⟩ (wV (word blk i)))) := Lib.hid (HQ2.out.setCell (by rw [HWb.out]; exact Nat.le_refl _) _)
              have HV2 : Hid (((x16.toNat : Int) + (x7.toNat : Int) + (s0.toNat : Int) + (s1.toNat : Int)) % 4294967296 = ((word blk i).toNat : Int)) := Lib.hid (by rw [← HV.out]; simp only [IntKind.wrap_u32']; omega)
              obtain ⟨y, hy⟩ : ∃ y, word blk i = y := ⟨_, rfl⟩
              rw [hy] at HV2 HRn HQn
              clear hy
              go_upto_region 15 with fail
              refine region_tail 26 (by kernel_rfl) (by kernel_rfl) ?_
              simp only [List.take_succ_cons, List.take_zero, List.drop_succ_cons, List.drop_zero]
              iterate 11 still_step
              still_call (D7.out _)
              still_step
              still_call (D18.out _)
              still_step
              still_call (D3.out _)
              still_call (B0.out _)
              iterate 2 still_step
              still_call (D17.out _)
              still_step
              still_call (D19.out _)
              still_step
              still_call (D10.out _)
              still_call (B1.out _)
              still_step
              refine wpStill_nil ?_
              go_upto_region 16 with fail
              clear hc15 hc2 hc16 hc7 eci esz efz b15 b2 b16 b7 o15 o2 o16 o7 p15 p2 p16 p7
              go_wp2_with fail
              rw [HV2.out]
              go_roundw
              case rel => exact ⟨i + 1, by go_num, by omega, Lib.hid (rowIs_drew HRn.out), Lib.hid HQn.out.drew⟩
              case measure => simp [intOf]; omega
          · obtain rfl : i = 64 := by omega
            have HF := Lib.hid (HR.out.congr fun j hj => wcell_all blk 0 j hj)
            have HFq := Lib.hid HQ2.out
            clear HR HQ2
            go_wp2_with fail
            go_meet
            case rel => exact ⟨_, rfl, HF, HFq⟩
      case rest =>
        obtain ⟨wx, rfl, HRw, HQw⟩ := hcut
        clear HZ1 HX1 HBy
        obtain ⟨st, hst⟩ : ∃ st, St.begin.blocks (all.take a0) = st := ⟨_, rfl⟩
        rw [hst] at HSt
        have HStE := Lib.hid hst
        clear hst
        have HSw : Hid (RowSt wx hb st) := Lib.hid (rowSt_later HSt.out HQw.out)
        have c0 : wx.cell? ⟨hb, 0, none⟩ = some (wV st.a) := HSw.out.cell (by omega)
        have c1 : wx.cell? ⟨hb, 1, none⟩ = some (wV st.b) := HSw.out.cell (i := 1) (by omega)
        have c2 : wx.cell? ⟨hb, 2, none⟩ = some (wV st.c) := HSw.out.cell (i := 2) (by omega)
        have c3 : wx.cell? ⟨hb, 3, none⟩ = some (wV st.d) := HSw.out.cell (i := 3) (by omega)
        have c4 : wx.cell? ⟨hb, 4, none⟩ = some (wV st.e) := HSw.out.cell (i := 4) (by omega)
        have c5 : wx.cell? ⟨hb, 5, none⟩ = some (wV st.f) := HSw.out.cell (i := 5) (by omega)
        have c6 : wx.cell? ⟨hb, 6, none⟩ = some (wV st.g) := HSw.out.cell (i := 6) (by omega)
        have c7 : wx.cell? ⟨hb, 7, none⟩ = some (wV st.h) := HSw.out.cell (i := 7) (by omega)
        have hsb := HSw.out.lt
        have HRa := Lib.hid (rowSt_new wx st)
        have HQa : Hid (Below X0.heap.size X0 (wx.alloc (obj8 st))) := Lib.hid (HQw.out.alloc HQw.out.size _)
        have HRb : Hid ((wx.alloc (obj8 st)).rowIs wb 114 64 (fun j => wV (word blk j))) := Lib.hid (World.rowIs.alloc HRw.out _)
        have HWa : Hid (wb < wx.heap.size) := Lib.hid HRw.out.lt
        go_upto_block 4 with fail
        obtain ⟨X2, hX2⟩ : ∃ X2, wx.alloc (obj8 st) = X2 := ⟨_, rfl⟩
        rw [hX2] at HRa HQa HRb
        unfold obj8 at hX2
        rw [hX2]
        clear hX2 c0 c1 c2 c3 c4 c5 c6 c7 hsb HSw HRw HQw
        obtain ⟨aa, haa⟩ : ∃ aa, wx.heap.size = aa := ⟨_, rfl⟩
        rw [haa] at HRa HWa ⊢
        have HXa : Hid (X0.heap.size ≤ aa) := Lib.hid (by have := HWb.out; have := HWa.out; omega)
        clear haa
        go_cut [] from 106 to 191 (fun wx => ∃ W, W = wx ∧ Hid (RowSt W aa (st.rounds blk 64)) ∧ Hid (Below X0.heap.size X0 W))
        case first =>
          go_wp2_with fail
          go_loopw [106] (fun t wr => ∃ i : Nat, t = .int .i64 (i : Int) ∧ i ≤ 64 ∧ Hid (RowSt wr aa (st.rounds blk i)) ∧ Hid (wr.rowIs wb 114 64 (fun j => wV (word blk j))) ∧ Hid (Below X0.heap.size X0 wr)) (fun t _ => 64 - (intOf t).toNat)
          case atStart => exact ⟨0, rfl, by omega, Lib.hid (by rw [rounds_zero]; exact HRa.out), HRb, HQa⟩
          case round =>
            obtain ⟨i, rfl, hi, HR, HRw, HQ2⟩ := hrel
            by_cases hi6 : i < 64
            · have hi64 : (i : Int) < 64 := by omega
              have hcw : wr.cell? ⟨wb, i, none⟩ = some (wV (word blk i)) := HRw.out.cell hi6
              have HN1 := Lib.hid (rounds_next st blk i)
              have hk0 := HK.out i hi6
              have hk : wr.cell? ⟨1, i, none⟩ = some (wV (kAt i)) := ((HQ.out.trans (HQ2.out.mono HQ.out.size)).cell (p := ⟨1, i, none⟩) (World.block_lt_of_cell? w _ hk0)).trans hk0
              obtain ⟨kw, hkw⟩ : ∃ k, kAt i = k := ⟨_, rfl⟩
              obtain ⟨ww, hww⟩ : ∃ k, word blk i = k := ⟨_, rfl⟩
              obtain ⟨cur, hcur⟩ : ∃ k, st.rounds blk i = k := ⟨_, rfl⟩
              rw [hkw] at hk HN1
              rw [hww] at hcw HN1
              rw [hcur] at HR HN1
              clear hkw hww hcur hk0
              obtain ⟨a, b, c, d, e, f, gg, hh⟩ := cur
              have c0 : wr.cell? ⟨aa, 0, none⟩ = some (wV a) := HR.out.cell (by omega)
              have c1 : wr.cell? ⟨aa, 1, none⟩ = some (wV b) := HR.out.cell (i := 1) (by omega)
              have c2 : wr.cell? ⟨aa, 2, none⟩ = some (wV c) := HR.out.cell (i := 2) (by omega)
              have c3 : wr.cell? ⟨aa, 3, none⟩ = some (wV d) := HR.out.cell (i := 3) (by omega)
              have c4 : wr.cell? ⟨aa, 4, none⟩ = some (wV e) := HR.out.cell (i := 4) (by omega)
              have c5 : wr.cell? ⟨aa, 5, none⟩ = some (wV f) := HR.out.cell (i := 5) (by omega)
              have c6 : wr.cell? ⟨aa, 6, none⟩ = some (wV gg) := HR.out.cell (i := 6) (by omega)
              have c7 : wr.cell? ⟨aa, 7, none⟩ = some (wV hh) := HR.out.cell (i := 7) (by omega)
              have f0 := HR.out.frozen 0
              have f1 := HR.out.frozen 1
              have f2 := HR.out.frozen 2
              have f3 := HR.out.frozen 3
              have f4 := HR.out.frozen 4
              have f5 := HR.out.frozen 5
              have f6 := HR.out.frozen 6
              have f7 := HR.out.frozen 7
              obtain ⟨r6, hr6⟩ : ∃ r, e.rotateRight 6 = r := ⟨_, rfl⟩
              obtain ⟨r11, hr11⟩ : ∃ r, e.rotateRight 11 = r := ⟨_, rfl⟩
              obtain ⟨r25, hr25⟩ : ∃ r, e.rotateRight 25 = r := ⟨_, rfl⟩
              obtain ⟨r2, hr2⟩ : ∃ r, a.rotateRight 2 = r := ⟨_, rfl⟩
              obtain ⟨r13, hr13⟩ : ∃ r, a.rotateRight 13 = r := ⟨_, rfl⟩
              obtain ⟨r22, hr22⟩ : ∃ r, a.rotateRight 22 = r := ⟨_, rfl⟩
              obtain ⟨b1, hb1⟩ : ∃ r, r6 ^^^ r11 ^^^ r25 = r := ⟨_, rfl⟩
              obtain ⟨b0, hb0⟩ : ∃ r, r2 ^^^ r13 ^^^ r22 = r := ⟨_, rfl⟩
              have hB1 : bsig1 e = b1 := by rw [← hb1, ← hr6, ← hr11, ← hr25]; exact (bsig1_eq e).symm
              have hB0 : bsig0 a = b0 := by rw [← hb0, ← hr2, ← hr13, ← hr22]; exact (bsig0_eq a).symm
              have D6 := Lib.hid (fun w => down_t (n := 6) (by omega) hr6 w (k := 6) rfl)
              have D11 := Lib.hid (fun w => down_t (n := 11) (by omega) hr11 w (k := 11) rfl)
              have D25 := Lib.hid (fun w => down_t (n := 25) (by omega) hr25 w (k := 25) rfl)
              have D2 := Lib.hid (fun w => down_t (n := 2) (by omega) hr2 w (k := 2) rfl)
              have D13 := Lib.hid (fun w => down_t (n := 13) (by omega) hr13 w (k := 13) rfl)
              have D22 := Lib.hid (fun w => down_t (n := 22) (by omega) hr22 w (k := 22) rfl)
              have BB1 := Lib.hid (fun w => both_s hb1 w)
              have BB0 := Lib.hid (fun w => both_s hb0 w)
              obtain ⟨ch, hch⟩ : ∃ y, choice e f gg = y := ⟨_, rfl⟩
              obtain ⟨mo, hmo⟩ : ∃ y, most a b c = y := ⟨_, rfl⟩
              have HT := Lib.hid (ref_t hh b1 e f gg kw ww)
              have HU := Lib.hid (ref_u b0 a b c)
              have HRd := Lib.hid (show St.round ⟨a, b, c, d, e, f, gg, hh⟩ kw ww = ⟨hh + b1 + ch + kw + ww + (b0 + mo), a, b, c, d + (hh + b1 + ch + kw + ww), e, f, gg⟩ by rw [← hch, ← hmo, ← hB1, ← hB0]; rfl)
              rw [hch] at HT
              rw [hmo] at HU
              obtain ⟨t, ht⟩ : ∃ t, hh + b1 + ch + kw + ww = t := ⟨_, rfl⟩
              obtain ⟨u, hu⟩ : ∃ u, b0 + mo = u := ⟨_, rfl⟩
              rw [ht] at HT HRd
              rw [hu] at HU HRd
              clear hr6 hr11 hr25 hr2 hr13 hr22 hb1 hb0 hB1 hB0 hch hmo ht hu
              go_upto_region 21 with fail
              refine region_still (by kernel_rfl) (by kernel_rfl) ?_
              iterate 4 still_step
              still_call (D6.out _)
              iterate 2 still_step
              still_call (D11.out _)
              iterate 2 still_step
              still_call (D25.out _)
              still_call (BB1.out _)
              iterate 23 still_step
              refine wpStill_nil ?_
              go_upto_region 22 with fail
              rw [HT.out]
              refine region_still (by kernel_rfl) (by kernel_rfl) ?_
              iterate 2 still_step
              still_call (D2.out _)
              iterate 2 still_step
              still_call (D13.out _)
              iterate 2 still_step
              still_call (D22.out _)
              still_call (BB0.out _)
              iterate 19 still_step
              refine wpStill_nil ?_
              go_upto_region 23 with fail
              rw [HU.out]
              go_wp2_with fail
              rw [add_m t u, add_m d t]
              have HR2 := Lib.hid (rowSt8 HR.out (t + u) a b c (d + t) e f gg)
              have HRw2 := Lib.hid (rowOther8 HRw.out (show wb ≠ aa by have := HWa.out; omega) (t + u) a b c (d + t) e f gg)
              have HQ3 := Lib.hid (below8 HQ2.out HXa.out (t + u) a b c (d + t) e f gg)
              generalize t + u = tu at *
              generalize d + t = dt at *
              go_roundw
              case rel => exact ⟨i + 1, by go_num, by omega, Lib.hid (by rw [HN1.out, HRd.out]; exact rowIs_drew HR2.out), Lib.hid (rowIs_drew HRw2.out), Lib.hid HQ3.out.drew⟩
              case measure => simp [intOf]; omega
            · obtain rfl : i = 64 := by omega
              have HF := Lib.hid HR.out
              have HFq := Lib.hid HQ2.out
              clear HR HRw HQ2
              go_wp2_with fail
              go_meet
              case rel => exact ⟨_, rfl, HF, HFq⟩
        case rest =>
          obtain ⟨wy, rfl, HRc, HQc⟩ := hcut
          clear HRa HQa HRb
          obtain ⟨cur, hcur⟩ : ∃ k, st.rounds blk 64 = k := ⟨_, rfl⟩
          rw [hcur] at HRc
          have HTk : Hid (st.add cur = st.take blk) := Lib.hid (by rw [← hcur]; exact take_def st blk)
          have HSy : Hid (RowSt wy hb st) := Lib.hid (rowSt_later HSt.out HQc.out)
          have HBy2 : Hid (BRow wy (.slice (some ⟨ab, 0, none⟩) n ca) all) := Lib.hid (HB.out.below HQc.out)
          have HZy : Hid (wy.rowIs w.heap.size 38 32 (fun _ => .int .u8 0)) := Lib.hid (World.rowIs.of_block HZ.out (HQc.out.block _ HZ.out.lt))
          have HQy : Hid (Below w.heap.size w wy) := Lib.hid (HQ.out.trans (HQc.out.mono HQ.out.size))
          have HhbA : Hid (hb < aa ∧ hb ≠ ab ∧ w.heap.size < hb) := Lib.hid (by
            have h1 := HSt.out.lt
            have h2 := HXa.out
            have h3 := HAb.out.1
            have h4 := HHb.out
            have h5 := HS0.out
            omega)
          clear hcur HSt HB HZ HQ HQc
          have hw64 : IntKind.i64.wrap ((a0 : Int) + 64) = (a0 : Int) + 64 := IntWalk.i64_in _ (by omega)
          go_wp2_with fail
          go_loopw [192] (fun t wr => ∃ i : Nat, t = .int .i64 (i : Int) ∧ i ≤ 8 ∧ Hid (RowSt wr aa cur) ∧ Hid (wr.rowIs hb 108 8 (addR st cur i)) ∧ Hid (wy.grownBy wr (some hb))) (fun t _ => 8 - (intOf t).toNat)
          case atStart => exact ⟨0, rfl, by omega, HRc, Lib.hid (HSy.out.congr fun j _ => (addR_zero st cur j).symm), Lib.hid (World.grownBy.refl _ _)⟩
          case round =>
            obtain ⟨i, rfl, hi, HR2, HS2, HG2⟩ := hrel
            by_cases hi8 : i < 8
            · have hi8' : (i : Int) < 8 := by omega
              have hcl : wr.cell? ⟨aa, i, none⟩ = some (wV (cur.list.getD i 0)) := HR2.out.cell hi8
              have hcs : wr.cell? ⟨hb, i, none⟩ = some (wV (st.list.getD i 0)) := (HS2.out.cell (by omega)).trans (by unfold addR; simp)
              have hfs := HS2.out.frozen i
              have hgs := HS2.out.lt
              have HSn := Lib.hid ((HS2.out.set i (wV (st.list.getD i 0 + cur.list.getD i 0))).congr fun j _ => addR_next st cur i j hi8)
              have HRn := Lib.hid (HR2.out.setOther (a := ⟨hb, i, none⟩) (by show aa ≠ hb; have := HhbA.out; omega) (wV (st.list.getD i 0 + cur.list.getD i 0)))
              have HGn := Lib.hid (grown_set HG2.out i (wV (st.list.getD i 0 + cur.list.getD i 0)))
              generalize st.list.getD i 0 = x at *
              generalize cur.list.getD i 0 = y at *
              go_wp2_with fail
              go_region
              rw [add_m x y]
              generalize x + y = z at *
              go_wp2_with fail
              go_roundw
              case rel => exact ⟨i + 1, by go_num, by omega, Lib.hid (rowIs_drew HRn.out), Lib.hid (rowIs_drew HSn.out), Lib.hid (grown_drew HGn.out)⟩
              case measure => simp [intOf]; omega
            · obtain rfl : i = 8 := by omega
              have HSf : Hid (RowSt wr hb (St.begin.blocks (all.take (64 * (k + 1))))) := Lib.hid (by
                rw [blocks_take all k (by have := HK64.out; have := HA0.out; have := HN.out; omega), HA0.out, HStE.out, HBlk.out, ← HTk.out]
                exact HS2.out.congr fun j hj => addR_all st cur j hj)
              have HBf : Hid (BRow wr (.slice (some ⟨ab, 0, none⟩) n ca) all) := Lib.hid (HBy2.out.grown HG2.out (by have := HhbA.out; intro e; injection e with e; have e2 : ab = hb := e; omega))
              have HZf : Hid (wr.rowIs w.heap.size 38 32 (fun _ => .int .u8 0)) := Lib.hid (World.rowIs.of_block HZy.out (HG2.out.block _ HZy.out.lt (by intro e; injection e with e; have := HhbA.out; omega)))
              have HQf : Hid (Below w.heap.size w wr) := Lib.hid (HQy.out.trans ((Below.refl _ _).grown HG2.out HQy.out.size (fun q hq => by injection hq with hq; have := HhbA.out; omega)))
              clear HR2 HS2 HG2
              go_wp2_with fail
              go_roundw
              case rel => exact ⟨k + 1, by have := HA0.out; congr 1; omega, by have := HA0.out; have := HK64.out; have := HN.out; omega, HSf, HBf, HZf, HQf⟩
              case measure => simp [intOf]; omega
    · obtain rfl : a0 = n := by omega
      have htk : all.take a0 = all := List.take_of_length_le (by rw [HN.out]; exact Nat.le_refl _)
      rw [htk] at HSt
      obtain ⟨stf, hstf⟩ : ∃ x, St.begin.blocks all = x := ⟨_, rfl⟩
      rw [hstf] at HSt
      have HSum : Hid (((sum p).map fun c => Value.int .u8 (c.toNat : Int)) = hsumV stf) := Lib.hid (by rw [← hstf, ← HAll.out]; rfl)
      have HR5 := Lib.hid (hzero32 wr)
      have HS5 : Hid (RowSt (wr.alloc hob32) hb stf) := Lib.hid (World.rowIs.alloc HSt.out _)
      have HZ5 : Hid ((wr.alloc hob32).rowIs w.heap.size 38 32 (fun _ => .int .u8 0)) := Lib.hid (World.rowIs.alloc HZ.out _)
      have HB5 : Hid (Below w.heap.size w (wr.alloc hob32)) := Lib.hid (HQ.out.alloc HQ.out.size _)
      have HHo : Hid (hb < wr.heap.size ∧ w.heap.size < wr.heap.size) := Lib.hid ⟨HSt.out.lt, HZ.out.lt⟩
      clear htk hstf HSt HB HZ HQ
      go_wp2_with fail
      obtain ⟨W5, hW5⟩ : ∃ W5, wr.alloc hob32 = W5 := ⟨_, rfl⟩
      rw [hW5] at HR5 HS5 HZ5 HB5
      unfold hob32 at hW5
      rw [hW5]
      clear hW5
      obtain ⟨oo, hoo⟩ : ∃ oo, wr.heap.size = oo := ⟨_, rfl⟩
      rw [hoo] at HR5 HHo ⊢
      clear hoo
      go_loopw [205] (fun t wr => ∃ i : Nat, t = .int .i64 (i : Int) ∧ i ≤ 8 ∧ Hid (wr.rowIs oo 38 32 (hcell stf (4 * i))) ∧ Hid (RowSt wr hb stf) ∧ Hid (wr.rowIs w.heap.size 38 32 (fun _ => .int .u8 0)) ∧ Hid (Below w.heap.size w wr)) (fun t _ => 8 - (intOf t).toNat)
      case atStart => exact ⟨0, rfl, by omega, Lib.hid (HR5.out.congr fun j _ => by simp [hcell]), HS5, HZ5, HB5⟩
      case round =>
        obtain ⟨i, rfl, hi, HR, HSt, HZ, HQ⟩ := hrel
        clear HR5 HS5 HZ5 HB5
        by_cases hi8 : i < 8
        · have hi8' : (i : Int) < 8 := by omega
          have hch : wr.cell? ⟨hb, i, none⟩ = some (wV (stf.list.getD i 0)) := HSt.out.cell hi8
          have hxl := (stf.list.getD i 0).isLt
          obtain ⟨m, hm⟩ : ∃ m, (stf.list.getD i 0).toNat = m := ⟨_, rfl⟩
          unfold wV at hch
          rw [hm] at hch hxl
          have HM := Lib.hid hm
          clear hm
          have hmul : IntKind.i64.wrap (4 * (i : Int)) = 4 * (i : Int) := IntWalk.i64_in _ (by omega)
          go_wp2_with fail
          go_loopw [18, 19] (fun x t wr => ∃ j : Nat, t = .int .i64 (3 - (j : Int)) ∧ j ≤ 4 ∧ x = .int .u32 ((m / 256 ^ j : Nat) : Int) ∧ Hid (wr.rowIs oo 38 32 (ocell stf i j)) ∧ Hid (RowSt wr hb stf) ∧ Hid (wr.rowIs w.heap.size 38 32 (fun _ => .int .u8 0)) ∧ Hid (Below w.heap.size w wr)) (fun _ t _ => (intOf t + 1).toNat)
          case atStart => exact ⟨0, rfl, by omega, by simp, Lib.hid (HR.out.congr fun j _ => (ocell_zero stf i j).symm), HSt, HZ, HQ⟩
          case round =>
            obtain ⟨j, rfl, hj, rfl, HR1, HSt1, HZ1, HQ1⟩ := hrel
            clear HR HSt HZ HQ hch
            by_cases hj4 : j < 4
            · obtain ⟨kk, hkk⟩ : ∃ k, 3 - j = k := ⟨_, rfl⟩
              have hkI : (3 : Int) - (j : Int) = (kk : Int) := by omega
              have HKI := Lib.hid hkI
              rw [hkI]
              have hk1 : IntKind.i64.wrap ((kk : Int) - 1) = (kk : Int) - 1 := IntWalk.i64_in _ (by omega)
              obtain ⟨q, hq⟩ : ∃ q, 4 * i + kk = q := ⟨_, rfl⟩
              have hsum : IntKind.i64.wrap (4 * (i : Int) + (kk : Int)) = (q : Int) := by rw [IntWalk.i64_in _ (by omega)]; omega
              have hq32 : (q : Int) < 32 := by omega
              have hq0 : (0 : Int) ≤ (q : Int) := by omega
              have hcr : wr.cell? ⟨oo, q, none⟩ = some (.int .u8 0) := (HR1.out.cell (by omega)).trans (by rw [ocell_here stf i j q (by omega) (by omega)])
              have hfr := HR1.out.frozen q
              have hlt := HR1.out.lt
              have hbv := ref_byte stf i j q (by omega) (by omega) (by omega)
              rw [HM.out] at hbv
              have hyl : m / 256 ^ j < 4294967296 := Nat.lt_of_le_of_lt (Nat.div_le_self _ _) hxl
              have hnx : m / 256 ^ (j + 1) = m / 256 ^ j / 256 := by rw [Nat.pow_succ, Nat.div_div_eq_div_mul]
              obtain ⟨y, hy⟩ : ∃ y, m / 256 ^ j = y := ⟨_, rfl⟩
              rw [hy] at hbv hyl hnx ⊢
              have hyI : (y : Int) < 4294967296 := by omega
              have HRn := Lib.hid ((HR1.out.set q (.int .u8 ((Sha.byteOf stf q).toNat : Int))).congr fun z _ => ocell_next stf i j q (by omega) hj4 z)
              have HSn := Lib.hid (World.rowIs.setOther HSt1.out (a := ⟨oo, q, none⟩) (by show hb ≠ oo; have := HHo.out; omega) (.int .u8 ((Sha.byteOf stf q).toNat : Int)))
              have HZn := Lib.hid (World.rowIs.setOther HZ1.out (a := ⟨oo, q, none⟩) (by show w.heap.size ≠ oo; have := HHo.out; omega) (.int .u8 ((Sha.byteOf stf q).toNat : Int)))
              have HQn : Hid (Below w.heap.size w (wr.setCell ⟨oo, q, none⟩ (.int .u8 ((Sha.byteOf stf q).toNat : Int)))) := Lib.hid (HQ1.out.setCell (by show w.heap.size ≤ oo; have := HHo.out; omega) _)
              obtain ⟨bb, hbb⟩ : ∃ bb, Sha.byteOf stf q = bb := ⟨_, rfl⟩
              rw [hbb] at HRn HSn HZn HQn hbv
              have HBv := Lib.hid hbv
              have HNx := Lib.hid hnx
              have hkn : (0 : Int) ≤ (kk : Int) := by omega
              clear hbb hbv hy hnx hq hkI hyl hkk hj4
              go_wp2_with fail
              rw [HBv.out]
              go_roundw
              case rel => exact ⟨j + 1, congrArg (Value.int IntKind.i64) (by have := HKI.out; omega), by have := HKI.out; omega, congrArg (Value.int IntKind.u32) (by rw [HNx.out]; rfl), HRn, HSn, HZn, HQn⟩
              case measure => simp [intOf]
            · obtain rfl : j = 4 := by omega
              have HRe := Lib.hid (HR1.out.congr fun z _ => ocell_end stf i z)
              clear HR1
              go_wp2_with fail
              go_roundw
              case rel => exact ⟨i + 1, by go_num, by omega, HRe, HSt1, HZ1, HQ1⟩
              case measure => simp [intOf]; omega
        · obtain rfl : i = 8 := by omega
          have HRg := Lib.hid (show wr.rangeAt oo 0 (hsumV stf) by rw [hsumV_eq]; exact rowIs_range (HR.out.congr fun j hj => hcell_all stf j hj))
          have HTh := Lib.hid (show wr.there w.heap.size 0 (hsumV stf).length by rw [hsumV_length]; exact rowIs_there HZ.out)
          have HI := Lib.hid (show (Tryd.prog.info? 38).map (·.size) = some (hsumV stf).length by rw [hsumV_length]; exact hinfo32)
          have HI2 := Lib.hid (show (Tryd.prog.info? 38).map (·.size) = some (hsumV stf).toArray.size by rw [List.size_toArray, hsumV_length]; exact hinfo32)
          have HO := Lib.hid (all_oneCell_toArray (hsumV_one stf))
          have HRr := Lib.hid (World.rangeAt_setCells_same wr w.heap.size 0 (hsumV stf) HTh.out)
          have HBf := Lib.hid HQ.out
          obtain ⟨ws, hws⟩ : ∃ ws, hsumV stf = ws := ⟨_, rfl⟩
          rw [hws] at HRg HTh HI HI2 HO HRr HSum
          clear hws HR HSt HZ HQ
          go_wp2_with (first
            | refine wpList_load_mid rfl 38 _ rfl oo 0 rfl ws (.array 32 5) HRg.out Tryd.underlying38 rfl HI.out ?_
            | refine wpList_store_mid rfl 38 _ _ rfl w.heap.size 0 ws.toArray rfl rfl HTh.out HI2.out HO.out ?_)
          exact bodyPost_ret (v := .agg ws.toArray) (results_cell_mid rfl _ _ w.heap.size ws (.array 32 5) rfl HRr.out Tryd.underlying38 rfl HI.out) rfl ⟨by rw [HSum.out], below_setCells (Nat.le_refl _) _ _ _ HBf.out⟩
end Go.Proofs.YthdbhajpjkkehaaDoor
