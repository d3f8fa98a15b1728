/- digest.words: the words of a block. -/
import Derived.Test.YthdbhajpjkkehaaDoorLen
import Derived.Test.YthdbhajpjkkehaaDoorRead
import Derived.Deep.MidRow
import Derived.StillTailTactics
namespace Go.Proofs.YthdbhajpjkkehaaDoor
open Go.RowKit Go.Lib Sha
set_option linter.unusedVariables false
set_option linter.unusedSimpArgs false

theorem frame83 {a : Act} {v0 v2 v3 v4 : Value} (hs : a.tmps.size = 83) (hd : a.defers = []) (h0 : a.tmps.getD 0 undef = v0) (h2 : a.tmps.getD 2 undef = v2) (h3 : a.tmps.getD 3 undef = v3) (h4 : a.tmps.getD 4 undef = v4) :
    ∃ us : Nat → Value, a = { tmps := #[v0, us 1, v2, v3, v4, us 5, us 6, us 7, us 8, us 9, us 10, us 11, us 12, us 13, us 14, us 15, us 16, us 17, us 18, us 19, us 20, us 21, us 22, us 23, us 24, us 25, us 26, us 27, us 28, us 29, us 30, us 31, us 32, us 33, us 34, us 35, us 36, us 37, us 38, us 39, us 40, us 41, us 42, us 43, us 44, us 45, us 46, us 47, us 48, us 49, us 50, us 51, us 52, us 53, us 54, us 55, us 56, us 57, us 58, us 59, us 60, us 61, us 62, us 63, us 64, us 65, us 66, us 67, us 68, us 69, us 70, us 71, us 72, us 73, us 74, us 75, us 76, us 77, us 78, us 79, us 80, us 81, us 82], defers := [] } := by
  obtain ⟨A, d⟩ := a
  simp only at hs hd h0 h2 h3 h4
  subst hd
  refine ⟨fun i => A.getD i undef, ?_⟩
  have e : A = ((List.range 83).map fun i => A.getD i undef).toArray := by
    apply Array.ext
    · simp [hs]
    · intro i h1 h2
      simp [Array.getD, h1]
  rw [← h0, ← h2, ← h3, ← h4]
  conv => lhs; rw [e]
  rfl

theorem wp_scope_once {P : Program} {a : Act} {w : World} {Q : Exit → Act → World → Prop} {c rest : Code} (l : Nat) (J : Act → World → Prop) (μ : Act → World → Nat) (hf : findLabel c l = some (Code.skip.seq rest))
    (pass : ∀ a w, J a w → rest.wp P (Exit.jump l (fun a' w' => J a' w' ∧ μ a' w' < μ a w) Q) a w)
    (first : (∀ a w, J a w → rest.wp P (Exit.jump l J Q) a w) → c.wp P (Exit.jump l J Q) a w) : (Code.scope c).wp P Q a w :=
  wp_scope_jumps l J μ hf (first fun a w h => wp_mono (pass a w h) (by
    intro e a' w' he
    cases e <;> first | exact ⟨he.1, he.2.1⟩ | exact he)) (fun a w h => wp_seq (wp_skip (pass a w h)))
/-- The words so far, and a part of the next. -/
def wcell (p : List UInt8) (i : Nat) (x : Wd) (j : Nat) : Value := wV (if j < i then word p j else if j = i then x else 0)
theorem wcell_set (p : List UInt8) (i : Nat) (x y : Wd) (j : Nat) : (if j = i then wV y else wcell p i x j) = wcell p i y j := by
  unfold wcell
  by_cases h : j = i
  · subst h; simp
  · simp [h]
theorem wcell_next (p : List UInt8) (i : Nat) (j : Nat) : wcell p i (word p i) j = wcell p (i + 1) 0 j := by
  unfold wcell
  by_cases h : j < i
  · simp [h, show j < i + 1 by omega]
  · by_cases h2 : j = i
    · subst h2; simp
    · simp [h, h2, show ¬ j < i + 1 by omega]
theorem BRow.block {w : World} {A : Option Addr} {n c : Nat} {l : List UInt8} (h : BRow w (.slice A n c) l) (hn : 0 < n) :
    ∃ g o, A = some ⟨g, o, none⟩ ∧ g < w.heap.size ∧ ∀ k, k < n → w.cell? ⟨g, o + k, none⟩ = some (.int .u8 ((l.getD k 0).toNat : Int)) := by
  obtain ⟨A', c', e, h1, h2, h3⟩ := h
  cases e
  rcases h3 with h3 | ⟨g, o, rfl, hc⟩
  · subst h3; simp at hn
  · exact ⟨g, o, rfl, World.block_lt_of_cell? w _ (hc 0 hn), hc⟩
theorem be_step (l : List UInt8) (i k : Nat) (h : 4 * i + k < l.length) (hk : k < 4) : bits .or .u32 (((be l i k).toNat : Int) * 256 % 4294967296) ((l.getD (4 * i + k) 0).toNat : Int) = ((be l i (k + 1)).toNat : Int) := by
  have hb := (l.getD (4 * i + k) 0).toNat_lt
  have h1 := beN_lt l i k
  have h2 : 256 ^ k ≤ 256 ^ 3 := Nat.pow_le_pow_right (by decide) (by omega)
  rw [be_toNat l i k (by omega), be_toNat l i (k + 1) (by omega), beN_succ l i k h]
  generalize beN l i k = n at *
  generalize (l.getD (4 * i + k) 0).toNat = b at *
  have e1 : (n : Int) * 256 % 4294967296 = ((n * 256 : Nat) : Int) := by omega
  rw [e1, u32_or_nat _ _ (by omega) (by omega), nat_join 8 _ _ (by omega) (by omega)]
theorem isW_still {w : World} {x : Wd} (e : Ending) (w' : World) (h : IsW w x e w') : e = .returned (wV x) ∧ w' = w := ⟨h.1, h.2.symm⟩
theorem region_tail {P : Program} {id : Nat} {Q : Exit → Act → World → Prop} {a : Act} {w : World} {l : List Oper} (n : Nat) (hm : P.follows .mixedOrders = true) (hB : Region.lexTailB .any l.toArray n = true)
    (h : wpStill P l.toArray w.drew (fun a' => wpList P l.toArray Q (l.drop n) a' w.drew) (l.take n) a) : (Code.region id l.toArray true).wp P Q a w := wp_region_still_tail n hm hB h
theorem shr3 (x : Wd) : (x.toNat : Int) / (8 : Int) = ((x >>> 3).toNat : Int) := by rw [← shr_w]; rfl
theorem shr10 (x : Wd) : (x.toNat : Int) / (1024 : Int) = ((x >>> 10).toNat : Int) := by rw [← shr_w]; rfl
def obj64 : Obj := .cells #[.int .u32 0, .int .u32 0, .int .u32 0, .int .u32 0, .int .u32 0, .int .u32 0, .int .u32 0, .int .u32 0, .int .u32 0, .int .u32 0, .int .u32 0, .int .u32 0, .int .u32 0, .int .u32 0, .int .u32 0, .int .u32 0, .int .u32 0, .int .u32 0, .int .u32 0, .int .u32 0, .int .u32 0, .int .u32 0, .int .u32 0, .int .u32 0, .int .u32 0, .int .u32 0, .int .u32 0, .int .u32 0, .int .u32 0, .int .u32 0, .int .u32 0, .int .u32 0, .int .u32 0, .int .u32 0, .int .u32 0, .int .u32 0, .int .u32 0, .int .u32 0, .int .u32 0, .int .u32 0, .int .u32 0, .int .u32 0, .int .u32 0, .int .u32 0, .int .u32 0, .int .u32 0, .int .u32 0, .int .u32 0, .int .u32 0, .int .u32 0, .int .u32 0, .int .u32 0, .int .u32 0, .int .u32 0, .int .u32 0, .int .u32 0, .int .u32 0, .int .u32 0, .int .u32 0, .int .u32 0, .int .u32 0, .int .u32 0, .int .u32 0, .int .u32 0] 114
theorem zero64 (w : World) : (w.alloc obj64).rowIs w.heap.size 114 64 (fun _ => wV 0) :=
  World.rowIs_alloc w _ _ _ (fun i hi => by
    have h : i < 64 := hi
    have e : (#[.int .u32 0, .int .u32 0, .int .u32 0, .int .u32 0, .int .u32 0, .int .u32 0, .int .u32 0, .int .u32 0, .int .u32 0, .int .u32 0, .int .u32 0, .int .u32 0, .int .u32 0, .int .u32 0, .int .u32 0, .int .u32 0, .int .u32 0, .int .u32 0, .int .u32 0, .int .u32 0, .int .u32 0, .int .u32 0, .int .u32 0, .int .u32 0, .int .u32 0, .int .u32 0, .int .u32 0, .int .u32 0, .int .u32 0, .int .u32 0, .int .u32 0, .int .u32 0, .int .u32 0, .int .u32 0, .int .u32 0, .int .u32 0, .int .u32 0, .int .u32 0, .int .u32 0, .int .u32 0, .int .u32 0, .int .u32 0, .int .u32 0, .int .u32 0, .int .u32 0, .int .u32 0, .int .u32 0, .int .u32 0, .int .u32 0, .int .u32 0, .int .u32 0, .int .u32 0, .int .u32 0, .int .u32 0, .int .u32 0, .int .u32 0, .int .u32 0, .int .u32 0, .int .u32 0, .int .u32 0, .int .u32 0, .int .u32 0, .int .u32 0, .int .u32 0] : Array Value) = Array.replicate 64 (.int .u32 0) := rfl
    rw [e, Array.getElem?_replicate, if_pos h]; rfl)

theorem wcell_done (p : List UInt8) (i : Nat) (x y : Wd) (hx : word p i = x) (j : Nat) : (if j = i then wV x else wcell p i y j) = wcell p (i + 1) 0 j := by
  rw [wcell_set, ← hx, wcell_next]
theorem be_z (p : List UInt8) (i : Nat) : be p i 0 = 0 := rfl
theorem info64 : (Tryd.prog.info? 114).map (·.size) = some 64 := by kernel_rfl
def wordsV (p : List UInt8) : List Value := (List.range 64).map fun i => wV (word p i)
theorem wordsV_length (p : List UInt8) : (wordsV p).length = 64 := by simp [wordsV]
theorem wordsV_one (p : List UInt8) : ∀ v ∈ wordsV p, v.oneCell' = true := by
  intro v hv
  obtain ⟨i, _, rfl⟩ := List.mem_map.1 hv
  rfl
theorem wcell_all (p : List UInt8) (x : Wd) (j : Nat) (h : j < 64) : wcell p 64 x j = wV (word p j) := by
  unfold wcell; rw [if_pos h]
attribute [local irreducible] word sched be sig0 sig1 wcell
set_option maxHeartbeats 4000000 in
set_option maxRecDepth 100000 in
theorem words_calls (v : Value) (l : List UInt8) (w : World) (h : BRow w v l) (hl : l.length = 64) :
    Calls Tryd.prog 57 #[v] w fun e w' => e = .returned (.agg (wordsV l).toArray) ∧ Below w.heap.size w w' := by
  obtain ⟨A, c, rfl, a1, a2, -⟩ := id h
  unfold maxLen at a2
  have HR := Lib.hid h
  rw [hl] at HR a1 ⊢
  have HL := Lib.hid hl
  clear hl h
  obtain ⟨g, o, rfl, hg, hcell⟩ := HR.out.block (by omega)
  have HC := Lib.hid hcell
  clear hcell HR
  have Z1 := (zero64 w).alloc obj64
  have Z2 := zero64 (w.alloc obj64)
  rw [World.size_alloc] at Z2
  have Q0 : Below w.heap.size w ((w.alloc obj64).alloc obj64) := ((Below.refl _ _).alloc (Nat.le_refl _) _).alloc (by simp) _
  go_enter Tryd.func57, Tryd.ntmps57
  go_wp2_with fail
  refine wp_scope_once 0 (fun a' w' => ∃ i : Nat, i < 64 ∧ Hid (w'.rowIs w.heap.size 114 64 (fun _ => wV 0)) ∧ Hid (w'.rowIs (w.heap.size + 1) 114 64 (wcell l i 0)) ∧ Below w.heap.size w w' ∧ a'.tmps.size = 83 ∧ a'.defers = [] ∧ a'.tmps.getD 0 undef = .slice (some ⟨g, o, none⟩) 64 c ∧ a'.tmps.getD 2 undef = .pointer (some ⟨w.heap.size, 0, none⟩) ∧ a'.tmps.getD 3 undef = .pointer (some ⟨w.heap.size + 1, 0, none⟩) ∧ a'.tmps.getD 4 undef = .int .i64 (i : Int)) (fun a' _ => 64 - (intOf (a'.tmps.getD 4 undef)).toNat) rfl ?pass ?first
  case first =>
    intro HJ
    have HHJ := Lib.hid HJ
    clear HJ
    go_wp2_with fail
    go_step3
    simp only [Exit.then]
    refine ‹∀ (a : Act) (w : World), Code.wp _ (Code.seq _ _) _ a w → _› _ _ (HHJ.out _ _ ⟨0, by omega, Lib.hid Z1, Lib.hid (Z2.congr fun j _ => by unfold wcell; simp), Q0, rfl, rfl, rfl, rfl, rfl, rfl⟩)
  case pass =>
    rintro a' wa ⟨i, hi, HZ, HB, hb, hz, hd, z0, z2, z3, z4⟩
    obtain ⟨us, rfl⟩ := frame83 hz hd z0 z2 z3 z4
    clear hz hd z0 z2 z3 z4 Z1 Z2 Q0
    have hiI : (i : Int) < 64 := by omega
    by_cases h16 : i < 16
    · have h16' : (i : Int) < 16 := by omega
      have m1 : IntKind.i64.wrap (4 * (i : Int)) = 4 * (i : Int) := IntWalk.i64_in _ (by omega)
      have m2 : IntKind.i64.wrap (4 * (i : Int) + 4) = 4 * (i : Int) + 4 := IntWalk.i64_in _ (by omega)
      have hcI : 4 * (i : Int) + 4 ≤ (c : Int) := by omega
      have hcN : 4 * i < c := by omega
      have h44 : 4 * i + 4 - 4 * i = 4 := by omega
      go_upto_region 5 with fail
      clear h44 hcI hcN m1 m2
      go_loopw [19] (fun t wx => ∃ k : Nat, t = .int .i64 k ∧ k ≤ 4 ∧ Hid (wx.rowIs w.heap.size 114 64 (fun _ => wV 0)) ∧ Hid (wx.rowIs (w.heap.size + 1) 114 64 (wcell l i (be l i k))) ∧ Below w.heap.size w wx) (fun t _ => 4 - (intOf t).toNat)
      case atStart => exact ⟨0, rfl, by omega, HZ, Lib.hid (by rw [be_z]; exact HB.out), hb⟩
      case round =>
        obtain ⟨k, rfl, hk, HZ1, HB1, hb1⟩ := hrel
        by_cases hk4 : k < 4
        · have hk4' : (k : Int) < 4 := by omega
          have hk5 : k < 4 * i + 4 - 4 * i := by omega
          have hcb : wr.cell? ⟨g, o + 4 * i + k, none⟩ = some (.int .u8 ((l.getD (4 * i + k) 0).toNat : Int)) := by
            rw [Nat.add_assoc]
            exact (hb1.cell (p := ⟨g, o + (4 * i + k), none⟩) hg).trans (HC.out (4 * i + k) (by omega))
          have hlt := (l.getD (4 * i + k) 0).toNat_lt
          have hcw : wr.cell? ⟨w.heap.size + 1, i, none⟩ = some (wcell l i (be l i k) i) := HB1.out.cell hi
          have hcw2 : wcell l i (be l i k) i = wV (be l i k) := by unfold wcell; simp
          rw [hcw2] at hcw
          have hsz := HB1.out.lt
          have hfz := HB1.out.frozen i
          clear hcw2
          have hst := be_step l i k (by rw [HL.out]; omega) hk4
          have HB2 := Lib.hid (HB1.out.set i (wV (be l i (k + 1))))
          have HZ2 := Lib.hid (HZ1.out.setOther (a := ⟨w.heap.size + 1, i, none⟩) (by show w.heap.size ≠ w.heap.size + 1; omega) (wV (be l i (k + 1))))
          have hb2 : Below w.heap.size w (wr.setCell ⟨w.heap.size + 1, i, none⟩ (wV (be l i (k + 1)))) := hb1.setCell (by simp) _
          generalize l.getD (4 * i + k) 0 = bb at *
          generalize (be l i k) = x0 at *
          have HST := Lib.hid hst
          clear hst
          go_wp2_with fail
          rw [HST.out]
          go_roundw
          case rel => exact ⟨k + 1, by go_num, by omega, HZ2, Lib.hid (HB2.out.congr fun j _ => wcell_set l i x0 _ j), hb2⟩
          case measure => simp [intOf]; omega
        · have hk44 : k = 4 := by omega
          subst hk44
          clear HB HZ hb
          rw [← word_lo l i h16] at HB1
          have hw1 : IntKind.i64.wrap ((i : Int) + 1) = (i : Int) + 1 := IntWalk.i64_in _ (by omega)
          have h64 : (i : Int) + 1 < 64 := by omega
          have HB2 := Lib.hid (HB1.out.congr fun j _ => wcell_next l i j)
          go_wp2_with fail
          go_step3
          exact ⟨rfl, ⟨i + 1, by omega, HZ1, HB2, hb1, rfl, rfl, rfl, rfl, rfl, rfl⟩, by simp [intOf]; omega⟩
    · have h16' : ¬ (i : Int) < 16 := by omega
      have m15 : (i : Int) - 15 = ((i - 15 : Nat) : Int) := by omega
      have m2 : (i : Int) - 2 = ((i - 2 : Nat) : Int) := by omega
      have m16 : (i : Int) - 16 = ((i - 16 : Nat) : Int) := by omega
      have m7 : (i : Int) - 7 = ((i - 7 : Nat) : Int) := by omega
      have o15 : IntKind.i64.wrap ((i - 15 : Nat) : Int) = ((i - 15 : Nat) : Int) := IntWalk.i64_in _ (by omega)
      have o2 : IntKind.i64.wrap ((i - 2 : Nat) : Int) = ((i - 2 : Nat) : Int) := IntWalk.i64_in _ (by omega)
      have o16 : IntKind.i64.wrap ((i - 16 : Nat) : Int) = ((i - 16 : Nat) : Int) := IntWalk.i64_in _ (by omega)
      have o7 : IntKind.i64.wrap ((i - 7 : Nat) : Int) = ((i - 7 : Nat) : Int) := IntWalk.i64_in _ (by omega)
      have hc15 : wa.cell? ⟨w.heap.size + 1, i - 15, none⟩ = some (wV (word l (i - 15))) := (HB.out.cell (by omega)).trans (by unfold wcell; rw [if_pos (by omega)])
      have hc2 : wa.cell? ⟨w.heap.size + 1, i - 2, none⟩ = some (wV (word l (i - 2))) := (HB.out.cell (by omega)).trans (by unfold wcell; rw [if_pos (by omega)])
      have hc16 : wa.cell? ⟨w.heap.size + 1, i - 16, none⟩ = some (wV (word l (i - 16))) := (HB.out.cell (by omega)).trans (by unfold wcell; rw [if_pos (by omega)])
      have hc7 : wa.cell? ⟨w.heap.size + 1, i - 7, none⟩ = some (wV (word l (i - 7))) := (HB.out.cell (by omega)).trans (by unfold wcell; rw [if_pos (by omega)])
      have HW := Lib.hid (word_hi l i (by omega) hi)
      have hsz := HB.out.lt
      have hfz := HB.out.frozen i
      have b15 : ((i - 15 : Nat) : Int) < 64 := by omega
      have b2 : ((i - 2 : Nat) : Int) < 64 := by omega
      have b16 : ((i - 16 : Nat) : Int) < 64 := by omega
      have b7 : ((i - 7 : Nat) : Int) < 64 := by omega
      have hci : wa.cell? ⟨w.heap.size + 1, i, none⟩ = some (wV 0) := (HB.out.cell hi).trans (by unfold wcell; simp)
      generalize word l (i - 15) = x15 at *
      generalize word l (i - 2) = x2 at *
      generalize word l (i - 16) = x16 at *
      generalize word l (i - 7) = x7 at *
      generalize i - 15 = i15 at *
      generalize i - 2 = i2 at *
      generalize i - 16 = i16 at *
      generalize i - 7 = i7 at *
      go_wp2_with fail
      go_region
      go_wp2_with fail
      go_region
      clear hc16 hc7 m16 m7 o16 o7 b16 b7
      rw [add_m]
      have HB2 := Lib.hid (HB.out.set i (wV (x16 + x7)))
      have HZ2 := Lib.hid (HZ.out.setOther (a := ⟨w.heap.size + 1, i, none⟩) (by show w.heap.size ≠ w.heap.size + 1; omega) (wV (x16 + x7)))
      have hb2 : Below w.heap.size w (wa.setCell ⟨w.heap.size + 1, i, none⟩ (wV (x16 + x7))).drew.drew := (hb.setCell (by simp) _).drew.drew
      obtain ⟨W1, hW1⟩ : ∃ W1, (wa.setCell ⟨w.heap.size + 1, i, none⟩ (wV (x16 + x7))).drew.drew = W1 := ⟨_, rfl⟩
      replace HB2 : Hid (W1.rowIs (w.heap.size + 1) 114 64 (wcell l i (x16 + x7))) := Lib.hid (by rw [← hW1]; exact HB2.out.congr fun j _ => wcell_set l i 0 _ j)
      replace HZ2 : Hid (W1.rowIs w.heap.size 114 64 (fun _ => wV 0)) := Lib.hid (by rw [← hW1]; exact HZ2.out)
      rw [hW1] at hb2 ⊢
      clear hW1 hc15 hc2 hci hsz hfz m15 m2 o15 o2 b15 b2 hb HB HZ
      obtain ⟨r7, hr7⟩ : ∃ r, x15.rotateRight 7 = r := ⟨_, rfl⟩
      obtain ⟨r18, hr18⟩ : ∃ r, x15.rotateRight 18 = r := ⟨_, rfl⟩
      obtain ⟨r17, hr17⟩ : ∃ r, x2.rotateRight 17 = r := ⟨_, rfl⟩
      obtain ⟨r19, hr19⟩ : ∃ r, x2.rotateRight 19 = r := ⟨_, rfl⟩
      have H7 := Lib.hid (fun w => (rot_named (n := 7) (by omega) (by omega) hr7 w (k := -7) rfl).mono isW_still)
      have H18 := Lib.hid (fun w => (rot_named (n := 18) (by omega) (by omega) hr18 w (k := -18) rfl).mono isW_still)
      have H17 := Lib.hid (fun w => (rot_named (n := 17) (by omega) (by omega) hr17 w (k := -17) rfl).mono isW_still)
      have H19 := Lib.hid (fun w => (rot_named (n := 19) (by omega) (by omega) hr19 w (k := -19) rfl).mono isW_still)
      have HS0 : Hid (sig0 x15 = r7 ^^^ r18 ^^^ (x15 >>> 3)) := Lib.hid (by unfold sig0; rw [hr7, hr18])
      have HS1 : Hid (sig1 x2 = r17 ^^^ r19 ^^^ (x2 >>> 10)) := Lib.hid (by unfold sig1; rw [hr17, hr19])
      clear hr7 hr18 hr17 hr19
      go_wp2_with fail
      obtain ⟨z7, hz7⟩ : ∃ y, x16 + x7 = y := ⟨_, rfl⟩
      rw [hz7] at HB2 HW
      clear hz7
      have hci : W1.drew.cell? ⟨w.heap.size + 1, i, none⟩ = some (wV (z7)) := (HB2.out.cell hi).trans (by unfold wcell; simp)
      have hsz : w.heap.size + 1 < W1.drew.heap.size := HB2.out.lt
      have hfz : W1.drew.frozen? ⟨w.heap.size + 1, i, none⟩ = false := HB2.out.frozen i
      refine region_tail 12 (by kernel_rfl) (by kernel_rfl) ?_
      simp only [List.take_succ_cons, List.take_zero, List.drop_succ_cons, List.drop_zero]
      iterate 4 still_step
      still_call (H7.out _)
      still_step
      still_call (H18.out _)
      iterate 5 still_step
      refine wpStill_nil ?_
      go_wp2_with fail
      rw [xor_w, shr3, xor_w, ← HS0.out, add_m z7]
      have HB3 := Lib.hid (HB2.out.set i (wV (z7 + sig0 x15)))
      have HZ3 := Lib.hid (HZ2.out.setOther (a := ⟨w.heap.size + 1, i, none⟩) (by show w.heap.size ≠ w.heap.size + 1; omega) (wV (z7 + sig0 x15)))
      have hb3 : Below w.heap.size w (W1.setCell ⟨w.heap.size + 1, i, none⟩ (wV (z7 + sig0 x15))).drew := (hb2.setCell (by simp) _).drew
      obtain ⟨W2, hW2⟩ : ∃ W2, (W1.setCell ⟨w.heap.size + 1, i, none⟩ (wV (z7 + sig0 x15))).drew = W2 := ⟨_, rfl⟩
      replace HB3 : Hid (W2.rowIs (w.heap.size + 1) 114 64 (wcell l i (z7 + sig0 x15))) := Lib.hid (by rw [← hW2]; exact HB3.out.congr fun j _ => wcell_set l i (z7) _ j)
      replace HZ3 : Hid (W2.rowIs w.heap.size 114 64 (fun _ => wV 0)) := Lib.hid (by rw [← hW2]; exact HZ3.out)
      rw [hW2] at hb3 ⊢
      clear hW2 hci hsz hfz hb2 HB2 HZ2 H7 H18
      have hci : W2.drew.cell? ⟨w.heap.size + 1, i, none⟩ = some (wV (z7 + sig0 x15)) := (HB3.out.cell hi).trans (by unfold wcell; simp)
      have hsz : w.heap.size + 1 < W2.drew.heap.size := HB3.out.lt
      have hfz : W2.drew.frozen? ⟨w.heap.size + 1, i, none⟩ = false := HB3.out.frozen i
      obtain ⟨y0, hy0⟩ : ∃ y, z7 + sig0 x15 = y := ⟨_, rfl⟩
      rw [hy0] at HB3 hci HW
      clear hy0
      refine region_tail 12 (by kernel_rfl) (by kernel_rfl) ?_
      simp only [List.take_succ_cons, List.take_zero, List.drop_succ_cons, List.drop_zero]
      iterate 4 still_step
      still_call (H17.out _)
      still_step
      still_call (H19.out _)
      iterate 5 still_step
      refine wpStill_nil ?_
      have hw1 : IntKind.i64.wrap ((i : Int) + 1) = (i : Int) + 1 := IntWalk.i64_in _ (by omega)
      by_cases h64 : i + 1 < 64
      · have h64' : (i : Int) + 1 < 64 := by omega
        go_wp2_with fail
        rw [xor_w, shr10, xor_w, ← HS1.out, add_m y0]
        go_step3
        exact ⟨rfl, ⟨i + 1, by omega, Lib.hid (HZ3.out.setOther (a := ⟨w.heap.size + 1, i, none⟩) (by show w.heap.size ≠ w.heap.size + 1; omega) _), Lib.hid ((HB3.out.set i (wV (y0 + sig1 x2))).congr fun j _ => wcell_done l i _ y0 HW.out j), (hb3.setCell (by simp) _).drew, rfl, rfl, rfl, rfl, rfl, rfl⟩, by simp [intOf]; omega⟩
      · have h64' : ¬ (i : Int) + 1 < 64 := by omega
        have HBf : ((W2.setCell ⟨w.heap.size + 1, i, none⟩ (wV (y0 + sig1 x2))).drew).rowIs (w.heap.size + 1) 114 64 (wcell l (i + 1) 0) := (HB3.out.set i (wV (y0 + sig1 x2))).congr fun j _ => wcell_done l i _ y0 HW.out j
        have HZf : ((W2.setCell ⟨w.heap.size + 1, i, none⟩ (wV (y0 + sig1 x2))).drew).rowIs w.heap.size 114 64 (fun _ => wV 0) := HZ3.out.setOther (a := ⟨w.heap.size + 1, i, none⟩) (by show w.heap.size ≠ w.heap.size + 1; omega) _
        have hbf : Below w.heap.size w (W2.setCell ⟨w.heap.size + 1, i, none⟩ (wV (y0 + sig1 x2))).drew := (hb3.setCell (by simp) _).drew
        go_upto_region 13 with fail
        rw [xor_w, shr10, xor_w, ← HS1.out, add_m y0]
        obtain ⟨W3, hW3⟩ : ∃ W3, (W2.setCell ⟨w.heap.size + 1, i, none⟩ (wV (y0 + sig1 x2))).drew = W3 := ⟨_, rfl⟩
        rw [hW3] at HBf HZf hbf ⊢
        obtain rfl : i = 63 := by omega
        clear hW3 HB3 HZ3 hb3 hci hsz hfz HW HS0 HS1 H17 H19
        have HRg := Lib.hid (show W3.rangeAt (w.heap.size + 1) 0 (wordsV l) from rowIs_range (HBf.congr fun j hj => wcell_all l 0 j hj))
        have HTh := Lib.hid (show W3.there w.heap.size 0 (wordsV l).toArray.size by have := rowIs_there HZf; simpa [wordsV_length] using this)
        have HI := Lib.hid (show (Tryd.prog.info? 114).map (·.size) = some (wordsV l).length by rw [wordsV_length]; exact info64)
        have HI2 := Lib.hid (show (Tryd.prog.info? 114).map (·.size) = some (wordsV l).toArray.size by rw [List.size_toArray, wordsV_length]; exact info64)
        have HO := Lib.hid (all_oneCell_toArray (wordsV_one l))
        have HRr := Lib.hid (World.rangeAt_setCells_same W3 w.heap.size 0 (wordsV l) (by have := HTh.out; simpa using this))
        clear HBf HZf
        obtain ⟨ws, hws⟩ : ∃ ws, wordsV l = ws := ⟨_, rfl⟩
        rw [hws] at HRg HTh HI HI2 HO HRr
        have HWs := Lib.hid hws
        clear hws
        go_wp2_with (first
          | refine wpList_load_mid rfl 114 _ rfl (w.heap.size + 1) 0 rfl ws (.array 64 23) HRg.out Tryd.underlying114 rfl HI.out ?_
          | refine wpList_store_mid rfl 114 _ _ rfl w.heap.size 0 ws.toArray rfl rfl HTh.out HI2.out HO.out ?_)
        simp only [Exit.jump]
        exact bodyPost_ret (v := .agg ws.toArray) (results_cell_mid rfl _ _ w.heap.size ws (.array 64 23) rfl HRr.out Tryd.underlying114 rfl HI.out) rfl ⟨by rw [HWs.out], below_setCells (by omega) _ _ _ hbf⟩
end Go.Proofs.YthdbhajpjkkehaaDoor
