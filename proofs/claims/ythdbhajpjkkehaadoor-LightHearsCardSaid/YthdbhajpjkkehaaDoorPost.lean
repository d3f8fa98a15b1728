/- From a call that says yes, and turns nothing that was there, to a law's row. -/
import Derived.Test.YthdbhajpjkkehaaDoorSha3
import Derived.Test.YthdbhajpjkkehaaDoorLen
import Derived.OpenShut
import Derived.Deep.MidRow
import Derived.ProofKit
import Derived.Deep.Slices
import Derived.ChangeSame
namespace Go.Proofs.YthdbhajpjkkehaaDoor
open Go.RowKit Go.Lib Sha
set_option linter.unusedVariables false
set_option linter.unusedSimpArgs false

theorem region_still {P : Program} {id : Nat} {Q : Exit → Act → World → Prop} {a : Act} {w : World} {l : List Oper} (hm : P.follows .mixedOrders = true) (hB : Region.lexB .any l.toArray = true)
    (h : wpStill P l.toArray w.drew (fun a' => Q .normal a' w.drew) l a) : (Code.region id l.toArray true).wp P Q a w := wp_region_still_lit hm hB h
/-- A sum that goes on, as it lies in memory. -/
def stC (st : St) (rv : Value) (n : Int) (i : Nat) : Value := if i < 8 then wV (st.list.getD i 0) else if i = 8 then rv else .int .u64 n
abbrev StAt (w : World) (g : Nat) (st : St) (rv : Value) (n : Int) : Prop := w.rowIs g 110 10 (stC st rv n)
def KAt (w : World) : Prop := ∀ i, i < 64 → w.cell? ⟨2, i, none⟩ = some (wV (kAt i))
theorem KAt.grown {w w' : World} {g : Nat} (h : KAt w) (hg : w.grownBy w' (some g)) (hne : 2 ≠ g) : KAt w' := fun i hi => hg.cell (h i hi) (by simpa using hne)
abbrev RowSt (w : World) (g : Nat) (st : St) : Prop := w.rowIs g 108 8 (fun i => wV (st.list.getD i 0))
def obj8 (st : St) : Obj := .cells #[.int .u32 (st.a.toNat : Int), .int .u32 (st.b.toNat : Int), .int .u32 (st.c.toNat : Int), .int .u32 (st.d.toNat : Int), .int .u32 (st.e.toNat : Int), .int .u32 (st.f.toNat : Int), .int .u32 (st.g.toNat : Int), .int .u32 (st.h.toNat : Int)] 108
theorem rowSt_new (w : World) (st : St) : RowSt (w.alloc (obj8 st)) w.heap.size st :=
  World.rowIs_alloc w _ _ _ (fun i hi => by
    have h : i < 8 := hi
    match i, h with
    | 0, _ => rfl
    | 1, _ => rfl
    | 2, _ => rfl
    | 3, _ => rfl
    | 4, _ => rfl
    | 5, _ => rfl
    | 6, _ => rfl
    | 7, _ => rfl)
theorem rowSt_later {w w' : World} {g : Nat} {st : St} (h : RowSt w g st) (hb : Below w.heap.size w w') : RowSt w' g st := World.rowIs.of_block h (hb.block _ h.lt)
theorem wordsV_at (p : List UInt8) (i : Nat) (h : i < 64) : (wordsV p)[i]? = some (wV (word p i)) := by
  unfold wordsV
  rw [List.getElem?_map, List.getElem?_range h]; rfl
theorem idx_word (cs : List Value) (i : Nat) (x : Wd) (hi : i < 64) (hc : cs[i]? = some (wV x)) (w : World) :
    (Instr.index 114 (.agg cs.toArray) (.int .i64 (i : Int))).run Tryd.prog w = .ok (wV x) w := by
  simp [Instr.index, go_sem, part, hc]
  intro h
  omega
theorem not_w (x : Wd) : bits .xor .u32 (if IntKind.u32.signed = true then -1 else IntKind.u32.max) (x.toNat : Int) = ((~~~x).toNat : Int) := by
  have e : (if IntKind.u32.signed = true then -1 else IntKind.u32.max) = (((BitVec.allOnes 32).toNat : Nat) : Int) := rfl
  rw [e, xor_w, BitVec.allOnes_xor]
theorem choice_w (e f g : Wd) : bits .xor .u32 (bits .and .u32 (e.toNat : Int) (f.toNat : Int)) (bits .and .u32 (bits .xor .u32 (if IntKind.u32.signed = true then -1 else IntKind.u32.max) (e.toNat : Int)) (g.toNat : Int)) = ((choice e f g).toNat : Int) := by
  rw [not_w, and_w, and_w, xor_w]; rfl
theorem most_w (a b c : Wd) : bits .xor .u32 (bits .xor .u32 (bits .and .u32 (a.toNat : Int) (b.toNat : Int)) (bits .and .u32 (a.toNat : Int) (c.toNat : Int))) (bits .and .u32 (b.toNat : Int) (c.toNat : Int)) = ((most a b c).toNat : Int) := by
  rw [and_w, and_w, and_w, xor_w, xor_w]; rfl
theorem add5 (x1 x2 x3 x4 x5 : Wd) : (((((x1.toNat : Int) + (x2.toNat : Int)) % 4294967296 + (x3.toNat : Int)) % 4294967296 + (x4.toNat : Int)) % 4294967296 + (x5.toNat : Int)) % 4294967296 = ((x1 + x2 + x3 + x4 + x5).toNat : Int) := by
  rw [add_m, add_m, add_m, add_m]
theorem add5w (x1 x2 x3 x4 x5 : Wd) : IntKind.u32.wrap (IntKind.u32.wrap (IntKind.u32.wrap (IntKind.u32.wrap ((x1.toNat : Int) + (x2.toNat : Int)) + (x3.toNat : Int)) + (x4.toNat : Int)) + (x5.toNat : Int)) = ((x1 + x2 + x3 + x4 + x5).toNat : Int) := by
  rw [add_w, add_w, add_w, add_w]
theorem bsig1_eq (e : Wd) : e.rotateRight 6 ^^^ e.rotateRight 11 ^^^ e.rotateRight 25 = bsig1 e := rfl
theorem bsig0_eq (e : Wd) : e.rotateRight 2 ^^^ e.rotateRight 13 ^^^ e.rotateRight 22 = bsig0 e := rfl
theorem rowIs_drew {w : World} {g n : Nat} {t : TypeId} {f : Nat → Value} (h : w.rowIs g t n f) : w.drew.rowIs g t n f := h
theorem grown_drew {g : Nat} {w w' : World} (h : w.grownBy w' (some g)) : w.grownBy w'.drew (some g) := ⟨h.os, h.tape, h.output, h.size, h.block⟩
theorem rowSt8 {w : World} {g : Nat} {s0 : St} (h : RowSt w g s0) (a b c d e f gg hh : Wd) : RowSt ((((((((w.setCell ⟨g, 0, none⟩ (wV a)).setCell ⟨g, 1, none⟩ (wV b)).setCell ⟨g, 2, none⟩ (wV c)).setCell ⟨g, 3, none⟩ (wV d)).setCell ⟨g, 4, none⟩ (wV e)).setCell ⟨g, 5, none⟩ (wV f)).setCell ⟨g, 6, none⟩ (wV gg)).setCell ⟨g, 7, none⟩ (wV hh)).drew g ⟨a, b, c, d, e, f, gg, hh⟩ :=
  by
  refine rowIs_drew ?_
  have h1 := World.rowIs.set h 0 (wV a)
  have h2 := World.rowIs.set h1 1 (wV b)
  have h3 := World.rowIs.set h2 2 (wV c)
  have h4 := World.rowIs.set h3 3 (wV d)
  have h5 := World.rowIs.set h4 4 (wV e)
  have h6 := World.rowIs.set h5 5 (wV f)
  have h7 := World.rowIs.set h6 6 (wV gg)
  have h8 := World.rowIs.set h7 7 (wV hh)
  refine World.rowIs.congr h8 (fun i hi => ?_)
  match i, hi with
  | 0, _ => simp [St.list]
  | 1, _ => simp [St.list]
  | 2, _ => simp [St.list]
  | 3, _ => simp [St.list]
  | 4, _ => simp [St.list]
  | 5, _ => simp [St.list]
  | 6, _ => simp [St.list]
  | 7, _ => simp [St.list]
theorem below8 {B : Nat} {w0 w : World} {g : Nat} (h : Below B w0 w) (hg : B ≤ g) (a b c d e f gg hh : Wd) : Below B w0 ((((((((w.setCell ⟨g, 0, none⟩ (wV a)).setCell ⟨g, 1, none⟩ (wV b)).setCell ⟨g, 2, none⟩ (wV c)).setCell ⟨g, 3, none⟩ (wV d)).setCell ⟨g, 4, none⟩ (wV e)).setCell ⟨g, 5, none⟩ (wV f)).setCell ⟨g, 6, none⟩ (wV gg)).setCell ⟨g, 7, none⟩ (wV hh)).drew :=
  ((((((((h.setCell hg _).setCell hg _).setCell hg _).setCell hg _).setCell hg _).setCell hg _).setCell hg _).setCell hg _).drew
/-- The words so far added. -/
def addC (st cur : St) (rv : Value) (n : Int) (i j : Nat) : Value := if j < i then wV ((st.add cur).list.getD j 0) else stC st rv n j
theorem addC_zero (st cur : St) (rv : Value) (n : Int) (j : Nat) : addC st cur rv n 0 j = stC st rv n j := by unfold addC; simp
theorem addC_all (st cur : St) (rv : Value) (n : Int) (j : Nat) : addC st cur rv n 8 j = stC (st.add cur) rv n j := by
  unfold addC stC
  by_cases h : j < 8 <;> simp [h]
theorem add_getD (st cur : St) (i : Nat) (h : i < 8) : (st.add cur).list.getD i 0 = st.list.getD i 0 + cur.list.getD i 0 := by
  match i, h with
  | 0, _ => rfl
  | 1, _ => rfl
  | 2, _ => rfl
  | 3, _ => rfl
  | 4, _ => rfl
  | 5, _ => rfl
  | 6, _ => rfl
  | 7, _ => rfl
theorem addC_next (st cur : St) (rv : Value) (n : Int) (i j : Nat) (h : i < 8) : (if j = i then wV (st.list.getD i 0 + cur.list.getD i 0) else addC st cur rv n i j) = addC st cur rv n (i + 1) j := by
  unfold addC
  by_cases h1 : j = i
  · subst h1
    rw [if_pos rfl, if_pos (Nat.lt_succ_self _), add_getD st cur j h]
  · by_cases h2 : j < i
    · simp [h1, h2, show j < i + 1 by omega]
    · simp [h1, h2, show ¬ j < i + 1 by omega]
theorem grown_of_below {w w' : World} (h : Below w.heap.size w w') (g : Nat) : w.grownBy w' (some g) := ⟨h.os, h.tape, h.output, h.size, fun k hk _ => h.block k hk⟩
theorem grown_set {g : Nat} {w w' : World} (h : w.grownBy w' (some g)) (i : Nat) (v : Value) : w.grownBy (w'.setCell ⟨g, i, none⟩ v) (some g) :=
  ⟨h.os, h.tape, h.output, by simpa [World.setCell] using h.size, fun k hk hne => (Below.heap_setCell w' ⟨g, i, none⟩ v k (fun e => hne (by rw [e]))).trans (h.block k hk hne)⟩
theorem take_def (st : St) (l : List UInt8) : st.add (st.rounds l 64) = st.take l := rfl
theorem rounds_zero (st : St) (l : List UInt8) : st.rounds l 0 = st := rfl
theorem rounds_next (st : St) (l : List UInt8) (i : Nat) : st.rounds l (i + 1) = (st.rounds l i).round (kAt i) (word l i) := rfl
attribute [local irreducible] word sched be sig0 sig1 bsig0 bsig1 choice most wordsV St.rounds kAt
set_option maxHeartbeats 4000000 in
set_option maxRecDepth 100000 in
theorem take_calls (v : Value) (l : List UInt8) (g : Nat) (st : St) (rv : Value) (n : Int) (w : World) (h : BRow w v l) (hl : l.length = 64) (hS : StAt w g st rv n) (hK : KAt w) (hne : 2 ≠ g) :
    Calls Tryd.prog 51 #[.pointer (some ⟨g, 0, none⟩), v] w fun e w' => e = .returned (.tuple #[]) ∧ StAt w' g (st.take l) rv n ∧ w.grownBy w' (some g) := by
  have HWs := Lib.hid (words_calls v l)
  have HB := Lib.hid h
  have HL := Lib.hid hl
  have HK := Lib.hid hK
  have HS := Lib.hid hS
  have c0 : w.cell? ⟨g, 0, none⟩ = some (wV st.a) := hS.cell (by omega)
  have c1 : w.cell? ⟨g, 1, none⟩ = some (wV st.b) := hS.cell (i := 1) (by omega)
  have c2 : w.cell? ⟨g, 2, none⟩ = some (wV st.c) := hS.cell (i := 2) (by omega)
  have c3 : w.cell? ⟨g, 3, none⟩ = some (wV st.d) := hS.cell (i := 3) (by omega)
  have c4 : w.cell? ⟨g, 4, none⟩ = some (wV st.e) := hS.cell (i := 4) (by omega)
  have c5 : w.cell? ⟨g, 5, none⟩ = some (wV st.f) := hS.cell (i := 5) (by omega)
  have c6 : w.cell? ⟨g, 6, none⟩ = some (wV st.g) := hS.cell (i := 6) (by omega)
  have c7 : w.cell? ⟨g, 7, none⟩ = some (wV st.h) := hS.cell (i := 7) (by omega)
  have hsz := hS.lt
  have HKlt := Lib.hid (World.block_lt_of_cell? w _ (hK 0 (by omega)))
  clear h hl hK hS
  go_enter Tryd.func51, Tryd.ntmps51
  go_wp2_with fail
  have R0 := rowSt_new w st
  have Q0 : Below w.heap.size w (w.alloc (obj8 st)) := (Below.refl _ _).alloc (Nat.le_refl _) _
  obtain ⟨W0, hW0⟩ : ∃ W0, w.alloc (obj8 st) = W0 := ⟨_, rfl⟩
  rw [hW0] at R0 Q0
  unfold obj8 at hW0
  rw [hW0]
  clear hW0 c0 c1 c2 c3 c4 c5 c6 c7
  refine (HWs.out _ (HB.out.below Q0) HL.out).mono ?_
  rintro e w1 ⟨rfl, hb1⟩
  have R1 := rowSt_later R0 hb1
  have Q1 : Below w.heap.size w w1 := Q0.trans (hb1.mono Q0.size)
  clear R0 Q0 hb1 HWs
  have HV := Lib.hid (fun i hi => wordsV_at l i hi)
  generalize wordsV l = ws at *
  go_wp2_with fail
  go_loopw [18] (fun t wr => ∃ i : Nat, t = .int .i64 (i : Int) ∧ i ≤ 64 ∧ RowSt wr w.heap.size (st.rounds l i) ∧ Below w.heap.size w wr) (fun t _ => 64 - (intOf t).toNat)
  case atStart => exact ⟨0, rfl, by omega, by rw [rounds_zero]; exact R1, Q1⟩
  case round =>
    obtain ⟨i, rfl, hi, R, Q⟩ := hrel
    clear R1 Q1
    by_cases hi6 : i < 64
    · have hi64 : (i : Int) < 64 := by omega
      have hat := idx_word ws i _ hi6 (HV.out i hi6)
      have HN := Lib.hid (rounds_next st l i)
      have hk := (Q.cell (p := ⟨2, i, none⟩) (HKlt.out)).trans (HK.out i hi6)
      obtain ⟨kw, hkw⟩ : ∃ k, kAt i = k := ⟨_, rfl⟩
      obtain ⟨ww, hww⟩ : ∃ k, word l i = k := ⟨_, rfl⟩
      obtain ⟨cur, hcur⟩ : ∃ k, st.rounds l i = k := ⟨_, rfl⟩
      rw [hkw] at hk HN
      rw [hww] at hat HN
      rw [hcur] at R HN
      clear hkw hww hcur
      obtain ⟨a, b, c, d, e, f, gg, hh⟩ := cur
      have c0 : wr.cell? ⟨w.heap.size, 0, none⟩ = some (wV a) := R.cell (by omega)
      have c1 : wr.cell? ⟨w.heap.size, 1, none⟩ = some (wV b) := R.cell (i := 1) (by omega)
      have c2 : wr.cell? ⟨w.heap.size, 2, none⟩ = some (wV c) := R.cell (i := 2) (by omega)
      have c3 : wr.cell? ⟨w.heap.size, 3, none⟩ = some (wV d) := R.cell (i := 3) (by omega)
      have c4 : wr.cell? ⟨w.heap.size, 4, none⟩ = some (wV e) := R.cell (i := 4) (by omega)
      have c5 : wr.cell? ⟨w.heap.size, 5, none⟩ = some (wV f) := R.cell (i := 5) (by omega)
      have c6 : wr.cell? ⟨w.heap.size, 6, none⟩ = some (wV gg) := R.cell (i := 6) (by omega)
      have c7 : wr.cell? ⟨w.heap.size, 7, none⟩ = some (wV hh) := R.cell (i := 7) (by omega)
      have f0 := R.frozen 0
      have f1 := R.frozen 1
      have f2 := R.frozen 2
      have f3 := R.frozen 3
      have f4 := R.frozen 4
      have f5 := R.frozen 5
      have f6 := R.frozen 6
      have f7 := R.frozen 7
      have HR := Lib.hid R
      have HQ := Lib.hid Q
      clear R Q
      obtain ⟨ch, hch⟩ : ∃ y, choice e f gg = y := ⟨_, rfl⟩
      obtain ⟨mo, hmo⟩ : ∃ y, most a b c = y := ⟨_, rfl⟩
      obtain ⟨b1, hb1⟩ : ∃ y, bsig1 e = y := ⟨_, rfl⟩
      obtain ⟨b0, hb0⟩ : ∃ y, bsig0 a = y := ⟨_, rfl⟩
      have HC1 := Lib.hid ((choice_w e f gg).trans (by rw [hch]))
      have HM1 := Lib.hid ((most_w a b c).trans (by rw [hmo]))
      have HT1 := Lib.hid (fun w => (turned_calls e 6 11 25 (by omega) (by omega) (by omega) (by omega) (by omega) (by omega) b1 (by rw [← hb1]; exact bsig1_eq e) w).mono isW_still)
      have HT0 := Lib.hid (fun w => (turned_calls a 2 13 22 (by omega) (by omega) (by omega) (by omega) (by omega) (by omega) b0 (by rw [← hb0]; exact bsig0_eq a) w))
      have HRd := Lib.hid (show St.round ⟨a, b, c, d, e, f, gg, hh⟩ kw ww = ⟨hh + b1 + ch + kw + ww + (b0 + mo), a, b, c, d + (hh + b1 + ch + kw + ww), e, f, gg⟩ by rw [← hch, ← hmo, ← hb1, ← hb0]; rfl)
      clear hch hmo hb1 hb0
      go_upto_region 5 with fail
      rw [HC1.out]
      go_upto_region 6 with fail
      rw [HM1.out]
      refine region_still (by kernel_rfl) (by kernel_rfl) ?_
      iterate 4 still_step
      still_call (HT1.out _)
      iterate 10 still_step
      refine wpStill_nil ?_
      go_upto_region 7 with fail
      rw [add5w]
      obtain ⟨t, ht⟩ : ∃ t, hh + b1 + ch + kw + ww = t := ⟨_, rfl⟩
      rw [ht] at HRd ⊢
      clear ht
      have d0 : wr.drew.cell? ⟨w.heap.size, 0, none⟩ = some (wV a) := c0
      go_wp2_with fail
      refine (HT0.out _).mono ?_
      rintro e w9 ⟨rfl, rfl⟩
      go_upto_region 8 with fail
      rw [add_m]
      obtain ⟨u, hu⟩ : ∃ u, b0 + mo = u := ⟨_, rfl⟩
      rw [hu] at HRd ⊢
      clear hu
      go_wp2_with fail
      rw [add_m t u, add_m d t]
      have HR2 := Lib.hid (rowSt8 HR.out (t + u) a b c (d + t) e f gg)
      have HQ2 := Lib.hid (below8 HQ.out (Nat.le_refl _) (t + u) a b c (d + t) e f gg)
      generalize t + u = tu at *
      generalize d + t = dt at *
      go_roundw
      case rel => exact ⟨i + 1, by go_num, by omega, by rw [HN.out, HRd.out]; exact HR2.out, HQ2.out⟩
      case measure => simp [intOf]; omega
    · obtain rfl : i = 64 := by omega
      have HR := Lib.hid R
      have HQ := Lib.hid Q
      clear R Q
      have HS1 := Lib.hid (World.rowIs.of_block HS.out (HQ.out.block _ hsz))
      have HG1 := Lib.hid (grown_of_below HQ.out g)
      have HTk := Lib.hid (take_def st l)
      obtain ⟨cur, hcur⟩ : ∃ k, st.rounds l 64 = k := ⟨_, rfl⟩
      rw [hcur] at HR HTk
      clear hcur HQ HS HK HKlt HV
      go_wp2_with fail
      go_loopw [91] (fun t wr => ∃ i : Nat, t = .int .i64 (i : Int) ∧ i ≤ 8 ∧ Hid (RowSt wr w.heap.size cur) ∧ Hid (wr.rowIs g 110 10 (addC st cur rv n i)) ∧ Hid (w.grownBy wr (some g))) (fun t _ => 8 - (intOf t).toNat)
      case atStart => exact ⟨0, rfl, by omega, HR, Lib.hid (HS1.out.congr fun j _ => (addC_zero st cur rv n j).symm), HG1⟩
      case round =>
        obtain ⟨i, rfl, hi, HR2, HS2, HG2⟩ := hrel
        clear HR HS1 HG1
        by_cases hi8 : i < 8
        · have hi8' : (i : Int) < 8 := by omega
          have hcl : wr.cell? ⟨w.heap.size, i, none⟩ = some (wV (cur.list.getD i 0)) := HR2.out.cell hi8
          have hcs : wr.cell? ⟨g, i, none⟩ = some (wV (st.list.getD i 0)) := (HS2.out.cell (by omega)).trans (by unfold addC stC; simp [hi8])
          have hfs := HS2.out.frozen i
          have hgs := HS2.out.lt
          have HSn := Lib.hid ((HS2.out.set i (wV (st.list.getD i 0 + cur.list.getD i 0))).congr fun j _ => addC_next st cur rv n i j hi8)
          have HRn := Lib.hid (HR2.out.setOther (a := ⟨g, i, none⟩) (by show w.heap.size ≠ g; omega) (wV (st.list.getD i 0 + cur.list.getD i 0)))
          have HGn := Lib.hid (grown_set HG2.out i (wV (st.list.getD i 0 + cur.list.getD i 0)))
          generalize st.list.getD i 0 = x at *
          generalize cur.list.getD i 0 = y at *
          go_wp2_with fail
          go_region
          rw [add_m x y]
          generalize x + y = z at *
          go_wp2_with fail
          go_roundw
          case rel => exact ⟨i + 1, by go_num, by omega, Lib.hid (rowIs_drew HRn.out), Lib.hid (rowIs_drew HSn.out), Lib.hid (grown_drew HGn.out)⟩
          case measure => simp [intOf]; omega
        · obtain rfl : i = 8 := by omega
          have HSf := Lib.hid (HS2.out.congr fun j _ => addC_all st cur rv n j)
          go_wp2_with fail
          go_end0
          exact ⟨rfl, by rw [← HTk.out]; exact HSf.out, HG2.out⟩
end Go.Proofs.YthdbhajpjkkehaaDoor

namespace Go.Proofs.YthdbhajpjkkehaaDoor
set_option linter.unusedVariables false

/-- The kinds of a type's cells: 'some k': a whole number; 'none': a truth value. -/
def flatFs (P : Program) (g : TypeId → Option (List (Option IntKind))) : List Field → Nat → Option (List (Option IntKind))
  | [], _ => some []
  | f :: fs, off => if f.offset = off then (g f.type).bind fun l => if P.cellsOf f.type = l.length then (flatFs P g fs (off + l.length)).map (l ++ ·) else none else none
def flatK (P : Program) : Nat → TypeId → Option (List (Option IntKind))
  | 0, _ => none
  | n + 1, t => match P.underlying t with
    | some (.int k) => some [some k]
    | some .bool => some [none]
    | some (.array m e) => (flatK P n e).bind fun l => if P.cellsOf e = l.length ∧ P.cellsOf t = m * l.length then some ((List.replicate m l).flatten) else none
    | some (.struct fs) => (flatFs P (flatK P n) fs.toList 0).bind fun l => if P.cellsOf t = l.length then some l else none
    | _ => none

/-- A cell's value of its kind. -/
def Typed1 : Option IntKind → Value → Prop
  | some k, v => ∃ n, v = .int k n ∧ (Lit.int k n).wf = true
  | none, v => ∃ b, v = .bool b
def Typed : List (Option IntKind) → List Value → Prop
  | [], cs => cs = []
  | k :: ks, cs => ∃ v vs, cs = v :: vs ∧ Typed1 k v ∧ Typed ks vs

theorem Typed.append {l l' : List (Option IntKind)} {c c' : List Value} (h : Typed l c) (h' : Typed l' c') : Typed (l ++ l') (c ++ c') := by
  induction l generalizing c with
  | nil => cases h; exact h'
  | cons k ks ih =>
    obtain ⟨v, vs, rfl, h1, h2⟩ := h
    exact ⟨v, vs ++ c', rfl, h1, ih h2⟩
theorem Typed.length {l : List (Option IntKind)} {c : List Value} (h : Typed l c) : c.length = l.length := by
  induction l generalizing c with
  | nil => cases h; rfl
  | cons k ks ih =>
    obtain ⟨v, vs, rfl, h1, h2⟩ := h
    simp [ih h2]
theorem Typed.one {l : List (Option IntKind)} {c : List Value} (h : Typed l c) : ∀ v ∈ c, v.oneCell' = true := by
  induction l generalizing c with
  | nil => cases h; simp
  | cons k ks ih =>
    obtain ⟨v, vs, rfl, h1, h2⟩ := h
    intro u hu
    rcases List.mem_cons.1 hu with rfl | hu
    · cases k with
      | none => obtain ⟨b, rfl⟩ := h1; rfl
      | some k => obtain ⟨b, rfl, -⟩ := h1; rfl
    · exact ih h2 u hu

theorem Typed.drop {l : List (Option IntKind)} {c : List Value} (h : Typed l c) : ∀ a, Typed (l.drop a) (c.drop a) := by
  induction l generalizing c with
  | nil => intro a; cases h; simp; exact rfl
  | cons k ks ih =>
    obtain ⟨v, vs, rfl, h1, h2⟩ := h
    intro a
    cases a with
    | zero => exact ⟨v, vs, rfl, h1, h2⟩
    | succ a => exact ih h2 a
theorem Typed.take {l : List (Option IntKind)} {c : List Value} (h : Typed l c) : ∀ a, Typed (l.take a) (c.take a) := by
  induction l generalizing c with
  | nil => intro a; cases h; simp; exact rfl
  | cons k ks ih =>
    obtain ⟨v, vs, rfl, h1, h2⟩ := h
    intro a
    cases a with
    | zero => exact rfl
    | succ a => exact ⟨v, vs.take a, rfl, h1, ih h2 a⟩
theorem Typed.part {l m : List (Option IntKind)} {c : List Value} (h : Typed l c) (a n : Nat) (hl : a + n ≤ c.length) (hm : (l.drop a).take n = m) : Typed m ((c.drop a).take n) := by
  rw [← hm]
  exact (h.drop a).take n

theorem chunks {l : List (Option IntKind)} {cs : List Value} : ∀ (m : Nat), cs.length = m * l.length → (∀ i, i < m → Typed l ((cs.drop (i * l.length)).take l.length)) → Typed ((List.replicate m l).flatten) cs
  | 0, hl, _ => by
    have : cs = [] := List.eq_nil_of_length_eq_zero (by simpa using hl)
    subst this
    exact rfl
  | m + 1, hl, h => by
    rw [Nat.add_mul, Nat.one_mul] at hl
    rw [List.replicate_succ, List.flatten_cons, ← List.take_append_drop l.length cs]
    refine Typed.append ?_ ?_
    · have := h 0 (by omega)
      rwa [Nat.zero_mul, List.drop_zero] at this
    · refine chunks m (by rw [List.length_drop]; omega) fun i hi => ?_
      have := h (i + 1) (by omega)
      rwa [Nat.add_mul, Nat.one_mul, Nat.add_comm, ← List.drop_drop] at this

section
variable {H : Type} {enc : TypeId × Value → H} {P : Program} {w : World} {base : Nat} {spare : Nat → Bool} {held : Bool}

theorem flatFs_typed {g : TypeId → Option (List (Option IntKind))} {cs : List Value} : ∀ (fs : List Field) (off : Nat) (l : List (Option IntKind)), flatFs P g fs off = some l →
    (∀ f ∈ fs, ∀ l, g f.type = some l → Typed l ((cs.drop f.offset).take (P.cellsOf f.type))) → off + l.length = cs.length → Typed l (cs.drop off)
  | [], off, l, h, _, hl => by
    cases h
    have : cs.drop off = [] := List.drop_eq_nil_of_le (by simp at hl; omega)
    rw [this]
    exact rfl
  | f :: fs, off, l, h, hf, hl => by
    unfold flatFs at h
    split at h
    · next ho =>
      subst ho
      obtain ⟨l1, h1, h2⟩ := Option.bind_eq_some_iff.1 h
      split at h2
      · next hc =>
        obtain ⟨l2, h3, rfl⟩ := Option.map_eq_some_iff.1 h2
        have t1 := hf f (by simp) l1 h1
        rw [hc] at t1
        rw [← List.take_append_drop l1.length (cs.drop f.offset)]
        refine Typed.append t1 ?_
        rw [List.drop_drop]
        exact flatFs_typed fs _ l2 h3 (fun f' hf' => hf f' (by simp [hf'])) (by rw [List.length_append] at hl; omega)
      · cases h2
    · cases h

theorem trod_flat : ∀ (n fuel : Nat) (t : TypeId) (l : List (Option IntKind)) (cs : List Value) (x : DataW H × List MemPlace), flatK P n t = some l → DataW.trod enc P w base spare held fuel t cs = some x → Typed l cs
  | 0, _, _, _, _, _, h, _ => by cases h
  | n + 1, fuel, t, l, cs, x, h, hx => by
    unfold flatK at h
    split at h
    · next k hu =>
      cases h
      obtain ⟨m, rfl, rfl, hw⟩ := DataW.trod_int hu hx
      exact ⟨_, [], rfl, ⟨m, rfl, hw⟩, rfl⟩
    · next hu =>
      cases h
      obtain ⟨b, rfl, rfl⟩ := DataW.trod_bool hu hx
      exact ⟨_, [], rfl, ⟨b, rfl⟩, rfl⟩
    · next m e hu =>
      obtain ⟨l1, h1, h2⟩ := Option.bind_eq_some_iff.1 h
      split at h2
      · next hc =>
        cases h2
        obtain ⟨xs, k, rfl, rfl, hl, hxs, he⟩ := DataW.trod_array hu hx
        rw [hc.1] at he
        refine chunks m (by rw [hl, hc.2]) fun i hi => ?_
        have := he i hi
        rw [List.getElem?_eq_getElem (by omega)] at this
        exact trod_flat n k e l1 _ _ h1 this
      · cases h2
    · next fs hu =>
      obtain ⟨l1, h1, h2⟩ := Option.bind_eq_some_iff.1 h
      split at h2
      · next hc =>
        cases h2
        obtain ⟨xs, k, rfl, rfl, hl, hxs, he⟩ := DataW.trod_struct hu hx
        have := flatFs_typed (P := P) (g := flatK P n) (cs := cs) fs.toList 0 l h1 (fun f hf l' hl' => by
          obtain ⟨i, hi, e⟩ := List.mem_iff_getElem.1 hf
          have hi' : i < fs.size := by simpa using hi
          have hfi : fs[i]? = some f := by rw [Array.getElem?_eq_getElem hi']; simpa using e
          have h3 := he i f hfi
          rw [List.getElem?_eq_getElem (by omega)] at h3
          exact trod_flat n k f.type l' _ _ hl' h3) (by rw [Nat.zero_add, hl, hc])
        rwa [List.drop_zero] at this
      · cases h2
    · cases h
end
end Go.Proofs.YthdbhajpjkkehaaDoor

namespace Go.Proofs.YthdbhajpjkkehaaDoor
open Go.ChangeShapes Go.WideShapes Go.ChangeAt Go.RowKit
set_option linter.unusedVariables false

theorem Tryd.laidOut : laidOutB Tryd.prog = true := by kernel_rfl
theorem own : ownKnob Tryd.prog.godebug = none := by kernel_rfl


def rowed (P : Program) (ts : List TypeId) : Bool := ts.all fun t => P.readableRec t && decide (t < P.types.size)

section
variable {H : Type} {enc : TypeId × Value → H} {P : Program}

theorem trodAll_keeps (hl : laidOutB P = true) {W W' : World} (hb : Below W.heap.size W W') {sp : Nat → Bool} :
    ∀ {ts : List TypeId} {vs : List Value} {ds : List (DataW H)} {ps : List MemPlace}, rowed P ts = true → DataW.TrodAll enc P W 0 (fun _ => true) true ts vs ds ps →
      (∀ x ∈ ps, x.block < W.heap.size) → (∀ x ∈ ps, sp x.block = true) → DataW.TrodAll enc P W' 0 sp true ts vs ds ps
  | [], [], [], _, _, h, _, _ => h
  | [], [], _ :: _, _, _, h, _, _ => h.elim
  | [], _ :: _, _, _, _, h, _, _ => h.elim
  | _ :: _, [], _, _, _, h, _, _ => h.elim
  | _ :: _, _ :: _, [], _, _, h, _, _ => h.elim
  | t :: ts, v :: vs, d :: ds, ps, hr, h, hlt, hs => by
    obtain ⟨p, q, h1, h2, rfl⟩ := h
    simp only [rowed, List.all_cons, Bool.and_eq_true, decide_eq_true_eq] at hr
    refine ⟨p, q, WideElems.Trod_stays hl hr.1.1 hr.1.2 h1 (fun x hx => hb.same (hlt x (List.mem_append_left _ hx))) (fun x hx => hs x (List.mem_append_left _ hx)), ?_, rfl⟩
    exact trodAll_keeps hl hb hr.2 h2 (fun x hx => hlt x (List.mem_append_right _ hx)) (fun x hx => hs x (List.mem_append_right _ hx))

/-- THE LAW's ROW, LAST STEP: the call said yes, the arguments read as they read. -/
theorem law_post {f : Func} {s : ChangeSpec} {fresh handsOn : Bool} {W W' : World} {args : Array Value} {ds : List (DataW H)} {before : List MemPlace}
    (hl : laidOutB P = true) (hrow : rowed P f.params.toList = true) (hvars : s.vars = []) (bt : TypeId) (hres : f.resultTypes = #[bt]) (hbt : P.underlying bt = some .bool)
    (hW : DataW.Whole enc P f.params.toList s.vars false W args.toList ds [] before)
    (hs : s.fn H (ds ++ []) = { results := [.lit (.bool true)], args := ds }) (hb : Below W.heap.size W W') :
    s.post enc P f false fresh handsOn false W args (.bool true) W' := by
  have hlt : ∀ p ∈ before, p.block < W.heap.size := fun p hp => hW.lt p hp
  have hold : ∀ p ∈ before, (fun b => decide (b < W.heap.size)) p.block = true := fun p hp => by simpa using hlt p hp
  have hW0 := hW
  obtain ⟨p, q, hA, hV, rfl, _, _⟩ := hW0
  rw [hvars] at hV
  obtain rfl : q = [] := by cases ds <;> exact hV
  rw [List.append_nil] at hlt hold hW
  have hA0 : DataW.TrodAll enc P W 0 (fun _ => true) true f.params.toList args.toList ds p := hA
  have keep := fun (sp : Nat → Bool) (h : ∀ x ∈ p, sp x.block = true) => trodAll_keeps (sp := sp) hl hb hrow hA0 hlt h
  refine ⟨ds, [], p, [], p, [], hW, ?_, ?_, ?_, World.keptBut_mono (fun x hx => ⟨hx, Or.inr (by simpa using hx)⟩) (hb.frame (· ∈ p)), fun h => by cases h⟩
  · rw [hs, hres]
    exact trodAll_cons_mk (shut_bool hbt _) trodAll_mk0
  · rw [hs]; exact keep _ hold
  · rw [hs, hvars]; rfl
end
end Go.Proofs.YthdbhajpjkkehaaDoor
