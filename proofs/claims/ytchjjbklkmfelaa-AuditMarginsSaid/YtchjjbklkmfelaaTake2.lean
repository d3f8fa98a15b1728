/- (*trace.Exit).take: an event is counted. -/
import Derived.Test.YtchjjbklkmfelaaTake
namespace Go.Proofs.Ytchjjbklkmfelaa
open Go.RowKit Go.Lib
set_option linter.unusedVariables false
set_option linter.unusedSimpArgs false

/-- The number of four limbs in some cells. -/
def numAt (c : List Value) (j : Nat) : Nat := num (intAt c j) (intAt c (j + 1)) (intAt c (j + 2)) (intAt c (j + 3))
theorem numAt_facts {c : List Value} {K : Kinds} (ht : Typed K c) (j : Nat) (h0 : K[j]? = some (some .u64)) (h1 : K[j + 1]? = some (some .u64)) (h2 : K[j + 2]? = some (some .u64)) (h3 : K[j + 3]? = some (some .u64)) :
    numAt c j < 18446744073709551616 ^ 4 ∧ limb (numAt c j) 0 = intAt c j ∧ limb (numAt c j) 1 = intAt c (j + 1) ∧ limb (numAt c j) 2 = intAt c (j + 2) ∧ limb (numAt c j) 3 = intAt c (j + 3) := by
  have b0 := bounds_u64 (ht.at _ _ h0).2
  have b1 := bounds_u64 (ht.at _ _ h1).2
  have b2 := bounds_u64 (ht.at _ _ h2).2
  have b3 := bounds_u64 (ht.at _ _ h3).2
  have hl := limb_num b0.1 (show intAt c j < 18446744073709551616 by omega) b1.1 (show intAt c (j + 1) < 18446744073709551616 by omega) b2.1 (show intAt c (j + 2) < 18446744073709551616 by omega) b3.1 (show intAt c (j + 3) < 18446744073709551616 by omega)
  exact ⟨num_lt (by omega) (by omega) (by omega) (by omega), hl⟩

/-- An exit behind an event of its id. -/
def Ex.sum (x : Ex) : Nat := x.burns + x.fills + x.redeems + x.refunds + x.carries
def Ex.first (x : Ex) (c : List Value) : Ex := if x.sum = 0 then { x with idc := (c.drop 2).take 32, tok := intAt c 35 } else x
def Ex.count (x : Ex) (kind : Int) : Ex :=
  if kind = 3 then { x with burns := x.burns + 1 } else if kind = 8 then { x with fills := x.fills + 1 } else if kind = 13 then { x with redeems := x.redeems + 1 }
  else if kind = 11 then { x with refunds := x.refunds + 1 } else { x with carries := x.carries + 1 }
def Ex.fees (x : Ex) (c : List Value) : Ex := if intAt c 0 = 8 then { x with fee := sat x.fee (numAt c 42) } else x
def Ex.pays (x : Ex) (c : List Value) : Ex := if intAt c 0 = 8 ∨ intAt c 0 = 13 then { x with paid := sat x.paid (numAt c 38) } else x
def Ex.take (x : Ex) (c : List Value) : Ex := if ctr (intAt c 0) = none then x else (((x.first c).count (intAt c 0)).fees c).pays c

theorem range_part {w : World} {g o : Nat} {c : List Value} (h : w.rangeAt g o c) (a n : Nat) : w.rangeAt g (o + a) ((c.drop a).take n) := fun j v hv => by
  rw [List.getElem?_take] at hv
  split at hv
  · rw [List.getElem?_drop] at hv
    rw [show o + a + j = o + (a + j) by omega]
    exact h _ v hv
  · cases hv
/-- What a cell holds now. -/
def curCell (w : World) (a : Addr) : Value := (w.cell? a).getD (.int .u8 0)
theorem cur_of {w : World} {a : Addr} {v : Value} (h : w.cell? a = some v) : w.cell? a = some (curCell w a) := by unfold curCell; rw [h]; rfl
def Keeps (h g : Nat) (ic : List Value) (tk : Int) (w : World) : Prop :=
  w.rangeAt h 2 ic ∧ w.cell? ⟨h, 35, none⟩ = some (.int .u8 tk) ∧ w.there g 0 32 ∧ w.cell? ⟨g, 32, none⟩ = some (curCell w ⟨g, 32, none⟩) ∧ w.frozen? ⟨g, 32, none⟩ = false
theorem Keeps.store {h g : Nat} {ic : List Value} {tk : Int} {w : World} (hgw : g ≠ h) (k : Keeps h g ic tk w) (v : Value) : Keeps h g ic tk (w.setCell ⟨g, 32, none⟩ v) := by
  obtain ⟨h1, h2, h3, h4, h5⟩ := k
  refine ⟨fun j u hu => ?_, ?_, fun j hj => ?_, ?_, ?_⟩
  · rw [World.cell?_setCell_other _ _ _ _ (by intro e; injection e; omega)]; exact h1 j u hu
  · rw [World.cell?_setCell_other _ _ _ _ (by intro e; injection e; omega)]; exact h2
  · rw [World.cell?_setCell_other _ _ _ _ (by intro e; injection e; omega), World.frozen?_setCell]; exact h3 j hj
  · exact cur_of (World.cell?_setCell_same _ _ v h4)
  · rw [World.frozen?_setCell]; exact h5
theorem Keeps.cells {h g : Nat} {ic : List Value} {tk : Int} {w : World} (hgw : g ≠ h) (hl : ic.length = 32) (k : Keeps h g ic tk w) : Keeps h g ic tk (w.setCells g 0 ic) := by
  obtain ⟨h1, h2, h3, h4, h5⟩ := k
  refine ⟨World.rangeAt_setCells_apart h1 g 0 ic (.inl (fun e => hgw e.symm)), ?_, World.there_setCells h3 _ _ _, ?_, ?_⟩
  · exact (World.cell?_setCells_out _ _ _ _ _ (fun e => absurd e.symm hgw)).trans h2
  · exact cur_of ((World.cell?_setCells_out _ _ _ _ _ (fun _ _ => .inr (by rw [hl]; exact Nat.le_refl _))).trans h4)
  · rw [World.frozen?_setCells]; exact h5
theorem rowIs_cells (d : Value) {b : Nat} {t : TypeId} {n : Nat} : ∀ (vs : List Value) (o : Nat) (w : World) (f : Nat → Value), w.rowIs b t n f → (w.setCells b o vs).rowIs b t n (fun j => if o ≤ j ∧ j < o + vs.length then vs.getD (j - o) d else f j)
  | [], o, w, f, h => h.congr fun j _ => by rw [if_neg (by simp)]
  | v :: r, o, w, f, h => by
    refine (rowIs_cells d r (o + 1) _ _ (World.rowIs.set h o v)).congr fun j _ => ?_
    rcases Nat.lt_trichotomy j o with h1 | h1 | h1
    · rw [if_neg (by omega), if_neg (by omega), if_neg (by omega)]
    · subst h1
      rw [if_neg (by omega), if_pos rfl, if_pos (by simp), Nat.sub_self]
      rfl
    · by_cases h2 : j < o + 1 + r.length
      · rw [if_pos (by omega), if_pos (by rw [List.length_cons]; omega), show j - o = (j - (o + 1)) + 1 by omega, List.getD_cons_succ]
      · rw [if_neg (by omega), if_neg (by omega), if_neg (by rw [List.length_cons]; omega)]
theorem range_other {w : World} {g h o : Nat} {c : List Value} (hr : w.rangeAt h o c) (hgh : g ≠ h) (k : Nat) (v : Value) : (w.setCell ⟨g, k, none⟩ v).rangeAt h o c := fun j u hu => by
  rw [World.cell?_setCell_other _ _ _ _ (by intro e; injection e; omega)]
  exact hr j u hu
theorem first_at1 {w : World} {g : Nat} {x : Ex} (h : ExAt w g x) (ic : List Value) (tk : Int) (hl : ic.length = 32) : ExAt ((w.drew.setCells g 0 ic).setCell ⟨g, 32, none⟩ (.int .u8 tk)) g { x with idc := ic, tok := tk } := by
  refine (World.rowIs.set (rowIs_cells (.int .u8 0) ic 0 _ _ (World.rowIs.drew h)) 32 (.int .u8 tk)).congr fun j hj => ?_
  unfold Ex.cell
  rw [hl]
  by_cases h1 : j = 32
  · subst h1; rfl
  · rw [if_neg h1]
    by_cases h2 : j < 32
    · rw [if_pos (by omega), if_pos h2, Nat.sub_zero]
    · rw [if_neg (by omega), if_neg h2, if_neg h1, if_neg h2, if_neg h1]
theorem first_at2 {w : World} {g : Nat} {x : Ex} (h : ExAt w g x) (ic : List Value) (tk : Int) (hl : ic.length = 32) : ExAt ((w.drew.setCell ⟨g, 32, none⟩ (.int .u8 tk)).setCells g 0 ic) g { x with idc := ic, tok := tk } := by
  refine (rowIs_cells (.int .u8 0) ic 0 _ _ (World.rowIs.set (World.rowIs.drew h) 32 (.int .u8 tk))).congr fun j hj => ?_
  unfold Ex.cell
  rw [hl]
  by_cases h1 : j = 32
  · subst h1; rfl
  · by_cases h2 : j < 32
    · rw [if_pos (by omega), if_pos h2, Nat.sub_zero]
    · rw [if_neg (by omega), if_neg h1, if_neg h2, if_neg h1, if_neg h2, if_neg h1]
theorem Ex.first_sum (x : Ex) (c : List Value) : (x.first c).sum = x.sum ∧ (x.first c).paid = x.paid ∧ (x.first c).fee = x.fee := by
  unfold Ex.first
  split <;> exact ⟨rfl, rfl, rfl⟩
theorem Ex.count_sum (x : Ex) (k : Int) : (x.count k).sum = x.sum + 1 ∧ (x.count k).paid = x.paid ∧ (x.count k).fee = x.fee := by
  unfold Ex.count Ex.sum
  repeat' split
  all_goals exact ⟨by simp only []; omega, rfl, rfl⟩
/-- A counter, and what is behind its turn. -/
theorem count_at {w : World} {g j : Nat} {x : Ex} {kd : Int} (h : ExAt w g x) (hc : (kd = 3 ∧ j = 33) ∨ (kd = 8 ∧ j = 34) ∨ (kd = 13 ∧ j = 35) ∨ (kd = 11 ∧ j = 36) ∨ (kd = 12 ∧ j = 37)) :
    ∃ m : Nat, w.cell? ⟨g, j, none⟩ = some (.int .i64 m) ∧ m ≤ x.sum ∧ ExAt (w.setCell ⟨g, j, none⟩ (.int .i64 ((m : Int) + 1))) g (x.count kd) := by
  have hset : ∀ (m : Nat) (y : Ex), (∀ i, i < 46 → (if i = j then Value.int .i64 ((m : Int) + 1) else x.cell i) = y.cell i) → ExAt (w.setCell ⟨g, j, none⟩ (.int .i64 ((m : Int) + 1))) g y :=
    fun m y hy => (World.rowIs.set h j _).congr hy
  unfold Ex.sum
  rcases hc with ⟨rfl, rfl⟩ | ⟨rfl, rfl⟩ | ⟨rfl, rfl⟩ | ⟨rfl, rfl⟩ | ⟨rfl, rfl⟩
  · refine ⟨x.burns, h.cell (by decide), by omega, hset _ _ fun i hi => ?_⟩
    by_cases e : i = 33
    · subst e; rfl
    · rw [if_neg e]; unfold Ex.cell; simp only [Ex.count, if_neg e]; rfl
  · refine ⟨x.fills, h.cell (by decide), by omega, hset _ _ fun i hi => ?_⟩
    by_cases e : i = 34
    · subst e; rfl
    · rw [if_neg e]; unfold Ex.cell; simp only [Ex.count, if_neg e]; rfl
  · refine ⟨x.redeems, h.cell (by decide), by omega, hset _ _ fun i hi => ?_⟩
    by_cases e : i = 35
    · subst e; rfl
    · rw [if_neg e]; unfold Ex.cell; simp only [Ex.count, if_neg e]; rfl
  · refine ⟨x.refunds, h.cell (by decide), by omega, hset _ _ fun i hi => ?_⟩
    by_cases e : i = 36
    · subst e; rfl
    · rw [if_neg e]; unfold Ex.cell; simp only [Ex.count, if_neg e]; rfl
  · refine ⟨x.carries, h.cell (by decide), by omega, hset _ _ fun i hi => ?_⟩
    by_cases e : i = 37
    · subst e; rfl
    · rw [if_neg e]; unfold Ex.cell; simp only [Ex.count, if_neg e]; rfl
/-- A number of four limbs stored at some place. -/
abbrev put4 (w : World) (g o : Nat) (a b c d : Int) : World :=
  (((w.setCell ⟨g, o, none⟩ (.int .u64 a)).setCell ⟨g, o + 1, none⟩ (.int .u64 b)).setCell ⟨g, o + 2, none⟩ (.int .u64 c)).setCell ⟨g, o + 3, none⟩ (.int .u64 d)
theorem put4_at {w : World} {g o : Nat} {x y : Ex} (h : ExAt w g x) (m : Nat) (hy : ∀ i, i < 46 → (if o ≤ i ∧ i < o + 4 then Value.int .u64 (limb m (i - o)) else x.cell i) = y.cell i) :
    ExAt (put4 w g o (limb m 0) (limb m 1) (limb m 2) (limb m 3)) g y := by
  have := (((World.rowIs.set h o (.int .u64 (limb m 0))).set (o + 1) (.int .u64 (limb m 1))).set (o + 2) (.int .u64 (limb m 2))).set (o + 3) (.int .u64 (limb m 3))
  refine this.congr fun i hi => ?_
  rw [← hy i hi]
  by_cases e : o ≤ i ∧ i < o + 4
  · rw [if_pos e]
    have : i = o ∨ i = o + 1 ∨ i = o + 2 ∨ i = o + 3 := by omega
    rcases this with rfl | rfl | rfl | rfl
    · rw [if_neg (by omega), if_neg (by omega), if_neg (by omega), if_pos rfl, Nat.sub_self]
    · rw [if_neg (by omega), if_neg (by omega), if_pos rfl, show o + 1 - o = 1 by omega]
    · rw [if_neg (by omega), if_pos rfl, show o + 2 - o = 2 by omega]
    · rw [if_pos rfl, show o + 3 - o = 3 by omega]
  · rw [if_neg e, if_neg (by omega), if_neg (by omega), if_neg (by omega), if_neg (by omega)]
theorem fee_at {w : World} {g : Nat} {x : Ex} (h : ExAt w g x) (m : Nat) : ExAt (put4 w g 42 (limb m 0) (limb m 1) (limb m 2) (limb m 3)) g { x with fee := m } :=
  put4_at h m fun i hi => by
    unfold Ex.cell
    by_cases e : 42 ≤ i ∧ i < 42 + 4
    · rw [if_pos e, if_neg (by omega), if_neg (by omega), if_neg (by omega), if_neg (by omega), if_neg (by omega), if_neg (by omega), if_neg (by omega), if_neg (by omega)]
    · rw [if_neg e]
      have : i < 42 := by omega
      simp only [this, if_true]
theorem paid_at {w : World} {g : Nat} {x : Ex} (h : ExAt w g x) (m : Nat) : ExAt (put4 w g 38 (limb m 0) (limb m 1) (limb m 2) (limb m 3)) g { x with paid := m } :=
  put4_at h m fun i hi => by
    unfold Ex.cell
    by_cases e : 38 ≤ i ∧ i < 38 + 4
    · rw [if_pos e, if_neg (by omega), if_neg (by omega), if_neg (by omega), if_neg (by omega), if_neg (by omega), if_neg (by omega), if_neg (by omega), if_pos (by omega)]
    · rw [if_neg e]
      by_cases e2 : i < 38
      · have h1 : i < 42 := by omega
        have h3 : i < 32 ∨ i = 32 ∨ i = 33 ∨ i = 34 ∨ i = 35 ∨ i = 36 ∨ i = 37 := by omega
        rcases h3 with h3 | rfl | rfl | rfl | rfl | rfl | rfl
        · rw [if_pos h3, if_pos h3]
        all_goals rfl
      · have h1 : ¬ i < 42 := by omega
        simp only [h1, if_false]
theorem ExAt.cells {w : World} {g : Nat} {x : Ex} (h : ExAt w g x) :
    (w.cell? ⟨g, 38, none⟩ = some (.int .u64 (limb x.paid 0)) ∧ w.cell? ⟨g, 39, none⟩ = some (.int .u64 (limb x.paid 1)) ∧ w.cell? ⟨g, 40, none⟩ = some (.int .u64 (limb x.paid 2)) ∧ w.cell? ⟨g, 41, none⟩ = some (.int .u64 (limb x.paid 3))) ∧
    (w.cell? ⟨g, 42, none⟩ = some (.int .u64 (limb x.fee 0)) ∧ w.cell? ⟨g, 43, none⟩ = some (.int .u64 (limb x.fee 1)) ∧ w.cell? ⟨g, 44, none⟩ = some (.int .u64 (limb x.fee 2)) ∧ w.cell? ⟨g, 45, none⟩ = some (.int .u64 (limb x.fee 3))) :=
  ⟨⟨h.cell (by decide), h.cell (by decide), h.cell (by decide), h.cell (by decide)⟩, ⟨h.cell (by decide), h.cell (by decide), h.cell (by decide), h.cell (by decide)⟩⟩
theorem range_drew {w : World} {h o : Nat} {c : List Value} (hr : w.rangeAt h o c) : w.drew.rangeAt h o c := hr
theorem below_put4 {B g o : Nat} {a w : World} (h : Below B a w) (hg : B ≤ g) (x y z t : Int) : Below B a (put4 w g o x y z t) :=
  (((h.setCell (p := ⟨g, o, none⟩) hg _).setCell (p := ⟨g, o + 1, none⟩) hg _).setCell (p := ⟨g, o + 2, none⟩) hg _).setCell (p := ⟨g, o + 3, none⟩) hg _
theorem range_put4 {w : World} {h o : Nat} {c : List Value} {g k : Nat} (hr : w.rangeAt h o c) (hgh : g ≠ h) (x y z t : Int) : (put4 w g k x y z t).rangeAt h o c :=
  range_other (range_other (range_other (range_other hr hgh _ _) hgh _ _) hgh _ _) hgh _ _
theorem hash_info {cs : List Value} (h : cs.length = 32) : (Try.prog.info? 26).map (·.size) = some cs.length := by rw [h]; kernel_rfl

set_option maxHeartbeats 4000000 in
set_option maxRecDepth 100000 in
theorem take_calls (g : Nat) (x : Ex) (c : List Value) (w : World) (hx : ExAt w g x) (hc : Typed evK c) (hs : x.sum ≤ 1000000) (hp : x.paid < 18446744073709551616 ^ 4) (hf : x.fee < 18446744073709551616 ^ 4) :
    Calls Try.prog 31 #[.pointer (some ⟨g, 0, none⟩), .agg c.toArray] w fun e w' => e = .returned (.bool (ctr (intAt c 0)).isSome) ∧ ExAt w' g (x.take c) ∧ Below g w w' := by
  have hxw : ExAt (w.alloc (.cells c.toArray 31)) g x := World.rowIs.alloc hx _
  have hrw := range_alloc w c.toArray 31
  have hg := World.rowIs.lt hx
  have hbw : Below g w (w.alloc (.cells c.toArray 31)) := (Below.refl _ _).alloc (by omega) _
  have hsz : w.heap.size < (w.alloc (.cells c.toArray 31)).heap.size := by simp
  have HC := Lib.hid hc
  clear hx
  go_enter Try.func31, Try.ntmps31
  go_upto_region 1 with fail
  obtain ⟨W, hW⟩ : ∃ W, w.alloc (.cells c.toArray 31) = W := ⟨_, rfl⟩
  rw [hW] at hxw hrw hbw hsz
  rw [hW]
  clear hW
  have hrw' : W.rangeAt w.heap.size 0 c := hrw
  have c0 := ev_cell hrw' hc 0 .u8 (by kernel_rfl)
  have hkd : intAt c 0 = intAt c 0 := rfl
  obtain ⟨kd, hk⟩ : ∃ kd, intAt c 0 = kd := ⟨_, rfl⟩
  rw [hk] at c0
  have HK := Lib.hid hk
  clear hk hkd hrw
  have HRW := Lib.hid hrw'
  clear hrw' hc
  go_wp2_with fail
  refine (counter_calls g kd W).mono ?_
  rintro e w' ⟨rfl, rfl⟩
  rcases hj : ctr kd with _ | j
  · have HT := Lib.hid (show x.take c = x by unfold Ex.take; rw [HK.out, if_pos hj])
    have HX := Lib.hid hxw
    have HB := Lib.hid (show false = (ctr (intAt c 0)).isSome by rw [HK.out, hj]; rfl)
    clear hxw hj
    go_wp2_with fail
    go_ret
    exact ⟨congrArg (fun b => Ending.returned (.bool b)) HB.out, by rw [HT.out]; exact HX.out, hbw⟩
  · have HT := Lib.hid (show x.take c = (((x.first c).count kd).fees c).pays c by unfold Ex.take; rw [HK.out, if_neg (by rw [hj]; simp)])
    have hcs : (kd = 3 ∧ j = 33) ∨ (kd = 8 ∧ j = 34) ∨ (kd = 13 ∧ j = 35) ∨ (kd = 11 ∧ j = 36) ∨ (kd = 12 ∧ j = 37) := by
      unfold ctr at hj
      split at hj
      · cases hj; exact .inl ⟨by assumption, rfl⟩
      split at hj
      · cases hj; exact .inr (.inl ⟨by assumption, rfl⟩)
      split at hj
      · cases hj; exact .inr (.inr (.inl ⟨by assumption, rfl⟩))
      split at hj
      · cases hj; exact .inr (.inr (.inr (.inl ⟨by assumption, rfl⟩)))
      split at hj
      · cases hj; exact .inr (.inr (.inr (.inr ⟨by assumption, rfl⟩)))
      · cases hj
    have HCS := Lib.hid hcs
    have HB := Lib.hid (show true = (ctr (intAt c 0)).isSome by rw [HK.out, hj]; rfl)
    clear hcs hj
    have x33 : W.cell? ⟨g, 33, none⟩ = some (.int .i64 x.burns) := hxw.cell (by decide)
    have x34 : W.cell? ⟨g, 34, none⟩ = some (.int .i64 x.fills) := hxw.cell (by decide)
    have x35 : W.cell? ⟨g, 35, none⟩ = some (.int .i64 x.redeems) := hxw.cell (by decide)
    have x36 : W.cell? ⟨g, 36, none⟩ = some (.int .i64 x.refunds) := hxw.cell (by decide)
    have x37 : W.cell? ⟨g, 37, none⟩ = some (.int .i64 x.carries) := hxw.cell (by decide)
    have hsum : x.sum = x.burns + x.fills + x.redeems + x.refunds + x.carries := rfl
    have w1 : IntKind.i64.wrap ((x.burns : Int) + x.fills) = (x.burns : Int) + x.fills := IntWalk.i64_in _ (by omega)
    have w2 : IntKind.i64.wrap ((x.burns : Int) + x.fills + x.redeems) = (x.burns : Int) + x.fills + x.redeems := IntWalk.i64_in _ (by omega)
    have w3 : IntKind.i64.wrap ((x.burns : Int) + x.fills + x.redeems + x.refunds) = (x.burns : Int) + x.fills + x.redeems + x.refunds := IntWalk.i64_in _ (by omega)
    have w4 : IntKind.i64.wrap ((x.burns : Int) + x.fills + x.redeems + x.refunds + x.carries) = (x.burns : Int) + x.fills + x.redeems + x.refunds + x.carries := IntWalk.i64_in _ (by omega)
    have HX := Lib.hid hxw
    clear hxw
    go_upto_region 4 with fail
    go_cut [36] from 12 to 36 (fun v wx => v = .bool (decide (x.sum = 0)) ∧ ∃ n, wx = W.drewN n)
    case first =>
      go_quiet (fail)
      go_wp2_with fail
      go_meet
      refine ⟨congrArg Value.bool ?_, _, rfl⟩
      rw [hsum, Bool.eq_iff_iff, beq_iff_eq, decide_eq_true_eq]
      omega
    case rest =>
    obtain ⟨rfl, nq, hwx⟩ := hcut
    have hxw : ExAt (W.drewN nq) g x := HX.out
    have hrw : (W.drewN nq).rangeAt w.heap.size 0 c := HRW.out
    have hbw3 : Below g w (W.drewN nq) := below_drewN hbw nq
    have hs3 : w.heap.size < (W.drewN nq).heap.size := hsz
    rw [← hwx] at hxw hrw hbw3 hs3
    clear hwx HX HRW hbw hsz x33 x34 x35 x36 x37 w1 w2 w3 w4 hsum
    obtain ⟨b0, hb0⟩ : ∃ b, decide (x.sum = 0) = b := ⟨_, rfl⟩
    have HB0 := Lib.hid hb0
    rw [hb0]
    clear hb0
    go_upto_if 36 with fail
    go_cut [] from 37 to 47 (fun wx => ExAt wx g (x.first c) ∧ wx.rangeAt w.heap.size 0 c ∧ Below g w wx)
    case first =>
      cases b0 with
      | true =>
        have h0 : x.sum = 0 := of_decide_eq_true HB0.out
        have hic : Typed (List.replicate 32 (some .u8)) ((c.drop 2).take 32) := Typed.part HC.out 2 32 (by rw [HC.out.length, evK_len]; omega) (by kernel_rfl)
        have c35 := ev_cell hrw HC.out 35 .u8 (by kernel_rfl)
        have hid := range_part hrw 2 32
        rw [Nat.zero_add] at hid
        have hF : x.first c = { x with idc := (c.drop 2).take 32, tok := intAt c 35 } := by unfold Ex.first; rw [if_pos h0]
        have HF := Lib.hid hF
        clear h0
        have HE := Lib.hid hrw
        clear hF hrw
        generalize (c.drop 2).take 32 = ic at *
        generalize intAt c 35 = tk at *
        have hl : ic.length = 32 := by rw [hic.length, List.length_replicate]
        have hone := hic.one
        have hi := hash_info hl
        have hu := Try.underlying26
        have hth : wc.there g 0 32 := fun j hj => ⟨by rw [Nat.zero_add, hxw.cell (by omega)]; rfl, hxw.frozen _⟩
        have h32 : wc.cell? ⟨g, 32, none⟩ = some (.int .u8 x.tok) := hxw.cell (by decide)
        have f32 := hxw.frozen 32
        have HX := Lib.hid hxw
        clear hic hxw
        have hgw : g ≠ w.heap.size := by omega
        go_wp2_with fail
        go_region_held3 (fun w' => w'.rangeAt w.heap.size 2 ic ∧ w'.cell? ⟨w.heap.size, 35, none⟩ = some (.int .u8 tk) ∧ w'.there g 0 32 ∧ w'.cell? ⟨g, 32, none⟩ = some (curCell w' ⟨g, 32, none⟩) ∧ w'.frozen? ⟨g, 32, none⟩ = false)
          (first | exact ⟨hid, c35, hth, cur_of h32, f32⟩ | (refine Keeps.store hgw ?_ _; first | assumption | exact ⟨by assumption, by assumption, by assumption, by assumption, by assumption⟩) | (refine Keeps.cells hgw hl ?_; first | assumption | exact ⟨by assumption, by assumption, by assumption, by assumption, by assumption⟩)) (fail)
        all_goals
          go_wp2_with fail
          go_meet
          refine ⟨?_, ?_, ?_⟩
          · rw [HF.out]
            first | exact first_at1 HX.out ic tk hl | exact first_at2 HX.out ic tk hl
          · first
            | exact range_other (World.rangeAt_setCells_apart (w := wc.drew) HE.out g 0 ic (.inl (fun e => hgw e.symm))) hgw _ _
            | exact World.rangeAt_setCells_apart (range_other (w := wc.drew) HE.out hgw _ _) g 0 ic (.inl (fun e => hgw e.symm))
          · first
            | exact (below_range (Nat.le_refl _) ic 0 _ hbw3.drew).setCell (Nat.le_refl _) _
            | exact below_range (Nat.le_refl _) ic 0 _ (hbw3.drew.setCell (Nat.le_refl _) _)
      | false =>
        have h0 : ¬ x.sum = 0 := of_decide_eq_false HB0.out
        have hF : x.first c = x := by unfold Ex.first; rw [if_neg h0]
        have HF := Lib.hid hF
        clear hF h0
        go_wp2_with fail
        go_meet
        exact ⟨by rw [HF.out]; exact hxw, hrw, hbw3⟩
    case rest =>
    obtain ⟨hx1, hr1, hb1⟩ := hcut
    obtain ⟨m, hm, hml, hx2⟩ := count_at hx1 HCS.out
    have hx2' : ExAt (wc.setCell ⟨g, j, none⟩ (.int .i64 ((m : Int) + 1))) g ((x.first c).count kd) := hx2
    rw [(x.first_sum c).1] at hml
    have hwm : IntKind.i64.wrap ((m : Int) + 1) = (m : Int) + 1 := IntWalk.i64_in _ (by omega)
    have hfm := hx1.frozen j
    have hgw : g ≠ w.heap.size := by omega
    have hr2 := range_other hr1 hgw j (.int .i64 ((m : Int) + 1))
    have hb2 : Below g w (wc.setCell ⟨g, j, none⟩ (.int .i64 ((m : Int) + 1))) := hb1.setCell (Nat.le_refl _) _
    clear hx1 hr1 hb1 hx2
    go_upto_region 7 with fail
    obtain ⟨W6, hW6⟩ : ∃ W6, wc.setCell ⟨g, j, none⟩ (.int .i64 ((m : Int) + 1)) = W6 := ⟨_, rfl⟩
    rw [hW6] at hx2' hr2 hb2
    rw [hW6]
    clear hW6 hm hfm hwm hml
    have c0 := ev_cell hr2 HC.out 0 .u8 (by kernel_rfl)
    rw [HK.out] at c0
    obtain ⟨F1, f0, f1, f2, f3⟩ := numAt_facts HC.out 42 (by kernel_rfl) (by kernel_rfl) (by kernel_rfl) (by kernel_rfl)
    obtain ⟨P1, p0, p1, p2, p3⟩ := numAt_facts HC.out 38 (by kernel_rfl) (by kernel_rfl) (by kernel_rfl) (by kernel_rfl)
    have v42 := ev_cell hr2 HC.out 42 .u64 (by kernel_rfl)
    have v43 := ev_cell hr2 HC.out 43 .u64 (by kernel_rfl)
    have v44 := ev_cell hr2 HC.out 44 .u64 (by kernel_rfl)
    have v45 := ev_cell hr2 HC.out 45 .u64 (by kernel_rfl)
    have v38 := ev_cell hr2 HC.out 38 .u64 (by kernel_rfl)
    have v39 := ev_cell hr2 HC.out 39 .u64 (by kernel_rfl)
    have v40 := ev_cell hr2 HC.out 40 .u64 (by kernel_rfl)
    have v41 := ev_cell hr2 HC.out 41 .u64 (by kernel_rfl)
    rw [← f0] at v42
    rw [← f1] at v43
    rw [← f2] at v44
    rw [← f3] at v45
    rw [← p0] at v38
    rw [← p1] at v39
    rw [← p2] at v40
    rw [← p3] at v41
    have HFd := Lib.hid (show ∀ y : Ex, y.fees c = if kd = 8 then { y with fee := sat y.fee (numAt c 42) } else y from fun y => by unfold Ex.fees; rw [HK.out])
    have HPd := Lib.hid (show ∀ y : Ex, y.pays c = if kd = 8 ∨ kd = 13 then { y with paid := sat y.paid (numAt c 38) } else y from fun y => by unfold Ex.pays; rw [HK.out])
    have hyp : ((x.first c).count kd).paid < 18446744073709551616 ^ 4 ∧ ((x.first c).count kd).fee < 18446744073709551616 ^ 4 := by
      rw [((x.first c).count_sum kd).2.1, ((x.first c).count_sum kd).2.2, (x.first_sum c).2.1, (x.first_sum c).2.2]
      exact ⟨hp, hf⟩
    have HP := Lib.hid (And.intro p0 (And.intro p1 (And.intro p2 p3)))
    clear f0 f1 f2 f3 p0 p1 p2 p3 hp hf hs
    generalize (x.first c).count kd = y at *
    generalize numAt c 42 = vf at *
    generalize numAt c 38 = vp at *
    obtain ⟨yp, yf⟩ := hyp
    obtain ⟨⟨y38, y39, y40, y41⟩, ⟨y42, y43, y44, y45⟩⟩ := hx2'.cells
    by_cases k8 : kd = 8
    · subst k8
      have HT2 := Lib.hid (show x.take c = { y with fee := sat y.fee vf, paid := sat y.paid vp } by rw [HT.out, HFd.out, if_pos rfl, HPd.out, if_pos (.inl rfl)])
      have HAf := Lib.hid (fun w => tadd_calls y.fee vf w yf F1)
      have HAd := Lib.hid (fun w => tadd_calls y.paid vp w yp P1)
      clear v38 v39 v40 v41 y38 y39 y40 y41
      go_wp2_with fail
      go_region_with (first
        | (go_at_call 52
           refine (HAf.out _).mono ?_
           rintro e w9 ⟨rfl, hb9⟩
           have hx9 : ExAt w9 g y := World.rowIs.of_block hx2'.drew (hb9.block g hx2'.lt)
           have hq9 := hb2.drew.trans (hb9.mono (Nat.le_trans (Nat.le_of_lt hx2'.lt) (Nat.le_refl _)))
           have hr9 := range_below (range_drew hr2) hb9 (range_lt hr2 (by rw [HC.out.length, evK_len]; decide))
           obtain ⟨-, ⟨z42, z43, z44, z45⟩⟩ := hx9.cells
           have q42 := hx9.frozen 42
           have q43 := hx9.frozen 43
           have q44 := hx9.frozen 44
           have q45 := hx9.frozen 45))
      all_goals
        have hx3 := fee_at hx9 (sat y.fee vf)
        have hr3 := range_put4 (k := 42) hr9 hgw (limb (sat y.fee vf) 0) (limb (sat y.fee vf) 1) (limb (sat y.fee vf) 2) (limb (sat y.fee vf) 3)
        have hb3 := below_put4 (g := g) (o := 42) hq9 (Nat.le_refl _) (limb (sat y.fee vf) 0) (limb (sat y.fee vf) 1) (limb (sat y.fee vf) 2) (limb (sat y.fee vf) 3)
        obtain ⟨W3, hW3⟩ : ∃ W3, put4 w9 g 42 (limb (sat y.fee vf) 0) (limb (sat y.fee vf) 1) (limb (sat y.fee vf) 2) (limb (sat y.fee vf) 3) = W3 := ⟨_, rfl⟩
        rw [hW3] at hx3 hr3 hb3
        unfold put4 at hW3
        simp only [Nat.reduceAdd] at hW3
        rw [hW3]
        clear hW3 hx9 hr9 hq9 hb9 hx2' hr2 hb2 c0 v42 v43 v44 v45 y42 y43 y44 y45 z42 z43 z44 z45 q42 q43 q44 q45
        have v38 := ev_cell hr3 HC.out 38 .u64 (by kernel_rfl)
        have v39 := ev_cell hr3 HC.out 39 .u64 (by kernel_rfl)
        have v40 := ev_cell hr3 HC.out 40 .u64 (by kernel_rfl)
        have v41 := ev_cell hr3 HC.out 41 .u64 (by kernel_rfl)
        rw [← HP.out.1] at v38
        rw [← HP.out.2.1] at v39
        rw [← HP.out.2.2.1] at v40
        rw [← HP.out.2.2.2] at v41
        obtain ⟨⟨y38, y39, y40, y41⟩, -⟩ := hx3.cells
        dsimp only at y38 y39 y40 y41
        go_wp2_with fail
        go_region_with (first
          | (go_at_call 52
             refine (HAd.out _).mono ?_
             rintro e w9 ⟨rfl, hb9⟩
             have hx9 : ExAt w9 g { y with fee := sat y.fee vf } := World.rowIs.of_block hx3.drew (hb9.block g hx3.lt)
             have hq9 := hb3.drew.trans (hb9.mono (Nat.le_trans (Nat.le_of_lt hx3.lt) (Nat.le_refl _)))
             obtain ⟨⟨z38, z39, z40, z41⟩, -⟩ := hx9.cells
             have q38 := hx9.frozen 38
             have q39 := hx9.frozen 39
             have q40 := hx9.frozen 40
             have q41 := hx9.frozen 41))
        all_goals
          go_wp2_with fail
          go_ret
          exact ⟨congrArg (fun b => Ending.returned (.bool b)) HB.out, by rw [HT2.out]; exact paid_at hx9 _, below_put4 hq9 (Nat.le_refl _) _ _ _ _⟩
    · have n8 : (kd == 8) = false := beq_eq_false_iff_ne.2 k8
      by_cases k13 : kd = 13
      · subst k13
        have HT2 := Lib.hid (show x.take c = { y with paid := sat y.paid vp } by rw [HT.out, HFd.out, if_neg k8, HPd.out, if_pos (by omega)])
        have HAd := Lib.hid (fun w => tadd_calls y.paid vp w yp P1)
        clear v42 v43 v44 v45 y42 y43 y44 y45
        go_wp2_with fail
        go_region_with (first
          | (go_at_call 52
             refine (HAd.out _).mono ?_
             rintro e w9 ⟨rfl, hb9⟩
             have hx9 : ExAt w9 g y := World.rowIs.of_block hx2'.drew (hb9.block g hx2'.lt)
             have hq9 := hb2.drew.trans (hb9.mono (Nat.le_trans (Nat.le_of_lt hx2'.lt) (Nat.le_refl _)))
             obtain ⟨⟨z38, z39, z40, z41⟩, -⟩ := hx9.cells
             have q38 := hx9.frozen 38
             have q39 := hx9.frozen 39
             have q40 := hx9.frozen 40
             have q41 := hx9.frozen 41))
        all_goals
          go_wp2_with fail
          go_ret
          exact ⟨congrArg (fun b => Ending.returned (.bool b)) HB.out, by rw [HT2.out]; exact paid_at hx9 _, below_put4 hq9 (Nat.le_refl _) _ _ _ _⟩
      · have n13 : (kd == 13) = false := beq_eq_false_iff_ne.2 k13
        have HT2 := Lib.hid (show x.take c = y by rw [HT.out, HFd.out, if_neg k8, HPd.out, if_neg (by omega)])
        clear v38 v39 v40 v41 v42 v43 v44 v45 y38 y39 y40 y41 y42 y43 y44 y45
        go_wp2_with fail
        go_ret
        exact ⟨congrArg (fun b => Ending.returned (.bool b)) HB.out, by rw [HT2.out]; exact hx2', hb2⟩
end Go.Proofs.Ytchjjbklkmfelaa
