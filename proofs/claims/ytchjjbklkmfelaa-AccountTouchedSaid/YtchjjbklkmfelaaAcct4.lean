/- account.Totals: what lines give, and take. -/
import Derived.Test.YtchjjbklkmfelaaAcct3
namespace Go.Proofs.Ytchjjbklkmfelaa
open Go.RowKit Go.Lib
set_option linter.unusedVariables false
set_option linter.unusedSimpArgs false

def gain (c : List Value) : Bool := match (c[2]? : Option Value) with | some (.bool b) => b | _ => false
def amt (c : List Value) : Nat := num (intAt c 3) (intAt c 4) (intAt c 5) (intAt c 6)
def ins (l : List (List Value)) : List Nat := (l.filter gain).map amt
def outs (l : List (List Value)) : List Nat := (l.filter fun c => !gain c).map amt
def totV (a b : Nat) : Value := if a < 18446744073709551616 ^ 4 ∧ b < 18446744073709551616 ^ 4 then .tuple #[bigN a, bigN b, .int .i64 0] else .tuple #[bigN 0, bigN 0, .int .i64 2]
def totsV (l : List (List Value)) : Value := totV (ins l).sum (outs l).sum

theorem typed_bool {K : Kinds} {c : List Value} (h : Typed K c) : ∀ (j : Nat), K[j]? = some none → ∃ b, c[j]? = some (.bool b) := by
  induction K generalizing c with
  | nil => intro j hk; simp at hk
  | cons k0 ks ih =>
    obtain ⟨v, vs, rfl, h1, h2⟩ := h
    intro j hk
    cases j with
    | zero =>
      simp at hk
      subst hk
      obtain ⟨b, rfl⟩ := h1
      exact ⟨b, rfl⟩
    | succ j =>
      obtain ⟨b, hb⟩ := ih h2 j (by simpa using hk)
      exact ⟨b, by simpa using hb⟩
theorem line_gain {c : List Value} (h : Typed lineK c) : c[2]? = some (.bool (gain c)) := by
  obtain ⟨b, hb⟩ := typed_bool h 2 rfl
  unfold gain
  rw [hb]
theorem line_amt {c : List Value} (ht : Typed lineK c) : amt c < 18446744073709551616 ^ 4 ∧ limb (amt c) 0 = intAt c 3 ∧ limb (amt c) 1 = intAt c 4 ∧ limb (amt c) 2 = intAt c 5 ∧ limb (amt c) 3 = intAt c 6 := by
  have b0 := bounds_u64 (ht.at 3 .u64 rfl).2
  have b1 := bounds_u64 (ht.at 4 .u64 rfl).2
  have b2 := bounds_u64 (ht.at 5 .u64 rfl).2
  have b3 := bounds_u64 (ht.at 6 .u64 rfl).2
  have hl := limb_num b0.1 (show intAt c 3 < 18446744073709551616 by omega) b1.1 (show intAt c 4 < 18446744073709551616 by omega) b2.1 (show intAt c 5 < 18446744073709551616 by omega) b3.1 (show intAt c 6 < 18446744073709551616 by omega)
  exact ⟨num_lt (by omega) (by omega) (by omega) (by omega), hl⟩
theorem ins_take (l : List (List Value)) (k : Nat) (h : k < l.length) : ins (l.take (k + 1)) = ins (l.take k) ++ (if gain (l.getD k []) then [amt (l.getD k [])] else []) := by
  unfold ins
  rw [List.take_succ_eq_append_getElem h, List.filter_append, List.map_append, List.getD_eq_getElem?_getD, List.getElem?_eq_getElem h]
  simp only [Option.getD_some, List.filter_cons, List.filter_nil]
  split <;> rfl
theorem outs_take (l : List (List Value)) (k : Nat) (h : k < l.length) : outs (l.take (k + 1)) = outs (l.take k) ++ (if gain (l.getD k []) then [] else [amt (l.getD k [])]) := by
  unfold outs
  rw [List.take_succ_eq_append_getElem h, List.filter_append, List.map_append, List.getD_eq_getElem?_getD, List.getElem?_eq_getElem h]
  simp only [Option.getD_some, List.filter_cons, List.filter_nil]
  cases gain l[k] <;> rfl
theorem ins_len (l : List (List Value)) : (ins l).length ≤ l.length := by unfold ins; rw [List.length_map]; exact List.length_filter_le _ _
theorem outs_len (l : List (List Value)) : (outs l).length ≤ l.length := by unfold outs; rw [List.length_map]; exact List.length_filter_le _ _
theorem ins_lt {l : List (List Value)} (h : ∀ x ∈ l, Typed lineK x) : ∀ n ∈ ins l, n < 18446744073709551616 ^ 4 := by
  intro n hn
  obtain ⟨c, hc, rfl⟩ := List.mem_map.1 hn
  exact (line_amt (h c (List.mem_filter.1 hc).1)).1
theorem outs_lt {l : List (List Value)} (h : ∀ x ∈ l, Typed lineK x) : ∀ n ∈ outs l, n < 18446744073709551616 ^ 4 := by
  intro n hn
  obtain ⟨c, hc, rfl⟩ := List.mem_map.1 hn
  exact (line_amt (h c (List.mem_filter.1 hc).1)).1

theorem OwnR.store {E : TypeId} {K : Kinds} {w : World} {base : Nat} {v : Value} {l : List (List Value)} (h : OwnR E K w base v l) {g : Nat} (hg : g < base) (a b c d : Int) : OwnR E K (store4 w g a b c d) base v l := by
  have hne : ∀ k, v.ownBlock = some k → g ≠ k := fun k hk => by have := (OwnR.lt h k hk).1; omega
  refine ⟨⟨h.1.1, ?_⟩, h.2⟩
  rcases h.1.2 with h2 | ⟨g', cap, cur, rfl, hb, hc, h3⟩
  · exact .inl h2
  · refine .inr ⟨g', cap, cur, rfl, hb, ?_, h3⟩
    have h0 : ∀ (w : World) (k : Nat) (u : Value), (w.setCell ⟨g, k, none⟩ u).heap[g']? = w.heap[g']? := fun w k u => by
      exact Go.Deep.blk_setCell_other w ⟨g, k, none⟩ u g' (fun e => hne g' rfl e.symm)
    unfold store4
    rw [h0, h0, h0, h0]
    exact hc

/-- Two slices that share no block. -/
def Apart (a b : Value) : Prop := ∀ k, a.ownBlock = some k → b.ownBlock ≠ some k
theorem Apart.symm {a b : Value} (h : Apart a b) : Apart b a := fun k hb ha => h k ha hb
theorem OwnR.keep {E : TypeId} {K : Kinds} {w w' : World} {base : Nat} {a v : Value} {l : List (List Value)} (h : OwnR E K w base v l) (hg : w.grownBy w' a.ownBlock) (hap : Apart a v) : OwnR E K w' base v l := by
  refine h.grown hg ?_
  cases hv : v.ownBlock with
  | none => exact .inl rfl
  | some k =>
    refine .inr fun e => ?_
    exact hap k e.symm hv
theorem Apart.grown {E : TypeId} {K : Kinds} {w : World} {base : Nat} {a v v' : Value} {l : List (List Value)} (h : OwnR E K w base v l) (hap : Apart a v) (hv : v'.ownBlock = a.ownBlock ∨ v'.ownBlock = some (w.heap.size + 1)) : Apart v' v := by
  intro k hk hv2
  rcases hv with e | e
  · exact hap k (e.symm.trans hk) hv2
  · rw [e] at hk
    cases hk
    have := (OwnR.lt h _ hv2).2
    omega

/-- Four cells hold a number, and may be written. -/
abbrev Four (w : World) (g : Nat) (x0 x1 x2 x3 : Int) : Prop :=
  (w.cell? ⟨g, 0, none⟩ = some (.int .u64 x0) ∧ w.cell? ⟨g, 1, none⟩ = some (.int .u64 x1) ∧ w.cell? ⟨g, 2, none⟩ = some (.int .u64 x2) ∧ w.cell? ⟨g, 3, none⟩ = some (.int .u64 x3)) ∧
  (w.frozen? ⟨g, 0, none⟩ = false ∧ w.frozen? ⟨g, 1, none⟩ = false ∧ w.frozen? ⟨g, 2, none⟩ = false ∧ w.frozen? ⟨g, 3, none⟩ = false)
theorem Four.same {w : World} {g : Nat} {x0 x1 x2 x3 : Int} (h : Four w g x0 x1 x2 x3) : Four (store4 w g x0 x1 x2 x3) g x0 x1 x2 x3 := by
  obtain ⟨⟨h0, h1, h2, h3⟩, f0, f1, f2, f3⟩ := h
  unfold store4
  have n : ∀ (i j : Nat), i ≠ j → (⟨g, i, none⟩ : Addr) ≠ ⟨g, j, none⟩ := fun i j hij e => hij (by injection e)
  refine ⟨⟨?_, ?_, ?_, ?_⟩, by simpa using f0, by simpa using f1, by simpa using f2, by simpa using f3⟩
  · rw [World.cell?_setCell_other _ _ _ _ (n _ _ (by decide)), World.cell?_setCell_other _ _ _ _ (n _ _ (by decide)), World.cell?_setCell_other _ _ _ _ (n _ _ (by decide)), World.cell?_setCell_same _ _ _ h0]
  · rw [World.cell?_setCell_other _ _ _ _ (n _ _ (by decide)), World.cell?_setCell_other _ _ _ _ (n _ _ (by decide)), World.cell?_setCell_same _ _ _ ((World.cell?_setCell_other _ _ _ _ (n _ _ (by decide))).trans h1)]
  · rw [World.cell?_setCell_other _ _ _ _ (n _ _ (by decide)), World.cell?_setCell_same _ _ _ ((World.cell?_setCell_other _ _ _ _ (n _ _ (by decide))).trans ((World.cell?_setCell_other _ _ _ _ (n _ _ (by decide))).trans h2))]
  · rw [World.cell?_setCell_same _ _ _ ((World.cell?_setCell_other _ _ _ _ (n _ _ (by decide))).trans ((World.cell?_setCell_other _ _ _ _ (n _ _ (by decide))).trans ((World.cell?_setCell_other _ _ _ _ (n _ _ (by decide))).trans h3)))]
theorem Four.other {w : World} {g g' : Nat} {x0 x1 x2 x3 : Int} (h : Four w g x0 x1 x2 x3) (hg : g ≠ g') (a b c d : Int) : Four (store4 w g' a b c d) g x0 x1 x2 x3 := by
  obtain ⟨⟨h0, h1, h2, h3⟩, f0, f1, f2, f3⟩ := h
  unfold store4
  have n : ∀ (i j : Nat), (⟨g', i, none⟩ : Addr) ≠ ⟨g, j, none⟩ := fun i j e => hg (by injection e with e; exact e.symm)
  have m : ∀ (i j : Nat), (⟨g, i, none⟩ : Addr) ≠ ⟨g', j, none⟩ := fun i j e => hg (by injection e)
  refine ⟨⟨?_, ?_, ?_, ?_⟩, by simpa using f0, by simpa using f1, by simpa using f2, by simpa using f3⟩
  all_goals first
    | (rw [World.cell?_setCell_other _ _ _ _ (n _ _), World.cell?_setCell_other _ _ _ _ (n _ _), World.cell?_setCell_other _ _ _ _ (n _ _), World.cell?_setCell_other _ _ _ _ (n _ _)]; assumption)
    | (rw [World.cell?_setCell_other _ _ _ _ (m _ _), World.cell?_setCell_other _ _ _ _ (m _ _), World.cell?_setCell_other _ _ _ _ (m _ _), World.cell?_setCell_other _ _ _ _ (m _ _)]; assumption)
def objLine : Obj := .cells #[.int .i64 0, .int .u8 0, .bool false, .int .u64 0, .int .u64 0, .int .u64 0, .int .u64 0] 92
theorem line_info {c : List Value} (h : Typed lineK c) : (Try.prog.info? 92).map (·.size) = some c.length := by rw [h.length]; kernel_rfl
theorem line_info' {c : List Value} (h : Typed lineK c) : (Try.prog.info? 92).map (·.size) = some c.toArray.size := by rw [List.size_toArray]; exact line_info h
theorem line_there (w : World) {c : List Value} (h : Typed lineK c) : (w.alloc objLine).there w.heap.size 0 c.toArray.size := by
  have := there_alloc w #[.int .i64 0, .int .u8 0, .bool false, .int .u64 0, .int .u64 0, .int .u64 0, .int .u64 0] 92
  rw [show c.toArray.size = 7 by rw [List.size_toArray, h.length]; rfl]
  exact this
theorem line_laid (w : World) {c : List Value} (h : Typed lineK c) : ((w.alloc objLine).setCells w.heap.size 0 c).rangeAt w.heap.size 0 c :=
  World.rangeAt_setCells_same _ _ _ _ (by have := line_there w h; rwa [List.size_toArray] at this)
theorem line_cell {W : World} {g : Nat} {x : List Value} (hL : W.rangeAt g 0 x) (ht : Typed lineK x) (j : Nat) (k : IntKind) (hk : lineK[j]? = some (some k)) : W.cell? ⟨g, j, none⟩ = some (.int k (intAt x j)) := by
  have := hL j _ (ht.at j k hk).1
  rwa [Nat.zero_add] at this

set_option maxHeartbeats 4000000 in
set_option maxRecDepth 100000 in
theorem totals_calls (v : Value) (l : List (List Value)) (w : World) (h : Recs lineK w v l) (hl : l.length ≤ 100000) :
    Calls Try.prog 22 #[v] w fun e w' => e = .returned (totsV l) ∧ Below w.heap.size w w' := by
  obtain ⟨A, c, rfl, a1, a2, hty, -⟩ := id h
  unfold maxLen at a2
  have HTY := Lib.hid hty
  clear hty
  obtain ⟨n, hn⟩ : ∃ n, l.length = n := ⟨_, rfl⟩
  rw [hn] at a1 hl h ⊢
  have HN := Lib.hid hn
  have HR := Lib.hid h
  clear hn h
  have B1 := Box.zero w
  have B2 := Box.zero (w.alloc (obj4 0 0 0 0))
  have Q0 : Below w.heap.size w ((w.alloc (obj4 0 0 0 0)).alloc (obj4 0 0 0 0)) := ((Below.refl _ _).alloc (Nat.le_refl _) _).alloc (by simp) _
  have B1' := B1.alloc (obj4 0 0 0 0)
  rw [World.size_alloc] at B2
  clear B1
  go_enter Try.func22, Try.ntmps22
  go_wp2_with fail
  obtain ⟨W, hW⟩ : ∃ W, (w.alloc (obj4 0 0 0 0)).alloc (obj4 0 0 0 0) = W := ⟨_, rfl⟩
  dsimp only [obj4] at hW B2 B1' Q0
  rw [hW] at B2 B1' Q0
  rw [hW]
  clear hW
  have hs0 := B2.lt
  go_loopw [5, 6, 12] (fun ri ro i wr => ∃ k : Nat, i = .int .i64 k ∧ k ≤ n ∧ OwnR 28 numK wr (w.heap.size + 2) ri ((ins (l.take k)).map cells4L) ∧ OwnR 28 numK wr (w.heap.size + 2) ro ((outs (l.take k)).map cells4L) ∧
    Hid (Apart ri ro) ∧ Box wr w.heap.size 0 ∧ Box wr (w.heap.size + 1) 0 ∧ Below w.heap.size w wr) (fun _ _ i _ => n - (RowKit.intOf i).toNat)
  case atStart => exact ⟨0, rfl, by omega, OwnR.nil _ _ _ _, OwnR.nil _ _ _ _, Lib.hid (fun k hk => by simp [Value.ownBlock] at hk), B1', B2, Q0⟩
  case round =>
    obtain ⟨k, rfl, hk, hi, ho, HA, b1, b2, hb⟩ := hrel
    clear B1' B2 Q0 hs0
    by_cases hlt : k < n
    · have hlt' : (k : Int) < (n : Int) := by omega
      obtain ⟨g, o, rfl, hg, hr, ht⟩ := (HR.out.below (by decide) hb).at (by decide) k hlt
      have hst := ins_take l k (by have := HN.out; omega)
      have hso := outs_take l k (by have := HN.out; omega)
      obtain ⟨x, hxe⟩ : ∃ x, l.getD k [] = x := ⟨_, rfl⟩
      rw [hxe] at hr ht hst hso
      have hr' : wr.rangeAt g (o + k * 7) x := hr
      have HTh := Lib.hid (line_there wr ht)
      unfold objLine at HTh
      have sz2 := b2.lt
      go_upto_region 5 with (first
        | refine wpList_load_mid rfl 92 _ rfl g (o + k * 7) rfl x _ hr' Try.underlying92 rfl (line_info ht) ?_
        | refine wpList_store_mid rfl 92 _ _ rfl wr.heap.size 0 x.toArray rfl rfl HTh.out (line_info' ht) (all_oneCell_toArray ht.one) ?_)
      have hL := line_laid wr ht
      have hbn := new_below wr objLine x
      have hbb := hb.trans (hbn.mono hb.size)
      have hs : wr.heap.size < ((wr.alloc objLine).setCells wr.heap.size 0 x).heap.size := range_lt hL (by rw [ht.length]; decide)
      have hi2 := hi.later hbn
      have ho2 := ho.later hbn
      have b12 := b1.later hbn
      have b22 := b2.later hbn
      obtain ⟨W2, hW2⟩ : ∃ W2, (wr.alloc objLine).setCells wr.heap.size 0 x = W2 := ⟨_, rfl⟩
      rw [hW2] at hL hbb hs hi2 ho2 b12 b22
      unfold objLine at hW2
      rw [hW2]
      clear hW2 HTh hi ho hr hr' hb hbn b1 b2
      have hw : IntKind.i64.wrap ((k : Int) + 1) = (k : Int) + 1 := IntWalk.i64_in _ (by omega)
      have l1 : ((ins (l.take k)).map cells4L).length ≤ 1000000000 := by rw [List.length_map]; have := ins_len (l.take k); rw [List.length_take] at this; omega
      have l2 : ((outs (l.take k)).map cells4L).length ≤ 1000000000 := by rw [List.length_map]; have := outs_len (l.take k); rw [List.length_take] at this; omega
      have hbs : w.heap.size + 2 ≤ W2.heap.size := by omega
      have c2 : W2.cell? ⟨wr.heap.size, 2, none⟩ = some (.bool (gain x)) := by
        have := hL 2 _ (line_gain ht)
        rwa [Nat.zero_add] at this
      obtain ⟨am, m0, m1, m2, m3⟩ := line_amt ht
      have c3 := line_cell hL ht 3 .u64 rfl
      have c4 := line_cell hL ht 4 .u64 rfl
      have c5 := line_cell hL ht 5 .u64 rfl
      have c6 := line_cell hL ht 6 .u64 rfl
      rw [← m0] at c3
      rw [← m1] at c4
      rw [← m2] at c5
      rw [← m3] at c6
      have HIn := Lib.hid hst
      have HOut := Lib.hid hso
      clear hL ht m0 m1 m2 m3 hst hso
      generalize amt x = a at *
      cases hgx : gain x with
      | true =>
        rw [hgx] at HIn HOut c2
        clear hgx
        go_wp2_with (at_builtin; refine wpList_app_rec rfl _ _ 93 28 numK _ 32 rfl Try.underlying93 info4 rfl (by decide) (by decide) (w.heap.size + 2) u5 ((ins (l.take k)).map cells4L) rfl hi2 (cells4L a) (cells4_typed a) rfl l1 hbs ?_)
        intro v' w4 hi4 hg4 hb4 hs4 hat
        have ho4 := (ho2.alloc (.cells (cells4L a).toArray 28)).keep hg4 HA.out
        have hA4 := Apart.grown ho2 HA.out hat
        have b14 := b12.below hb4 (by omega)
        have b24 := b22.below hb4 (by omega)
        have hbb4 := hbb.trans (hb4.mono (by omega))
        clear c2 c3 c4 c5 c6
        go_wp2_with fail
        go_roundw
        case rel => exact ⟨k + 1, rfl, by omega, by rw [HIn.out]; simpa using hi4, by rw [HOut.out]; simpa using ho4, Lib.hid hA4, b14, b24, hbb4⟩
        case measure => simp [RowKit.intOf]; omega
      | false =>
        rw [hgx] at HIn HOut c2
        clear hgx
        go_wp2_with (at_builtin; refine wpList_app_rec rfl _ _ 93 28 numK _ 32 rfl Try.underlying93 info4 rfl (by decide) (by decide) (w.heap.size + 2) u6 ((outs (l.take k)).map cells4L) rfl ho2 (cells4L a) (cells4_typed a) rfl l2 hbs ?_)
        intro v' w4 ho4 hg4 hb4 hs4 hat
        have hi4 := (hi2.alloc (.cells (cells4L a).toArray 28)).keep hg4 HA.out.symm
        have hA4 := (Apart.grown hi2 HA.out.symm hat).symm
        have b14 := b12.below hb4 (by omega)
        have b24 := b22.below hb4 (by omega)
        have hbb4 := hbb.trans (hb4.mono (by omega))
        clear c2 c3 c4 c5 c6
        go_wp2_with fail
        go_roundw
        case rel => exact ⟨k + 1, rfl, by omega, by rw [HIn.out]; simpa using hi4, by rw [HOut.out]; simpa using ho4, Lib.hid hA4, b14, b24, hbb4⟩
        case measure => simp [RowKit.intOf]; omega
    · have hkn : k = n := by omega
      subst hkn
      rw [List.take_of_length_le (by rw [HN.out]; exact Nat.le_refl _)] at hi ho
      have HS1 := Lib.hid (hsum_calls u5 (ins l) wr (OwnR.numsOf hi) (by have := ins_len l; have := HN.out; omega) (ins_lt HTY.out))
      have hV : totsV l = totV (ins l).sum (outs l).sum := rfl
      have HV := Lib.hid hV
      have HO1 := Lib.hid ho
      clear hi ho hV
      generalize (ins l).sum = a at *
      rw [sumV_kept] at HS1
      go_wp2_with fail
      refine HS1.out.mono ?_
      rintro e w1 ⟨rfl, hb1⟩
      have b11 := b1.later hb1
      have b21 := b2.later hb1
      have hbb1 := hb.trans (hb1.mono hb.size)
      have ho1 := (HO1.out.later hb1).store (g := w.heap.size) (by omega) (limb (kept a) 0) (limb (kept a) 1) (limb (kept a) 2) (limb (kept a) 3)
      have b1s := b11.stored (kept a)
      have b2s := b21.store_other (g' := w.heap.size) (by omega) (limb (kept a) 0) (limb (kept a) 1) (limb (kept a) 2) (limb (kept a) 3)
      have hbs := below_store hbb1 (Nat.le_refl _) (limb (kept a) 0) (limb (kept a) 1) (limb (kept a) 2) (limb (kept a) 3)
      obtain ⟨r0, r1, r2, r3⟩ := b11.cells
      obtain ⟨d0, d1, d2, d3⟩ := b11.free
      clear HS1 HO1 b1 b2 hb hb1 b11 b21 hbb1
      go_upto_region 10 with fail
      obtain ⟨W2, hW2⟩ : ∃ W2, store4 w1 w.heap.size (limb (kept a) 0) (limb (kept a) 1) (limb (kept a) 2) (limb (kept a) 3) = W2 := ⟨_, rfl⟩
      rw [hW2] at ho1 b1s b2s hbs
      unfold store4 at hW2
      rw [hW2]
      clear hW2 r0 r1 r2 r3 d0 d1 d2 d3
      have HS2 := Lib.hid (hsum_calls u6 (outs l) W2 (OwnR.numsOf ho1) (by have := outs_len l; have := HN.out; omega) (outs_lt HTY.out))
      clear ho1
      generalize (outs l).sum = b at *
      rw [sumV_kept] at HS2
      go_wp2_with fail
      refine HS2.out.mono ?_
      rintro e w3 ⟨rfl, hb3⟩
      have b13 := b1s.later hb3
      have b23 := b2s.later hb3
      have hbb3 := hbs.trans (hb3.mono hbs.size)
      have b1t := b13.store_other (g' := w.heap.size + 1) (by omega) (limb (kept b) 0) (limb (kept b) 1) (limb (kept b) 2) (limb (kept b) 3)
      have b2t := b23.stored (kept b)
      have hbt := below_store hbb3 (show w.heap.size ≤ w.heap.size + 1 by omega) (limb (kept b) 0) (limb (kept b) 1) (limb (kept b) 2) (limb (kept b) 3)
      obtain ⟨r0, r1, r2, r3⟩ := b23.cells
      obtain ⟨d0, d1, d2, d3⟩ := b23.free
      clear HS2 b1s b2s hbs hb3 b13 b23 hbb3
      go_upto_region 11 with fail
      obtain ⟨W4, hW4⟩ : ∃ W4, store4 w3 (w.heap.size + 1) (limb (kept b) 0) (limb (kept b) 1) (limb (kept b) 2) (limb (kept b) 3) = W4 := ⟨_, rfl⟩
      rw [hW4] at b1t b2t hbt
      unfold store4 at hW4
      rw [hW4]
      clear hW4 r0 r1 r2 r3 d0 d1 d2 d3
      obtain ⟨r0, r1, r2, r3⟩ := b1t.cells
      obtain ⟨d0, d1, d2, d3⟩ := b1t.free
      obtain ⟨s0, s1, s2, s3⟩ := b2t.cells
      obtain ⟨f0, f1, f2, f3⟩ := b2t.free
      have lt1 := b1t.lt
      have lt2 := b2t.lt
      have hcs : (a < 18446744073709551616 ^ 4 ∧ b < 18446744073709551616 ^ 4) ∨ ¬ (a < 18446744073709551616 ^ 4 ∧ b < 18446744073709551616 ^ 4) := Decidable.em _
      rcases hcs with hab | hab
      · have e1 : okE a = 0 := if_pos hab.1
        have e2 : okE b = 0 := if_pos hab.2
        have e3 : kept a = a := if_pos hab.1
        have e4 : kept b = b := if_pos hab.2
        have HT := Lib.hid (show totsV l = .tuple #[bigN a, bigN b, .int .i64 0] by rw [HV.out]; exact if_pos hab)
        rw [e3] at r0 r1 r2 r3
        rw [e4] at s0 s1 s2 s3
        rw [e1, e2]
        clear e1 e2 e3 e4 hab b1t b2t
        go_wp2_with fail
        have F1 : Four W4 w.heap.size (limb a 0) (limb a 1) (limb a 2) (limb a 3) := ⟨⟨r0, r1, r2, r3⟩, d0, d1, d2, d3⟩
        have F2 : Four W4 (w.heap.size + 1) (limb b 0) (limb b 1) (limb b 2) (limb b 3) := ⟨⟨s0, s1, s2, s3⟩, f0, f1, f2, f3⟩
        have n1 : w.heap.size ≠ w.heap.size + 1 := by omega
        have n2 : w.heap.size + 1 ≠ w.heap.size := by omega
        have K1 := And.intro F1.same (F2.other n2 (limb a 0) (limb a 1) (limb a 2) (limb a 3))
        have K2 := And.intro (F1.other n1 (limb b 0) (limb b 1) (limb b 2) (limb b 3)) F2.same
        have K12 := And.intro (K1.1.other n1 (limb b 0) (limb b 1) (limb b 2) (limb b 3)) K1.2.same
        have K21 := And.intro K2.1.same (K2.2.other n2 (limb a 0) (limb a 1) (limb a 2) (limb a 3))
        have HK := Lib.hid (And.intro (And.intro F1 F2) (And.intro K1 (And.intro K2 (And.intro K12 K21))))
        clear F1 F2 n1 n2 K1 K2 K12 K21
        go_region_held3 (fun w' => ((w'.cell? ⟨w.heap.size, 0, none⟩ = some (.int .u64 (limb a 0)) ∧ w'.cell? ⟨w.heap.size, 1, none⟩ = some (.int .u64 (limb a 1)) ∧ w'.cell? ⟨w.heap.size, 2, none⟩ = some (.int .u64 (limb a 2)) ∧ w'.cell? ⟨w.heap.size, 3, none⟩ = some (.int .u64 (limb a 3))) ∧
            (w'.frozen? ⟨w.heap.size, 0, none⟩ = false ∧ w'.frozen? ⟨w.heap.size, 1, none⟩ = false ∧ w'.frozen? ⟨w.heap.size, 2, none⟩ = false ∧ w'.frozen? ⟨w.heap.size, 3, none⟩ = false)) ∧
            ((w'.cell? ⟨w.heap.size + 1, 0, none⟩ = some (.int .u64 (limb b 0)) ∧ w'.cell? ⟨w.heap.size + 1, 1, none⟩ = some (.int .u64 (limb b 1)) ∧ w'.cell? ⟨w.heap.size + 1, 2, none⟩ = some (.int .u64 (limb b 2)) ∧ w'.cell? ⟨w.heap.size + 1, 3, none⟩ = some (.int .u64 (limb b 3))) ∧
            (w'.frozen? ⟨w.heap.size + 1, 0, none⟩ = false ∧ w'.frozen? ⟨w.heap.size + 1, 1, none⟩ = false ∧ w'.frozen? ⟨w.heap.size + 1, 2, none⟩ = false ∧ w'.frozen? ⟨w.heap.size + 1, 3, none⟩ = false)))
          (((try simp only [World.cell?_drew, World.frozen?_drew]); (first | (with_reducible exact HK.out.1) | (with_reducible exact HK.out.2.1) | (with_reducible exact HK.out.2.2.1) | (with_reducible exact HK.out.2.2.2.1) | (with_reducible exact HK.out.2.2.2.2)))) (fail)
        · have hbf := below_store (below_store hbt (Nat.le_refl _) (limb a 0) (limb a 1) (limb a 2) (limb a 3)) (show w.heap.size ≤ w.heap.size + 1 by omega) (limb b 0) (limb b 1) (limb b 2) (limb b 3)
          obtain ⟨Wf, hWf⟩ : ∃ Wf, store4 (store4 W4 w.heap.size (limb a 0) (limb a 1) (limb a 2) (limb a 3)) (w.heap.size + 1) (limb b 0) (limb b 1) (limb b 2) (limb b 3) = Wf := ⟨_, rfl⟩
          have HKf := HK.out.2.2.2.1
          rw [hWf] at hbf HKf
          unfold store4 at hWf
          rw [hWf]
          clear hWf HK r0 r1 r2 r3 d0 d1 d2 d3 s0 s1 s2 s3 f0 f1 f2 f3
          obtain ⟨⟨⟨r0, r1, r2, r3⟩, -⟩, ⟨s0, s1, s2, s3⟩, -⟩ := HKf
          go_wp2_with fail
          exact bodyPost_ret (v := .tuple #[bigN a, bigN b, .int .i64 0]) (by simp [results, Try.results22, go_sem, r0, r1, r2, r3, s0, s1, s2, s3]) rfl ⟨by rw [HT.out], hbf.drew⟩
      · have HT := Lib.hid (show totsV l = .tuple #[big 0 0 0 0, big 0 0 0 0, .int .i64 2] by rw [HV.out, ← bigN_zero]; exact if_neg hab)
        have hoo : okE a = 2 ∨ okE a = 0 ∧ okE b = 2 := by
          by_cases ha : a < 18446744073709551616 ^ 4
          · exact .inr ⟨if_pos ha, if_neg fun hb => hab ⟨ha, hb⟩⟩
          · exact .inl (if_neg ha)
        clear hab b1t b2t
        rcases hoo with e1 | ⟨e1, e2⟩
        · rw [e1]
          clear e1
          go_wp2_with fail
          exact bodyPost_ret (v := .tuple #[big 0 0 0 0, big 0 0 0 0, .int .i64 2]) (by simp [results, Try.results22, go_sem, r0, r1, r2, r3, s0, s1, s2, s3, lt1, lt2]) rfl ⟨by rw [HT.out], below_store (below_store hbt (Nat.le_refl _) 0 0 0 0) (show w.heap.size ≤ w.heap.size + 1 by omega) 0 0 0 0⟩
        · rw [e1, e2]
          clear e1 e2
          go_wp2_with fail
          exact bodyPost_ret (v := .tuple #[big 0 0 0 0, big 0 0 0 0, .int .i64 2]) (by simp [results, Try.results22, go_sem, r0, r1, r2, r3, s0, s1, s2, s3, lt1, lt2]) rfl ⟨by rw [HT.out], below_store (below_store hbt (Nat.le_refl _) 0 0 0 0) (show w.heap.size ≤ w.heap.size + 1 by omega) 0 0 0 0⟩
end Go.Proofs.Ytchjjbklkmfelaa
