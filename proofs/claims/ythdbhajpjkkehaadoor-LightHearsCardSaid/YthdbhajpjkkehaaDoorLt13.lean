/- The document's light client: an event is heard. -/
import Derived.Test.YthdbhajpjkkehaaDoorLt12
namespace Go.Proofs.YthdbhajpjkkehaaDoor
open Go.RowKit Go.Lib
set_option linter.unusedVariables false
set_option linter.unusedSimpArgs false

set_option maxRecDepth 100000
theorem results_mid2 {P : Program} {fn : Func} {p u : Tmp} {ty : TypeId} (h : fn.results = #[.cell p ty, .tmp u]) (tmps : Array Value) (w : World) (g : Nat) (cs : List Value) (d : TypeDesc)
    (hp : tmps.getD p undef = .pointer (some ⟨g, 0, none⟩)) (hc : w.rangeAt g 0 cs)
    (hu : P.underlying ty = some d) (hd : d.isRow = true) (hi : (P.info? ty).map (·.size) = some cs.length) :
    (results fn tmps).run P w = .ok (.tuple #[.agg cs.toArray, tmps.getD u undef]) w := by
  have hp' : tmps[p]?.getD undef = .pointer (some ⟨g, 0, none⟩) := by simpa using hp
  simp [results, h, hp', asAddr, run_loadVar_mid w g 0 ty cs d hc hu hd hi]
theorem still_yes {P : Program} {ops : Array Oper} {w : World} {Q : Act → Prop} {a : Act} {o : Oper} {rest : List Oper} (v : Value) (hw : Region.wanted o (yielded ops a.tmps) = true) (hr : (execOp a.eval o).run P w = .ok (.value v) w) (h : wpStill P ops w Q rest (a.put o.dst v)) : wpStill P ops w Q (o :: rest) a := by
  unfold wpStill
  rw [if_pos hw]
  unfold Oper.still
  rw [hr]
  exact ⟨rfl, h⟩
theorem still_no {P : Program} {ops : Array Oper} {w : World} {Q : Act → Prop} {a : Act} {o : Oper} {rest : List Oper} (hw : Region.wanted o (yielded ops a.tmps) = false) (h : wpStill P ops w Q rest (a.put o.dst undef)) : wpStill P ops w Q (o :: rest) a := by
  unfold wpStill
  rw [if_neg (by rw [hw]; decide)]
  exact h
/-- The document's client: its three slices. -/
def R3 (a b c : Value) (i : Nat) : Value := if i = 0 then a else if i = 1 then b else c
def RAt (w : World) (q : Nat) (a b c : Value) : Prop := w.rowIs q 36 3 (R3 a b c)
theorem RAt.c0 {w : World} {q : Nat} {a b c : Value} (h : RAt w q a b c) : w.cell? ⟨q, 0, none⟩ = some a := World.rowIs.cell h (i := 0) (by omega)
theorem RAt.c1 {w : World} {q : Nat} {a b c : Value} (h : RAt w q a b c) : w.cell? ⟨q, 1, none⟩ = some b := World.rowIs.cell h (i := 1) (by omega)
theorem RAt.c2 {w : World} {q : Nat} {a b c : Value} (h : RAt w q a b c) : w.cell? ⟨q, 2, none⟩ = some c := World.rowIs.cell h (i := 2) (by omega)
theorem RAt.s0 {w : World} {q : Nat} {a b c : Value} (h : RAt w q a b c) (u : Value) : RAt (w.setCell ⟨q, 0, none⟩ u) q u b c :=
  (World.rowIs.set h 0 _).congr fun i hi => by
    unfold R3
    by_cases e : i = 0
    · subst e; rfl
    · rw [if_neg e, if_neg e, if_neg e]
theorem RAt.s1 {w : World} {q : Nat} {a b c : Value} (h : RAt w q a b c) (u : Value) : RAt (w.setCell ⟨q, 1, none⟩ u) q a u c :=
  (World.rowIs.set h 1 _).congr fun i hi => by
    unfold R3
    by_cases e : i = 1
    · subst e; rfl
    · rw [if_neg e, if_neg e, if_neg e]
theorem RAt.s2 {w : World} {q : Nat} {a b c : Value} (h : RAt w q a b c) (u : Value) : RAt (w.setCell ⟨q, 2, none⟩ u) q a b u :=
  (World.rowIs.set h 2 _).congr fun i hi => by
    unfold R3
    by_cases e : i = 2
    · subst e; rfl
    · have : i = 0 ∨ i = 1 := by omega
      rcases this with rfl | rfl <;> rfl
theorem RAt.of {w w' : World} {q : Nat} {a b c : Value} (h : RAt w q a b c) (hb : w'.heap[q]? = w.heap[q]?) : RAt w' q a b c := World.rowIs.of_block h hb
theorem RAt.lt {w : World} {q : Nat} {a b c : Value} (h : RAt w q a b c) : q < w.heap.size := World.rowIs.lt h
theorem rat_new (w : World) (a b c : Value) : RAt (w.alloc (.cells #[a, b, c] 36)) w.heap.size a b c :=
  World.rowIs_alloc w _ _ _ (fun i hi => by
    have h : i < 3 := hi
    match i, h with
    | 0, _ => rfl
    | 1, _ => rfl
    | 2, _ => rfl)
theorem RAt.range {w : World} {q : Nat} {a b c : Value} (h : RAt w q a b c) : w.rangeAt q 0 [a, b, c] := row_range h
theorem r3_info : (Tryd.prog.info? 36).map (·.size) = some 3 := by kernel_rfl
theorem rat_set3 {w : World} {q : Nat} {x y z : Value} (h : RAt w q x y z) (a b c : Value) : RAt (((w.setCell ⟨q, 0, none⟩ a).setCell ⟨q, 1, none⟩ b).setCell ⟨q, 2, none⟩ c) q a b c := ((h.s0 a).s1 b).s2 c

def rhZ_bytes : Nat := 56
theorem rhZ_info : (Tryd.prog.info? 49).map (fun i => (i.zero, i.size, i.bytes)) = some (some hdZ, hdK.length, 56) := by kernel_rfl
def evZ : Value := .agg #[.int .u8 0, .int .u64 0, .int .u8 0, .int .u8 0, .int .u8 0, .int .u8 0, .int .u8 0, .int .u8 0, .int .u8 0, .int .u8 0, .int .u8 0, .int .u8 0, .int .u8 0, .int .u8 0, .int .u8 0, .int .u8 0, .int .u8 0, .int .u8 0, .int .u8 0, .int .u8 0, .int .u8 0, .int .u8 0, .int .u8 0, .int .u8 0, .int .u8 0, .int .u8 0, .int .u8 0, .int .u8 0, .int .u8 0, .int .u8 0, .int .u8 0, .int .u8 0, .int .u8 0, .int .u8 0, .int .u8 0, .int .u8 0, .int .u8 0, .int .u8 0, .int .u64 0, .int .u64 0, .int .u64 0, .int .u64 0, .int .u64 0, .int .u64 0, .int .u64 0, .int .u64 0, .int .u32 0]
theorem revZ_info : (Tryd.prog.info? 48).map (fun i => (i.zero, i.size, i.bytes)) = some (some evZ, evK.length, 128) := by kernel_rfl
theorem evZ_size : evZ.cells.size = evK.length := by kernel_rfl
theorem blZ_info : (Tryd.prog.info? 4).map (fun i => (i.zero, i.size, i.bytes)) = some (some (.bool false), blK.length, 1) := by kernel_rfl
/-- The document's client as it stands. -/
structure DSt (w : World) (base : Nat) (dv fv ev : Value) (hs : List (List Value)) (n : Nat) (es : List (List Value)) : Prop where
  hd : OwnR 49 hdK w base dv hs
  fin : OwnR 4 blK w base fv (finL hs.length n)
  ev : OwnR 48 evK w base ev es
  bw : base ≤ w.heap.size
  le : n ≤ hs.length
theorem DSt.only {w w' : World} {base : Nat} {dv fv ev : Value} {hs : List (List Value)} {n : Nat} {es : List (List Value)} {N : Nat → Prop} (h : DSt w base dv fv ev hs n es) (ho : Only N w w') (h1 : ∀ k, dv.ownBlock = some k → ¬ N k) (h2 : ∀ k, fv.ownBlock = some k → ¬ N k) (h3 : ∀ k, ev.ownBlock = some k → ¬ N k) : DSt w' base dv fv ev hs n es :=
  ⟨h.hd.only ho h1, h.fin.only ho h2, h.ev.only ho h3, Nat.le_trans h.bw ho.size, h.le⟩
theorem DSt.later {w w' : World} {base : Nat} {dv fv ev : Value} {hs : List (List Value)} {n : Nat} {es : List (List Value)} (h : DSt w base dv fv ev hs n es) (hb : Below w.heap.size w w') : DSt w' base dv fv ev hs n es :=
  h.only (N := fun _ => False) (Only.of_below hb) (fun _ _ h => h) (fun _ _ h => h) (fun _ _ h => h)
/-- A slice is as it was, or new. -/
def NewOr (w : World) (v v' : Value) : Prop := v' = v ∨ ∀ k, v'.ownBlock = some k → w.heap.size ≤ k
def DEnd (w w' : World) (base : Nat) (dv fv ev : Value) (e : Value) (hs : List (List Value)) (n : Nat) (es : List (List Value)) : Prop :=
  ∃ dv' fv' ev', e = .agg #[dv', fv', ev'] ∧ DSt w' base dv' fv' ev' hs n es ∧ NewOr w dv dv' ∧ NewOr w fv fv' ∧ NewOr w ev ev' ∧ Below w.heap.size w w'
def tkS (es : List (List Value)) (ev : List Value) : List (List Value) := if intAt ev 0 = 8 ∨ intAt ev 0 = 11 ∨ intAt ev 0 = 13 then es ++ [ev] else es
theorem own_empty (E : TypeId) (K : Kinds) (w : World) : OwnR E K (w.alloc (.cells #[] E)) w.heap.size (.slice (some ⟨w.heap.size, 0, none⟩) 0 0) [] :=
  ⟨World.ownsRow_made w #[] 0 (Nat.le_refl _) (by unfold maxLen; omega) (by simp), by simp⟩
theorem Recs.same {K : Kinds} {w w' : World} {g o n c : Nat} {l : List (List Value)} (h : Recs K w (.slice (some ⟨g, o, none⟩) n c) l) (hb : w'.heap[g]? = w.heap[g]?) : Recs K w' (.slice (some ⟨g, o, none⟩) n c) l := by
  obtain ⟨A, c', e, h1, h2, h4, h3⟩ := h
  cases e
  refine ⟨_, _, rfl, h1, h2, h4, ?_⟩
  rcases h3 with h3 | ⟨g', o', e, hc⟩
  · exact .inl h3
  · cases e
    exact .inr ⟨_, _, rfl, fun i hi => range_of_block (hc i hi) hb⟩
theorem recs_nil_or {K : Kinds} {w : World} {E : TypeId} {b : Nat} {v : Value} {l : List (List Value)} (h : OwnR E K w b v l) : Recs K w v l ∧ NilOr v := ⟨h.recs, ownH_nil_or h⟩
theorem finL_flat (m n : Nat) : (finL m n).flatten = (List.range m).map fun i => Value.bool (decide (i < n)) := by
  unfold finL
  induction List.range m with
  | nil => rfl
  | cons a l ih => rw [List.map_cons, List.flatten_cons, ih]; rfl
theorem finL_typed (m n : Nat) : ∀ x ∈ finL m n, Typed blK x := fun x hx => by
  obtain ⟨i, _, rfl⟩ := List.mem_map.1 hx
  exact ⟨_, _, rfl, ⟨_, rfl⟩, rfl⟩
theorem own_some {E : TypeId} {K : Kinds} {w : World} {base : Nat} {A : Option Addr} {n c : Nat} {l : List (List Value)} (h : OwnR E K w base (.slice A n c) l) (hl : 0 < l.length) : ∃ g, A = some ⟨g, 0, none⟩ := by
  rcases h.1.2 with ⟨_, h0⟩ | ⟨g, cap, cur, e, _⟩
  · omega
  · exact ⟨g, (Value.slice.inj e).1⟩
theorem own_fin_set {E : TypeId} {w : World} {base g cap m n : Nat} (h : OwnR E blK w base (.slice (some ⟨g, 0, none⟩) m cap) (finL m n)) (hn : n < m) :
    OwnR E blK (w.setCell ⟨g, n, none⟩ (.bool true)) base (.slice (some ⟨g, 0, none⟩) m cap) (finL m (n + 1)) ∧ w.cell? ⟨g, n, none⟩ = some (.bool false) ∧ w.frozen? ⟨g, n, none⟩ = false := by
  have h1 := h.1
  rw [finL_len] at h1
  refine ⟨⟨?_, finL_typed _ _⟩, ?_, World.ownsRow.frozenAt h1 n⟩
  · rw [finL_len]
    have := (World.ownsRow.stored h1 n (.bool true)).1
    rw [finL_flat] at this
    rw [finL_flat]
    have e : ((List.range m).map fun i => Value.bool (decide (i < n))).set n (.bool true) = (List.range m).map fun i => Value.bool (decide (i < n + 1)) := by
      apply List.ext_getElem?
      intro i
      rw [List.getElem?_set, List.getElem?_map, List.getElem?_map]
      by_cases hi : i < m
      · rw [List.getElem?_range hi]
        by_cases e : n = i
        · subst e; simp [hn]
        · rw [if_neg e]
          simp
          omega
      · rw [List.getElem?_eq_none (by simpa using hi)]
        have : n ≠ i := by omega
        simp [this]
    rw [e] at this
    exact this
  · rw [World.ownsRow.cellAt h1 n (by show n < m * 1; omega), finL_flat, List.getElem?_map, List.getElem?_range hn]
    simp
theorem dend_still {w w' : World} {base : Nat} {dv fv ev : Value} {hs : List (List Value)} {n : Nat} {es : List (List Value)} (hD : DSt w base dv fv ev hs n es) (hb : Below w.heap.size w w') : DEnd w w' base dv fv ev (.agg #[dv, fv, ev]) hs n es :=
  ⟨dv, fv, ev, rfl, hD.later hb, .inl rfl, .inl rfl, .inl rfl, hb⟩
theorem only_set3 (w : World) (q : Nat) (a b c : Value) : Only (fun k => k = q) w (((w.setCell ⟨q, 0, none⟩ a).setCell ⟨q, 1, none⟩ b).setCell ⟨q, 2, none⟩ c) :=
  ((Only.set (N := fun k => k = q) w q 0 a rfl).trans (Only.set (N := fun k => k = q) _ q 1 b rfl)).trans (Only.set (N := fun k => k = q) _ q 2 c rfl)
theorem dend_new {w U : World} {base q : Nat} {dv fv ev dv' fv' ev' a b c : Value} {hs : List (List Value)} {n : Nat} {es : List (List Value)} (hD : DSt U base dv' fv' ev' hs n es) (h1 : NewOr w dv dv') (h2 : NewOr w fv fv') (h3 : NewOr w ev ev') (hb : Below w.heap.size w U) (hq : w.heap.size ≤ q)
    (k1 : ∀ k, dv'.ownBlock = some k → k ≠ q) (k2 : ∀ k, fv'.ownBlock = some k → k ≠ q) (k3 : ∀ k, ev'.ownBlock = some k → k ≠ q) : DEnd w (((U.setCell ⟨q, 0, none⟩ a).setCell ⟨q, 1, none⟩ b).setCell ⟨q, 2, none⟩ c) base dv fv ev (.agg #[dv', fv', ev']) hs n es :=
  ⟨dv', fv', ev', rfl, hD.only (only_set3 U q a b c) k1 k2 k3, h1, h2, h3, ((hb.setCell (p := ⟨q, 0, none⟩) hq a).setCell (p := ⟨q, 1, none⟩) hq b).setCell (p := ⟨q, 2, none⟩) hq c⟩
/-- A new slice of one's own is taken from another. -/
theorem step_app_new {P : Program} {ops : Array Oper} {o : Oper} {a : Act} {w : World} {K' : Act → World → Prop} {Q : Exit → Act → World → Prop} {F : Prop} (hg : o.guard = none) (s x : Operand) (t E : TypeId) (K : Kinds) (z : Value) (bytes : Nat) (hu : P.underlying t = some (.slice E)) (hi : (P.info? E).map (fun i => (i.zero, i.size, i.bytes)) = some (some z, K.length, bytes)) (hz : z.cells.size = K.length) (hK : 0 < K.length) (hby : bytes ≤ 1000)
    (hop : o.op = Op.call { callee := Callee.builtin Builtin.append, args := #[s, x], argTypes := #[t, t] }) (base : Nat) (v : Value) (l2 : List (List Value)) (hs : a.eval s = v) (hown : OwnR E K w base v []) (xv : Value) (hx : a.eval x = xv) (hrec : Recs K w xv l2) (hnil : NilOr xv) (hlen2 : l2.length ≤ 1000000) (hbase : base ≤ w.heap.size)
    (hK' : ∀ A' c' w', OwnR E K w' base (.slice A' l2.length c') l2 → w.grownBy w' v.ownBlock → Below base w w' → K' (a.put o.dst (.slice A' l2.length c')) w') :
    if Region.wanted o (yielded ops a.tmps) = true then Oper.wp P o a w K' Q else F :=
  step_app_rec hg s x t E K z bytes hu hi hz hK hby hop base v [] l2 hs hown xv hx hrec hnil (by simp) hlen2 hbase (fun A' c' w' h1 h2 _ h4 => hK' A' c' w' h1 h2 h4)
/-- One record more. -/
theorem step_app_one {P : Program} {ops : Array Oper} {o : Oper} {a : Act} {w : World} {K' : Act → World → Prop} {Q : Exit → Act → World → Prop} {F : Prop} (hg : o.guard = none) (s x : Operand) (t E : TypeId) (K : Kinds) (z : Value) (bytes : Nat) (hu : P.underlying t = some (.slice E)) (hi : (P.info? E).map (fun i => (i.zero, i.size, i.bytes)) = some (some z, K.length, bytes)) (hz : z.cells.size = K.length) (hK : 0 < K.length) (hby : bytes ≤ 1000)
    (hop : o.op = Op.call { callee := Callee.builtin Builtin.append, args := #[s, x], argTypes := #[t, t] }) (base : Nat) (v : Value) (l : List (List Value)) (y : List Value) (hs : a.eval s = v) (hown : OwnR E K w base v l) (xv : Value) (hx : a.eval x = xv) (hrec : Recs K w xv [y]) (hnil : NilOr xv) (hlen : l.length ≤ 1000000) (hbase : base ≤ w.heap.size)
    (hK' : ∀ A' c' w', OwnR E K w' base (.slice A' (l.length + 1) c') (l ++ [y]) → Below base w w' → K' (a.put o.dst (.slice A' (l.length + 1) c')) w') :
    if Region.wanted o (yielded ops a.tmps) = true then Oper.wp P o a w K' Q else F :=
  step_app_rec hg s x t E K z bytes hu hi hz hK hby hop base v l [y] hs hown xv hx hrec hnil hlen (by simp) hbase (fun A' c' w' h1 _ _ h4 => by
    have e : (l ++ [y]).length = l.length + 1 := by simp
    rw [e] at h1 ⊢
    exact hK' A' c' w' h1 h4)
theorem box4 (w : World) (T U V X : TypeId) (cl ev h z : List Value) :
    (((w.alloc (.cells cl.toArray T)).alloc (.cells ev.toArray U)).alloc (.cells h.toArray V)).alloc (.cells z.toArray X) = (((w.alloc (.cells cl.toArray T)).alloc (.cells ev.toArray U)).alloc (.cells h.toArray V)).alloc (.cells z.toArray X) := rfl

attribute [local irreducible] wpStill in
set_option maxHeartbeats 4000000 in
theorem rtake_calls (base n : Nat) (dv fv evv : Value) (hs es : List (List Value)) (ev h : List Value) (w : World) (hD : DSt w base dv fv evv hs n es) (hl : hs.length ≤ 1000) (hle : es.length ≤ 1000) (he : Typed evK ev) (hh : Typed hdK h) :
    Calls Tryd.prog 7 #[.agg #[dv, fv, evv], .agg ev.toArray, .agg h.toArray] w fun e w' => ∃ v, e = .returned (.tuple #[v, .int .i64 (tkE hs n ev h)]) ∧ DEnd w w' base dv fv evv v (tkH hs n ev h) (tkN hs n ev) (tkS es ev) := by
  obtain ⟨Ad, cd, rfl, -⟩ := id hD.hd.recs
  obtain ⟨Af, cf, rfl, -⟩ := id hD.fin.recs
  obtain ⟨Ae, ce, rfl, -⟩ := id hD.ev.recs
  rw [finL_len] at hD ⊢
  -- the four variables
  have w1 : (w.alloc (.cells #[.slice Ad hs.length cd, .slice Af hs.length cf, .slice Ae es.length ce] 36)).heap.size = w.heap.size + 1 := by simp
  have R0 := rat_new w (.slice Ad hs.length cd) (.slice Af hs.length cf) (.slice Ae es.length ce)
  obtain ⟨W1, hW1⟩ : ∃ W1, w.alloc (.cells #[.slice Ad hs.length cd, .slice Af hs.length cf, .slice Ae es.length ce] 36) = W1 := ⟨_, rfl⟩
  have b1 : Below w.heap.size w W1 := by rw [← hW1]; exact (Below.refl _ _).alloc (Nat.le_refl _) _
  rw [hW1] at w1 R0
  obtain ⟨hE, hH, b2, hsz⟩ := box2 W1 48 49 ev h
  rw [w1] at hE hH hsz
  obtain ⟨W2, hW2⟩ : ∃ W2, (W1.alloc (.cells ev.toArray 48)).alloc (.cells h.toArray 49) = W2 := ⟨_, rfl⟩
  rw [hW2] at hE hH b2 hsz
  have R3' := rat_new W2 (.slice none 0 0) (.slice none 0 0) (.slice none 0 0)
  have b3 : Below W2.heap.size W2 (W2.alloc (.cells #[.slice none 0 0, .slice none 0 0, .slice none 0 0] 36)) := (Below.refl _ _).alloc (Nat.le_refl _) _
  have hs3 : (W2.alloc (.cells #[.slice none 0 0, .slice none 0 0, .slice none 0 0] 36)).heap.size = w.heap.size + 4 := by simp; omega
  rw [show W2.heap.size = w.heap.size + 1 + 1 + 1 by omega] at R3'
  obtain ⟨W, hW⟩ : ∃ W, W2.alloc (.cells #[.slice none 0 0, .slice none 0 0, .slice none 0 0] 36) = W := ⟨_, rfl⟩
  rw [hW] at R3' b3 hs3
  have hRa : RAt W w.heap.size (.slice Ad hs.length cd) (.slice Af hs.length cf) (.slice Ae es.length ce) := (R0.of (b2.block _ (by omega))).of (b3.block _ (by omega))
  have hEw := range_below hE b3 (by omega)
  have hHw := range_below hH b3 (by omega)
  have hbw : Below w.heap.size w W := (b1.trans (b2.mono (by omega))).trans (b3.mono (by omega))
  have HDw := Lib.hid hD
  have HD := Lib.hid (hD.later hbw)
  have HB := Lib.hid hbw
  have HE := Lib.hid hEw
  have HH := Lib.hid hHw
  have HRa := Lib.hid hRa
  have HR3 := Lib.hid R3'
  have HSz := Lib.hid hs3
  have HTe := Lib.hid he
  have HTh := Lib.hid hh
  have HL := Lib.hid hl
  have HLe := Lib.hid hle
  have c0 := hRa.c0
  have c1 := hRa.c1
  have c2 := hRa.c2
  have e0 := ev_cell hEw he 0 .u8 (by kernel_rfl)
  have e1 := ev_cell hEw he 1 .u64 (by kernel_rfl)
  have e46 := ev_cell hEw he 46 .u32 (by kernel_rfl)
  have g0 := hd_cell hHw hh 0 .u32 (by kernel_rfl)
  have g1 := hd_cell hHw hh 1 .u64 (by kernel_rfl)
  have g34 := hd_cell hHw hh 34 .u64 (by kernel_rfl)
  have f6 : ∀ o, W.frozen? ⟨w.heap.size + 1 + 1 + 1, o, none⟩ = false := fun o => World.rowIs.frozen R3' o
  have f3 : ∀ o, W.frozen? ⟨w.heap.size, o, none⟩ = false := fun o => World.rowIs.frozen hRa o
  have xx0 := R3'.c0
  have xx1 := R3'.c1
  have xx2 := R3'.c2
  clear hD R0 b1 hE hH b2 hsz R3' b3 hs3 hRa hEw hHw hbw he hh hl hle w1
  have hWW : ((((w.alloc (.cells #[.slice Ad hs.length cd, .slice Af hs.length cf, .slice Ae es.length ce] 36)).alloc (.cells ev.toArray 48)).alloc (.cells h.toArray 49)).alloc (.cells #[.slice none 0 0, .slice none 0 0, .slice none 0 0] 36)) = W := by rw [hW1, hW2, hW]
  clear hW1 hW2 hW
  go_enter Tryd.func7, Tryd.ntmps7
  go_upto_region 1 with fail
  clear hWW

  have hn' : (n : Int) ≤ (hs.length : Int) := by have := HD.out.le; omega
  have hl' : (hs.length : Int) ≤ 1000 := by have := HL.out; omega
  by_cases k4 : intAt ev 0 = 4
  · rw [k4] at e0
    have T3 : Hid (tkN hs n ev = n) := Lib.hid (by simp [tkN, k4])
    have T4 : Hid (tkS es ev = es) := Lib.hid (by simp [tkS, k4])
    have T0 : Hid (tkE hs n ev h = pst hs ev h) := Lib.hid (by simp [tkE, k4])
    have T5 : Hid (tkH hs n ev h = if pst hs ev h = 0 then hs ++ [h] else hs) := Lib.hid (by simp [tkH, k4])
    obtain ⟨a0, ha0⟩ : ∃ a, intAt h 0 = a := ⟨_, rfl⟩
    obtain ⟨a1, ha1⟩ : ∃ a, intAt h 1 = a := ⟨_, rfl⟩
    obtain ⟨a34, ha34⟩ : ∃ a, intAt h 34 = a := ⟨_, rfl⟩
    obtain ⟨b46, hb46⟩ : ∃ a, intAt ev 46 = a := ⟨_, rfl⟩
    obtain ⟨b1, hb1⟩ : ∃ a, intAt ev 1 = a := ⟨_, rfl⟩
    rw [ha0] at g0
    rw [ha1] at g1
    rw [ha34] at g34
    rw [hb46] at e46
    rw [hb1] at e1
    have hp : pst hs ev h = pst hs ev h := rfl
    conv at hp => rhs; unfold pst
    rw [ha0, ha1, ha34, hb46, hb1] at hp
    clear k4 ha0 ha1 ha34 hb46 hb1
    by_cases q1 : a0 = b46
    · by_cases q2 : a34 = b1
      · rw [if_pos ⟨q1, q2⟩] at hp
        have hb1 : (a0 != b46) = false := by rw [q1]; simp
        have hb2 : (a34 != b1) = false := by rw [q2]; simp
        by_cases q3 : hs.length = 0
        · have hz : ¬ (0 : Int) < (hs.length : Int) := by omega
          have hzn : ¬ 0 < hs.length := by omega
          rw [if_pos q3] at hp
          clear q1 q2 q3
          go_upto_region 6 with fail
          refine region_still (by kernel_rfl) (by kernel_rfl) ?_
          refine still_yes (.int .i64 (hs.length : Int)) (by kernel_rfl) (by rfl) ?_
          try simp only [Act.put, List.setIfInBounds_toArray, List.set_cons_zero, List.set_cons_succ]
          refine still_yes (.bool false) (by kernel_rfl) (by go_simp) ?_
          try simp only [Act.put, List.setIfInBounds_toArray, List.set_cons_zero, List.set_cons_succ]
          refine still_yes (.bool false) (by kernel_rfl) (by rfl) ?_
          try simp only [Act.put, List.setIfInBounds_toArray, List.set_cons_zero, List.set_cons_succ]
          apply still_no
          · kernel_rfl
          try simp only [Act.put, List.setIfInBounds_toArray, List.set_cons_zero, List.set_cons_succ]
          apply still_no
          · kernel_rfl
          try simp only [Act.put, List.setIfInBounds_toArray, List.set_cons_zero, List.set_cons_succ]
          apply still_no
          · kernel_rfl
          try simp only [Act.put, List.setIfInBounds_toArray, List.set_cons_zero, List.set_cons_succ]
          apply still_no
          · kernel_rfl
          try simp only [Act.put, List.setIfInBounds_toArray, List.set_cons_zero, List.set_cons_succ]
          apply still_no
          · kernel_rfl
          try simp only [Act.put, List.setIfInBounds_toArray, List.set_cons_zero, List.set_cons_succ]
          apply still_no
          · kernel_rfl
          try simp only [Act.put, List.setIfInBounds_toArray, List.set_cons_zero, List.set_cons_succ]
          apply still_no
          · kernel_rfl
          try simp only [Act.put, List.setIfInBounds_toArray, List.set_cons_zero, List.set_cons_succ]
          apply still_no
          · kernel_rfl
          try simp only [Act.put, List.setIfInBounds_toArray, List.set_cons_zero, List.set_cons_succ]
          apply still_no
          · kernel_rfl
          try simp only [Act.put, List.setIfInBounds_toArray, List.set_cons_zero, List.set_cons_succ]
          apply still_no
          · kernel_rfl
          try simp only [Act.put, List.setIfInBounds_toArray, List.set_cons_zero, List.set_cons_succ]
          apply still_no
          · kernel_rfl
          try simp only [Act.put, List.setIfInBounds_toArray, List.set_cons_zero, List.set_cons_succ]
          apply still_no
          · kernel_rfl
          try simp only [Act.put, List.setIfInBounds_toArray, List.set_cons_zero, List.set_cons_succ]
          apply still_no
          · kernel_rfl
          try simp only [Act.put, List.setIfInBounds_toArray, List.set_cons_zero, List.set_cons_succ]
          apply still_no
          · kernel_rfl
          try simp only [Act.put, List.setIfInBounds_toArray, List.set_cons_zero, List.set_cons_succ]
          apply still_no
          · kernel_rfl
          try simp only [Act.put, List.setIfInBounds_toArray, List.set_cons_zero, List.set_cons_succ]
          apply still_no
          · kernel_rfl
          try simp only [Act.put, List.setIfInBounds_toArray, List.set_cons_zero, List.set_cons_succ]
          apply still_no
          · kernel_rfl
          try simp only [Act.put, List.setIfInBounds_toArray, List.set_cons_zero, List.set_cons_succ]
          apply still_no
          · kernel_rfl
          try simp only [Act.put, List.setIfInBounds_toArray, List.set_cons_zero, List.set_cons_succ]
          apply still_no
          · kernel_rfl
          try simp only [Act.put, List.setIfInBounds_toArray, List.set_cons_zero, List.set_cons_succ]
          apply still_no
          · kernel_rfl
          try simp only [Act.put, List.setIfInBounds_toArray, List.set_cons_zero, List.set_cons_succ]
          apply still_no
          · kernel_rfl
          try simp only [Act.put, List.setIfInBounds_toArray, List.set_cons_zero, List.set_cons_succ]
          apply still_no
          · kernel_rfl
          try simp only [Act.put, List.setIfInBounds_toArray, List.set_cons_zero, List.set_cons_succ]
          apply still_no
          · kernel_rfl
          try simp only [Act.put, List.setIfInBounds_toArray, List.set_cons_zero, List.set_cons_succ]
          apply still_no
          · kernel_rfl
          try simp only [Act.put, List.setIfInBounds_toArray, List.set_cons_zero, List.set_cons_succ]
          apply still_no
          · kernel_rfl
          try simp only [Act.put, List.setIfInBounds_toArray, List.set_cons_zero, List.set_cons_succ]
          apply still_no
          · kernel_rfl
          try simp only [Act.put, List.setIfInBounds_toArray, List.set_cons_zero, List.set_cons_succ]
          apply still_no
          · kernel_rfl
          try simp only [Act.put, List.setIfInBounds_toArray, List.set_cons_zero, List.set_cons_succ]
          apply still_no
          · kernel_rfl
          try simp only [Act.put, List.setIfInBounds_toArray, List.set_cons_zero, List.set_cons_succ]
          apply still_no
          · kernel_rfl
          try simp only [Act.put, List.setIfInBounds_toArray, List.set_cons_zero, List.set_cons_succ]
          apply still_no
          · kernel_rfl
          try simp only [Act.put, List.setIfInBounds_toArray, List.set_cons_zero, List.set_cons_succ]
          apply still_no
          · kernel_rfl
          try simp only [Act.put, List.setIfInBounds_toArray, List.set_cons_zero, List.set_cons_succ]
          apply still_no
          · kernel_rfl
          try simp only [Act.put, List.setIfInBounds_toArray, List.set_cons_zero, List.set_cons_succ]
          apply still_no
          · kernel_rfl
          try simp only [Act.put, List.setIfInBounds_toArray, List.set_cons_zero, List.set_cons_succ]
          apply still_no
          · kernel_rfl
          try simp only [Act.put, List.setIfInBounds_toArray, List.set_cons_zero, List.set_cons_succ]
          refine still_yes (.bool false) (by kernel_rfl) (by rfl) ?_
          try simp only [Act.put, List.setIfInBounds_toArray, List.set_cons_zero, List.set_cons_succ]
          refine wpStill_nil ?_
          have T2 : Hid (tkH hs n ev h = hs ++ [h]) := Lib.hid (by rw [T5.out, if_pos hp])
          have T1 : Hid (tkE hs n ev h = 0) := Lib.hid (by rw [T0.out, hp])
          clear hp
          go_upto_region 8 with fail
          have hRu : RAt W.drew w.heap.size (.slice Ad hs.length cd) (.slice Af hs.length cf) (.slice Ae es.length ce) := HRa.out.of rfl
          have hR3u : RAt W.drew (w.heap.size + 1 + 1 + 1) (.slice none 0 0) (.slice none 0 0) (.slice none 0 0) := HR3.out.of rfl
          have hHu : W.drew.rangeAt (w.heap.size + 1 + 1) 0 h := range_of_block HH.out rfl
          have hEu : W.drew.rangeAt (w.heap.size + 1) 0 ev := range_of_block HE.out rfl
          have hBu : Below w.heap.size w W.drew := HB.out.drew
          have hSu : w.heap.size + 1 + 1 + 1 < W.drew.heap.size := by have := HSz.out; show _ < W.heap.size; omega
          obtain ⟨U, hU⟩ : ∃ U, W.drew = U := ⟨_, rfl⟩
          rw [hU] at hRu hR3u hHu hEu hBu hSu
          rw [hU]
          clear hU c0 c1 c2 e0 e1 e46 g0 g1 g34 f6 f3 xx0 xx1 xx2
          have HUC := Lib.hid hRu
          have HU3 := Lib.hid hR3u
          have HUH := Lib.hid hHu
          have HUE := Lib.hid hEu
          have HUB := Lib.hid hBu
          have HUS := Lib.hid hSu
          have HUD := Lib.hid (HDw.out.later hBu)
          have HUHl : Hid (w.heap.size + 1 + 1 < U.heap.size) := Lib.hid (by omega)
          have HUEl : Hid (w.heap.size + 1 < U.heap.size) := Lib.hid (by omega)
          clear hRu hR3u hHu hEu hBu hSu
          have HUR : Hid (Recs hdK U (.slice Ad hs.length cd) hs ∧ NilOr (.slice Ad hs.length cd)) := Lib.hid ⟨HUD.out.hd.recs, ownH_nil_or HUD.out.hd⟩
          have hU0 : Below U.heap.size U U.drew := (Below.refl _ _).drew
          have uq0 : w.heap.size < U.heap.size := HUC.out.lt
          have urb : w.heap.size + 1 + 1 < U.heap.size := HUHl.out
          have xc := HUC.out.c0
          refine region_G 8 (fun w' => Below U.heap.size U w') (by kernel_rfl) hU0 (fun h0 => ?_)
          refine wpAnyG_take 1 _ (.pointer (some ⟨w.heap.size, 0, none⟩)) rfl (by kernel_rfl) (by kernel_rfl) (by kernel_rfl) (by kernel_rfl) (fun _ _ _ h => h) h0 (.inl ⟨by rfl, fun ww hS => by rfl⟩) ?_
          try simp only [List.getElem_toArray, List.getElem_cons_zero, List.getElem_cons_succ, Act.put, List.setIfInBounds_toArray, List.set_cons_zero, List.set_cons_succ]
          refine wpAnyG_take 2 _ (.slice Ad hs.length cd) rfl (by kernel_rfl) (by kernel_rfl) (by kernel_rfl) (by kernel_rfl) (fun _ _ _ h => h) h0 (.inl ⟨by rfl, fun ww hS => by have hc := (hS.cell (p := ⟨w.heap.size, 0, none⟩) uq0).trans xc; go_simp⟩) ?_
          try simp only [List.getElem_toArray, List.getElem_cons_zero, List.getElem_cons_succ, Act.put, List.setIfInBounds_toArray, List.set_cons_zero, List.set_cons_succ]
          refine wpAnyG_take 4 _ (.agg h.toArray) rfl (by kernel_rfl) (by kernel_rfl) (by kernel_rfl) (by kernel_rfl) (fun _ _ _ h => h) h0 (yieldsIf_load_mid (by rfl) 49 _ rfl (w.heap.size + 1 + 1) (0) rfl h _ (fun ww hS => range_below HUH.out hS urb) Tryd.underlying49 rfl (rh_info HTh.out)) ?_
          try simp only [List.getElem_toArray, List.getElem_cons_zero, List.getElem_cons_succ, Act.put, List.setIfInBounds_toArray, List.set_cons_zero, List.set_cons_succ]
          refine wpAnyG_ready [0, 5] (by kernel_rfl) (by simp) ?_
          refine AllReadyG.cons 0 _ rfl (fun K' hK => ?_) (AllReadyG.cons 5 _ rfl (fun K' hK => ?_) AllReadyG.nil)
          · go_simp
            refine hK.out _ _ (fun _ => h0.alloc h0.size _) ?_
            clear hK K'
            try simp only [List.getElem_toArray, List.getElem_cons_zero, List.getElem_cons_succ, Act.put, List.setIfInBounds_toArray, List.set_cons_zero, List.set_cons_succ]
            have h1 : Below U.heap.size U ((U.alloc (.cells #[] 49)).drew) := h0.alloc h0.size _
            have HO1 : Hid (OwnR 49 hdK ((U.alloc (.cells #[] 49)).drew) U.heap.size (.slice (some ⟨U.heap.size, 0, none⟩) 0 0) []) := Lib.hid (ownR_base (own_empty 49 hdK U.drew) h0.size)
            obtain ⟨U1, hEU1⟩ : ∃ u, (U.alloc (.cells #[] 49)).drew = u := ⟨_, rfl⟩
            rw [hEU1] at h1 HO1
            rw [hEU1]
            clear hEU1
            refine wpAnyG_ready [3, 5] (by kernel_rfl) (by simp) ?_
            refine AllReadyG.cons 3 _ rfl (fun K' hK => ?_) (AllReadyG.cons 5 _ rfl (fun K' hK => ?_) AllReadyG.nil)
            · have rr := HUR.out.1.below hdK_pos h1
              refine step_app_new rfl (.tmp 71) (.tmp 73) 32 49 hdK hdZ 56 Tryd.underlying32 rhZ_info hdZ_size hdK_pos (by decide) rfl U.heap.size _ (hs) rfl HO1.out _ rfl rr HUR.out.2 (by have := HL.out; have := HLe.out; omega) h1.size ?_
              intro A3 c3 U3 o1 o2 o4
              have h3 : Below U.heap.size U U3 := h1.trans o4
              refine hK.out _ _ (fun _ => h3) ?_
              clear hK K'
              try simp only [List.getElem_toArray, List.getElem_cons_zero, List.getElem_cons_succ, Act.put, List.setIfInBounds_toArray, List.set_cons_zero, List.set_cons_succ]
              have HO3 := Lib.hid o1
              have HG3 := Lib.hid o2
              clear o1 o2 o4 rr
              refine wpAnyG_ready [5] (by kernel_rfl) (by simp) ?_
              refine AllReadyG.cons 5 _ rfl (fun K' hK => ?_) AllReadyG.nil
              refine step_build1 rfl 32 49 (.tmp 75) rfl h rfl hdK HTh.out hdZ 56 Tryd.underlying32 rhZ_info hdK_pos (by decide) ?_
              refine hK.out _ _ (fun _ => h3.alloc h3.size _) ?_
              clear hK K'
              try simp only [List.getElem_toArray, List.getElem_cons_zero, List.getElem_cons_succ, Act.put, List.setIfInBounds_toArray, List.set_cons_zero, List.set_cons_succ]
              have h4 : Below U.heap.size U (U3.alloc (.cells h.toArray 49)) := h3.alloc h3.size _
              have HR4 : Hid (Recs hdK (U3.alloc (.cells h.toArray 49)) (.slice (some ⟨U3.heap.size, 0, none⟩) 1 1) [h]) := Lib.hid (recs_one U3 49 HTh.out)
              have HO4 := Lib.hid (HO3.out.alloc (.cells h.toArray 49))
              obtain ⟨U4, hEU4⟩ : ∃ u, U3.alloc (.cells h.toArray 49) = u := ⟨_, rfl⟩
              rw [hEU4] at h4 HR4 HO4
              rw [hEU4]
              clear hEU4
              refine wpAnyG_ready [6] (by kernel_rfl) (by simp) ?_
              refine AllReadyG.cons 6 _ rfl (fun K' hK => ?_) AllReadyG.nil
              refine step_app_one rfl (.tmp 74) (.tmp 76) 32 49 hdK hdZ 56 Tryd.underlying32 rhZ_info hdZ_size hdK_pos (by decide) rfl U.heap.size _ (hs) h rfl HO4.out _ rfl HR4.out (.inr ⟨_, _, _, rfl⟩) (by have := HL.out; have := HLe.out; omega) h4.size ?_
              intro A6 c6 U6 o1 o4
              have h6 : Below U.heap.size U U6 := h4.trans o4
              refine hK.out _ _ (fun _ => h6) ?_
              clear hK K'
              try simp only [List.getElem_toArray, List.getElem_cons_zero, List.getElem_cons_succ, Act.put, List.setIfInBounds_toArray, List.set_cons_zero, List.set_cons_succ]
              have HO6 := Lib.hid o1
              clear o1 o4
              refine wpAnyG_take 7 _ (.pointer (some ⟨w.heap.size, 0, none⟩)) rfl (by kernel_rfl) (by kernel_rfl) (by kernel_rfl) (by kernel_rfl) (fun _ _ _ h => h) h6 (.inl ⟨by rfl, fun ww hS => by rfl⟩) ?_
              try simp only [List.getElem_toArray, List.getElem_cons_zero, List.getElem_cons_succ, Act.put, List.setIfInBounds_toArray, List.set_cons_zero, List.set_cons_succ]
              have hC6 := HUC.out.of (h6.block _ uq0)
              have hc6 := hC6.c0
              have hf6 := World.rowIs.frozen hC6 0
              have HC6 := Lib.hid hC6
              clear hC6
              refine wpAnyG_ready [8] (by kernel_rfl) (by simp) ?_
              refine AllReadyG.cons 8 _ rfl (fun K' hK => ?_) AllReadyG.nil
              go_simp
              refine hK.out _ _ (fun h => absurd rfl h) ?_
              clear hK K'
              refine wpAnyG_done (by kernel_rfl) ?_ _
              have HB6 := Lib.hid h6
              go_upto_region 9 with fail
              have hq0U : w.heap.size < U.heap.size := HUC.out.lt
              have hC7 := HC6.out.s0 (.slice A6 (hs.length + 1) c6)
              have hO7 := HO6.out.only (Only.set (N := fun k => k = w.heap.size) U6 w.heap.size 0 (.slice A6 (hs.length + 1) c6) rfl) (fun k hk e => by have := (OwnR.lt HO6.out k hk).1; omega)
              have hB7 : Below w.heap.size w (U6.setCell ⟨w.heap.size, 0, none⟩ (.slice A6 (hs.length + 1) c6)) := (HUB.out.trans (HB6.out.mono (Nat.le_of_lt hq0U))).setCell (p := ⟨w.heap.size, 0, none⟩) (Nat.le_refl _) _
              have hR7 := HU3.out.of (((set_only U6 w.heap.size 0 (.slice A6 (hs.length + 1) c6)).2 _ (by omega)).trans (HB6.out.block _ HUS.out))
              have hS7 : U.heap.size ≤ (U6.setCell ⟨w.heap.size, 0, none⟩ (.slice A6 (hs.length + 1) c6)).heap.size := by have := HB6.out.size; have := (set_only U6 w.heap.size 0 (.slice A6 (hs.length + 1) c6)).1.size; omega
              obtain ⟨U7, hU7⟩ : ∃ U7, U6.setCell ⟨w.heap.size, 0, none⟩ (.slice A6 (hs.length + 1) c6) = U7 := ⟨_, rfl⟩
              rw [hU7] at hC7 hO7 hB7 hR7 hS7
              rw [hU7]
              clear hU7
              have HC7 := Lib.hid hC7
              have HO7 := Lib.hid hO7
              have HB7 := Lib.hid hB7
              have HR7 := Lib.hid hR7
              have HS7 := Lib.hid hS7
              have v1 := hC7.c1
              clear hC7 hO7 hB7 hR7 hS7 hq0U hc6 hf6 h6
              have HE9 := Lib.hid (own_empty 4 blK U7)
              have HD7 := Lib.hid (HDw.out.later HB7.out)
              have HF9 : Hid (Recs blK (U7.alloc (.cells #[] 4)) (.slice Af hs.length cf) (finL hs.length n) ∧ NilOr (.slice Af hs.length cf)) := Lib.hid ⟨HD7.out.fin.recs.below (by decide) ((Below.refl _ _).alloc (Nat.le_refl _) _), ownH_nil_or HD7.out.fin⟩
              have b7 : Below U7.heap.size U7 (U7.alloc (.cells #[] 4)) := (Below.refl _ _).alloc (Nat.le_refl _) _
              have v1' := (b7.cell (p := ⟨w.heap.size, 1, none⟩) (Nat.lt_of_lt_of_le HUC.out.lt HS7.out)).trans v1
              go_upto_region 35 with (first
                | (at_builtin
                   refine wpList_app_any rfl _ _ 33 4 blK (.bool false) 1 rfl Tryd.underlying33 blZ_info (by decide) (by decide) (by decide) U7.heap.size _ [] (finL hs.length n) rfl HE9.out _ rfl HF9.out.1 HF9.out.2 (by simp) (by have := HL.out; rw [finL_len]; omega) b7.size ?_
                   intro v9 w9 o9 b9
                   have HO9 := Lib.hid (OwnR.alloc o9 (.cells #[.bool false] 4))
                   have HR9 := Lib.hid (recs_one (K := blK) w9 4 (x := [.bool false]) ⟨_, _, rfl, ⟨_, rfl⟩, rfl⟩)
                   have B9 : Below U7.heap.size U7 (w9.alloc (.cells #[.bool false] 4)) := (b7.trans b9).alloc (b7.trans b9).size _
                   clear o9 b9)
                | (at_builtin
                   refine wpList_app_any rfl _ _ 33 4 blK (.bool false) 1 rfl Tryd.underlying33 blZ_info (by decide) (by decide) (by decide) U7.heap.size v9 ([] ++ finL hs.length n) [[.bool false]] rfl HO9.out _ rfl HR9.out (.inr ⟨_, _, _, rfl⟩) (by have := HL.out; rw [List.nil_append, finL_len]; omega) (by simp) B9.size ?_
                   intro v10 w10 o10 b10
                   rw [List.nil_append, finL_snoc _ _ HDw.out.le] at o10
                   obtain ⟨A10, c10, rfl, -⟩ := id o10.recs
                   rw [finL_len] at o10
                   have B10 : Below U7.heap.size U7 w10 := B9.trans b10
                   have hC10 := HC7.out.of (B10.block _ (Nat.lt_of_lt_of_le HUC.out.lt HS7.out))
                   have t1 := hC10.c1
                   have ft := World.rowIs.frozen hC10 1
                   have HC10 := Lib.hid hC10
                   have HO10 := Lib.hid o10
                   clear b10 hC10 o10))
              simp only [finL_len]
              have hCz := HC10.out.s1 (.slice A10 (hs.length + 1) c10)
              have ho := Only.set (N := fun k => k = w.heap.size) w10 w.heap.size 1 (.slice A10 (hs.length + 1) c10) rfl
              have hRz := HR7.out.of ((ho.block _ (Nat.lt_of_lt_of_le HUS.out (Nat.le_trans HS7.out B10.size)) (by omega)).trans (B10.block _ (Nat.lt_of_lt_of_le HUS.out HS7.out)))
              have hO1z := (HO7.out.later B10).only ho (fun k hk e => by have := (OwnR.lt HO7.out k hk).1; have := HUC.out.lt; omega)
              have hO2z := HO10.out.only ho (fun k hk e => by have := (OwnR.lt HO10.out k hk).1; have := HUC.out.lt; have := HS7.out; omega)
              have hBz : Below w.heap.size w (w10.setCell ⟨w.heap.size, 1, none⟩ (.slice A10 (hs.length + 1) c10)) := (HB7.out.trans (B10.mono (Nat.le_trans (Nat.le_of_lt HUC.out.lt) HS7.out))).setCell (p := ⟨w.heap.size, 1, none⟩) (Nat.le_refl _) _
              obtain ⟨Z, hZ⟩ : ∃ Z, w10.setCell ⟨w.heap.size, 1, none⟩ (.slice A10 (hs.length + 1) c10) = Z := ⟨_, rfl⟩
              rw [hZ] at hCz hRz hO1z hO2z hBz
              rw [hZ]
              clear hZ ho t1 ft v1 v1'
              have hDz : DSt Z base (.slice A6 (hs.length + 1) c6) (.slice A10 (hs.length + 1) c10) (.slice Ae es.length ce) (hs ++ [h]) n es := ⟨ownR_base hO1z (Nat.le_trans HDw.out.bw (by have := HUC.out.lt; omega)), by rw [List.length_append]; exact ownR_base hO2z (Nat.le_trans HDw.out.bw (by have := HUC.out.lt; have := HS7.out; omega)), (HDw.out.later hBz).ev, Nat.le_trans HDw.out.bw hBz.size, by rw [List.length_append]; have := HDw.out.le; omega⟩
              have HEnd : Hid (∀ a b c, DEnd w (((Z.setCell ⟨w.heap.size + 1 + 1 + 1, 0, none⟩ a).setCell ⟨w.heap.size + 1 + 1 + 1, 1, none⟩ b).setCell ⟨w.heap.size + 1 + 1 + 1, 2, none⟩ c) base (.slice Ad hs.length cd) (.slice Af hs.length cf) (.slice Ae es.length ce) (.agg #[.slice A6 (hs.length + 1) c6, .slice A10 (hs.length + 1) c10, .slice Ae es.length ce]) (hs ++ [h]) n es) := Lib.hid (fun a b c => dend_new hDz (.inr fun k hk => by have := (OwnR.lt hO1z k hk).1; have := HUC.out.lt; omega) (.inr fun k hk => by have := (OwnR.lt hO2z k hk).1; have := HUC.out.lt; have := HS7.out; omega) (.inl rfl) hBz (by omega) (fun k hk e => by have := (OwnR.lt hO1z k hk).1; have := HUS.out; omega) (fun k hk e => by have := (OwnR.lt hO2z k hk).1; have := HUS.out; have := HS7.out; omega) (fun k hk e => by have := (OwnR.lt HDw.out.ev k hk).2; omega))
              have HCz := Lib.hid hCz
              have HRz := Lib.hid hRz
              clear hCz hRz hO1z hO2z hBz hDz
              have z0 := HCz.out.c0
              have z1 := HCz.out.c1
              have z2 := HCz.out.c2
              have y0 := HRz.out.c0
              have y1 := HRz.out.c1
              have y2 := HRz.out.c2
              have fz := fun o => World.rowIs.frozen HRz.out o
              go_wp2_with fail
              try simp only [Exit.inBlock, Exit.then]
              exact bodyPost_ret (results_mid2 rfl _ _ (w.heap.size + 1 + 1 + 1) [.slice A6 (hs.length + 1) c6, .slice A10 (hs.length + 1) c10, .slice Ae es.length ce] _ rfl (rat_set3 HRz.out _ _ _).range Tryd.underlying36 rfl r3_info) rfl ⟨_, by rw [T1.out]; rfl, by rw [T2.out, T3.out, T4.out]; exact HEnd.out _ _ _⟩
            · refine step_build1 rfl 32 49 (.tmp 75) rfl h rfl hdK HTh.out hdZ 56 Tryd.underlying32 rhZ_info hdK_pos (by decide) ?_
              refine hK.out _ _ (fun _ => h1.alloc h1.size _) ?_
              clear hK K'
              try simp only [List.getElem_toArray, List.getElem_cons_zero, List.getElem_cons_succ, Act.put, List.setIfInBounds_toArray, List.set_cons_zero, List.set_cons_succ]
              have h2 : Below U.heap.size U (U1.alloc (.cells h.toArray 49)) := h1.alloc h1.size _
              have HR2x : Hid (Recs hdK (U1.alloc (.cells h.toArray 49)) (.slice (some ⟨U1.heap.size, 0, none⟩) 1 1) [h]) := Lib.hid (recs_one U1 49 HTh.out)
              have HO2 := Lib.hid (HO1.out.alloc (.cells h.toArray 49))
              have hz2 : U1.heap.size < (U1.alloc (.cells h.toArray 49)).heap.size := by simp
              obtain ⟨U2, hEU2⟩ : ∃ u, U1.alloc (.cells h.toArray 49) = u := ⟨_, rfl⟩
              rw [hEU2] at h2 HR2x HO2 hz2
              rw [hEU2]
              clear hEU2
              have hzz : U.heap.size < U1.heap.size := (OwnR.lt HO1.out _ rfl).2
              refine wpAnyG_ready [3] (by kernel_rfl) (by simp) ?_
              refine AllReadyG.cons 3 _ rfl (fun K' hK => ?_) AllReadyG.nil
              have rr := HUR.out.1.below hdK_pos h2
              refine step_app_new rfl (.tmp 71) (.tmp 73) 32 49 hdK hdZ 56 Tryd.underlying32 rhZ_info hdZ_size hdK_pos (by decide) rfl U.heap.size _ (hs) rfl HO2.out _ rfl rr HUR.out.2 (by have := HL.out; have := HLe.out; omega) h2.size ?_
              intro A3 c3 U3 o1 o2 o4
              have h3 : Below U.heap.size U U3 := h2.trans o4
              refine hK.out _ _ (fun _ => h3) ?_
              clear hK K'
              try simp only [List.getElem_toArray, List.getElem_cons_zero, List.getElem_cons_succ, Act.put, List.setIfInBounds_toArray, List.set_cons_zero, List.set_cons_succ]
              have HO3 := Lib.hid o1
              have HG3 := Lib.hid o2
              clear o1 o2 o4 rr
              have HR4 := Lib.hid (HR2x.out.same (HG3.out.block _ hz2 (by intro e; have e1 := Option.some.inj e; dsimp only at e1; have e2 : U.drew.heap.size = U.heap.size := rfl; omega)))
              have HO4 := HO3
              refine wpAnyG_ready [6] (by kernel_rfl) (by simp) ?_
              refine AllReadyG.cons 6 _ rfl (fun K' hK => ?_) AllReadyG.nil
              refine step_app_one rfl (.tmp 74) (.tmp 76) 32 49 hdK hdZ 56 Tryd.underlying32 rhZ_info hdZ_size hdK_pos (by decide) rfl U.heap.size _ (hs) h rfl HO4.out _ rfl HR4.out (.inr ⟨_, _, _, rfl⟩) (by have := HL.out; have := HLe.out; omega) h3.size ?_
              intro A6 c6 U6 o1 o4
              have h6 : Below U.heap.size U U6 := h3.trans o4
              refine hK.out _ _ (fun _ => h6) ?_
              clear hK K'
              try simp only [List.getElem_toArray, List.getElem_cons_zero, List.getElem_cons_succ, Act.put, List.setIfInBounds_toArray, List.set_cons_zero, List.set_cons_succ]
              have HO6 := Lib.hid o1
              clear o1 o4
              refine wpAnyG_take 7 _ (.pointer (some ⟨w.heap.size, 0, none⟩)) rfl (by kernel_rfl) (by kernel_rfl) (by kernel_rfl) (by kernel_rfl) (fun _ _ _ h => h) h6 (.inl ⟨by rfl, fun ww hS => by rfl⟩) ?_
              try simp only [List.getElem_toArray, List.getElem_cons_zero, List.getElem_cons_succ, Act.put, List.setIfInBounds_toArray, List.set_cons_zero, List.set_cons_succ]
              have hC6 := HUC.out.of (h6.block _ uq0)
              have hc6 := hC6.c0
              have hf6 := World.rowIs.frozen hC6 0
              have HC6 := Lib.hid hC6
              clear hC6
              refine wpAnyG_ready [8] (by kernel_rfl) (by simp) ?_
              refine AllReadyG.cons 8 _ rfl (fun K' hK => ?_) AllReadyG.nil
              go_simp
              refine hK.out _ _ (fun h => absurd rfl h) ?_
              clear hK K'
              refine wpAnyG_done (by kernel_rfl) ?_ _
              have HB6 := Lib.hid h6
              go_upto_region 9 with fail
              have hq0U : w.heap.size < U.heap.size := HUC.out.lt
              have hC7 := HC6.out.s0 (.slice A6 (hs.length + 1) c6)
              have hO7 := HO6.out.only (Only.set (N := fun k => k = w.heap.size) U6 w.heap.size 0 (.slice A6 (hs.length + 1) c6) rfl) (fun k hk e => by have := (OwnR.lt HO6.out k hk).1; omega)
              have hB7 : Below w.heap.size w (U6.setCell ⟨w.heap.size, 0, none⟩ (.slice A6 (hs.length + 1) c6)) := (HUB.out.trans (HB6.out.mono (Nat.le_of_lt hq0U))).setCell (p := ⟨w.heap.size, 0, none⟩) (Nat.le_refl _) _
              have hR7 := HU3.out.of (((set_only U6 w.heap.size 0 (.slice A6 (hs.length + 1) c6)).2 _ (by omega)).trans (HB6.out.block _ HUS.out))
              have hS7 : U.heap.size ≤ (U6.setCell ⟨w.heap.size, 0, none⟩ (.slice A6 (hs.length + 1) c6)).heap.size := by have := HB6.out.size; have := (set_only U6 w.heap.size 0 (.slice A6 (hs.length + 1) c6)).1.size; omega
              obtain ⟨U7, hU7⟩ : ∃ U7, U6.setCell ⟨w.heap.size, 0, none⟩ (.slice A6 (hs.length + 1) c6) = U7 := ⟨_, rfl⟩
              rw [hU7] at hC7 hO7 hB7 hR7 hS7
              rw [hU7]
              clear hU7
              have HC7 := Lib.hid hC7
              have HO7 := Lib.hid hO7
              have HB7 := Lib.hid hB7
              have HR7 := Lib.hid hR7
              have HS7 := Lib.hid hS7
              have v1 := hC7.c1
              clear hC7 hO7 hB7 hR7 hS7 hq0U hc6 hf6 h6
              have HE9 := Lib.hid (own_empty 4 blK U7)
              have HD7 := Lib.hid (HDw.out.later HB7.out)
              have HF9 : Hid (Recs blK (U7.alloc (.cells #[] 4)) (.slice Af hs.length cf) (finL hs.length n) ∧ NilOr (.slice Af hs.length cf)) := Lib.hid ⟨HD7.out.fin.recs.below (by decide) ((Below.refl _ _).alloc (Nat.le_refl _) _), ownH_nil_or HD7.out.fin⟩
              have b7 : Below U7.heap.size U7 (U7.alloc (.cells #[] 4)) := (Below.refl _ _).alloc (Nat.le_refl _) _
              have v1' := (b7.cell (p := ⟨w.heap.size, 1, none⟩) (Nat.lt_of_lt_of_le HUC.out.lt HS7.out)).trans v1
              go_upto_region 35 with (first
                | (at_builtin
                   refine wpList_app_any rfl _ _ 33 4 blK (.bool false) 1 rfl Tryd.underlying33 blZ_info (by decide) (by decide) (by decide) U7.heap.size _ [] (finL hs.length n) rfl HE9.out _ rfl HF9.out.1 HF9.out.2 (by simp) (by have := HL.out; rw [finL_len]; omega) b7.size ?_
                   intro v9 w9 o9 b9
                   have HO9 := Lib.hid (OwnR.alloc o9 (.cells #[.bool false] 4))
                   have HR9 := Lib.hid (recs_one (K := blK) w9 4 (x := [.bool false]) ⟨_, _, rfl, ⟨_, rfl⟩, rfl⟩)
                   have B9 : Below U7.heap.size U7 (w9.alloc (.cells #[.bool false] 4)) := (b7.trans b9).alloc (b7.trans b9).size _
                   clear o9 b9)
                | (at_builtin
                   refine wpList_app_any rfl _ _ 33 4 blK (.bool false) 1 rfl Tryd.underlying33 blZ_info (by decide) (by decide) (by decide) U7.heap.size v9 ([] ++ finL hs.length n) [[.bool false]] rfl HO9.out _ rfl HR9.out (.inr ⟨_, _, _, rfl⟩) (by have := HL.out; rw [List.nil_append, finL_len]; omega) (by simp) B9.size ?_
                   intro v10 w10 o10 b10
                   rw [List.nil_append, finL_snoc _ _ HDw.out.le] at o10
                   obtain ⟨A10, c10, rfl, -⟩ := id o10.recs
                   rw [finL_len] at o10
                   have B10 : Below U7.heap.size U7 w10 := B9.trans b10
                   have hC10 := HC7.out.of (B10.block _ (Nat.lt_of_lt_of_le HUC.out.lt HS7.out))
                   have t1 := hC10.c1
                   have ft := World.rowIs.frozen hC10 1
                   have HC10 := Lib.hid hC10
                   have HO10 := Lib.hid o10
                   clear b10 hC10 o10))
              simp only [finL_len]
              have hCz := HC10.out.s1 (.slice A10 (hs.length + 1) c10)
              have ho := Only.set (N := fun k => k = w.heap.size) w10 w.heap.size 1 (.slice A10 (hs.length + 1) c10) rfl
              have hRz := HR7.out.of ((ho.block _ (Nat.lt_of_lt_of_le HUS.out (Nat.le_trans HS7.out B10.size)) (by omega)).trans (B10.block _ (Nat.lt_of_lt_of_le HUS.out HS7.out)))
              have hO1z := (HO7.out.later B10).only ho (fun k hk e => by have := (OwnR.lt HO7.out k hk).1; have := HUC.out.lt; omega)
              have hO2z := HO10.out.only ho (fun k hk e => by have := (OwnR.lt HO10.out k hk).1; have := HUC.out.lt; have := HS7.out; omega)
              have hBz : Below w.heap.size w (w10.setCell ⟨w.heap.size, 1, none⟩ (.slice A10 (hs.length + 1) c10)) := (HB7.out.trans (B10.mono (Nat.le_trans (Nat.le_of_lt HUC.out.lt) HS7.out))).setCell (p := ⟨w.heap.size, 1, none⟩) (Nat.le_refl _) _
              obtain ⟨Z, hZ⟩ : ∃ Z, w10.setCell ⟨w.heap.size, 1, none⟩ (.slice A10 (hs.length + 1) c10) = Z := ⟨_, rfl⟩
              rw [hZ] at hCz hRz hO1z hO2z hBz
              rw [hZ]
              clear hZ ho t1 ft v1 v1'
              have hDz : DSt Z base (.slice A6 (hs.length + 1) c6) (.slice A10 (hs.length + 1) c10) (.slice Ae es.length ce) (hs ++ [h]) n es := ⟨ownR_base hO1z (Nat.le_trans HDw.out.bw (by have := HUC.out.lt; omega)), by rw [List.length_append]; exact ownR_base hO2z (Nat.le_trans HDw.out.bw (by have := HUC.out.lt; have := HS7.out; omega)), (HDw.out.later hBz).ev, Nat.le_trans HDw.out.bw hBz.size, by rw [List.length_append]; have := HDw.out.le; omega⟩
              have HEnd : Hid (∀ a b c, DEnd w (((Z.setCell ⟨w.heap.size + 1 + 1 + 1, 0, none⟩ a).setCell ⟨w.heap.size + 1 + 1 + 1, 1, none⟩ b).setCell ⟨w.heap.size + 1 + 1 + 1, 2, none⟩ c) base (.slice Ad hs.length cd) (.slice Af hs.length cf) (.slice Ae es.length ce) (.agg #[.slice A6 (hs.length + 1) c6, .slice A10 (hs.length + 1) c10, .slice Ae es.length ce]) (hs ++ [h]) n es) := Lib.hid (fun a b c => dend_new hDz (.inr fun k hk => by have := (OwnR.lt hO1z k hk).1; have := HUC.out.lt; omega) (.inr fun k hk => by have := (OwnR.lt hO2z k hk).1; have := HUC.out.lt; have := HS7.out; omega) (.inl rfl) hBz (by omega) (fun k hk e => by have := (OwnR.lt hO1z k hk).1; have := HUS.out; omega) (fun k hk e => by have := (OwnR.lt hO2z k hk).1; have := HUS.out; have := HS7.out; omega) (fun k hk e => by have := (OwnR.lt HDw.out.ev k hk).2; omega))
              have HCz := Lib.hid hCz
              have HRz := Lib.hid hRz
              clear hCz hRz hO1z hO2z hBz hDz
              have z0 := HCz.out.c0
              have z1 := HCz.out.c1
              have z2 := HCz.out.c2
              have y0 := HRz.out.c0
              have y1 := HRz.out.c1
              have y2 := HRz.out.c2
              have fz := fun o => World.rowIs.frozen HRz.out o
              go_wp2_with fail
              try simp only [Exit.inBlock, Exit.then]
              exact bodyPost_ret (results_mid2 rfl _ _ (w.heap.size + 1 + 1 + 1) [.slice A6 (hs.length + 1) c6, .slice A10 (hs.length + 1) c10, .slice Ae es.length ce] _ rfl (rat_set3 HRz.out _ _ _).range Tryd.underlying36 rfl r3_info) rfl ⟨_, by rw [T1.out]; rfl, by rw [T2.out, T3.out, T4.out]; exact HEnd.out _ _ _⟩
          · refine step_build1 rfl 32 49 (.tmp 75) rfl h rfl hdK HTh.out hdZ 56 Tryd.underlying32 rhZ_info hdK_pos (by decide) ?_
            refine hK.out _ _ (fun _ => h0.alloc h0.size _) ?_
            clear hK K'
            try simp only [List.getElem_toArray, List.getElem_cons_zero, List.getElem_cons_succ, Act.put, List.setIfInBounds_toArray, List.set_cons_zero, List.set_cons_succ]
            have h1 : Below U.heap.size U (U.drew.alloc (.cells h.toArray 49)) := h0.alloc h0.size _
            have HR1x : Hid (Recs hdK (U.drew.alloc (.cells h.toArray 49)) (.slice (some ⟨U.heap.size, 0, none⟩) 1 1) [h]) := Lib.hid (recs_one U.drew 49 HTh.out)
            have hz1 : U.heap.size < (U.drew.alloc (.cells h.toArray 49)).heap.size := by show U.heap.size < (U.alloc _).heap.size; simp
            obtain ⟨U1, hEU1⟩ : ∃ u, U.drew.alloc (.cells h.toArray 49) = u := ⟨_, rfl⟩
            rw [hEU1] at h1 HR1x hz1
            rw [hEU1]
            clear hEU1
            refine wpAnyG_ready [0] (by kernel_rfl) (by simp) ?_
            refine AllReadyG.cons 0 _ rfl (fun K' hK => ?_) AllReadyG.nil
            go_simp
            refine hK.out _ _ (fun _ => h1.alloc h1.size _) ?_
            clear hK K'
            try simp only [List.getElem_toArray, List.getElem_cons_zero, List.getElem_cons_succ, Act.put, List.setIfInBounds_toArray, List.set_cons_zero, List.set_cons_succ]
            have h2 : Below U.heap.size U (U1.alloc (.cells #[] 49)) := h1.alloc h1.size _
            have HO2 : Hid (OwnR 49 hdK (U1.alloc (.cells #[] 49)) U.heap.size (.slice (some ⟨U1.heap.size, 0, none⟩) 0 0) []) := Lib.hid (ownR_base (own_empty 49 hdK U1) h1.size)
            have HR2x := Lib.hid (HR1x.out.below hdK_pos ((Below.refl _ _).alloc (Nat.le_refl _) (.cells #[] 49)))
            have hz2 : U1.heap.size < (U1.alloc (.cells #[] 49)).heap.size := by simp
            obtain ⟨U2, hEU2⟩ : ∃ u, U1.alloc (.cells #[] 49) = u := ⟨_, rfl⟩
            rw [hEU2] at h2 HO2 HR2x hz2
            rw [hEU2]
            clear hEU2
            refine wpAnyG_ready [3] (by kernel_rfl) (by simp) ?_
            refine AllReadyG.cons 3 _ rfl (fun K' hK => ?_) AllReadyG.nil
            have rr := HUR.out.1.below hdK_pos h2
            refine step_app_new rfl (.tmp 71) (.tmp 73) 32 49 hdK hdZ 56 Tryd.underlying32 rhZ_info hdZ_size hdK_pos (by decide) rfl U.heap.size _ (hs) rfl HO2.out _ rfl rr HUR.out.2 (by have := HL.out; have := HLe.out; omega) h2.size ?_
            intro A3 c3 U3 o1 o2 o4
            have h3 : Below U.heap.size U U3 := h2.trans o4
            refine hK.out _ _ (fun _ => h3) ?_
            clear hK K'
            try simp only [List.getElem_toArray, List.getElem_cons_zero, List.getElem_cons_succ, Act.put, List.setIfInBounds_toArray, List.set_cons_zero, List.set_cons_succ]
            have HO3 := Lib.hid o1
            have HG3 := Lib.hid o2
            clear o1 o2 o4 rr
            have HR4 := Lib.hid (HR2x.out.same (HG3.out.block _ (Nat.lt_trans hz1 hz2) (by intro e; have e1 := Option.some.inj e; dsimp only at e1; omega)))
            have HO4 := HO3
            refine wpAnyG_ready [6] (by kernel_rfl) (by simp) ?_
            refine AllReadyG.cons 6 _ rfl (fun K' hK => ?_) AllReadyG.nil
            refine step_app_one rfl (.tmp 74) (.tmp 76) 32 49 hdK hdZ 56 Tryd.underlying32 rhZ_info hdZ_size hdK_pos (by decide) rfl U.heap.size _ (hs) h rfl HO4.out _ rfl HR4.out (.inr ⟨_, _, _, rfl⟩) (by have := HL.out; have := HLe.out; omega) h3.size ?_
            intro A6 c6 U6 o1 o4
            have h6 : Below U.heap.size U U6 := h3.trans o4
            refine hK.out _ _ (fun _ => h6) ?_
            clear hK K'
            try simp only [List.getElem_toArray, List.getElem_cons_zero, List.getElem_cons_succ, Act.put, List.setIfInBounds_toArray, List.set_cons_zero, List.set_cons_succ]
            have HO6 := Lib.hid o1
            clear o1 o4
            refine wpAnyG_take 7 _ (.pointer (some ⟨w.heap.size, 0, none⟩)) rfl (by kernel_rfl) (by kernel_rfl) (by kernel_rfl) (by kernel_rfl) (fun _ _ _ h => h) h6 (.inl ⟨by rfl, fun ww hS => by rfl⟩) ?_
            try simp only [List.getElem_toArray, List.getElem_cons_zero, List.getElem_cons_succ, Act.put, List.setIfInBounds_toArray, List.set_cons_zero, List.set_cons_succ]
            have hC6 := HUC.out.of (h6.block _ uq0)
            have hc6 := hC6.c0
            have hf6 := World.rowIs.frozen hC6 0
            have HC6 := Lib.hid hC6
            clear hC6
            refine wpAnyG_ready [8] (by kernel_rfl) (by simp) ?_
            refine AllReadyG.cons 8 _ rfl (fun K' hK => ?_) AllReadyG.nil
            go_simp
            refine hK.out _ _ (fun h => absurd rfl h) ?_
            clear hK K'
            refine wpAnyG_done (by kernel_rfl) ?_ _
            have HB6 := Lib.hid h6
            go_upto_region 9 with fail
            have hq0U : w.heap.size < U.heap.size := HUC.out.lt
            have hC7 := HC6.out.s0 (.slice A6 (hs.length + 1) c6)
            have hO7 := HO6.out.only (Only.set (N := fun k => k = w.heap.size) U6 w.heap.size 0 (.slice A6 (hs.length + 1) c6) rfl) (fun k hk e => by have := (OwnR.lt HO6.out k hk).1; omega)
            have hB7 : Below w.heap.size w (U6.setCell ⟨w.heap.size, 0, none⟩ (.slice A6 (hs.length + 1) c6)) := (HUB.out.trans (HB6.out.mono (Nat.le_of_lt hq0U))).setCell (p := ⟨w.heap.size, 0, none⟩) (Nat.le_refl _) _
            have hR7 := HU3.out.of (((set_only U6 w.heap.size 0 (.slice A6 (hs.length + 1) c6)).2 _ (by omega)).trans (HB6.out.block _ HUS.out))
            have hS7 : U.heap.size ≤ (U6.setCell ⟨w.heap.size, 0, none⟩ (.slice A6 (hs.length + 1) c6)).heap.size := by have := HB6.out.size; have := (set_only U6 w.heap.size 0 (.slice A6 (hs.length + 1) c6)).1.size; omega
            obtain ⟨U7, hU7⟩ : ∃ U7, U6.setCell ⟨w.heap.size, 0, none⟩ (.slice A6 (hs.length + 1) c6) = U7 := ⟨_, rfl⟩
            rw [hU7] at hC7 hO7 hB7 hR7 hS7
            rw [hU7]
            clear hU7
            have HC7 := Lib.hid hC7
            have HO7 := Lib.hid hO7
            have HB7 := Lib.hid hB7
            have HR7 := Lib.hid hR7
            have HS7 := Lib.hid hS7
            have v1 := hC7.c1
            clear hC7 hO7 hB7 hR7 hS7 hq0U hc6 hf6 h6
            have HE9 := Lib.hid (own_empty 4 blK U7)
            have HD7 := Lib.hid (HDw.out.later HB7.out)
            have HF9 : Hid (Recs blK (U7.alloc (.cells #[] 4)) (.slice Af hs.length cf) (finL hs.length n) ∧ NilOr (.slice Af hs.length cf)) := Lib.hid ⟨HD7.out.fin.recs.below (by decide) ((Below.refl _ _).alloc (Nat.le_refl _) _), ownH_nil_or HD7.out.fin⟩
            have b7 : Below U7.heap.size U7 (U7.alloc (.cells #[] 4)) := (Below.refl _ _).alloc (Nat.le_refl _) _
            have v1' := (b7.cell (p := ⟨w.heap.size, 1, none⟩) (Nat.lt_of_lt_of_le HUC.out.lt HS7.out)).trans v1
            go_upto_region 35 with (first
              | (at_builtin
                 refine wpList_app_any rfl _ _ 33 4 blK (.bool false) 1 rfl Tryd.underlying33 blZ_info (by decide) (by decide) (by decide) U7.heap.size _ [] (finL hs.length n) rfl HE9.out _ rfl HF9.out.1 HF9.out.2 (by simp) (by have := HL.out; rw [finL_len]; omega) b7.size ?_
                 intro v9 w9 o9 b9
                 have HO9 := Lib.hid (OwnR.alloc o9 (.cells #[.bool false] 4))
                 have HR9 := Lib.hid (recs_one (K := blK) w9 4 (x := [.bool false]) ⟨_, _, rfl, ⟨_, rfl⟩, rfl⟩)
                 have B9 : Below U7.heap.size U7 (w9.alloc (.cells #[.bool false] 4)) := (b7.trans b9).alloc (b7.trans b9).size _
                 clear o9 b9)
              | (at_builtin
                 refine wpList_app_any rfl _ _ 33 4 blK (.bool false) 1 rfl Tryd.underlying33 blZ_info (by decide) (by decide) (by decide) U7.heap.size v9 ([] ++ finL hs.length n) [[.bool false]] rfl HO9.out _ rfl HR9.out (.inr ⟨_, _, _, rfl⟩) (by have := HL.out; rw [List.nil_append, finL_len]; omega) (by simp) B9.size ?_
                 intro v10 w10 o10 b10
                 rw [List.nil_append, finL_snoc _ _ HDw.out.le] at o10
                 obtain ⟨A10, c10, rfl, -⟩ := id o10.recs
                 rw [finL_len] at o10
                 have B10 : Below U7.heap.size U7 w10 := B9.trans b10
                 have hC10 := HC7.out.of (B10.block _ (Nat.lt_of_lt_of_le HUC.out.lt HS7.out))
                 have t1 := hC10.c1
                 have ft := World.rowIs.frozen hC10 1
                 have HC10 := Lib.hid hC10
                 have HO10 := Lib.hid o10
                 clear b10 hC10 o10))
            simp only [finL_len]
            have hCz := HC10.out.s1 (.slice A10 (hs.length + 1) c10)
            have ho := Only.set (N := fun k => k = w.heap.size) w10 w.heap.size 1 (.slice A10 (hs.length + 1) c10) rfl
            have hRz := HR7.out.of ((ho.block _ (Nat.lt_of_lt_of_le HUS.out (Nat.le_trans HS7.out B10.size)) (by omega)).trans (B10.block _ (Nat.lt_of_lt_of_le HUS.out HS7.out)))
            have hO1z := (HO7.out.later B10).only ho (fun k hk e => by have := (OwnR.lt HO7.out k hk).1; have := HUC.out.lt; omega)
            have hO2z := HO10.out.only ho (fun k hk e => by have := (OwnR.lt HO10.out k hk).1; have := HUC.out.lt; have := HS7.out; omega)
            have hBz : Below w.heap.size w (w10.setCell ⟨w.heap.size, 1, none⟩ (.slice A10 (hs.length + 1) c10)) := (HB7.out.trans (B10.mono (Nat.le_trans (Nat.le_of_lt HUC.out.lt) HS7.out))).setCell (p := ⟨w.heap.size, 1, none⟩) (Nat.le_refl _) _
            obtain ⟨Z, hZ⟩ : ∃ Z, w10.setCell ⟨w.heap.size, 1, none⟩ (.slice A10 (hs.length + 1) c10) = Z := ⟨_, rfl⟩
            rw [hZ] at hCz hRz hO1z hO2z hBz
            rw [hZ]
            clear hZ ho t1 ft v1 v1'
            have hDz : DSt Z base (.slice A6 (hs.length + 1) c6) (.slice A10 (hs.length + 1) c10) (.slice Ae es.length ce) (hs ++ [h]) n es := ⟨ownR_base hO1z (Nat.le_trans HDw.out.bw (by have := HUC.out.lt; omega)), by rw [List.length_append]; exact ownR_base hO2z (Nat.le_trans HDw.out.bw (by have := HUC.out.lt; have := HS7.out; omega)), (HDw.out.later hBz).ev, Nat.le_trans HDw.out.bw hBz.size, by rw [List.length_append]; have := HDw.out.le; omega⟩
            have HEnd : Hid (∀ a b c, DEnd w (((Z.setCell ⟨w.heap.size + 1 + 1 + 1, 0, none⟩ a).setCell ⟨w.heap.size + 1 + 1 + 1, 1, none⟩ b).setCell ⟨w.heap.size + 1 + 1 + 1, 2, none⟩ c) base (.slice Ad hs.length cd) (.slice Af hs.length cf) (.slice Ae es.length ce) (.agg #[.slice A6 (hs.length + 1) c6, .slice A10 (hs.length + 1) c10, .slice Ae es.length ce]) (hs ++ [h]) n es) := Lib.hid (fun a b c => dend_new hDz (.inr fun k hk => by have := (OwnR.lt hO1z k hk).1; have := HUC.out.lt; omega) (.inr fun k hk => by have := (OwnR.lt hO2z k hk).1; have := HUC.out.lt; have := HS7.out; omega) (.inl rfl) hBz (by omega) (fun k hk e => by have := (OwnR.lt hO1z k hk).1; have := HUS.out; omega) (fun k hk e => by have := (OwnR.lt hO2z k hk).1; have := HUS.out; have := HS7.out; omega) (fun k hk e => by have := (OwnR.lt HDw.out.ev k hk).2; omega))
            have HCz := Lib.hid hCz
            have HRz := Lib.hid hRz
            clear hCz hRz hO1z hO2z hBz hDz
            have z0 := HCz.out.c0
            have z1 := HCz.out.c1
            have z2 := HCz.out.c2
            have y0 := HRz.out.c0
            have y1 := HRz.out.c1
            have y2 := HRz.out.c2
            have fz := fun o => World.rowIs.frozen HRz.out o
            go_wp2_with fail
            try simp only [Exit.inBlock, Exit.then]
            exact bodyPost_ret (results_mid2 rfl _ _ (w.heap.size + 1 + 1 + 1) [.slice A6 (hs.length + 1) c6, .slice A10 (hs.length + 1) c10, .slice Ae es.length ce] _ rfl (rat_set3 HRz.out _ _ _).range Tryd.underlying36 rfl r3_info) rfl ⟨_, by rw [T1.out]; rfl, by rw [T2.out, T3.out, T4.out]; exact HEnd.out _ _ _⟩
        · obtain ⟨k, hk⟩ : ∃ k, hs.length = k + 1 := ⟨hs.length - 1, by omega⟩
          obtain ⟨g, o, rfl, hg, hr, ht⟩ := HD.out.hd.recs.at hdK_pos k (by omega)
          rw [hdK_len] at hr
          rw [if_neg q3, hk, show k + 1 - 1 = k by omega] at hp
          obtain ⟨x, hx⟩ : ∃ x, hs.getD k [] = x := ⟨_, rfl⟩
          rw [hx] at hr ht hp
          have l0 := hr 0 _ (ht.at 0 .u32 (by kernel_rfl)).1
          have l1 := hr 1 _ (ht.at 1 .u64 (by kernel_rfl)).1
          have l34 := hr 34 _ (ht.at 34 .u64 (by kernel_rfl)).1
          rw [Nat.add_zero] at l0
          obtain ⟨x0, hx0⟩ : ∃ a, intAt x 0 = a := ⟨_, rfl⟩
          obtain ⟨x1, hx1⟩ : ∃ a, intAt x 1 = a := ⟨_, rfl⟩
          obtain ⟨x34, hx34⟩ : ∃ a, intAt x 34 = a := ⟨_, rfl⟩
          rw [hx0] at hp l0
          rw [hx1] at hp l1
          rw [hx34] at hp l34
          have hlt1 : (k : Int) < (hs.length : Int) := by omega
          have hpos : (0 : Int) < (hs.length : Int) := by omega
          have hposn : 0 < hs.length := by omega
          have hsub : IntKind.i64.wrap ((hs.length : Int) - 1) = (k : Int) := by
            rw [IntWalk.i64_in _ (by omega)]
            omega
          clear hx hx0 hx1 hx34 hr ht hk hg
          by_cases m1 : a0 ≤ x0
          · rw [if_pos (by exact .inl m1)] at hp
            have T1 : Hid (tkE hs n ev h = 11) := Lib.hid (by rw [T0.out, hp])
            have T2 : Hid (tkH hs n ev h = hs) := Lib.hid (by rw [T5.out, hp]; rfl)
            clear hp q1 q2 q3
            go_upto_region 6 with fail
            refine region_still (by kernel_rfl) (by kernel_rfl) ?_
            refine still_yes (.int .i64 (hs.length : Int)) (by kernel_rfl) (by rfl) ?_
            try simp only [Act.put, List.setIfInBounds_toArray, List.set_cons_zero, List.set_cons_succ]
            refine still_yes (.bool true) (by kernel_rfl) (by go_simp) ?_
            try simp only [Act.put, List.setIfInBounds_toArray, List.set_cons_zero, List.set_cons_succ]
            refine still_yes (.bool true) (by kernel_rfl) (by rfl) ?_
            try simp only [Act.put, List.setIfInBounds_toArray, List.set_cons_zero, List.set_cons_succ]
            refine still_yes (.pointer (some ⟨w.heap.size + 1 + 1, 0, none⟩)) (by kernel_rfl) (by rfl) ?_
            try simp only [Act.put, List.setIfInBounds_toArray, List.set_cons_zero, List.set_cons_succ]
            refine still_yes (.int .u32 a0) (by kernel_rfl) (by go_simp) ?_
            try simp only [Act.put, List.setIfInBounds_toArray, List.set_cons_zero, List.set_cons_succ]
            refine still_yes (.pointer (some ⟨w.heap.size, 0, none⟩)) (by kernel_rfl) (by rfl) ?_
            try simp only [Act.put, List.setIfInBounds_toArray, List.set_cons_zero, List.set_cons_succ]
            refine still_yes (.slice (some ⟨g, o, none⟩) hs.length cd) (by kernel_rfl) (by go_simp) ?_
            try simp only [Act.put, List.setIfInBounds_toArray, List.set_cons_zero, List.set_cons_succ]
            refine still_yes (.int .i64 (hs.length : Int)) (by kernel_rfl) (by rfl) ?_
            try simp only [Act.put, List.setIfInBounds_toArray, List.set_cons_zero, List.set_cons_succ]
            refine still_yes (.int .i64 (k : Int)) (by kernel_rfl) (by go_simp) ?_
            try simp only [Act.put, List.setIfInBounds_toArray, List.set_cons_zero, List.set_cons_succ]
            refine still_yes (.pointer (some ⟨g, o + k * 35, none⟩)) (by kernel_rfl) (by go_simp) ?_
            try simp only [Act.put, List.setIfInBounds_toArray, List.set_cons_zero, List.set_cons_succ]
            refine still_yes (.pointer (some ⟨g, o + k * 35, none⟩)) (by kernel_rfl) (by go_simp) ?_
            try simp only [Act.put, List.setIfInBounds_toArray, List.set_cons_zero, List.set_cons_succ]
            refine still_yes (.int .u32 x0) (by kernel_rfl) (by go_simp) ?_
            try simp only [Act.put, List.setIfInBounds_toArray, List.set_cons_zero, List.set_cons_succ]
            refine still_yes (.bool true) (by kernel_rfl) (by go_simp) ?_
            try simp only [Act.put, List.setIfInBounds_toArray, List.set_cons_zero, List.set_cons_succ]
            refine still_yes (.bool true) (by kernel_rfl) (by rfl) ?_
            try simp only [Act.put, List.setIfInBounds_toArray, List.set_cons_zero, List.set_cons_succ]
            apply still_no
            · kernel_rfl
            try simp only [Act.put, List.setIfInBounds_toArray, List.set_cons_zero, List.set_cons_succ]
            apply still_no
            · kernel_rfl
            try simp only [Act.put, List.setIfInBounds_toArray, List.set_cons_zero, List.set_cons_succ]
            apply still_no
            · kernel_rfl
            try simp only [Act.put, List.setIfInBounds_toArray, List.set_cons_zero, List.set_cons_succ]
            apply still_no
            · kernel_rfl
            try simp only [Act.put, List.setIfInBounds_toArray, List.set_cons_zero, List.set_cons_succ]
            apply still_no
            · kernel_rfl
            try simp only [Act.put, List.setIfInBounds_toArray, List.set_cons_zero, List.set_cons_succ]
            apply still_no
            · kernel_rfl
            try simp only [Act.put, List.setIfInBounds_toArray, List.set_cons_zero, List.set_cons_succ]
            apply still_no
            · kernel_rfl
            try simp only [Act.put, List.setIfInBounds_toArray, List.set_cons_zero, List.set_cons_succ]
            apply still_no
            · kernel_rfl
            try simp only [Act.put, List.setIfInBounds_toArray, List.set_cons_zero, List.set_cons_succ]
            apply still_no
            · kernel_rfl
            try simp only [Act.put, List.setIfInBounds_toArray, List.set_cons_zero, List.set_cons_succ]
            apply still_no
            · kernel_rfl
            try simp only [Act.put, List.setIfInBounds_toArray, List.set_cons_zero, List.set_cons_succ]
            refine still_yes (.bool true) (by kernel_rfl) (by rfl) ?_
            try simp only [Act.put, List.setIfInBounds_toArray, List.set_cons_zero, List.set_cons_succ]
            refine still_yes (.bool true) (by kernel_rfl) (by rfl) ?_
            try simp only [Act.put, List.setIfInBounds_toArray, List.set_cons_zero, List.set_cons_succ]
            apply still_no
            · kernel_rfl
            try simp only [Act.put, List.setIfInBounds_toArray, List.set_cons_zero, List.set_cons_succ]
            apply still_no
            · kernel_rfl
            try simp only [Act.put, List.setIfInBounds_toArray, List.set_cons_zero, List.set_cons_succ]
            apply still_no
            · kernel_rfl
            try simp only [Act.put, List.setIfInBounds_toArray, List.set_cons_zero, List.set_cons_succ]
            apply still_no
            · kernel_rfl
            try simp only [Act.put, List.setIfInBounds_toArray, List.set_cons_zero, List.set_cons_succ]
            apply still_no
            · kernel_rfl
            try simp only [Act.put, List.setIfInBounds_toArray, List.set_cons_zero, List.set_cons_succ]
            apply still_no
            · kernel_rfl
            try simp only [Act.put, List.setIfInBounds_toArray, List.set_cons_zero, List.set_cons_succ]
            apply still_no
            · kernel_rfl
            try simp only [Act.put, List.setIfInBounds_toArray, List.set_cons_zero, List.set_cons_succ]
            apply still_no
            · kernel_rfl
            try simp only [Act.put, List.setIfInBounds_toArray, List.set_cons_zero, List.set_cons_succ]
            apply still_no
            · kernel_rfl
            try simp only [Act.put, List.setIfInBounds_toArray, List.set_cons_zero, List.set_cons_succ]
            apply still_no
            · kernel_rfl
            try simp only [Act.put, List.setIfInBounds_toArray, List.set_cons_zero, List.set_cons_succ]
            refine still_yes (.bool true) (by kernel_rfl) (by rfl) ?_
            try simp only [Act.put, List.setIfInBounds_toArray, List.set_cons_zero, List.set_cons_succ]
            refine still_yes (.bool true) (by kernel_rfl) (by rfl) ?_
            try simp only [Act.put, List.setIfInBounds_toArray, List.set_cons_zero, List.set_cons_succ]
            refine wpStill_nil ?_
            go_upto_region 7 with fail
            have hRu : RAt W.drew w.heap.size (.slice (some ⟨g, o, none⟩) hs.length cd) (.slice Af hs.length cf) (.slice Ae es.length ce) := HRa.out.of rfl
            have hR3u : RAt W.drew (w.heap.size + 1 + 1 + 1) (.slice none 0 0) (.slice none 0 0) (.slice none 0 0) := HR3.out.of rfl
            have hHu : W.drew.rangeAt (w.heap.size + 1 + 1) 0 h := range_of_block HH.out rfl
            have hEu : W.drew.rangeAt (w.heap.size + 1) 0 ev := range_of_block HE.out rfl
            have hBu : Below w.heap.size w W.drew := HB.out.drew
            have hSu : w.heap.size + 1 + 1 + 1 < W.drew.heap.size := by have := HSz.out; show _ < W.heap.size; omega
            obtain ⟨U, hU⟩ : ∃ U, W.drew = U := ⟨_, rfl⟩
            rw [hU] at hRu hR3u hHu hEu hBu hSu
            rw [hU]
            clear hU c0 c1 c2 e0 e1 e46 g0 g1 g34 f6 f3 xx0 xx1 xx2
            have HUC := Lib.hid hRu
            have HU3 := Lib.hid hR3u
            have HUH := Lib.hid hHu
            have HUE := Lib.hid hEu
            have HUB := Lib.hid hBu
            have HUS := Lib.hid hSu
            have HUD := Lib.hid (HDw.out.later hBu)
            have HUHl : Hid (w.heap.size + 1 + 1 < U.heap.size) := Lib.hid (by omega)
            have HUEl : Hid (w.heap.size + 1 < U.heap.size) := Lib.hid (by omega)
            clear hRu hR3u hHu hEu hBu hSu
            clear l0 l1 l34
            have HCz := HUC
            have HRz := HU3
            have z0 := HCz.out.c0
            have z1 := HCz.out.c1
            have z2 := HCz.out.c2
            have y0 := HRz.out.c0
            have y1 := HRz.out.c1
            have y2 := HRz.out.c2
            have fz := fun o => World.rowIs.frozen HRz.out o
            go_wp2_with fail
            try simp only [Exit.inBlock, Exit.then]
            exact bodyPost_ret (results_mid2 rfl _ _ (w.heap.size + 1 + 1 + 1) [.slice (some ⟨g, o, none⟩) hs.length cd, .slice Af hs.length cf, .slice Ae es.length ce] _ rfl (rat_set3 HRz.out _ _ _).range Tryd.underlying36 rfl r3_info) rfl ⟨_, by rw [T1.out]; rfl, by rw [T2.out, T3.out, T4.out]; exact dend_still HDw.out (((HUB.out.setCell (p := ⟨w.heap.size + 1 + 1 + 1, 0, none⟩) (by show w.heap.size ≤ w.heap.size + 3; omega) _).setCell (p := ⟨w.heap.size + 1 + 1 + 1, 1, none⟩) (by show w.heap.size ≤ w.heap.size + 3; omega) _).setCell (p := ⟨w.heap.size + 1 + 1 + 1, 2, none⟩) (by show w.heap.size ≤ w.heap.size + 3; omega) _)⟩
          by_cases m2 : a1 < x1
          · rw [if_pos (by exact .inr (.inl m2))] at hp
            have T1 : Hid (tkE hs n ev h = 11) := Lib.hid (by rw [T0.out, hp])
            have T2 : Hid (tkH hs n ev h = hs) := Lib.hid (by rw [T5.out, hp]; rfl)
            clear hp q1 q2 q3
            go_upto_region 6 with fail
            refine region_still (by kernel_rfl) (by kernel_rfl) ?_
            refine still_yes (.int .i64 (hs.length : Int)) (by kernel_rfl) (by rfl) ?_
            try simp only [Act.put, List.setIfInBounds_toArray, List.set_cons_zero, List.set_cons_succ]
            refine still_yes (.bool true) (by kernel_rfl) (by go_simp) ?_
            try simp only [Act.put, List.setIfInBounds_toArray, List.set_cons_zero, List.set_cons_succ]
            refine still_yes (.bool true) (by kernel_rfl) (by rfl) ?_
            try simp only [Act.put, List.setIfInBounds_toArray, List.set_cons_zero, List.set_cons_succ]
            refine still_yes (.pointer (some ⟨w.heap.size + 1 + 1, 0, none⟩)) (by kernel_rfl) (by rfl) ?_
            try simp only [Act.put, List.setIfInBounds_toArray, List.set_cons_zero, List.set_cons_succ]
            refine still_yes (.int .u32 a0) (by kernel_rfl) (by go_simp) ?_
            try simp only [Act.put, List.setIfInBounds_toArray, List.set_cons_zero, List.set_cons_succ]
            refine still_yes (.pointer (some ⟨w.heap.size, 0, none⟩)) (by kernel_rfl) (by rfl) ?_
            try simp only [Act.put, List.setIfInBounds_toArray, List.set_cons_zero, List.set_cons_succ]
            refine still_yes (.slice (some ⟨g, o, none⟩) hs.length cd) (by kernel_rfl) (by go_simp) ?_
            try simp only [Act.put, List.setIfInBounds_toArray, List.set_cons_zero, List.set_cons_succ]
            refine still_yes (.int .i64 (hs.length : Int)) (by kernel_rfl) (by rfl) ?_
            try simp only [Act.put, List.setIfInBounds_toArray, List.set_cons_zero, List.set_cons_succ]
            refine still_yes (.int .i64 (k : Int)) (by kernel_rfl) (by go_simp) ?_
            try simp only [Act.put, List.setIfInBounds_toArray, List.set_cons_zero, List.set_cons_succ]
            refine still_yes (.pointer (some ⟨g, o + k * 35, none⟩)) (by kernel_rfl) (by go_simp) ?_
            try simp only [Act.put, List.setIfInBounds_toArray, List.set_cons_zero, List.set_cons_succ]
            refine still_yes (.pointer (some ⟨g, o + k * 35, none⟩)) (by kernel_rfl) (by go_simp) ?_
            try simp only [Act.put, List.setIfInBounds_toArray, List.set_cons_zero, List.set_cons_succ]
            refine still_yes (.int .u32 x0) (by kernel_rfl) (by go_simp) ?_
            try simp only [Act.put, List.setIfInBounds_toArray, List.set_cons_zero, List.set_cons_succ]
            refine still_yes (.bool false) (by kernel_rfl) (by go_simp) ?_
            try simp only [Act.put, List.setIfInBounds_toArray, List.set_cons_zero, List.set_cons_succ]
            refine still_yes (.bool false) (by kernel_rfl) (by rfl) ?_
            try simp only [Act.put, List.setIfInBounds_toArray, List.set_cons_zero, List.set_cons_succ]
            refine still_yes (.pointer (some ⟨w.heap.size + 1 + 1, 1, none⟩)) (by kernel_rfl) (by rfl) ?_
            try simp only [Act.put, List.setIfInBounds_toArray, List.set_cons_zero, List.set_cons_succ]
            refine still_yes (.int .u64 a1) (by kernel_rfl) (by go_simp) ?_
            try simp only [Act.put, List.setIfInBounds_toArray, List.set_cons_zero, List.set_cons_succ]
            refine still_yes (.pointer (some ⟨w.heap.size, 0, none⟩)) (by kernel_rfl) (by rfl) ?_
            try simp only [Act.put, List.setIfInBounds_toArray, List.set_cons_zero, List.set_cons_succ]
            refine still_yes (.slice (some ⟨g, o, none⟩) hs.length cd) (by kernel_rfl) (by go_simp) ?_
            try simp only [Act.put, List.setIfInBounds_toArray, List.set_cons_zero, List.set_cons_succ]
            refine still_yes (.int .i64 (hs.length : Int)) (by kernel_rfl) (by rfl) ?_
            try simp only [Act.put, List.setIfInBounds_toArray, List.set_cons_zero, List.set_cons_succ]
            refine still_yes (.int .i64 (k : Int)) (by kernel_rfl) (by go_simp) ?_
            try simp only [Act.put, List.setIfInBounds_toArray, List.set_cons_zero, List.set_cons_succ]
            refine still_yes (.pointer (some ⟨g, o + k * 35, none⟩)) (by kernel_rfl) (by go_simp) ?_
            try simp only [Act.put, List.setIfInBounds_toArray, List.set_cons_zero, List.set_cons_succ]
            refine still_yes (.pointer (some ⟨g, o + k * 35 + 1, none⟩)) (by kernel_rfl) (by go_simp) ?_
            try simp only [Act.put, List.setIfInBounds_toArray, List.set_cons_zero, List.set_cons_succ]
            refine still_yes (.int .u64 x1) (by kernel_rfl) (by go_simp) ?_
            try simp only [Act.put, List.setIfInBounds_toArray, List.set_cons_zero, List.set_cons_succ]
            refine still_yes (.bool true) (by kernel_rfl) (by go_simp) ?_
            try simp only [Act.put, List.setIfInBounds_toArray, List.set_cons_zero, List.set_cons_succ]
            refine still_yes (.bool true) (by kernel_rfl) (by rfl) ?_
            try simp only [Act.put, List.setIfInBounds_toArray, List.set_cons_zero, List.set_cons_succ]
            refine still_yes (.bool true) (by kernel_rfl) (by rfl) ?_
            try simp only [Act.put, List.setIfInBounds_toArray, List.set_cons_zero, List.set_cons_succ]
            apply still_no
            · kernel_rfl
            try simp only [Act.put, List.setIfInBounds_toArray, List.set_cons_zero, List.set_cons_succ]
            apply still_no
            · kernel_rfl
            try simp only [Act.put, List.setIfInBounds_toArray, List.set_cons_zero, List.set_cons_succ]
            apply still_no
            · kernel_rfl
            try simp only [Act.put, List.setIfInBounds_toArray, List.set_cons_zero, List.set_cons_succ]
            apply still_no
            · kernel_rfl
            try simp only [Act.put, List.setIfInBounds_toArray, List.set_cons_zero, List.set_cons_succ]
            apply still_no
            · kernel_rfl
            try simp only [Act.put, List.setIfInBounds_toArray, List.set_cons_zero, List.set_cons_succ]
            apply still_no
            · kernel_rfl
            try simp only [Act.put, List.setIfInBounds_toArray, List.set_cons_zero, List.set_cons_succ]
            apply still_no
            · kernel_rfl
            try simp only [Act.put, List.setIfInBounds_toArray, List.set_cons_zero, List.set_cons_succ]
            apply still_no
            · kernel_rfl
            try simp only [Act.put, List.setIfInBounds_toArray, List.set_cons_zero, List.set_cons_succ]
            apply still_no
            · kernel_rfl
            try simp only [Act.put, List.setIfInBounds_toArray, List.set_cons_zero, List.set_cons_succ]
            apply still_no
            · kernel_rfl
            try simp only [Act.put, List.setIfInBounds_toArray, List.set_cons_zero, List.set_cons_succ]
            refine still_yes (.bool true) (by kernel_rfl) (by rfl) ?_
            try simp only [Act.put, List.setIfInBounds_toArray, List.set_cons_zero, List.set_cons_succ]
            refine still_yes (.bool true) (by kernel_rfl) (by rfl) ?_
            try simp only [Act.put, List.setIfInBounds_toArray, List.set_cons_zero, List.set_cons_succ]
            refine wpStill_nil ?_
            go_upto_region 7 with fail
            have hRu : RAt W.drew w.heap.size (.slice (some ⟨g, o, none⟩) hs.length cd) (.slice Af hs.length cf) (.slice Ae es.length ce) := HRa.out.of rfl
            have hR3u : RAt W.drew (w.heap.size + 1 + 1 + 1) (.slice none 0 0) (.slice none 0 0) (.slice none 0 0) := HR3.out.of rfl
            have hHu : W.drew.rangeAt (w.heap.size + 1 + 1) 0 h := range_of_block HH.out rfl
            have hEu : W.drew.rangeAt (w.heap.size + 1) 0 ev := range_of_block HE.out rfl
            have hBu : Below w.heap.size w W.drew := HB.out.drew
            have hSu : w.heap.size + 1 + 1 + 1 < W.drew.heap.size := by have := HSz.out; show _ < W.heap.size; omega
            obtain ⟨U, hU⟩ : ∃ U, W.drew = U := ⟨_, rfl⟩
            rw [hU] at hRu hR3u hHu hEu hBu hSu
            rw [hU]
            clear hU c0 c1 c2 e0 e1 e46 g0 g1 g34 f6 f3 xx0 xx1 xx2
            have HUC := Lib.hid hRu
            have HU3 := Lib.hid hR3u
            have HUH := Lib.hid hHu
            have HUE := Lib.hid hEu
            have HUB := Lib.hid hBu
            have HUS := Lib.hid hSu
            have HUD := Lib.hid (HDw.out.later hBu)
            have HUHl : Hid (w.heap.size + 1 + 1 < U.heap.size) := Lib.hid (by omega)
            have HUEl : Hid (w.heap.size + 1 < U.heap.size) := Lib.hid (by omega)
            clear hRu hR3u hHu hEu hBu hSu
            clear l0 l1 l34
            have HCz := HUC
            have HRz := HU3
            have z0 := HCz.out.c0
            have z1 := HCz.out.c1
            have z2 := HCz.out.c2
            have y0 := HRz.out.c0
            have y1 := HRz.out.c1
            have y2 := HRz.out.c2
            have fz := fun o => World.rowIs.frozen HRz.out o
            go_wp2_with fail
            try simp only [Exit.inBlock, Exit.then]
            exact bodyPost_ret (results_mid2 rfl _ _ (w.heap.size + 1 + 1 + 1) [.slice (some ⟨g, o, none⟩) hs.length cd, .slice Af hs.length cf, .slice Ae es.length ce] _ rfl (rat_set3 HRz.out _ _ _).range Tryd.underlying36 rfl r3_info) rfl ⟨_, by rw [T1.out]; rfl, by rw [T2.out, T3.out, T4.out]; exact dend_still HDw.out (((HUB.out.setCell (p := ⟨w.heap.size + 1 + 1 + 1, 0, none⟩) (by show w.heap.size ≤ w.heap.size + 3; omega) _).setCell (p := ⟨w.heap.size + 1 + 1 + 1, 1, none⟩) (by show w.heap.size ≤ w.heap.size + 3; omega) _).setCell (p := ⟨w.heap.size + 1 + 1 + 1, 2, none⟩) (by show w.heap.size ≤ w.heap.size + 3; omega) _)⟩
          by_cases m3 : a34 < x34
          · rw [if_pos (by exact .inr (.inr m3))] at hp
            have T1 : Hid (tkE hs n ev h = 11) := Lib.hid (by rw [T0.out, hp])
            have T2 : Hid (tkH hs n ev h = hs) := Lib.hid (by rw [T5.out, hp]; rfl)
            clear hp q1 q2 q3
            go_upto_region 6 with fail
            refine region_still (by kernel_rfl) (by kernel_rfl) ?_
            refine still_yes (.int .i64 (hs.length : Int)) (by kernel_rfl) (by rfl) ?_
            try simp only [Act.put, List.setIfInBounds_toArray, List.set_cons_zero, List.set_cons_succ]
            refine still_yes (.bool true) (by kernel_rfl) (by go_simp) ?_
            try simp only [Act.put, List.setIfInBounds_toArray, List.set_cons_zero, List.set_cons_succ]
            refine still_yes (.bool true) (by kernel_rfl) (by rfl) ?_
            try simp only [Act.put, List.setIfInBounds_toArray, List.set_cons_zero, List.set_cons_succ]
            refine still_yes (.pointer (some ⟨w.heap.size + 1 + 1, 0, none⟩)) (by kernel_rfl) (by rfl) ?_
            try simp only [Act.put, List.setIfInBounds_toArray, List.set_cons_zero, List.set_cons_succ]
            refine still_yes (.int .u32 a0) (by kernel_rfl) (by go_simp) ?_
            try simp only [Act.put, List.setIfInBounds_toArray, List.set_cons_zero, List.set_cons_succ]
            refine still_yes (.pointer (some ⟨w.heap.size, 0, none⟩)) (by kernel_rfl) (by rfl) ?_
            try simp only [Act.put, List.setIfInBounds_toArray, List.set_cons_zero, List.set_cons_succ]
            refine still_yes (.slice (some ⟨g, o, none⟩) hs.length cd) (by kernel_rfl) (by go_simp) ?_
            try simp only [Act.put, List.setIfInBounds_toArray, List.set_cons_zero, List.set_cons_succ]
            refine still_yes (.int .i64 (hs.length : Int)) (by kernel_rfl) (by rfl) ?_
            try simp only [Act.put, List.setIfInBounds_toArray, List.set_cons_zero, List.set_cons_succ]
            refine still_yes (.int .i64 (k : Int)) (by kernel_rfl) (by go_simp) ?_
            try simp only [Act.put, List.setIfInBounds_toArray, List.set_cons_zero, List.set_cons_succ]
            refine still_yes (.pointer (some ⟨g, o + k * 35, none⟩)) (by kernel_rfl) (by go_simp) ?_
            try simp only [Act.put, List.setIfInBounds_toArray, List.set_cons_zero, List.set_cons_succ]
            refine still_yes (.pointer (some ⟨g, o + k * 35, none⟩)) (by kernel_rfl) (by go_simp) ?_
            try simp only [Act.put, List.setIfInBounds_toArray, List.set_cons_zero, List.set_cons_succ]
            refine still_yes (.int .u32 x0) (by kernel_rfl) (by go_simp) ?_
            try simp only [Act.put, List.setIfInBounds_toArray, List.set_cons_zero, List.set_cons_succ]
            refine still_yes (.bool false) (by kernel_rfl) (by go_simp) ?_
            try simp only [Act.put, List.setIfInBounds_toArray, List.set_cons_zero, List.set_cons_succ]
            refine still_yes (.bool false) (by kernel_rfl) (by rfl) ?_
            try simp only [Act.put, List.setIfInBounds_toArray, List.set_cons_zero, List.set_cons_succ]
            refine still_yes (.pointer (some ⟨w.heap.size + 1 + 1, 1, none⟩)) (by kernel_rfl) (by rfl) ?_
            try simp only [Act.put, List.setIfInBounds_toArray, List.set_cons_zero, List.set_cons_succ]
            refine still_yes (.int .u64 a1) (by kernel_rfl) (by go_simp) ?_
            try simp only [Act.put, List.setIfInBounds_toArray, List.set_cons_zero, List.set_cons_succ]
            refine still_yes (.pointer (some ⟨w.heap.size, 0, none⟩)) (by kernel_rfl) (by rfl) ?_
            try simp only [Act.put, List.setIfInBounds_toArray, List.set_cons_zero, List.set_cons_succ]
            refine still_yes (.slice (some ⟨g, o, none⟩) hs.length cd) (by kernel_rfl) (by go_simp) ?_
            try simp only [Act.put, List.setIfInBounds_toArray, List.set_cons_zero, List.set_cons_succ]
            refine still_yes (.int .i64 (hs.length : Int)) (by kernel_rfl) (by rfl) ?_
            try simp only [Act.put, List.setIfInBounds_toArray, List.set_cons_zero, List.set_cons_succ]
            refine still_yes (.int .i64 (k : Int)) (by kernel_rfl) (by go_simp) ?_
            try simp only [Act.put, List.setIfInBounds_toArray, List.set_cons_zero, List.set_cons_succ]
            refine still_yes (.pointer (some ⟨g, o + k * 35, none⟩)) (by kernel_rfl) (by go_simp) ?_
            try simp only [Act.put, List.setIfInBounds_toArray, List.set_cons_zero, List.set_cons_succ]
            refine still_yes (.pointer (some ⟨g, o + k * 35 + 1, none⟩)) (by kernel_rfl) (by go_simp) ?_
            try simp only [Act.put, List.setIfInBounds_toArray, List.set_cons_zero, List.set_cons_succ]
            refine still_yes (.int .u64 x1) (by kernel_rfl) (by go_simp) ?_
            try simp only [Act.put, List.setIfInBounds_toArray, List.set_cons_zero, List.set_cons_succ]
            refine still_yes (.bool false) (by kernel_rfl) (by go_simp) ?_
            try simp only [Act.put, List.setIfInBounds_toArray, List.set_cons_zero, List.set_cons_succ]
            refine still_yes (.bool false) (by kernel_rfl) (by rfl) ?_
            try simp only [Act.put, List.setIfInBounds_toArray, List.set_cons_zero, List.set_cons_succ]
            refine still_yes (.bool false) (by kernel_rfl) (by rfl) ?_
            try simp only [Act.put, List.setIfInBounds_toArray, List.set_cons_zero, List.set_cons_succ]
            refine still_yes (.pointer (some ⟨w.heap.size + 1 + 1, 34, none⟩)) (by kernel_rfl) (by rfl) ?_
            try simp only [Act.put, List.setIfInBounds_toArray, List.set_cons_zero, List.set_cons_succ]
            refine still_yes (.int .u64 a34) (by kernel_rfl) (by go_simp) ?_
            try simp only [Act.put, List.setIfInBounds_toArray, List.set_cons_zero, List.set_cons_succ]
            refine still_yes (.pointer (some ⟨w.heap.size, 0, none⟩)) (by kernel_rfl) (by rfl) ?_
            try simp only [Act.put, List.setIfInBounds_toArray, List.set_cons_zero, List.set_cons_succ]
            refine still_yes (.slice (some ⟨g, o, none⟩) hs.length cd) (by kernel_rfl) (by go_simp) ?_
            try simp only [Act.put, List.setIfInBounds_toArray, List.set_cons_zero, List.set_cons_succ]
            refine still_yes (.int .i64 (hs.length : Int)) (by kernel_rfl) (by rfl) ?_
            try simp only [Act.put, List.setIfInBounds_toArray, List.set_cons_zero, List.set_cons_succ]
            refine still_yes (.int .i64 (k : Int)) (by kernel_rfl) (by go_simp) ?_
            try simp only [Act.put, List.setIfInBounds_toArray, List.set_cons_zero, List.set_cons_succ]
            refine still_yes (.pointer (some ⟨g, o + k * 35, none⟩)) (by kernel_rfl) (by go_simp) ?_
            try simp only [Act.put, List.setIfInBounds_toArray, List.set_cons_zero, List.set_cons_succ]
            refine still_yes (.pointer (some ⟨g, o + k * 35 + 34, none⟩)) (by kernel_rfl) (by go_simp) ?_
            try simp only [Act.put, List.setIfInBounds_toArray, List.set_cons_zero, List.set_cons_succ]
            refine still_yes (.int .u64 x34) (by kernel_rfl) (by go_simp) ?_
            try simp only [Act.put, List.setIfInBounds_toArray, List.set_cons_zero, List.set_cons_succ]
            refine still_yes (.bool true) (by kernel_rfl) (by go_simp) ?_
            try simp only [Act.put, List.setIfInBounds_toArray, List.set_cons_zero, List.set_cons_succ]
            refine still_yes (.bool true) (by kernel_rfl) (by rfl) ?_
            try simp only [Act.put, List.setIfInBounds_toArray, List.set_cons_zero, List.set_cons_succ]
            refine still_yes (.bool true) (by kernel_rfl) (by rfl) ?_
            try simp only [Act.put, List.setIfInBounds_toArray, List.set_cons_zero, List.set_cons_succ]
            refine wpStill_nil ?_
            go_upto_region 7 with fail
            have hRu : RAt W.drew w.heap.size (.slice (some ⟨g, o, none⟩) hs.length cd) (.slice Af hs.length cf) (.slice Ae es.length ce) := HRa.out.of rfl
            have hR3u : RAt W.drew (w.heap.size + 1 + 1 + 1) (.slice none 0 0) (.slice none 0 0) (.slice none 0 0) := HR3.out.of rfl
            have hHu : W.drew.rangeAt (w.heap.size + 1 + 1) 0 h := range_of_block HH.out rfl
            have hEu : W.drew.rangeAt (w.heap.size + 1) 0 ev := range_of_block HE.out rfl
            have hBu : Below w.heap.size w W.drew := HB.out.drew
            have hSu : w.heap.size + 1 + 1 + 1 < W.drew.heap.size := by have := HSz.out; show _ < W.heap.size; omega
            obtain ⟨U, hU⟩ : ∃ U, W.drew = U := ⟨_, rfl⟩
            rw [hU] at hRu hR3u hHu hEu hBu hSu
            rw [hU]
            clear hU c0 c1 c2 e0 e1 e46 g0 g1 g34 f6 f3 xx0 xx1 xx2
            have HUC := Lib.hid hRu
            have HU3 := Lib.hid hR3u
            have HUH := Lib.hid hHu
            have HUE := Lib.hid hEu
            have HUB := Lib.hid hBu
            have HUS := Lib.hid hSu
            have HUD := Lib.hid (HDw.out.later hBu)
            have HUHl : Hid (w.heap.size + 1 + 1 < U.heap.size) := Lib.hid (by omega)
            have HUEl : Hid (w.heap.size + 1 < U.heap.size) := Lib.hid (by omega)
            clear hRu hR3u hHu hEu hBu hSu
            clear l0 l1 l34
            have HCz := HUC
            have HRz := HU3
            have z0 := HCz.out.c0
            have z1 := HCz.out.c1
            have z2 := HCz.out.c2
            have y0 := HRz.out.c0
            have y1 := HRz.out.c1
            have y2 := HRz.out.c2
            have fz := fun o => World.rowIs.frozen HRz.out o
            go_wp2_with fail
            try simp only [Exit.inBlock, Exit.then]
            exact bodyPost_ret (results_mid2 rfl _ _ (w.heap.size + 1 + 1 + 1) [.slice (some ⟨g, o, none⟩) hs.length cd, .slice Af hs.length cf, .slice Ae es.length ce] _ rfl (rat_set3 HRz.out _ _ _).range Tryd.underlying36 rfl r3_info) rfl ⟨_, by rw [T1.out]; rfl, by rw [T2.out, T3.out, T4.out]; exact dend_still HDw.out (((HUB.out.setCell (p := ⟨w.heap.size + 1 + 1 + 1, 0, none⟩) (by show w.heap.size ≤ w.heap.size + 3; omega) _).setCell (p := ⟨w.heap.size + 1 + 1 + 1, 1, none⟩) (by show w.heap.size ≤ w.heap.size + 3; omega) _).setCell (p := ⟨w.heap.size + 1 + 1 + 1, 2, none⟩) (by show w.heap.size ≤ w.heap.size + 3; omega) _)⟩
          rw [if_neg (fun hq => by rcases hq with hq | hq | hq; exact m1 hq; exact m2 hq; exact m3 hq)] at hp
          clear q1 q2 q3
          go_upto_region 6 with fail
          refine region_still (by kernel_rfl) (by kernel_rfl) ?_
          refine still_yes (.int .i64 (hs.length : Int)) (by kernel_rfl) (by rfl) ?_
          try simp only [Act.put, List.setIfInBounds_toArray, List.set_cons_zero, List.set_cons_succ]
          refine still_yes (.bool true) (by kernel_rfl) (by go_simp) ?_
          try simp only [Act.put, List.setIfInBounds_toArray, List.set_cons_zero, List.set_cons_succ]
          refine still_yes (.bool true) (by kernel_rfl) (by rfl) ?_
          try simp only [Act.put, List.setIfInBounds_toArray, List.set_cons_zero, List.set_cons_succ]
          refine still_yes (.pointer (some ⟨w.heap.size + 1 + 1, 0, none⟩)) (by kernel_rfl) (by rfl) ?_
          try simp only [Act.put, List.setIfInBounds_toArray, List.set_cons_zero, List.set_cons_succ]
          refine still_yes (.int .u32 a0) (by kernel_rfl) (by go_simp) ?_
          try simp only [Act.put, List.setIfInBounds_toArray, List.set_cons_zero, List.set_cons_succ]
          refine still_yes (.pointer (some ⟨w.heap.size, 0, none⟩)) (by kernel_rfl) (by rfl) ?_
          try simp only [Act.put, List.setIfInBounds_toArray, List.set_cons_zero, List.set_cons_succ]
          refine still_yes (.slice (some ⟨g, o, none⟩) hs.length cd) (by kernel_rfl) (by go_simp) ?_
          try simp only [Act.put, List.setIfInBounds_toArray, List.set_cons_zero, List.set_cons_succ]
          refine still_yes (.int .i64 (hs.length : Int)) (by kernel_rfl) (by rfl) ?_
          try simp only [Act.put, List.setIfInBounds_toArray, List.set_cons_zero, List.set_cons_succ]
          refine still_yes (.int .i64 (k : Int)) (by kernel_rfl) (by go_simp) ?_
          try simp only [Act.put, List.setIfInBounds_toArray, List.set_cons_zero, List.set_cons_succ]
          refine still_yes (.pointer (some ⟨g, o + k * 35, none⟩)) (by kernel_rfl) (by go_simp) ?_
          try simp only [Act.put, List.setIfInBounds_toArray, List.set_cons_zero, List.set_cons_succ]
          refine still_yes (.pointer (some ⟨g, o + k * 35, none⟩)) (by kernel_rfl) (by go_simp) ?_
          try simp only [Act.put, List.setIfInBounds_toArray, List.set_cons_zero, List.set_cons_succ]
          refine still_yes (.int .u32 x0) (by kernel_rfl) (by go_simp) ?_
          try simp only [Act.put, List.setIfInBounds_toArray, List.set_cons_zero, List.set_cons_succ]
          refine still_yes (.bool false) (by kernel_rfl) (by go_simp) ?_
          try simp only [Act.put, List.setIfInBounds_toArray, List.set_cons_zero, List.set_cons_succ]
          refine still_yes (.bool false) (by kernel_rfl) (by rfl) ?_
          try simp only [Act.put, List.setIfInBounds_toArray, List.set_cons_zero, List.set_cons_succ]
          refine still_yes (.pointer (some ⟨w.heap.size + 1 + 1, 1, none⟩)) (by kernel_rfl) (by rfl) ?_
          try simp only [Act.put, List.setIfInBounds_toArray, List.set_cons_zero, List.set_cons_succ]
          refine still_yes (.int .u64 a1) (by kernel_rfl) (by go_simp) ?_
          try simp only [Act.put, List.setIfInBounds_toArray, List.set_cons_zero, List.set_cons_succ]
          refine still_yes (.pointer (some ⟨w.heap.size, 0, none⟩)) (by kernel_rfl) (by rfl) ?_
          try simp only [Act.put, List.setIfInBounds_toArray, List.set_cons_zero, List.set_cons_succ]
          refine still_yes (.slice (some ⟨g, o, none⟩) hs.length cd) (by kernel_rfl) (by go_simp) ?_
          try simp only [Act.put, List.setIfInBounds_toArray, List.set_cons_zero, List.set_cons_succ]
          refine still_yes (.int .i64 (hs.length : Int)) (by kernel_rfl) (by rfl) ?_
          try simp only [Act.put, List.setIfInBounds_toArray, List.set_cons_zero, List.set_cons_succ]
          refine still_yes (.int .i64 (k : Int)) (by kernel_rfl) (by go_simp) ?_
          try simp only [Act.put, List.setIfInBounds_toArray, List.set_cons_zero, List.set_cons_succ]
          refine still_yes (.pointer (some ⟨g, o + k * 35, none⟩)) (by kernel_rfl) (by go_simp) ?_
          try simp only [Act.put, List.setIfInBounds_toArray, List.set_cons_zero, List.set_cons_succ]
          refine still_yes (.pointer (some ⟨g, o + k * 35 + 1, none⟩)) (by kernel_rfl) (by go_simp) ?_
          try simp only [Act.put, List.setIfInBounds_toArray, List.set_cons_zero, List.set_cons_succ]
          refine still_yes (.int .u64 x1) (by kernel_rfl) (by go_simp) ?_
          try simp only [Act.put, List.setIfInBounds_toArray, List.set_cons_zero, List.set_cons_succ]
          refine still_yes (.bool false) (by kernel_rfl) (by go_simp) ?_
          try simp only [Act.put, List.setIfInBounds_toArray, List.set_cons_zero, List.set_cons_succ]
          refine still_yes (.bool false) (by kernel_rfl) (by rfl) ?_
          try simp only [Act.put, List.setIfInBounds_toArray, List.set_cons_zero, List.set_cons_succ]
          refine still_yes (.bool false) (by kernel_rfl) (by rfl) ?_
          try simp only [Act.put, List.setIfInBounds_toArray, List.set_cons_zero, List.set_cons_succ]
          refine still_yes (.pointer (some ⟨w.heap.size + 1 + 1, 34, none⟩)) (by kernel_rfl) (by rfl) ?_
          try simp only [Act.put, List.setIfInBounds_toArray, List.set_cons_zero, List.set_cons_succ]
          refine still_yes (.int .u64 a34) (by kernel_rfl) (by go_simp) ?_
          try simp only [Act.put, List.setIfInBounds_toArray, List.set_cons_zero, List.set_cons_succ]
          refine still_yes (.pointer (some ⟨w.heap.size, 0, none⟩)) (by kernel_rfl) (by rfl) ?_
          try simp only [Act.put, List.setIfInBounds_toArray, List.set_cons_zero, List.set_cons_succ]
          refine still_yes (.slice (some ⟨g, o, none⟩) hs.length cd) (by kernel_rfl) (by go_simp) ?_
          try simp only [Act.put, List.setIfInBounds_toArray, List.set_cons_zero, List.set_cons_succ]
          refine still_yes (.int .i64 (hs.length : Int)) (by kernel_rfl) (by rfl) ?_
          try simp only [Act.put, List.setIfInBounds_toArray, List.set_cons_zero, List.set_cons_succ]
          refine still_yes (.int .i64 (k : Int)) (by kernel_rfl) (by go_simp) ?_
          try simp only [Act.put, List.setIfInBounds_toArray, List.set_cons_zero, List.set_cons_succ]
          refine still_yes (.pointer (some ⟨g, o + k * 35, none⟩)) (by kernel_rfl) (by go_simp) ?_
          try simp only [Act.put, List.setIfInBounds_toArray, List.set_cons_zero, List.set_cons_succ]
          refine still_yes (.pointer (some ⟨g, o + k * 35 + 34, none⟩)) (by kernel_rfl) (by go_simp) ?_
          try simp only [Act.put, List.setIfInBounds_toArray, List.set_cons_zero, List.set_cons_succ]
          refine still_yes (.int .u64 x34) (by kernel_rfl) (by go_simp) ?_
          try simp only [Act.put, List.setIfInBounds_toArray, List.set_cons_zero, List.set_cons_succ]
          refine still_yes (.bool false) (by kernel_rfl) (by go_simp) ?_
          try simp only [Act.put, List.setIfInBounds_toArray, List.set_cons_zero, List.set_cons_succ]
          refine still_yes (.bool false) (by kernel_rfl) (by rfl) ?_
          try simp only [Act.put, List.setIfInBounds_toArray, List.set_cons_zero, List.set_cons_succ]
          refine still_yes (.bool false) (by kernel_rfl) (by rfl) ?_
          try simp only [Act.put, List.setIfInBounds_toArray, List.set_cons_zero, List.set_cons_succ]
          refine wpStill_nil ?_
          clear l0 l1 l34
          have T2 : Hid (tkH hs n ev h = hs ++ [h]) := Lib.hid (by rw [T5.out, if_pos hp])
          have T1 : Hid (tkE hs n ev h = 0) := Lib.hid (by rw [T0.out, hp])
          clear hp
          go_upto_region 8 with fail
          have hRu : RAt W.drew w.heap.size (.slice (some ⟨g, o, none⟩) hs.length cd) (.slice Af hs.length cf) (.slice Ae es.length ce) := HRa.out.of rfl
          have hR3u : RAt W.drew (w.heap.size + 1 + 1 + 1) (.slice none 0 0) (.slice none 0 0) (.slice none 0 0) := HR3.out.of rfl
          have hHu : W.drew.rangeAt (w.heap.size + 1 + 1) 0 h := range_of_block HH.out rfl
          have hEu : W.drew.rangeAt (w.heap.size + 1) 0 ev := range_of_block HE.out rfl
          have hBu : Below w.heap.size w W.drew := HB.out.drew
          have hSu : w.heap.size + 1 + 1 + 1 < W.drew.heap.size := by have := HSz.out; show _ < W.heap.size; omega
          obtain ⟨U, hU⟩ : ∃ U, W.drew = U := ⟨_, rfl⟩
          rw [hU] at hRu hR3u hHu hEu hBu hSu
          rw [hU]
          clear hU c0 c1 c2 e0 e1 e46 g0 g1 g34 f6 f3 xx0 xx1 xx2
          have HUC := Lib.hid hRu
          have HU3 := Lib.hid hR3u
          have HUH := Lib.hid hHu
          have HUE := Lib.hid hEu
          have HUB := Lib.hid hBu
          have HUS := Lib.hid hSu
          have HUD := Lib.hid (HDw.out.later hBu)
          have HUHl : Hid (w.heap.size + 1 + 1 < U.heap.size) := Lib.hid (by omega)
          have HUEl : Hid (w.heap.size + 1 < U.heap.size) := Lib.hid (by omega)
          clear hRu hR3u hHu hEu hBu hSu
          have HUR : Hid (Recs hdK U (.slice (some ⟨g, o, none⟩) hs.length cd) hs ∧ NilOr (.slice (some ⟨g, o, none⟩) hs.length cd)) := Lib.hid ⟨HUD.out.hd.recs, ownH_nil_or HUD.out.hd⟩
          have hU0 : Below U.heap.size U U.drew := (Below.refl _ _).drew
          have uq0 : w.heap.size < U.heap.size := HUC.out.lt
          have urb : w.heap.size + 1 + 1 < U.heap.size := HUHl.out
          have xc := HUC.out.c0
          refine region_G 8 (fun w' => Below U.heap.size U w') (by kernel_rfl) hU0 (fun h0 => ?_)
          refine wpAnyG_take 1 _ (.pointer (some ⟨w.heap.size, 0, none⟩)) rfl (by kernel_rfl) (by kernel_rfl) (by kernel_rfl) (by kernel_rfl) (fun _ _ _ h => h) h0 (.inl ⟨by rfl, fun ww hS => by rfl⟩) ?_
          try simp only [List.getElem_toArray, List.getElem_cons_zero, List.getElem_cons_succ, Act.put, List.setIfInBounds_toArray, List.set_cons_zero, List.set_cons_succ]
          refine wpAnyG_take 2 _ (.slice (some ⟨g, o, none⟩) hs.length cd) rfl (by kernel_rfl) (by kernel_rfl) (by kernel_rfl) (by kernel_rfl) (fun _ _ _ h => h) h0 (.inl ⟨by rfl, fun ww hS => by have hc := (hS.cell (p := ⟨w.heap.size, 0, none⟩) uq0).trans xc; go_simp⟩) ?_
          try simp only [List.getElem_toArray, List.getElem_cons_zero, List.getElem_cons_succ, Act.put, List.setIfInBounds_toArray, List.set_cons_zero, List.set_cons_succ]
          refine wpAnyG_take 4 _ (.agg h.toArray) rfl (by kernel_rfl) (by kernel_rfl) (by kernel_rfl) (by kernel_rfl) (fun _ _ _ h => h) h0 (yieldsIf_load_mid (by rfl) 49 _ rfl (w.heap.size + 1 + 1) (0) rfl h _ (fun ww hS => range_below HUH.out hS urb) Tryd.underlying49 rfl (rh_info HTh.out)) ?_
          try simp only [List.getElem_toArray, List.getElem_cons_zero, List.getElem_cons_succ, Act.put, List.setIfInBounds_toArray, List.set_cons_zero, List.set_cons_succ]
          refine wpAnyG_ready [0, 5] (by kernel_rfl) (by simp) ?_
          refine AllReadyG.cons 0 _ rfl (fun K' hK => ?_) (AllReadyG.cons 5 _ rfl (fun K' hK => ?_) AllReadyG.nil)
          · go_simp
            refine hK.out _ _ (fun _ => h0.alloc h0.size _) ?_
            clear hK K'
            try simp only [List.getElem_toArray, List.getElem_cons_zero, List.getElem_cons_succ, Act.put, List.setIfInBounds_toArray, List.set_cons_zero, List.set_cons_succ]
            have h1 : Below U.heap.size U ((U.alloc (.cells #[] 49)).drew) := h0.alloc h0.size _
            have HO1 : Hid (OwnR 49 hdK ((U.alloc (.cells #[] 49)).drew) U.heap.size (.slice (some ⟨U.heap.size, 0, none⟩) 0 0) []) := Lib.hid (ownR_base (own_empty 49 hdK U.drew) h0.size)
            obtain ⟨U1, hEU1⟩ : ∃ u, (U.alloc (.cells #[] 49)).drew = u := ⟨_, rfl⟩
            rw [hEU1] at h1 HO1
            rw [hEU1]
            clear hEU1
            refine wpAnyG_ready [3, 5] (by kernel_rfl) (by simp) ?_
            refine AllReadyG.cons 3 _ rfl (fun K' hK => ?_) (AllReadyG.cons 5 _ rfl (fun K' hK => ?_) AllReadyG.nil)
            · have rr := HUR.out.1.below hdK_pos h1
              refine step_app_new rfl (.tmp 71) (.tmp 73) 32 49 hdK hdZ 56 Tryd.underlying32 rhZ_info hdZ_size hdK_pos (by decide) rfl U.heap.size _ (hs) rfl HO1.out _ rfl rr HUR.out.2 (by have := HL.out; have := HLe.out; omega) h1.size ?_
              intro A3 c3 U3 o1 o2 o4
              have h3 : Below U.heap.size U U3 := h1.trans o4
              refine hK.out _ _ (fun _ => h3) ?_
              clear hK K'
              try simp only [List.getElem_toArray, List.getElem_cons_zero, List.getElem_cons_succ, Act.put, List.setIfInBounds_toArray, List.set_cons_zero, List.set_cons_succ]
              have HO3 := Lib.hid o1
              have HG3 := Lib.hid o2
              clear o1 o2 o4 rr
              refine wpAnyG_ready [5] (by kernel_rfl) (by simp) ?_
              refine AllReadyG.cons 5 _ rfl (fun K' hK => ?_) AllReadyG.nil
              refine step_build1 rfl 32 49 (.tmp 75) rfl h rfl hdK HTh.out hdZ 56 Tryd.underlying32 rhZ_info hdK_pos (by decide) ?_
              refine hK.out _ _ (fun _ => h3.alloc h3.size _) ?_
              clear hK K'
              try simp only [List.getElem_toArray, List.getElem_cons_zero, List.getElem_cons_succ, Act.put, List.setIfInBounds_toArray, List.set_cons_zero, List.set_cons_succ]
              have h4 : Below U.heap.size U (U3.alloc (.cells h.toArray 49)) := h3.alloc h3.size _
              have HR4 : Hid (Recs hdK (U3.alloc (.cells h.toArray 49)) (.slice (some ⟨U3.heap.size, 0, none⟩) 1 1) [h]) := Lib.hid (recs_one U3 49 HTh.out)
              have HO4 := Lib.hid (HO3.out.alloc (.cells h.toArray 49))
              obtain ⟨U4, hEU4⟩ : ∃ u, U3.alloc (.cells h.toArray 49) = u := ⟨_, rfl⟩
              rw [hEU4] at h4 HR4 HO4
              rw [hEU4]
              clear hEU4
              refine wpAnyG_ready [6] (by kernel_rfl) (by simp) ?_
              refine AllReadyG.cons 6 _ rfl (fun K' hK => ?_) AllReadyG.nil
              refine step_app_one rfl (.tmp 74) (.tmp 76) 32 49 hdK hdZ 56 Tryd.underlying32 rhZ_info hdZ_size hdK_pos (by decide) rfl U.heap.size _ (hs) h rfl HO4.out _ rfl HR4.out (.inr ⟨_, _, _, rfl⟩) (by have := HL.out; have := HLe.out; omega) h4.size ?_
              intro A6 c6 U6 o1 o4
              have h6 : Below U.heap.size U U6 := h4.trans o4
              refine hK.out _ _ (fun _ => h6) ?_
              clear hK K'
              try simp only [List.getElem_toArray, List.getElem_cons_zero, List.getElem_cons_succ, Act.put, List.setIfInBounds_toArray, List.set_cons_zero, List.set_cons_succ]
              have HO6 := Lib.hid o1
              clear o1 o4
              refine wpAnyG_take 7 _ (.pointer (some ⟨w.heap.size, 0, none⟩)) rfl (by kernel_rfl) (by kernel_rfl) (by kernel_rfl) (by kernel_rfl) (fun _ _ _ h => h) h6 (.inl ⟨by rfl, fun ww hS => by rfl⟩) ?_
              try simp only [List.getElem_toArray, List.getElem_cons_zero, List.getElem_cons_succ, Act.put, List.setIfInBounds_toArray, List.set_cons_zero, List.set_cons_succ]
              have hC6 := HUC.out.of (h6.block _ uq0)
              have hc6 := hC6.c0
              have hf6 := World.rowIs.frozen hC6 0
              have HC6 := Lib.hid hC6
              clear hC6
              refine wpAnyG_ready [8] (by kernel_rfl) (by simp) ?_
              refine AllReadyG.cons 8 _ rfl (fun K' hK => ?_) AllReadyG.nil
              go_simp
              refine hK.out _ _ (fun h => absurd rfl h) ?_
              clear hK K'
              refine wpAnyG_done (by kernel_rfl) ?_ _
              have HB6 := Lib.hid h6
              go_upto_region 9 with fail
              have hq0U : w.heap.size < U.heap.size := HUC.out.lt
              have hC7 := HC6.out.s0 (.slice A6 (hs.length + 1) c6)
              have hO7 := HO6.out.only (Only.set (N := fun k => k = w.heap.size) U6 w.heap.size 0 (.slice A6 (hs.length + 1) c6) rfl) (fun k hk e => by have := (OwnR.lt HO6.out k hk).1; omega)
              have hB7 : Below w.heap.size w (U6.setCell ⟨w.heap.size, 0, none⟩ (.slice A6 (hs.length + 1) c6)) := (HUB.out.trans (HB6.out.mono (Nat.le_of_lt hq0U))).setCell (p := ⟨w.heap.size, 0, none⟩) (Nat.le_refl _) _
              have hR7 := HU3.out.of (((set_only U6 w.heap.size 0 (.slice A6 (hs.length + 1) c6)).2 _ (by omega)).trans (HB6.out.block _ HUS.out))
              have hS7 : U.heap.size ≤ (U6.setCell ⟨w.heap.size, 0, none⟩ (.slice A6 (hs.length + 1) c6)).heap.size := by have := HB6.out.size; have := (set_only U6 w.heap.size 0 (.slice A6 (hs.length + 1) c6)).1.size; omega
              obtain ⟨U7, hU7⟩ : ∃ U7, U6.setCell ⟨w.heap.size, 0, none⟩ (.slice A6 (hs.length + 1) c6) = U7 := ⟨_, rfl⟩
              rw [hU7] at hC7 hO7 hB7 hR7 hS7
              rw [hU7]
              clear hU7
              have HC7 := Lib.hid hC7
              have HO7 := Lib.hid hO7
              have HB7 := Lib.hid hB7
              have HR7 := Lib.hid hR7
              have HS7 := Lib.hid hS7
              have v1 := hC7.c1
              clear hC7 hO7 hB7 hR7 hS7 hq0U hc6 hf6 h6
              have HE9 := Lib.hid (own_empty 4 blK U7)
              have HD7 := Lib.hid (HDw.out.later HB7.out)
              have HF9 : Hid (Recs blK (U7.alloc (.cells #[] 4)) (.slice Af hs.length cf) (finL hs.length n) ∧ NilOr (.slice Af hs.length cf)) := Lib.hid ⟨HD7.out.fin.recs.below (by decide) ((Below.refl _ _).alloc (Nat.le_refl _) _), ownH_nil_or HD7.out.fin⟩
              have b7 : Below U7.heap.size U7 (U7.alloc (.cells #[] 4)) := (Below.refl _ _).alloc (Nat.le_refl _) _
              have v1' := (b7.cell (p := ⟨w.heap.size, 1, none⟩) (Nat.lt_of_lt_of_le HUC.out.lt HS7.out)).trans v1
              go_upto_region 35 with (first
                | (at_builtin
                   refine wpList_app_any rfl _ _ 33 4 blK (.bool false) 1 rfl Tryd.underlying33 blZ_info (by decide) (by decide) (by decide) U7.heap.size _ [] (finL hs.length n) rfl HE9.out _ rfl HF9.out.1 HF9.out.2 (by simp) (by have := HL.out; rw [finL_len]; omega) b7.size ?_
                   intro v9 w9 o9 b9
                   have HO9 := Lib.hid (OwnR.alloc o9 (.cells #[.bool false] 4))
                   have HR9 := Lib.hid (recs_one (K := blK) w9 4 (x := [.bool false]) ⟨_, _, rfl, ⟨_, rfl⟩, rfl⟩)
                   have B9 : Below U7.heap.size U7 (w9.alloc (.cells #[.bool false] 4)) := (b7.trans b9).alloc (b7.trans b9).size _
                   clear o9 b9)
                | (at_builtin
                   refine wpList_app_any rfl _ _ 33 4 blK (.bool false) 1 rfl Tryd.underlying33 blZ_info (by decide) (by decide) (by decide) U7.heap.size v9 ([] ++ finL hs.length n) [[.bool false]] rfl HO9.out _ rfl HR9.out (.inr ⟨_, _, _, rfl⟩) (by have := HL.out; rw [List.nil_append, finL_len]; omega) (by simp) B9.size ?_
                   intro v10 w10 o10 b10
                   rw [List.nil_append, finL_snoc _ _ HDw.out.le] at o10
                   obtain ⟨A10, c10, rfl, -⟩ := id o10.recs
                   rw [finL_len] at o10
                   have B10 : Below U7.heap.size U7 w10 := B9.trans b10
                   have hC10 := HC7.out.of (B10.block _ (Nat.lt_of_lt_of_le HUC.out.lt HS7.out))
                   have t1 := hC10.c1
                   have ft := World.rowIs.frozen hC10 1
                   have HC10 := Lib.hid hC10
                   have HO10 := Lib.hid o10
                   clear b10 hC10 o10))
              simp only [finL_len]
              have hCz := HC10.out.s1 (.slice A10 (hs.length + 1) c10)
              have ho := Only.set (N := fun k => k = w.heap.size) w10 w.heap.size 1 (.slice A10 (hs.length + 1) c10) rfl
              have hRz := HR7.out.of ((ho.block _ (Nat.lt_of_lt_of_le HUS.out (Nat.le_trans HS7.out B10.size)) (by omega)).trans (B10.block _ (Nat.lt_of_lt_of_le HUS.out HS7.out)))
              have hO1z := (HO7.out.later B10).only ho (fun k hk e => by have := (OwnR.lt HO7.out k hk).1; have := HUC.out.lt; omega)
              have hO2z := HO10.out.only ho (fun k hk e => by have := (OwnR.lt HO10.out k hk).1; have := HUC.out.lt; have := HS7.out; omega)
              have hBz : Below w.heap.size w (w10.setCell ⟨w.heap.size, 1, none⟩ (.slice A10 (hs.length + 1) c10)) := (HB7.out.trans (B10.mono (Nat.le_trans (Nat.le_of_lt HUC.out.lt) HS7.out))).setCell (p := ⟨w.heap.size, 1, none⟩) (Nat.le_refl _) _
              obtain ⟨Z, hZ⟩ : ∃ Z, w10.setCell ⟨w.heap.size, 1, none⟩ (.slice A10 (hs.length + 1) c10) = Z := ⟨_, rfl⟩
              rw [hZ] at hCz hRz hO1z hO2z hBz
              rw [hZ]
              clear hZ ho t1 ft v1 v1'
              have hDz : DSt Z base (.slice A6 (hs.length + 1) c6) (.slice A10 (hs.length + 1) c10) (.slice Ae es.length ce) (hs ++ [h]) n es := ⟨ownR_base hO1z (Nat.le_trans HDw.out.bw (by have := HUC.out.lt; omega)), by rw [List.length_append]; exact ownR_base hO2z (Nat.le_trans HDw.out.bw (by have := HUC.out.lt; have := HS7.out; omega)), (HDw.out.later hBz).ev, Nat.le_trans HDw.out.bw hBz.size, by rw [List.length_append]; have := HDw.out.le; omega⟩
              have HEnd : Hid (∀ a b c, DEnd w (((Z.setCell ⟨w.heap.size + 1 + 1 + 1, 0, none⟩ a).setCell ⟨w.heap.size + 1 + 1 + 1, 1, none⟩ b).setCell ⟨w.heap.size + 1 + 1 + 1, 2, none⟩ c) base (.slice (some ⟨g, o, none⟩) hs.length cd) (.slice Af hs.length cf) (.slice Ae es.length ce) (.agg #[.slice A6 (hs.length + 1) c6, .slice A10 (hs.length + 1) c10, .slice Ae es.length ce]) (hs ++ [h]) n es) := Lib.hid (fun a b c => dend_new hDz (.inr fun k hk => by have := (OwnR.lt hO1z k hk).1; have := HUC.out.lt; omega) (.inr fun k hk => by have := (OwnR.lt hO2z k hk).1; have := HUC.out.lt; have := HS7.out; omega) (.inl rfl) hBz (by omega) (fun k hk e => by have := (OwnR.lt hO1z k hk).1; have := HUS.out; omega) (fun k hk e => by have := (OwnR.lt hO2z k hk).1; have := HUS.out; have := HS7.out; omega) (fun k hk e => by have := (OwnR.lt HDw.out.ev k hk).2; omega))
              have HCz := Lib.hid hCz
              have HRz := Lib.hid hRz
              clear hCz hRz hO1z hO2z hBz hDz
              have z0 := HCz.out.c0
              have z1 := HCz.out.c1
              have z2 := HCz.out.c2
              have y0 := HRz.out.c0
              have y1 := HRz.out.c1
              have y2 := HRz.out.c2
              have fz := fun o => World.rowIs.frozen HRz.out o
              go_wp2_with fail
              try simp only [Exit.inBlock, Exit.then]
              exact bodyPost_ret (results_mid2 rfl _ _ (w.heap.size + 1 + 1 + 1) [.slice A6 (hs.length + 1) c6, .slice A10 (hs.length + 1) c10, .slice Ae es.length ce] _ rfl (rat_set3 HRz.out _ _ _).range Tryd.underlying36 rfl r3_info) rfl ⟨_, by rw [T1.out]; rfl, by rw [T2.out, T3.out, T4.out]; exact HEnd.out _ _ _⟩
            · refine step_build1 rfl 32 49 (.tmp 75) rfl h rfl hdK HTh.out hdZ 56 Tryd.underlying32 rhZ_info hdK_pos (by decide) ?_
              refine hK.out _ _ (fun _ => h1.alloc h1.size _) ?_
              clear hK K'
              try simp only [List.getElem_toArray, List.getElem_cons_zero, List.getElem_cons_succ, Act.put, List.setIfInBounds_toArray, List.set_cons_zero, List.set_cons_succ]
              have h2 : Below U.heap.size U (U1.alloc (.cells h.toArray 49)) := h1.alloc h1.size _
              have HR2x : Hid (Recs hdK (U1.alloc (.cells h.toArray 49)) (.slice (some ⟨U1.heap.size, 0, none⟩) 1 1) [h]) := Lib.hid (recs_one U1 49 HTh.out)
              have HO2 := Lib.hid (HO1.out.alloc (.cells h.toArray 49))
              have hz2 : U1.heap.size < (U1.alloc (.cells h.toArray 49)).heap.size := by simp
              obtain ⟨U2, hEU2⟩ : ∃ u, U1.alloc (.cells h.toArray 49) = u := ⟨_, rfl⟩
              rw [hEU2] at h2 HR2x HO2 hz2
              rw [hEU2]
              clear hEU2
              have hzz : U.heap.size < U1.heap.size := (OwnR.lt HO1.out _ rfl).2
              refine wpAnyG_ready [3] (by kernel_rfl) (by simp) ?_
              refine AllReadyG.cons 3 _ rfl (fun K' hK => ?_) AllReadyG.nil
              have rr := HUR.out.1.below hdK_pos h2
              refine step_app_new rfl (.tmp 71) (.tmp 73) 32 49 hdK hdZ 56 Tryd.underlying32 rhZ_info hdZ_size hdK_pos (by decide) rfl U.heap.size _ (hs) rfl HO2.out _ rfl rr HUR.out.2 (by have := HL.out; have := HLe.out; omega) h2.size ?_
              intro A3 c3 U3 o1 o2 o4
              have h3 : Below U.heap.size U U3 := h2.trans o4
              refine hK.out _ _ (fun _ => h3) ?_
              clear hK K'
              try simp only [List.getElem_toArray, List.getElem_cons_zero, List.getElem_cons_succ, Act.put, List.setIfInBounds_toArray, List.set_cons_zero, List.set_cons_succ]
              have HO3 := Lib.hid o1
              have HG3 := Lib.hid o2
              clear o1 o2 o4 rr
              have HR4 := Lib.hid (HR2x.out.same (HG3.out.block _ hz2 (by intro e; have e1 := Option.some.inj e; dsimp only at e1; have e2 : U.drew.heap.size = U.heap.size := rfl; omega)))
              have HO4 := HO3
              refine wpAnyG_ready [6] (by kernel_rfl) (by simp) ?_
              refine AllReadyG.cons 6 _ rfl (fun K' hK => ?_) AllReadyG.nil
              refine step_app_one rfl (.tmp 74) (.tmp 76) 32 49 hdK hdZ 56 Tryd.underlying32 rhZ_info hdZ_size hdK_pos (by decide) rfl U.heap.size _ (hs) h rfl HO4.out _ rfl HR4.out (.inr ⟨_, _, _, rfl⟩) (by have := HL.out; have := HLe.out; omega) h3.size ?_
              intro A6 c6 U6 o1 o4
              have h6 : Below U.heap.size U U6 := h3.trans o4
              refine hK.out _ _ (fun _ => h6) ?_
              clear hK K'
              try simp only [List.getElem_toArray, List.getElem_cons_zero, List.getElem_cons_succ, Act.put, List.setIfInBounds_toArray, List.set_cons_zero, List.set_cons_succ]
              have HO6 := Lib.hid o1
              clear o1 o4
              refine wpAnyG_take 7 _ (.pointer (some ⟨w.heap.size, 0, none⟩)) rfl (by kernel_rfl) (by kernel_rfl) (by kernel_rfl) (by kernel_rfl) (fun _ _ _ h => h) h6 (.inl ⟨by rfl, fun ww hS => by rfl⟩) ?_
              try simp only [List.getElem_toArray, List.getElem_cons_zero, List.getElem_cons_succ, Act.put, List.setIfInBounds_toArray, List.set_cons_zero, List.set_cons_succ]
              have hC6 := HUC.out.of (h6.block _ uq0)
              have hc6 := hC6.c0
              have hf6 := World.rowIs.frozen hC6 0
              have HC6 := Lib.hid hC6
              clear hC6
              refine wpAnyG_ready [8] (by kernel_rfl) (by simp) ?_
              refine AllReadyG.cons 8 _ rfl (fun K' hK => ?_) AllReadyG.nil
              go_simp
              refine hK.out _ _ (fun h => absurd rfl h) ?_
              clear hK K'
              refine wpAnyG_done (by kernel_rfl) ?_ _
              have HB6 := Lib.hid h6
              go_upto_region 9 with fail
              have hq0U : w.heap.size < U.heap.size := HUC.out.lt
              have hC7 := HC6.out.s0 (.slice A6 (hs.length + 1) c6)
              have hO7 := HO6.out.only (Only.set (N := fun k => k = w.heap.size) U6 w.heap.size 0 (.slice A6 (hs.length + 1) c6) rfl) (fun k hk e => by have := (OwnR.lt HO6.out k hk).1; omega)
              have hB7 : Below w.heap.size w (U6.setCell ⟨w.heap.size, 0, none⟩ (.slice A6 (hs.length + 1) c6)) := (HUB.out.trans (HB6.out.mono (Nat.le_of_lt hq0U))).setCell (p := ⟨w.heap.size, 0, none⟩) (Nat.le_refl _) _
              have hR7 := HU3.out.of (((set_only U6 w.heap.size 0 (.slice A6 (hs.length + 1) c6)).2 _ (by omega)).trans (HB6.out.block _ HUS.out))
              have hS7 : U.heap.size ≤ (U6.setCell ⟨w.heap.size, 0, none⟩ (.slice A6 (hs.length + 1) c6)).heap.size := by have := HB6.out.size; have := (set_only U6 w.heap.size 0 (.slice A6 (hs.length + 1) c6)).1.size; omega
              obtain ⟨U7, hU7⟩ : ∃ U7, U6.setCell ⟨w.heap.size, 0, none⟩ (.slice A6 (hs.length + 1) c6) = U7 := ⟨_, rfl⟩
              rw [hU7] at hC7 hO7 hB7 hR7 hS7
              rw [hU7]
              clear hU7
              have HC7 := Lib.hid hC7
              have HO7 := Lib.hid hO7
              have HB7 := Lib.hid hB7
              have HR7 := Lib.hid hR7
              have HS7 := Lib.hid hS7
              have v1 := hC7.c1
              clear hC7 hO7 hB7 hR7 hS7 hq0U hc6 hf6 h6
              have HE9 := Lib.hid (own_empty 4 blK U7)
              have HD7 := Lib.hid (HDw.out.later HB7.out)
              have HF9 : Hid (Recs blK (U7.alloc (.cells #[] 4)) (.slice Af hs.length cf) (finL hs.length n) ∧ NilOr (.slice Af hs.length cf)) := Lib.hid ⟨HD7.out.fin.recs.below (by decide) ((Below.refl _ _).alloc (Nat.le_refl _) _), ownH_nil_or HD7.out.fin⟩
              have b7 : Below U7.heap.size U7 (U7.alloc (.cells #[] 4)) := (Below.refl _ _).alloc (Nat.le_refl _) _
              have v1' := (b7.cell (p := ⟨w.heap.size, 1, none⟩) (Nat.lt_of_lt_of_le HUC.out.lt HS7.out)).trans v1
              go_upto_region 35 with (first
                | (at_builtin
                   refine wpList_app_any rfl _ _ 33 4 blK (.bool false) 1 rfl Tryd.underlying33 blZ_info (by decide) (by decide) (by decide) U7.heap.size _ [] (finL hs.length n) rfl HE9.out _ rfl HF9.out.1 HF9.out.2 (by simp) (by have := HL.out; rw [finL_len]; omega) b7.size ?_
                   intro v9 w9 o9 b9
                   have HO9 := Lib.hid (OwnR.alloc o9 (.cells #[.bool false] 4))
                   have HR9 := Lib.hid (recs_one (K := blK) w9 4 (x := [.bool false]) ⟨_, _, rfl, ⟨_, rfl⟩, rfl⟩)
                   have B9 : Below U7.heap.size U7 (w9.alloc (.cells #[.bool false] 4)) := (b7.trans b9).alloc (b7.trans b9).size _
                   clear o9 b9)
                | (at_builtin
                   refine wpList_app_any rfl _ _ 33 4 blK (.bool false) 1 rfl Tryd.underlying33 blZ_info (by decide) (by decide) (by decide) U7.heap.size v9 ([] ++ finL hs.length n) [[.bool false]] rfl HO9.out _ rfl HR9.out (.inr ⟨_, _, _, rfl⟩) (by have := HL.out; rw [List.nil_append, finL_len]; omega) (by simp) B9.size ?_
                   intro v10 w10 o10 b10
                   rw [List.nil_append, finL_snoc _ _ HDw.out.le] at o10
                   obtain ⟨A10, c10, rfl, -⟩ := id o10.recs
                   rw [finL_len] at o10
                   have B10 : Below U7.heap.size U7 w10 := B9.trans b10
                   have hC10 := HC7.out.of (B10.block _ (Nat.lt_of_lt_of_le HUC.out.lt HS7.out))
                   have t1 := hC10.c1
                   have ft := World.rowIs.frozen hC10 1
                   have HC10 := Lib.hid hC10
                   have HO10 := Lib.hid o10
                   clear b10 hC10 o10))
              simp only [finL_len]
              have hCz := HC10.out.s1 (.slice A10 (hs.length + 1) c10)
              have ho := Only.set (N := fun k => k = w.heap.size) w10 w.heap.size 1 (.slice A10 (hs.length + 1) c10) rfl
              have hRz := HR7.out.of ((ho.block _ (Nat.lt_of_lt_of_le HUS.out (Nat.le_trans HS7.out B10.size)) (by omega)).trans (B10.block _ (Nat.lt_of_lt_of_le HUS.out HS7.out)))
              have hO1z := (HO7.out.later B10).only ho (fun k hk e => by have := (OwnR.lt HO7.out k hk).1; have := HUC.out.lt; omega)
              have hO2z := HO10.out.only ho (fun k hk e => by have := (OwnR.lt HO10.out k hk).1; have := HUC.out.lt; have := HS7.out; omega)
              have hBz : Below w.heap.size w (w10.setCell ⟨w.heap.size, 1, none⟩ (.slice A10 (hs.length + 1) c10)) := (HB7.out.trans (B10.mono (Nat.le_trans (Nat.le_of_lt HUC.out.lt) HS7.out))).setCell (p := ⟨w.heap.size, 1, none⟩) (Nat.le_refl _) _
              obtain ⟨Z, hZ⟩ : ∃ Z, w10.setCell ⟨w.heap.size, 1, none⟩ (.slice A10 (hs.length + 1) c10) = Z := ⟨_, rfl⟩
              rw [hZ] at hCz hRz hO1z hO2z hBz
              rw [hZ]
              clear hZ ho t1 ft v1 v1'
              have hDz : DSt Z base (.slice A6 (hs.length + 1) c6) (.slice A10 (hs.length + 1) c10) (.slice Ae es.length ce) (hs ++ [h]) n es := ⟨ownR_base hO1z (Nat.le_trans HDw.out.bw (by have := HUC.out.lt; omega)), by rw [List.length_append]; exact ownR_base hO2z (Nat.le_trans HDw.out.bw (by have := HUC.out.lt; have := HS7.out; omega)), (HDw.out.later hBz).ev, Nat.le_trans HDw.out.bw hBz.size, by rw [List.length_append]; have := HDw.out.le; omega⟩
              have HEnd : Hid (∀ a b c, DEnd w (((Z.setCell ⟨w.heap.size + 1 + 1 + 1, 0, none⟩ a).setCell ⟨w.heap.size + 1 + 1 + 1, 1, none⟩ b).setCell ⟨w.heap.size + 1 + 1 + 1, 2, none⟩ c) base (.slice (some ⟨g, o, none⟩) hs.length cd) (.slice Af hs.length cf) (.slice Ae es.length ce) (.agg #[.slice A6 (hs.length + 1) c6, .slice A10 (hs.length + 1) c10, .slice Ae es.length ce]) (hs ++ [h]) n es) := Lib.hid (fun a b c => dend_new hDz (.inr fun k hk => by have := (OwnR.lt hO1z k hk).1; have := HUC.out.lt; omega) (.inr fun k hk => by have := (OwnR.lt hO2z k hk).1; have := HUC.out.lt; have := HS7.out; omega) (.inl rfl) hBz (by omega) (fun k hk e => by have := (OwnR.lt hO1z k hk).1; have := HUS.out; omega) (fun k hk e => by have := (OwnR.lt hO2z k hk).1; have := HUS.out; have := HS7.out; omega) (fun k hk e => by have := (OwnR.lt HDw.out.ev k hk).2; omega))
              have HCz := Lib.hid hCz
              have HRz := Lib.hid hRz
              clear hCz hRz hO1z hO2z hBz hDz
              have z0 := HCz.out.c0
              have z1 := HCz.out.c1
              have z2 := HCz.out.c2
              have y0 := HRz.out.c0
              have y1 := HRz.out.c1
              have y2 := HRz.out.c2
              have fz := fun o => World.rowIs.frozen HRz.out o
              go_wp2_with fail
              try simp only [Exit.inBlock, Exit.then]
              exact bodyPost_ret (results_mid2 rfl _ _ (w.heap.size + 1 + 1 + 1) [.slice A6 (hs.length + 1) c6, .slice A10 (hs.length + 1) c10, .slice Ae es.length ce] _ rfl (rat_set3 HRz.out _ _ _).range Tryd.underlying36 rfl r3_info) rfl ⟨_, by rw [T1.out]; rfl, by rw [T2.out, T3.out, T4.out]; exact HEnd.out _ _ _⟩
          · refine step_build1 rfl 32 49 (.tmp 75) rfl h rfl hdK HTh.out hdZ 56 Tryd.underlying32 rhZ_info hdK_pos (by decide) ?_
            refine hK.out _ _ (fun _ => h0.alloc h0.size _) ?_
            clear hK K'
            try simp only [List.getElem_toArray, List.getElem_cons_zero, List.getElem_cons_succ, Act.put, List.setIfInBounds_toArray, List.set_cons_zero, List.set_cons_succ]
            have h1 : Below U.heap.size U (U.drew.alloc (.cells h.toArray 49)) := h0.alloc h0.size _
            have HR1x : Hid (Recs hdK (U.drew.alloc (.cells h.toArray 49)) (.slice (some ⟨U.heap.size, 0, none⟩) 1 1) [h]) := Lib.hid (recs_one U.drew 49 HTh.out)
            have hz1 : U.heap.size < (U.drew.alloc (.cells h.toArray 49)).heap.size := by show U.heap.size < (U.alloc _).heap.size; simp
            obtain ⟨U1, hEU1⟩ : ∃ u, U.drew.alloc (.cells h.toArray 49) = u := ⟨_, rfl⟩
            rw [hEU1] at h1 HR1x hz1
            rw [hEU1]
            clear hEU1
            refine wpAnyG_ready [0] (by kernel_rfl) (by simp) ?_
            refine AllReadyG.cons 0 _ rfl (fun K' hK => ?_) AllReadyG.nil
            go_simp
            refine hK.out _ _ (fun _ => h1.alloc h1.size _) ?_
            clear hK K'
            try simp only [List.getElem_toArray, List.getElem_cons_zero, List.getElem_cons_succ, Act.put, List.setIfInBounds_toArray, List.set_cons_zero, List.set_cons_succ]
            have h2 : Below U.heap.size U (U1.alloc (.cells #[] 49)) := h1.alloc h1.size _
            have HO2 : Hid (OwnR 49 hdK (U1.alloc (.cells #[] 49)) U.heap.size (.slice (some ⟨U1.heap.size, 0, none⟩) 0 0) []) := Lib.hid (ownR_base (own_empty 49 hdK U1) h1.size)
            have HR2x := Lib.hid (HR1x.out.below hdK_pos ((Below.refl _ _).alloc (Nat.le_refl _) (.cells #[] 49)))
            have hz2 : U1.heap.size < (U1.alloc (.cells #[] 49)).heap.size := by simp
            obtain ⟨U2, hEU2⟩ : ∃ u, U1.alloc (.cells #[] 49) = u := ⟨_, rfl⟩
            rw [hEU2] at h2 HO2 HR2x hz2
            rw [hEU2]
            clear hEU2
            refine wpAnyG_ready [3] (by kernel_rfl) (by simp) ?_
            refine AllReadyG.cons 3 _ rfl (fun K' hK => ?_) AllReadyG.nil
            have rr := HUR.out.1.below hdK_pos h2
            refine step_app_new rfl (.tmp 71) (.tmp 73) 32 49 hdK hdZ 56 Tryd.underlying32 rhZ_info hdZ_size hdK_pos (by decide) rfl U.heap.size _ (hs) rfl HO2.out _ rfl rr HUR.out.2 (by have := HL.out; have := HLe.out; omega) h2.size ?_
            intro A3 c3 U3 o1 o2 o4
            have h3 : Below U.heap.size U U3 := h2.trans o4
            refine hK.out _ _ (fun _ => h3) ?_
            clear hK K'
            try simp only [List.getElem_toArray, List.getElem_cons_zero, List.getElem_cons_succ, Act.put, List.setIfInBounds_toArray, List.set_cons_zero, List.set_cons_succ]
            have HO3 := Lib.hid o1
            have HG3 := Lib.hid o2
            clear o1 o2 o4 rr
            have HR4 := Lib.hid (HR2x.out.same (HG3.out.block _ (Nat.lt_trans hz1 hz2) (by intro e; have e1 := Option.some.inj e; dsimp only at e1; omega)))
            have HO4 := HO3
            refine wpAnyG_ready [6] (by kernel_rfl) (by simp) ?_
            refine AllReadyG.cons 6 _ rfl (fun K' hK => ?_) AllReadyG.nil
            refine step_app_one rfl (.tmp 74) (.tmp 76) 32 49 hdK hdZ 56 Tryd.underlying32 rhZ_info hdZ_size hdK_pos (by decide) rfl U.heap.size _ (hs) h rfl HO4.out _ rfl HR4.out (.inr ⟨_, _, _, rfl⟩) (by have := HL.out; have := HLe.out; omega) h3.size ?_
            intro A6 c6 U6 o1 o4
            have h6 : Below U.heap.size U U6 := h3.trans o4
            refine hK.out _ _ (fun _ => h6) ?_
            clear hK K'
            try simp only [List.getElem_toArray, List.getElem_cons_zero, List.getElem_cons_succ, Act.put, List.setIfInBounds_toArray, List.set_cons_zero, List.set_cons_succ]
            have HO6 := Lib.hid o1
            clear o1 o4
            refine wpAnyG_take 7 _ (.pointer (some ⟨w.heap.size, 0, none⟩)) rfl (by kernel_rfl) (by kernel_rfl) (by kernel_rfl) (by kernel_rfl) (fun _ _ _ h => h) h6 (.inl ⟨by rfl, fun ww hS => by rfl⟩) ?_
            try simp only [List.getElem_toArray, List.getElem_cons_zero, List.getElem_cons_succ, Act.put, List.setIfInBounds_toArray, List.set_cons_zero, List.set_cons_succ]
            have hC6 := HUC.out.of (h6.block _ uq0)
            have hc6 := hC6.c0
            have hf6 := World.rowIs.frozen hC6 0
            have HC6 := Lib.hid hC6
            clear hC6
            refine wpAnyG_ready [8] (by kernel_rfl) (by simp) ?_
            refine AllReadyG.cons 8 _ rfl (fun K' hK => ?_) AllReadyG.nil
            go_simp
            refine hK.out _ _ (fun h => absurd rfl h) ?_
            clear hK K'
            refine wpAnyG_done (by kernel_rfl) ?_ _
            have HB6 := Lib.hid h6
            go_upto_region 9 with fail
            have hq0U : w.heap.size < U.heap.size := HUC.out.lt
            have hC7 := HC6.out.s0 (.slice A6 (hs.length + 1) c6)
            have hO7 := HO6.out.only (Only.set (N := fun k => k = w.heap.size) U6 w.heap.size 0 (.slice A6 (hs.length + 1) c6) rfl) (fun k hk e => by have := (OwnR.lt HO6.out k hk).1; omega)
            have hB7 : Below w.heap.size w (U6.setCell ⟨w.heap.size, 0, none⟩ (.slice A6 (hs.length + 1) c6)) := (HUB.out.trans (HB6.out.mono (Nat.le_of_lt hq0U))).setCell (p := ⟨w.heap.size, 0, none⟩) (Nat.le_refl _) _
            have hR7 := HU3.out.of (((set_only U6 w.heap.size 0 (.slice A6 (hs.length + 1) c6)).2 _ (by omega)).trans (HB6.out.block _ HUS.out))
            have hS7 : U.heap.size ≤ (U6.setCell ⟨w.heap.size, 0, none⟩ (.slice A6 (hs.length + 1) c6)).heap.size := by have := HB6.out.size; have := (set_only U6 w.heap.size 0 (.slice A6 (hs.length + 1) c6)).1.size; omega
            obtain ⟨U7, hU7⟩ : ∃ U7, U6.setCell ⟨w.heap.size, 0, none⟩ (.slice A6 (hs.length + 1) c6) = U7 := ⟨_, rfl⟩
            rw [hU7] at hC7 hO7 hB7 hR7 hS7
            rw [hU7]
            clear hU7
            have HC7 := Lib.hid hC7
            have HO7 := Lib.hid hO7
            have HB7 := Lib.hid hB7
            have HR7 := Lib.hid hR7
            have HS7 := Lib.hid hS7
            have v1 := hC7.c1
            clear hC7 hO7 hB7 hR7 hS7 hq0U hc6 hf6 h6
            have HE9 := Lib.hid (own_empty 4 blK U7)
            have HD7 := Lib.hid (HDw.out.later HB7.out)
            have HF9 : Hid (Recs blK (U7.alloc (.cells #[] 4)) (.slice Af hs.length cf) (finL hs.length n) ∧ NilOr (.slice Af hs.length cf)) := Lib.hid ⟨HD7.out.fin.recs.below (by decide) ((Below.refl _ _).alloc (Nat.le_refl _) _), ownH_nil_or HD7.out.fin⟩
            have b7 : Below U7.heap.size U7 (U7.alloc (.cells #[] 4)) := (Below.refl _ _).alloc (Nat.le_refl _) _
            have v1' := (b7.cell (p := ⟨w.heap.size, 1, none⟩) (Nat.lt_of_lt_of_le HUC.out.lt HS7.out)).trans v1
            go_upto_region 35 with (first
              | (at_builtin
                 refine wpList_app_any rfl _ _ 33 4 blK (.bool false) 1 rfl Tryd.underlying33 blZ_info (by decide) (by decide) (by decide) U7.heap.size _ [] (finL hs.length n) rfl HE9.out _ rfl HF9.out.1 HF9.out.2 (by simp) (by have := HL.out; rw [finL_len]; omega) b7.size ?_
                 intro v9 w9 o9 b9
                 have HO9 := Lib.hid (OwnR.alloc o9 (.cells #[.bool false] 4))
                 have HR9 := Lib.hid (recs_one (K := blK) w9 4 (x := [.bool false]) ⟨_, _, rfl, ⟨_, rfl⟩, rfl⟩)
                 have B9 : Below U7.heap.size U7 (w9.alloc (.cells #[.bool false] 4)) := (b7.trans b9).alloc (b7.trans b9).size _
                 clear o9 b9)
              | (at_builtin
                 refine wpList_app_any rfl _ _ 33 4 blK (.bool false) 1 rfl Tryd.underlying33 blZ_info (by decide) (by decide) (by decide) U7.heap.size v9 ([] ++ finL hs.length n) [[.bool false]] rfl HO9.out _ rfl HR9.out (.inr ⟨_, _, _, rfl⟩) (by have := HL.out; rw [List.nil_append, finL_len]; omega) (by simp) B9.size ?_
                 intro v10 w10 o10 b10
                 rw [List.nil_append, finL_snoc _ _ HDw.out.le] at o10
                 obtain ⟨A10, c10, rfl, -⟩ := id o10.recs
                 rw [finL_len] at o10
                 have B10 : Below U7.heap.size U7 w10 := B9.trans b10
                 have hC10 := HC7.out.of (B10.block _ (Nat.lt_of_lt_of_le HUC.out.lt HS7.out))
                 have t1 := hC10.c1
                 have ft := World.rowIs.frozen hC10 1
                 have HC10 := Lib.hid hC10
                 have HO10 := Lib.hid o10
                 clear b10 hC10 o10))
            simp only [finL_len]
            have hCz := HC10.out.s1 (.slice A10 (hs.length + 1) c10)
            have ho := Only.set (N := fun k => k = w.heap.size) w10 w.heap.size 1 (.slice A10 (hs.length + 1) c10) rfl
            have hRz := HR7.out.of ((ho.block _ (Nat.lt_of_lt_of_le HUS.out (Nat.le_trans HS7.out B10.size)) (by omega)).trans (B10.block _ (Nat.lt_of_lt_of_le HUS.out HS7.out)))
            have hO1z := (HO7.out.later B10).only ho (fun k hk e => by have := (OwnR.lt HO7.out k hk).1; have := HUC.out.lt; omega)
            have hO2z := HO10.out.only ho (fun k hk e => by have := (OwnR.lt HO10.out k hk).1; have := HUC.out.lt; have := HS7.out; omega)
            have hBz : Below w.heap.size w (w10.setCell ⟨w.heap.size, 1, none⟩ (.slice A10 (hs.length + 1) c10)) := (HB7.out.trans (B10.mono (Nat.le_trans (Nat.le_of_lt HUC.out.lt) HS7.out))).setCell (p := ⟨w.heap.size, 1, none⟩) (Nat.le_refl _) _
            obtain ⟨Z, hZ⟩ : ∃ Z, w10.setCell ⟨w.heap.size, 1, none⟩ (.slice A10 (hs.length + 1) c10) = Z := ⟨_, rfl⟩
            rw [hZ] at hCz hRz hO1z hO2z hBz
            rw [hZ]
            clear hZ ho t1 ft v1 v1'
            have hDz : DSt Z base (.slice A6 (hs.length + 1) c6) (.slice A10 (hs.length + 1) c10) (.slice Ae es.length ce) (hs ++ [h]) n es := ⟨ownR_base hO1z (Nat.le_trans HDw.out.bw (by have := HUC.out.lt; omega)), by rw [List.length_append]; exact ownR_base hO2z (Nat.le_trans HDw.out.bw (by have := HUC.out.lt; have := HS7.out; omega)), (HDw.out.later hBz).ev, Nat.le_trans HDw.out.bw hBz.size, by rw [List.length_append]; have := HDw.out.le; omega⟩
            have HEnd : Hid (∀ a b c, DEnd w (((Z.setCell ⟨w.heap.size + 1 + 1 + 1, 0, none⟩ a).setCell ⟨w.heap.size + 1 + 1 + 1, 1, none⟩ b).setCell ⟨w.heap.size + 1 + 1 + 1, 2, none⟩ c) base (.slice (some ⟨g, o, none⟩) hs.length cd) (.slice Af hs.length cf) (.slice Ae es.length ce) (.agg #[.slice A6 (hs.length + 1) c6, .slice A10 (hs.length + 1) c10, .slice Ae es.length ce]) (hs ++ [h]) n es) := Lib.hid (fun a b c => dend_new hDz (.inr fun k hk => by have := (OwnR.lt hO1z k hk).1; have := HUC.out.lt; omega) (.inr fun k hk => by have := (OwnR.lt hO2z k hk).1; have := HUC.out.lt; have := HS7.out; omega) (.inl rfl) hBz (by omega) (fun k hk e => by have := (OwnR.lt hO1z k hk).1; have := HUS.out; omega) (fun k hk e => by have := (OwnR.lt hO2z k hk).1; have := HUS.out; have := HS7.out; omega) (fun k hk e => by have := (OwnR.lt HDw.out.ev k hk).2; omega))
            have HCz := Lib.hid hCz
            have HRz := Lib.hid hRz
            clear hCz hRz hO1z hO2z hBz hDz
            have z0 := HCz.out.c0
            have z1 := HCz.out.c1
            have z2 := HCz.out.c2
            have y0 := HRz.out.c0
            have y1 := HRz.out.c1
            have y2 := HRz.out.c2
            have fz := fun o => World.rowIs.frozen HRz.out o
            go_wp2_with fail
            try simp only [Exit.inBlock, Exit.then]
            exact bodyPost_ret (results_mid2 rfl _ _ (w.heap.size + 1 + 1 + 1) [.slice A6 (hs.length + 1) c6, .slice A10 (hs.length + 1) c10, .slice Ae es.length ce] _ rfl (rat_set3 HRz.out _ _ _).range Tryd.underlying36 rfl r3_info) rfl ⟨_, by rw [T1.out]; rfl, by rw [T2.out, T3.out, T4.out]; exact HEnd.out _ _ _⟩
      · rw [if_neg (fun hq => q2 hq.2)] at hp
        have hb1 : (a0 != b46) = false := by rw [q1]; simp
        have hb2 : (a34 != b1) = true := bne_iff_ne.2 q2
        have T1 : Hid (tkE hs n ev h = 1) := Lib.hid (by rw [T0.out, hp])
        have T2 : Hid (tkH hs n ev h = hs) := Lib.hid (by rw [T5.out, hp]; rfl)
        clear hp q1 q2
        go_wp2_with fail
        try simp only [Exit.inBlock, Exit.then]
        exact bodyPost_ret (results_mid2 rfl _ _ (w.heap.size + 1 + 1 + 1) [.slice Ad hs.length cd, .slice Af hs.length cf, .slice Ae es.length ce] _ rfl (rat_set3 HR3.out _ _ _).range Tryd.underlying36 rfl r3_info) rfl ⟨_, by rw [T1.out]; rfl, by rw [T2.out, T3.out, T4.out]; exact dend_still HDw.out (((HB.out.setCell (p := ⟨w.heap.size + 1 + 1 + 1, 0, none⟩) (by show w.heap.size ≤ w.heap.size + 3; omega) _).setCell (p := ⟨w.heap.size + 1 + 1 + 1, 1, none⟩) (by show w.heap.size ≤ w.heap.size + 3; omega) _).setCell (p := ⟨w.heap.size + 1 + 1 + 1, 2, none⟩) (by show w.heap.size ≤ w.heap.size + 3; omega) _)⟩
    · rw [if_neg (fun hq => q1 hq.1)] at hp
      have hb1 : (a0 != b46) = true := bne_iff_ne.2 q1
      have T1 : Hid (tkE hs n ev h = 1) := Lib.hid (by rw [T0.out, hp])
      have T2 : Hid (tkH hs n ev h = hs) := Lib.hid (by rw [T5.out, hp]; rfl)
      clear hp q1
      go_wp2_with fail
      try simp only [Exit.inBlock, Exit.then]
      exact bodyPost_ret (results_mid2 rfl _ _ (w.heap.size + 1 + 1 + 1) [.slice Ad hs.length cd, .slice Af hs.length cf, .slice Ae es.length ce] _ rfl (rat_set3 HR3.out _ _ _).range Tryd.underlying36 rfl r3_info) rfl ⟨_, by rw [T1.out]; rfl, by rw [T2.out, T3.out, T4.out]; exact dend_still HDw.out (((HB.out.setCell (p := ⟨w.heap.size + 1 + 1 + 1, 0, none⟩) (by show w.heap.size ≤ w.heap.size + 3; omega) _).setCell (p := ⟨w.heap.size + 1 + 1 + 1, 1, none⟩) (by show w.heap.size ≤ w.heap.size + 3; omega) _).setCell (p := ⟨w.heap.size + 1 + 1 + 1, 2, none⟩) (by show w.heap.size ≤ w.heap.size + 3; omega) _)⟩
  by_cases k5 : intAt ev 0 = 5
  · rw [k5] at e0
    have T3 : Hid (tkN hs n ev = n) := Lib.hid (by simp [tkN, k5])
    have T4 : Hid (tkS es ev = es) := Lib.hid (by simp [tkS, k5])
    obtain ⟨b46, hb46⟩ : ∃ a, intAt ev 46 = a := ⟨_, rfl⟩
    have HFd := Lib.hid (rfind_calls (.slice Ad hs.length cd) (.slice Af hs.length cf) (.slice Ae es.length ce) hs b46 W HD.out.hd.recs HL.out)
    rw [hb46] at e46
    rcases fnd_range hs b46 with hm | ⟨i, hil, hi⟩
    · have T1 : Hid (tkE hs n ev h = 10) := Lib.hid (by simp [tkE, k5, hb46, hm])
      have T2 : Hid (tkH hs n ev h = hs) := Lib.hid (by
        have : ¬ (n : Int) ≤ -1 := by omega
        simp [tkH, k5, hb46, hm, this])
      rw [hm] at HFd
      clear k4 k5 hb46 hm
      go_upto_region 12 with (go_at_call 17; refine HFd.out.mono ?_; rintro e w2 ⟨rfl, hb2⟩)
      have hRu : RAt w2 w.heap.size (.slice Ad hs.length cd) (.slice Af hs.length cf) (.slice Ae es.length ce) := HRa.out.of (hb2.block _ HRa.out.lt)
      have hR3u := HR3.out.of (hb2.block _ HR3.out.lt)
      have hBu : Below w.heap.size w w2 := HB.out.trans (hb2.mono HB.out.size)
      have hSu : w.heap.size + 1 + 1 + 1 < w2.heap.size := Nat.lt_of_lt_of_le HR3.out.lt hb2.size
      clear c0 c1 c2 e0 e1 e46 g0 g1 g34 f6 f3 xx0 xx1 xx2
      have HUC := Lib.hid hRu
      have HU3 := Lib.hid hR3u
      have HUB := Lib.hid hBu
      have HUS := Lib.hid hSu
      have HUD := Lib.hid (HDw.out.later hBu)
      clear hRu hR3u hBu hSu
      have HCz := HUC
      have HRz := HU3
      have z0 := HCz.out.c0
      have z1 := HCz.out.c1
      have z2 := HCz.out.c2
      have y0 := HRz.out.c0
      have y1 := HRz.out.c1
      have y2 := HRz.out.c2
      have fz := fun o => World.rowIs.frozen HRz.out o
      go_wp2_with fail
      try simp only [Exit.inBlock, Exit.then]
      exact bodyPost_ret (results_mid2 rfl _ _ (w.heap.size + 1 + 1 + 1) [.slice Ad hs.length cd, .slice Af hs.length cf, .slice Ae es.length ce] _ rfl (rat_set3 HRz.out _ _ _).range Tryd.underlying36 rfl r3_info) rfl ⟨_, by rw [T1.out]; rfl, by rw [T2.out, T3.out, T4.out]; exact dend_still HDw.out (((HUB.out.setCell (p := ⟨w.heap.size + 1 + 1 + 1, 0, none⟩) (by show w.heap.size ≤ w.heap.size + 3; omega) _).setCell (p := ⟨w.heap.size + 1 + 1 + 1, 1, none⟩) (by show w.heap.size ≤ w.heap.size + 3; omega) _).setCell (p := ⟨w.heap.size + 1 + 1 + 1, 2, none⟩) (by show w.heap.size ≤ w.heap.size + 3; omega) _)⟩
    · rw [hi] at HFd
      have hil' : (i : Int) < (hs.length : Int) := by omega
      have hi0 : ¬ (i : Int) < 0 := by omega
      have hi2 : (i : Int) ≤ 1000 := by omega
      go_upto_region 12 with (go_at_call 17; refine HFd.out.mono ?_; rintro e w2 ⟨rfl, hb2⟩)
      have hRu : RAt w2 w.heap.size (.slice Ad hs.length cd) (.slice Af hs.length cf) (.slice Ae es.length ce) := HRa.out.of (hb2.block _ HRa.out.lt)
      have hR3u := HR3.out.of (hb2.block _ HR3.out.lt)
      have hBu : Below w.heap.size w w2 := HB.out.trans (hb2.mono HB.out.size)
      have hSu : w.heap.size + 1 + 1 + 1 < w2.heap.size := Nat.lt_of_lt_of_le HR3.out.lt hb2.size
      clear c0 c1 c2 e0 e1 e46 g0 g1 g34 f6 f3 xx0 xx1 xx2
      have HUC := Lib.hid hRu
      have HU3 := Lib.hid hR3u
      have HUB := Lib.hid hBu
      have HUS := Lib.hid hSu
      have HUD := Lib.hid (HDw.out.later hBu)
      clear hRu hR3u hBu hSu
      obtain ⟨g', o', rfl, hg', hr', -⟩ := (show Recs blK w2 (.slice Af hs.length cf) (finL hs.length n) from HUD.out.fin.recs).at (by decide) i hil
      rw [finL_at _ _ _ hil] at hr'
      have j1 : w2.cell? ⟨g', o' + i * 1, none⟩ = some (.bool (decide (i < n))) := hr' 0 _ rfl
      rw [Nat.mul_one] at j1
      by_cases hin : i < n
      · have T1 : Hid (tkE hs n ev h = 11) := Lib.hid (by simp [tkE, k5, hb46, hi, hin])
        have T2 : Hid (tkH hs n ev h = hs) := Lib.hid (by
          have : ¬ n ≤ i := by omega
          simp [tkH, k5, hb46, hi, this])
        rw [decide_eq_true hin] at j1
        clear k4 k5 hb46 hi hin hr'
        have HCz := HUC
        have HRz := HU3
        have z0 := HCz.out.c0
        have z1 := HCz.out.c1
        have z2 := HCz.out.c2
        have y0 := HRz.out.c0
        have y1 := HRz.out.c1
        have y2 := HRz.out.c2
        have fz := fun o => World.rowIs.frozen HRz.out o
        go_wp2_with fail
        try simp only [Exit.inBlock, Exit.then]
        exact bodyPost_ret (results_mid2 rfl _ _ (w.heap.size + 1 + 1 + 1) [.slice Ad hs.length cd, .slice (some ⟨g', o', none⟩) hs.length cf, .slice Ae es.length ce] _ rfl (rat_set3 HRz.out _ _ _).range Tryd.underlying36 rfl r3_info) rfl ⟨_, by rw [T1.out]; rfl, by rw [T2.out, T3.out, T4.out]; exact dend_still HDw.out (((HUB.out.setCell (p := ⟨w.heap.size + 1 + 1 + 1, 0, none⟩) (by show w.heap.size ≤ w.heap.size + 3; omega) _).setCell (p := ⟨w.heap.size + 1 + 1 + 1, 1, none⟩) (by show w.heap.size ≤ w.heap.size + 3; omega) _).setCell (p := ⟨w.heap.size + 1 + 1 + 1, 2, none⟩) (by show w.heap.size ≤ w.heap.size + 3; omega) _)⟩
      have T1 : Hid (tkE hs n ev h = 0) := Lib.hid (by simp [tkE, k5, hb46, hi, hin])
      have T2 : Hid (tkH hs n ev h = hs.take i) := Lib.hid (by
        have : n ≤ i := by omega
        simp [tkH, k5, hb46, hi, this])
      rw [decide_eq_false hin] at j1
      obtain ⟨g, o, rfl, hg, -⟩ := HUD.out.hd.recs.at hdK_pos i hil
      have hti : (hs.take i).length = i := by rw [List.length_take]; omega
      have hcd : (i : Int) ≤ (cd : Int) := by obtain ⟨_, _, e, h1, -⟩ := HUD.out.hd.recs; cases e; omega
      have hcf : (i : Int) ≤ (cf : Int) := by obtain ⟨_, _, e, h1, -⟩ := HUD.out.fin.recs; have e3 := (Value.slice.inj e).2.2; rw [finL_len] at h1; omega
      have hnil : n ≤ i := by omega
      have HNi := Lib.hid hnil
      have HTi := Lib.hid hti
      have HIl := Lib.hid hil
      clear k4 k5 hb46 hi hin hr' hg hg' hnil
      have z0 := HUC.out.c0
      have z1 := HUC.out.c1
      go_upto_region 16 with fail
      clear j1 z0 z1
      have hrn := (show Recs hdK w2 (.slice (some ⟨g, o, none⟩) i cd) (hs.take i) ∧ NilOr (.slice (some ⟨g, o, none⟩) i cd) from ⟨HUD.out.hd.recs.cut i (Nat.le_of_lt hil), .inr ⟨_, _, _, rfl⟩⟩)
      have b7 : Below w2.heap.size w2 (w2.alloc (.cells #[] 49)) := (Below.refl _ _).alloc (Nat.le_refl _) _
      have HE9 := Lib.hid (own_empty 49 hdK w2)
      have HF9 := Lib.hid (hrn.1.below hdK_pos b7)
      have HFn := Lib.hid hrn.2
      clear hrn
      have v1' := (b7.cell (p := ⟨w.heap.size, 0, none⟩) HUC.out.lt).trans HUC.out.c0
      go_upto_region 17 with (at_builtin; refine wpList_app_any rfl _ _ 32 49 hdK hdZ 56 rfl Tryd.underlying32 rhZ_info hdZ_size hdK_pos (by decide) w2.heap.size _ [] (hs.take i) rfl HE9.out _ rfl HF9.out HFn.out (by simp) (by first | (have := HL.out; rw [List.length_take]; omega) | (have := HL.out; rw [finL_len]; omega)) b7.size ?_; intro v10 w10 o10 b10; rw [List.nil_append] at o10; obtain ⟨A10, c10, rfl, -⟩ := id o10.recs; rw [hti] at o10; have B10 : Below w2.heap.size w2 w10 := b7.trans b10; have hC10 := HUC.out.of (B10.block _ HUC.out.lt); have t1 := hC10.c0; have ft := World.rowIs.frozen hC10 0; have HC10 := Lib.hid hC10; have HO10 := Lib.hid o10; clear b10 hC10 o10)
      try simp only [hti]
      have hCz := HC10.out.s0 (.slice A10 i c10)
      have ho := Only.set (N := fun k => k = w.heap.size) w10 w.heap.size 0 (.slice A10 i c10) rfl
      have hRz := HU3.out.of ((ho.block _ (Nat.lt_of_lt_of_le HUS.out B10.size) (by omega)).trans (B10.block _ HUS.out))
      have hOz := HO10.out.only ho (fun k hk e => by have := (OwnR.lt HO10.out k hk).1; have := HUC.out.lt; omega)
      have hBz : Below w.heap.size w (w10.setCell ⟨w.heap.size, 0, none⟩ (.slice A10 i c10)) := (HUB.out.trans (B10.mono (Nat.le_of_lt HUC.out.lt))).setCell (p := ⟨w.heap.size, 0, none⟩) (Nat.le_refl _) _
      have hSz : w2.heap.size ≤ (w10.setCell ⟨w.heap.size, 0, none⟩ (.slice A10 i c10)).heap.size := Nat.le_trans B10.size ho.size
      have hKz : ∀ k, k < w2.heap.size → k ≠ w.heap.size → (w10.setCell ⟨w.heap.size, 0, none⟩ (.slice A10 i c10)).heap[k]? = w2.heap[k]? := fun k hk hn => (ho.block k (Nat.lt_of_lt_of_le hk B10.size) hn).trans (B10.block k hk)
      obtain ⟨Z1, hZ⟩ : ∃ Z, w10.setCell ⟨w.heap.size, 0, none⟩ (.slice A10 i c10) = Z := ⟨_, rfl⟩
      rw [hZ] at hCz hRz hOz hBz hSz hKz
      rw [hZ]
      clear hZ ho t1 ft v1'
      have HO1 := Lib.hid hOz
      have HS1 := Lib.hid hSz
      have HK1 := Lib.hid hKz
      have HUC2 := Lib.hid hCz
      have HU32 := Lib.hid hRz
      have HUB2 := Lib.hid hBz
      have HUS2 : Hid (w.heap.size + 1 + 1 + 1 < Z1.heap.size) := Lib.hid (Nat.lt_of_lt_of_le HUS.out hSz)
      have HUD2 := Lib.hid (HDw.out.later hBz)
      clear hCz hRz hOz hBz hSz hKz HE9 HF9 HFn HC10 HO10 B10 b7
      have hrn := (show Recs blK Z1 (.slice (some ⟨g', o', none⟩) i cf) (finL i n) ∧ NilOr (.slice (some ⟨g', o', none⟩) i cf) from ⟨by have := (show Recs blK Z1 (.slice (some ⟨g', o', none⟩) hs.length cf) (finL hs.length n) from HUD2.out.fin.recs).cut i (Nat.le_of_lt HIl.out); rw [finL_cut _ _ _ (Nat.le_of_lt HIl.out)] at this; exact this, .inr ⟨_, _, _, rfl⟩⟩)
      have b7 : Below Z1.heap.size Z1 (Z1.alloc (.cells #[] 4)) := (Below.refl _ _).alloc (Nat.le_refl _) _
      have HE9 := Lib.hid (own_empty 4 blK Z1)
      have HF9 := Lib.hid (hrn.1.below (by decide) b7)
      have HFn := Lib.hid hrn.2
      clear hrn
      have v1' := (b7.cell (p := ⟨w.heap.size, 1, none⟩) HUC2.out.lt).trans HUC2.out.c1
      go_upto_region 35 with (at_builtin; refine wpList_app_any rfl _ _ 33 4 blK (.bool false) 1 rfl Tryd.underlying33 blZ_info (by decide) (by decide) (by decide) Z1.heap.size _ [] (finL i n) rfl HE9.out _ rfl HF9.out HFn.out (by simp) (by first | (have := HL.out; rw [List.length_take]; omega) | (have := HL.out; rw [finL_len]; omega)) b7.size ?_; intro v10 w11 o10 b10; rw [List.nil_append] at o10; obtain ⟨A11, c11, rfl, -⟩ := id o10.recs; rw [finL_len] at o10; have B11 : Below Z1.heap.size Z1 w11 := b7.trans b10; have hC10 := HUC2.out.of (B11.block _ HUC2.out.lt); have t1 := hC10.c1; have ft := World.rowIs.frozen hC10 1; have HC11 := Lib.hid hC10; have HO11 := Lib.hid o10; clear b10 hC10 o10)
      try simp only [finL_len]
      have hCz := HC11.out.s1 (.slice A11 i c11)
      have ho := Only.set (N := fun k => k = w.heap.size) w11 w.heap.size 1 (.slice A11 i c11) rfl
      have hRz := HU32.out.of ((ho.block _ (Nat.lt_of_lt_of_le HUS2.out B11.size) (by omega)).trans (B11.block _ HUS2.out))
      have hOz := HO11.out.only ho (fun k hk e => by have := (OwnR.lt HO11.out k hk).1; have := HUC2.out.lt; omega)
      have hBz : Below w.heap.size w (w11.setCell ⟨w.heap.size, 1, none⟩ (.slice A11 i c11)) := (HUB2.out.trans (B11.mono (Nat.le_of_lt HUC2.out.lt))).setCell (p := ⟨w.heap.size, 1, none⟩) (Nat.le_refl _) _
      have hSz : Z1.heap.size ≤ (w11.setCell ⟨w.heap.size, 1, none⟩ (.slice A11 i c11)).heap.size := Nat.le_trans B11.size ho.size
      have hKz : ∀ k, k < Z1.heap.size → k ≠ w.heap.size → (w11.setCell ⟨w.heap.size, 1, none⟩ (.slice A11 i c11)).heap[k]? = Z1.heap[k]? := fun k hk hn => (ho.block k (Nat.lt_of_lt_of_le hk B11.size) hn).trans (B11.block k hk)
      obtain ⟨Z2, hZ⟩ : ∃ Z, w11.setCell ⟨w.heap.size, 1, none⟩ (.slice A11 i c11) = Z := ⟨_, rfl⟩
      rw [hZ] at hCz hRz hOz hBz hSz hKz
      rw [hZ]
      clear hZ ho t1 ft v1'
      have hO1z := HO1.out.same (fun k hk => hKz k (OwnR.lt HO1.out k hk).2 (by have := (OwnR.lt HO1.out k hk).1; have := HUC.out.lt; omega))
      have hDz : DSt Z2 base (.slice A10 i c10) (.slice A11 i c11) (.slice Ae es.length ce) (hs.take i) n es := ⟨ownR_base hO1z (Nat.le_trans HDw.out.bw (by have := HUC.out.lt; omega)), by rw [HTi.out]; exact ownR_base hOz (Nat.le_trans HDw.out.bw (by have := HUC2.out.lt; omega)), (HDw.out.later hBz).ev, Nat.le_trans HDw.out.bw hBz.size, by rw [HTi.out]; exact HNi.out⟩
      have HEnd : Hid (∀ a b c, DEnd w (((Z2.setCell ⟨w.heap.size + 1 + 1 + 1, 0, none⟩ a).setCell ⟨w.heap.size + 1 + 1 + 1, 1, none⟩ b).setCell ⟨w.heap.size + 1 + 1 + 1, 2, none⟩ c) base (.slice (some ⟨g, o, none⟩) hs.length cd) (.slice (some ⟨g', o', none⟩) hs.length cf) (.slice Ae es.length ce) (.agg #[.slice A10 i c10, .slice A11 i c11, .slice Ae es.length ce]) (hs.take i) n es) := Lib.hid (fun a b c => dend_new hDz (.inr fun k hk => by have := (OwnR.lt hO1z k hk).1; have := HUC.out.lt; omega) (.inr fun k hk => by have := (OwnR.lt hOz k hk).1; have := HUC2.out.lt; omega) (.inl rfl) hBz (by omega) (fun k hk e => by have := (OwnR.lt hO1z k hk).1; have := HUS.out; omega) (fun k hk e => by have := (OwnR.lt hOz k hk).1; have := HUS2.out; omega) (fun k hk e => by have := (OwnR.lt HDw.out.ev k hk).2; omega))
      have HCz := Lib.hid hCz
      have HRz := Lib.hid hRz
      clear hCz hRz hO1z hOz hBz hDz hSz hKz
      have z0 := HCz.out.c0
      have z1 := HCz.out.c1
      have z2 := HCz.out.c2
      have y0 := HRz.out.c0
      have y1 := HRz.out.c1
      have y2 := HRz.out.c2
      have fz := fun o => World.rowIs.frozen HRz.out o
      go_wp2_with fail
      try simp only [Exit.inBlock, Exit.then]
      exact bodyPost_ret (results_mid2 rfl _ _ (w.heap.size + 1 + 1 + 1) [.slice A10 i c10, .slice A11 i c11, .slice Ae es.length ce] _ rfl (rat_set3 HRz.out _ _ _).range Tryd.underlying36 rfl r3_info) rfl ⟨_, by rw [T1.out]; rfl, by rw [T2.out, T3.out, T4.out]; exact HEnd.out _ _ _⟩
  have T2 : Hid (tkH hs n ev h = hs) := Lib.hid (by simp [tkH, k4, k5])
  by_cases k6 : intAt ev 0 = 6
  · rw [k6] at e0
    have T4 : Hid (tkS es ev = es) := Lib.hid (by simp [tkS, k6])
    have T0 : Hid (tkE hs n ev h = finE hs n (intAt ev 46)) := Lib.hid (by simp [tkE, k6])
    have T5 : Hid (tkN hs n ev = if finE hs n (intAt ev 46) = 0 then n + 1 else n) := Lib.hid (by simp [tkN, k6])
    obtain ⟨b46, hb46⟩ : ∃ a, intAt ev 46 = a := ⟨_, rfl⟩
    rw [hb46] at e46 T0 T5
    clear k4 k5 k6 hb46
    go_wp2_with fail
    go_loopw [10, 118] (fun _ t wr => ∃ k : Nat, t = .int .i64 (k : Int) ∧ k ≤ n ∧ W = wr) (fun _ t _ => hs.length - (RowKit.intOf t).toNat)
    case atStart => exact ⟨0, rfl, by omega, by trivial⟩
    case round =>
      obtain ⟨k, rfl, hk, rfl⟩ := hrel
      by_cases hlt : k < hs.length
      · have hlt' : (k : Int) < (hs.length : Int) := by omega
        obtain ⟨g', o', rfl, hg', hr', -⟩ := (show Recs blK W (.slice Af hs.length cf) (finL hs.length n) from HD.out.fin.recs).at (by decide) k hlt
        rw [finL_at _ _ _ hlt] at hr'
        have j1 : W.cell? ⟨g', o' + k * 1, none⟩ = some (.bool (decide (k < n))) := hr' 0 _ rfl
        rw [Nat.mul_one] at j1
        clear hr'
        by_cases hkn : k < n
        · rw [decide_eq_true hkn] at j1
          have HKn := Lib.hid hkn
          clear hkn
          go_wp2_with fail
          go_roundw
          case rel => exact ⟨k + 1, by go_num, by have := HKn.out; omega, by trivial⟩
          case measure => simp [RowKit.intOf]; omega
        · obtain rfl : k = n := by omega
          rw [decide_eq_false hkn] at j1
          obtain ⟨g, o, rfl, hg, hr, ht⟩ := HD.out.hd.recs.at hdK_pos k hlt
          rw [hdK_len] at hr
          have q1 := hr 0 _ (ht.at 0 .u32 (by kernel_rfl)).1
          rw [Nat.add_zero] at q1
          have hfe : finE hs k b46 = if intAt (hs.getD k []) 0 = b46 then 0 else 11 := by unfold finE; rw [if_neg (by omega)]
          obtain ⟨y, hy⟩ : ∃ y, intAt (hs.getD k []) 0 = y := ⟨_, rfl⟩
          rw [hy] at q1 hfe
          have HLt := Lib.hid hlt
          clear hkn hk hr ht hy hg hg' hlt hn'
          by_cases hyb : y = b46
          · rw [if_pos hyb] at hfe
            have T1 : Hid (tkE hs k ev h = 0) := Lib.hid (by rw [T0.out, hfe])
            have T3 : Hid (tkN hs k ev = k + 1) := Lib.hid (by rw [T5.out, if_pos hfe])
            have hyb2 : (y != b46) = false := by rw [hyb]; simp
            clear hfe hyb
            go_upto_region 23 with fail
            refine region_still (by kernel_rfl) (by kernel_rfl) ?_
            refine still_yes (.pointer (some ⟨w.heap.size, 0, none⟩)) (by kernel_rfl) (by rfl) ?_
            try simp only [Act.put, List.setIfInBounds_toArray, List.set_cons_zero, List.set_cons_succ]
            refine still_yes (.slice (some ⟨g, o, none⟩) hs.length cd) (by kernel_rfl) (by go_simp) ?_
            try simp only [Act.put, List.setIfInBounds_toArray, List.set_cons_zero, List.set_cons_succ]
            refine still_yes (.int .i64 (k : Int)) (by kernel_rfl) (by rfl) ?_
            try simp only [Act.put, List.setIfInBounds_toArray, List.set_cons_zero, List.set_cons_succ]
            refine still_yes (.pointer (some ⟨g, o + k * 35, none⟩)) (by kernel_rfl) (by go_simp) ?_
            try simp only [Act.put, List.setIfInBounds_toArray, List.set_cons_zero, List.set_cons_succ]
            refine still_yes (.pointer (some ⟨g, o + k * 35, none⟩)) (by kernel_rfl) (by go_simp) ?_
            try simp only [Act.put, List.setIfInBounds_toArray, List.set_cons_zero, List.set_cons_succ]
            refine still_yes (.int .u32 y) (by kernel_rfl) (by go_simp) ?_
            try simp only [Act.put, List.setIfInBounds_toArray, List.set_cons_zero, List.set_cons_succ]
            refine still_yes (.pointer (some ⟨w.heap.size + 1, 46, none⟩)) (by kernel_rfl) (by rfl) ?_
            try simp only [Act.put, List.setIfInBounds_toArray, List.set_cons_zero, List.set_cons_succ]
            refine still_yes (.int .u32 b46) (by kernel_rfl) (by go_simp) ?_
            try simp only [Act.put, List.setIfInBounds_toArray, List.set_cons_zero, List.set_cons_succ]
            refine still_yes (.bool false) (by kernel_rfl) (by go_simp) ?_
            try simp only [Act.put, List.setIfInBounds_toArray, List.set_cons_zero, List.set_cons_succ]
            refine wpStill_nil ?_
            go_upto_region 25 with fail
            have hRu : RAt W.drew w.heap.size (.slice (some ⟨g, o, none⟩) hs.length cd) (.slice (some ⟨g', o', none⟩) hs.length cf) (.slice Ae es.length ce) := HRa.out.of rfl
            have hR3u : RAt W.drew (w.heap.size + 1 + 1 + 1) (.slice none 0 0) (.slice none 0 0) (.slice none 0 0) := HR3.out.of rfl
            have hHu : W.drew.rangeAt (w.heap.size + 1 + 1) 0 h := range_of_block HH.out rfl
            have hEu : W.drew.rangeAt (w.heap.size + 1) 0 ev := range_of_block HE.out rfl
            have hBu : Below w.heap.size w W.drew := HB.out.drew
            have hSu : w.heap.size + 1 + 1 + 1 < W.drew.heap.size := by have := HSz.out; show _ < W.heap.size; omega
            obtain ⟨U, hU⟩ : ∃ U, W.drew = U := ⟨_, rfl⟩
            rw [hU] at hRu hR3u hHu hEu hBu hSu
            rw [hU]
            clear hU c0 c1 c2 e0 e1 e46 g0 g1 g34 f6 f3 xx0 xx1 xx2
            have HUC := Lib.hid hRu
            have HU3 := Lib.hid hR3u
            have HUH := Lib.hid hHu
            have HUE := Lib.hid hEu
            have HUB := Lib.hid hBu
            have HUS := Lib.hid hSu
            have HUD := Lib.hid (HDw.out.later hBu)
            have HUHl : Hid (w.heap.size + 1 + 1 < U.heap.size) := Lib.hid (by omega)
            have HUEl : Hid (w.heap.size + 1 < U.heap.size) := Lib.hid (by omega)
            clear hRu hR3u hHu hEu hBu hSu
            clear q1 j1
            have hrn : Recs blK U (.slice (some ⟨g', o', none⟩) hs.length cf) (finL hs.length k) ∧ NilOr (.slice (some ⟨g', o', none⟩) hs.length cf) := ⟨HUD.out.fin.recs, .inr ⟨_, _, _, rfl⟩⟩
            have b7 : Below U.heap.size U (U.alloc (.cells #[] 4)) := (Below.refl _ _).alloc (Nat.le_refl _) _
            have HE9 := Lib.hid (own_empty 4 blK U)
            have HF9 := Lib.hid (hrn.1.below (by decide) b7)
            have HFn := Lib.hid hrn.2
            clear hrn
            have v1' := (b7.cell (p := ⟨w.heap.size, 1, none⟩) HUC.out.lt).trans HUC.out.c1
            go_upto_region 26 with (at_builtin; refine wpList_app_any rfl _ _ 33 4 blK (.bool false) 1 rfl Tryd.underlying33 blZ_info (by decide) (by decide) (by decide) U.heap.size _ [] (finL hs.length k) rfl HE9.out _ rfl HF9.out HFn.out (by simp) (by have := HL.out; rw [finL_len]; omega) b7.size ?_; intro v10 w10 o10 b10; rw [List.nil_append] at o10; obtain ⟨A10, c10, rfl, -⟩ := id o10.recs; rw [finL_len] at o10; have B10 : Below U.heap.size U w10 := b7.trans b10; have HO10 := Lib.hid o10; clear b10 o10)
            simp only [finL_len]
            obtain ⟨g10, rfl⟩ := own_some HO10.out (by have := HLt.out; rw [finL_len]; omega)
            obtain ⟨s1, s2, s3⟩ := own_fin_set HO10.out HLt.out
            have hgl := OwnR.lt HO10.out g10 rfl
            have ho := Only.set (N := fun k => k = g10) w10 g10 k (.bool true) rfl
            have hC10 := HUC.out.of ((ho.block _ (Nat.lt_of_lt_of_le HUC.out.lt B10.size) (by have := HUC.out.lt; omega)).trans (B10.block _ HUC.out.lt))
            have hR10 := HU3.out.of ((ho.block _ (Nat.lt_of_lt_of_le HU3.out.lt B10.size) (by have := HU3.out.lt; omega)).trans (B10.block _ HU3.out.lt))
            have hB10 : Below w.heap.size w (w10.setCell ⟨g10, k, none⟩ (.bool true)) := (HUB.out.trans (B10.mono (Nat.le_of_lt HUC.out.lt))).setCell (p := ⟨g10, k, none⟩) (by have := HUC.out.lt; show w.heap.size ≤ g10; omega) _
            have HS1 := Lib.hid s1
            have hgx : 0 + k * 1 = k := by omega
            go_upto_region 27 with fail
            obtain ⟨Y, hY⟩ : ∃ Y, w10.setCell ⟨g10, k, none⟩ (.bool true) = Y := ⟨_, rfl⟩
            rw [hY] at hC10 hR10 hB10 HS1
            rw [hY]
            clear hY s1 s2 s3 ho v1'
            have t0 := hC10.c0
            have t1 := hC10.c1
            have ft := World.rowIs.frozen hC10 1
            have HC10 := Lib.hid hC10
            have HR10 := Lib.hid hR10
            have HB10 := Lib.hid hB10
            clear hC10 hR10 hB10 t0
            go_upto_region 28 with fail
            have hCz := HC10.out.s1 (.slice (some ⟨g10, 0, none⟩) hs.length c10)
            have ho := Only.set (N := fun k => k = w.heap.size) Y w.heap.size 1 (.slice (some ⟨g10, 0, none⟩) hs.length c10) rfl
            have hRz := HR10.out.of (ho.block _ HR10.out.lt (by omega))
            have hOz := HS1.out.only ho (fun k hk e => by have := (OwnR.lt HS1.out k hk).1; have := HUC.out.lt; omega)
            have hBz : Below w.heap.size w (Y.setCell ⟨w.heap.size, 1, none⟩ (.slice (some ⟨g10, 0, none⟩) hs.length c10)) := HB10.out.setCell (p := ⟨w.heap.size, 1, none⟩) (Nat.le_refl _) _
            obtain ⟨Z, hZ⟩ : ∃ Z, Y.setCell ⟨w.heap.size, 1, none⟩ (.slice (some ⟨g10, 0, none⟩) hs.length c10) = Z := ⟨_, rfl⟩
            rw [hZ] at hCz hRz hOz hBz
            rw [hZ]
            clear hZ ho t1 ft
            have hdz := (HDw.out.later hBz)
            have hDz : DSt Z base (.slice (some ⟨g, o, none⟩) hs.length cd) (.slice (some ⟨g10, 0, none⟩) hs.length c10) (.slice Ae es.length ce) hs (k + 1) es := ⟨hdz.hd, ownR_base hOz (Nat.le_trans HDw.out.bw (by have := HUC.out.lt; omega)), hdz.ev, hdz.bw, HLt.out⟩
            have HEnd : Hid (∀ a b c, DEnd w (((Z.setCell ⟨w.heap.size + 1 + 1 + 1, 0, none⟩ a).setCell ⟨w.heap.size + 1 + 1 + 1, 1, none⟩ b).setCell ⟨w.heap.size + 1 + 1 + 1, 2, none⟩ c) base (.slice (some ⟨g, o, none⟩) hs.length cd) (.slice (some ⟨g', o', none⟩) hs.length cf) (.slice Ae es.length ce) (.agg #[.slice (some ⟨g, o, none⟩) hs.length cd, .slice (some ⟨g10, 0, none⟩) hs.length c10, .slice Ae es.length ce]) hs (k + 1) es) := Lib.hid (fun a b c => dend_new hDz (.inl rfl) (.inr fun k hk => by have := (OwnR.lt hOz k hk).1; have := HUC.out.lt; omega) (.inl rfl) hBz (by omega) (fun k hk e => by have := (OwnR.lt HDw.out.hd k hk).2; omega) (fun k hk e => by have := (OwnR.lt hOz k hk).1; have := HU3.out.lt; omega) (fun k hk e => by have := (OwnR.lt HDw.out.ev k hk).2; omega))
            have HCz := Lib.hid hCz
            have HRz := Lib.hid hRz
            clear hCz hRz hOz hBz hDz hdz
            have z0 := HCz.out.c0
            have z1 := HCz.out.c1
            have z2 := HCz.out.c2
            have y0 := HRz.out.c0
            have y1 := HRz.out.c1
            have y2 := HRz.out.c2
            have fz := fun o => World.rowIs.frozen HRz.out o
            go_wp2_with fail
            try simp only [Exit.inBlock, Exit.then]
            exact bodyPost_ret (results_mid2 rfl _ _ (w.heap.size + 1 + 1 + 1) [.slice (some ⟨g, o, none⟩) hs.length cd, .slice (some ⟨g10, 0, none⟩) hs.length c10, .slice Ae es.length ce] _ rfl (rat_set3 HRz.out _ _ _).range Tryd.underlying36 rfl r3_info) rfl ⟨_, by rw [T1.out]; rfl, by rw [T2.out, T3.out, T4.out]; exact HEnd.out _ _ _⟩
          · rw [if_neg hyb] at hfe
            have T1 : Hid (tkE hs k ev h = 11) := Lib.hid (by rw [T0.out, hfe])
            have T3 : Hid (tkN hs k ev = k) := Lib.hid (by rw [T5.out, hfe]; rfl)
            have hyb2 : (y != b46) = true := bne_iff_ne.2 hyb
            clear hfe hyb
            go_upto_region 23 with fail
            refine region_still (by kernel_rfl) (by kernel_rfl) ?_
            refine still_yes (.pointer (some ⟨w.heap.size, 0, none⟩)) (by kernel_rfl) (by rfl) ?_
            try simp only [Act.put, List.setIfInBounds_toArray, List.set_cons_zero, List.set_cons_succ]
            refine still_yes (.slice (some ⟨g, o, none⟩) hs.length cd) (by kernel_rfl) (by go_simp) ?_
            try simp only [Act.put, List.setIfInBounds_toArray, List.set_cons_zero, List.set_cons_succ]
            refine still_yes (.int .i64 (k : Int)) (by kernel_rfl) (by rfl) ?_
            try simp only [Act.put, List.setIfInBounds_toArray, List.set_cons_zero, List.set_cons_succ]
            refine still_yes (.pointer (some ⟨g, o + k * 35, none⟩)) (by kernel_rfl) (by go_simp) ?_
            try simp only [Act.put, List.setIfInBounds_toArray, List.set_cons_zero, List.set_cons_succ]
            refine still_yes (.pointer (some ⟨g, o + k * 35, none⟩)) (by kernel_rfl) (by go_simp) ?_
            try simp only [Act.put, List.setIfInBounds_toArray, List.set_cons_zero, List.set_cons_succ]
            refine still_yes (.int .u32 y) (by kernel_rfl) (by go_simp) ?_
            try simp only [Act.put, List.setIfInBounds_toArray, List.set_cons_zero, List.set_cons_succ]
            refine still_yes (.pointer (some ⟨w.heap.size + 1, 46, none⟩)) (by kernel_rfl) (by rfl) ?_
            try simp only [Act.put, List.setIfInBounds_toArray, List.set_cons_zero, List.set_cons_succ]
            refine still_yes (.int .u32 b46) (by kernel_rfl) (by go_simp) ?_
            try simp only [Act.put, List.setIfInBounds_toArray, List.set_cons_zero, List.set_cons_succ]
            refine still_yes (.bool true) (by kernel_rfl) (by go_simp) ?_
            try simp only [Act.put, List.setIfInBounds_toArray, List.set_cons_zero, List.set_cons_succ]
            refine wpStill_nil ?_
            go_upto_region 24 with fail
            have hRu : RAt W.drew w.heap.size (.slice (some ⟨g, o, none⟩) hs.length cd) (.slice (some ⟨g', o', none⟩) hs.length cf) (.slice Ae es.length ce) := HRa.out.of rfl
            have hR3u : RAt W.drew (w.heap.size + 1 + 1 + 1) (.slice none 0 0) (.slice none 0 0) (.slice none 0 0) := HR3.out.of rfl
            have hHu : W.drew.rangeAt (w.heap.size + 1 + 1) 0 h := range_of_block HH.out rfl
            have hEu : W.drew.rangeAt (w.heap.size + 1) 0 ev := range_of_block HE.out rfl
            have hBu : Below w.heap.size w W.drew := HB.out.drew
            have hSu : w.heap.size + 1 + 1 + 1 < W.drew.heap.size := by have := HSz.out; show _ < W.heap.size; omega
            obtain ⟨U, hU⟩ : ∃ U, W.drew = U := ⟨_, rfl⟩
            rw [hU] at hRu hR3u hHu hEu hBu hSu
            rw [hU]
            clear hU c0 c1 c2 e0 e1 e46 g0 g1 g34 f6 f3 xx0 xx1 xx2
            have HUC := Lib.hid hRu
            have HU3 := Lib.hid hR3u
            have HUH := Lib.hid hHu
            have HUE := Lib.hid hEu
            have HUB := Lib.hid hBu
            have HUS := Lib.hid hSu
            have HUD := Lib.hid (HDw.out.later hBu)
            have HUHl : Hid (w.heap.size + 1 + 1 < U.heap.size) := Lib.hid (by omega)
            have HUEl : Hid (w.heap.size + 1 < U.heap.size) := Lib.hid (by omega)
            clear hRu hR3u hHu hEu hBu hSu
            clear q1 j1
            have HCz := HUC
            have HRz := HU3
            have z0 := HCz.out.c0
            have z1 := HCz.out.c1
            have z2 := HCz.out.c2
            have y0 := HRz.out.c0
            have y1 := HRz.out.c1
            have y2 := HRz.out.c2
            have fz := fun o => World.rowIs.frozen HRz.out o
            go_wp2_with fail
            try simp only [Exit.inBlock, Exit.then]
            exact bodyPost_ret (results_mid2 rfl _ _ (w.heap.size + 1 + 1 + 1) [.slice (some ⟨g, o, none⟩) hs.length cd, .slice (some ⟨g', o', none⟩) hs.length cf, .slice Ae es.length ce] _ rfl (rat_set3 HRz.out _ _ _).range Tryd.underlying36 rfl r3_info) rfl ⟨_, by rw [T1.out]; rfl, by rw [T2.out, T3.out, T4.out]; exact dend_still HDw.out (((HUB.out.setCell (p := ⟨w.heap.size + 1 + 1 + 1, 0, none⟩) (by show w.heap.size ≤ w.heap.size + 3; omega) _).setCell (p := ⟨w.heap.size + 1 + 1 + 1, 1, none⟩) (by show w.heap.size ≤ w.heap.size + 3; omega) _).setCell (p := ⟨w.heap.size + 1 + 1 + 1, 2, none⟩) (by show w.heap.size ≤ w.heap.size + 3; omega) _)⟩
      · obtain rfl : n = hs.length := by have := HD.out.le; omega
        obtain rfl : k = hs.length := by omega
        have hfe : finE hs hs.length b46 = 10 := by simp [finE]
        have T1 : Hid (tkE hs hs.length ev h = 10) := Lib.hid (by rw [T0.out, hfe])
        have T3 : Hid (tkN hs hs.length ev = hs.length) := Lib.hid (by rw [T5.out, hfe]; rfl)
        clear hfe
        go_wp2_with fail
        try simp only [Exit.inBlock, Exit.then]
        exact bodyPost_ret (results_mid2 rfl _ _ (w.heap.size + 1 + 1 + 1) [.slice Ad hs.length cd, .slice Af hs.length cf, .slice Ae es.length ce] _ rfl (rat_set3 HR3.out _ _ _).range Tryd.underlying36 rfl r3_info) rfl ⟨_, by rw [T1.out]; rfl, by rw [T2.out, T3.out, T4.out]; exact dend_still HDw.out (((HB.out.setCell (p := ⟨w.heap.size + 1 + 1 + 1, 0, none⟩) (by show w.heap.size ≤ w.heap.size + 3; omega) _).setCell (p := ⟨w.heap.size + 1 + 1 + 1, 1, none⟩) (by show w.heap.size ≤ w.heap.size + 3; omega) _).setCell (p := ⟨w.heap.size + 1 + 1 + 1, 2, none⟩) (by show w.heap.size ≤ w.heap.size + 3; omega) _)⟩
  have T1 : Hid (tkE hs n ev h = 0) := Lib.hid (by simp [tkE, k4, k5, k6])
  have T3 : Hid (tkN hs n ev = n) := Lib.hid (by simp [tkN, k6])
  by_cases k8 : intAt ev 0 = 8
  · rw [k8] at e0
    have T4 : Hid (tkS es ev = es ++ [ev]) := Lib.hid (by simp [tkS, k8])
    clear k4 k5 k6 k8
    go_upto_region 34 with fail
    have hRu : RAt W w.heap.size (.slice Ad hs.length cd) (.slice Af hs.length cf) (.slice Ae es.length ce) := HRa.out.of rfl
    have hR3u : RAt W (w.heap.size + 1 + 1 + 1) (.slice none 0 0) (.slice none 0 0) (.slice none 0 0) := HR3.out.of rfl
    have hHu : W.rangeAt (w.heap.size + 1 + 1) 0 h := range_of_block HH.out rfl
    have hEu : W.rangeAt (w.heap.size + 1) 0 ev := range_of_block HE.out rfl
    have hBu : Below w.heap.size w W := HB.out
    have hSu : w.heap.size + 1 + 1 + 1 < W.heap.size := by have := HSz.out; show _ < W.heap.size; omega
    obtain ⟨U, hU⟩ : ∃ U, W = U := ⟨_, rfl⟩
    rw [hU] at hRu hR3u hHu hEu hBu hSu
    rw [hU]
    clear hU c0 c1 c2 e0 e1 e46 g0 g1 g34 f6 f3 xx0 xx1 xx2
    have HUC := Lib.hid hRu
    have HU3 := Lib.hid hR3u
    have HUH := Lib.hid hHu
    have HUE := Lib.hid hEu
    have HUB := Lib.hid hBu
    have HUS := Lib.hid hSu
    have HUD := Lib.hid (HDw.out.later hBu)
    have HUHl : Hid (w.heap.size + 1 + 1 < U.heap.size) := Lib.hid (by omega)
    have HUEl : Hid (w.heap.size + 1 < U.heap.size) := Lib.hid (by omega)
    clear hRu hR3u hHu hEu hBu hSu
    have HUR : Hid (Recs evK U (.slice Ae es.length ce) es ∧ NilOr (.slice Ae es.length ce)) := Lib.hid ⟨HUD.out.ev.recs, ownH_nil_or HUD.out.ev⟩
    have hU0 : Below U.heap.size U U.drew := (Below.refl _ _).drew
    have uq0 : w.heap.size < U.heap.size := HUC.out.lt
    have urb : w.heap.size + 1 < U.heap.size := HUEl.out
    have xc := HUC.out.c2
    refine region_G 8 (fun w' => Below U.heap.size U w') (by kernel_rfl) hU0 (fun h0 => ?_)
    refine wpAnyG_take 1 _ (.pointer (some ⟨w.heap.size, 2, none⟩)) rfl (by kernel_rfl) (by kernel_rfl) (by kernel_rfl) (by kernel_rfl) (fun _ _ _ h => h) h0 (.inl ⟨by rfl, fun ww hS => by rfl⟩) ?_
    try simp only [List.getElem_toArray, List.getElem_cons_zero, List.getElem_cons_succ, Act.put, List.setIfInBounds_toArray, List.set_cons_zero, List.set_cons_succ]
    refine wpAnyG_take 2 _ (.slice Ae es.length ce) rfl (by kernel_rfl) (by kernel_rfl) (by kernel_rfl) (by kernel_rfl) (fun _ _ _ h => h) h0 (.inl ⟨by rfl, fun ww hS => by have hc := (hS.cell (p := ⟨w.heap.size, 2, none⟩) uq0).trans xc; go_simp⟩) ?_
    try simp only [List.getElem_toArray, List.getElem_cons_zero, List.getElem_cons_succ, Act.put, List.setIfInBounds_toArray, List.set_cons_zero, List.set_cons_succ]
    refine wpAnyG_take 4 _ (.agg ev.toArray) rfl (by kernel_rfl) (by kernel_rfl) (by kernel_rfl) (by kernel_rfl) (fun _ _ _ h => h) h0 (yieldsIf_load_mid (by rfl) 48 _ rfl (w.heap.size + 1) (0) rfl ev _ (fun ww hS => range_below HUE.out hS urb) Tryd.underlying48 rfl (rev_info HTe.out)) ?_
    try simp only [List.getElem_toArray, List.getElem_cons_zero, List.getElem_cons_succ, Act.put, List.setIfInBounds_toArray, List.set_cons_zero, List.set_cons_succ]
    refine wpAnyG_ready [0, 5] (by kernel_rfl) (by simp) ?_
    refine AllReadyG.cons 0 _ rfl (fun K' hK => ?_) (AllReadyG.cons 5 _ rfl (fun K' hK => ?_) AllReadyG.nil)
    · go_simp
      refine hK.out _ _ (fun _ => h0.alloc h0.size _) ?_
      clear hK K'
      try simp only [List.getElem_toArray, List.getElem_cons_zero, List.getElem_cons_succ, Act.put, List.setIfInBounds_toArray, List.set_cons_zero, List.set_cons_succ]
      have h1 : Below U.heap.size U ((U.alloc (.cells #[] 48)).drew) := h0.alloc h0.size _
      have HO1 : Hid (OwnR 48 evK ((U.alloc (.cells #[] 48)).drew) U.heap.size (.slice (some ⟨U.heap.size, 0, none⟩) 0 0) []) := Lib.hid (ownR_base (own_empty 48 evK U.drew) h0.size)
      obtain ⟨U1, hEU1⟩ : ∃ u, (U.alloc (.cells #[] 48)).drew = u := ⟨_, rfl⟩
      rw [hEU1] at h1 HO1
      rw [hEU1]
      clear hEU1
      refine wpAnyG_ready [3, 5] (by kernel_rfl) (by simp) ?_
      refine AllReadyG.cons 3 _ rfl (fun K' hK => ?_) (AllReadyG.cons 5 _ rfl (fun K' hK => ?_) AllReadyG.nil)
      · have rr := HUR.out.1.below evK_pos h1
        refine step_app_new rfl (.tmp 153) (.tmp 155) 34 48 evK evZ 128 Tryd.underlying34 revZ_info evZ_size evK_pos (by decide) rfl U.heap.size _ (es) rfl HO1.out _ rfl rr HUR.out.2 (by have := HL.out; have := HLe.out; omega) h1.size ?_
        intro A3 c3 U3 o1 o2 o4
        have h3 : Below U.heap.size U U3 := h1.trans o4
        refine hK.out _ _ (fun _ => h3) ?_
        clear hK K'
        try simp only [List.getElem_toArray, List.getElem_cons_zero, List.getElem_cons_succ, Act.put, List.setIfInBounds_toArray, List.set_cons_zero, List.set_cons_succ]
        have HO3 := Lib.hid o1
        have HG3 := Lib.hid o2
        clear o1 o2 o4 rr
        refine wpAnyG_ready [5] (by kernel_rfl) (by simp) ?_
        refine AllReadyG.cons 5 _ rfl (fun K' hK => ?_) AllReadyG.nil
        refine step_build1 rfl 34 48 (.tmp 157) rfl ev rfl evK HTe.out evZ 128 Tryd.underlying34 revZ_info evK_pos (by decide) ?_
        refine hK.out _ _ (fun _ => h3.alloc h3.size _) ?_
        clear hK K'
        try simp only [List.getElem_toArray, List.getElem_cons_zero, List.getElem_cons_succ, Act.put, List.setIfInBounds_toArray, List.set_cons_zero, List.set_cons_succ]
        have h4 : Below U.heap.size U (U3.alloc (.cells ev.toArray 48)) := h3.alloc h3.size _
        have HR4 : Hid (Recs evK (U3.alloc (.cells ev.toArray 48)) (.slice (some ⟨U3.heap.size, 0, none⟩) 1 1) [ev]) := Lib.hid (recs_one U3 48 HTe.out)
        have HO4 := Lib.hid (HO3.out.alloc (.cells ev.toArray 48))
        obtain ⟨U4, hEU4⟩ : ∃ u, U3.alloc (.cells ev.toArray 48) = u := ⟨_, rfl⟩
        rw [hEU4] at h4 HR4 HO4
        rw [hEU4]
        clear hEU4
        refine wpAnyG_ready [6] (by kernel_rfl) (by simp) ?_
        refine AllReadyG.cons 6 _ rfl (fun K' hK => ?_) AllReadyG.nil
        refine step_app_one rfl (.tmp 156) (.tmp 158) 34 48 evK evZ 128 Tryd.underlying34 revZ_info evZ_size evK_pos (by decide) rfl U.heap.size _ (es) ev rfl HO4.out _ rfl HR4.out (.inr ⟨_, _, _, rfl⟩) (by have := HL.out; have := HLe.out; omega) h4.size ?_
        intro A6 c6 U6 o1 o4
        have h6 : Below U.heap.size U U6 := h4.trans o4
        refine hK.out _ _ (fun _ => h6) ?_
        clear hK K'
        try simp only [List.getElem_toArray, List.getElem_cons_zero, List.getElem_cons_succ, Act.put, List.setIfInBounds_toArray, List.set_cons_zero, List.set_cons_succ]
        have HO6 := Lib.hid o1
        clear o1 o4
        refine wpAnyG_take 7 _ (.pointer (some ⟨w.heap.size, 2, none⟩)) rfl (by kernel_rfl) (by kernel_rfl) (by kernel_rfl) (by kernel_rfl) (fun _ _ _ h => h) h6 (.inl ⟨by rfl, fun ww hS => by rfl⟩) ?_
        try simp only [List.getElem_toArray, List.getElem_cons_zero, List.getElem_cons_succ, Act.put, List.setIfInBounds_toArray, List.set_cons_zero, List.set_cons_succ]
        have hC6 := HUC.out.of (h6.block _ uq0)
        have hc6 := hC6.c2
        have hf6 := World.rowIs.frozen hC6 2
        have HC6 := Lib.hid hC6
        clear hC6
        refine wpAnyG_ready [8] (by kernel_rfl) (by simp) ?_
        refine AllReadyG.cons 8 _ rfl (fun K' hK => ?_) AllReadyG.nil
        go_simp
        refine hK.out _ _ (fun h => absurd rfl h) ?_
        clear hK K'
        refine wpAnyG_done (by kernel_rfl) ?_ _
        have HB6 := Lib.hid h6
        go_upto_region 35 with fail
        have hq0U : w.heap.size < U.heap.size := HUC.out.lt
        have hC7 := HC6.out.s2 (.slice A6 (es.length + 1) c6)
        have hO7 := HO6.out.only (Only.set (N := fun k => k = w.heap.size) U6 w.heap.size 2 (.slice A6 (es.length + 1) c6) rfl) (fun k hk e => by have := (OwnR.lt HO6.out k hk).1; omega)
        have hB7 : Below w.heap.size w (U6.setCell ⟨w.heap.size, 2, none⟩ (.slice A6 (es.length + 1) c6)) := (HUB.out.trans (HB6.out.mono (Nat.le_of_lt hq0U))).setCell (p := ⟨w.heap.size, 2, none⟩) (Nat.le_refl _) _
        have hR7 := HU3.out.of (((set_only U6 w.heap.size 2 (.slice A6 (es.length + 1) c6)).2 _ (by omega)).trans (HB6.out.block _ HUS.out))
        obtain ⟨Z, hZ⟩ : ∃ Z, U6.setCell ⟨w.heap.size, 2, none⟩ (.slice A6 (es.length + 1) c6) = Z := ⟨_, rfl⟩
        rw [hZ] at hC7 hO7 hB7 hR7
        rw [hZ]
        clear hZ hc6 hf6 h6
        have hdz := HDw.out.later hB7
        have hDz : DSt Z base (.slice Ad hs.length cd) (.slice Af hs.length cf) (.slice A6 (es.length + 1) c6) hs n (es ++ [ev]) := ⟨hdz.hd, hdz.fin, ownR_base hO7 (Nat.le_trans HDw.out.bw (Nat.le_of_lt hq0U)), hdz.bw, hdz.le⟩
        have HEnd : Hid (∀ a b c, DEnd w (((Z.setCell ⟨w.heap.size + 1 + 1 + 1, 0, none⟩ a).setCell ⟨w.heap.size + 1 + 1 + 1, 1, none⟩ b).setCell ⟨w.heap.size + 1 + 1 + 1, 2, none⟩ c) base (.slice Ad hs.length cd) (.slice Af hs.length cf) (.slice Ae es.length ce) (.agg #[.slice Ad hs.length cd, .slice Af hs.length cf, .slice A6 (es.length + 1) c6]) hs n (es ++ [ev])) := Lib.hid (fun a b c => dend_new hDz (.inl rfl) (.inl rfl) (.inr fun k hk => by have := (OwnR.lt hO7 k hk).1; omega) hB7 (by omega) (fun k hk e => by have := (OwnR.lt HDw.out.hd k hk).2; omega) (fun k hk e => by have := (OwnR.lt HDw.out.fin k hk).2; omega) (fun k hk e => by have := (OwnR.lt hO7 k hk).1; have := HUS.out; omega))
        have HCz := Lib.hid hC7
        have HRz := Lib.hid hR7
        clear hC7 hO7 hB7 hR7 hdz hDz hq0U
        have z0 := HCz.out.c0
        have z1 := HCz.out.c1
        have z2 := HCz.out.c2
        have y0 := HRz.out.c0
        have y1 := HRz.out.c1
        have y2 := HRz.out.c2
        have fz := fun o => World.rowIs.frozen HRz.out o
        go_wp2_with fail
        try simp only [Exit.inBlock, Exit.then]
        exact bodyPost_ret (results_mid2 rfl _ _ (w.heap.size + 1 + 1 + 1) [.slice Ad hs.length cd, .slice Af hs.length cf, .slice A6 (es.length + 1) c6] _ rfl (rat_set3 HRz.out _ _ _).range Tryd.underlying36 rfl r3_info) rfl ⟨_, by rw [T1.out]; rfl, by rw [T2.out, T3.out, T4.out]; exact HEnd.out _ _ _⟩
      · refine step_build1 rfl 34 48 (.tmp 157) rfl ev rfl evK HTe.out evZ 128 Tryd.underlying34 revZ_info evK_pos (by decide) ?_
        refine hK.out _ _ (fun _ => h1.alloc h1.size _) ?_
        clear hK K'
        try simp only [List.getElem_toArray, List.getElem_cons_zero, List.getElem_cons_succ, Act.put, List.setIfInBounds_toArray, List.set_cons_zero, List.set_cons_succ]
        have h2 : Below U.heap.size U (U1.alloc (.cells ev.toArray 48)) := h1.alloc h1.size _
        have HR2x : Hid (Recs evK (U1.alloc (.cells ev.toArray 48)) (.slice (some ⟨U1.heap.size, 0, none⟩) 1 1) [ev]) := Lib.hid (recs_one U1 48 HTe.out)
        have HO2 := Lib.hid (HO1.out.alloc (.cells ev.toArray 48))
        have hz2 : U1.heap.size < (U1.alloc (.cells ev.toArray 48)).heap.size := by simp
        obtain ⟨U2, hEU2⟩ : ∃ u, U1.alloc (.cells ev.toArray 48) = u := ⟨_, rfl⟩
        rw [hEU2] at h2 HR2x HO2 hz2
        rw [hEU2]
        clear hEU2
        have hzz : U.heap.size < U1.heap.size := (OwnR.lt HO1.out _ rfl).2
        refine wpAnyG_ready [3] (by kernel_rfl) (by simp) ?_
        refine AllReadyG.cons 3 _ rfl (fun K' hK => ?_) AllReadyG.nil
        have rr := HUR.out.1.below evK_pos h2
        refine step_app_new rfl (.tmp 153) (.tmp 155) 34 48 evK evZ 128 Tryd.underlying34 revZ_info evZ_size evK_pos (by decide) rfl U.heap.size _ (es) rfl HO2.out _ rfl rr HUR.out.2 (by have := HL.out; have := HLe.out; omega) h2.size ?_
        intro A3 c3 U3 o1 o2 o4
        have h3 : Below U.heap.size U U3 := h2.trans o4
        refine hK.out _ _ (fun _ => h3) ?_
        clear hK K'
        try simp only [List.getElem_toArray, List.getElem_cons_zero, List.getElem_cons_succ, Act.put, List.setIfInBounds_toArray, List.set_cons_zero, List.set_cons_succ]
        have HO3 := Lib.hid o1
        have HG3 := Lib.hid o2
        clear o1 o2 o4 rr
        have HR4 := Lib.hid (HR2x.out.same (HG3.out.block _ hz2 (by intro e; have e1 := Option.some.inj e; dsimp only at e1; have e2 : U.drew.heap.size = U.heap.size := rfl; omega)))
        have HO4 := HO3
        refine wpAnyG_ready [6] (by kernel_rfl) (by simp) ?_
        refine AllReadyG.cons 6 _ rfl (fun K' hK => ?_) AllReadyG.nil
        refine step_app_one rfl (.tmp 156) (.tmp 158) 34 48 evK evZ 128 Tryd.underlying34 revZ_info evZ_size evK_pos (by decide) rfl U.heap.size _ (es) ev rfl HO4.out _ rfl HR4.out (.inr ⟨_, _, _, rfl⟩) (by have := HL.out; have := HLe.out; omega) h3.size ?_
        intro A6 c6 U6 o1 o4
        have h6 : Below U.heap.size U U6 := h3.trans o4
        refine hK.out _ _ (fun _ => h6) ?_
        clear hK K'
        try simp only [List.getElem_toArray, List.getElem_cons_zero, List.getElem_cons_succ, Act.put, List.setIfInBounds_toArray, List.set_cons_zero, List.set_cons_succ]
        have HO6 := Lib.hid o1
        clear o1 o4
        refine wpAnyG_take 7 _ (.pointer (some ⟨w.heap.size, 2, none⟩)) rfl (by kernel_rfl) (by kernel_rfl) (by kernel_rfl) (by kernel_rfl) (fun _ _ _ h => h) h6 (.inl ⟨by rfl, fun ww hS => by rfl⟩) ?_
        try simp only [List.getElem_toArray, List.getElem_cons_zero, List.getElem_cons_succ, Act.put, List.setIfInBounds_toArray, List.set_cons_zero, List.set_cons_succ]
        have hC6 := HUC.out.of (h6.block _ uq0)
        have hc6 := hC6.c2
        have hf6 := World.rowIs.frozen hC6 2
        have HC6 := Lib.hid hC6
        clear hC6
        refine wpAnyG_ready [8] (by kernel_rfl) (by simp) ?_
        refine AllReadyG.cons 8 _ rfl (fun K' hK => ?_) AllReadyG.nil
        go_simp
        refine hK.out _ _ (fun h => absurd rfl h) ?_
        clear hK K'
        refine wpAnyG_done (by kernel_rfl) ?_ _
        have HB6 := Lib.hid h6
        go_upto_region 35 with fail
        have hq0U : w.heap.size < U.heap.size := HUC.out.lt
        have hC7 := HC6.out.s2 (.slice A6 (es.length + 1) c6)
        have hO7 := HO6.out.only (Only.set (N := fun k => k = w.heap.size) U6 w.heap.size 2 (.slice A6 (es.length + 1) c6) rfl) (fun k hk e => by have := (OwnR.lt HO6.out k hk).1; omega)
        have hB7 : Below w.heap.size w (U6.setCell ⟨w.heap.size, 2, none⟩ (.slice A6 (es.length + 1) c6)) := (HUB.out.trans (HB6.out.mono (Nat.le_of_lt hq0U))).setCell (p := ⟨w.heap.size, 2, none⟩) (Nat.le_refl _) _
        have hR7 := HU3.out.of (((set_only U6 w.heap.size 2 (.slice A6 (es.length + 1) c6)).2 _ (by omega)).trans (HB6.out.block _ HUS.out))
        obtain ⟨Z, hZ⟩ : ∃ Z, U6.setCell ⟨w.heap.size, 2, none⟩ (.slice A6 (es.length + 1) c6) = Z := ⟨_, rfl⟩
        rw [hZ] at hC7 hO7 hB7 hR7
        rw [hZ]
        clear hZ hc6 hf6 h6
        have hdz := HDw.out.later hB7
        have hDz : DSt Z base (.slice Ad hs.length cd) (.slice Af hs.length cf) (.slice A6 (es.length + 1) c6) hs n (es ++ [ev]) := ⟨hdz.hd, hdz.fin, ownR_base hO7 (Nat.le_trans HDw.out.bw (Nat.le_of_lt hq0U)), hdz.bw, hdz.le⟩
        have HEnd : Hid (∀ a b c, DEnd w (((Z.setCell ⟨w.heap.size + 1 + 1 + 1, 0, none⟩ a).setCell ⟨w.heap.size + 1 + 1 + 1, 1, none⟩ b).setCell ⟨w.heap.size + 1 + 1 + 1, 2, none⟩ c) base (.slice Ad hs.length cd) (.slice Af hs.length cf) (.slice Ae es.length ce) (.agg #[.slice Ad hs.length cd, .slice Af hs.length cf, .slice A6 (es.length + 1) c6]) hs n (es ++ [ev])) := Lib.hid (fun a b c => dend_new hDz (.inl rfl) (.inl rfl) (.inr fun k hk => by have := (OwnR.lt hO7 k hk).1; omega) hB7 (by omega) (fun k hk e => by have := (OwnR.lt HDw.out.hd k hk).2; omega) (fun k hk e => by have := (OwnR.lt HDw.out.fin k hk).2; omega) (fun k hk e => by have := (OwnR.lt hO7 k hk).1; have := HUS.out; omega))
        have HCz := Lib.hid hC7
        have HRz := Lib.hid hR7
        clear hC7 hO7 hB7 hR7 hdz hDz hq0U
        have z0 := HCz.out.c0
        have z1 := HCz.out.c1
        have z2 := HCz.out.c2
        have y0 := HRz.out.c0
        have y1 := HRz.out.c1
        have y2 := HRz.out.c2
        have fz := fun o => World.rowIs.frozen HRz.out o
        go_wp2_with fail
        try simp only [Exit.inBlock, Exit.then]
        exact bodyPost_ret (results_mid2 rfl _ _ (w.heap.size + 1 + 1 + 1) [.slice Ad hs.length cd, .slice Af hs.length cf, .slice A6 (es.length + 1) c6] _ rfl (rat_set3 HRz.out _ _ _).range Tryd.underlying36 rfl r3_info) rfl ⟨_, by rw [T1.out]; rfl, by rw [T2.out, T3.out, T4.out]; exact HEnd.out _ _ _⟩
    · refine step_build1 rfl 34 48 (.tmp 157) rfl ev rfl evK HTe.out evZ 128 Tryd.underlying34 revZ_info evK_pos (by decide) ?_
      refine hK.out _ _ (fun _ => h0.alloc h0.size _) ?_
      clear hK K'
      try simp only [List.getElem_toArray, List.getElem_cons_zero, List.getElem_cons_succ, Act.put, List.setIfInBounds_toArray, List.set_cons_zero, List.set_cons_succ]
      have h1 : Below U.heap.size U (U.drew.alloc (.cells ev.toArray 48)) := h0.alloc h0.size _
      have HR1x : Hid (Recs evK (U.drew.alloc (.cells ev.toArray 48)) (.slice (some ⟨U.heap.size, 0, none⟩) 1 1) [ev]) := Lib.hid (recs_one U.drew 48 HTe.out)
      have hz1 : U.heap.size < (U.drew.alloc (.cells ev.toArray 48)).heap.size := by show U.heap.size < (U.alloc _).heap.size; simp
      obtain ⟨U1, hEU1⟩ : ∃ u, U.drew.alloc (.cells ev.toArray 48) = u := ⟨_, rfl⟩
      rw [hEU1] at h1 HR1x hz1
      rw [hEU1]
      clear hEU1
      refine wpAnyG_ready [0] (by kernel_rfl) (by simp) ?_
      refine AllReadyG.cons 0 _ rfl (fun K' hK => ?_) AllReadyG.nil
      go_simp
      refine hK.out _ _ (fun _ => h1.alloc h1.size _) ?_
      clear hK K'
      try simp only [List.getElem_toArray, List.getElem_cons_zero, List.getElem_cons_succ, Act.put, List.setIfInBounds_toArray, List.set_cons_zero, List.set_cons_succ]
      have h2 : Below U.heap.size U (U1.alloc (.cells #[] 48)) := h1.alloc h1.size _
      have HO2 : Hid (OwnR 48 evK (U1.alloc (.cells #[] 48)) U.heap.size (.slice (some ⟨U1.heap.size, 0, none⟩) 0 0) []) := Lib.hid (ownR_base (own_empty 48 evK U1) h1.size)
      have HR2x := Lib.hid (HR1x.out.below evK_pos ((Below.refl _ _).alloc (Nat.le_refl _) (.cells #[] 48)))
      have hz2 : U1.heap.size < (U1.alloc (.cells #[] 48)).heap.size := by simp
      obtain ⟨U2, hEU2⟩ : ∃ u, U1.alloc (.cells #[] 48) = u := ⟨_, rfl⟩
      rw [hEU2] at h2 HO2 HR2x hz2
      rw [hEU2]
      clear hEU2
      refine wpAnyG_ready [3] (by kernel_rfl) (by simp) ?_
      refine AllReadyG.cons 3 _ rfl (fun K' hK => ?_) AllReadyG.nil
      have rr := HUR.out.1.below evK_pos h2
      refine step_app_new rfl (.tmp 153) (.tmp 155) 34 48 evK evZ 128 Tryd.underlying34 revZ_info evZ_size evK_pos (by decide) rfl U.heap.size _ (es) rfl HO2.out _ rfl rr HUR.out.2 (by have := HL.out; have := HLe.out; omega) h2.size ?_
      intro A3 c3 U3 o1 o2 o4
      have h3 : Below U.heap.size U U3 := h2.trans o4
      refine hK.out _ _ (fun _ => h3) ?_
      clear hK K'
      try simp only [List.getElem_toArray, List.getElem_cons_zero, List.getElem_cons_succ, Act.put, List.setIfInBounds_toArray, List.set_cons_zero, List.set_cons_succ]
      have HO3 := Lib.hid o1
      have HG3 := Lib.hid o2
      clear o1 o2 o4 rr
      have HR4 := Lib.hid (HR2x.out.same (HG3.out.block _ (Nat.lt_trans hz1 hz2) (by intro e; have e1 := Option.some.inj e; dsimp only at e1; omega)))
      have HO4 := HO3
      refine wpAnyG_ready [6] (by kernel_rfl) (by simp) ?_
      refine AllReadyG.cons 6 _ rfl (fun K' hK => ?_) AllReadyG.nil
      refine step_app_one rfl (.tmp 156) (.tmp 158) 34 48 evK evZ 128 Tryd.underlying34 revZ_info evZ_size evK_pos (by decide) rfl U.heap.size _ (es) ev rfl HO4.out _ rfl HR4.out (.inr ⟨_, _, _, rfl⟩) (by have := HL.out; have := HLe.out; omega) h3.size ?_
      intro A6 c6 U6 o1 o4
      have h6 : Below U.heap.size U U6 := h3.trans o4
      refine hK.out _ _ (fun _ => h6) ?_
      clear hK K'
      try simp only [List.getElem_toArray, List.getElem_cons_zero, List.getElem_cons_succ, Act.put, List.setIfInBounds_toArray, List.set_cons_zero, List.set_cons_succ]
      have HO6 := Lib.hid o1
      clear o1 o4
      refine wpAnyG_take 7 _ (.pointer (some ⟨w.heap.size, 2, none⟩)) rfl (by kernel_rfl) (by kernel_rfl) (by kernel_rfl) (by kernel_rfl) (fun _ _ _ h => h) h6 (.inl ⟨by rfl, fun ww hS => by rfl⟩) ?_
      try simp only [List.getElem_toArray, List.getElem_cons_zero, List.getElem_cons_succ, Act.put, List.setIfInBounds_toArray, List.set_cons_zero, List.set_cons_succ]
      have hC6 := HUC.out.of (h6.block _ uq0)
      have hc6 := hC6.c2
      have hf6 := World.rowIs.frozen hC6 2
      have HC6 := Lib.hid hC6
      clear hC6
      refine wpAnyG_ready [8] (by kernel_rfl) (by simp) ?_
      refine AllReadyG.cons 8 _ rfl (fun K' hK => ?_) AllReadyG.nil
      go_simp
      refine hK.out _ _ (fun h => absurd rfl h) ?_
      clear hK K'
      refine wpAnyG_done (by kernel_rfl) ?_ _
      have HB6 := Lib.hid h6
      go_upto_region 35 with fail
      have hq0U : w.heap.size < U.heap.size := HUC.out.lt
      have hC7 := HC6.out.s2 (.slice A6 (es.length + 1) c6)
      have hO7 := HO6.out.only (Only.set (N := fun k => k = w.heap.size) U6 w.heap.size 2 (.slice A6 (es.length + 1) c6) rfl) (fun k hk e => by have := (OwnR.lt HO6.out k hk).1; omega)
      have hB7 : Below w.heap.size w (U6.setCell ⟨w.heap.size, 2, none⟩ (.slice A6 (es.length + 1) c6)) := (HUB.out.trans (HB6.out.mono (Nat.le_of_lt hq0U))).setCell (p := ⟨w.heap.size, 2, none⟩) (Nat.le_refl _) _
      have hR7 := HU3.out.of (((set_only U6 w.heap.size 2 (.slice A6 (es.length + 1) c6)).2 _ (by omega)).trans (HB6.out.block _ HUS.out))
      obtain ⟨Z, hZ⟩ : ∃ Z, U6.setCell ⟨w.heap.size, 2, none⟩ (.slice A6 (es.length + 1) c6) = Z := ⟨_, rfl⟩
      rw [hZ] at hC7 hO7 hB7 hR7
      rw [hZ]
      clear hZ hc6 hf6 h6
      have hdz := HDw.out.later hB7
      have hDz : DSt Z base (.slice Ad hs.length cd) (.slice Af hs.length cf) (.slice A6 (es.length + 1) c6) hs n (es ++ [ev]) := ⟨hdz.hd, hdz.fin, ownR_base hO7 (Nat.le_trans HDw.out.bw (Nat.le_of_lt hq0U)), hdz.bw, hdz.le⟩
      have HEnd : Hid (∀ a b c, DEnd w (((Z.setCell ⟨w.heap.size + 1 + 1 + 1, 0, none⟩ a).setCell ⟨w.heap.size + 1 + 1 + 1, 1, none⟩ b).setCell ⟨w.heap.size + 1 + 1 + 1, 2, none⟩ c) base (.slice Ad hs.length cd) (.slice Af hs.length cf) (.slice Ae es.length ce) (.agg #[.slice Ad hs.length cd, .slice Af hs.length cf, .slice A6 (es.length + 1) c6]) hs n (es ++ [ev])) := Lib.hid (fun a b c => dend_new hDz (.inl rfl) (.inl rfl) (.inr fun k hk => by have := (OwnR.lt hO7 k hk).1; omega) hB7 (by omega) (fun k hk e => by have := (OwnR.lt HDw.out.hd k hk).2; omega) (fun k hk e => by have := (OwnR.lt HDw.out.fin k hk).2; omega) (fun k hk e => by have := (OwnR.lt hO7 k hk).1; have := HUS.out; omega))
      have HCz := Lib.hid hC7
      have HRz := Lib.hid hR7
      clear hC7 hO7 hB7 hR7 hdz hDz hq0U
      have z0 := HCz.out.c0
      have z1 := HCz.out.c1
      have z2 := HCz.out.c2
      have y0 := HRz.out.c0
      have y1 := HRz.out.c1
      have y2 := HRz.out.c2
      have fz := fun o => World.rowIs.frozen HRz.out o
      go_wp2_with fail
      try simp only [Exit.inBlock, Exit.then]
      exact bodyPost_ret (results_mid2 rfl _ _ (w.heap.size + 1 + 1 + 1) [.slice Ad hs.length cd, .slice Af hs.length cf, .slice A6 (es.length + 1) c6] _ rfl (rat_set3 HRz.out _ _ _).range Tryd.underlying36 rfl r3_info) rfl ⟨_, by rw [T1.out]; rfl, by rw [T2.out, T3.out, T4.out]; exact HEnd.out _ _ _⟩
  by_cases k11 : intAt ev 0 = 11
  · rw [k11] at e0
    have T4 : Hid (tkS es ev = es ++ [ev]) := Lib.hid (by simp [tkS, k11])
    clear k4 k5 k6 k8 k11
    go_upto_region 34 with fail
    have hRu : RAt W w.heap.size (.slice Ad hs.length cd) (.slice Af hs.length cf) (.slice Ae es.length ce) := HRa.out.of rfl
    have hR3u : RAt W (w.heap.size + 1 + 1 + 1) (.slice none 0 0) (.slice none 0 0) (.slice none 0 0) := HR3.out.of rfl
    have hHu : W.rangeAt (w.heap.size + 1 + 1) 0 h := range_of_block HH.out rfl
    have hEu : W.rangeAt (w.heap.size + 1) 0 ev := range_of_block HE.out rfl
    have hBu : Below w.heap.size w W := HB.out
    have hSu : w.heap.size + 1 + 1 + 1 < W.heap.size := by have := HSz.out; show _ < W.heap.size; omega
    obtain ⟨U, hU⟩ : ∃ U, W = U := ⟨_, rfl⟩
    rw [hU] at hRu hR3u hHu hEu hBu hSu
    rw [hU]
    clear hU c0 c1 c2 e0 e1 e46 g0 g1 g34 f6 f3 xx0 xx1 xx2
    have HUC := Lib.hid hRu
    have HU3 := Lib.hid hR3u
    have HUH := Lib.hid hHu
    have HUE := Lib.hid hEu
    have HUB := Lib.hid hBu
    have HUS := Lib.hid hSu
    have HUD := Lib.hid (HDw.out.later hBu)
    have HUHl : Hid (w.heap.size + 1 + 1 < U.heap.size) := Lib.hid (by omega)
    have HUEl : Hid (w.heap.size + 1 < U.heap.size) := Lib.hid (by omega)
    clear hRu hR3u hHu hEu hBu hSu
    have HUR : Hid (Recs evK U (.slice Ae es.length ce) es ∧ NilOr (.slice Ae es.length ce)) := Lib.hid ⟨HUD.out.ev.recs, ownH_nil_or HUD.out.ev⟩
    have hU0 : Below U.heap.size U U.drew := (Below.refl _ _).drew
    have uq0 : w.heap.size < U.heap.size := HUC.out.lt
    have urb : w.heap.size + 1 < U.heap.size := HUEl.out
    have xc := HUC.out.c2
    refine region_G 8 (fun w' => Below U.heap.size U w') (by kernel_rfl) hU0 (fun h0 => ?_)
    refine wpAnyG_take 1 _ (.pointer (some ⟨w.heap.size, 2, none⟩)) rfl (by kernel_rfl) (by kernel_rfl) (by kernel_rfl) (by kernel_rfl) (fun _ _ _ h => h) h0 (.inl ⟨by rfl, fun ww hS => by rfl⟩) ?_
    try simp only [List.getElem_toArray, List.getElem_cons_zero, List.getElem_cons_succ, Act.put, List.setIfInBounds_toArray, List.set_cons_zero, List.set_cons_succ]
    refine wpAnyG_take 2 _ (.slice Ae es.length ce) rfl (by kernel_rfl) (by kernel_rfl) (by kernel_rfl) (by kernel_rfl) (fun _ _ _ h => h) h0 (.inl ⟨by rfl, fun ww hS => by have hc := (hS.cell (p := ⟨w.heap.size, 2, none⟩) uq0).trans xc; go_simp⟩) ?_
    try simp only [List.getElem_toArray, List.getElem_cons_zero, List.getElem_cons_succ, Act.put, List.setIfInBounds_toArray, List.set_cons_zero, List.set_cons_succ]
    refine wpAnyG_take 4 _ (.agg ev.toArray) rfl (by kernel_rfl) (by kernel_rfl) (by kernel_rfl) (by kernel_rfl) (fun _ _ _ h => h) h0 (yieldsIf_load_mid (by rfl) 48 _ rfl (w.heap.size + 1) (0) rfl ev _ (fun ww hS => range_below HUE.out hS urb) Tryd.underlying48 rfl (rev_info HTe.out)) ?_
    try simp only [List.getElem_toArray, List.getElem_cons_zero, List.getElem_cons_succ, Act.put, List.setIfInBounds_toArray, List.set_cons_zero, List.set_cons_succ]
    refine wpAnyG_ready [0, 5] (by kernel_rfl) (by simp) ?_
    refine AllReadyG.cons 0 _ rfl (fun K' hK => ?_) (AllReadyG.cons 5 _ rfl (fun K' hK => ?_) AllReadyG.nil)
    · go_simp
      refine hK.out _ _ (fun _ => h0.alloc h0.size _) ?_
      clear hK K'
      try simp only [List.getElem_toArray, List.getElem_cons_zero, List.getElem_cons_succ, Act.put, List.setIfInBounds_toArray, List.set_cons_zero, List.set_cons_succ]
      have h1 : Below U.heap.size U ((U.alloc (.cells #[] 48)).drew) := h0.alloc h0.size _
      have HO1 : Hid (OwnR 48 evK ((U.alloc (.cells #[] 48)).drew) U.heap.size (.slice (some ⟨U.heap.size, 0, none⟩) 0 0) []) := Lib.hid (ownR_base (own_empty 48 evK U.drew) h0.size)
      obtain ⟨U1, hEU1⟩ : ∃ u, (U.alloc (.cells #[] 48)).drew = u := ⟨_, rfl⟩
      rw [hEU1] at h1 HO1
      rw [hEU1]
      clear hEU1
      refine wpAnyG_ready [3, 5] (by kernel_rfl) (by simp) ?_
      refine AllReadyG.cons 3 _ rfl (fun K' hK => ?_) (AllReadyG.cons 5 _ rfl (fun K' hK => ?_) AllReadyG.nil)
      · have rr := HUR.out.1.below evK_pos h1
        refine step_app_new rfl (.tmp 153) (.tmp 155) 34 48 evK evZ 128 Tryd.underlying34 revZ_info evZ_size evK_pos (by decide) rfl U.heap.size _ (es) rfl HO1.out _ rfl rr HUR.out.2 (by have := HL.out; have := HLe.out; omega) h1.size ?_
        intro A3 c3 U3 o1 o2 o4
        have h3 : Below U.heap.size U U3 := h1.trans o4
        refine hK.out _ _ (fun _ => h3) ?_
        clear hK K'
        try simp only [List.getElem_toArray, List.getElem_cons_zero, List.getElem_cons_succ, Act.put, List.setIfInBounds_toArray, List.set_cons_zero, List.set_cons_succ]
        have HO3 := Lib.hid o1
        have HG3 := Lib.hid o2
        clear o1 o2 o4 rr
        refine wpAnyG_ready [5] (by kernel_rfl) (by simp) ?_
        refine AllReadyG.cons 5 _ rfl (fun K' hK => ?_) AllReadyG.nil
        refine step_build1 rfl 34 48 (.tmp 157) rfl ev rfl evK HTe.out evZ 128 Tryd.underlying34 revZ_info evK_pos (by decide) ?_
        refine hK.out _ _ (fun _ => h3.alloc h3.size _) ?_
        clear hK K'
        try simp only [List.getElem_toArray, List.getElem_cons_zero, List.getElem_cons_succ, Act.put, List.setIfInBounds_toArray, List.set_cons_zero, List.set_cons_succ]
        have h4 : Below U.heap.size U (U3.alloc (.cells ev.toArray 48)) := h3.alloc h3.size _
        have HR4 : Hid (Recs evK (U3.alloc (.cells ev.toArray 48)) (.slice (some ⟨U3.heap.size, 0, none⟩) 1 1) [ev]) := Lib.hid (recs_one U3 48 HTe.out)
        have HO4 := Lib.hid (HO3.out.alloc (.cells ev.toArray 48))
        obtain ⟨U4, hEU4⟩ : ∃ u, U3.alloc (.cells ev.toArray 48) = u := ⟨_, rfl⟩
        rw [hEU4] at h4 HR4 HO4
        rw [hEU4]
        clear hEU4
        refine wpAnyG_ready [6] (by kernel_rfl) (by simp) ?_
        refine AllReadyG.cons 6 _ rfl (fun K' hK => ?_) AllReadyG.nil
        refine step_app_one rfl (.tmp 156) (.tmp 158) 34 48 evK evZ 128 Tryd.underlying34 revZ_info evZ_size evK_pos (by decide) rfl U.heap.size _ (es) ev rfl HO4.out _ rfl HR4.out (.inr ⟨_, _, _, rfl⟩) (by have := HL.out; have := HLe.out; omega) h4.size ?_
        intro A6 c6 U6 o1 o4
        have h6 : Below U.heap.size U U6 := h4.trans o4
        refine hK.out _ _ (fun _ => h6) ?_
        clear hK K'
        try simp only [List.getElem_toArray, List.getElem_cons_zero, List.getElem_cons_succ, Act.put, List.setIfInBounds_toArray, List.set_cons_zero, List.set_cons_succ]
        have HO6 := Lib.hid o1
        clear o1 o4
        refine wpAnyG_take 7 _ (.pointer (some ⟨w.heap.size, 2, none⟩)) rfl (by kernel_rfl) (by kernel_rfl) (by kernel_rfl) (by kernel_rfl) (fun _ _ _ h => h) h6 (.inl ⟨by rfl, fun ww hS => by rfl⟩) ?_
        try simp only [List.getElem_toArray, List.getElem_cons_zero, List.getElem_cons_succ, Act.put, List.setIfInBounds_toArray, List.set_cons_zero, List.set_cons_succ]
        have hC6 := HUC.out.of (h6.block _ uq0)
        have hc6 := hC6.c2
        have hf6 := World.rowIs.frozen hC6 2
        have HC6 := Lib.hid hC6
        clear hC6
        refine wpAnyG_ready [8] (by kernel_rfl) (by simp) ?_
        refine AllReadyG.cons 8 _ rfl (fun K' hK => ?_) AllReadyG.nil
        go_simp
        refine hK.out _ _ (fun h => absurd rfl h) ?_
        clear hK K'
        refine wpAnyG_done (by kernel_rfl) ?_ _
        have HB6 := Lib.hid h6
        go_upto_region 35 with fail
        have hq0U : w.heap.size < U.heap.size := HUC.out.lt
        have hC7 := HC6.out.s2 (.slice A6 (es.length + 1) c6)
        have hO7 := HO6.out.only (Only.set (N := fun k => k = w.heap.size) U6 w.heap.size 2 (.slice A6 (es.length + 1) c6) rfl) (fun k hk e => by have := (OwnR.lt HO6.out k hk).1; omega)
        have hB7 : Below w.heap.size w (U6.setCell ⟨w.heap.size, 2, none⟩ (.slice A6 (es.length + 1) c6)) := (HUB.out.trans (HB6.out.mono (Nat.le_of_lt hq0U))).setCell (p := ⟨w.heap.size, 2, none⟩) (Nat.le_refl _) _
        have hR7 := HU3.out.of (((set_only U6 w.heap.size 2 (.slice A6 (es.length + 1) c6)).2 _ (by omega)).trans (HB6.out.block _ HUS.out))
        obtain ⟨Z, hZ⟩ : ∃ Z, U6.setCell ⟨w.heap.size, 2, none⟩ (.slice A6 (es.length + 1) c6) = Z := ⟨_, rfl⟩
        rw [hZ] at hC7 hO7 hB7 hR7
        rw [hZ]
        clear hZ hc6 hf6 h6
        have hdz := HDw.out.later hB7
        have hDz : DSt Z base (.slice Ad hs.length cd) (.slice Af hs.length cf) (.slice A6 (es.length + 1) c6) hs n (es ++ [ev]) := ⟨hdz.hd, hdz.fin, ownR_base hO7 (Nat.le_trans HDw.out.bw (Nat.le_of_lt hq0U)), hdz.bw, hdz.le⟩
        have HEnd : Hid (∀ a b c, DEnd w (((Z.setCell ⟨w.heap.size + 1 + 1 + 1, 0, none⟩ a).setCell ⟨w.heap.size + 1 + 1 + 1, 1, none⟩ b).setCell ⟨w.heap.size + 1 + 1 + 1, 2, none⟩ c) base (.slice Ad hs.length cd) (.slice Af hs.length cf) (.slice Ae es.length ce) (.agg #[.slice Ad hs.length cd, .slice Af hs.length cf, .slice A6 (es.length + 1) c6]) hs n (es ++ [ev])) := Lib.hid (fun a b c => dend_new hDz (.inl rfl) (.inl rfl) (.inr fun k hk => by have := (OwnR.lt hO7 k hk).1; omega) hB7 (by omega) (fun k hk e => by have := (OwnR.lt HDw.out.hd k hk).2; omega) (fun k hk e => by have := (OwnR.lt HDw.out.fin k hk).2; omega) (fun k hk e => by have := (OwnR.lt hO7 k hk).1; have := HUS.out; omega))
        have HCz := Lib.hid hC7
        have HRz := Lib.hid hR7
        clear hC7 hO7 hB7 hR7 hdz hDz hq0U
        have z0 := HCz.out.c0
        have z1 := HCz.out.c1
        have z2 := HCz.out.c2
        have y0 := HRz.out.c0
        have y1 := HRz.out.c1
        have y2 := HRz.out.c2
        have fz := fun o => World.rowIs.frozen HRz.out o
        go_wp2_with fail
        try simp only [Exit.inBlock, Exit.then]
        exact bodyPost_ret (results_mid2 rfl _ _ (w.heap.size + 1 + 1 + 1) [.slice Ad hs.length cd, .slice Af hs.length cf, .slice A6 (es.length + 1) c6] _ rfl (rat_set3 HRz.out _ _ _).range Tryd.underlying36 rfl r3_info) rfl ⟨_, by rw [T1.out]; rfl, by rw [T2.out, T3.out, T4.out]; exact HEnd.out _ _ _⟩
      · refine step_build1 rfl 34 48 (.tmp 157) rfl ev rfl evK HTe.out evZ 128 Tryd.underlying34 revZ_info evK_pos (by decide) ?_
        refine hK.out _ _ (fun _ => h1.alloc h1.size _) ?_
        clear hK K'
        try simp only [List.getElem_toArray, List.getElem_cons_zero, List.getElem_cons_succ, Act.put, List.setIfInBounds_toArray, List.set_cons_zero, List.set_cons_succ]
        have h2 : Below U.heap.size U (U1.alloc (.cells ev.toArray 48)) := h1.alloc h1.size _
        have HR2x : Hid (Recs evK (U1.alloc (.cells ev.toArray 48)) (.slice (some ⟨U1.heap.size, 0, none⟩) 1 1) [ev]) := Lib.hid (recs_one U1 48 HTe.out)
        have HO2 := Lib.hid (HO1.out.alloc (.cells ev.toArray 48))
        have hz2 : U1.heap.size < (U1.alloc (.cells ev.toArray 48)).heap.size := by simp
        obtain ⟨U2, hEU2⟩ : ∃ u, U1.alloc (.cells ev.toArray 48) = u := ⟨_, rfl⟩
        rw [hEU2] at h2 HR2x HO2 hz2
        rw [hEU2]
        clear hEU2
        have hzz : U.heap.size < U1.heap.size := (OwnR.lt HO1.out _ rfl).2
        refine wpAnyG_ready [3] (by kernel_rfl) (by simp) ?_
        refine AllReadyG.cons 3 _ rfl (fun K' hK => ?_) AllReadyG.nil
        have rr := HUR.out.1.below evK_pos h2
        refine step_app_new rfl (.tmp 153) (.tmp 155) 34 48 evK evZ 128 Tryd.underlying34 revZ_info evZ_size evK_pos (by decide) rfl U.heap.size _ (es) rfl HO2.out _ rfl rr HUR.out.2 (by have := HL.out; have := HLe.out; omega) h2.size ?_
        intro A3 c3 U3 o1 o2 o4
        have h3 : Below U.heap.size U U3 := h2.trans o4
        refine hK.out _ _ (fun _ => h3) ?_
        clear hK K'
        try simp only [List.getElem_toArray, List.getElem_cons_zero, List.getElem_cons_succ, Act.put, List.setIfInBounds_toArray, List.set_cons_zero, List.set_cons_succ]
        have HO3 := Lib.hid o1
        have HG3 := Lib.hid o2
        clear o1 o2 o4 rr
        have HR4 := Lib.hid (HR2x.out.same (HG3.out.block _ hz2 (by intro e; have e1 := Option.some.inj e; dsimp only at e1; have e2 : U.drew.heap.size = U.heap.size := rfl; omega)))
        have HO4 := HO3
        refine wpAnyG_ready [6] (by kernel_rfl) (by simp) ?_
        refine AllReadyG.cons 6 _ rfl (fun K' hK => ?_) AllReadyG.nil
        refine step_app_one rfl (.tmp 156) (.tmp 158) 34 48 evK evZ 128 Tryd.underlying34 revZ_info evZ_size evK_pos (by decide) rfl U.heap.size _ (es) ev rfl HO4.out _ rfl HR4.out (.inr ⟨_, _, _, rfl⟩) (by have := HL.out; have := HLe.out; omega) h3.size ?_
        intro A6 c6 U6 o1 o4
        have h6 : Below U.heap.size U U6 := h3.trans o4
        refine hK.out _ _ (fun _ => h6) ?_
        clear hK K'
        try simp only [List.getElem_toArray, List.getElem_cons_zero, List.getElem_cons_succ, Act.put, List.setIfInBounds_toArray, List.set_cons_zero, List.set_cons_succ]
        have HO6 := Lib.hid o1
        clear o1 o4
        refine wpAnyG_take 7 _ (.pointer (some ⟨w.heap.size, 2, none⟩)) rfl (by kernel_rfl) (by kernel_rfl) (by kernel_rfl) (by kernel_rfl) (fun _ _ _ h => h) h6 (.inl ⟨by rfl, fun ww hS => by rfl⟩) ?_
        try simp only [List.getElem_toArray, List.getElem_cons_zero, List.getElem_cons_succ, Act.put, List.setIfInBounds_toArray, List.set_cons_zero, List.set_cons_succ]
        have hC6 := HUC.out.of (h6.block _ uq0)
        have hc6 := hC6.c2
        have hf6 := World.rowIs.frozen hC6 2
        have HC6 := Lib.hid hC6
        clear hC6
        refine wpAnyG_ready [8] (by kernel_rfl) (by simp) ?_
        refine AllReadyG.cons 8 _ rfl (fun K' hK => ?_) AllReadyG.nil
        go_simp
        refine hK.out _ _ (fun h => absurd rfl h) ?_
        clear hK K'
        refine wpAnyG_done (by kernel_rfl) ?_ _
        have HB6 := Lib.hid h6
        go_upto_region 35 with fail
        have hq0U : w.heap.size < U.heap.size := HUC.out.lt
        have hC7 := HC6.out.s2 (.slice A6 (es.length + 1) c6)
        have hO7 := HO6.out.only (Only.set (N := fun k => k = w.heap.size) U6 w.heap.size 2 (.slice A6 (es.length + 1) c6) rfl) (fun k hk e => by have := (OwnR.lt HO6.out k hk).1; omega)
        have hB7 : Below w.heap.size w (U6.setCell ⟨w.heap.size, 2, none⟩ (.slice A6 (es.length + 1) c6)) := (HUB.out.trans (HB6.out.mono (Nat.le_of_lt hq0U))).setCell (p := ⟨w.heap.size, 2, none⟩) (Nat.le_refl _) _
        have hR7 := HU3.out.of (((set_only U6 w.heap.size 2 (.slice A6 (es.length + 1) c6)).2 _ (by omega)).trans (HB6.out.block _ HUS.out))
        obtain ⟨Z, hZ⟩ : ∃ Z, U6.setCell ⟨w.heap.size, 2, none⟩ (.slice A6 (es.length + 1) c6) = Z := ⟨_, rfl⟩
        rw [hZ] at hC7 hO7 hB7 hR7
        rw [hZ]
        clear hZ hc6 hf6 h6
        have hdz := HDw.out.later hB7
        have hDz : DSt Z base (.slice Ad hs.length cd) (.slice Af hs.length cf) (.slice A6 (es.length + 1) c6) hs n (es ++ [ev]) := ⟨hdz.hd, hdz.fin, ownR_base hO7 (Nat.le_trans HDw.out.bw (Nat.le_of_lt hq0U)), hdz.bw, hdz.le⟩
        have HEnd : Hid (∀ a b c, DEnd w (((Z.setCell ⟨w.heap.size + 1 + 1 + 1, 0, none⟩ a).setCell ⟨w.heap.size + 1 + 1 + 1, 1, none⟩ b).setCell ⟨w.heap.size + 1 + 1 + 1, 2, none⟩ c) base (.slice Ad hs.length cd) (.slice Af hs.length cf) (.slice Ae es.length ce) (.agg #[.slice Ad hs.length cd, .slice Af hs.length cf, .slice A6 (es.length + 1) c6]) hs n (es ++ [ev])) := Lib.hid (fun a b c => dend_new hDz (.inl rfl) (.inl rfl) (.inr fun k hk => by have := (OwnR.lt hO7 k hk).1; omega) hB7 (by omega) (fun k hk e => by have := (OwnR.lt HDw.out.hd k hk).2; omega) (fun k hk e => by have := (OwnR.lt HDw.out.fin k hk).2; omega) (fun k hk e => by have := (OwnR.lt hO7 k hk).1; have := HUS.out; omega))
        have HCz := Lib.hid hC7
        have HRz := Lib.hid hR7
        clear hC7 hO7 hB7 hR7 hdz hDz hq0U
        have z0 := HCz.out.c0
        have z1 := HCz.out.c1
        have z2 := HCz.out.c2
        have y0 := HRz.out.c0
        have y1 := HRz.out.c1
        have y2 := HRz.out.c2
        have fz := fun o => World.rowIs.frozen HRz.out o
        go_wp2_with fail
        try simp only [Exit.inBlock, Exit.then]
        exact bodyPost_ret (results_mid2 rfl _ _ (w.heap.size + 1 + 1 + 1) [.slice Ad hs.length cd, .slice Af hs.length cf, .slice A6 (es.length + 1) c6] _ rfl (rat_set3 HRz.out _ _ _).range Tryd.underlying36 rfl r3_info) rfl ⟨_, by rw [T1.out]; rfl, by rw [T2.out, T3.out, T4.out]; exact HEnd.out _ _ _⟩
    · refine step_build1 rfl 34 48 (.tmp 157) rfl ev rfl evK HTe.out evZ 128 Tryd.underlying34 revZ_info evK_pos (by decide) ?_
      refine hK.out _ _ (fun _ => h0.alloc h0.size _) ?_
      clear hK K'
      try simp only [List.getElem_toArray, List.getElem_cons_zero, List.getElem_cons_succ, Act.put, List.setIfInBounds_toArray, List.set_cons_zero, List.set_cons_succ]
      have h1 : Below U.heap.size U (U.drew.alloc (.cells ev.toArray 48)) := h0.alloc h0.size _
      have HR1x : Hid (Recs evK (U.drew.alloc (.cells ev.toArray 48)) (.slice (some ⟨U.heap.size, 0, none⟩) 1 1) [ev]) := Lib.hid (recs_one U.drew 48 HTe.out)
      have hz1 : U.heap.size < (U.drew.alloc (.cells ev.toArray 48)).heap.size := by show U.heap.size < (U.alloc _).heap.size; simp
      obtain ⟨U1, hEU1⟩ : ∃ u, U.drew.alloc (.cells ev.toArray 48) = u := ⟨_, rfl⟩
      rw [hEU1] at h1 HR1x hz1
      rw [hEU1]
      clear hEU1
      refine wpAnyG_ready [0] (by kernel_rfl) (by simp) ?_
      refine AllReadyG.cons 0 _ rfl (fun K' hK => ?_) AllReadyG.nil
      go_simp
      refine hK.out _ _ (fun _ => h1.alloc h1.size _) ?_
      clear hK K'
      try simp only [List.getElem_toArray, List.getElem_cons_zero, List.getElem_cons_succ, Act.put, List.setIfInBounds_toArray, List.set_cons_zero, List.set_cons_succ]
      have h2 : Below U.heap.size U (U1.alloc (.cells #[] 48)) := h1.alloc h1.size _
      have HO2 : Hid (OwnR 48 evK (U1.alloc (.cells #[] 48)) U.heap.size (.slice (some ⟨U1.heap.size, 0, none⟩) 0 0) []) := Lib.hid (ownR_base (own_empty 48 evK U1) h1.size)
      have HR2x := Lib.hid (HR1x.out.below evK_pos ((Below.refl _ _).alloc (Nat.le_refl _) (.cells #[] 48)))
      have hz2 : U1.heap.size < (U1.alloc (.cells #[] 48)).heap.size := by simp
      obtain ⟨U2, hEU2⟩ : ∃ u, U1.alloc (.cells #[] 48) = u := ⟨_, rfl⟩
      rw [hEU2] at h2 HO2 HR2x hz2
      rw [hEU2]
      clear hEU2
      refine wpAnyG_ready [3] (by kernel_rfl) (by simp) ?_
      refine AllReadyG.cons 3 _ rfl (fun K' hK => ?_) AllReadyG.nil
      have rr := HUR.out.1.below evK_pos h2
      refine step_app_new rfl (.tmp 153) (.tmp 155) 34 48 evK evZ 128 Tryd.underlying34 revZ_info evZ_size evK_pos (by decide) rfl U.heap.size _ (es) rfl HO2.out _ rfl rr HUR.out.2 (by have := HL.out; have := HLe.out; omega) h2.size ?_
      intro A3 c3 U3 o1 o2 o4
      have h3 : Below U.heap.size U U3 := h2.trans o4
      refine hK.out _ _ (fun _ => h3) ?_
      clear hK K'
      try simp only [List.getElem_toArray, List.getElem_cons_zero, List.getElem_cons_succ, Act.put, List.setIfInBounds_toArray, List.set_cons_zero, List.set_cons_succ]
      have HO3 := Lib.hid o1
      have HG3 := Lib.hid o2
      clear o1 o2 o4 rr
      have HR4 := Lib.hid (HR2x.out.same (HG3.out.block _ (Nat.lt_trans hz1 hz2) (by intro e; have e1 := Option.some.inj e; dsimp only at e1; omega)))
      have HO4 := HO3
      refine wpAnyG_ready [6] (by kernel_rfl) (by simp) ?_
      refine AllReadyG.cons 6 _ rfl (fun K' hK => ?_) AllReadyG.nil
      refine step_app_one rfl (.tmp 156) (.tmp 158) 34 48 evK evZ 128 Tryd.underlying34 revZ_info evZ_size evK_pos (by decide) rfl U.heap.size _ (es) ev rfl HO4.out _ rfl HR4.out (.inr ⟨_, _, _, rfl⟩) (by have := HL.out; have := HLe.out; omega) h3.size ?_
      intro A6 c6 U6 o1 o4
      have h6 : Below U.heap.size U U6 := h3.trans o4
      refine hK.out _ _ (fun _ => h6) ?_
      clear hK K'
      try simp only [List.getElem_toArray, List.getElem_cons_zero, List.getElem_cons_succ, Act.put, List.setIfInBounds_toArray, List.set_cons_zero, List.set_cons_succ]
      have HO6 := Lib.hid o1
      clear o1 o4
      refine wpAnyG_take 7 _ (.pointer (some ⟨w.heap.size, 2, none⟩)) rfl (by kernel_rfl) (by kernel_rfl) (by kernel_rfl) (by kernel_rfl) (fun _ _ _ h => h) h6 (.inl ⟨by rfl, fun ww hS => by rfl⟩) ?_
      try simp only [List.getElem_toArray, List.getElem_cons_zero, List.getElem_cons_succ, Act.put, List.setIfInBounds_toArray, List.set_cons_zero, List.set_cons_succ]
      have hC6 := HUC.out.of (h6.block _ uq0)
      have hc6 := hC6.c2
      have hf6 := World.rowIs.frozen hC6 2
      have HC6 := Lib.hid hC6
      clear hC6
      refine wpAnyG_ready [8] (by kernel_rfl) (by simp) ?_
      refine AllReadyG.cons 8 _ rfl (fun K' hK => ?_) AllReadyG.nil
      go_simp
      refine hK.out _ _ (fun h => absurd rfl h) ?_
      clear hK K'
      refine wpAnyG_done (by kernel_rfl) ?_ _
      have HB6 := Lib.hid h6
      go_upto_region 35 with fail
      have hq0U : w.heap.size < U.heap.size := HUC.out.lt
      have hC7 := HC6.out.s2 (.slice A6 (es.length + 1) c6)
      have hO7 := HO6.out.only (Only.set (N := fun k => k = w.heap.size) U6 w.heap.size 2 (.slice A6 (es.length + 1) c6) rfl) (fun k hk e => by have := (OwnR.lt HO6.out k hk).1; omega)
      have hB7 : Below w.heap.size w (U6.setCell ⟨w.heap.size, 2, none⟩ (.slice A6 (es.length + 1) c6)) := (HUB.out.trans (HB6.out.mono (Nat.le_of_lt hq0U))).setCell (p := ⟨w.heap.size, 2, none⟩) (Nat.le_refl _) _
      have hR7 := HU3.out.of (((set_only U6 w.heap.size 2 (.slice A6 (es.length + 1) c6)).2 _ (by omega)).trans (HB6.out.block _ HUS.out))
      obtain ⟨Z, hZ⟩ : ∃ Z, U6.setCell ⟨w.heap.size, 2, none⟩ (.slice A6 (es.length + 1) c6) = Z := ⟨_, rfl⟩
      rw [hZ] at hC7 hO7 hB7 hR7
      rw [hZ]
      clear hZ hc6 hf6 h6
      have hdz := HDw.out.later hB7
      have hDz : DSt Z base (.slice Ad hs.length cd) (.slice Af hs.length cf) (.slice A6 (es.length + 1) c6) hs n (es ++ [ev]) := ⟨hdz.hd, hdz.fin, ownR_base hO7 (Nat.le_trans HDw.out.bw (Nat.le_of_lt hq0U)), hdz.bw, hdz.le⟩
      have HEnd : Hid (∀ a b c, DEnd w (((Z.setCell ⟨w.heap.size + 1 + 1 + 1, 0, none⟩ a).setCell ⟨w.heap.size + 1 + 1 + 1, 1, none⟩ b).setCell ⟨w.heap.size + 1 + 1 + 1, 2, none⟩ c) base (.slice Ad hs.length cd) (.slice Af hs.length cf) (.slice Ae es.length ce) (.agg #[.slice Ad hs.length cd, .slice Af hs.length cf, .slice A6 (es.length + 1) c6]) hs n (es ++ [ev])) := Lib.hid (fun a b c => dend_new hDz (.inl rfl) (.inl rfl) (.inr fun k hk => by have := (OwnR.lt hO7 k hk).1; omega) hB7 (by omega) (fun k hk e => by have := (OwnR.lt HDw.out.hd k hk).2; omega) (fun k hk e => by have := (OwnR.lt HDw.out.fin k hk).2; omega) (fun k hk e => by have := (OwnR.lt hO7 k hk).1; have := HUS.out; omega))
      have HCz := Lib.hid hC7
      have HRz := Lib.hid hR7
      clear hC7 hO7 hB7 hR7 hdz hDz hq0U
      have z0 := HCz.out.c0
      have z1 := HCz.out.c1
      have z2 := HCz.out.c2
      have y0 := HRz.out.c0
      have y1 := HRz.out.c1
      have y2 := HRz.out.c2
      have fz := fun o => World.rowIs.frozen HRz.out o
      go_wp2_with fail
      try simp only [Exit.inBlock, Exit.then]
      exact bodyPost_ret (results_mid2 rfl _ _ (w.heap.size + 1 + 1 + 1) [.slice Ad hs.length cd, .slice Af hs.length cf, .slice A6 (es.length + 1) c6] _ rfl (rat_set3 HRz.out _ _ _).range Tryd.underlying36 rfl r3_info) rfl ⟨_, by rw [T1.out]; rfl, by rw [T2.out, T3.out, T4.out]; exact HEnd.out _ _ _⟩
  by_cases k13 : intAt ev 0 = 13
  · rw [k13] at e0
    have T4 : Hid (tkS es ev = es ++ [ev]) := Lib.hid (by simp [tkS, k13])
    clear k4 k5 k6 k8 k11 k13
    go_upto_region 34 with fail
    have hRu : RAt W w.heap.size (.slice Ad hs.length cd) (.slice Af hs.length cf) (.slice Ae es.length ce) := HRa.out.of rfl
    have hR3u : RAt W (w.heap.size + 1 + 1 + 1) (.slice none 0 0) (.slice none 0 0) (.slice none 0 0) := HR3.out.of rfl
    have hHu : W.rangeAt (w.heap.size + 1 + 1) 0 h := range_of_block HH.out rfl
    have hEu : W.rangeAt (w.heap.size + 1) 0 ev := range_of_block HE.out rfl
    have hBu : Below w.heap.size w W := HB.out
    have hSu : w.heap.size + 1 + 1 + 1 < W.heap.size := by have := HSz.out; show _ < W.heap.size; omega
    obtain ⟨U, hU⟩ : ∃ U, W = U := ⟨_, rfl⟩
    rw [hU] at hRu hR3u hHu hEu hBu hSu
    rw [hU]
    clear hU c0 c1 c2 e0 e1 e46 g0 g1 g34 f6 f3 xx0 xx1 xx2
    have HUC := Lib.hid hRu
    have HU3 := Lib.hid hR3u
    have HUH := Lib.hid hHu
    have HUE := Lib.hid hEu
    have HUB := Lib.hid hBu
    have HUS := Lib.hid hSu
    have HUD := Lib.hid (HDw.out.later hBu)
    have HUHl : Hid (w.heap.size + 1 + 1 < U.heap.size) := Lib.hid (by omega)
    have HUEl : Hid (w.heap.size + 1 < U.heap.size) := Lib.hid (by omega)
    clear hRu hR3u hHu hEu hBu hSu
    have HUR : Hid (Recs evK U (.slice Ae es.length ce) es ∧ NilOr (.slice Ae es.length ce)) := Lib.hid ⟨HUD.out.ev.recs, ownH_nil_or HUD.out.ev⟩
    have hU0 : Below U.heap.size U U.drew := (Below.refl _ _).drew
    have uq0 : w.heap.size < U.heap.size := HUC.out.lt
    have urb : w.heap.size + 1 < U.heap.size := HUEl.out
    have xc := HUC.out.c2
    refine region_G 8 (fun w' => Below U.heap.size U w') (by kernel_rfl) hU0 (fun h0 => ?_)
    refine wpAnyG_take 1 _ (.pointer (some ⟨w.heap.size, 2, none⟩)) rfl (by kernel_rfl) (by kernel_rfl) (by kernel_rfl) (by kernel_rfl) (fun _ _ _ h => h) h0 (.inl ⟨by rfl, fun ww hS => by rfl⟩) ?_
    try simp only [List.getElem_toArray, List.getElem_cons_zero, List.getElem_cons_succ, Act.put, List.setIfInBounds_toArray, List.set_cons_zero, List.set_cons_succ]
    refine wpAnyG_take 2 _ (.slice Ae es.length ce) rfl (by kernel_rfl) (by kernel_rfl) (by kernel_rfl) (by kernel_rfl) (fun _ _ _ h => h) h0 (.inl ⟨by rfl, fun ww hS => by have hc := (hS.cell (p := ⟨w.heap.size, 2, none⟩) uq0).trans xc; go_simp⟩) ?_
    try simp only [List.getElem_toArray, List.getElem_cons_zero, List.getElem_cons_succ, Act.put, List.setIfInBounds_toArray, List.set_cons_zero, List.set_cons_succ]
    refine wpAnyG_take 4 _ (.agg ev.toArray) rfl (by kernel_rfl) (by kernel_rfl) (by kernel_rfl) (by kernel_rfl) (fun _ _ _ h => h) h0 (yieldsIf_load_mid (by rfl) 48 _ rfl (w.heap.size + 1) (0) rfl ev _ (fun ww hS => range_below HUE.out hS urb) Tryd.underlying48 rfl (rev_info HTe.out)) ?_
    try simp only [List.getElem_toArray, List.getElem_cons_zero, List.getElem_cons_succ, Act.put, List.setIfInBounds_toArray, List.set_cons_zero, List.set_cons_succ]
    refine wpAnyG_ready [0, 5] (by kernel_rfl) (by simp) ?_
    refine AllReadyG.cons 0 _ rfl (fun K' hK => ?_) (AllReadyG.cons 5 _ rfl (fun K' hK => ?_) AllReadyG.nil)
    · go_simp
      refine hK.out _ _ (fun _ => h0.alloc h0.size _) ?_
      clear hK K'
      try simp only [List.getElem_toArray, List.getElem_cons_zero, List.getElem_cons_succ, Act.put, List.setIfInBounds_toArray, List.set_cons_zero, List.set_cons_succ]
      have h1 : Below U.heap.size U ((U.alloc (.cells #[] 48)).drew) := h0.alloc h0.size _
      have HO1 : Hid (OwnR 48 evK ((U.alloc (.cells #[] 48)).drew) U.heap.size (.slice (some ⟨U.heap.size, 0, none⟩) 0 0) []) := Lib.hid (ownR_base (own_empty 48 evK U.drew) h0.size)
      obtain ⟨U1, hEU1⟩ : ∃ u, (U.alloc (.cells #[] 48)).drew = u := ⟨_, rfl⟩
      rw [hEU1] at h1 HO1
      rw [hEU1]
      clear hEU1
      refine wpAnyG_ready [3, 5] (by kernel_rfl) (by simp) ?_
      refine AllReadyG.cons 3 _ rfl (fun K' hK => ?_) (AllReadyG.cons 5 _ rfl (fun K' hK => ?_) AllReadyG.nil)
      · have rr := HUR.out.1.below evK_pos h1
        refine step_app_new rfl (.tmp 153) (.tmp 155) 34 48 evK evZ 128 Tryd.underlying34 revZ_info evZ_size evK_pos (by decide) rfl U.heap.size _ (es) rfl HO1.out _ rfl rr HUR.out.2 (by have := HL.out; have := HLe.out; omega) h1.size ?_
        intro A3 c3 U3 o1 o2 o4
        have h3 : Below U.heap.size U U3 := h1.trans o4
        refine hK.out _ _ (fun _ => h3) ?_
        clear hK K'
        try simp only [List.getElem_toArray, List.getElem_cons_zero, List.getElem_cons_succ, Act.put, List.setIfInBounds_toArray, List.set_cons_zero, List.set_cons_succ]
        have HO3 := Lib.hid o1
        have HG3 := Lib.hid o2
        clear o1 o2 o4 rr
        refine wpAnyG_ready [5] (by kernel_rfl) (by simp) ?_
        refine AllReadyG.cons 5 _ rfl (fun K' hK => ?_) AllReadyG.nil
        refine step_build1 rfl 34 48 (.tmp 157) rfl ev rfl evK HTe.out evZ 128 Tryd.underlying34 revZ_info evK_pos (by decide) ?_
        refine hK.out _ _ (fun _ => h3.alloc h3.size _) ?_
        clear hK K'
        try simp only [List.getElem_toArray, List.getElem_cons_zero, List.getElem_cons_succ, Act.put, List.setIfInBounds_toArray, List.set_cons_zero, List.set_cons_succ]
        have h4 : Below U.heap.size U (U3.alloc (.cells ev.toArray 48)) := h3.alloc h3.size _
        have HR4 : Hid (Recs evK (U3.alloc (.cells ev.toArray 48)) (.slice (some ⟨U3.heap.size, 0, none⟩) 1 1) [ev]) := Lib.hid (recs_one U3 48 HTe.out)
        have HO4 := Lib.hid (HO3.out.alloc (.cells ev.toArray 48))
        obtain ⟨U4, hEU4⟩ : ∃ u, U3.alloc (.cells ev.toArray 48) = u := ⟨_, rfl⟩
        rw [hEU4] at h4 HR4 HO4
        rw [hEU4]
        clear hEU4
        refine wpAnyG_ready [6] (by kernel_rfl) (by simp) ?_
        refine AllReadyG.cons 6 _ rfl (fun K' hK => ?_) AllReadyG.nil
        refine step_app_one rfl (.tmp 156) (.tmp 158) 34 48 evK evZ 128 Tryd.underlying34 revZ_info evZ_size evK_pos (by decide) rfl U.heap.size _ (es) ev rfl HO4.out _ rfl HR4.out (.inr ⟨_, _, _, rfl⟩) (by have := HL.out; have := HLe.out; omega) h4.size ?_
        intro A6 c6 U6 o1 o4
        have h6 : Below U.heap.size U U6 := h4.trans o4
        refine hK.out _ _ (fun _ => h6) ?_
        clear hK K'
        try simp only [List.getElem_toArray, List.getElem_cons_zero, List.getElem_cons_succ, Act.put, List.setIfInBounds_toArray, List.set_cons_zero, List.set_cons_succ]
        have HO6 := Lib.hid o1
        clear o1 o4
        refine wpAnyG_take 7 _ (.pointer (some ⟨w.heap.size, 2, none⟩)) rfl (by kernel_rfl) (by kernel_rfl) (by kernel_rfl) (by kernel_rfl) (fun _ _ _ h => h) h6 (.inl ⟨by rfl, fun ww hS => by rfl⟩) ?_
        try simp only [List.getElem_toArray, List.getElem_cons_zero, List.getElem_cons_succ, Act.put, List.setIfInBounds_toArray, List.set_cons_zero, List.set_cons_succ]
        have hC6 := HUC.out.of (h6.block _ uq0)
        have hc6 := hC6.c2
        have hf6 := World.rowIs.frozen hC6 2
        have HC6 := Lib.hid hC6
        clear hC6
        refine wpAnyG_ready [8] (by kernel_rfl) (by simp) ?_
        refine AllReadyG.cons 8 _ rfl (fun K' hK => ?_) AllReadyG.nil
        go_simp
        refine hK.out _ _ (fun h => absurd rfl h) ?_
        clear hK K'
        refine wpAnyG_done (by kernel_rfl) ?_ _
        have HB6 := Lib.hid h6
        go_upto_region 35 with fail
        have hq0U : w.heap.size < U.heap.size := HUC.out.lt
        have hC7 := HC6.out.s2 (.slice A6 (es.length + 1) c6)
        have hO7 := HO6.out.only (Only.set (N := fun k => k = w.heap.size) U6 w.heap.size 2 (.slice A6 (es.length + 1) c6) rfl) (fun k hk e => by have := (OwnR.lt HO6.out k hk).1; omega)
        have hB7 : Below w.heap.size w (U6.setCell ⟨w.heap.size, 2, none⟩ (.slice A6 (es.length + 1) c6)) := (HUB.out.trans (HB6.out.mono (Nat.le_of_lt hq0U))).setCell (p := ⟨w.heap.size, 2, none⟩) (Nat.le_refl _) _
        have hR7 := HU3.out.of (((set_only U6 w.heap.size 2 (.slice A6 (es.length + 1) c6)).2 _ (by omega)).trans (HB6.out.block _ HUS.out))
        obtain ⟨Z, hZ⟩ : ∃ Z, U6.setCell ⟨w.heap.size, 2, none⟩ (.slice A6 (es.length + 1) c6) = Z := ⟨_, rfl⟩
        rw [hZ] at hC7 hO7 hB7 hR7
        rw [hZ]
        clear hZ hc6 hf6 h6
        have hdz := HDw.out.later hB7
        have hDz : DSt Z base (.slice Ad hs.length cd) (.slice Af hs.length cf) (.slice A6 (es.length + 1) c6) hs n (es ++ [ev]) := ⟨hdz.hd, hdz.fin, ownR_base hO7 (Nat.le_trans HDw.out.bw (Nat.le_of_lt hq0U)), hdz.bw, hdz.le⟩
        have HEnd : Hid (∀ a b c, DEnd w (((Z.setCell ⟨w.heap.size + 1 + 1 + 1, 0, none⟩ a).setCell ⟨w.heap.size + 1 + 1 + 1, 1, none⟩ b).setCell ⟨w.heap.size + 1 + 1 + 1, 2, none⟩ c) base (.slice Ad hs.length cd) (.slice Af hs.length cf) (.slice Ae es.length ce) (.agg #[.slice Ad hs.length cd, .slice Af hs.length cf, .slice A6 (es.length + 1) c6]) hs n (es ++ [ev])) := Lib.hid (fun a b c => dend_new hDz (.inl rfl) (.inl rfl) (.inr fun k hk => by have := (OwnR.lt hO7 k hk).1; omega) hB7 (by omega) (fun k hk e => by have := (OwnR.lt HDw.out.hd k hk).2; omega) (fun k hk e => by have := (OwnR.lt HDw.out.fin k hk).2; omega) (fun k hk e => by have := (OwnR.lt hO7 k hk).1; have := HUS.out; omega))
        have HCz := Lib.hid hC7
        have HRz := Lib.hid hR7
        clear hC7 hO7 hB7 hR7 hdz hDz hq0U
        have z0 := HCz.out.c0
        have z1 := HCz.out.c1
        have z2 := HCz.out.c2
        have y0 := HRz.out.c0
        have y1 := HRz.out.c1
        have y2 := HRz.out.c2
        have fz := fun o => World.rowIs.frozen HRz.out o
        go_wp2_with fail
        try simp only [Exit.inBlock, Exit.then]
        exact bodyPost_ret (results_mid2 rfl _ _ (w.heap.size + 1 + 1 + 1) [.slice Ad hs.length cd, .slice Af hs.length cf, .slice A6 (es.length + 1) c6] _ rfl (rat_set3 HRz.out _ _ _).range Tryd.underlying36 rfl r3_info) rfl ⟨_, by rw [T1.out]; rfl, by rw [T2.out, T3.out, T4.out]; exact HEnd.out _ _ _⟩
      · refine step_build1 rfl 34 48 (.tmp 157) rfl ev rfl evK HTe.out evZ 128 Tryd.underlying34 revZ_info evK_pos (by decide) ?_
        refine hK.out _ _ (fun _ => h1.alloc h1.size _) ?_
        clear hK K'
        try simp only [List.getElem_toArray, List.getElem_cons_zero, List.getElem_cons_succ, Act.put, List.setIfInBounds_toArray, List.set_cons_zero, List.set_cons_succ]
        have h2 : Below U.heap.size U (U1.alloc (.cells ev.toArray 48)) := h1.alloc h1.size _
        have HR2x : Hid (Recs evK (U1.alloc (.cells ev.toArray 48)) (.slice (some ⟨U1.heap.size, 0, none⟩) 1 1) [ev]) := Lib.hid (recs_one U1 48 HTe.out)
        have HO2 := Lib.hid (HO1.out.alloc (.cells ev.toArray 48))
        have hz2 : U1.heap.size < (U1.alloc (.cells ev.toArray 48)).heap.size := by simp
        obtain ⟨U2, hEU2⟩ : ∃ u, U1.alloc (.cells ev.toArray 48) = u := ⟨_, rfl⟩
        rw [hEU2] at h2 HR2x HO2 hz2
        rw [hEU2]
        clear hEU2
        have hzz : U.heap.size < U1.heap.size := (OwnR.lt HO1.out _ rfl).2
        refine wpAnyG_ready [3] (by kernel_rfl) (by simp) ?_
        refine AllReadyG.cons 3 _ rfl (fun K' hK => ?_) AllReadyG.nil
        have rr := HUR.out.1.below evK_pos h2
        refine step_app_new rfl (.tmp 153) (.tmp 155) 34 48 evK evZ 128 Tryd.underlying34 revZ_info evZ_size evK_pos (by decide) rfl U.heap.size _ (es) rfl HO2.out _ rfl rr HUR.out.2 (by have := HL.out; have := HLe.out; omega) h2.size ?_
        intro A3 c3 U3 o1 o2 o4
        have h3 : Below U.heap.size U U3 := h2.trans o4
        refine hK.out _ _ (fun _ => h3) ?_
        clear hK K'
        try simp only [List.getElem_toArray, List.getElem_cons_zero, List.getElem_cons_succ, Act.put, List.setIfInBounds_toArray, List.set_cons_zero, List.set_cons_succ]
        have HO3 := Lib.hid o1
        have HG3 := Lib.hid o2
        clear o1 o2 o4 rr
        have HR4 := Lib.hid (HR2x.out.same (HG3.out.block _ hz2 (by intro e; have e1 := Option.some.inj e; dsimp only at e1; have e2 : U.drew.heap.size = U.heap.size := rfl; omega)))
        have HO4 := HO3
        refine wpAnyG_ready [6] (by kernel_rfl) (by simp) ?_
        refine AllReadyG.cons 6 _ rfl (fun K' hK => ?_) AllReadyG.nil
        refine step_app_one rfl (.tmp 156) (.tmp 158) 34 48 evK evZ 128 Tryd.underlying34 revZ_info evZ_size evK_pos (by decide) rfl U.heap.size _ (es) ev rfl HO4.out _ rfl HR4.out (.inr ⟨_, _, _, rfl⟩) (by have := HL.out; have := HLe.out; omega) h3.size ?_
        intro A6 c6 U6 o1 o4
        have h6 : Below U.heap.size U U6 := h3.trans o4
        refine hK.out _ _ (fun _ => h6) ?_
        clear hK K'
        try simp only [List.getElem_toArray, List.getElem_cons_zero, List.getElem_cons_succ, Act.put, List.setIfInBounds_toArray, List.set_cons_zero, List.set_cons_succ]
        have HO6 := Lib.hid o1
        clear o1 o4
        refine wpAnyG_take 7 _ (.pointer (some ⟨w.heap.size, 2, none⟩)) rfl (by kernel_rfl) (by kernel_rfl) (by kernel_rfl) (by kernel_rfl) (fun _ _ _ h => h) h6 (.inl ⟨by rfl, fun ww hS => by rfl⟩) ?_
        try simp only [List.getElem_toArray, List.getElem_cons_zero, List.getElem_cons_succ, Act.put, List.setIfInBounds_toArray, List.set_cons_zero, List.set_cons_succ]
        have hC6 := HUC.out.of (h6.block _ uq0)
        have hc6 := hC6.c2
        have hf6 := World.rowIs.frozen hC6 2
        have HC6 := Lib.hid hC6
        clear hC6
        refine wpAnyG_ready [8] (by kernel_rfl) (by simp) ?_
        refine AllReadyG.cons 8 _ rfl (fun K' hK => ?_) AllReadyG.nil
        go_simp
        refine hK.out _ _ (fun h => absurd rfl h) ?_
        clear hK K'
        refine wpAnyG_done (by kernel_rfl) ?_ _
        have HB6 := Lib.hid h6
        go_upto_region 35 with fail
        have hq0U : w.heap.size < U.heap.size := HUC.out.lt
        have hC7 := HC6.out.s2 (.slice A6 (es.length + 1) c6)
        have hO7 := HO6.out.only (Only.set (N := fun k => k = w.heap.size) U6 w.heap.size 2 (.slice A6 (es.length + 1) c6) rfl) (fun k hk e => by have := (OwnR.lt HO6.out k hk).1; omega)
        have hB7 : Below w.heap.size w (U6.setCell ⟨w.heap.size, 2, none⟩ (.slice A6 (es.length + 1) c6)) := (HUB.out.trans (HB6.out.mono (Nat.le_of_lt hq0U))).setCell (p := ⟨w.heap.size, 2, none⟩) (Nat.le_refl _) _
        have hR7 := HU3.out.of (((set_only U6 w.heap.size 2 (.slice A6 (es.length + 1) c6)).2 _ (by omega)).trans (HB6.out.block _ HUS.out))
        obtain ⟨Z, hZ⟩ : ∃ Z, U6.setCell ⟨w.heap.size, 2, none⟩ (.slice A6 (es.length + 1) c6) = Z := ⟨_, rfl⟩
        rw [hZ] at hC7 hO7 hB7 hR7
        rw [hZ]
        clear hZ hc6 hf6 h6
        have hdz := HDw.out.later hB7
        have hDz : DSt Z base (.slice Ad hs.length cd) (.slice Af hs.length cf) (.slice A6 (es.length + 1) c6) hs n (es ++ [ev]) := ⟨hdz.hd, hdz.fin, ownR_base hO7 (Nat.le_trans HDw.out.bw (Nat.le_of_lt hq0U)), hdz.bw, hdz.le⟩
        have HEnd : Hid (∀ a b c, DEnd w (((Z.setCell ⟨w.heap.size + 1 + 1 + 1, 0, none⟩ a).setCell ⟨w.heap.size + 1 + 1 + 1, 1, none⟩ b).setCell ⟨w.heap.size + 1 + 1 + 1, 2, none⟩ c) base (.slice Ad hs.length cd) (.slice Af hs.length cf) (.slice Ae es.length ce) (.agg #[.slice Ad hs.length cd, .slice Af hs.length cf, .slice A6 (es.length + 1) c6]) hs n (es ++ [ev])) := Lib.hid (fun a b c => dend_new hDz (.inl rfl) (.inl rfl) (.inr fun k hk => by have := (OwnR.lt hO7 k hk).1; omega) hB7 (by omega) (fun k hk e => by have := (OwnR.lt HDw.out.hd k hk).2; omega) (fun k hk e => by have := (OwnR.lt HDw.out.fin k hk).2; omega) (fun k hk e => by have := (OwnR.lt hO7 k hk).1; have := HUS.out; omega))
        have HCz := Lib.hid hC7
        have HRz := Lib.hid hR7
        clear hC7 hO7 hB7 hR7 hdz hDz hq0U
        have z0 := HCz.out.c0
        have z1 := HCz.out.c1
        have z2 := HCz.out.c2
        have y0 := HRz.out.c0
        have y1 := HRz.out.c1
        have y2 := HRz.out.c2
        have fz := fun o => World.rowIs.frozen HRz.out o
        go_wp2_with fail
        try simp only [Exit.inBlock, Exit.then]
        exact bodyPost_ret (results_mid2 rfl _ _ (w.heap.size + 1 + 1 + 1) [.slice Ad hs.length cd, .slice Af hs.length cf, .slice A6 (es.length + 1) c6] _ rfl (rat_set3 HRz.out _ _ _).range Tryd.underlying36 rfl r3_info) rfl ⟨_, by rw [T1.out]; rfl, by rw [T2.out, T3.out, T4.out]; exact HEnd.out _ _ _⟩
    · refine step_build1 rfl 34 48 (.tmp 157) rfl ev rfl evK HTe.out evZ 128 Tryd.underlying34 revZ_info evK_pos (by decide) ?_
      refine hK.out _ _ (fun _ => h0.alloc h0.size _) ?_
      clear hK K'
      try simp only [List.getElem_toArray, List.getElem_cons_zero, List.getElem_cons_succ, Act.put, List.setIfInBounds_toArray, List.set_cons_zero, List.set_cons_succ]
      have h1 : Below U.heap.size U (U.drew.alloc (.cells ev.toArray 48)) := h0.alloc h0.size _
      have HR1x : Hid (Recs evK (U.drew.alloc (.cells ev.toArray 48)) (.slice (some ⟨U.heap.size, 0, none⟩) 1 1) [ev]) := Lib.hid (recs_one U.drew 48 HTe.out)
      have hz1 : U.heap.size < (U.drew.alloc (.cells ev.toArray 48)).heap.size := by show U.heap.size < (U.alloc _).heap.size; simp
      obtain ⟨U1, hEU1⟩ : ∃ u, U.drew.alloc (.cells ev.toArray 48) = u := ⟨_, rfl⟩
      rw [hEU1] at h1 HR1x hz1
      rw [hEU1]
      clear hEU1
      refine wpAnyG_ready [0] (by kernel_rfl) (by simp) ?_
      refine AllReadyG.cons 0 _ rfl (fun K' hK => ?_) AllReadyG.nil
      go_simp
      refine hK.out _ _ (fun _ => h1.alloc h1.size _) ?_
      clear hK K'
      try simp only [List.getElem_toArray, List.getElem_cons_zero, List.getElem_cons_succ, Act.put, List.setIfInBounds_toArray, List.set_cons_zero, List.set_cons_succ]
      have h2 : Below U.heap.size U (U1.alloc (.cells #[] 48)) := h1.alloc h1.size _
      have HO2 : Hid (OwnR 48 evK (U1.alloc (.cells #[] 48)) U.heap.size (.slice (some ⟨U1.heap.size, 0, none⟩) 0 0) []) := Lib.hid (ownR_base (own_empty 48 evK U1) h1.size)
      have HR2x := Lib.hid (HR1x.out.below evK_pos ((Below.refl _ _).alloc (Nat.le_refl _) (.cells #[] 48)))
      have hz2 : U1.heap.size < (U1.alloc (.cells #[] 48)).heap.size := by simp
      obtain ⟨U2, hEU2⟩ : ∃ u, U1.alloc (.cells #[] 48) = u := ⟨_, rfl⟩
      rw [hEU2] at h2 HO2 HR2x hz2
      rw [hEU2]
      clear hEU2
      refine wpAnyG_ready [3] (by kernel_rfl) (by simp) ?_
      refine AllReadyG.cons 3 _ rfl (fun K' hK => ?_) AllReadyG.nil
      have rr := HUR.out.1.below evK_pos h2
      refine step_app_new rfl (.tmp 153) (.tmp 155) 34 48 evK evZ 128 Tryd.underlying34 revZ_info evZ_size evK_pos (by decide) rfl U.heap.size _ (es) rfl HO2.out _ rfl rr HUR.out.2 (by have := HL.out; have := HLe.out; omega) h2.size ?_
      intro A3 c3 U3 o1 o2 o4
      have h3 : Below U.heap.size U U3 := h2.trans o4
      refine hK.out _ _ (fun _ => h3) ?_
      clear hK K'
      try simp only [List.getElem_toArray, List.getElem_cons_zero, List.getElem_cons_succ, Act.put, List.setIfInBounds_toArray, List.set_cons_zero, List.set_cons_succ]
      have HO3 := Lib.hid o1
      have HG3 := Lib.hid o2
      clear o1 o2 o4 rr
      have HR4 := Lib.hid (HR2x.out.same (HG3.out.block _ (Nat.lt_trans hz1 hz2) (by intro e; have e1 := Option.some.inj e; dsimp only at e1; omega)))
      have HO4 := HO3
      refine wpAnyG_ready [6] (by kernel_rfl) (by simp) ?_
      refine AllReadyG.cons 6 _ rfl (fun K' hK => ?_) AllReadyG.nil
      refine step_app_one rfl (.tmp 156) (.tmp 158) 34 48 evK evZ 128 Tryd.underlying34 revZ_info evZ_size evK_pos (by decide) rfl U.heap.size _ (es) ev rfl HO4.out _ rfl HR4.out (.inr ⟨_, _, _, rfl⟩) (by have := HL.out; have := HLe.out; omega) h3.size ?_
      intro A6 c6 U6 o1 o4
      have h6 : Below U.heap.size U U6 := h3.trans o4
      refine hK.out _ _ (fun _ => h6) ?_
      clear hK K'
      try simp only [List.getElem_toArray, List.getElem_cons_zero, List.getElem_cons_succ, Act.put, List.setIfInBounds_toArray, List.set_cons_zero, List.set_cons_succ]
      have HO6 := Lib.hid o1
      clear o1 o4
      refine wpAnyG_take 7 _ (.pointer (some ⟨w.heap.size, 2, none⟩)) rfl (by kernel_rfl) (by kernel_rfl) (by kernel_rfl) (by kernel_rfl) (fun _ _ _ h => h) h6 (.inl ⟨by rfl, fun ww hS => by rfl⟩) ?_
      try simp only [List.getElem_toArray, List.getElem_cons_zero, List.getElem_cons_succ, Act.put, List.setIfInBounds_toArray, List.set_cons_zero, List.set_cons_succ]
      have hC6 := HUC.out.of (h6.block _ uq0)
      have hc6 := hC6.c2
      have hf6 := World.rowIs.frozen hC6 2
      have HC6 := Lib.hid hC6
      clear hC6
      refine wpAnyG_ready [8] (by kernel_rfl) (by simp) ?_
      refine AllReadyG.cons 8 _ rfl (fun K' hK => ?_) AllReadyG.nil
      go_simp
      refine hK.out _ _ (fun h => absurd rfl h) ?_
      clear hK K'
      refine wpAnyG_done (by kernel_rfl) ?_ _
      have HB6 := Lib.hid h6
      go_upto_region 35 with fail
      have hq0U : w.heap.size < U.heap.size := HUC.out.lt
      have hC7 := HC6.out.s2 (.slice A6 (es.length + 1) c6)
      have hO7 := HO6.out.only (Only.set (N := fun k => k = w.heap.size) U6 w.heap.size 2 (.slice A6 (es.length + 1) c6) rfl) (fun k hk e => by have := (OwnR.lt HO6.out k hk).1; omega)
      have hB7 : Below w.heap.size w (U6.setCell ⟨w.heap.size, 2, none⟩ (.slice A6 (es.length + 1) c6)) := (HUB.out.trans (HB6.out.mono (Nat.le_of_lt hq0U))).setCell (p := ⟨w.heap.size, 2, none⟩) (Nat.le_refl _) _
      have hR7 := HU3.out.of (((set_only U6 w.heap.size 2 (.slice A6 (es.length + 1) c6)).2 _ (by omega)).trans (HB6.out.block _ HUS.out))
      obtain ⟨Z, hZ⟩ : ∃ Z, U6.setCell ⟨w.heap.size, 2, none⟩ (.slice A6 (es.length + 1) c6) = Z := ⟨_, rfl⟩
      rw [hZ] at hC7 hO7 hB7 hR7
      rw [hZ]
      clear hZ hc6 hf6 h6
      have hdz := HDw.out.later hB7
      have hDz : DSt Z base (.slice Ad hs.length cd) (.slice Af hs.length cf) (.slice A6 (es.length + 1) c6) hs n (es ++ [ev]) := ⟨hdz.hd, hdz.fin, ownR_base hO7 (Nat.le_trans HDw.out.bw (Nat.le_of_lt hq0U)), hdz.bw, hdz.le⟩
      have HEnd : Hid (∀ a b c, DEnd w (((Z.setCell ⟨w.heap.size + 1 + 1 + 1, 0, none⟩ a).setCell ⟨w.heap.size + 1 + 1 + 1, 1, none⟩ b).setCell ⟨w.heap.size + 1 + 1 + 1, 2, none⟩ c) base (.slice Ad hs.length cd) (.slice Af hs.length cf) (.slice Ae es.length ce) (.agg #[.slice Ad hs.length cd, .slice Af hs.length cf, .slice A6 (es.length + 1) c6]) hs n (es ++ [ev])) := Lib.hid (fun a b c => dend_new hDz (.inl rfl) (.inl rfl) (.inr fun k hk => by have := (OwnR.lt hO7 k hk).1; omega) hB7 (by omega) (fun k hk e => by have := (OwnR.lt HDw.out.hd k hk).2; omega) (fun k hk e => by have := (OwnR.lt HDw.out.fin k hk).2; omega) (fun k hk e => by have := (OwnR.lt hO7 k hk).1; have := HUS.out; omega))
      have HCz := Lib.hid hC7
      have HRz := Lib.hid hR7
      clear hC7 hO7 hB7 hR7 hdz hDz hq0U
      have z0 := HCz.out.c0
      have z1 := HCz.out.c1
      have z2 := HCz.out.c2
      have y0 := HRz.out.c0
      have y1 := HRz.out.c1
      have y2 := HRz.out.c2
      have fz := fun o => World.rowIs.frozen HRz.out o
      go_wp2_with fail
      try simp only [Exit.inBlock, Exit.then]
      exact bodyPost_ret (results_mid2 rfl _ _ (w.heap.size + 1 + 1 + 1) [.slice Ad hs.length cd, .slice Af hs.length cf, .slice A6 (es.length + 1) c6] _ rfl (rat_set3 HRz.out _ _ _).range Tryd.underlying36 rfl r3_info) rfl ⟨_, by rw [T1.out]; rfl, by rw [T2.out, T3.out, T4.out]; exact HEnd.out _ _ _⟩
  have T4 : Hid (tkS es ev = es) := Lib.hid (by simp [tkS, k8, k11, k13])
  have b4 : (intAt ev 0 == 4) = false := beq_eq_false_iff_ne.2 k4
  have b5 : (intAt ev 0 == 5) = false := beq_eq_false_iff_ne.2 k5
  have b6 : (intAt ev 0 == 6) = false := beq_eq_false_iff_ne.2 k6
  have b8 : (intAt ev 0 == 8) = false := beq_eq_false_iff_ne.2 k8
  have b13 : (intAt ev 0 == 13) = false := beq_eq_false_iff_ne.2 k13
  have b11 : (intAt ev 0 == 11) = false := beq_eq_false_iff_ne.2 k11
  clear k4 k5 k6 k8 k13 k11
  generalize intAt ev 0 = kd at e0 b4 b5 b6 b8 b13 b11
  go_wp2_with fail
  try simp only [Exit.inBlock, Exit.then]
  exact bodyPost_ret (results_mid2 rfl _ _ (w.heap.size + 1 + 1 + 1) [.slice Ad hs.length cd, .slice Af hs.length cf, .slice Ae es.length ce] _ rfl (rat_set3 HR3.out _ _ _).range Tryd.underlying36 rfl r3_info) rfl ⟨_, by rw [T1.out]; rfl, by rw [T2.out, T3.out, T4.out]; exact dend_still HDw.out (((HB.out.setCell (p := ⟨w.heap.size + 1 + 1 + 1, 0, none⟩) (by show w.heap.size ≤ w.heap.size + 3; omega) _).setCell (p := ⟨w.heap.size + 1 + 1 + 1, 1, none⟩) (by show w.heap.size ≤ w.heap.size + 3; omega) _).setCell (p := ⟨w.heap.size + 1 + 1 + 1, 2, none⟩) (by show w.heap.size ≤ w.heap.size + 3; omega) _)⟩

end Go.Proofs.YthdbhajpjkkehaaDoor
