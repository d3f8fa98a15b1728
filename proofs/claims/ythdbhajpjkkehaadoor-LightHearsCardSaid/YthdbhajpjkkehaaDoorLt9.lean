/- The light client: an event is heard. -/
import Derived.Test.YthdbhajpjkkehaaDoorLt8
namespace Go.Proofs.YthdbhajpjkkehaaDoor
open Go.RowKit Go.Lib
set_option linter.unusedVariables false
set_option linter.unusedSimpArgs false

theorem range_part {w : World} {g o : Nat} {c : List Value} (h : w.rangeAt g o c) (a n : Nat) : w.rangeAt g (o + a) ((c.drop a).take n) := fun j v hv => by
  rw [List.getElem?_take] at hv
  split at hv
  · rw [List.getElem?_drop] at hv
    rw [show o + a + j = o + (a + j) by omega]
    exact h _ v hv
  · cases hv
theorem step_ctput {ops : Array Oper} {o : Oper} {a : Act} {w : World} {K' : Act → World → Prop} {Q : Exit → Act → World → Prop} {F : Prop} (hg : o.guard = none) (m x v : Operand) (hop : o.op = Op.mapUpdate 62 m x v) (b : Nat) (f : Cnts) (ks : List Value) (p : Nat × Nat)
    (hm : a.eval m = .map (some b)) (hx : a.eval x = .agg ks.toArray) (hv : a.eval v = kV p) (h : CtAt w b f) (hk : Typed hashK ks)
    (hK : ∀ w', CtAt w' b (ctUp f (intsOf ks) p) → w.grownBy w' (some b) → K' (a.put o.dst undef) w') :
    if Region.wanted o (yielded ops a.tmps) = true then Oper.wp Tryd.prog o a w K' Q else F := by
  have hw : Region.wanted o (yielded ops a.tmps) = true := by simp [Region.wanted, hg]
  rw [if_pos hw]
  obtain ⟨w', hrun, r1, r2⟩ := ct_put p h hk
  unfold Oper.wp
  simp [execOp, hop, hm, hx, hv, hrun, Result.andThen]
  exact hK w' r1 r2
/-- What is heard: the answer, the heads, how many are final, and the counts. -/
def tkE (hs : List (List Value)) (n : Nat) (ev h : List Value) : Int :=
  if intAt ev 0 = 4 then pst hs ev h
  else if intAt ev 0 = 5 then (if fnd hs (intAt ev 46) < 0 then 10 else if fnd hs (intAt ev 46) < (n : Int) then 11 else 0)
  else if intAt ev 0 = 6 then finE hs n (intAt ev 46)
  else 0
def tkH (hs : List (List Value)) (n : Nat) (ev h : List Value) : List (List Value) :=
  if intAt ev 0 = 4 then (if pst hs ev h = 0 then hs ++ [h] else hs)
  else if intAt ev 0 = 5 then (if (n : Int) ≤ fnd hs (intAt ev 46) then hs.take (fnd hs (intAt ev 46)).toNat else hs)
  else hs
def tkN (hs : List (List Value)) (n : Nat) (ev : List Value) : Nat := if intAt ev 0 = 6 then (if finE hs n (intAt ev 46) = 0 then n + 1 else n) else n
def tkC (f : Cnts) (ev : List Value) : Cnts :=
  if intAt ev 0 = 8 ∨ intAt ev 0 = 13 then ctUp f (intsOf (idOf ev)) ((f (intsOf (idOf ev))).1 + 1, (f (intsOf (idOf ev))).2)
  else if intAt ev 0 = 11 then ctUp f (intsOf (idOf ev)) ((f (intsOf (idOf ev))).1, (f (intsOf (idOf ev))).2 + 1)
  else f
/-- The client as it stands: its own blocks. -/
structure CSt (w : World) (base c mb : Nat) (v : Value) (hs : List (List Value)) (n : Nat) (f : Cnts) : Prop where
  cl : ClAt w c v n (.map (some mb))
  own : OwnR 42 hdK w base v hs
  ct : CtAt w mb f
  cm : c ≠ mb
  vc : v.ownBlock ≠ some c
  vm : v.ownBlock ≠ some mb
  cb : base ≤ c
  mbb : base ≤ mb
  bw : base ≤ w.heap.size
  le : n ≤ hs.length
def CN (c mb : Nat) (v : Value) (k : Nat) : Prop := k = c ∨ k = mb ∨ v.ownBlock = some k
theorem CSt.only {w w' : World} {base c mb : Nat} {v : Value} {hs : List (List Value)} {n : Nat} {f : Cnts} {N : Nat → Prop} (h : CSt w base c mb v hs n f) (ho : Only N w w') (hn : ∀ k, CN c mb v k → ¬ N k) : CSt w' base c mb v hs n f :=
  ⟨World.rowIs.of_block h.cl (ho.block c (World.rowIs.lt h.cl) (hn c (.inl rfl))), h.own.only ho (fun k hk => hn k (.inr (.inr hk))), h.ct.kept (ho.block mb h.ct.lt (hn mb (.inr (.inl rfl)))), h.cm, h.vc, h.vm, h.cb, h.mbb, Nat.le_trans h.bw ho.size, h.le⟩
theorem CSt.later {w w' : World} {base c mb : Nat} {v : Value} {hs : List (List Value)} {n : Nat} {f : Cnts} (h : CSt w base c mb v hs n f) (hb : Below w.heap.size w w') : CSt w' base c mb v hs n f :=
  h.only (N := fun _ => False) (Only.of_below hb) (fun _ _ h => h)
/-- What comes of a call: the new state; only its own blocks have turned. -/
def CEnd (w w' : World) (base c mb : Nat) (v : Value) (hs : List (List Value)) (n : Nat) (f : Cnts) : Prop :=
  ∃ v', CSt w' base c mb v' hs n f ∧ (v'.ownBlock = v.ownBlock ∨ ∀ k, v'.ownBlock = some k → w.heap.size ≤ k) ∧ Only (CN c mb v) w w'
theorem CEnd.still {w w' : World} {base c mb : Nat} {v : Value} {hs : List (List Value)} {n : Nat} {f : Cnts} (h : CSt w base c mb v hs n f) (hb : Below w.heap.size w w') : CEnd w w' base c mb v hs n f :=
  ⟨v, h.later hb, .inl rfl, Only.of_below hb⟩
theorem CEnd.from {w w1 w' : World} {base c mb : Nat} {v : Value} {hs : List (List Value)} {n : Nat} {f : Cnts} (h : CEnd w1 w' base c mb v hs n f) (hb : Below w.heap.size w w1) : CEnd w w' base c mb v hs n f := by
  obtain ⟨v', h1, h2, h3⟩ := h
  refine ⟨v', h1, ?_, (Only.of_below hb).trans h3⟩
  rcases h2 with h2 | h2
  · exact .inl h2
  · exact .inr fun k hk => Nat.le_trans hb.size (h2 k hk)
theorem cend_post {w w' : World} {base c mb : Nat} {v v' : Value} {hs hs' : List (List Value)} {n : Nat} {f : Cnts} (h : CSt w base c mb v hs n f) (h1 : ClAt w' c v' n (.map (some mb))) (h2 : OwnR 42 hdK w' base v' hs')
    (h3 : v'.ownBlock = v.ownBlock ∨ ∀ k, v'.ownBlock = some k → w.heap.size ≤ k) (h4 : Only (fun k => k = c ∨ v.ownBlock = some k) w w') (hl : n ≤ hs'.length) : CEnd w w' base c mb v hs' n f := by
  have hc := World.rowIs.lt h.cl
  have hm := h.ct.lt
  refine ⟨v', ⟨h1, h2, h.ct.kept (h4.block mb hm (fun e => by
    rcases e with e | e
    · exact h.cm e.symm
    · exact h.vm e)), h.cm, fun e => ?_, fun e => ?_, h.cb, h.mbb, Nat.le_trans h.bw h4.size, hl⟩, h3, h4.mono fun k _ e => by
      rcases e with e | e
      · exact .inl e
      · exact .inr (.inr e)⟩
  · rcases h3 with h3 | h3
    · exact h.vc (h3.symm.trans e)
    · have := h3 _ e; omega
  · rcases h3 with h3 | h3
    · exact h.vm (h3.symm.trans e)
    · have := h3 _ e; omega
theorem only_of {w w' : World} {c : Nat} (h : Below c w w') (hb : ∀ k, k < w.heap.size → k ≠ c → w'.heap[k]? = w.heap[k]?) (N : Nat → Prop) (hN : N c) : Only N w w' :=
  ⟨h.os, h.tape, h.output, h.size, fun k hk hn => hb k hk (fun e => hn (e ▸ hN))⟩
theorem cend_n {w w' : World} {base c mb : Nat} {v : Value} {hs : List (List Value)} {n m : Nat} {f : Cnts} (h : CSt w base c mb v hs n f) (h1 : ClAt w' c v m (.map (some mb))) (h4 : Only (fun k => k = c) w w') (hm : m ≤ hs.length) : CEnd w w' base c mb v hs m f :=
  ⟨v, ⟨h1, h.own.only h4 (fun k hk e => h.vc (e ▸ hk)), h.ct.kept (h4.block mb h.ct.lt (fun e => h.cm e.symm)), h.cm, h.vc, h.vm, h.cb, h.mbb, Nat.le_trans h.bw h4.size, hm⟩, .inl rfl, h4.mono fun k _ e => .inl e⟩
theorem cend_ct {w w' : World} {base c mb : Nat} {v : Value} {hs : List (List Value)} {n : Nat} {f f' : Cnts} (h : CSt w base c mb v hs n f) (h1 : CtAt w' mb f') (h4 : Only (fun k => k = mb) w w') : CEnd w w' base c mb v hs n f' :=
  ⟨v, ⟨World.rowIs.of_block h.cl (h4.block c (World.rowIs.lt h.cl) h.cm), h.own.only h4 (fun k hk e => h.vm (e ▸ hk)), h1, h.cm, h.vc, h.vm, h.cb, h.mbb, Nat.le_trans h.bw h4.size, h.le⟩, .inl rfl, h4.mono fun k _ e => .inr (.inl e)⟩
set_option maxRecDepth 100000 in
def objCt : Obj := .cells #[.int .i64 0, .int .i64 0] 70
/-- A count in its own variable. -/
def CtV (w : World) (q : Nat) (a b : Int) : Prop := w.rowIs q 70 2 (fun i => if i = 0 then .int .i64 a else .int .i64 b)
theorem ctv_made (w : World) (a b : Int) : CtV (w.alloc (.cells #[.int .i64 a, .int .i64 b] 70)).drew w.heap.size a b :=
  World.rowIs_alloc w _ _ _ (fun i hi => by
    have h : i < 2 := hi
    match i, h with
    | 0, _ => rfl
    | 1, _ => rfl)
theorem CtV.set0 {w : World} {q : Nat} {a b : Int} (h : CtV w q a b) (a' : Int) : CtV (w.setCell ⟨q, 0, none⟩ (.int .i64 a')) q a' b :=
  (World.rowIs.set h 0 _).congr fun i hi => by by_cases e : i = 0 <;> simp [e]
theorem CtV.set1 {w : World} {q : Nat} {a b : Int} (h : CtV w q a b) (b' : Int) : CtV (w.setCell ⟨q, 1, none⟩ (.int .i64 b')) q a b' :=
  (World.rowIs.set h 1 _).congr fun i hi => by
    by_cases e : i = 1
    · simp [e]
    · obtain rfl : i = 0 := by omega
      simp

set_option maxHeartbeats 4000000 in
set_option maxRecDepth 100000 in
theorem ctake_calls (base c mb n : Nat) (v : Value) (hs : List (List Value)) (f : Cnts) (ev h : List Value) (w : World) (hC : CSt w base c mb v hs n f) (hl : hs.length ≤ 1000) (he : Typed evK ev) (hh : Typed hdK h) (hf : ∀ k, (f k).1 ≤ 1000 ∧ (f k).2 ≤ 1000) :
    Calls Tryd.prog 8 #[.pointer (some ⟨c, 0, none⟩), .agg ev.toArray, .agg h.toArray] w fun e w' => e = .returned (.int .i64 (tkE hs n ev h)) ∧ CEnd w w' base c mb v (tkH hs n ev h) (tkN hs n ev) (tkC f ev) := by
  obtain ⟨A, cp, rfl, -⟩ := id hC.own.recs
  obtain ⟨hE, hH, hb, hsz⟩ := box2 w 40 42 ev h
  have HTe := Lib.hid he
  have HTh := Lib.hid hh
  have HFb := Lib.hid hf
  have hcl := World.rowIs.lt hC.cl
  have hCl := hC.later hb
  have cc := hCl.cl.cells.2.2
  have HC := Lib.hid hCl
  have HB := Lib.hid hb
  have HSz := Lib.hid hsz
  have HE := Lib.hid hE
  have HH := Lib.hid hH
  have HL := Lib.hid hl
  have hid := range_part hE 2 32
  rw [Nat.zero_add] at hid
  have HIr := Lib.hid hid
  have HIt := Lib.hid (id_typed he)
  have HIi : Hid ((Tryd.prog.info? 38).map (·.size) = some (idOf ev).length) := Lib.hid (by rw [hash_len (id_typed he)]; kernel_rfl)
  have huc : c < ((w.alloc (.cells ev.toArray 40)).alloc (.cells h.toArray 42)).heap.size := World.rowIs.lt hCl.cl
  obtain ⟨W, hW⟩ : ∃ W, (w.alloc (.cells ev.toArray 40)).alloc (.cells h.toArray 42) = W := ⟨_, rfl⟩
  rw [hW] at cc HC HB HSz HE HH HIr huc
  have huq : w.heap.size < W.heap.size := by have := HSz.out; omega
  have hU0 : KeepBut none W W.drew := fun k hk hn => rfl
  obtain ⟨p0, hp0⟩ : ∃ p, f (intsOf (idOf ev)) = p := ⟨_, rfl⟩
  have hp1 : (p0.1 : Int) ≤ 1000 := by have := (hf (intsOf (idOf ev))).1; rw [hp0] at this; omega
  have hp2 : (p0.2 : Int) ≤ 1000 := by have := (hf (intsOf (idOf ev))).2; rw [hp0] at this; omega
  have HP0 := Lib.hid hp0
  have HLk : Hid (∀ u : World, u.heap[mb]? = W.heap[mb]? → (Instr.lookup 62 (.map (some mb)) (.agg (idOf ev).toArray) false).run Tryd.prog u = .ok (.agg #[.int .i64 (p0.1 : Int), .int .i64 (p0.2 : Int)]) u) := Lib.hid (fun u hu => by
    have := ct_look (HC.out.ct.kept hu) HIt.out
    rw [HP0.out] at this
    exact this)
  have hmb : mb < W.heap.size := HC.out.ct.lt
  clear hC hE hH hb hsz he hh hf hcl hCl hid hl hp0
  go_enter Tryd.func8, Tryd.ntmps8
  go_upto_region 1 with fail
  clear hW
  refine region_G 8 (KeepBut none W) (by kernel_rfl) hU0 (fun h0 => ?_)

  refine wpAnyG_take 0 _ (.pointer (some ⟨c, 0, none⟩)) rfl (by kernel_rfl) (by kernel_rfl) (by kernel_rfl) (by kernel_rfl) (fun _ _ _ h => h) h0 (.inl ⟨by rfl, fun w hS => by rfl⟩) ?_
  try simp only [List.getElem_toArray, List.getElem_cons_zero, List.getElem_cons_succ, Act.put, List.setIfInBounds_toArray, List.set_cons_zero, List.set_cons_succ]
  refine wpAnyG_take 1 _ (.pointer (some ⟨c, 0, none⟩)) rfl (by kernel_rfl) (by kernel_rfl) (by kernel_rfl) (by kernel_rfl) (fun _ _ _ h => h) h0 (.inl ⟨by rfl, fun w hS => by rfl⟩) ?_
  try simp only [List.getElem_toArray, List.getElem_cons_zero, List.getElem_cons_succ, Act.put, List.setIfInBounds_toArray, List.set_cons_zero, List.set_cons_succ]
  refine wpAnyG_take 2 _ (.pointer (some ⟨c, 2, none⟩)) rfl (by kernel_rfl) (by kernel_rfl) (by kernel_rfl) (by kernel_rfl) (fun _ _ _ h => h) h0 (.inl ⟨by rfl, fun w hS => by rfl⟩) ?_
  try simp only [List.getElem_toArray, List.getElem_cons_zero, List.getElem_cons_succ, Act.put, List.setIfInBounds_toArray, List.set_cons_zero, List.set_cons_succ]
  refine wpAnyG_take 3 _ (.map (some mb)) rfl (by kernel_rfl) (by kernel_rfl) (by kernel_rfl) (by kernel_rfl) (fun _ _ _ h => h) h0 (.inl ⟨by rfl, fun w hS => by have hc := (cell_of_block (p := ⟨c, 2, none⟩) (hS c huc (by simp))).trans cc; go_simp⟩) ?_
  try simp only [List.getElem_toArray, List.getElem_cons_zero, List.getElem_cons_succ, Act.put, List.setIfInBounds_toArray, List.set_cons_zero, List.set_cons_succ]
  refine wpAnyG_take 4 _ (.pointer (some ⟨w.heap.size, 2, none⟩)) rfl (by kernel_rfl) (by kernel_rfl) (by kernel_rfl) (by kernel_rfl) (fun _ _ _ h => h) h0 (.inl ⟨by rfl, fun w hS => by rfl⟩) ?_
  try simp only [List.getElem_toArray, List.getElem_cons_zero, List.getElem_cons_succ, Act.put, List.setIfInBounds_toArray, List.set_cons_zero, List.set_cons_succ]
  refine wpAnyG_take 5 _ (.agg (idOf ev).toArray) rfl (by kernel_rfl) (by kernel_rfl) (by kernel_rfl) (by kernel_rfl) (fun _ _ _ h => h) h0 (yieldsIf_load_mid (by rfl) 38 _ rfl (w.heap.size) (2) rfl (idOf ev) _ (fun w hS => range_of_block HIr.out (hS _ huq (by simp))) Tryd.underlying38 rfl (HIi.out)) ?_
  try simp only [List.getElem_toArray, List.getElem_cons_zero, List.getElem_cons_succ, Act.put, List.setIfInBounds_toArray, List.set_cons_zero, List.set_cons_succ]
  refine wpAnyG_take 6 _ (.agg #[.int .i64 (p0.1 : Int), .int .i64 (p0.2 : Int)]) rfl (by kernel_rfl) (by kernel_rfl) (by kernel_rfl) (by kernel_rfl) (fun _ _ _ h => h) h0 (.inl ⟨by rfl, fun w hS => by have hc := HLk.out w (hS mb hmb (by simp)); go_simp⟩) ?_
  try simp only [List.getElem_toArray, List.getElem_cons_zero, List.getElem_cons_succ, Act.put, List.setIfInBounds_toArray, List.set_cons_zero, List.set_cons_succ]
  refine wpAnyG_ready [7] (by kernel_rfl) (by simp) ?_
  refine AllReadyG.cons 7 _ rfl (fun K' hK => ?_) AllReadyG.nil
  go_simp
  refine hK.out _ _ (fun _ => KeepBut.alloc h0 _) ?_
  clear hK K'
  try simp only [List.getElem_toArray, List.getElem_cons_zero, List.getElem_cons_succ, Act.put, List.setIfInBounds_toArray, List.set_cons_zero, List.set_cons_succ]
  refine wpAnyG_ready [8] (by kernel_rfl) (by simp) ?_
  refine AllReadyG.cons 8 _ rfl (fun K' hK => ?_) AllReadyG.nil
  go_simp
  refine hK.out _ _ (fun h => absurd rfl h) ?_
  clear hK K'
  refine wpAnyG_done (by kernel_rfl) ?_ _
  go_upto_region 2 with fail
  have hq := ctv_made W (p0.1 : Int) (p0.2 : Int)
  have hbq : Below W.heap.size W (W.alloc (.cells #[.int .i64 (p0.1 : Int), .int .i64 (p0.2 : Int)] 70)).drew := ((Below.refl _ _).alloc (Nat.le_refl _) _).drew
  obtain ⟨U, hU⟩ : ∃ U, (W.alloc (.cells #[.int .i64 (p0.1 : Int), .int .i64 (p0.2 : Int)] 70)).drew = U := ⟨_, rfl⟩
  rw [hU] at hq hbq
  rw [hU]
  clear hU h0 hU0 HLk cc
  have HQ := Lib.hid hq
  have HBq := Lib.hid hbq
  have HBU : Hid (Below w.heap.size w U) := Lib.hid (HB.out.trans (hbq.mono HB.out.size))
  have HCu := Lib.hid (HC.out.later hbq)
  have hEu := range_below HE.out hbq huq
  have hHu := range_below HH.out hbq (by have := HSz.out; omega)
  have e0 := ev_cell hEu HTe.out 0 .u8 (by kernel_rfl)
  have e46 := ev_cell hEu HTe.out 46 .u32 (by kernel_rfl)
  have HEu := Lib.hid hEu
  have HHu := Lib.hid hHu
  have HIu := Lib.hid (range_below HIr.out hbq huq)
  have hsU := hbq.size
  clear hq hbq hEu hHu
  by_cases k4 : intAt ev 0 = 4
  · rw [k4] at e0
    have t1 : tkE hs n ev h = pst hs ev h := by simp [tkE, k4]
    have t3 : tkN hs n ev = n := by simp [tkN, k4]
    have t4 : tkC f ev = f := by simp [tkC, k4]
    by_cases hp : pst hs ev h = 0
    · have t2 : tkH hs n ev h = hs ++ [h] := by simp [tkH, k4, hp]
      have HPy := Lib.hid (post_yes c n _ _ hs ev h U HCu.out.cl HCu.out.own.recs HL.out HTe.out HTh.out base HCu.out.own HCu.out.bw HCu.out.vc hp)
      have T1 := Lib.hid t1
      have T2 := Lib.hid t2
      have T3 := Lib.hid t3
      have T4 := Lib.hid t4
      have HPz := Lib.hid hp
      clear t1 t2 t3 t4 hp k4
      go_wp2_with (first
        | refine wpList_load_mid rfl 40 _ rfl w.heap.size 0 rfl ev _ HEu.out Tryd.underlying40 rfl (ev_info HTe.out) ?_
        | refine wpList_load_mid rfl 42 _ rfl (w.heap.size + 1) 0 rfl h _ HHu.out Tryd.underlying42 rfl (hd_info HTh.out) ?_
        | (go_at_call 18
           refine HPy.out.mono ?_
           rintro e w2 ⟨rfl, v', u1, u2, u3, u4⟩))
      go_ret
      rw [T1.out, T2.out, T3.out, T4.out, HPz.out]
      exact ⟨rfl, (cend_post HCu.out u1 u2 u3 u4 (by have := HCu.out.le; rw [List.length_append]; omega)).from HBU.out⟩
    · have t2 : tkH hs n ev h = hs := by simp [tkH, k4, hp]
      have HPn := Lib.hid (post_no c n _ _ hs ev h U HCu.out.cl HCu.out.own.recs HL.out HTe.out HTh.out _ rfl hp)
      have T1 := Lib.hid t1
      have T2 := Lib.hid t2
      have T3 := Lib.hid t3
      have T4 := Lib.hid t4
      clear t1 t2 t3 t4 hp k4
      go_wp2_with (first
        | refine wpList_load_mid rfl 40 _ rfl w.heap.size 0 rfl ev _ HEu.out Tryd.underlying40 rfl (ev_info HTe.out) ?_
        | refine wpList_load_mid rfl 42 _ rfl (w.heap.size + 1) 0 rfl h _ HHu.out Tryd.underlying42 rfl (hd_info HTh.out) ?_
        | (go_at_call 18
           refine HPn.out.mono ?_
           rintro e w2 ⟨rfl, u1⟩))
      go_ret
      rw [T1.out, T2.out, T3.out, T4.out]
      exact ⟨rfl, (CEnd.still HCu.out u1).from HBU.out⟩
  by_cases k5 : intAt ev 0 = 5
  · rw [k5] at e0
    have t3 : tkN hs n ev = n := by simp [tkN, k5]
    have t4 : tkC f ev = f := by simp [tkC, k5]
    rcases fnd_range hs (intAt ev 46) with hm | ⟨i, hil, hi⟩
    · have t1 : tkE hs n ev h = 10 := by simp [tkE, k5, hm]
      have t2 : tkH hs n ev h = hs := by
        have : ¬ (n : Int) ≤ -1 := by omega
        simp [tkH, k5, hm, this]
      have HR := Lib.hid (revert_no c n _ _ hs (intAt ev 46) U HCu.out.cl HCu.out.own.recs HL.out HCu.out.le 10 (.inl ⟨hm, rfl⟩))
      have T1 := Lib.hid t1
      have T2 := Lib.hid t2
      have T3 := Lib.hid t3
      have T4 := Lib.hid t4
      clear t1 t2 t3 t4 k4 k5 hm
      go_wp2_with (go_at_call 19; refine HR.out.mono ?_; rintro e w2 ⟨rfl, u1⟩)
      go_ret
      rw [T1.out, T2.out, T3.out, T4.out]
      exact ⟨rfl, (CEnd.still HCu.out u1).from HBU.out⟩
    · by_cases hni : n ≤ i
      · have t1 : tkE hs n ev h = 0 := by
          have h1 : ¬ (i : Int) < 0 := by omega
          have h2 : ¬ i < n := by omega
          simp [tkE, k5, hi, h1, h2]
        have t2 : tkH hs n ev h = hs.take i := by simp [tkH, k5, hi, hni]
        have HR := Lib.hid (revert_yes c n i _ _ hs (intAt ev 46) U HCu.out.cl HCu.out.own.recs HL.out hi hni hil)
        have HNi := Lib.hid hni
        have HIl := Lib.hid hil
        have T1 := Lib.hid t1
        have T2 := Lib.hid t2
        have T3 := Lib.hid t3
        have T4 := Lib.hid t4
        clear t1 t2 t3 t4 k4 k5 hi hni hil
        go_wp2_with (go_at_call 19; refine HR.out.mono ?_; rintro e w2 ⟨rfl, v', u1, u2, u3, u4, u5⟩)
        go_ret
        rw [T1.out, T2.out, T3.out, T4.out]
        refine ⟨rfl, (cend_post HCu.out u1 (ownR_base u2 HCu.out.bw) (.inr fun k hk => (OwnR.lt u2 k hk).1) ((only_of u4 u5 (fun k => k = c) rfl).mono fun k _ e => .inl e) (by have := HNi.out; have := HIl.out; rw [List.length_take]; omega)).from HBU.out⟩
      · have t1 : tkE hs n ev h = 11 := by
          have h1 : ¬ (i : Int) < 0 := by omega
          have h2 : i < n := by omega
          simp [tkE, k5, hi, h1, h2]
        have t2 : tkH hs n ev h = hs := by simp [tkH, k5, hi, hni]
        have HR := Lib.hid (revert_no c n _ _ hs (intAt ev 46) U HCu.out.cl HCu.out.own.recs HL.out HCu.out.le 11 (.inr ⟨by omega, by omega, rfl⟩))
        have T1 := Lib.hid t1
        have T2 := Lib.hid t2
        have T3 := Lib.hid t3
        have T4 := Lib.hid t4
        clear t1 t2 t3 t4 k4 k5 hi hni hil
        go_wp2_with (go_at_call 19; refine HR.out.mono ?_; rintro e w2 ⟨rfl, u1⟩)
        go_ret
        rw [T1.out, T2.out, T3.out, T4.out]
        exact ⟨rfl, (CEnd.still HCu.out u1).from HBU.out⟩
  have t2 : tkH hs n ev h = hs := by simp [tkH, k4, k5]
  have T2 := Lib.hid t2
  clear t2
  by_cases k6 : intAt ev 0 = 6
  · rw [k6] at e0
    have t1 : tkE hs n ev h = finE hs n (intAt ev 46) := by simp [tkE, k6]
    have t4 : tkC f ev = f := by simp [tkC, k6]
    by_cases hq : n < hs.length ∧ intAt (hs.getD n []) 0 = intAt ev 46
    · have hfe : finE hs n (intAt ev 46) = 0 := by
        unfold finE
        rw [if_neg (by omega), if_pos hq.2]
      have t3 : tkN hs n ev = n + 1 := by simp [tkN, k6, hfe]
      have HR := Lib.hid (finalize_yes c n _ _ hs (intAt ev 46) U HCu.out.cl HCu.out.own.recs hq.1 HL.out hq.2)
      have HQl := Lib.hid hq.1
      have T1 := Lib.hid t1
      have T3 := Lib.hid t3
      have T4 := Lib.hid t4
      have HPz := Lib.hid hfe
      clear t1 t3 t4 k4 k5 k6 hq hfe
      go_wp2_with (go_at_call 20; refine HR.out.mono ?_; rintro e w2 ⟨rfl, u1, u2, u3⟩)
      go_ret
      rw [T1.out, T2.out, T3.out, T4.out, HPz.out]
      exact ⟨rfl, (cend_n HCu.out u1 (only_of u2 (fun k _ hk => u3 k hk) _ rfl) HQl.out).from HBU.out⟩
    · have hm : n = hs.length ∨ intAt (hs.getD n []) 0 ≠ intAt ev 46 := by
        have := HCu.out.le
        by_cases e : n = hs.length
        · exact .inl e
        · exact .inr fun e2 => hq ⟨by omega, e2⟩
      have hfe : finE hs n (intAt ev 46) ≠ 0 := by
        unfold finE
        rcases hm with hm | hm
        · rw [if_pos hm]; decide
        · by_cases e : n = hs.length
          · rw [if_pos e]; decide
          · rw [if_neg e, if_neg hm]; decide
      have t3 : tkN hs n ev = n := by simp [tkN, k6, hfe]
      have HR := Lib.hid (finalize_no c n _ _ hs (intAt ev 46) U HCu.out.cl HCu.out.own.recs HCu.out.le HL.out hm)
      have T1 := Lib.hid t1
      have T3 := Lib.hid t3
      have T4 := Lib.hid t4
      clear t1 t3 t4 k4 k5 k6 hq hfe hm
      go_wp2_with (go_at_call 20; refine HR.out.mono ?_; rintro e w2 ⟨rfl, u1⟩)
      go_ret
      rw [T1.out, T2.out, T3.out, T4.out]
      exact ⟨rfl, (CEnd.still HCu.out u1).from HBU.out⟩
  have t1 : tkE hs n ev h = 0 := by simp [tkE, k4, k5, k6]
  have t3 : tkN hs n ev = n := by simp [tkN, k6]
  have T1 := Lib.hid t1
  have T3 := Lib.hid t3
  clear t1 t3
  
  by_cases k8 : intAt ev 0 = 8
  · rw [k8] at e0
    have t4 : tkC f ev = ctUp f (intsOf (idOf ev)) (p0.1 + 1, p0.2) := by simp [tkC, k8, HP0.out]
    have T4 := Lib.hid t4
    clear t4 k4 k5 k6 k8
    have c0 : U.cell? ⟨W.heap.size, 0, none⟩ = some (.int .i64 (p0.1 : Int)) := World.rowIs.cell HQ.out (i := 0) (by omega)
    have c1 : U.cell? ⟨W.heap.size, 1, none⟩ = some (.int .i64 (p0.2 : Int)) := World.rowIs.cell HQ.out (i := 1) (by omega)
    have hfz := World.rowIs.frozen HQ.out 0
    have hwr : IntKind.i64.wrap ((p0.1 : Int) + 1) = (p0.1 : Int) + 1 := IntWalk.i64_in _ (by omega)
    have HX := Lib.hid (CtV.set0 HQ.out ((p0.1 : Int) + 1))
    have hlq := World.rowIs.lt HQ.out
    have HO3 : Hid (Only (fun k => k = W.heap.size) U (U.setCell ⟨W.heap.size, 0, none⟩ (.int .i64 ((p0.1 : Int) + 1)))) := Lib.hid (Only.set U _ _ _ rfl)
    have HB3 : Hid (Below w.heap.size w (U.setCell ⟨W.heap.size, 0, none⟩ (.int .i64 ((p0.1 : Int) + 1)))) := Lib.hid (HBU.out.setCell (p := ⟨W.heap.size, 0, none⟩) (Nat.le_of_lt huq) _)
    go_upto_region 15 with fail
    obtain ⟨U3, hU3⟩ : ∃ U3, U.setCell ⟨W.heap.size, 0, none⟩ (.int .i64 ((p0.1 : Int) + 1)) = U3 := ⟨_, rfl⟩
    rw [hU3] at HX HO3 HB3
    rw [hU3]
    clear hU3 c0 c1 hfz hwr
    have HC3 : Hid (CSt U3 base c mb (.slice A hs.length cp) hs n f) := Lib.hid (HCu.out.only HO3.out (fun k hk e => by
      rcases hk with hk | hk | hk
      · omega
      · omega
      · have := OwnR.lt HC.out.own k hk
        omega))
    have hcm := HC3.out.cl.cells.2.2
    have d0 := World.rowIs.cell HX.out (i := 0) (by omega)
    have d1 := World.rowIs.cell HX.out (i := 1) (by omega)
    change U3.cell? ⟨W.heap.size, 0, none⟩ = some (.int .i64 ((p0.1 : Int) + 1)) at d0
    change U3.cell? ⟨W.heap.size, 1, none⟩ = some (.int .i64 ((p0.2 : Int))) at d1
    have hq3 : W.heap.size < U3.heap.size := Nat.lt_of_lt_of_le hlq HO3.out.size
    have hc3 : c < U3.heap.size := Nat.lt_trans huc hq3
    have hw3 : w.heap.size < U3.heap.size := Nat.lt_trans huq hq3
    have HI3 := Lib.hid (range_of_block HIu.out (HO3.out.block w.heap.size (by omega) (by omega)))
    have hU0 : KeepBut none U3 U3.drew := fun k hk hn => rfl
    refine region_G 7 (KeepBut none U3) (by kernel_rfl) hU0 (fun h0 => ?_)
    refine wpAnyG_take 0 _ (.pointer (some ⟨c, 0, none⟩)) rfl (by kernel_rfl) (by kernel_rfl) (by kernel_rfl) (by kernel_rfl) (fun _ _ _ h => h) h0 (.inl ⟨by rfl, fun w hS => by rfl⟩) ?_
    try simp only [List.getElem_toArray, List.getElem_cons_zero, List.getElem_cons_succ, Act.put, List.setIfInBounds_toArray, List.set_cons_zero, List.set_cons_succ]
    refine wpAnyG_take 1 _ (.pointer (some ⟨c, 0, none⟩)) rfl (by kernel_rfl) (by kernel_rfl) (by kernel_rfl) (by kernel_rfl) (fun _ _ _ h => h) h0 (.inl ⟨by rfl, fun w hS => by rfl⟩) ?_
    try simp only [List.getElem_toArray, List.getElem_cons_zero, List.getElem_cons_succ, Act.put, List.setIfInBounds_toArray, List.set_cons_zero, List.set_cons_succ]
    refine wpAnyG_take 2 _ (.pointer (some ⟨c, 2, none⟩)) rfl (by kernel_rfl) (by kernel_rfl) (by kernel_rfl) (by kernel_rfl) (fun _ _ _ h => h) h0 (.inl ⟨by rfl, fun w hS => by rfl⟩) ?_
    try simp only [List.getElem_toArray, List.getElem_cons_zero, List.getElem_cons_succ, Act.put, List.setIfInBounds_toArray, List.set_cons_zero, List.set_cons_succ]
    refine wpAnyG_take 3 _ (.map (some mb)) rfl (by kernel_rfl) (by kernel_rfl) (by kernel_rfl) (by kernel_rfl) (fun _ _ _ h => h) h0 (.inl ⟨by rfl, fun w hS => by have hc := (cell_of_block (p := ⟨c, 2, none⟩) (hS c hc3 (by simp))).trans hcm; go_simp⟩) ?_
    try simp only [List.getElem_toArray, List.getElem_cons_zero, List.getElem_cons_succ, Act.put, List.setIfInBounds_toArray, List.set_cons_zero, List.set_cons_succ]
    refine wpAnyG_take 4 _ (.pointer (some ⟨w.heap.size, 2, none⟩)) rfl (by kernel_rfl) (by kernel_rfl) (by kernel_rfl) (by kernel_rfl) (fun _ _ _ h => h) h0 (.inl ⟨by rfl, fun w hS => by rfl⟩) ?_
    try simp only [List.getElem_toArray, List.getElem_cons_zero, List.getElem_cons_succ, Act.put, List.setIfInBounds_toArray, List.set_cons_zero, List.set_cons_succ]
    refine wpAnyG_take 5 _ (.agg (idOf ev).toArray) rfl (by kernel_rfl) (by kernel_rfl) (by kernel_rfl) (by kernel_rfl) (fun _ _ _ h => h) h0 (yieldsIf_load_mid (by rfl) 38 _ rfl (w.heap.size) (2) rfl (idOf ev) _ (fun w hS => range_of_block HI3.out (hS _ hw3 (by simp))) Tryd.underlying38 rfl (HIi.out)) ?_
    try simp only [List.getElem_toArray, List.getElem_cons_zero, List.getElem_cons_succ, Act.put, List.setIfInBounds_toArray, List.set_cons_zero, List.set_cons_succ]
    refine wpAnyG_take 6 _ (.agg #[.int .i64 ((p0.1 : Int) + 1), .int .i64 ((p0.2 : Int))]) rfl (by kernel_rfl) (by kernel_rfl) (by kernel_rfl) (by kernel_rfl) (fun _ _ _ h => h) h0 (.inl ⟨by rfl, fun w hS => by have g0 := (cell_of_block (p := ⟨W.heap.size, 0, none⟩) (hS _ hq3 (by simp))).trans d0; have g1 := (cell_of_block (p := ⟨W.heap.size, 1, none⟩) (hS _ hq3 (by simp))).trans d1; go_simp⟩) ?_
    try simp only [List.getElem_toArray, List.getElem_cons_zero, List.getElem_cons_succ, Act.put, List.setIfInBounds_toArray, List.set_cons_zero, List.set_cons_succ]
    have HCd : Hid (CtAt U3.drew mb f) := Lib.hid (HC3.out.ct.kept rfl)
    refine wpAnyG_ready [7] (by kernel_rfl) (by simp) ?_
    refine AllReadyG.cons 7 _ rfl (fun K' hK => ?_) AllReadyG.nil
    refine step_ctput rfl _ _ _ rfl mb f (idOf ev) (p0.1 + 1, p0.2) rfl rfl rfl HCd.out HIt.out ?_
    intro U4 o1 o2
    refine hK.out _ _ (fun h => absurd rfl h) ?_
    clear hK K'
    refine wpAnyG_done (by kernel_rfl) ?_ _
    have HP1 := Lib.hid o1
    have HP2 := Lib.hid o2
    clear o1 o2 hcm d0 d1
    go_wp2_with fail
    go_ret
    rw [T1.out, T2.out, T3.out, T4.out]
    exact ⟨rfl, (cend_ct HC3.out HP1.out ((Only.of_below ((Below.refl _ _).drew)).trans (Only.of_grown HP2.out (fun k hk => (Option.some.inj hk).symm)))).from HB3.out⟩
  by_cases k13 : intAt ev 0 = 13
  · rw [k13] at e0
    have t4 : tkC f ev = ctUp f (intsOf (idOf ev)) (p0.1 + 1, p0.2) := by simp [tkC, k13, HP0.out]
    have T4 := Lib.hid t4
    clear t4 k4 k5 k6 k8 k13
    have c0 : U.cell? ⟨W.heap.size, 0, none⟩ = some (.int .i64 (p0.1 : Int)) := World.rowIs.cell HQ.out (i := 0) (by omega)
    have c1 : U.cell? ⟨W.heap.size, 1, none⟩ = some (.int .i64 (p0.2 : Int)) := World.rowIs.cell HQ.out (i := 1) (by omega)
    have hfz := World.rowIs.frozen HQ.out 0
    have hwr : IntKind.i64.wrap ((p0.1 : Int) + 1) = (p0.1 : Int) + 1 := IntWalk.i64_in _ (by omega)
    have HX := Lib.hid (CtV.set0 HQ.out ((p0.1 : Int) + 1))
    have hlq := World.rowIs.lt HQ.out
    have HO3 : Hid (Only (fun k => k = W.heap.size) U (U.setCell ⟨W.heap.size, 0, none⟩ (.int .i64 ((p0.1 : Int) + 1)))) := Lib.hid (Only.set U _ _ _ rfl)
    have HB3 : Hid (Below w.heap.size w (U.setCell ⟨W.heap.size, 0, none⟩ (.int .i64 ((p0.1 : Int) + 1)))) := Lib.hid (HBU.out.setCell (p := ⟨W.heap.size, 0, none⟩) (Nat.le_of_lt huq) _)
    go_upto_region 15 with fail
    obtain ⟨U3, hU3⟩ : ∃ U3, U.setCell ⟨W.heap.size, 0, none⟩ (.int .i64 ((p0.1 : Int) + 1)) = U3 := ⟨_, rfl⟩
    rw [hU3] at HX HO3 HB3
    rw [hU3]
    clear hU3 c0 c1 hfz hwr
    have HC3 : Hid (CSt U3 base c mb (.slice A hs.length cp) hs n f) := Lib.hid (HCu.out.only HO3.out (fun k hk e => by
      rcases hk with hk | hk | hk
      · omega
      · omega
      · have := OwnR.lt HC.out.own k hk
        omega))
    have hcm := HC3.out.cl.cells.2.2
    have d0 := World.rowIs.cell HX.out (i := 0) (by omega)
    have d1 := World.rowIs.cell HX.out (i := 1) (by omega)
    change U3.cell? ⟨W.heap.size, 0, none⟩ = some (.int .i64 ((p0.1 : Int) + 1)) at d0
    change U3.cell? ⟨W.heap.size, 1, none⟩ = some (.int .i64 ((p0.2 : Int))) at d1
    have hq3 : W.heap.size < U3.heap.size := Nat.lt_of_lt_of_le hlq HO3.out.size
    have hc3 : c < U3.heap.size := Nat.lt_trans huc hq3
    have hw3 : w.heap.size < U3.heap.size := Nat.lt_trans huq hq3
    have HI3 := Lib.hid (range_of_block HIu.out (HO3.out.block w.heap.size (by omega) (by omega)))
    have hU0 : KeepBut none U3 U3.drew := fun k hk hn => rfl
    refine region_G 7 (KeepBut none U3) (by kernel_rfl) hU0 (fun h0 => ?_)
    refine wpAnyG_take 0 _ (.pointer (some ⟨c, 0, none⟩)) rfl (by kernel_rfl) (by kernel_rfl) (by kernel_rfl) (by kernel_rfl) (fun _ _ _ h => h) h0 (.inl ⟨by rfl, fun w hS => by rfl⟩) ?_
    try simp only [List.getElem_toArray, List.getElem_cons_zero, List.getElem_cons_succ, Act.put, List.setIfInBounds_toArray, List.set_cons_zero, List.set_cons_succ]
    refine wpAnyG_take 1 _ (.pointer (some ⟨c, 0, none⟩)) rfl (by kernel_rfl) (by kernel_rfl) (by kernel_rfl) (by kernel_rfl) (fun _ _ _ h => h) h0 (.inl ⟨by rfl, fun w hS => by rfl⟩) ?_
    try simp only [List.getElem_toArray, List.getElem_cons_zero, List.getElem_cons_succ, Act.put, List.setIfInBounds_toArray, List.set_cons_zero, List.set_cons_succ]
    refine wpAnyG_take 2 _ (.pointer (some ⟨c, 2, none⟩)) rfl (by kernel_rfl) (by kernel_rfl) (by kernel_rfl) (by kernel_rfl) (fun _ _ _ h => h) h0 (.inl ⟨by rfl, fun w hS => by rfl⟩) ?_
    try simp only [List.getElem_toArray, List.getElem_cons_zero, List.getElem_cons_succ, Act.put, List.setIfInBounds_toArray, List.set_cons_zero, List.set_cons_succ]
    refine wpAnyG_take 3 _ (.map (some mb)) rfl (by kernel_rfl) (by kernel_rfl) (by kernel_rfl) (by kernel_rfl) (fun _ _ _ h => h) h0 (.inl ⟨by rfl, fun w hS => by have hc := (cell_of_block (p := ⟨c, 2, none⟩) (hS c hc3 (by simp))).trans hcm; go_simp⟩) ?_
    try simp only [List.getElem_toArray, List.getElem_cons_zero, List.getElem_cons_succ, Act.put, List.setIfInBounds_toArray, List.set_cons_zero, List.set_cons_succ]
    refine wpAnyG_take 4 _ (.pointer (some ⟨w.heap.size, 2, none⟩)) rfl (by kernel_rfl) (by kernel_rfl) (by kernel_rfl) (by kernel_rfl) (fun _ _ _ h => h) h0 (.inl ⟨by rfl, fun w hS => by rfl⟩) ?_
    try simp only [List.getElem_toArray, List.getElem_cons_zero, List.getElem_cons_succ, Act.put, List.setIfInBounds_toArray, List.set_cons_zero, List.set_cons_succ]
    refine wpAnyG_take 5 _ (.agg (idOf ev).toArray) rfl (by kernel_rfl) (by kernel_rfl) (by kernel_rfl) (by kernel_rfl) (fun _ _ _ h => h) h0 (yieldsIf_load_mid (by rfl) 38 _ rfl (w.heap.size) (2) rfl (idOf ev) _ (fun w hS => range_of_block HI3.out (hS _ hw3 (by simp))) Tryd.underlying38 rfl (HIi.out)) ?_
    try simp only [List.getElem_toArray, List.getElem_cons_zero, List.getElem_cons_succ, Act.put, List.setIfInBounds_toArray, List.set_cons_zero, List.set_cons_succ]
    refine wpAnyG_take 6 _ (.agg #[.int .i64 ((p0.1 : Int) + 1), .int .i64 ((p0.2 : Int))]) rfl (by kernel_rfl) (by kernel_rfl) (by kernel_rfl) (by kernel_rfl) (fun _ _ _ h => h) h0 (.inl ⟨by rfl, fun w hS => by have g0 := (cell_of_block (p := ⟨W.heap.size, 0, none⟩) (hS _ hq3 (by simp))).trans d0; have g1 := (cell_of_block (p := ⟨W.heap.size, 1, none⟩) (hS _ hq3 (by simp))).trans d1; go_simp⟩) ?_
    try simp only [List.getElem_toArray, List.getElem_cons_zero, List.getElem_cons_succ, Act.put, List.setIfInBounds_toArray, List.set_cons_zero, List.set_cons_succ]
    have HCd : Hid (CtAt U3.drew mb f) := Lib.hid (HC3.out.ct.kept rfl)
    refine wpAnyG_ready [7] (by kernel_rfl) (by simp) ?_
    refine AllReadyG.cons 7 _ rfl (fun K' hK => ?_) AllReadyG.nil
    refine step_ctput rfl _ _ _ rfl mb f (idOf ev) (p0.1 + 1, p0.2) rfl rfl rfl HCd.out HIt.out ?_
    intro U4 o1 o2
    refine hK.out _ _ (fun h => absurd rfl h) ?_
    clear hK K'
    refine wpAnyG_done (by kernel_rfl) ?_ _
    have HP1 := Lib.hid o1
    have HP2 := Lib.hid o2
    clear o1 o2 hcm d0 d1
    go_wp2_with fail
    go_ret
    rw [T1.out, T2.out, T3.out, T4.out]
    exact ⟨rfl, (cend_ct HC3.out HP1.out ((Only.of_below ((Below.refl _ _).drew)).trans (Only.of_grown HP2.out (fun k hk => (Option.some.inj hk).symm)))).from HB3.out⟩
  by_cases k11 : intAt ev 0 = 11
  · rw [k11] at e0
    have t4 : tkC f ev = ctUp f (intsOf (idOf ev)) (p0.1, p0.2 + 1) := by simp [tkC, k11, HP0.out]
    have T4 := Lib.hid t4
    clear t4 k4 k5 k6 k8 k13 k11
    have c0 : U.cell? ⟨W.heap.size, 0, none⟩ = some (.int .i64 (p0.1 : Int)) := World.rowIs.cell HQ.out (i := 0) (by omega)
    have c1 : U.cell? ⟨W.heap.size, 1, none⟩ = some (.int .i64 (p0.2 : Int)) := World.rowIs.cell HQ.out (i := 1) (by omega)
    have hfz := World.rowIs.frozen HQ.out 1
    have hwr : IntKind.i64.wrap ((p0.2 : Int) + 1) = (p0.2 : Int) + 1 := IntWalk.i64_in _ (by omega)
    have HX := Lib.hid (CtV.set1 HQ.out ((p0.2 : Int) + 1))
    have hlq := World.rowIs.lt HQ.out
    have HO3 : Hid (Only (fun k => k = W.heap.size) U (U.setCell ⟨W.heap.size, 1, none⟩ (.int .i64 ((p0.2 : Int) + 1)))) := Lib.hid (Only.set U _ _ _ rfl)
    have HB3 : Hid (Below w.heap.size w (U.setCell ⟨W.heap.size, 1, none⟩ (.int .i64 ((p0.2 : Int) + 1)))) := Lib.hid (HBU.out.setCell (p := ⟨W.heap.size, 1, none⟩) (Nat.le_of_lt huq) _)
    go_upto_region 15 with fail
    obtain ⟨U3, hU3⟩ : ∃ U3, U.setCell ⟨W.heap.size, 1, none⟩ (.int .i64 ((p0.2 : Int) + 1)) = U3 := ⟨_, rfl⟩
    rw [hU3] at HX HO3 HB3
    rw [hU3]
    clear hU3 c0 c1 hfz hwr
    have HC3 : Hid (CSt U3 base c mb (.slice A hs.length cp) hs n f) := Lib.hid (HCu.out.only HO3.out (fun k hk e => by
      rcases hk with hk | hk | hk
      · omega
      · omega
      · have := OwnR.lt HC.out.own k hk
        omega))
    have hcm := HC3.out.cl.cells.2.2
    have d0 := World.rowIs.cell HX.out (i := 0) (by omega)
    have d1 := World.rowIs.cell HX.out (i := 1) (by omega)
    change U3.cell? ⟨W.heap.size, 0, none⟩ = some (.int .i64 ((p0.1 : Int))) at d0
    change U3.cell? ⟨W.heap.size, 1, none⟩ = some (.int .i64 ((p0.2 : Int) + 1)) at d1
    have hq3 : W.heap.size < U3.heap.size := Nat.lt_of_lt_of_le hlq HO3.out.size
    have hc3 : c < U3.heap.size := Nat.lt_trans huc hq3
    have hw3 : w.heap.size < U3.heap.size := Nat.lt_trans huq hq3
    have HI3 := Lib.hid (range_of_block HIu.out (HO3.out.block w.heap.size (by omega) (by omega)))
    have hU0 : KeepBut none U3 U3.drew := fun k hk hn => rfl
    refine region_G 7 (KeepBut none U3) (by kernel_rfl) hU0 (fun h0 => ?_)
    refine wpAnyG_take 0 _ (.pointer (some ⟨c, 0, none⟩)) rfl (by kernel_rfl) (by kernel_rfl) (by kernel_rfl) (by kernel_rfl) (fun _ _ _ h => h) h0 (.inl ⟨by rfl, fun w hS => by rfl⟩) ?_
    try simp only [List.getElem_toArray, List.getElem_cons_zero, List.getElem_cons_succ, Act.put, List.setIfInBounds_toArray, List.set_cons_zero, List.set_cons_succ]
    refine wpAnyG_take 1 _ (.pointer (some ⟨c, 0, none⟩)) rfl (by kernel_rfl) (by kernel_rfl) (by kernel_rfl) (by kernel_rfl) (fun _ _ _ h => h) h0 (.inl ⟨by rfl, fun w hS => by rfl⟩) ?_
    try simp only [List.getElem_toArray, List.getElem_cons_zero, List.getElem_cons_succ, Act.put, List.setIfInBounds_toArray, List.set_cons_zero, List.set_cons_succ]
    refine wpAnyG_take 2 _ (.pointer (some ⟨c, 2, none⟩)) rfl (by kernel_rfl) (by kernel_rfl) (by kernel_rfl) (by kernel_rfl) (fun _ _ _ h => h) h0 (.inl ⟨by rfl, fun w hS => by rfl⟩) ?_
    try simp only [List.getElem_toArray, List.getElem_cons_zero, List.getElem_cons_succ, Act.put, List.setIfInBounds_toArray, List.set_cons_zero, List.set_cons_succ]
    refine wpAnyG_take 3 _ (.map (some mb)) rfl (by kernel_rfl) (by kernel_rfl) (by kernel_rfl) (by kernel_rfl) (fun _ _ _ h => h) h0 (.inl ⟨by rfl, fun w hS => by have hc := (cell_of_block (p := ⟨c, 2, none⟩) (hS c hc3 (by simp))).trans hcm; go_simp⟩) ?_
    try simp only [List.getElem_toArray, List.getElem_cons_zero, List.getElem_cons_succ, Act.put, List.setIfInBounds_toArray, List.set_cons_zero, List.set_cons_succ]
    refine wpAnyG_take 4 _ (.pointer (some ⟨w.heap.size, 2, none⟩)) rfl (by kernel_rfl) (by kernel_rfl) (by kernel_rfl) (by kernel_rfl) (fun _ _ _ h => h) h0 (.inl ⟨by rfl, fun w hS => by rfl⟩) ?_
    try simp only [List.getElem_toArray, List.getElem_cons_zero, List.getElem_cons_succ, Act.put, List.setIfInBounds_toArray, List.set_cons_zero, List.set_cons_succ]
    refine wpAnyG_take 5 _ (.agg (idOf ev).toArray) rfl (by kernel_rfl) (by kernel_rfl) (by kernel_rfl) (by kernel_rfl) (fun _ _ _ h => h) h0 (yieldsIf_load_mid (by rfl) 38 _ rfl (w.heap.size) (2) rfl (idOf ev) _ (fun w hS => range_of_block HI3.out (hS _ hw3 (by simp))) Tryd.underlying38 rfl (HIi.out)) ?_
    try simp only [List.getElem_toArray, List.getElem_cons_zero, List.getElem_cons_succ, Act.put, List.setIfInBounds_toArray, List.set_cons_zero, List.set_cons_succ]
    refine wpAnyG_take 6 _ (.agg #[.int .i64 ((p0.1 : Int)), .int .i64 ((p0.2 : Int) + 1)]) rfl (by kernel_rfl) (by kernel_rfl) (by kernel_rfl) (by kernel_rfl) (fun _ _ _ h => h) h0 (.inl ⟨by rfl, fun w hS => by have g0 := (cell_of_block (p := ⟨W.heap.size, 0, none⟩) (hS _ hq3 (by simp))).trans d0; have g1 := (cell_of_block (p := ⟨W.heap.size, 1, none⟩) (hS _ hq3 (by simp))).trans d1; go_simp⟩) ?_
    try simp only [List.getElem_toArray, List.getElem_cons_zero, List.getElem_cons_succ, Act.put, List.setIfInBounds_toArray, List.set_cons_zero, List.set_cons_succ]
    have HCd : Hid (CtAt U3.drew mb f) := Lib.hid (HC3.out.ct.kept rfl)
    refine wpAnyG_ready [7] (by kernel_rfl) (by simp) ?_
    refine AllReadyG.cons 7 _ rfl (fun K' hK => ?_) AllReadyG.nil
    refine step_ctput rfl _ _ _ rfl mb f (idOf ev) (p0.1, p0.2 + 1) rfl rfl rfl HCd.out HIt.out ?_
    intro U4 o1 o2
    refine hK.out _ _ (fun h => absurd rfl h) ?_
    clear hK K'
    refine wpAnyG_done (by kernel_rfl) ?_ _
    have HP1 := Lib.hid o1
    have HP2 := Lib.hid o2
    clear o1 o2 hcm d0 d1
    go_wp2_with fail
    go_ret
    rw [T1.out, T2.out, T3.out, T4.out]
    exact ⟨rfl, (cend_ct HC3.out HP1.out ((Only.of_below ((Below.refl _ _).drew)).trans (Only.of_grown HP2.out (fun k hk => (Option.some.inj hk).symm)))).from HB3.out⟩
  have t4 : tkC f ev = f := by simp [tkC, k8, k13, k11]
  have T4 := Lib.hid t4
  have b4 : (intAt ev 0 == 4) = false := beq_eq_false_iff_ne.2 k4
  have b5 : (intAt ev 0 == 5) = false := beq_eq_false_iff_ne.2 k5
  have b6 : (intAt ev 0 == 6) = false := beq_eq_false_iff_ne.2 k6
  have b8 : (intAt ev 0 == 8) = false := beq_eq_false_iff_ne.2 k8
  have b13 : (intAt ev 0 == 13) = false := beq_eq_false_iff_ne.2 k13
  have b11 : (intAt ev 0 == 11) = false := beq_eq_false_iff_ne.2 k11
  clear t4 k4 k5 k6 k8 k13 k11
  generalize intAt ev 0 = kd at e0 b4 b5 b6 b8 b13 b11
  go_wp2_with fail
  go_ret
  rw [T1.out, T2.out, T3.out, T4.out]
  exact ⟨rfl, CEnd.still (HC.out.later HBq.out) (Below.refl _ _) |>.from HBU.out⟩

end Go.Proofs.YthdbhajpjkkehaaDoor
