/- The law of the light client: the client's state and the document's, side by side. -/
import Derived.Test.YthdbhajpjkkehaaDoorPost
import Derived.Test.YthdbhajpjkkehaaDoorLt13
namespace Go.Proofs.YthdbhajpjkkehaaDoor
set_option linter.unusedVariables false

def typedB : List (Option IntKind) → List Value → Bool
  | [], [] => true
  | some k :: ks, .int k' n :: vs => decide (k' = k) && (Lit.int k n).wf && typedB ks vs
  | none :: ks, .bool _ :: vs => typedB ks vs
  | _, _ => false
theorem typed_of_B : ∀ (ks : List (Option IntKind)) (vs : List Value), typedB ks vs = true → Typed ks vs := by
  intro ks vs
  induction ks, vs using typedB.induct with
  | case1 => intro _; exact rfl
  | case2 k ks k' n vs ih =>
    intro h
    unfold typedB at h
    simp only [Bool.and_eq_true, decide_eq_true_eq] at h
    obtain ⟨⟨rfl, h1⟩, h2⟩ := h
    exact ⟨_, _, rfl, ⟨n, rfl, h1⟩, ih h2⟩
  | case3 ks b vs ih =>
    intro h
    unfold typedB at h
    exact ⟨_, _, rfl, ⟨b, rfl⟩, ih h⟩
  | case4 ks vs h1 h2 h3 =>
    intro h
    unfold typedB at h
    split at h
    · exact absurd rfl (h1 rfl)
    · exact absurd rfl (h2 _ _ _ _ _ rfl)
    · exact absurd rfl (h3 _ _ _ rfl)
    · cases h
end Go.Proofs.YthdbhajpjkkehaaDoor

namespace Go.Proofs.YthdbhajpjkkehaaDoor
open Go.RowKit Go.Lib
set_option linter.unusedVariables false
set_option linter.unusedSimpArgs false

set_option maxRecDepth 100000
def zl : List Value := [.int .u32 0, .int .u64 0, .int .u8 0, .int .u8 0, .int .u8 0, .int .u8 0, .int .u8 0, .int .u8 0, .int .u8 0, .int .u8 0, .int .u8 0, .int .u8 0, .int .u8 0, .int .u8 0, .int .u8 0, .int .u8 0, .int .u8 0, .int .u8 0, .int .u8 0, .int .u8 0, .int .u8 0, .int .u8 0, .int .u8 0, .int .u8 0, .int .u8 0, .int .u8 0, .int .u8 0, .int .u8 0, .int .u8 0, .int .u8 0, .int .u8 0, .int .u8 0, .int .u8 0, .int .u8 0, .int .u64 0]
theorem zl_typed : Typed hdK zl := typed_of_B _ _ (by kernel_rfl)
theorem wpList_buildZ {P : Program} {ops : Array Oper} {rest : List Oper} {o : Oper} {a : Act} {w : World} {Q : Exit → Act → World → Prop} (hg : o.guard = none) (t e : TypeId) (n : Nat) (ho : o.op = .build t #[]) (hu : P.underlying t = some (.array n e)) (z : Value) (hz : (P.info? t).bind (·.zero) = some z) (he : (P.info? e).isSome = true)
    (h : wpList P ops Q rest (a.put o.dst (.agg z.cells)) w) : wpList P ops Q (o :: rest) a w := by
  refine wpList_plain hg fun Kk hKk => ?_
  obtain ⟨i, hi, hz2⟩ := Option.bind_eq_some_iff.1 hz
  obtain ⟨ie, hie⟩ := Option.isSome_iff_exists.1 he
  have hr : (Instr.build t #[]).run P w = .ok (.agg z.cells) w := by
    simp [Instr.build, run_underlying hu, sizeOf, typeInfo, zeroValue, hi, hie, hz2, Instr.fill, Result.andThen]
  unfold Oper.wp execOp
  simp only [ho, Sem.run_bind, Sem.run_pure, Array.map_empty, hr, Result.andThen_ok]
  exact hKk _ _ h
set_option maxHeartbeats 2000000 in
theorem final_none (c n : Nat) (v mp : Value) (hs : List (List Value)) (m : Int) (w : World) (h : ClAt w c v n mp) (hR : Recs hdK w v hs) (hl : hs.length ≤ 1000) (hm : fnd hs m = -1) :
    Calls Tryd.prog 23 #[.pointer (some ⟨c, 0, none⟩), .int .u32 m] w fun e w' => e = .returned (.tuple #[.agg zl.toArray, .int .i64 10]) ∧ Below w.heap.size w w' := by
  have Q0 : Below w.heap.size w (w.alloc objHd) := (Below.refl _ _).alloc (Nat.le_refl _) _
  have hC := World.rowIs.of_block h (Q0.block c (World.rowIs.lt h))
  have HF := Lib.hid (find_calls c v hs m (w.alloc objHd) (ClAt.cells (n := n) (mp := mp) hC).1 (hR.below hdK_pos Q0) hl)
  rw [hm] at HF
  have HTh := Lib.hid (hd_there w zl_typed)
  have hsz : w.heap.size < (w.alloc objHd).heap.size := by simp
  have HQ := Lib.hid Q0
  obtain ⟨W, hW⟩ : ∃ W, w.alloc objHd = W := ⟨_, rfl⟩
  rw [hW] at HF HTh hsz HQ
  clear h hR hl hm hC Q0
  unfold objHd at hW
  go_enter Tryd.func23, Tryd.ntmps23
  go_upto_region 1 with fail
  clear hW
  go_wp2_with (first
    | (go_at_call 31
       refine HF.out.mono ?_
       rintro e w2 ⟨rfl, hb2⟩
       have HTh2 : Hid (w2.there w.heap.size 0 zl.toArray.size) := Lib.hid (fun j hj => by
         have := HTh.out j hj
         have hb := hb2.block w.heap.size hsz
         unfold World.cell? World.frozen? at this ⊢
         simp only [hb]
         exact this)
       have HB2 := Lib.hid hb2
       clear hb2)
    | refine wpList_store_mid rfl 42 _ _ rfl w.heap.size 0 zl.toArray rfl rfl HTh2.out (hd_info' zl_typed) (hd_one zl_typed) ?_)
  try simp only [Exit.inBlock, Exit.then]
  exact bodyPost_ret (results_mid2 rfl _ _ w.heap.size zl _ rfl (World.rangeAt_setCells_same _ _ _ _ (by have := HTh2.out; rwa [List.size_toArray] at this)) Tryd.underlying42 rfl (hd_info zl_typed)) rfl ⟨rfl, below_range (Nat.le_refl _) zl 0 _ (HQ.out.trans (HB2.out.mono HQ.out.size))⟩
theorem check_lit (w : World) : Calls Tryd.prog 22 #[.agg #[.int .u32 0, .int .u8 0, .int .u8 0, .int .u64 1, .int .u64 0, .int .u64 0, .int .u64 0]] w fun e w' => e = .returned (.int .i64 0) ∧ Below w.heap.size w w' := by
  go_enter Tryd.func22, Tryd.ntmps22
  go_wp2_with fail
  go_ret
  exact ⟨rfl, (Below.refl _ _).alloc (Nat.le_refl _) _⟩
set_option maxHeartbeats 2000000 in
theorem known_none (c n : Nat) (v mp : Value) (hs : List (List Value)) (zs : Array Value) (w : World) (h : ClAt w c v n mp) (hR : Recs hdK w v hs) (hl : hs.length ≤ 1000) (hm : fnd hs 0 = -1) :
    Calls Tryd.prog 12 #[.pointer (some ⟨c, 0, none⟩), .agg #[.int .u32 0, .int .u8 0, .int .u8 0, .int .u64 1, .int .u64 0, .int .u64 0, .int .u64 0], .int .u32 0, .agg zs] w fun e w' => e = .returned (.int .i64 10) ∧ Below w.heap.size w w' := by
  have hck := fun w => check_lit w
  have HCk := Lib.hid hck
  have HFn := Lib.hid (fun w' (hb : Below w.heap.size w w') => final_none c n v mp hs 0 w' (World.rowIs.of_block h (hb.block c (World.rowIs.lt h))) (hR.below hdK_pos hb) hl hm)
  clear h hR hl hm hck
  have r0 := range_alloc w #[.int .u32 0, .int .u8 0, .int .u8 0, .int .u64 1, .int .u64 0, .int .u64 0, .int .u64 0] 28
  have Q1 : Below (w.heap.size + 1) (w.alloc (.cells #[.int .u32 0, .int .u8 0, .int .u8 0, .int .u64 1, .int .u64 0, .int .u64 0, .int .u64 0] 28)) ((w.alloc (.cells #[.int .u32 0, .int .u8 0, .int .u8 0, .int .u64 1, .int .u64 0, .int .u64 0, .int .u64 0] 28)).alloc (.cells zs 58)) := (Below.refl _ _).alloc (by simp) _
  have r1 := range_below r0 Q1 (Nat.lt_succ_self _)
  have Q0 : Below w.heap.size w ((w.alloc (.cells #[.int .u32 0, .int .u8 0, .int .u8 0, .int .u64 1, .int .u64 0, .int .u64 0, .int .u64 0] 28)).alloc (.cells zs 58)) := ((Below.refl _ _).alloc (Nat.le_refl _) _).alloc (by simp) _
  obtain ⟨W, hW⟩ : ∃ W, (w.alloc (.cells #[.int .u32 0, .int .u8 0, .int .u8 0, .int .u64 1, .int .u64 0, .int .u64 0, .int .u64 0] 28)).alloc (.cells zs 58) = W := ⟨_, rfl⟩
  rw [hW] at r1 Q0
  have d0 := r1 0 _ rfl
  have d1 := r1 1 _ rfl
  have d2 := r1 2 _ rfl
  have d3 := r1 3 _ rfl
  have d4 := r1 4 _ rfl
  have d5 := r1 5 _ rfl
  have d6 := r1 6 _ rfl
  simp only [Nat.zero_add] at d0 d1 d2 d3 d4 d5 d6
  have HQ := Lib.hid Q0
  clear r0 r1 Q1 Q0
  go_enter Tryd.func12, Tryd.ntmps12
  go_upto_region 1 with fail
  clear hW
  go_upto_region 2 with (go_at_call 22
                         refine (HCk.out _).mono ?_
                         rintro e w2 ⟨rfl, hb2⟩
                         have HB2 := Lib.hid (HQ.out.trans (hb2.mono HQ.out.size))
                         clear hb2 d0 d1 d2 d3 d4 d5 d6)
  go_upto_region 3 with fail
  go_wp2_with (first
    | (go_at_call 23
       refine (HFn.out _ HB2.out).mono ?_
       rintro e w3 ⟨rfl, hb3⟩
       have HB3 := Lib.hid (HB2.out.trans (hb3.mono HB2.out.size))
       have HTh3 := Lib.hid (hd_there w3 zl_typed)
       unfold objHd at HTh3
       clear hb3)
    | (with_reducible refine wpList_store_mid rfl 42 _ _ rfl w3.heap.size 0 zl.toArray rfl rfl HTh3.out (hd_info' zl_typed) (hd_one zl_typed) ?_))
  have hb := hnew_below w3 objHd zl
  unfold objHd at hb
  go_ret
  exact ⟨rfl, HB3.out.trans (hb.mono HB3.out.size)⟩
def evL : List Value := [.int .u8 4, .int .u64 7, .int .u8 0, .int .u8 0, .int .u8 0, .int .u8 0, .int .u8 0, .int .u8 0, .int .u8 0, .int .u8 0, .int .u8 0, .int .u8 0, .int .u8 0, .int .u8 0, .int .u8 0, .int .u8 0, .int .u8 0, .int .u8 0, .int .u8 0, .int .u8 0, .int .u8 0, .int .u8 0, .int .u8 0, .int .u8 0, .int .u8 0, .int .u8 0, .int .u8 0, .int .u8 0, .int .u8 0, .int .u8 0, .int .u8 0, .int .u8 0, .int .u8 0, .int .u8 0, .int .u8 0, .int .u8 0, .int .u8 0, .int .u8 0, .int .u64 0, .int .u64 0, .int .u64 0, .int .u64 0, .int .u64 0, .int .u64 0, .int .u64 0, .int .u64 0, .int .u32 2]
def hdL : List Value := [.int .u32 2, .int .u64 5, .int .u8 0, .int .u8 0, .int .u8 0, .int .u8 0, .int .u8 0, .int .u8 0, .int .u8 0, .int .u8 0, .int .u8 0, .int .u8 0, .int .u8 0, .int .u8 0, .int .u8 0, .int .u8 0, .int .u8 0, .int .u8 0, .int .u8 0, .int .u8 0, .int .u8 0, .int .u8 0, .int .u8 0, .int .u8 0, .int .u8 0, .int .u8 0, .int .u8 0, .int .u8 0, .int .u8 0, .int .u8 0, .int .u8 0, .int .u8 0, .int .u8 0, .int .u8 0, .int .u64 7]
theorem evL_typed : Typed evK evL := typed_of_B _ _ (by kernel_rfl)
theorem hdL_typed : Typed hdK hdL := typed_of_B _ _ (by kernel_rfl)
theorem pz : ∃ zs, (Tryd.prog.info? 58).bind (·.zero) = some (.agg zs) := by
  have h : ((Tryd.prog.info? 58).bind (·.zero)).map (fun v => match v with | .agg _ => true | _ => false) = some true := by kernel_rfl
  obtain ⟨z, hz, h2⟩ := Option.map_eq_some_iff.1 h
  cases z <;> simp at h2
  exact ⟨_, hz⟩
theorem lv_e : tkE [] 0 evL hdL = 0 := by kernel_rfl
theorem lv_h : tkH [] 0 evL hdL = [hdL] := by kernel_rfl
theorem lv_n : tkN [] 0 evL = 0 := by kernel_rfl
/-- A new client. -/
theorem cst_new {w w' : World} (hm : w'.heap[w.heap.size]? = some (.map #[] 0)) (hc : ClAt w' (w.heap.size + 1) (.slice none 0 0) 0 (.map (some w.heap.size))) : CSt w' w.heap.size (w.heap.size + 1) w.heap.size (.slice none 0 0) [] 0 (fun _ => (0, 0)) :=
  ⟨hc, OwnR.nil _ _ _ _, CtAt.new hm, by omega, by simp [Value.ownBlock], by simp [Value.ownBlock], by omega, by omega, by have := World.rowIs.lt hc; omega, by simp⟩
set_option maxHeartbeats 4000000 in
theorem lives_calls (w : World) : Calls Tryd.prog 4 #[] w fun e w' => e = .returned (.bool true) ∧ Below w.heap.size w w' := by
  obtain ⟨zs, hz⟩ := pz
  have hnew := Lib.hid (lnew_calls w)
  have HZ := Lib.hid hz
  have HE := Lib.hid lv_e
  have HH := Lib.hid lv_h
  have HN := Lib.hid lv_n
  have hie : (Tryd.prog.info? 38).isSome = true := by kernel_rfl
  have HIe := Lib.hid hie
  clear hz hie
  go_enter Tryd.func4, Tryd.ntmps4
  go_wp2_with (first
    | (go_at_call 5
       refine hnew.out.mono ?_
       rintro e w1 ⟨rfl, m1, m2, m3⟩
       have HC1 := Lib.hid (cst_new m1 m2)
       have HB1 := Lib.hid m3
       clear m1 m2 m3)
    | refine wpList_buildZ rfl 58 38 32 rfl Tryd.underlying58 (.agg zs) HZ.out HIe.out ?_
    | (go_at_call 12
       refine (known_none (w.heap.size + 1) 0 _ _ [] zs w1 HC1.out.cl HC1.out.own.recs (by simp) rfl).mono ?_
       rintro e w2 ⟨rfl, hb2⟩
       have HC2 := Lib.hid (HC1.out.later hb2)
       have HB2 := Lib.hid (HB1.out.trans (hb2.mono HB1.out.size))
       clear hb2)
    | (go_at_call 8
       refine (ctake_calls _ _ _ _ _ _ _ evL hdL w2 HC2.out (by simp) evL_typed hdL_typed (fun k => ⟨by decide, by decide⟩)).mono ?_
       rintro e w3 ⟨rfl, v3, u1, u2, u3⟩
       rw [HE.out]
       rw [HH.out, HN.out] at u1
       obtain ⟨A3, c3, rfl, -⟩ := id u1.own.recs
       have HC3 := Lib.hid u1
       have HB3 : Hid (Below w.heap.size w w3) := Lib.hid (HB2.out.trans (u3.below HB2.out.size (fun k hk => by
         rcases hk with hk | hk | hk
         · omega
         · omega
         · simp [Value.ownBlock] at hk)))
       clear u1 u2 u3)
    | (go_at_call 13
       refine (heads_calls _ _ [hdL] w3 HC3.out.cl.cells.1 HC3.out.own.recs (ownH_nil_or HC3.out.own) (by simp)).mono ?_
       rintro e w4 ⟨v4, rfl, u1, u2, u3⟩
       obtain ⟨A4, c4, rfl, -⟩ := id u1.recs
       have HC4 := Lib.hid (HC3.out.later u3)
       have HB4 := Lib.hid (HB3.out.trans (u3.mono HB3.out.size))
       clear u1 u2 u3)
    | (go_at_call 14
       refine (finals_calls _ _ w4 HC4.out.cl.cells.2.1).mono ?_
       rintro e w5 ⟨rfl, rfl⟩))
  go_ret
  exact ⟨rfl, HB4.out⟩
end Go.Proofs.YthdbhajpjkkehaaDoor

namespace Go.Proofs.YthdbhajpjkkehaaDoor
open Go.RowKit Go.Lib
set_option linter.unusedVariables false
set_option linter.unusedSimpArgs false

/-- How often was paid, and refunded: what the events say. -/
def cntOf (es : List (List Value)) : Cnts := fun id => (paidOf es id, backOf es id)
theorem cnt_snoc (es : List (List Value)) (x : List Value) (id : List Int) : cntOf (es ++ [x]) id = (paidOf es id + (if decide (intsOf (idOf x) = id) && !decide (intAt x 0 = 11) then 1 else 0), backOf es id + (if decide (intsOf (idOf x) = id) && decide (intAt x 0 = 11) then 1 else 0)) := by
  unfold cntOf paidOf backOf
  simp only [List.filter_append, List.length_append, List.filter_cons, List.filter_nil]
  congr 1
  · split <;> rfl
  · split <;> rfl
theorem cnt_take (es : List (List Value)) (ev : List Value) : tkC (cntOf es) ev = cntOf (tkS es ev) := by
  funext id
  by_cases h1 : intAt ev 0 = 8 ∨ intAt ev 0 = 13
  · have h2 : tkS es ev = es ++ [ev] := by
      unfold tkS
      rw [if_pos (by rcases h1 with h | h <;> simp [h])]
    have h3 : intAt ev 0 ≠ 11 := by rcases h1 with h | h <;> omega
    rw [h2, cnt_snoc]
    unfold tkC
    rw [if_pos h1]
    unfold ctUp
    by_cases e : id = intsOf (idOf ev)
    · subst e
      rw [if_pos rfl]
      simp [h3, cntOf]
    · rw [if_neg e]
      have : ¬ intsOf (idOf ev) = id := fun h => e h.symm
      simp [this, cntOf]
  · by_cases h4 : intAt ev 0 = 11
    · have h2 : tkS es ev = es ++ [ev] := by
        unfold tkS
        rw [if_pos (by simp [h4])]
      rw [h2, cnt_snoc]
      unfold tkC
      rw [if_neg h1, if_pos h4]
      unfold ctUp
      by_cases e : id = intsOf (idOf ev)
      · subst e
        rw [if_pos rfl]
        simp [h4, cntOf]
      · rw [if_neg e]
        have : ¬ intsOf (idOf ev) = id := fun h => e h.symm
        simp [this, cntOf]
    · have h2 : tkS es ev = es := by
        unfold tkS
        rw [if_neg (by intro h; rcases h with h | h | h; exact h1 (.inl h); exact h4 h; exact h1 (.inr h))]
      rw [h2]
      unfold tkC
      rw [if_neg h1, if_neg h4]
theorem tkH_len (hs : List (List Value)) (n : Nat) (ev h : List Value) : (tkH hs n ev h).length ≤ hs.length + 1 := by
  unfold tkH
  split
  · split
    · simp
    · omega
  · split
    · split
      · rw [List.length_take]; omega
      · omega
    · omega
theorem tkS_len (es : List (List Value)) (ev : List Value) : (tkS es ev).length ≤ es.length + 1 := by
  unfold tkS
  split
  · simp
  · omega
/-- The client, the document's in its variable, and the counts. -/
structure Pair (w : World) (base c mb wq : Nat) (v dv fv ev : Value) (hs : List (List Value)) (nf : Nat) (es : List (List Value)) : Prop where
  cs : CSt w base c mb v hs nf (cntOf es)
  ds : DSt w base dv fv ev hs nf es
  rw : RAt w wq dv fv ev
  s1 : ∀ k, dv.ownBlock = some k → ¬ CN c mb v k ∧ k ≠ wq
  s2 : ∀ k, fv.ownBlock = some k → ¬ CN c mb v k ∧ k ≠ wq
  s3 : ∀ k, ev.ownBlock = some k → ¬ CN c mb v k ∧ k ≠ wq
  nq : ¬ CN c mb v wq
  qb : base ≤ wq
theorem CN.lt {w : World} {base c mb : Nat} {v : Value} {hs : List (List Value)} {nf : Nat} {f : Cnts} (h : CSt w base c mb v hs nf f) {k : Nat} (hk : CN c mb v k) : base ≤ k ∧ k < w.heap.size := by
  rcases hk with hk | hk | hk
  · subst hk; exact ⟨h.cb, World.rowIs.lt h.cl⟩
  · subst hk; exact ⟨h.mbb, h.ct.lt⟩
  · exact OwnR.lt h.own k hk
theorem Pair.later {w w' : World} {base c mb wq : Nat} {v dv fv ev : Value} {hs : List (List Value)} {nf : Nat} {es : List (List Value)} (h : Pair w base c mb wq v dv fv ev hs nf es) (hb : Below w.heap.size w w') : Pair w' base c mb wq v dv fv ev hs nf es :=
  ⟨h.cs.later hb, h.ds.later hb, h.rw.of (hb.block wq h.rw.lt), h.s1, h.s2, h.s3, h.nq, h.qb⟩
/-- The document's new state is stored into its variable. -/
theorem pair_doc {w w1 : World} {base c mb wq : Nat} {v dv fv ev dv' fv' ev' : Value} {hs hs' : List (List Value)} {nf nf' : Nat} {es es' : List (List Value)} (h : Pair w base c mb wq v dv fv ev hs nf es) (hb : Below w.heap.size w w1) (hd : DSt w1 base dv' fv' ev' hs' nf' es')
    (n1 : NewOr w dv dv') (n2 : NewOr w fv fv') (n3 : NewOr w ev ev') :
    CSt (((w1.setCell ⟨wq, 0, none⟩ dv').setCell ⟨wq, 1, none⟩ fv').setCell ⟨wq, 2, none⟩ ev') base c mb v hs nf (cntOf es) ∧ DSt (((w1.setCell ⟨wq, 0, none⟩ dv').setCell ⟨wq, 1, none⟩ fv').setCell ⟨wq, 2, none⟩ ev') base dv' fv' ev' hs' nf' es' ∧ RAt (((w1.setCell ⟨wq, 0, none⟩ dv').setCell ⟨wq, 1, none⟩ fv').setCell ⟨wq, 2, none⟩ ev') wq dv' fv' ev' ∧
    (∀ k, dv'.ownBlock = some k → ¬ CN c mb v k ∧ k ≠ wq) ∧ (∀ k, fv'.ownBlock = some k → ¬ CN c mb v k ∧ k ≠ wq) ∧ (∀ k, ev'.ownBlock = some k → ¬ CN c mb v k ∧ k ≠ wq) := by
  have sep : ∀ (x x' : Value), NewOr w x x' → (∀ k, x.ownBlock = some k → ¬ CN c mb v k ∧ k ≠ wq) → ∀ k, x'.ownBlock = some k → ¬ CN c mb v k ∧ k ≠ wq := fun x x' hn hx k hk => by
    rcases hn with rfl | hn
    · exact hx k hk
    · have := hn k hk
      exact ⟨fun hc => by have := (CN.lt h.cs hc).2; omega, by have := h.rw.lt; omega⟩
  have t1 := sep _ _ n1 h.s1
  have t2 := sep _ _ n2 h.s2
  have t3 := sep _ _ n3 h.s3
  have ho := only_set3 w1 wq dv' fv' ev'
  refine ⟨(h.cs.later hb).only ho (fun k hk e => h.nq (e ▸ hk)), hd.only ho (fun k hk => (t1 k hk).2) (fun k hk => (t2 k hk).2) (fun k hk => (t3 k hk).2), rat_set3 (h.rw.of (hb.block wq h.rw.lt)) _ _ _, t1, t2, t3⟩
/-- The client takes the event, too. -/
theorem pair_take {w w' : World} {base c mb wq : Nat} {v dv fv ev : Value} {hs hs' : List (List Value)} {nf nf' : Nat} {f' : Cnts} {es es' : List (List Value)} (hc : CEnd w w' base c mb v hs' nf' f') (hcs : CSt w base c mb v hs nf (cntOf es)) (hd : DSt w base dv fv ev hs' nf' es') (hr : RAt w wq dv fv ev)
    (t1 : ∀ k, dv.ownBlock = some k → ¬ CN c mb v k ∧ k ≠ wq) (t2 : ∀ k, fv.ownBlock = some k → ¬ CN c mb v k ∧ k ≠ wq) (t3 : ∀ k, ev.ownBlock = some k → ¬ CN c mb v k ∧ k ≠ wq) (nq : ¬ CN c mb v wq) (qb : base ≤ wq) (hf : f' = cntOf es') :
    ∃ v', Pair w' base c mb wq v' dv fv ev hs' nf' es' ∧ Below base w w' := by
  obtain ⟨v', h1, h2, h3⟩ := hc
  subst hf
  have hcn : ∀ k, k < w.heap.size → ¬ CN c mb v k → ¬ CN c mb v' k := fun k hk hn hc' => by
    rcases hc' with e | e | e
    · exact hn (.inl e)
    · exact hn (.inr (.inl e))
    · rcases h2 with h2 | h2
      · exact hn (.inr (.inr (h2.symm.trans e)))
      · have := h2 k e; omega
  refine ⟨v', ⟨h1, hd.only h3 (fun k hk => (t1 k hk).1) (fun k hk => (t2 k hk).1) (fun k hk => (t3 k hk).1), hr.of (h3.block wq hr.lt nq), fun k hk => ⟨hcn k (OwnR.lt hd.hd k hk).2 (t1 k hk).1, (t1 k hk).2⟩, fun k hk => ⟨hcn k (OwnR.lt hd.fin k hk).2 (t2 k hk).1, (t2 k hk).2⟩, fun k hk => ⟨hcn k (OwnR.lt hd.ev k hk).2 (t3 k hk).1, (t3 k hk).2⟩, hcn wq hr.lt nq, qb⟩, h3.below hcs.bw (fun k hk => (CN.lt hcs hk).1)⟩
end Go.Proofs.YthdbhajpjkkehaaDoor
