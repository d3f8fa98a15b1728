/- Regions that draw their order and end with a store that waits for all else: what is held need not hold behind it. -/
import Derived.Test.YthdbhajpjkkehaaDoorLt7
namespace Go.Proofs.YthdbhajpjkkehaaDoor
open Go.RowKit Go.Lib
set_option linter.unusedVariables false
set_option linter.unusedSimpArgs false

section
variable {P : Program} {ops : Array Oper} {md : Region.Mode} {Q : Exit → Act → World → Prop} {S : World → Prop}
def wpAnyG (P : Program) (md : Region.Mode) (ops : Array Oper) (Q : Exit → Act → World → Prop) (S : World → Prop) (z : Nat) : Nat → Array Bool → Act → World → Prop
  | 0, listed, a, w => Region.ready md ops listed = [] ∧ Q .normal a w
  | fuel + 1, listed, a, w =>
    (Region.ready md ops listed = [] → Q .normal a w) ∧
    ∀ i ∈ Region.ready md ops listed, wpOp P ops Q i (fun a' w' => (i ≠ z → S w') ∧ wpAnyG P md ops Q S z fuel (listed.setIfInBounds i true) a' w') a w
theorem wpAny_of_G (z : Nat) : ∀ (fuel : Nat) (listed : Array Bool) (a : Act) (w : World), wpAnyG P md ops Q S z fuel listed a w → wpAny P md ops Q fuel listed a w
  | 0, _, _, _, h => h
  | fuel + 1, _, _, _, h => ⟨h.1, fun i hi => wpOp_mono (fun a' w' h' => wpAny_of_G z fuel _ a' w' h'.2) (h.2 i hi)⟩
theorem wpAnyG_first {i z : Nat} {oi : Oper} {v : Value} (hi : ops[i]? = some oi) (hsel : ∀ (j : Nat) (o : Oper) cs b, ops[j]? = some o → o.op ≠ .select cs b)
    (hQ : ∀ c a w, Q (.panic c) (a.put oi.dst v) w → Q (.panic c) a w) (hz : Region.waitsFor md ops z i = true) :
    ∀ (fuel : Nat) (listed : Array Bool) (a : Act) (w : World),
      (∀ j oj, ops[j]? = some oj → j ≠ i → listed.getD j true = false → (∀ e ∈ oj.after, Region.binds md e = true → e.on ≠ i) → oi.apart ops oj = true) →
      i ∈ Region.ready md ops listed → YieldsIf P ops S oi v a → S w →
      wpAnyG P md ops Q S z fuel (listed.setIfInBounds i true) (a.put oi.dst v) w → wpAnyG P md ops Q S z (fuel + 1) listed a w := by
  intro fuel
  induction fuel with
  | zero =>
    intro listed a w _ hr hy hS H
    refine ⟨fun h => (by rw [h] at hr; cases hr), fun j hj => ?_⟩
    by_cases hji : j = i
    · subst hji; exact hy.wpOp hi hS ⟨fun _ => hS, H⟩
    · have := ready_mono hj hji
      rw [H.1] at this
      cases this
  | succ fuel ih =>
    intro listed a w hfree hr hy hS H
    refine ⟨fun h => (by rw [h] at hr; cases hr), fun j hj => ?_⟩
    by_cases hji : j = i
    · subst hji; exact hy.wpOp hi hS ⟨fun _ => hS, H⟩
    · have h1 := H.2 j (ready_mono hj hji)
      obtain ⟨hjun, oj, hoj, hall⟩ := mem_ready.1 hj
      have hnot : ∀ e ∈ oj.after, Region.binds md e = true → e.on ≠ i := fun e he hb heq => by
        have h1 := hall e he hb
        have h0 := (mem_ready.1 hr).1
        rw [heq] at h1
        rcases Nat.lt_or_ge i listed.size with h' | h'
        · simp [h'] at h0 h1; rw [h0] at h1; cases h1
        · simp [Array.getElem?_eq_none h'] at h1
      have hjz : j ≠ z := fun e => by
        subst e
        obtain ⟨oz, hoz, e, he, hb, hon⟩ := Region.waitsFor_spec hz
        have : oz = oj := Option.some.inj (hoz.symm.trans hoj)
        subst this
        exact hnot e he hb hon
      have h2 := wpOp_putIf hoj (hfree j oj hoj hji hjun hnot) (fun cs b => hsel i oi cs b hi) (fun cs b => hsel j oj cs b hoj) hQ hy h1
      have hfree' : ∀ k ok, ops[k]? = some ok → k ≠ i → (listed.setIfInBounds j true).getD k true = false →
          (∀ e ∈ ok.after, Region.binds md e = true → e.on ≠ i) → oi.apart ops ok = true := fun k ok hk hki hun hno => by
        refine hfree k ok hk hki ?_ hno
        by_cases hjk : j = k
        · subst hjk; exact hjun
        · rw [getD_set_ne true hjk] at hun; exact hun
      refine wpOp_mono (fun a' w' h3 => ⟨fun _ => h3.2.1 hjz, ih (listed.setIfInBounds j true) a' w' hfree' (ready_mono hr (Ne.symm hji)) h3.1 (h3.2.1 hjz) ?_⟩) h2
      rw [Array.setIfInBounds_comm _ _ hji]
      exact h3.2.2
theorem wpAnyG_take {z : Nat} (i : Nat) (oi : Oper) (v : Value) {fuel : Nat} {listed : Array Bool} {a : Act} {w : World} (hi : ops[i]? = some oi)
    (hs : Region.noSelect ops = true) (hf : Region.free md ops listed i = true) (hr : (Region.ready md ops listed).contains i = true) (hz : Region.waitsFor md ops z i = true)
    (hQ : ∀ c a w, Q (.panic c) (a.put oi.dst v) w → Q (.panic c) a w) (hS : S w) (hy : YieldsIf P ops S oi v a)
    (h : wpAnyG P md ops Q S z fuel (listed.setIfInBounds i true) (a.put oi.dst v) w) : wpAnyG P md ops Q S z (fuel + 1) listed a w :=
  wpAnyG_first hi (Region.noSelect_spec hs) hQ hz fuel listed a w (Region.free_spec hi hf) (by simpa using hr) hy hS h
def AllReadyG (P : Program) (md : Region.Mode) (ops : Array Oper) (Q : Exit → Act → World → Prop) (S : World → Prop) (z fuel : Nat) (listed : Array Bool) (a : Act) (w : World) (rs : List Nat) : Prop :=
  ∀ i ∈ rs, wpOp P ops Q i (fun a' w' => (i ≠ z → S w') ∧ wpAnyG P md ops Q S z fuel (listed.setIfInBounds i true) a' w') a w
theorem AllReadyG.nil {z fuel : Nat} {listed : Array Bool} {a : Act} {w : World} : AllReadyG P md ops Q S z fuel listed a w [] := fun _ h => by cases h
theorem AllReadyG.cons {z fuel : Nat} {listed : Array Bool} {a : Act} {w : World} (i : Nat) (o : Oper) {rs : List Nat} (ho : ops[i]? = some o)
    (h : ∀ K' : Act → World → Prop, Shut (∀ a w, (i ≠ z → S w) → wpAnyG P md ops Q S z fuel (listed.setIfInBounds i true) a w → K' a w) → if Region.wanted o (yielded ops a.tmps) = true then Oper.wp P o a w K' Q else K' (a.put o.dst undef) w)
    (hs : AllReadyG P md ops Q S z fuel listed a w rs) : AllReadyG P md ops Q S z fuel listed a w (i :: rs) := fun j hj => by
  rcases List.mem_cons.1 hj with rfl | hj
  · exact wpOp_step ho (fun K' hK => h K' (fun a w hS hW => hK a w ⟨hS, hW⟩))
  · exact hs j hj
theorem wpAnyG_ready {z : Nat} (rs : List Nat) {fuel : Nat} {listed : Array Bool} {a : Act} {w : World} (hr : Region.ready md ops listed = rs) (hne : rs ≠ [])
    (h : AllReadyG P md ops Q S z fuel listed a w rs) : wpAnyG P md ops Q S z (fuel + 1) listed a w := ⟨fun h0 => absurd (hr ▸ h0) hne, hr ▸ h⟩
theorem wpAnyG_done {z : Nat} {listed : Array Bool} {a : Act} {w : World} (hr : Region.ready md ops listed = []) (h : Q .normal a w) :
    ∀ fuel, wpAnyG P md ops Q S z fuel listed a w
  | 0 => ⟨hr, h⟩
  | _ + 1 => ⟨fun _ => h, by rw [hr]; simp⟩
theorem region_G {id : Nat} {a : Act} {w : World} (z : Nat) (S : World → Prop) (hm : P.follows .mixedOrders = true) (hS : S w.drew)
    (h : S w.drew → wpAnyG P .any ops Q S z ops.size (Array.replicate ops.size false) a w.drew) : (Code.region id ops true).wp P Q a w :=
  wp_region_any hm (wpAny_of_G z _ _ _ _ (h hS))
/-- A list of one record, built. -/
theorem step_build1 {o : Oper} {a : Act} {w : World} {K' : Act → World → Prop} {F : Prop} (hg : o.guard = none) (t E : TypeId) (y : Operand) (ho : o.op = .buildSlice t 1 #[(0, y)])
    (x : List Value) (hy : a.eval y = .agg x.toArray) (K : Kinds) (hx : Typed K x) (z : Value) (bytes : Nat) (hu : P.underlying t = some (.slice E))
    (hi : (P.info? E).map (fun i => (i.zero, i.size, i.bytes)) = some (some z, K.length, bytes)) (hK : 0 < K.length) (hsm : K.length ≤ 2 ^ 24)
    (h : K' (a.put o.dst (.slice (some ⟨w.heap.size, 0, none⟩) 1 1)) (w.alloc (.cells x.toArray E))) : if Region.wanted o (yielded ops a.tmps) = true then Oper.wp P o a w K' Q else F := by
  have hw : Region.wanted o (yielded ops a.tmps) = true := by simp [Region.wanted, hg]
  rw [if_pos hw]
  obtain ⟨i0, hi0, hz0, hz1, hz2⟩ := info_parts hi
  refine wp_buildSlice t E 1 #[(0, y)] ho x.toArray i0 z hu hi0 hz0 (by rw [hz1]; omega) (by rw [hz1]; omega) ?_ h
  have hl := hx.length
  have := Great.fill_whole (s := i0.size) (by rw [hz1]; exact hK) [.agg x.toArray] ((Array.range (1 * i0.size)).map (z.cells[· % z.cells.size]!)) (fun v hv => by
    rw [List.mem_singleton.1 hv, hz1]; simp [Value.cells, hl]) (by simp)
  simp [hy]
  simpa [Value.cells] using this
end
/-- Nothing but some blocks has turned. -/
structure Only (N : Nat → Prop) (w w' : World) : Prop where
  os : w'.os = w.os
  tape : w'.tape = w.tape
  output : w'.output = w.output
  size : w.heap.size ≤ w'.heap.size
  block : ∀ k, k < w.heap.size → ¬ N k → w'.heap[k]? = w.heap[k]?
theorem Only.refl (N : Nat → Prop) (w : World) : Only N w w := ⟨rfl, rfl, rfl, Nat.le_refl _, fun _ _ _ => rfl⟩
theorem Only.trans {N : Nat → Prop} {w w' w'' : World} (h : Only N w w') (h' : Only N w' w'') : Only N w w'' :=
  ⟨h'.os.trans h.os, h'.tape.trans h.tape, h'.output.trans h.output, Nat.le_trans h.size h'.size, fun k hk hn => (h'.block k (Nat.lt_of_lt_of_le hk h.size) hn).trans (h.block k hk hn)⟩
theorem Only.mono {N M : Nat → Prop} {w w' : World} (h : Only N w w') (hm : ∀ k, k < w.heap.size → N k → M k) : Only M w w' :=
  ⟨h.os, h.tape, h.output, h.size, fun k hk hn => h.block k hk (fun hN => hn (hm k hk hN))⟩
theorem Only.of_below {N : Nat → Prop} {w w' : World} (h : Below w.heap.size w w') : Only N w w' := ⟨h.os, h.tape, h.output, h.size, fun k hk _ => h.block k hk⟩
theorem Only.of_grown {N : Nat → Prop} {w w' : World} {row : Option Nat} (h : w.grownBy w' row) (hN : ∀ k, row = some k → N k) : Only N w w' := by
  obtain ⟨h1, h2, h3, h4, h5⟩ := h
  exact ⟨h1, h2, h3, h4, fun k hk hn => h5 k hk (fun e => hn (hN k e.symm))⟩
theorem Only.set {N : Nat → Prop} (w : World) (c o : Nat) (u : Value) (hN : N c) : Only N w (w.setCell ⟨c, o, none⟩ u) := by
  have h := set_only w c o u
  exact ⟨h.1.os, h.1.tape, h.1.output, h.1.size, fun k _ hn => h.2 k (fun e => hn (e ▸ hN))⟩
theorem Only.below {N : Nat → Prop} {w w' : World} {base : Nat} (h : Only N w w') (hb : base ≤ w.heap.size) (hN : ∀ k, N k → base ≤ k) : Below base w w' :=
  ⟨h.os, h.tape, h.output, h.size, fun k hk => h.block k (by omega) (fun hn => by have := hN k hn; omega)⟩
theorem OwnR.same {E : TypeId} {K : Kinds} {w w' : World} {base : Nat} {v : Value} {l : List (List Value)} (h : OwnR E K w base v l) (hb : ∀ k, v.ownBlock = some k → w'.heap[k]? = w.heap[k]?) : OwnR E K w' base v l := by
  refine ⟨⟨h.1.1, ?_⟩, h.2⟩
  rcases h.1.2 with h2 | ⟨g', cap, cur, rfl, hb', hc, h3⟩
  · exact .inl h2
  · refine .inr ⟨g', cap, cur, rfl, hb', ?_, h3⟩
    rw [hb g' rfl]
    exact hc
theorem OwnR.only {E : TypeId} {K : Kinds} {N : Nat → Prop} {w w' : World} {base : Nat} {v : Value} {l : List (List Value)} (h : OwnR E K w base v l) (ho : Only N w w') (hn : ∀ k, v.ownBlock = some k → ¬ N k) : OwnR E K w' base v l :=
  h.same fun k hk => ho.block k (OwnR.lt h k hk).2 (hn k hk)
end Go.Proofs.YthdbhajpjkkehaaDoor
