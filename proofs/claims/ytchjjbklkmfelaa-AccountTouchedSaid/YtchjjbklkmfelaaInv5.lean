/- The steps of a region that draws, under a plan; at its end all has come up. -/
import Derived.Test.YtchjjbklkmfelaaInv4
namespace Go.Proofs.Ytchjjbklkmfelaa
open Go.RowKit Go.Lib Go.Deep
set_option linter.unusedVariables false

def nodupB : List Nat → Bool
  | [] => true
  | x :: l => !l.contains x && nodupB l
theorem nodupB_spec : ∀ {l : List Nat}, nodupB l = true → l.Nodup
  | [], _ => List.nodup_nil
  | x :: l, h => by
    unfold nodupB at h
    rw [Bool.and_eq_true] at h
    refine List.nodup_cons.2 ⟨fun hx => ?_, nodupB_spec h.2⟩
    have := h.1
    simp [hx] at this
theorem nodup_inj {α : Type} {f : α → Nat} : ∀ {l : List α}, (l.map f).Nodup → ∀ x ∈ l, ∀ y ∈ l, f x = f y → x = y
  | [], _, x, hx, _, _, _ => by cases hx
  | z :: l, h, x, hx, y, hy, e => by
    rw [List.map_cons, List.nodup_cons] at h
    rcases List.mem_cons.1 hx with ex | hx'
    · rcases List.mem_cons.1 hy with ey | hy'
      · rw [ex, ey]
      · rw [ex] at e
        exact absurd (e ▸ List.mem_map_of_mem hy') h.1
    · rcases List.mem_cons.1 hy with ey | hy'
      · rw [ey] at e
        exact absurd (e ▸ List.mem_map_of_mem hx') h.1
      · exact nodup_inj h.2 x hx' y hy' e
/-- A plan in which no operation, and no slot, is told twice. -/
def Plan.fair (T : Plan) : Bool := nodupB (T.vals.map (·.1) ++ (T.vars.map (·.1) ++ T.puts.map (·.1))) && (nodupB (T.vals.map (·.2.1) ++ T.vars.map (·.2.1)) && (nodupB (T.puts.map (·.2.1)) && nodupB (T.vals.map (·.2.1) ++ T.puts.map (·.2.1))))
structure Plan.Good (T : Plan) : Prop where
  k1 : (T.vals.map (·.1)).Nodup
  k2 : (T.vars.map (·.1)).Nodup
  k3 : (T.puts.map (·.1)).Nodup
  k12 : ∀ x ∈ T.vals, ∀ y ∈ T.vars, x.1 ≠ y.1
  k13 : ∀ x ∈ T.vals, ∀ y ∈ T.puts, x.1 ≠ y.1
  k23 : ∀ x ∈ T.vars, ∀ y ∈ T.puts, x.1 ≠ y.1
  s1 : (T.vals.map (·.2.1)).Nodup
  s2 : (T.vars.map (·.2.1)).Nodup
  s3 : (T.puts.map (·.2.1)).Nodup
  s12 : ∀ x ∈ T.vals, ∀ y ∈ T.vars, x.2.1 ≠ y.2.1
  s13 : ∀ x ∈ T.vals, ∀ y ∈ T.puts, x.2.1 ≠ y.2.1
theorem Plan.good {T : Plan} (h : T.fair = true) : T.Good := by
  unfold Plan.fair at h
  rw [Bool.and_eq_true, Bool.and_eq_true, Bool.and_eq_true] at h
  obtain ⟨h1, h2, h3, h4⟩ := h
  obtain ⟨a1, a2, a3⟩ := List.nodup_append.1 (nodupB_spec h1)
  obtain ⟨b1, b2, b3⟩ := List.nodup_append.1 a2
  obtain ⟨c1, c2, c3⟩ := List.nodup_append.1 (nodupB_spec h2)
  obtain ⟨d1, d2, d3⟩ := List.nodup_append.1 (nodupB_spec h4)
  exact ⟨a1, b1, b2, fun x hx y hy => a3 _ (List.mem_map_of_mem hx) _ (List.mem_append_left _ (List.mem_map_of_mem hy)), fun x hx y hy => a3 _ (List.mem_map_of_mem hx) _ (List.mem_append_right _ (List.mem_map_of_mem hy)),
    fun x hx y hy => b3 _ (List.mem_map_of_mem hx) _ (List.mem_map_of_mem hy), c1, c2, nodupB_spec h3, fun x hx y hy => c3 _ (List.mem_map_of_mem hx) _ (List.mem_map_of_mem hy), fun x hx y hy => d3 _ (List.mem_map_of_mem hx) _ (List.mem_map_of_mem hy)⟩

section
variable {T : Plan} {W0 : World} {L : Array Bool} {V : Nat → Value} {w w' : World}
theorem Stands.took (hG : T.Good) (h : Stands T W0 L V w) {i s : Nat} {v : Value} (hi : (i, s, v) ∈ T.vals) (hb : Below w.heap.size w w') : Stands T W0 (L.setIfInBounds i true) (turnV V s v) w' :=
  h.taken hi hb (fun k s' v' hk => ⟨fun e => by
      have := nodup_inj hG.k1 _ hk _ hi e
      cases this
      exact ⟨rfl, rfl⟩, fun e => by
      have := nodup_inj hG.s1 _ hk _ hi e
      cases this
      rfl⟩)
    (fun k s' n hk => ⟨fun e => hG.k12 _ hi _ hk e.symm, fun e => hG.s12 _ hi _ hk e.symm⟩) (fun k s' n hk => ⟨fun e => hG.k13 _ hi _ hk e.symm, fun e => hG.s13 _ hi _ hk e.symm⟩)
theorem Stands.born (hG : T.Good) (h : Stands T W0 L V w) {i s n : Nat} (hi : (i, s, n) ∈ T.vars) (cs : Array Value) (t : TypeId) (hn : cs.size = n) (hni : ¬ up L i) :
    Stands T W0 (L.setIfInBounds i true) (turnV V s (.pointer (some ⟨w.heap.size, 0, none⟩))) (w.alloc (.cells cs t)) :=
  h.made cs t hn (fun k s' n hk => ⟨fun e => hG.k12 _ hk _ hi e, fun e => hG.s12 _ hk _ hi e⟩) (fun k s' v' hk => ⟨fun e => by
      have := nodup_inj hG.k2 _ hk _ hi e
      cases this
      exact ⟨rfl, rfl⟩, fun e => by
      have := nodup_inj hG.s2 _ hk _ hi e
      cases this
      rfl⟩) (fun k s' n hk e => hG.k23 _ hi _ hk e.symm) hni
theorem Stands.laid (hG : T.Good) (h : Stands T W0 L V w) {j s k0 n : Nat} {x : List Value} (hj : (j, s, x) ∈ T.puts) (hv : (k0, s, n) ∈ T.vars) (h0 : up L k0) (hn : x.length = n) {p : Nat} (hp : V s = .pointer (some ⟨p, 0, none⟩)) :
    Stands T W0 (L.setIfInBounds j true) V (w.setCells p 0 x) :=
  h.stored hj hv h0 hn (fun k s' v hk e => hG.k13 _ hk _ hj e) (fun k s' v hk e => hG.k23 _ hk _ hj e) (fun k s' v' hk => ⟨fun e => by
      have := nodup_inj hG.k3 _ hk _ hj e
      cases this
      exact ⟨rfl, rfl⟩, fun e => by
      have := nodup_inj hG.s3 _ hk _ hj e
      cases this
      rfl⟩) hp
end

section
variable {P : Program} {ops : Array Oper} {Q : Exit → Act → World → Prop} {a : Act} {S : List Nat} {V : Nat → Value} {w : World} {L : Array Bool} {i : Nat} {o : Oper} {T : Plan} {W0 : World}
theorem at_move (hG : T.Good) (hF : Stands T W0 L V w) (ho : ops[i]? = some o) (hg : o.guard = none) (x : Operand) (hop : o.op = .move x) (s : Nat) (hd : o.dst = some s) (hs : S.contains s = true) (v : Value) (hi : (i, s, v) ∈ T.vals) (hx : (over a S V).eval x = v) :
    wpOp P ops Q i (fun a'' w'' => ∃ V', a'' = over a S V' ∧ Stands T W0 (L.setIfInBounds i true) V' w'') (over a S V) w :=
  step_move (F := Stands T W0) ho hg x hop s hd hs v hx (hF.took hG hi (Below.refl _ _))
theorem at_load (hG : T.Good) (hF : Stands T W0 L V w) (ho : ops[i]? = some o) (hg : o.guard = none) (ty : TypeId) (x : Operand) (hop : o.op = .load ty x) (s : Nat) (hd : o.dst = some s) (hs : S.contains s = true) (b k : Nat) (hx : (over a S V).eval x = .pointer (some ⟨b, k, none⟩))
    (cs : List Value) (hi : (i, s, .agg cs.toArray) ∈ T.vals) (d : TypeDesc) (hc : w.rangeAt b k cs) (hu : P.underlying ty = some d) (hr : d.isRow = true) (hn : (P.info? ty).map (·.size) = some cs.length) :
    wpOp P ops Q i (fun a'' w'' => ∃ V', a'' = over a S V' ∧ Stands T W0 (L.setIfInBounds i true) V' w'') (over a S V) w :=
  step_load (F := Stands T W0) ho hg ty x hop s hd hs b k hx cs d hc hu hr hn (hF.took hG hi (Below.refl _ _))
theorem at_alloc (hG : T.Good) (hF : Stands T W0 L V w) (hr : i ∈ Region.ready .any ops L) (ho : ops[i]? = some o) (hg : o.guard = none) (ty : TypeId) (hop : o.op = .alloc ty) (s : Nat) (hd : o.dst = some s) (hs : S.contains s = true) (z : Value) (n : Nat) (hi : (i, s, n) ∈ T.vars) (hz : (zeroValue ty).run P w = .ok z w) (hn : z.cells.size = n) :
    wpOp P ops Q i (fun a'' w'' => ∃ V', a'' = over a S V' ∧ Stands T W0 (L.setIfInBounds i true) V' w'') (over a S V) w :=
  step_alloc (F := Stands T W0) ho hg ty hop s hd hs z hz (hF.born hG hi _ _ hn (ready_down hr))
theorem at_call (hG : T.Good) (hF : Stands T W0 L V w) (ho : ops[i]? = some o) (hg : o.guard = none) (f : FuncId) (xs : Array Operand) (ats : Array TypeId) (hop : o.op = .call { callee := .value (.func f), args := xs, argTypes := ats }) (s : Nat) (hd : o.dst = some s) (hs : S.contains s = true) (hc : ∀ args w, (callFunc f args).run P w = .ok (.enter f args) w)
    (args : Array Value) (hx : xs.map (over a S V).eval = args) (v : Value) (hi : (i, s, v) ∈ T.vals) (hcalls : Calls P f args w fun e w' => e = .returned v ∧ Below w.heap.size w w') :
    wpOp P ops Q i (fun a'' w'' => ∃ V', a'' = over a S V' ∧ Stands T W0 (L.setIfInBounds i true) V' w'') (over a S V) w :=
  step_call (F := Stands T W0) ho hg f xs ats hop s hd hs hc args hx hcalls fun e w' ⟨h1, h2⟩ => ⟨v, h1, hF.took hG hi h2⟩
theorem at_store (hG : T.Good) (hF : Stands T W0 L V w) (ho : ops[i]? = some o) (hg : o.guard = none) (ty : TypeId) (s : Nat) (y : Operand) (hop : o.op = .store ty (.tmp s) y) (hd : o.dst = none) (hs : S.contains s = true) (hsl : Nat.blt s a.tmps.size = true) (x : List Value) (hj : (i, s, x) ∈ T.puts) (k0 n : Nat) (hv : (k0, s, n) ∈ T.vars) (h0 : up L k0) (hn : x.length = n)
    (hy : (over a S V).eval y = .agg x.toArray) (hi : (P.info? ty).map (·.size) = some x.length) (h1 : ∀ v ∈ x, v.oneCell' = true) :
    wpOp P ops Q i (fun a'' w'' => ∃ V', a'' = over a S V' ∧ Stands T W0 (L.setIfInBounds i true) V' w'') (over a S V) w := by
  obtain ⟨p, hp, -, -, ht⟩ := hF.var k0 s n hv h0
  refine step_store (F := Stands T W0) ho hg ty (.tmp s) y hop hd p 0 x.toArray ((over_slot a S V s hs hsl).trans hp) hy ?_ ?_ (all_oneCell_toArray h1) ?_
  · rw [List.size_toArray, hn]; exact ht
  · rw [List.size_toArray]; exact hi
  · exact hF.laid hG hj hv h0 hn hp
/-- Each operation waits for earlier ones alone. -/
def forward (md : Region.Mode) (ops : Array Oper) : Bool := (List.range ops.size).all fun i => ((ops[i]?).map fun o => o.after.all fun e => !(Region.binds md e) || decide (e.on < i)).getD true
theorem all_up {md : Region.Mode} (hf : forward md ops = true) (hs : L.size = ops.size) (hr : Region.ready md ops L = []) : ∀ n i, i < n → i < ops.size → up L i
  | 0, i, h, _ => by omega
  | n + 1, i, h, hi => by
    by_cases hu : up L i
    · exact hu
    exfalso
    have hL : L.getD i true = false := by
      unfold up at hu
      simp only [Array.getD_eq_getD_getElem?] at hu ⊢
      rw [Array.getElem?_eq_getElem (by omega)] at hu ⊢
      simpa using hu
    have hmem : i ∈ Region.ready md ops L := by
      unfold Region.ready
      refine List.mem_filter.2 ⟨List.mem_range.2 hi, ?_⟩
      rw [hL]
      rw [Array.getElem?_eq_getElem hi]
      simp only [Bool.not_false, Bool.true_and, Option.map_some, Option.getD_some, Array.all_eq_true_iff_forall_mem]
      intro e he
      have h1 := List.all_eq_true.1 hf i (List.mem_range.2 hi)
      rw [Array.getElem?_eq_getElem hi] at h1
      simp only [Option.map_some, Option.getD_some, Array.all_eq_true_iff_forall_mem] at h1
      have h2 := h1 e he
      cases hb : Region.binds md e with
      | false => rfl
      | true =>
        rw [hb] at h2
        have h3 : e.on < i := by simpa using h2
        have h4 := all_up hf hs hr n e.on (by omega) (by omega)
        simpa [up] using h4
    rw [hr] at hmem
    cases hmem
end
end Go.Proofs.Ytchjjbklkmfelaa
