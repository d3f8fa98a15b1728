/- The steps of a region that draws, one law for each kind of operation. -/
import Derived.Test.YtchjjbklkmfelaaInv3
namespace Go.Proofs.Ytchjjbklkmfelaa
open Go.RowKit Go.Lib Go.Deep
set_option linter.unusedVariables false
section
variable {P : Program} {ops : Array Oper} {Q : Exit → Act → World → Prop} {a : Act} {S : List Nat} {V : Nat → Value} {w : World} {L : Array Bool} {F : Array Bool → (Nat → Value) → World → Prop} {i : Nat} {o : Oper}

theorem wanted_plain (hg : o.guard = none) (ts : Nat → Option Bool) : Region.wanted o ts = true := by
  unfold Region.wanted
  rw [hg]
/-- What an operation waits for has come up. -/
theorem ready_up {md : Region.Mode} (h : i ∈ Region.ready md ops L) (ho : ops[i]? = some o) (e : Edge) (he : e ∈ o.after) (hb : Region.binds md e = true) : up L e.on := by
  obtain ⟨-, -, o', ho', h'⟩ := ready_spec h
  rw [ho] at ho'
  cases ho'
  exact h' e he hb
theorem ready_down {md : Region.Mode} (h : i ∈ Region.ready md ops L) : ¬ up L i := by
  obtain ⟨-, h1, -⟩ := ready_spec h
  intro h2
  unfold up at h2
  simp only [Array.getD_eq_getD_getElem?] at h1 h2
  cases h3 : L[i]? with
  | none => rw [h3] at h2; cases h2
  | some b => rw [h3] at h1 h2; simp only [Option.getD_some] at h1 h2; rw [h1] at h2; cases h2

theorem step_move (ho : ops[i]? = some o) (hg : o.guard = none) (x : Operand) (hop : o.op = .move x) (s : Nat) (hd : o.dst = some s) (hs : S.contains s = true) (v : Value) (hx : (over a S V).eval x = v) (h : F (L.setIfInBounds i true) (turnV V s v) w) :
    wpOp P ops Q i (fun a'' w'' => ∃ V', a'' = over a S V' ∧ F (L.setIfInBounds i true) V' w'') (over a S V) w :=
  step_over ho (wanted_plain hg) fun K hK => by
    unfold Oper.wp execOp
    simp only [hop, Sem.run_pure, hx]
    show K ((over a S V).put o.dst v) w
    rw [hd, over_put _ _ _ _ _ hs]
    exact hK _ _ h
theorem step_assign (ho : ops[i]? = some o) (hg : o.guard = none) (x : Operand) (hop : o.op = .assign x) (s : Nat) (hd : o.dst = some s) (hs : S.contains s = true) (v : Value) (hx : (over a S V).eval x = v) (h : F (L.setIfInBounds i true) (turnV V s v) w) :
    wpOp P ops Q i (fun a'' w'' => ∃ V', a'' = over a S V' ∧ F (L.setIfInBounds i true) V' w'') (over a S V) w :=
  step_over ho (wanted_plain hg) fun K hK => by
    unfold Oper.wp execOp
    simp only [hop, Sem.run_pure, hx]
    show K ((over a S V).put o.dst v) w
    rw [hd, over_put _ _ _ _ _ hs]
    exact hK _ _ h
theorem step_extract (ho : ops[i]? = some o) (hg : o.guard = none) (x : Operand) (j : Nat) (hop : o.op = .extract x j) (s : Nat) (hd : o.dst = some s) (hs : S.contains s = true) (vs : Array Value) (v : Value) (hx : (over a S V).eval x = .tuple vs) (hj : vs[j]? = some v) (h : F (L.setIfInBounds i true) (turnV V s v) w) :
    wpOp P ops Q i (fun a'' w'' => ∃ V', a'' = over a S V' ∧ F (L.setIfInBounds i true) V' w'') (over a S V) w :=
  step_over ho (wanted_plain hg) fun K hK => by
    unfold Oper.wp execOp Instr.extract
    simp only [hop, hx, Sem.run_bind, hj, Sem.run_pure, Result.andThen_ok]
    show K ((over a S V).put o.dst v) w
    rw [hd, over_put _ _ _ _ _ hs]
    exact hK _ _ h
theorem step_load (ho : ops[i]? = some o) (hg : o.guard = none) (ty : TypeId) (x : Operand) (hop : o.op = .load ty x) (s : Nat) (hd : o.dst = some s) (hs : S.contains s = true) (b k : Nat) (hx : (over a S V).eval x = .pointer (some ⟨b, k, none⟩))
    (cs : List Value) (d : TypeDesc) (hc : w.rangeAt b k cs) (hu : P.underlying ty = some d) (hr : d.isRow = true) (hi : (P.info? ty).map (·.size) = some cs.length) (h : F (L.setIfInBounds i true) (turnV V s (.agg cs.toArray)) w) :
    wpOp P ops Q i (fun a'' w'' => ∃ V', a'' = over a S V' ∧ F (L.setIfInBounds i true) V' w'') (over a S V) w :=
  step_over ho (wanted_plain hg) fun K hK => wp_load_mid ty x hop b k hx cs d hc hu hr hi (by rw [hd, over_put _ _ _ _ _ hs]; exact hK _ _ h)
theorem step_store (ho : ops[i]? = some o) (hg : o.guard = none) (ty : TypeId) (x y : Operand) (hop : o.op = .store ty x y) (hd : o.dst = none) (b k : Nat) (cells : Array Value) (hx : (over a S V).eval x = .pointer (some ⟨b, k, none⟩)) (hy : (over a S V).eval y = .agg cells)
    (ht : w.there b k cells.size) (hi : (P.info? ty).map (·.size) = some cells.size) (h1 : cells.all (·.oneCell') = true) (h : F (L.setIfInBounds i true) V (w.setCells b k cells.toList)) :
    wpOp P ops Q i (fun a'' w'' => ∃ V', a'' = over a S V' ∧ F (L.setIfInBounds i true) V' w'') (over a S V) w :=
  step_over ho (wanted_plain hg) fun K hK => wp_store_mid ty x y hop b k cells hx hy ht hi h1 (by rw [hd]; exact hK _ _ h)
theorem step_alloc (ho : ops[i]? = some o) (hg : o.guard = none) (ty : TypeId) (hop : o.op = .alloc ty) (s : Nat) (hd : o.dst = some s) (hs : S.contains s = true) (z : Value) (hz : (zeroValue ty).run P w = .ok z w)
    (h : F (L.setIfInBounds i true) (turnV V s (.pointer (some ⟨w.heap.size, 0, none⟩))) (w.alloc (.cells z.cells ty))) :
    wpOp P ops Q i (fun a'' w'' => ∃ V', a'' = over a S V' ∧ F (L.setIfInBounds i true) V' w'') (over a S V) w :=
  step_over ho (wanted_plain hg) fun K hK => by
    unfold Oper.wp execOp Instr.alloc newVar
    simp only [hop, Sem.run_bind, Sem.run_pure, Result.andThen_ok, hz]
    show K ((over a S V).put o.dst _) _
    rw [hd, over_put _ _ _ _ _ hs]
    exact hK _ _ h
theorem step_call (ho : ops[i]? = some o) (hg : o.guard = none) (f : FuncId) (xs : Array Operand) (ats : Array TypeId) (hop : o.op = .call { callee := .value (.func f), args := xs, argTypes := ats }) (s : Nat) (hd : o.dst = some s) (hs : S.contains s = true) (hc : ∀ args w, (callFunc f args).run P w = .ok (.enter f args) w)
    (args : Array Value) (hx : xs.map (over a S V).eval = args) {R : Ending → World → Prop} (hcalls : Calls P f args w R) (h : ∀ e w', R e w' → ∃ v, e = .returned v ∧ F (L.setIfInBounds i true) (turnV V s v) w') :
    wpOp P ops Q i (fun a'' w'' => ∃ V', a'' = over a S V' ∧ F (L.setIfInBounds i true) V' w'') (over a S V) w :=
  step_over ho (wanted_plain hg) fun K hK => by
    obtain ⟨dst, op, ty, pos, after, guard⟩ := o
    cases hop
    unfold Oper.wp
    rw [execOp_call_go, hx, hc]
    show Calls P f _ w _
    rw [show (#[] ++ args ++ #[] : Array Value) = args by simp]
    refine hcalls.mono fun e w' hr => ?_
    obtain ⟨v, rfl, hF⟩ := h e w' hr
    show K ((over a S V).put dst v) w'
    cases hd
    rw [over_put _ _ _ _ _ hs]
    exact hK _ _ hF
end
end Go.Proofs.Ytchjjbklkmfelaa
