/- The law on such regions: what is to be shown of each kind of operation. -/
import Derived.Test.YtchjjbklkmfelaaPlan3
import Derived.Test.YtchjjbklkmfelaaRecs
import Derived.Great.BuildSlice
namespace Go.Proofs.Ytchjjbklkmfelaa
open Go.RowKit Go.Lib Go.Deep
set_option linter.unusedVariables false

/-- All that a base world has stays; the new blocks lie above it. -/
def Cls (W : World) (_ : Nat) (N : Nat → Prop) (w : World) : Prop := Below W.heap.size W w ∧ ∀ b, N b → W.heap.size ≤ b
theorem Cls.alloc {W : World} : ∀ m N w o, Cls W m N w → Cls W m (fun b => N b ∨ b = w.heap.size) (w.alloc o) := fun m N w o ⟨h1, h2⟩ => ⟨h1.alloc h1.size o, fun b hb => hb.elim (h2 b) fun e => by rw [e]; exact h1.size⟩
theorem Cls.put {W : World} : ∀ m N w p xs, Cls W m N w → N p → Cls W m N (w.setCells p 0 xs) := fun m N w p xs ⟨h1, h2⟩ hp => ⟨below_range (h2 p hp) xs 0 w h1, h2⟩
theorem Cls.start (W : World) : Cls W 0 (fun _ => False) W.drew := ⟨(Below.refl _ _).drew, fun b h => h.elim⟩
theorem Stays.of_below {T : Sched} {N : Nat → Prop} {w w' : World} (h : Below w.heap.size w w') : Stays T N w w' := ⟨fun b _ hb => h.block b hb, h.size, fun _ => h⟩
theorem Cls.call {T : Sched} {W : World} {m : Nat} {N : Nat → Prop} {w w' : World} (h : Cls W m N w) (hb : Below w.heap.size w w') : Cls W m N w' ∧ Stays T N w w' := ⟨⟨h.1.trans (hb.mono h.1.size), h.2⟩, .of_below hb⟩

section
variable {P : Program} {ops : Array Oper} {a : Act} {T : Sched} {C : Nat → (Nat → Prop) → World → Prop} {i : Nat} {o : Oper}

theorem pm_main (ht : T.tag i = .main) (hg : o.guard = none) (h : ∀ m c N w A, m ≤ lates T.tags → C m N w → Facts ops T c N w i → ReadsAs ops T a c i A (o.looksAt ops) → o.quietAt P A (fun w' => C m N w' ∧ Stays T N w w') w (T.nth i)) : StepAt ops P T a C i o := by
  unfold StepAt
  rw [ht]
  intro m c N w A h1 h2 h3 h4
  unfold Guarded
  rw [hg]
  exact h m c N w A h1 h2 h3 h4
theorem pm_early (ht : T.tag i = .early) (hg : o.guard = none) (h : ∀ c N w A, C 0 N w → Facts ops T c N w i → ReadsAs ops T a c i A (o.looksAt ops) → o.quietAt P A (fun w' => C 0 N w' ∧ Stays T N w w') w (T.nth i)) : StepAt ops P T a C i o := by
  unfold StepAt
  rw [ht]
  intro c N w A h2 h3 h4
  unfold Guarded
  rw [hg]
  exact h c N w A h2 h3 h4
/-- Under a guard that is known to say yes, or no. -/
theorem pm_yes (ht : T.tag i = .main) (g : Nat) (b : Bool) (hg : o.guard = some (g, b)) (hv : ∀ c, T.valOf c g = .bool b) (h : ∀ m c N w A, m ≤ lates T.tags → C m N w → Facts ops T c N w i → ReadsAs ops T a c i A (o.looksAt ops) → o.quietAt P A (fun w' => C m N w' ∧ Stays T N w w') w (T.nth i)) : StepAt ops P T a C i o := by
  unfold StepAt
  rw [ht]
  intro m c N w A h1 h2 h3 h4
  unfold Guarded
  rw [hg]
  exact .inl ⟨hv c, h m c N w A h1 h2 h3 h4⟩
theorem pm_no (ht : T.tag i = .main) (g : Nat) (b : Bool) (hg : o.guard = some (g, b)) (hv : ∀ c, T.valOf c g = .bool (!b)) (h : T.nth i = undef) : StepAt ops P T a C i o := by
  unfold StepAt
  rw [ht]
  intro m c N w A h1 h2 h3 h4
  unfold Guarded
  rw [hg]
  exact .inr ⟨hv c, h⟩

theorem quietAt_run {A : Act} {Cl : World → Prop} {w : World} {v : Value} (h : (execOp A.eval o).run P w = .ok (.value v) w) : o.quietAt P A Cl w v := by
  unfold Oper.quietAt
  rw [h]
  exact ⟨rfl, rfl⟩
/-- It computes. -/
theorem pm_pure (ht : T.tag i = .main) (hg : o.guard = none) (h : ∀ c A w, ReadsAs ops T a c i A (o.looksAt ops) → (execOp A.eval o).run P w = .ok (.value (T.nth i)) w) : StepAt ops P T a C i o :=
  pm_main ht hg fun m c N w A _ _ _ h4 => quietAt_run (h c A w h4)
/-- It reads. -/
theorem pm_read (ht : T.tag i = .main) (hg : o.guard = none) (h : ∀ m c N w A, C m N w → ReadsAs ops T a c i A (o.looksAt ops) → (execOp A.eval o).run P w = .ok (.value (T.nth i)) w) : StepAt ops P T a C i o :=
  pm_main ht hg fun m c N w A _ h2 _ h4 => quietAt_run (h m c N w A h2 h4)
theorem pe_read (ht : T.tag i = .early) (hg : o.guard = none) (h : ∀ c N w A, C 0 N w → ReadsAs ops T a c i A (o.looksAt ops) → (execOp A.eval o).run P w = .ok (.value (T.nth i)) w) : StepAt ops P T a C i o :=
  pm_early ht hg fun c N w A h2 _ h4 => quietAt_run (h c N w A h2 h4)
theorem pm_move (ht : T.tag i = .main) (hg : o.guard = none) (x : Operand) (hop : o.op = .move x) (hx : ∀ c A, ReadsAs ops T a c i A (o.looksAt ops) → A.eval x = T.nth i) : StepAt ops P T a C i o :=
  pm_pure ht hg fun c A w h => by
    unfold execOp
    simp only [hop, Sem.run_pure, hx c A h]
theorem pm_assign (ht : T.tag i = .main) (hg : o.guard = none) (x : Operand) (hop : o.op = .assign x) (hx : ∀ c A, ReadsAs ops T a c i A (o.looksAt ops) → A.eval x = T.nth i) : StepAt ops P T a C i o :=
  pm_pure ht hg fun c A w h => by
    unfold execOp
    simp only [hop, Sem.run_pure, hx c A h]
theorem pm_extract (ht : T.tag i = .main) (hg : o.guard = none) (x : Operand) (j : Nat) (hop : o.op = .extract x j) (vs : Array Value) (hx : ∀ c A, ReadsAs ops T a c i A (o.looksAt ops) → A.eval x = .tuple vs) (hj : vs[j]? = some (T.nth i)) : StepAt ops P T a C i o :=
  pm_pure ht hg fun c A w h => by
    unfold execOp Instr.extract
    simp only [hop, hx c A h, Sem.run_bind, hj, Sem.run_pure, Result.andThen_ok]
theorem run_load_row {A : Act} {w : World} (ty : TypeId) (x : Operand) (hop : o.op = .load ty x) (b k : Nat) (hx : A.eval x = .pointer (some ⟨b, k, none⟩)) (cs : List Value) (hc : w.rangeAt b k cs) {d : TypeDesc} (hu : P.underlying ty = some d) (hr : d.isRow = true) (hi : (P.info? ty).map (·.size) = some cs.length) :
    (execOp A.eval o).run P w = .ok (.value (.agg cs.toArray)) w := by
  unfold execOp
  simp only [hop, hx, Instr.loadAt, Instr.sureAddr, Sem.run_bind, Sem.run_pure, Result.andThen_ok, run_loadVar_mid w b k ty cs d hc hu hr hi]
theorem pm_load (ht : T.tag i = .main) (hg : o.guard = none) (ty : TypeId) (x : Operand) (hop : o.op = .load ty x) (b k : Nat) (hx : ∀ c A, ReadsAs ops T a c i A (o.looksAt ops) → A.eval x = .pointer (some ⟨b, k, none⟩)) (cs : List Value) (hv : T.nth i = .agg cs.toArray) (hc : ∀ m N w, C m N w → w.rangeAt b k cs)
    {d : TypeDesc} (hu : P.underlying ty = some d) (hr : d.isRow = true) (hi : (P.info? ty).map (·.size) = some cs.length) : StepAt ops P T a C i o :=
  pm_read ht hg fun m c N w A h1 h4 => by rw [hv]; exact run_load_row ty x hop b k (hx c A h4) cs (hc m N w h1) hu hr hi
theorem quietAt_call {A : Act} {Cl : World → Prop} {w : World} {v : Value} (f : FuncId) (xs : Array Operand) (ats : Array TypeId) (hop : o.op = .call { callee := .value (.func f), args := xs, argTypes := ats }) (hc : ∀ args w, (callFunc f args).run P w = .ok (.enter f args) w)
    (args : Array Value) (hx : xs.map A.eval = args) (h : Calls P f args w fun e w' => e = .returned v ∧ Cl w') : o.quietAt P A Cl w v := by
  obtain ⟨dst, op, ty, pos, after, guard⟩ := o
  cases hop
  unfold Oper.quietAt
  rw [execOp_call_go, hx, hc]
  show w = w ∧ Calls P f _ w _
  rw [show (#[] ++ args ++ #[] : Array Value) = args by simp]
  exact ⟨rfl, h⟩
theorem pm_call (ht : T.tag i = .main) (hg : o.guard = none) (f : FuncId) (xs : Array Operand) (ats : Array TypeId) (hop : o.op = .call { callee := .value (.func f), args := xs, argTypes := ats }) (hc : ∀ args w, (callFunc f args).run P w = .ok (.enter f args) w)
    (args : (Nat → Gh) → Array Value) (hx : ∀ c A, ReadsAs ops T a c i A (o.looksAt ops) → xs.map A.eval = args c) (h : ∀ m c N w, C m N w → Facts ops T c N w i → Calls P f (args c) w fun e w' => e = .returned (T.nth i) ∧ C m N w' ∧ Stays T N w w') : StepAt ops P T a C i o :=
  pm_main ht hg fun m c N w A _ h2 h3 h4 => quietAt_call f xs ats hop hc (args c) (hx c A h4) (h m c N w h2 h3)
/-- A call that only makes new blocks, in the plain class. -/
theorem pm_callB {W : World} (ht : T.tag i = .main) (hg : o.guard = none) (f : FuncId) (xs : Array Operand) (ats : Array TypeId) (hop : o.op = .call { callee := .value (.func f), args := xs, argTypes := ats }) (hc : ∀ args w, (callFunc f args).run P w = .ok (.enter f args) w)
    (args : (Nat → Gh) → Array Value) (hx : ∀ c A, ReadsAs ops T a c i A (o.looksAt ops) → xs.map A.eval = args c) (h : ∀ c N w, Below W.heap.size W w → Facts ops T c N w i → Calls P f (args c) w fun e w' => e = .returned (T.nth i) ∧ Below w.heap.size w w') : StepAt ops P T a (Cls W) i o :=
  pm_call ht hg f xs ats hop hc args hx fun m c N w h1 h2 => (h c N w h1.1 h2).mono fun e w' ⟨h3, h4⟩ => ⟨h3, h1.call h4⟩
/-- A call whose value is told by what holds of it. -/
theorem pg_callB {W : World} (ht : T.tag i = .ghost) (f : FuncId) (xs : Array Operand) (ats : Array TypeId) (hop : o.op = .call { callee := .value (.func f), args := xs, argTypes := ats }) (hc : ∀ args w, (callFunc f args).run P w = .ok (.enter f args) w)
    (args : (Nat → Gh) → Array Value) (hx : ∀ c A, ReadsAs ops T a c i A (o.looksAt ops) → xs.map A.eval = args c) (h : ∀ c N w, Below W.heap.size W w → Facts ops T c N w i → Calls P f (args c) w fun e w' => ∃ v, e = .returned v ∧ T.E i v w' ∧ Below w.heap.size w w') : StepAt ops P T a (Cls W) i o := by
  unfold StepAt
  rw [ht]
  intro m c N w A _ h2 h3 h4
  obtain ⟨dst, op, ty, pos, after, guard⟩ := o
  cases hop
  unfold Oper.wp
  rw [execOp_call_go, hx c A h4, hc]
  show Calls P f _ w _
  rw [show (#[] ++ args c ++ #[] : Array Value) = args c by simp]
  refine (h c N w h2.1 h3).mono fun e w' ⟨v, he, hE, hb⟩ => ?_
  subst he
  exact ⟨⟨v, rfl, hE⟩, (h2.call (T := T) hb).1, hb⟩
theorem no_ghost (h : ghosty T.tags = false) : ∀ k v w w', T.tag k = .ghost → T.E k v w → Below w.heap.size w w' → T.E k v w' := fun k v w w' hk => by
  unfold Sched.tag at hk
  rw [List.getD_eq_getElem?_getD] at hk
  cases he : T.tags[k]? with
  | none => rw [he] at hk; cases hk
  | some x =>
    rw [he] at hk
    simp only [Option.getD_some] at hk
    subst hk
    have := List.any_eq_false.1 h _ (List.mem_of_getElem? he)
    simp at this
theorem pa_copy (k : Nat) (ht : T.tag i = .alias k) (x : Operand) (hop : o.op = .move x ∨ o.op = .assign x) (hx : ∀ c A, ReadsAs ops T a c i A (o.looksAt ops) → A.eval x = T.valOf c i) : StepAt ops P T a C i o := by
  unfold StepAt
  rw [ht]
  intro c w A h
  unfold execOp
  rcases hop with hop | hop <;> simp only [hop, Sem.run_pure, hx c A h]
theorem pn_alloc (ht : T.tag i = .new) (ty : TypeId) (hop : o.op = .alloc ty) (z : Value) (hz : ∀ w, (zeroValue ty).run P w = .ok z w) (hf : ∀ p, T.form i p = .pointer (some ⟨p, 0, none⟩)) (hx : (T.xs0 i).toArray = z.cells) : StepAt ops P T a C i o := by
  unfold StepAt
  rw [ht]
  intro m c N w A _ _ _
  refine ⟨ty, ?_⟩
  unfold execOp Instr.alloc newVar
  simp only [hop, Sem.run_bind, Sem.run_pure, Result.andThen_ok, hz w, hf, hx]
  rfl
theorem pn_slice (ht : T.tag i = .new) (t e : TypeId) (len : Nat) (parts : Array (Nat × Operand)) (hop : o.op = .buildSlice t len parts) (ie : TypeInfo) (z : Value)
    (hu : P.underlying t = some (.slice e)) (hie : P.info? e = some ie) (hz : ie.zero = some z) (hsmall : ¬ len * ie.size > 2 ^ 24) (hpos : ¬ len * ie.size = 0) (hf : ∀ p, T.form i p = .slice (some ⟨p, 0, none⟩) len len)
    (hx : ∀ c A, ReadsAs ops T a c i A (o.looksAt ops) → Instr.fill (fun i => some (i * ie.size, ie.size)) ((Array.range (len * ie.size)).map (z.cells[· % z.cells.size]!)) (parts.map fun (i, x) => (i, A.eval x)).toList = some (T.xs0 i).toArray) : StepAt ops P T a C i o := by
  unfold StepAt
  rw [ht]
  intro m c N w A _ _ h4
  refine ⟨e, ?_⟩
  unfold execOp
  simp only [hop, Sem.run_bind, run_buildSlice w t e len _ _ ie z hu hie hz hsmall hpos (hx c A h4), Result.andThen_ok, hf]
  rfl
/-- A whole value goes into a fresh block. -/
theorem pp_store {k : Nat} (ht : T.tag i = .put k) (ty : TypeId) (x y : Operand) (hop : o.op = .store ty x y) (hd : o.dst = none) (hx : ∀ c A, ReadsAs ops T a c i A (o.looksAt ops) → A.eval x = .pointer (some ⟨(c k).p, 0, none⟩)) (hy : ∀ c A, ReadsAs ops T a c i A (o.looksAt ops) → A.eval y = .agg (T.xs1 k).toArray)
    (hi : (P.info? ty).map (·.size) = some (T.xs1 k).length) (h1 : ∀ v ∈ T.xs1 k, v.oneCell' = true) : StepAt ops P T a C i o := by
  unfold StepAt
  rw [ht]
  intro c w A h4 h5
  refine wp_store_mid ty x y hop (c k).p 0 (T.xs1 k).toArray (hx c A h5) (hy c A h5) (by simpa using h4) (by simpa using hi) (all_oneCell_toArray h1) ?_
  rw [hd]
  exact ⟨rfl, rfl⟩
theorem Steps.cons {r : List Oper} (h : StepAt ops P T a C i o) (hr : Steps ops P T a C r (i + 1)) : Steps ops P T a C (o :: r) i := ⟨h, hr⟩
theorem Steps.nil : Steps ops P T a C [] i := trivial
theorem rd0 {c : Nat → Gh} {A : Act} {l : List Nat} (h : ReadsAs ops T a c i A l) {t : Nat} {r : List Nat} (e : l = t :: r) : A.eval (.tmp t) = readVal ops T a c i t := by subst e; exact h.1
theorem rd1 {c : Nat → Gh} {A : Act} {l : List Nat} (h : ReadsAs ops T a c i A l) {s t : Nat} {r : List Nat} (e : l = s :: t :: r) : A.eval (.tmp t) = readVal ops T a c i t := by subst e; exact h.2.1
theorem rd2 {c : Nat → Gh} {A : Act} {l : List Nat} (h : ReadsAs ops T a c i A l) {s s' t : Nat} {r : List Nat} (e : l = s :: s' :: t :: r) : A.eval (.tmp t) = readVal ops T a c i t := by subst e; exact h.2.2.1
theorem rd3 {c : Nat → Gh} {A : Act} {l : List Nat} (h : ReadsAs ops T a c i A l) {s s' s'' t : Nat} {r : List Nat} (e : l = s :: s' :: s'' :: t :: r) : A.eval (.tmp t) = readVal ops T a c i t := by subst e; exact h.2.2.2.1
theorem map1 {f : Operand → Value} {x : Operand} {u : Value} (h1 : f x = u) : #[x].map f = #[u] := by simp [h1]
theorem map2 {f : Operand → Value} {x y : Operand} {u v : Value} (h1 : f x = u) (h2 : f y = v) : #[x, y].map f = #[u, v] := by simp [h1, h2]
theorem map3 {f : Operand → Value} {x y z : Operand} {u v q : Value} (h1 : f x = u) (h2 : f y = v) (h3 : f z = q) : #[x, y, z].map f = #[u, v, q] := by simp [h1, h2, h3]
theorem map4 {f : Operand → Value} {x y z x' : Operand} {u v q u' : Value} (h1 : f x = u) (h2 : f y = v) (h3 : f z = q) (h4 : f x' = u') : #[x, y, z, x'].map f = #[u, v, q, u'] := by simp [h1, h2, h3, h4]
end
/-- Of each whole store: as many cells as the block has. -/
def PutsLen (T : Sched) : List Tag → Prop
  | [] => True
  | .put k :: r => (T.xs0 k).length = (T.xs1 k).length ∧ PutsLen T r
  | _ :: r => PutsLen T r
theorem PutsLen.at {T : Sched} : ∀ {l : List Tag}, PutsLen T l → ∀ k, .put k ∈ l → (T.xs0 k).length = (T.xs1 k).length
  | [], _, _, h => by cases h
  | x :: r, h, k, hk => by
    cases x with
    | put j =>
      rcases List.mem_cons.1 hk with e | e
      · cases e; exact h.1
      · exact PutsLen.at h.2 k e
    | main => exact PutsLen.at (l := r) h k ((List.mem_cons.1 hk).resolve_left (by simp))
    | early => exact PutsLen.at (l := r) h k ((List.mem_cons.1 hk).resolve_left (by simp))
    | late => exact PutsLen.at (l := r) h k ((List.mem_cons.1 hk).resolve_left (by simp))
    | new => exact PutsLen.at (l := r) h k ((List.mem_cons.1 hk).resolve_left (by simp))
    | ghost => exact PutsLen.at (l := r) h k ((List.mem_cons.1 hk).resolve_left (by simp))
    | alias j => exact PutsLen.at (l := r) h k ((List.mem_cons.1 hk).resolve_left (by simp))
theorem puts_len {T : Sched} (h : PutsLen T T.tags) : ∀ i k, T.tag i = .put k → (T.xs0 k).length = (T.xs1 k).length := fun i k hi => h.at k (by
  unfold Sched.tag at hi
  rw [List.getD_eq_getElem?_getD] at hi
  cases he : T.tags[i]? with
  | none => rw [he] at hi; cases hi
  | some x => rw [he] at hi; simp only [Option.getD_some] at hi; subst hi; exact List.mem_of_getElem? he)
end Go.Proofs.Ytchjjbklkmfelaa
