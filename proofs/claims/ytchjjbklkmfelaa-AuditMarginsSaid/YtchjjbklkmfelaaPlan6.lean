/- Deeds in such a region: stores into what was there, copies. -/
import Derived.Test.YtchjjbklkmfelaaPlan5
import Derived.Laws.IdiomCopy
namespace Go.Proofs.Ytchjjbklkmfelaa
open Go.RowKit Go.Lib Go.Deep
set_option linter.unusedVariables false

theorem cell_both {B : Nat} {W w : World} (h : Below B W w) (x : Addr) (v : Value) : Below B (W.setCell x v) (w.setCell x v) := by
  refine ⟨h.os, h.tape, h.output, by simpa [World.setCell] using h.size, fun k hk => ?_⟩
  show (w.heap.modify x.block _)[k]? = (W.heap.modify x.block _)[k]?
  rw [Array.getElem?_modify, Array.getElem?_modify, h.block k hk]
theorem cells_both {B : Nat} (g : Nat) (xs : List Value) : ∀ {W w : World} (o : Nat), Below B W w → Below B (W.setCells g o xs) (w.setCells g o xs) := by
  induction xs with
  | nil => intro W w o h; exact h
  | cons v vs ih => intro W w o h; exact ih (o + 1) (cell_both h ⟨g, o, none⟩ v)
theorem cells_size (g : Nat) (xs : List Value) : ∀ (W : World) (o : Nat), (W.setCells g o xs).heap.size = W.heap.size := by
  induction xs with
  | nil => intro W o; rfl
  | cons v vs ih => intro W o; rw [World.setCells, ih]; simp [World.setCell]
theorem cells_far (g : Nat) (xs : List Value) : ∀ (W : World) (o b : Nat), b ≠ g → (W.setCells g o xs).heap[b]? = W.heap[b]? := by
  induction xs with
  | nil => intro W o b _; rfl
  | cons v vs ih =>
    intro W o b hb
    rw [World.setCells, ih _ _ _ hb]
    show (W.heap.modify g _)[b]? = _
    rw [Array.getElem?_modify, if_neg (fun e => hb e.symm)]

/-- The class at each stage: all that a world of that stage has stays. -/
def ClsF (f : Nat → World) (m : Nat) (N : Nat → Prop) (w : World) : Prop := Below (f 0).heap.size (f m) w ∧ ∀ b, N b → (f 0).heap.size ≤ b
section
variable {f : Nat → World}
theorem ClsF.alloc (hf : ∀ m, (f m).heap.size = (f 0).heap.size) : ∀ m N w o, ClsF f m N w → ClsF f m (fun b => N b ∨ b = w.heap.size) (w.alloc o) := fun m N w o ⟨h1, h2⟩ => by
  have hs := h1.size
  rw [hf] at hs
  exact ⟨h1.alloc hs o, fun b hb => hb.elim (h2 b) fun e => by rw [e]; exact hs⟩
theorem ClsF.put : ∀ m N w p xs, ClsF f m N w → N p → ClsF f m N (w.setCells p 0 xs) := fun m N w p xs ⟨h1, h2⟩ hp => ⟨below_range (h2 p hp) xs 0 w h1, h2⟩
theorem ClsF.start (f : Nat → World) : ClsF f 0 (fun _ => False) (f 0).drew := ⟨(Below.refl _ _).drew, fun b h => h.elim⟩
theorem ClsF.call {T : Sched} (hf : ∀ m, (f m).heap.size = (f 0).heap.size) {m : Nat} {N : Nat → Prop} {w w' : World} (h : ClsF f m N w) (hb : Below w.heap.size w w') : ClsF f m N w' ∧ Stays T N w w' := by
  have hs := h.1.size
  rw [hf] at hs
  exact ⟨⟨h.1.trans (hb.mono hs), h.2⟩, .of_below hb⟩
variable {P : Program} {ops : Array Oper} {a : Act} {T : Sched} {i : Nat} {o : Oper}
theorem pe_load {C : Nat → (Nat → Prop) → World → Prop} (ht : T.tag i = .early) (hg : o.guard = none) (ty : TypeId) (x : Operand) (hop : o.op = .load ty x) (b k : Nat) (hx : ∀ c A, ReadsAs ops T a c i A (o.looksAt ops) → A.eval x = .pointer (some ⟨b, k, none⟩)) (cs : List Value) (hv : T.nth i = .agg cs.toArray) (hc : ∀ N w, C 0 N w → w.rangeAt b k cs)
    {d : TypeDesc} (hu : P.underlying ty = some d) (hr : d.isRow = true) (hi : (P.info? ty).map (·.size) = some cs.length) : StepAt ops P T a C i o :=
  pe_read ht hg fun c N w A h1 h4 => by rw [hv]; exact run_load_row ty x hop b k (hx c A h4) cs (hc N w h1) hu hr hi
theorem stage2 (W W' : World) (h : W'.heap.size = W.heap.size) : ∃ F : Nat → World, F 0 = W ∧ F 1 = W' ∧ ∀ m, (F m).heap.size = (F 0).heap.size :=
  ⟨fun m => match m with | 0 => W | _ => W', rfl, rfl, fun m => match m with | 0 => rfl | _ + 1 => h⟩
/-- A call that only makes new blocks. -/
theorem pm_callF (hf : ∀ m, (f m).heap.size = (f 0).heap.size) (ht : T.tag i = .main) (hg : o.guard = none) (g : FuncId) (xs : Array Operand) (ats : Array TypeId) (hop : o.op = .call { callee := .value (.func g), args := xs, argTypes := ats }) (hc : ∀ args w, (callFunc g args).run P w = .ok (.enter g args) w)
    (args : (Nat → Gh) → Array Value) (hx : ∀ c A, ReadsAs ops T a c i A (o.looksAt ops) → xs.map A.eval = args c) (h : ∀ c N w, (∃ m, Below (f 0).heap.size (f m) w) → Facts ops T c N w i → Calls P g (args c) w fun e w' => e = .returned (T.nth i) ∧ Below w.heap.size w w') : StepAt ops P T a (ClsF f) i o :=
  pm_call ht hg g xs ats hop hc args hx fun m c N w h1 h2 => (h c N w ⟨m, h1.1⟩ h2).mono fun e w' ⟨h3, h4⟩ => ⟨h3, h1.call hf h4⟩
theorem pl_cells (hng : ghosty T.tags = false) {m g p : Nat} {xs : List Value} (hm : lates (T.tags.take i) = m) (hfs : f (m + 1) = (f m).setCells g p xs) (hg0 : g < (f 0).heap.size) (ht : T.tag i = .late)
    (h : ∀ (c : Nat → Gh) (w : World) (A : Act), Below (f 0).heap.size (f m) w → ReadsAs ops T a c i A (o.looksAt ops) → o.wp P A w (fun a' w' => a' = A.put o.dst (T.nth i) ∧ w' = w.setCells g p xs) (fun _ _ _ => False)) : StepAt ops P T a (ClsF f) i o := by
  unfold StepAt
  rw [ht]
  intro c N w A h1 _ h3
  subst hm
  refine Oper.wp_mono ?_ (h c w A h1.1 h3)
  rintro a' w' ⟨h4, rfl⟩
  refine ⟨h4, ⟨by rw [hfs]; exact cells_both g xs p h1.1, h1.2⟩, fun b hb hl => ?_, by rw [cells_size]; exact Nat.le_refl _, fun h => by rw [hng] at h; cases h⟩
  rw [cells_far]
  intro e
  have := h1.2 b hb
  omega
/-- A whole value into what was there. -/
theorem pl_store (hng : ghosty T.tags = false) {m g p : Nat} {xs : List Value} (hm : lates (T.tags.take i) = m) (hfs : f (m + 1) = (f m).setCells g p xs) (hg0 : g < (f 0).heap.size) (ht : T.tag i = .late) (hth : (f m).there g p xs.length)
    (ty : TypeId) (x y : Operand) (hop : o.op = .store ty x y) (hd : o.dst = none) (hx : ∀ c A, ReadsAs ops T a c i A (o.looksAt ops) → A.eval x = .pointer (some ⟨g, p, none⟩)) (hy : ∀ c A, ReadsAs ops T a c i A (o.looksAt ops) → A.eval y = .agg xs.toArray)
    (hi : (P.info? ty).map (·.size) = some xs.length) (h1 : ∀ v ∈ xs, v.oneCell' = true) : StepAt ops P T a (ClsF f) i o :=
  pl_cells hng hm hfs hg0 ht fun c w A hb hr => by
    refine wp_store_mid ty x y hop g p xs.toArray (hx c A hr) (hy c A hr) ?_ (by simpa using hi) (all_oneCell_toArray h1) ?_
    · rw [List.size_toArray]
      exact there_of_block hth (hb.block g hg0)
    · rw [hd]
      exact ⟨rfl, rfl⟩
/-- A copy of single cells into what was there. -/
theorem pl_copy (hng : ghosty T.tags = false) {m g p : Nat} {xs : List Value} (hm : lates (T.tags.take i) = m) (hfs : f (m + 1) = (f m).setCells g p xs) (hg0 : g < (f 0).heap.size) (ht : T.tag i = .late) (hth : (f m).there g p xs.length)
    (x y : Operand) (dT sT elem : TypeId) (hop : o.op = .call { callee := .builtin .copy, args := #[x, y], argTypes := #[dT, sT] }) (hu : P.underlying dT = some (.slice elem)) (hs : (P.info? elem).map (·.size) = some 1)
    (dLen dCap sLen sCap b q : Nat) (hx : ∀ c A, ReadsAs ops T a c i A (o.looksAt ops) → A.eval x = .slice (some ⟨g, p, none⟩) dLen dCap) (hy : ∀ c A, ReadsAs ops T a c i A (o.looksAt ops) → A.eval y = .slice (some ⟨b, q, none⟩) sLen sCap)
    (hn : xs.length = Nat.min sLen dLen) (hsrc : ∀ w, Below (f 0).heap.size (f m) w → w.rangeAt b q xs) (h1 : ∀ v ∈ xs, v.oneCell' = true) (hv : T.nth i = goInt xs.length) : StepAt ops P T a (ClsF f) i o :=
  pl_cells hng hm hfs hg0 ht fun c w A hb hr => by
    have hth' := there_of_block hth (hb.block g hg0)
    have hrun := run_copy_cells (P := P) w dT sT o.type elem g p dLen dCap ⟨b, q, none⟩ sLen sCap xs hu hs hn (fun j v hv => by rw [Addr.add_mid]; exact hsrc w hb j v hv) (fun j hj => (hth' j hj).1) (fun j hj => (hth' j hj).2) h1
    unfold Oper.wp
    simp only [execOp, hop, resolve, invoke, builtin, List.map_toArray, List.map_cons, List.map_nil, hx c A hr, hy c A hr, hrun, Sem.run_bind, Result.andThen_ok, Sem.run_pure]
    exact ⟨by rw [hv], rfl⟩
end
end Go.Proofs.Ytchjjbklkmfelaa
