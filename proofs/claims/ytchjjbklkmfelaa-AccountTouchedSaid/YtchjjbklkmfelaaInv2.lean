/- The frame of a region that draws: some slots turned. -/
import Derived.Test.YtchjjbklkmfelaaInv
import Derived.RegionTactic
namespace Go.Proofs.Ytchjjbklkmfelaa
set_option linter.unusedVariables false

/-- The frame with the slots of S set to V. -/
def over (a : Act) (S : List Nat) (V : Nat → Value) : Act := { a with tmps := a.tmps.mapIdx fun i v => if S.contains i then V i else v }
/-- V, turned at one place. -/
def turnV (V : Nat → Value) (s : Nat) (v : Value) : Nat → Value := fun i => if i = s then v else V i
theorem turnV_same (V : Nat → Value) (s : Nat) (v : Value) : turnV V s v s = v := if_pos rfl
theorem turnV_other (V : Nat → Value) {s t : Nat} (v : Value) (h : t ≠ s) : turnV V s v t = V t := if_neg h
theorem over_start (a : Act) (S : List Nat) : over a S (fun i => a.tmps.getD i undef) = a := by
  unfold over
  have : (a.tmps.mapIdx fun i v => if S.contains i then a.tmps.getD i undef else v) = a.tmps := by
    apply Array.ext
    · simp
    · intro i h1 h2
      rw [Array.getElem_mapIdx]
      split
      · rfl
      · rfl
  rw [this]
theorem over_put (a : Act) (S : List Nat) (V : Nat → Value) (s : Nat) (v : Value) (hs : S.contains s = true) : (over a S V).put (some s) v = over a S (turnV V s v) := by
  unfold over Act.put
  simp only [Act.mk.injEq, and_true]
  apply Array.ext
  · simp
  · intro i h1 h2
    rw [Array.getElem_mapIdx, Array.getElem_setIfInBounds (by simpa using h1), Array.getElem_mapIdx]
    by_cases e : s = i
    · subst e
      rw [if_pos rfl, if_pos hs, turnV_same]
    · rw [if_neg e]
      split
      · rw [turnV_other _ _ (fun h => e h.symm)]
      · rfl
theorem over_slot (a : Act) (S : List Nat) (V : Nat → Value) (s : Nat) (hs : S.contains s = true) (hl' : Nat.blt s a.tmps.size = true) : (over a S V).eval (.tmp s) = V s := by
  have hl : s < a.tmps.size := by simpa using hl'
  unfold over Act.eval
  simp only [Array.getD_eq_getD_getElem?]
  rw [Array.getElem?_eq_getElem (by simpa using hl), Array.getElem_mapIdx, if_pos hs]
  rfl
theorem over_else (a : Act) (S : List Nat) (V : Nat → Value) (s : Nat) (hs : S.contains s = false) : (over a S V).eval (.tmp s) = a.eval (.tmp s) := by
  unfold over Act.eval
  simp only [Array.getD_eq_getD_getElem?]
  rcases Nat.lt_or_ge s a.tmps.size with hl | hl
  · rw [Array.getElem?_eq_getElem (by simpa using hl), Array.getElem_mapIdx, if_neg (by rw [hs]; decide), Array.getElem?_eq_getElem hl]
  · rw [Array.getElem?_eq_none (by simpa using hl), Array.getElem?_eq_none hl]
theorem over_const (a : Act) (S : List Nat) (V : Nat → Value) (v : Value) : (over a S V).eval (.const v) = v := rfl

section
variable {P : Program} {ops : Array Oper} {Q : Exit → Act → World → Prop}
/-- The region, by what holds of the turned slots and the world. -/
theorem region_over {id : Nat} {a : Act} {w : World} (hm : P.follows .mixedOrders = true) (S : List Nat) (F : Array Bool → (Nat → Value) → World → Prop)
    (h0 : F (Array.replicate ops.size false) (fun i => a.tmps.getD i undef) w.drew)
    (hend : ∀ L V w', L.size = ops.size → F L V w' → Region.ready .any ops L = [] → Q .normal (over a S V) w')
    (hstep : ∀ L V w' i, F L V w' → i ∈ Region.ready .any ops L → wpOp P ops Q i (fun a'' w'' => ∃ V', a'' = over a S V' ∧ F (L.setIfInBounds i true) V' w'') (over a S V) w') :
    (Code.region id ops true).wp P Q a w :=
  region_inv hm (fun L a' w' => L.size = ops.size ∧ ∃ V, a' = over a S V ∧ F L V w') ⟨by simp, _, (over_start a S).symm, h0⟩
    (fun L a' w' ⟨hs, V, e, hF⟩ hr => by subst e; exact hend L V w' hs hF hr)
    (fun L a' w' i ⟨hs, V, e, hF⟩ hi => by subst e; exact wpOp_mono (fun a'' w'' h => ⟨by simpa using hs, h⟩) (hstep L V w' i hF hi))
/-- A step: the operation written out, what it waits for has come up, and a value goes into its slot. -/
theorem step_over {a : Act} {S : List Nat} {V : Nat → Value} {w : World} {L : Array Bool} {F : Array Bool → (Nat → Value) → World → Prop} {i : Nat} {o : Oper} (ho : ops[i]? = some o) (hw : ∀ ts, Region.wanted o ts = true)
    (h : ∀ K : Act → World → Prop, (∀ V' w', F (L.setIfInBounds i true) V' w' → K (over a S V') w') → Oper.wp P o (over a S V) w K Q) :
    wpOp P ops Q i (fun a'' w'' => ∃ V', a'' = over a S V' ∧ F (L.setIfInBounds i true) V' w'') (over a S V) w :=
  wpOp_step ho fun K hK => by
    rw [if_pos (hw _)]
    exact h K fun V' w' hF => hK _ _ ⟨V', rfl, hF⟩
end
end Go.Proofs.Ytchjjbklkmfelaa
