/- The frame of a region that draws: some slots turned. -/
import Derived.Test.YtchjjbklkmfelaaInv
import Derived.RegionTactic
import Derived.Test.YtchjjbklkmfelaaRecs
import Derived.BigQuiet
namespace Go.Proofs.Ytchjjbklkmfelaa
set_option linter.unusedVariables false

/-- The frame with the slots of S set to V. -/
def over (a : Act) (S : List Nat) (V : Nat → Value) : Act := { a with tmps := a.tmps.mapIdx fun i v => if S.contains i then V i else v }
/-- V, turned at one place. -/
def turnV (V : Nat → Value) (s : Nat) (v : Value) : Nat → Value := fun i => if i = s then v else V i
theorem turnV_same (V : Nat → Value) (s : Nat) (v : Value) : turnV V s v s = v := if_pos rfl
theorem turnV_other (V : Nat → Value) {s t : Nat} (v : Value) (h : t ≠ s) : turnV V s v t = V t := if_neg h
theorem over_start (a : Act) (S : List Nat) : over a S (fun i => a.tmps.getD i undef) = a := by
  unfold over
  have : (a.tmps.mapIdx fun i v => if S.contains i then a.tmps.getD i undef else v) = a.tmps := by
    apply Array.ext
    · simp
    · intro i h1 h2
      rw [Array.getElem_mapIdx]
      split
      · rfl
      · rfl
  rw [this]
theorem over_put (a : Act) (S : List Nat) (V : Nat → Value) (s : Nat) (v : Value) (hs : S.contains s = true) : (over a S V).put (some s) v = over a S (turnV V s v) := by
  unfold over Act.put
  simp only [Act.mk.injEq, and_true]
  apply Array.ext
  · simp
  · intro i h1 h2
    rw [Array.getElem_mapIdx, Array.getElem_setIfInBounds (by simpa using h1), Array.getElem_mapIdx]
    by_cases e : s = i
    · subst e
      rw [if_pos rfl, if_pos hs, turnV_same]
    · rw [if_neg e]
      split
      · rw [turnV_other _ _ (fun h => e h.symm)]
      · rfl
theorem over_slot (a : Act) (S : List Nat) (V : Nat → Value) (s : Nat) (hs : S.contains s = true) (hl' : Nat.blt s a.tmps.size = true) : (over a S V).eval (.tmp s) = V s := by
  have hl : s < a.tmps.size := by simpa using hl'
  unfold over Act.eval
  simp only [Array.getD_eq_getD_getElem?]
  rw [Array.getElem?_eq_getElem (by simpa using hl), Array.getElem_mapIdx, if_pos hs]
  rfl
theorem over_else (a : Act) (S : List Nat) (V : Nat → Value) (s : Nat) (hs : S.contains s = false) : (over a S V).eval (.tmp s) = a.eval (.tmp s) := by
  unfold over Act.eval
  simp only [Array.getD_eq_getD_getElem?]
  rcases Nat.lt_or_ge s a.tmps.size with hl | hl
  · rw [Array.getElem?_eq_getElem (by simpa using hl), Array.getElem_mapIdx, if_neg (by rw [hs]; decide), Array.getElem?_eq_getElem hl]
  · rw [Array.getElem?_eq_none (by simpa using hl), Array.getElem?_eq_none hl]
theorem over_const (a : Act) (S : List Nat) (V : Nat → Value) (v : Value) : (over a S V).eval (.const v) = v := rfl

section
variable {P : Program} {ops : Array Oper} {Q : Exit → Act → World → Prop}
/-- The region, by what holds of the turned slots and the world. -/
theorem region_over {id : Nat} {a : Act} {w : World} (hm : P.follows .mixedOrders = true) (S : List Nat) (F : Array Bool → (Nat → Value) → World → Prop)
    (h0 : F (Array.replicate ops.size false) (fun i => a.tmps.getD i undef) w.drew)
    (hend : ∀ L V w', L.size = ops.size → F L V w' → Region.ready .any ops L = [] → Q .normal (over a S V) w')
    (hstep : ∀ L V w' i, F L V w' → i ∈ Region.ready .any ops L → wpOp P ops Q i (fun a'' w'' => ∃ V', a'' = over a S V' ∧ F (L.setIfInBounds i true) V' w'') (over a S V) w') :
    (Code.region id ops true).wp P Q a w :=
  region_inv hm (fun L a' w' => L.size = ops.size ∧ ∃ V, a' = over a S V ∧ F L V w') ⟨by simp, _, (over_start a S).symm, h0⟩
    (fun L a' w' ⟨hs, V, e, hF⟩ hr => by subst e; exact hend L V w' hs hF hr)
    (fun L a' w' i ⟨hs, V, e, hF⟩ hi => by subst e; exact wpOp_mono (fun a'' w'' h => ⟨by simpa using hs, h⟩) (hstep L V w' i hF hi))
/-- A step: the operation written out, what it waits for has come up, and a value goes into its slot. -/
theorem step_over {a : Act} {S : List Nat} {V : Nat → Value} {w : World} {L : Array Bool} {F : Array Bool → (Nat → Value) → World → Prop} {i : Nat} {o : Oper} (ho : ops[i]? = some o) (hw : ∀ ts, Region.wanted o ts = true)
    (h : ∀ K : Act → World → Prop, (∀ V' w', F (L.setIfInBounds i true) V' w' → K (over a S V') w') → Oper.wp P o (over a S V) w K Q) :
    wpOp P ops Q i (fun a'' w'' => ∃ V', a'' = over a S V' ∧ F (L.setIfInBounds i true) V' w'') (over a S V) w :=
  wpOp_step ho fun K hK => by
    rw [if_pos (hw _)]
    exact h K fun V' w' hF => hK _ _ ⟨V', rfl, hF⟩
end
end Go.Proofs.Ytchjjbklkmfelaa

/- What holds in a region that takes values, makes variables, and stores the values into them. -/
namespace Go.Proofs.Ytchjjbklkmfelaa
open Go.RowKit Go.Lib
set_option linter.unusedVariables false

/-- Values (operation, slot, value), variables (operation, slot, cells), stores (operation, the variable's slot, what is stored). -/
structure Plan where
  vals : List (Nat × Nat × Value)
  vars : List (Nat × Nat × Nat)
  puts : List (Nat × Nat × List Value)
def up (L : Array Bool) (k : Nat) : Prop := L.getD k false = true
theorem up_set {L : Array Bool} {i k : Nat} (h : up (L.setIfInBounds i true) k) (hk : k ≠ i) : up L k := by
  unfold up at *
  simp only [Array.getD_eq_getD_getElem?, Array.getElem?_setIfInBounds] at h ⊢
  rwa [if_neg (fun e => hk e.symm)] at h
theorem up_mono {L : Array Bool} {i k : Nat} (h : up L k) : up (L.setIfInBounds i true) k := by
  unfold up at *
  simp only [Array.getD_eq_getD_getElem?, Array.getElem?_setIfInBounds] at h ⊢
  by_cases e : i = k
  · subst e
    rw [if_pos rfl]
    by_cases hl : i < L.size
    · rw [if_pos hl]; rfl
    · rw [Array.getElem?_eq_none (by omega)] at h; cases h
  · rwa [if_neg e]
/-- What holds. -/
structure Stands (T : Plan) (W0 : World) (L : Array Bool) (V : Nat → Value) (w : World) : Prop where
  below : Below W0.heap.size W0 w
  val : ∀ k s v, (k, s, v) ∈ T.vals → up L k → V s = v
  var : ∀ k s n, (k, s, n) ∈ T.vars → up L k → ∃ p, V s = .pointer (some ⟨p, 0, none⟩) ∧ W0.heap.size ≤ p ∧ p < w.heap.size ∧ w.there p 0 n
  put : ∀ k s x, (k, s, x) ∈ T.puts → up L k → ∃ p, V s = .pointer (some ⟨p, 0, none⟩) ∧ p < w.heap.size ∧ w.rangeAt p 0 x
  dep : ∀ k s x, (k, s, x) ∈ T.puts → up L k → ∃ kv n, (kv, s, n) ∈ T.vars ∧ up L kv
  apart : ∀ k s n k' s' n', (k, s, n) ∈ T.vars → (k', s', n') ∈ T.vars → s ≠ s' → up L k → up L k' → V s ≠ V s'

theorem there_below {w w' : World} {B p n : Nat} (h : w.there p 0 n) (hb : Below B w w') (hp : p < B) : w'.there p 0 n := fun j hj => by
  have e := hb.block p hp
  unfold World.cell? World.frozen?
  rw [e]
  exact h j hj

/-- A value taken; what the world has more is new. -/
theorem Stands.taken {T : Plan} {W0 : World} {L : Array Bool} {V : Nat → Value} {w w' : World} (h : Stands T W0 L V w) {i s : Nat} {v : Value} (hi : (i, s, v) ∈ T.vals) (hb : Below w.heap.size w w')
    (u1 : ∀ k s' v', (k, s', v') ∈ T.vals → (k = i → s' = s ∧ v' = v) ∧ (s' = s → k = i)) (u2 : ∀ k s' n, (k, s', n) ∈ T.vars → k ≠ i ∧ s' ≠ s) (u3 : ∀ k s' x, (k, s', x) ∈ T.puts → k ≠ i ∧ s' ≠ s) :
    Stands T W0 (L.setIfInBounds i true) (turnV V s v) w' := by
  refine ⟨h.below.trans (hb.mono h.below.size), fun k s' v' hk hu => ?_, fun k s' n hk hu => ?_, fun k s' x hk hu => ?_, fun k s' x hk hu => (h.dep k s' x hk (up_set hu (u3 k s' x hk).1)).imp fun kv ⟨n, h1, h2⟩ => ⟨n, h1, up_mono h2⟩, fun k s' n k' s'' n' hk hk' hne hu hu' => ?_⟩
  · by_cases e : k = i
    · obtain ⟨e1, e2⟩ := (u1 k s' v' hk).1 e
      rw [e1, e2, turnV_same]
    · rw [turnV_other _ _ (fun h => e ((u1 k s' v' hk).2 h))]
      exact h.val k s' v' hk (up_set hu e)
  · obtain ⟨a, b⟩ := u2 k s' n hk
    obtain ⟨p, h1, h2, h3, h4⟩ := h.var k s' n hk (up_set hu a)
    exact ⟨p, by rw [turnV_other _ _ b]; exact h1, h2, Nat.lt_of_lt_of_le h3 hb.size, there_below h4 hb h3⟩
  · obtain ⟨a, b⟩ := u3 k s' x hk
    obtain ⟨p, h1, h3, h4⟩ := h.put k s' x hk (up_set hu a)
    exact ⟨p, by rw [turnV_other _ _ b]; exact h1, Nat.lt_of_lt_of_le h3 hb.size, range_below h4 hb h3⟩
  · rw [turnV_other _ _ (u2 k s' n hk).2, turnV_other _ _ (u2 k' s'' n' hk').2]
    exact h.apart k s' n k' s'' n' hk hk' hne (up_set hu (u2 k s' n hk).1) (up_set hu' (u2 k' s'' n' hk').1)

/-- A variable made. -/
theorem Stands.made {T : Plan} {W0 : World} {L : Array Bool} {V : Nat → Value} {w : World} (h : Stands T W0 L V w) {i s n : Nat} (cs : Array Value) (t : TypeId) (hn : cs.size = n)
    (u1 : ∀ k s' v', (k, s', v') ∈ T.vals → k ≠ i ∧ s' ≠ s) (u2 : ∀ k s' n', (k, s', n') ∈ T.vars → (k = i → s' = s ∧ n' = n) ∧ (s' = s → k = i)) (u3 : ∀ k s' x, (k, s', x) ∈ T.puts → k ≠ i) (hni : ¬ up L i) :
    Stands T W0 (L.setIfInBounds i true) (turnV V s (.pointer (some ⟨w.heap.size, 0, none⟩))) (w.alloc (.cells cs t)) := by
  have hb : Below w.heap.size w (w.alloc (.cells cs t)) := (Below.refl _ _).alloc (Nat.le_refl _) _
  have hsz : w.heap.size < (w.alloc (.cells cs t)).heap.size := by simp
  refine ⟨h.below.trans (hb.mono h.below.size), fun k s' v' hk hu => ?_, fun k s' n' hk hu => ?_, fun k s' x hk hu => ?_, fun k s' x hk hu => (h.dep k s' x hk (up_set hu (u3 k s' x hk))).imp fun kv ⟨n, h1, h2⟩ => ⟨n, h1, up_mono h2⟩, fun k s' n1 k' s'' n2 hk hk' hne hu hu' => ?_⟩
  · obtain ⟨a, b⟩ := u1 k s' v' hk
    rw [turnV_other _ _ b]
    exact h.val k s' v' hk (up_set hu a)
  · by_cases e : k = i
    · obtain ⟨e1, e2⟩ := (u2 k s' n' hk).1 e
      subst e1 e2
      refine ⟨w.heap.size, turnV_same _ _ _, h.below.size, hsz, ?_⟩
      rw [← hn]
      exact there_alloc w cs t
    · obtain ⟨p, h1, h2, h3, h4⟩ := h.var k s' n' hk (up_set hu e)
      exact ⟨p, by rw [turnV_other _ _ (fun h => e ((u2 k s' n' hk).2 h))]; exact h1, h2, Nat.lt_trans h3 hsz, there_below h4 hb h3⟩
  · have hu' := up_set hu (u3 k s' x hk)
    obtain ⟨p, h1, h3, h4⟩ := h.put k s' x hk hu'
    have b : s' ≠ s := fun e => by
      obtain ⟨kv, n', q1, q2⟩ := h.dep k s' x hk hu'
      have := (u2 kv s' n' q1).2 e
      subst this
      exact hni q2
    exact ⟨p, by rw [turnV_other _ _ b]; exact h1, Nat.lt_trans h3 hsz, range_below h4 hb h3⟩
  · by_cases e : k = i
    · by_cases e' : k' = i
      · exact absurd (((u2 k s' n1 hk).1 e).1.trans ((u2 k' s'' n2 hk').1 e').1.symm) hne
      · obtain ⟨p, h1, h2, h3, h4⟩ := h.var k' s'' n2 hk' (up_set hu' e')
        rw [((u2 k s' n1 hk).1 e).1, turnV_same, turnV_other _ _ (fun h => e' ((u2 k' s'' n2 hk').2 h)), h1]
        intro he
        injection he with he
        injection he with he
        injection he with he
        omega
    · obtain ⟨p, h1, h2, h3, h4⟩ := h.var k s' n1 hk (up_set hu e)
      by_cases e' : k' = i
      · rw [((u2 k' s'' n2 hk').1 e').1, turnV_same, turnV_other _ _ (fun h => e ((u2 k s' n1 hk).2 h)), h1]
        intro he
        injection he with he
        injection he with he
        injection he with he
        omega
      · rw [turnV_other _ _ (fun h => e ((u2 k s' n1 hk).2 h)), turnV_other _ _ (fun h => e' ((u2 k' s'' n2 hk').2 h))]
        exact h.apart k s' n1 k' s'' n2 hk hk' hne (up_set hu e) (up_set hu' e')

/-- A value stored into its variable. -/
theorem Stands.stored {T : Plan} {W0 : World} {L : Array Bool} {V : Nat → Value} {w : World} (h : Stands T W0 L V w) {j s k0 n : Nat} {x : List Value} (hj : (j, s, x) ∈ T.puts) (hv : (k0, s, n) ∈ T.vars) (h0 : up L k0) (hn : x.length = n)
    (u1 : ∀ k s' v', (k, s', v') ∈ T.vals → k ≠ j) (u2 : ∀ k s' n', (k, s', n') ∈ T.vars → k ≠ j) (u3 : ∀ k s' x', (k, s', x') ∈ T.puts → (k = j → s' = s ∧ x' = x) ∧ (s' = s → k = j)) {p : Nat} (hp : V s = .pointer (some ⟨p, 0, none⟩)) :
    Stands T W0 (L.setIfInBounds j true) V (w.setCells p 0 x) := by
  obtain ⟨p', h1, h2, h3, h4⟩ := h.var k0 s n hv h0
  rw [hp] at h1
  injection h1 with h1
  injection h1 with h1
  injection h1 with h1
  subst h1
  have hsz : w.heap.size ≤ (w.setCells p 0 x).heap.size := (below_range (B := 0) (Nat.zero_le _) x 0 w (Below.refl _ _)).size
  refine ⟨below_range h2 x 0 w h.below, fun k s' v' hk hu => h.val k s' v' hk (up_set hu (u1 k s' v' hk)), fun k s' n' hk hu => ?_, fun k s' x' hk hu => ?_, fun k s' x' hk hu => ?_, fun k s' n1 k' s'' n2 hk hk' hne hu hu' => h.apart k s' n1 k' s'' n2 hk hk' hne (up_set hu (u2 k s' n1 hk)) (up_set hu' (u2 k' s'' n2 hk'))⟩
  · obtain ⟨q, q1, q2, q3, q4⟩ := h.var k s' n' hk (up_set hu (u2 k s' n' hk))
    exact ⟨q, q1, q2, Nat.lt_of_lt_of_le q3 hsz, World.there_setCells q4 _ _ _⟩
  · by_cases e : k = j
    · obtain ⟨e1, e2⟩ := (u3 k s' x' hk).1 e
      subst e1 e2
      exact ⟨p, hp, Nat.lt_of_lt_of_le h3 hsz, World.rangeAt_setCells_same _ _ _ _ (by rw [hn]; exact h4)⟩
    · have hu' := up_set hu e
      obtain ⟨q, q1, q3, q4⟩ := h.put k s' x' hk hu'
      obtain ⟨kv, n', d1, d2⟩ := h.dep k s' x' hk hu'
      have hs : s' ≠ s := fun e' => e ((u3 k s' x' hk).2 e')
      have hqp : q ≠ p := fun e' => by
        subst e'
        exact h.apart kv s' n' k0 s n d1 hv hs d2 h0 (q1.trans hp.symm)
      exact ⟨q, q1, Nat.lt_of_lt_of_le q3 hsz, World.rangeAt_setCells_apart q4 p 0 x (.inl hqp)⟩
  · by_cases e : k = j
    · obtain ⟨e1, e2⟩ := (u3 k s' x' hk).1 e
      subst e1
      exact ⟨k0, n, hv, up_mono h0⟩
    · obtain ⟨kv, n', d1, d2⟩ := h.dep k s' x' hk (up_set hu e)
      exact ⟨kv, n', d1, up_mono d2⟩
theorem Stands.start (T : Plan) (W0 : World) (n : Nat) (V : Nat → Value) : Stands T W0 (Array.replicate n false) V W0.drew := by
  have hf : ∀ k, ¬ up (Array.replicate n false) k := fun k h => by
    unfold up at h
    rw [Array.getD_eq_getD_getElem?, Array.getElem?_replicate] at h
    split at h <;> cases h
  exact ⟨(Below.refl _ _).drew, fun k s v _ h => absurd h (hf k), fun k s v _ h => absurd h (hf k), fun k s v _ h => absurd h (hf k), fun k s v _ h => absurd h (hf k), fun k s v k' s' v' _ _ _ h => absurd h (hf k)⟩
end Go.Proofs.Ytchjjbklkmfelaa

/- The steps of a region that draws, one law for each kind of operation. -/
namespace Go.Proofs.Ytchjjbklkmfelaa
open Go.RowKit Go.Lib Go.Deep
set_option linter.unusedVariables false
section
variable {P : Program} {ops : Array Oper} {Q : Exit → Act → World → Prop} {a : Act} {S : List Nat} {V : Nat → Value} {w : World} {L : Array Bool} {F : Array Bool → (Nat → Value) → World → Prop} {i : Nat} {o : Oper}

theorem wanted_plain (hg : o.guard = none) (ts : Nat → Option Bool) : Region.wanted o ts = true := by
  unfold Region.wanted
  rw [hg]
/-- What an operation waits for has come up. -/
theorem ready_up {md : Region.Mode} (h : i ∈ Region.ready md ops L) (ho : ops[i]? = some o) (e : Edge) (he : e ∈ o.after) (hb : Region.binds md e = true) : up L e.on := by
  obtain ⟨-, -, o', ho', h'⟩ := ready_spec h
  rw [ho] at ho'
  cases ho'
  exact h' e he hb
theorem ready_down {md : Region.Mode} (h : i ∈ Region.ready md ops L) : ¬ up L i := by
  obtain ⟨-, h1, -⟩ := ready_spec h
  intro h2
  unfold up at h2
  simp only [Array.getD_eq_getD_getElem?] at h1 h2
  cases h3 : L[i]? with
  | none => rw [h3] at h2; cases h2
  | some b => rw [h3] at h1 h2; simp only [Option.getD_some] at h1 h2; rw [h1] at h2; cases h2

theorem step_move (ho : ops[i]? = some o) (hg : o.guard = none) (x : Operand) (hop : o.op = .move x) (s : Nat) (hd : o.dst = some s) (hs : S.contains s = true) (v : Value) (hx : (over a S V).eval x = v) (h : F (L.setIfInBounds i true) (turnV V s v) w) :
    wpOp P ops Q i (fun a'' w'' => ∃ V', a'' = over a S V' ∧ F (L.setIfInBounds i true) V' w'') (over a S V) w :=
  step_over ho (wanted_plain hg) fun K hK => by
    unfold Oper.wp execOp
    simp only [hop, Sem.run_pure, hx]
    show K ((over a S V).put o.dst v) w
    rw [hd, over_put _ _ _ _ _ hs]
    exact hK _ _ h
theorem step_assign (ho : ops[i]? = some o) (hg : o.guard = none) (x : Operand) (hop : o.op = .assign x) (s : Nat) (hd : o.dst = some s) (hs : S.contains s = true) (v : Value) (hx : (over a S V).eval x = v) (h : F (L.setIfInBounds i true) (turnV V s v) w) :
    wpOp P ops Q i (fun a'' w'' => ∃ V', a'' = over a S V' ∧ F (L.setIfInBounds i true) V' w'') (over a S V) w :=
  step_over ho (wanted_plain hg) fun K hK => by
    unfold Oper.wp execOp
    simp only [hop, Sem.run_pure, hx]
    show K ((over a S V).put o.dst v) w
    rw [hd, over_put _ _ _ _ _ hs]
    exact hK _ _ h
theorem step_extract (ho : ops[i]? = some o) (hg : o.guard = none) (x : Operand) (j : Nat) (hop : o.op = .extract x j) (s : Nat) (hd : o.dst = some s) (hs : S.contains s = true) (vs : Array Value) (v : Value) (hx : (over a S V).eval x = .tuple vs) (hj : vs[j]? = some v) (h : F (L.setIfInBounds i true) (turnV V s v) w) :
    wpOp P ops Q i (fun a'' w'' => ∃ V', a'' = over a S V' ∧ F (L.setIfInBounds i true) V' w'') (over a S V) w :=
  step_over ho (wanted_plain hg) fun K hK => by
    unfold Oper.wp execOp Instr.extract
    simp only [hop, hx, Sem.run_bind, hj, Sem.run_pure, Result.andThen_ok]
    show K ((over a S V).put o.dst v) w
    rw [hd, over_put _ _ _ _ _ hs]
    exact hK _ _ h
theorem step_load (ho : ops[i]? = some o) (hg : o.guard = none) (ty : TypeId) (x : Operand) (hop : o.op = .load ty x) (s : Nat) (hd : o.dst = some s) (hs : S.contains s = true) (b k : Nat) (hx : (over a S V).eval x = .pointer (some ⟨b, k, none⟩))
    (cs : List Value) (d : TypeDesc) (hc : w.rangeAt b k cs) (hu : P.underlying ty = some d) (hr : d.isRow = true) (hi : (P.info? ty).map (·.size) = some cs.length) (h : F (L.setIfInBounds i true) (turnV V s (.agg cs.toArray)) w) :
    wpOp P ops Q i (fun a'' w'' => ∃ V', a'' = over a S V' ∧ F (L.setIfInBounds i true) V' w'') (over a S V) w :=
  step_over ho (wanted_plain hg) fun K hK => wp_load_mid ty x hop b k hx cs d hc hu hr hi (by rw [hd, over_put _ _ _ _ _ hs]; exact hK _ _ h)
theorem step_store (ho : ops[i]? = some o) (hg : o.guard = none) (ty : TypeId) (x y : Operand) (hop : o.op = .store ty x y) (hd : o.dst = none) (b k : Nat) (cells : Array Value) (hx : (over a S V).eval x = .pointer (some ⟨b, k, none⟩)) (hy : (over a S V).eval y = .agg cells)
    (ht : w.there b k cells.size) (hi : (P.info? ty).map (·.size) = some cells.size) (h1 : cells.all (·.oneCell') = true) (h : F (L.setIfInBounds i true) V (w.setCells b k cells.toList)) :
    wpOp P ops Q i (fun a'' w'' => ∃ V', a'' = over a S V' ∧ F (L.setIfInBounds i true) V' w'') (over a S V) w :=
  step_over ho (wanted_plain hg) fun K hK => wp_store_mid ty x y hop b k cells hx hy ht hi h1 (by rw [hd]; exact hK _ _ h)
theorem step_alloc (ho : ops[i]? = some o) (hg : o.guard = none) (ty : TypeId) (hop : o.op = .alloc ty) (s : Nat) (hd : o.dst = some s) (hs : S.contains s = true) (z : Value) (hz : (zeroValue ty).run P w = .ok z w)
    (h : F (L.setIfInBounds i true) (turnV V s (.pointer (some ⟨w.heap.size, 0, none⟩))) (w.alloc (.cells z.cells ty))) :
    wpOp P ops Q i (fun a'' w'' => ∃ V', a'' = over a S V' ∧ F (L.setIfInBounds i true) V' w'') (over a S V) w :=
  step_over ho (wanted_plain hg) fun K hK => by
    unfold Oper.wp execOp Instr.alloc newVar
    simp only [hop, Sem.run_bind, Sem.run_pure, Result.andThen_ok, hz]
    show K ((over a S V).put o.dst _) _
    rw [hd, over_put _ _ _ _ _ hs]
    exact hK _ _ h
theorem step_call (ho : ops[i]? = some o) (hg : o.guard = none) (f : FuncId) (xs : Array Operand) (ats : Array TypeId) (hop : o.op = .call { callee := .value (.func f), args := xs, argTypes := ats }) (s : Nat) (hd : o.dst = some s) (hs : S.contains s = true) (hc : ∀ args w, (callFunc f args).run P w = .ok (.enter f args) w)
    (args : Array Value) (hx : xs.map (over a S V).eval = args) {R : Ending → World → Prop} (hcalls : Calls P f args w R) (h : ∀ e w', R e w' → ∃ v, e = .returned v ∧ F (L.setIfInBounds i true) (turnV V s v) w') :
    wpOp P ops Q i (fun a'' w'' => ∃ V', a'' = over a S V' ∧ F (L.setIfInBounds i true) V' w'') (over a S V) w :=
  step_over ho (wanted_plain hg) fun K hK => by
    obtain ⟨dst, op, ty, pos, after, guard⟩ := o
    cases hop
    unfold Oper.wp
    rw [execOp_call_go, hx, hc]
    show Calls P f _ w _
    rw [show (#[] ++ args ++ #[] : Array Value) = args by simp]
    refine hcalls.mono fun e w' hr => ?_
    obtain ⟨v, rfl, hF⟩ := h e w' hr
    show K ((over a S V).put dst v) w'
    cases hd
    rw [over_put _ _ _ _ _ hs]
    exact hK _ _ hF
end
end Go.Proofs.Ytchjjbklkmfelaa

/- The steps of a region that draws, under a plan; at its end all has come up. -/
namespace Go.Proofs.Ytchjjbklkmfelaa
open Go.RowKit Go.Lib Go.Deep
set_option linter.unusedVariables false

def nodupB : List Nat → Bool
  | [] => true
  | x :: l => !l.contains x && nodupB l
theorem nodupB_spec : ∀ {l : List Nat}, nodupB l = true → l.Nodup
  | [], _ => List.nodup_nil
  | x :: l, h => by
    unfold nodupB at h
    rw [Bool.and_eq_true] at h
    refine List.nodup_cons.2 ⟨fun hx => ?_, nodupB_spec h.2⟩
    have := h.1
    simp [hx] at this
theorem nodup_inj {α : Type} {f : α → Nat} : ∀ {l : List α}, (l.map f).Nodup → ∀ x ∈ l, ∀ y ∈ l, f x = f y → x = y
  | [], _, x, hx, _, _, _ => by cases hx
  | z :: l, h, x, hx, y, hy, e => by
    rw [List.map_cons, List.nodup_cons] at h
    rcases List.mem_cons.1 hx with ex | hx'
    · rcases List.mem_cons.1 hy with ey | hy'
      · rw [ex, ey]
      · rw [ex] at e
        exact absurd (e ▸ List.mem_map_of_mem hy') h.1
    · rcases List.mem_cons.1 hy with ey | hy'
      · rw [ey] at e
        exact absurd (e ▸ List.mem_map_of_mem hx') h.1
      · exact nodup_inj h.2 x hx' y hy' e
/-- A plan in which no operation, and no slot, is told twice. -/
def Plan.fair (T : Plan) : Bool := nodupB (T.vals.map (·.1) ++ (T.vars.map (·.1) ++ T.puts.map (·.1))) && (nodupB (T.vals.map (·.2.1) ++ T.vars.map (·.2.1)) && (nodupB (T.puts.map (·.2.1)) && nodupB (T.vals.map (·.2.1) ++ T.puts.map (·.2.1))))
structure Plan.Good (T : Plan) : Prop where
  k1 : (T.vals.map (·.1)).Nodup
  k2 : (T.vars.map (·.1)).Nodup
  k3 : (T.puts.map (·.1)).Nodup
  k12 : ∀ x ∈ T.vals, ∀ y ∈ T.vars, x.1 ≠ y.1
  k13 : ∀ x ∈ T.vals, ∀ y ∈ T.puts, x.1 ≠ y.1
  k23 : ∀ x ∈ T.vars, ∀ y ∈ T.puts, x.1 ≠ y.1
  s1 : (T.vals.map (·.2.1)).Nodup
  s2 : (T.vars.map (·.2.1)).Nodup
  s3 : (T.puts.map (·.2.1)).Nodup
  s12 : ∀ x ∈ T.vals, ∀ y ∈ T.vars, x.2.1 ≠ y.2.1
  s13 : ∀ x ∈ T.vals, ∀ y ∈ T.puts, x.2.1 ≠ y.2.1
theorem Plan.good {T : Plan} (h : T.fair = true) : T.Good := by
  unfold Plan.fair at h
  rw [Bool.and_eq_true, Bool.and_eq_true, Bool.and_eq_true] at h
  obtain ⟨h1, h2, h3, h4⟩ := h
  obtain ⟨a1, a2, a3⟩ := List.nodup_append.1 (nodupB_spec h1)
  obtain ⟨b1, b2, b3⟩ := List.nodup_append.1 a2
  obtain ⟨c1, c2, c3⟩ := List.nodup_append.1 (nodupB_spec h2)
  obtain ⟨d1, d2, d3⟩ := List.nodup_append.1 (nodupB_spec h4)
  exact ⟨a1, b1, b2, fun x hx y hy => a3 _ (List.mem_map_of_mem hx) _ (List.mem_append_left _ (List.mem_map_of_mem hy)), fun x hx y hy => a3 _ (List.mem_map_of_mem hx) _ (List.mem_append_right _ (List.mem_map_of_mem hy)),
    fun x hx y hy => b3 _ (List.mem_map_of_mem hx) _ (List.mem_map_of_mem hy), c1, c2, nodupB_spec h3, fun x hx y hy => c3 _ (List.mem_map_of_mem hx) _ (List.mem_map_of_mem hy), fun x hx y hy => d3 _ (List.mem_map_of_mem hx) _ (List.mem_map_of_mem hy)⟩

section
variable {T : Plan} {W0 : World} {L : Array Bool} {V : Nat → Value} {w w' : World}
theorem Stands.took (hG : T.Good) (h : Stands T W0 L V w) {i s : Nat} {v : Value} (hi : (i, s, v) ∈ T.vals) (hb : Below w.heap.size w w') : Stands T W0 (L.setIfInBounds i true) (turnV V s v) w' :=
  h.taken hi hb (fun k s' v' hk => ⟨fun e => by
      have := nodup_inj hG.k1 _ hk _ hi e
      cases this
      exact ⟨rfl, rfl⟩, fun e => by
      have := nodup_inj hG.s1 _ hk _ hi e
      cases this
      rfl⟩)
    (fun k s' n hk => ⟨fun e => hG.k12 _ hi _ hk e.symm, fun e => hG.s12 _ hi _ hk e.symm⟩) (fun k s' n hk => ⟨fun e => hG.k13 _ hi _ hk e.symm, fun e => hG.s13 _ hi _ hk e.symm⟩)
theorem Stands.born (hG : T.Good) (h : Stands T W0 L V w) {i s n : Nat} (hi : (i, s, n) ∈ T.vars) (cs : Array Value) (t : TypeId) (hn : cs.size = n) (hni : ¬ up L i) :
    Stands T W0 (L.setIfInBounds i true) (turnV V s (.pointer (some ⟨w.heap.size, 0, none⟩))) (w.alloc (.cells cs t)) :=
  h.made cs t hn (fun k s' n hk => ⟨fun e => hG.k12 _ hk _ hi e, fun e => hG.s12 _ hk _ hi e⟩) (fun k s' v' hk => ⟨fun e => by
      have := nodup_inj hG.k2 _ hk _ hi e
      cases this
      exact ⟨rfl, rfl⟩, fun e => by
      have := nodup_inj hG.s2 _ hk _ hi e
      cases this
      rfl⟩) (fun k s' n hk e => hG.k23 _ hi _ hk e.symm) hni
theorem Stands.laid (hG : T.Good) (h : Stands T W0 L V w) {j s k0 n : Nat} {x : List Value} (hj : (j, s, x) ∈ T.puts) (hv : (k0, s, n) ∈ T.vars) (h0 : up L k0) (hn : x.length = n) {p : Nat} (hp : V s = .pointer (some ⟨p, 0, none⟩)) :
    Stands T W0 (L.setIfInBounds j true) V (w.setCells p 0 x) :=
  h.stored hj hv h0 hn (fun k s' v hk e => hG.k13 _ hk _ hj e) (fun k s' v hk e => hG.k23 _ hk _ hj e) (fun k s' v' hk => ⟨fun e => by
      have := nodup_inj hG.k3 _ hk _ hj e
      cases this
      exact ⟨rfl, rfl⟩, fun e => by
      have := nodup_inj hG.s3 _ hk _ hj e
      cases this
      rfl⟩) hp
end

section
variable {P : Program} {ops : Array Oper} {Q : Exit → Act → World → Prop} {a : Act} {S : List Nat} {V : Nat → Value} {w : World} {L : Array Bool} {i : Nat} {o : Oper} {T : Plan} {W0 : World}
theorem at_move (hG : T.Good) (hF : Stands T W0 L V w) (ho : ops[i]? = some o) (hg : o.guard = none) (x : Operand) (hop : o.op = .move x) (s : Nat) (hd : o.dst = some s) (hs : S.contains s = true) (v : Value) (hi : (i, s, v) ∈ T.vals) (hx : (over a S V).eval x = v) :
    wpOp P ops Q i (fun a'' w'' => ∃ V', a'' = over a S V' ∧ Stands T W0 (L.setIfInBounds i true) V' w'') (over a S V) w :=
  step_move (F := Stands T W0) ho hg x hop s hd hs v hx (hF.took hG hi (Below.refl _ _))
theorem at_load (hG : T.Good) (hF : Stands T W0 L V w) (ho : ops[i]? = some o) (hg : o.guard = none) (ty : TypeId) (x : Operand) (hop : o.op = .load ty x) (s : Nat) (hd : o.dst = some s) (hs : S.contains s = true) (b k : Nat) (hx : (over a S V).eval x = .pointer (some ⟨b, k, none⟩))
    (cs : List Value) (hi : (i, s, .agg cs.toArray) ∈ T.vals) (d : TypeDesc) (hc : w.rangeAt b k cs) (hu : P.underlying ty = some d) (hr : d.isRow = true) (hn : (P.info? ty).map (·.size) = some cs.length) :
    wpOp P ops Q i (fun a'' w'' => ∃ V', a'' = over a S V' ∧ Stands T W0 (L.setIfInBounds i true) V' w'') (over a S V) w :=
  step_load (F := Stands T W0) ho hg ty x hop s hd hs b k hx cs d hc hu hr hn (hF.took hG hi (Below.refl _ _))
theorem at_alloc (hG : T.Good) (hF : Stands T W0 L V w) (hr : i ∈ Region.ready .any ops L) (ho : ops[i]? = some o) (hg : o.guard = none) (ty : TypeId) (hop : o.op = .alloc ty) (s : Nat) (hd : o.dst = some s) (hs : S.contains s = true) (z : Value) (n : Nat) (hi : (i, s, n) ∈ T.vars) (hz : (zeroValue ty).run P w = .ok z w) (hn : z.cells.size = n) :
    wpOp P ops Q i (fun a'' w'' => ∃ V', a'' = over a S V' ∧ Stands T W0 (L.setIfInBounds i true) V' w'') (over a S V) w :=
  step_alloc (F := Stands T W0) ho hg ty hop s hd hs z hz (hF.born hG hi _ _ hn (ready_down hr))
theorem at_call (hG : T.Good) (hF : Stands T W0 L V w) (ho : ops[i]? = some o) (hg : o.guard = none) (f : FuncId) (xs : Array Operand) (ats : Array TypeId) (hop : o.op = .call { callee := .value (.func f), args := xs, argTypes := ats }) (s : Nat) (hd : o.dst = some s) (hs : S.contains s = true) (hc : ∀ args w, (callFunc f args).run P w = .ok (.enter f args) w)
    (args : Array Value) (hx : xs.map (over a S V).eval = args) (v : Value) (hi : (i, s, v) ∈ T.vals) (hcalls : Calls P f args w fun e w' => e = .returned v ∧ Below w.heap.size w w') :
    wpOp P ops Q i (fun a'' w'' => ∃ V', a'' = over a S V' ∧ Stands T W0 (L.setIfInBounds i true) V' w'') (over a S V) w :=
  step_call (F := Stands T W0) ho hg f xs ats hop s hd hs hc args hx hcalls fun e w' ⟨h1, h2⟩ => ⟨v, h1, hF.took hG hi h2⟩
theorem at_store (hG : T.Good) (hF : Stands T W0 L V w) (ho : ops[i]? = some o) (hg : o.guard = none) (ty : TypeId) (s : Nat) (y : Operand) (hop : o.op = .store ty (.tmp s) y) (hd : o.dst = none) (hs : S.contains s = true) (hsl : Nat.blt s a.tmps.size = true) (x : List Value) (hj : (i, s, x) ∈ T.puts) (k0 n : Nat) (hv : (k0, s, n) ∈ T.vars) (h0 : up L k0) (hn : x.length = n)
    (hy : (over a S V).eval y = .agg x.toArray) (hi : (P.info? ty).map (·.size) = some x.length) (h1 : ∀ v ∈ x, v.oneCell' = true) :
    wpOp P ops Q i (fun a'' w'' => ∃ V', a'' = over a S V' ∧ Stands T W0 (L.setIfInBounds i true) V' w'') (over a S V) w := by
  obtain ⟨p, hp, -, -, ht⟩ := hF.var k0 s n hv h0
  refine step_store (F := Stands T W0) ho hg ty (.tmp s) y hop hd p 0 x.toArray ((over_slot a S V s hs hsl).trans hp) hy ?_ ?_ (all_oneCell_toArray h1) ?_
  · rw [List.size_toArray, hn]; exact ht
  · rw [List.size_toArray]; exact hi
  · exact hF.laid hG hj hv h0 hn hp
/-- Each operation waits for earlier ones alone. -/
def forward (md : Region.Mode) (ops : Array Oper) : Bool := (List.range ops.size).all fun i => ((ops[i]?).map fun o => o.after.all fun e => !(Region.binds md e) || decide (e.on < i)).getD true
theorem all_up {md : Region.Mode} (hf : forward md ops = true) (hs : L.size = ops.size) (hr : Region.ready md ops L = []) : ∀ n i, i < n → i < ops.size → up L i
  | 0, i, h, _ => by omega
  | n + 1, i, h, hi => by
    by_cases hu : up L i
    · exact hu
    exfalso
    have hL : L.getD i true = false := by
      unfold up at hu
      simp only [Array.getD_eq_getD_getElem?] at hu ⊢
      rw [Array.getElem?_eq_getElem (by omega)] at hu ⊢
      simpa using hu
    have hmem : i ∈ Region.ready md ops L := by
      unfold Region.ready
      refine List.mem_filter.2 ⟨List.mem_range.2 hi, ?_⟩
      rw [hL]
      rw [Array.getElem?_eq_getElem hi]
      simp only [Bool.not_false, Bool.true_and, Option.map_some, Option.getD_some, Array.all_eq_true_iff_forall_mem]
      intro e he
      have h1 := List.all_eq_true.1 hf i (List.mem_range.2 hi)
      rw [Array.getElem?_eq_getElem hi] at h1
      simp only [Option.map_some, Option.getD_some, Array.all_eq_true_iff_forall_mem] at h1
      have h2 := h1 e he
      cases hb : Region.binds md e with
      | false => rfl
      | true =>
        rw [hb] at h2
        have h3 : e.on < i := by simpa using h2
        have h4 := all_up hf hs hr n e.on (by omega) (by omega)
        simpa [up] using h4
    rw [hr] at hmem
    cases hmem
end
end Go.Proofs.Ytchjjbklkmfelaa

/- A region that draws, whose operations yield one value in every world of a class: loads of whole rows. -/
namespace Go.Proofs.Ytchjjbklkmfelaa
open Go.RowKit Go.Lib Go.Deep
set_option linter.unusedVariables false
section
variable {P : Program} {ops : Array Oper} {D : Type} {W : D → World} {Q : Act → Prop} {a : Act} {o : Oper} {rest : List Oper}
theorem quiet_load_row (hg : Region.wanted o (yielded ops a.tmps) = true) {ty : TypeId} {x : Operand} (hop : o.op = .load ty x) {b k : Nat} (cs : List Value) (hx : a.eval x = .pointer (some ⟨b, k, none⟩)) (hc : ∀ n, (W n).rangeAt b k cs)
    {d : TypeDesc} (hu : P.underlying ty = some d) (hr : d.isRow = true) (hi : (P.info? ty).map (·.size) = some cs.length) (h : wpQuiet P ops (fun w' => ∃ n, w' = W n) Q rest (a.put o.dst (.agg cs.toArray))) :
    wpQuiet P ops (fun w' => ∃ n, w' = W n) Q (o :: rest) a := by
  unfold wpQuiet
  rw [if_pos hg]
  refine ⟨.agg cs.toArray, fun w hw => ?_, h⟩
  obtain ⟨n, rfl⟩ := hw
  unfold Oper.quietAt execOp
  simp only [hop, hx, Instr.loadAt, Instr.sureAddr, Sem.run_bind, Sem.run_pure, Result.andThen_ok, run_loadVar_mid (W n) b k ty cs d (hc n) hu hr hi]
  exact ⟨rfl, rfl⟩
end
/-- The worlds of a class, under a letter: what is known of each serves the walk as it stands. -/
theorem class_of (C : World → Prop) : ∃ (D : Type) (wo : D → World), (∀ n, C (wo n)) ∧ (∀ w', C w' → ∃ n, w' = wo n) := ⟨{w // C w}, Subtype.val, fun n => n.2, fun w' h => ⟨⟨w', h⟩, rfl⟩⟩
end Go.Proofs.Ytchjjbklkmfelaa
