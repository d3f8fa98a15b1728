/- A region that draws its order: values, fresh blocks, whole stores into these, and deeds in a row: one thing to show for each operation, none for each order. -/
import Derived.Test.YtchjjbklkmfelaaInv
import Derived.RegionTactic
import Derived.Deep.Quiet
import Derived.Deep.MidRow
import Derived.Below
namespace Go.Proofs.Ytchjjbklkmfelaa
set_option linter.unusedVariables false

/-- What an operation is: it yields one value at whatever stage; .. ahead of all deeds; a deed; it makes a fresh block; it stores into the fresh block of an operation; it yields some value, of which something holds. -/
inductive Tag where
  | main | early | late | new | ghost | put (k : Nat) | alias (k : Nat)
  deriving DecidableEq
/-- What comes up in a run alone: a fresh block's number; a value. -/
structure Gh where
  p : Nat
  v : Value
structure Sched where
  tags : List Tag
  vals : List Value
  form : Nat → Nat → Value
  xs0 : Nat → List Value
  xs1 : Nat → List Value
  E : Nat → Value → World → Prop
namespace Sched
def tag (T : Sched) (i : Nat) : Tag := T.tags.getD i .main
def nth (T : Sched) (i : Nat) : Value := T.vals.getD i undef
def valOf (T : Sched) (c : Nat → Gh) (j : Nat) : Value := match T.tag j with | .new => T.form j (c j).p | .ghost => (c j).v | .alias k => (match T.tag k with | .new => T.form k (c k).p | _ => (c k).v) | _ => T.nth j
end Sched
section
variable (ops : Array Oper)
def wr (t : Nat) : Option Nat := (List.range ops.size).find? fun j => match ops[j]? with | some o => o.dst == some t | none => false
def edge (i j : Nat) : Bool := match ops[i]? with | some o => o.after.toList.any fun e => Region.binds .any e && e.on == j | none => false
def uses (i k : Nat) : Bool := edge ops i k && match ops[i]?, (ops[k]?).bind (·.dst) with | some o, some s => (o.looksAt ops).contains s | _, _ => false
def reach : Nat → Nat → Nat → Bool
  | 0, _, _ => false
  | n + 1, i, j => edge ops i j || (List.range ops.size).any fun k => edge ops i k && reach n k j
def readVal (T : Sched) (a : Act) (c : Nat → Gh) (i t : Nat) : Value := match wr ops t with
  | none => a.eval (.tmp t)
  | some j => if edge ops i j then T.valOf c j else a.eval (.tmp t)
def ReadsAs (T : Sched) (a : Act) (c : Nat → Gh) (i : Nat) (A : Act) : List Nat → Prop
  | [] => True
  | t :: r => A.eval (.tmp t) = readVal ops T a c i t ∧ ReadsAs T a c i A r
def Facts (T : Sched) (c : Nat → Gh) (N : Nat → Prop) (w : World) (i : Nat) : Prop := ∀ k, uses ops i k = true → (T.tag k = .new → N (c k).p ∧ (c k).p < w.heap.size ∧ w.rangeAt (c k).p 0 (T.xs0 k)) ∧ (T.tag k = .ghost → T.E k (c k).v w)
def ghosty (tags : List Tag) : Bool := tags.any (· == .ghost)
/-- New blocks stay as they are; all do, where values have come up of which something holds. -/
def Stays (T : Sched) (N : Nat → Prop) (w w' : World) : Prop := (∀ b, N b → b < w.heap.size → w'.heap[b]? = w.heap[b]?) ∧ w.heap.size ≤ w'.heap.size ∧ (ghosty T.tags = true → RowKit.Below w.heap.size w w')
def Guarded (o : Oper) (rv : Nat → Value) (S : Prop) (v : Value) : Prop := match o.guard with
  | none => S
  | some (g, want) => (rv g = .bool want ∧ S) ∨ (rv g = .bool (!want) ∧ v = undef)
def lates (tags : List Tag) : Nat := tags.countP (· == .late)
def StepAt (P : Program) (T : Sched) (a : Act) (C : Nat → (Nat → Prop) → World → Prop) (i : Nat) (o : Oper) : Prop := match T.tag i with
  | .main => ∀ m c N w A, m ≤ lates T.tags → C m N w → Facts ops T c N w i → ReadsAs ops T a c i A (o.looksAt ops) → Guarded o (T.valOf c) (o.quietAt P A (fun w' => C m N w' ∧ Stays T N w w') w (T.nth i)) (T.nth i)
  | .early => ∀ c N w A, C 0 N w → Facts ops T c N w i → ReadsAs ops T a c i A (o.looksAt ops) → Guarded o (T.valOf c) (o.quietAt P A (fun w' => C 0 N w' ∧ Stays T N w w') w (T.nth i)) (T.nth i)
  | .late => ∀ c N w A, C (lates (T.tags.take i)) N w → Facts ops T c N w i → ReadsAs ops T a c i A (o.looksAt ops) → o.wp P A w (fun a' w' => a' = A.put o.dst (T.nth i) ∧ C (lates (T.tags.take i) + 1) N w' ∧ Stays T N w w') (fun _ _ _ => False)
  | .new => ∀ m c N w A, m ≤ lates T.tags → C m N w → ReadsAs ops T a c i A (o.looksAt ops) → ∃ ty, (execOp A.eval o).run P w = .ok (.value (T.form i w.heap.size)) (w.alloc (.cells (T.xs0 i).toArray ty))
  | .ghost => ∀ m c N w A, m ≤ lates T.tags → C m N w → Facts ops T c N w i → ReadsAs ops T a c i A (o.looksAt ops) → o.wp P A w (fun a' w' => (∃ v, a' = A.put o.dst v ∧ T.E i v w') ∧ C m N w' ∧ RowKit.Below w.heap.size w w') (fun _ _ _ => False)
  | .alias _ => ∀ c w A, ReadsAs ops T a c i A (o.looksAt ops) → (execOp A.eval o).run P w = .ok (.value (T.valOf c i)) w
  | .put k => ∀ c w A, w.there (c k).p 0 (T.xs1 k).length → ReadsAs ops T a c i A (o.looksAt ops) → o.wp P A w (fun a' w' => a' = A ∧ w' = w.setCells (c k).p 0 (T.xs1 k)) (fun _ _ _ => False)
def Steps (P : Program) (T : Sched) (a : Act) (C : Nat → (Nat → Prop) → World → Prop) : List Oper → Nat → Prop
  | [], _ => True
  | o :: r, i => StepAt ops P T a C i o ∧ Steps P T a C r (i + 1)
def putsAll (T : Sched) (c : Nat → Gh) : List Oper → Nat → Act → Act
  | [], _, a => a
  | o :: r, i, a => putsAll T c r (i + 1) (a.put o.dst (T.valOf c i))
/-- What the kernel looks at. -/
def schedB (tags : List Tag) (nt : Nat) : Bool :=
  let n := ops.size
  let tag := fun i => tags.getD i Tag.main
  tags.length == n && Region.noSelect ops && (!ghosty tags || tags.all fun t => match t with | .put _ => false | .late => false | _ => true) &&
  (List.range n).all fun i => match ops[i]? with
    | none => true
    | some o =>
      (match o.dst with | some s => wr ops s == some i && Nat.blt s nt | none => true) &&
      o.after.all (fun e => !Region.binds .any e || Nat.blt e.on i) &&
      ((o.looksAt ops).all fun t => match wr ops t with | none => true | some j => j == i || edge ops i j || reach ops 3 j i) &&
      (match o.guard with | some (g, _) => edge ops i g && (match (ops[g]?).bind (·.dst) with | some _ => true | none => false) | none => true) &&
      (match tag i with
      | .put k => tag k == .new && edge ops i k && o.dst == none && o.guard == none && (List.range n).all fun j => j == i || !(tag j == .put k)
      | .late => o.guard == none && (List.range n).all (fun j => !(tag j == .early) || reach ops 4 i j) && (List.range n).all (fun j => !(tag j == .late) || j == i || (Nat.blt j i && reach ops 4 i j) || Nat.blt i j)
      | .new => o.guard == none && o.dst.isSome
      | .ghost => o.guard == none && o.dst.isSome
      | .alias k => o.guard == none && edge ops i k && (tag k == .new || tag k == .ghost)
      | _ => true) &&
      (match tag i with
      | .put _ => true
      | _ => (List.range n).all fun k => !(tag k == .new && uses ops i k) || (List.range n).all fun j => !(tag j == .put k))
end
end Go.Proofs.Ytchjjbklkmfelaa

/- The law on such regions. -/
namespace Go.Proofs.Ytchjjbklkmfelaa
set_option linter.unusedVariables false
set_option linter.unusedSimpArgs false

theorem lates_snoc (tags : List Tag) (i : Nat) (h : i < tags.length) : lates (tags.take (i + 1)) = lates (tags.take i) + if tags.getD i .main = .late then 1 else 0 := by
  unfold lates
  rw [List.take_succ_eq_append_getElem h, List.countP_append, List.getD_eq_getElem?_getD, List.getElem?_eq_getElem h]
  by_cases e : tags[i] = Tag.late
  · simp [e]
  · simp [e]
theorem lates_mono (tags : List Tag) {i j : Nat} (h : i ≤ j) : lates (tags.take i) ≤ lates (tags.take j) := by
  unfold lates
  rw [show tags.take i = (tags.take j).take i by rw [List.take_take, Nat.min_eq_left h]]
  exact List.Sublist.countP_le (List.take_sublist _ _)
theorem lates_lt (tags : List Tag) {i j : Nat} (hi : i < tags.length) (ht : tags.getD i .main = .late) (h : i < j) : lates (tags.take i) < lates (tags.take j) := by
  have h1 := lates_snoc tags i hi
  rw [if_pos ht] at h1
  have h2 := lates_mono tags (show i + 1 ≤ j by omega)
  omega
theorem lates_at (tags : List Tag) : ∀ (i : Nat), i ≤ tags.length → ∀ k, k < lates (tags.take i) → ∃ j, j < i ∧ tags.getD j .main = .late ∧ lates (tags.take j) = k
  | 0, _, k, hk => by simp [lates] at hk
  | i + 1, hi, k, hk => by
    have h1 := lates_snoc tags i (by omega)
    by_cases ht : tags.getD i .main = .late
    · rw [if_pos ht] at h1
      by_cases e : k = lates (tags.take i)
      · exact ⟨i, by omega, ht, e.symm⟩
      · obtain ⟨j, h2, h3, h4⟩ := lates_at tags i (by omega) k (by omega)
        exact ⟨j, by omega, h3, h4⟩
    · rw [if_neg ht] at h1
      obtain ⟨j, h2, h3, h4⟩ := lates_at tags i (by omega) k (by omega)
      exact ⟨j, by omega, h3, h4⟩

theorem range_of_block {w w' : World} {b o : Nat} {cs : List Value} (h : w.rangeAt b o cs) (he : w'.heap[b]? = w.heap[b]?) : w'.rangeAt b o cs := fun j v hv => by
  rw [← h j v hv]
  unfold World.cell?
  simp only [he]
theorem there_of_block {w w' : World} {b o n : Nat} (h : w.there b o n) (he : w'.heap[b]? = w.heap[b]?) : w'.there b o n := fun j hj => by
  have := h j hj
  unfold World.cell? World.frozen? at *
  simp only [he]
  exact this

section
variable {P : Program} {ops : Array Oper} {a : Act} {T : Sched} {C : Nat → (Nat → Prop) → World → Prop}

def upB (L : Array Bool) (k : Nat) : Prop := L.getD k false = true
theorem upB_set {L : Array Bool} {i k : Nat} (hi : i < L.size) : upB (L.setIfInBounds i true) k ↔ k = i ∨ upB L k := by
  unfold upB
  simp only [Array.getD_eq_getD_getElem?, Array.getElem?_setIfInBounds]
  by_cases e : i = k
  · subst e; simp [hi]
  · rw [if_neg e]
    constructor
    · exact .inr
    · rintro (h | h)
      · exact absurd h.symm e
      · exact h
def Down (ops : Array Oper) (L : Array Bool) : Prop := ∀ i j, upB L i → edge ops i j = true → upB L j
theorem Down.reach {L : Array Bool} (h : Down ops L) : ∀ (n i j : Nat), upB L i → reach ops n i j = true → upB L j
  | 0, _, _, _, h1 => by cases h1
  | n + 1, i, j, hi, h1 => by
    unfold Go.Proofs.Ytchjjbklkmfelaa.reach at h1
    rw [Bool.or_eq_true, List.any_eq_true] at h1
    rcases h1 with h1 | ⟨k, -, h2⟩
    · exact h i j hi h1
    · rw [Bool.and_eq_true] at h2
      exact Down.reach h n k j (h i k hi h2.1) h2.2

def frameL (ops : Array Oper) (T : Sched) (a : Act) (L : Array Bool) (c : Nat → Gh) : Act := { a with tmps := a.tmps.mapIdx fun t v => match wr ops t with | some j => if L.getD j false then T.valOf c j else v | none => v }

theorem wr_spec {t j : Nat} (h : wr ops t = some j) : j < ops.size ∧ ∃ o, ops[j]? = some o ∧ o.dst = some t := by
  unfold wr at h
  have h1 := List.find?_some h
  have h2 := List.mem_of_find?_eq_some h
  have h3 := List.mem_range.1 h2
  refine ⟨h3, ops[j], Array.getElem?_eq_getElem h3, ?_⟩
  rw [Array.getElem?_eq_getElem h3] at h1
  simpa using h1

theorem frameL_eval (L : Array Bool) (c : Nat → Gh) (t : Nat) : (frameL ops T a L c).eval (.tmp t) = match wr ops t with | some j => if L.getD j false ∧ t < a.tmps.size then T.valOf c j else a.eval (.tmp t) | none => a.eval (.tmp t) := by
  unfold frameL Act.eval
  simp only [Array.getD_eq_getD_getElem?, Array.getElem?_mapIdx]
  by_cases ht : t < a.tmps.size
  · rw [Array.getElem?_eq_getElem ht]
    cases wr ops t with
    | none => rfl
    | some j => by_cases hL : L.getD j false = true <;> simp [hL, ht]
  · rw [Array.getElem?_eq_none (by omega)]
    cases wr ops t with
    | none => rfl
    | some j => simp [ht]

/-- The frame, a value put. -/
theorem frameL_put {L : Array Bool} {c : Nat → Gh} {i : Nat} {o : Oper} (hi : i < L.size) (ho : ops[i]? = some o) (hd : ∀ s, o.dst = some s → wr ops s = some i) :
    (frameL ops T a L c).put o.dst (T.valOf c i) = frameL ops T a (L.setIfInBounds i true) c := by
  have key : ∀ j, (L.setIfInBounds i true).getD j false = if j = i then true else L.getD j false := fun j => by
    simp only [Array.getD_eq_getD_getElem?, Array.getElem?_setIfInBounds]
    by_cases e : i = j
    · subst e; simp [hi]
    · rw [if_neg e, if_neg (fun h => e h.symm)]
  unfold frameL Act.put
  cases hdo : o.dst with
  | none =>
    simp only [Act.mk.injEq, and_true]
    apply Array.ext
    · simp
    · intro t h1 h2
      simp only [Array.getElem_mapIdx]
      cases hw : wr ops t with
      | none => rfl
      | some j =>
        simp only [key]
        have : j ≠ i := fun e => by
          subst e
          obtain ⟨-, o', h3, h4⟩ := wr_spec hw
          rw [ho] at h3
          cases h3
          rw [hdo] at h4
          cases h4
        rw [if_neg this]
  | some s =>
    have hs := hd s hdo
    simp only [Act.mk.injEq, and_true]
    apply Array.ext
    · simp
    · intro t h1 h2
      rw [Array.getElem_setIfInBounds (by simpa using h1)]
      simp only [Array.getElem_mapIdx]
      by_cases e : s = t
      · subst e
        rw [if_pos rfl, hs]
        simp only [key, if_pos]
      · rw [if_neg e]
        cases hw : wr ops t with
        | none => rfl
        | some j =>
          simp only [key]
          have : j ≠ i := fun e' => by
            subst e'
            obtain ⟨-, o', h3, h4⟩ := wr_spec hw
            rw [ho] at h3
            cases h3
            rw [hdo] at h4
            cases h4
            exact e rfl
          rw [if_neg this]
theorem frameL_congr {L : Array Bool} {c c' : Nat → Gh} (h : ∀ j, upB L j → T.valOf c j = T.valOf c' j) : frameL ops T a L c = frameL ops T a L c' := by
  unfold frameL
  simp only [Act.mk.injEq, and_true]
  apply Array.ext
  · simp
  · intro t h1 h2
    simp only [Array.getElem_mapIdx]
    cases wr ops t with
    | none => rfl
    | some j =>
      by_cases hL : L.getD j false = true
      · simp only [hL, if_true]; exact h j hL
      · simp [hL]
theorem frameL_start (n : Nat) (c : Nat → Gh) : frameL ops T a (Array.replicate n false) c = a := by
  unfold frameL
  have : (a.tmps.mapIdx fun t v => match wr ops t with | some j => if (Array.replicate n false).getD j false then T.valOf c j else v | none => v) = a.tmps := by
    apply Array.ext
    · simp
    · intro t h1 h2
      simp only [Array.getElem_mapIdx]
      cases wr ops t with
      | none => rfl
      | some j =>
        have : (Array.replicate n false).getD j false = false := by
          simp only [Array.getD_eq_getD_getElem?, Array.getElem?_replicate]
          split <;> rfl
        simp only [this]
        rfl
  rw [this]

theorem wp_of_quietAt {o : Oper} {A : Act} {Cl : World → Prop} {w : World} {v : Value} {K : Act → World → Prop} {Q : Exit → Act → World → Prop} (h : o.quietAt P A Cl w v) (hK : ∀ w', (w' = w ∨ Cl w') → K (A.put o.dst v) w') : o.wp P A w K Q := by
  unfold Oper.quietAt at h
  unfold Oper.wp
  generalize (execOp A.eval o).run P w = r at *
  cases r with
  | ok n w' =>
    cases n <;> simp only [Oper.quietUpon] at h <;> simp only [Oper.upon]
    case value u =>
      obtain ⟨e1, e2⟩ := h
      rw [e1, e2]
      exact hK _ (.inl rfl)
    case skip =>
      obtain ⟨e1, e2⟩ := h
      rw [e1, ← e2]
      exact hK _ (.inl rfl)
    case enter f args =>
      obtain ⟨e1, hc⟩ := h
      rw [e1]
      exact hc.mono fun e w'' ⟨he, hw''⟩ => by subst he; exact hK _ (.inr hw'')
  | halt x w' => simp only [Oper.quietUpon] at h
theorem wp_noPanic {o : Oper} {A : Act} {w : World} {K K' : Act → World → Prop} {Q : Exit → Act → World → Prop} (h : o.wp P A w K (fun _ _ _ => False)) (hK : ∀ a w, K a w → K' a w) : o.wp P A w K' Q := by
  unfold Oper.wp at *
  generalize (execOp A.eval o).run P w = r at *
  cases r with
  | ok n w' =>
    cases n <;> simp only [Oper.upon] at h ⊢
    case enter f args =>
      refine h.mono fun e w'' he => ?_
      cases e with
      | returned v => exact hK _ _ he
      | panicked c => exact he.elim
      | outgrown => obtain ⟨_, _, h⟩ := he; exact h.elim
    case row row args => exact h.mono fun v w'' he => hK _ _ he
    all_goals first | exact hK _ _ h | exact h.elim
  | halt x w' => cases x <;> simp only [Oper.upon] at h ⊢

/-- What holds at whatever place of whatever order. -/
structure Inv6 (ops : Array Oper) (T : Sched) (C : Nat → (Nat → Prop) → World → Prop) (L : Array Bool) (c : Nat → Gh) (N : Nat → Prop) (m : Nat) (w : World) : Prop where
  cls : C m N w
  le : m ≤ lates T.tags
  late : ∀ i, i < ops.size → T.tag i = .late → (upB L i ↔ lates (T.tags.take i) < m)
  news : ∀ k, T.tag k = .new → upB L k → N (c k).p ∧ (c k).p < w.heap.size ∧ w.there (c k).p 0 (T.xs0 k).length ∧ ((∀ j, T.tag j = .put k → ¬ upB L j) → w.rangeAt (c k).p 0 (T.xs0 k)) ∧ (∀ j, T.tag j = .put k → upB L j → w.rangeAt (c k).p 0 (T.xs1 k))
  apart : ∀ k k', T.tag k = .new → T.tag k' = .new → upB L k → upB L k' → k ≠ k' → (c k).p ≠ (c k').p
  ghosts : ∀ k, T.tag k = .ghost → upB L k → T.E k (c k).v w

/-- A step that leaves the fresh blocks as they are. -/
theorem Inv6.stay {L : Array Bool} {c : Nat → Gh} {N : Nat → Prop} {m m' : Nat} {w w' : World} {i : Nat} (h : Inv6 ops T C L c N m w) (hi : i < L.size) (hn : T.tag i ≠ .new) (hgh : T.tag i ≠ .ghost) (hp : ∀ k, T.tag i ≠ .put k) (hE : ∀ k v w w', T.tag k = .ghost → T.E k v w → RowKit.Below w.heap.size w w' → T.E k v w') (hgt : ∀ k, T.tag k = .ghost → ghosty T.tags = true) (hc : C m' N w') (hs : Stays T N w w') (hle : m' ≤ lates T.tags)
    (hl : ∀ j, j < ops.size → T.tag j = .late → (upB (L.setIfInBounds i true) j ↔ lates (T.tags.take j) < m')) : Inv6 ops T C (L.setIfInBounds i true) c N m' w' := by
  have back : ∀ k, T.tag k = .new → upB (L.setIfInBounds i true) k → upB L k := fun k hk hu => by
    rcases (upB_set hi).1 hu with e | e
    · subst e; exact absurd hk hn
    · exact e
  refine ⟨hc, hle, hl, fun k hk hu => ?_, fun k k' hk hk' hu hu' hne => h.apart k k' hk hk' (back k hk hu) (back k' hk' hu') hne, fun k hk hu => ?_⟩
  rotate_left
  · refine hE k _ _ _ hk (h.ghosts k hk ?_) (hs.2.2 (hgt k hk))
    rcases (upB_set hi).1 hu with e | e
    · subst e; exact absurd hk hgh
    · exact e
  obtain ⟨h1, h2, h3, h4, h5⟩ := h.news k hk (back k hk hu)
  have he := hs.1 (c k).p h1 h2
  refine ⟨h1, Nat.lt_of_lt_of_le h2 hs.2.1, there_of_block h3 he, fun hj => range_of_block (h4 fun j hj' hu' => hj j hj' ((upB_set hi).2 (.inr hu'))) he, fun j hj hu' => range_of_block (h5 j hj ?_) he⟩
  rcases (upB_set hi).1 hu' with e | e
  · subst e; exact absurd hj (hp k)
  · exact e
end
end Go.Proofs.Ytchjjbklkmfelaa

/- The law on such regions, whole. -/
namespace Go.Proofs.Ytchjjbklkmfelaa
set_option linter.unusedVariables false
set_option linter.unusedSimpArgs false
section
variable {P : Program} {ops : Array Oper} {a : Act} {T : Sched} {C : Nat → (Nat → Prop) → World → Prop}

structure SchedOk (ops : Array Oper) (tags : List Tag) (nt i : Nat) (o : Oper) : Prop where
  d : ∀ s, o.dst = some s → wr ops s = some i ∧ s < nt
  f : ∀ e ∈ o.after, Region.binds .any e = true → e.on < i
  l : ∀ t ∈ o.looksAt ops, ∀ j, wr ops t = some j → j = i ∨ edge ops i j = true ∨ reach ops 3 j i = true
  g : ∀ g want, o.guard = some (g, want) → edge ops i g = true ∧ ∃ s, (ops[g]?).bind (·.dst) = some s
  p : ∀ k, tags.getD i .main = .put k → tags.getD k .main = .new ∧ edge ops i k = true ∧ o.dst = none ∧ o.guard = none ∧ ∀ j, j < ops.size → tags.getD j .main = .put k → j = i
  t : tags.getD i .main = .late → o.guard = none ∧ (∀ j, j < ops.size → tags.getD j .main = .early → reach ops 4 i j = true) ∧ (∀ j, j < ops.size → tags.getD j .main = .late → j < i → reach ops 4 i j = true)
  n : tags.getD i .main = .new → o.guard = none
  h : tags.getD i .main = .ghost → o.guard = none
  a : ∀ k, tags.getD i .main = .alias k → o.guard = none ∧ edge ops i k = true ∧ (tags.getD k .main = .new ∨ tags.getD k .main = .ghost)
  k : (∀ k, tags.getD i .main ≠ .put k) → ∀ k, k < ops.size → tags.getD k .main = .new → uses ops i k = true → ∀ j, j < ops.size → tags.getD j .main ≠ .put k

theorem schedB_spec {tags : List Tag} {nt : Nat} (h : schedB ops tags nt = true) : tags.length = ops.size ∧ Region.noSelect ops = true ∧ (ghosty tags = true → ∀ i, (∀ k, tags.getD i .main ≠ .put k) ∧ tags.getD i .main ≠ .late) ∧ ∀ i o, ops[i]? = some o → SchedOk ops tags nt i o := by
  unfold schedB at h
  simp only [Bool.and_eq_true, beq_iff_eq] at h
  obtain ⟨⟨⟨h1, h2⟩, hgh⟩, h3⟩ := h
  refine ⟨h1, h2, fun hg i => ?_, fun i o ho => ?_⟩
  · rw [hg] at hgh
    simp only [Bool.not_true, Bool.false_or] at hgh
    rw [List.getD_eq_getElem?_getD]
    cases he : tags[i]? with
    | none => simp
    | some x =>
      have := List.all_eq_true.1 hgh x (List.mem_of_getElem? he)
      simp only [Option.getD_some]
      cases x <;> simp_all
  have hi : i < ops.size := (Array.getElem?_eq_some_iff.1 ho).1
  have h4 := List.all_eq_true.1 h3 i (List.mem_range.2 hi)
  rw [ho] at h4
  simp only [Bool.and_eq_true] at h4
  obtain ⟨⟨⟨⟨⟨a1, a2⟩, a3⟩, a4⟩, a5⟩, a6⟩ := h4
  refine ⟨fun s hs => ?_, fun e he hb => ?_, fun t ht j hj => ?_, fun g want hg => ?_, fun k hk => ?_, fun hk => ?_, fun hk => ?_, fun hk => ?_, fun k hk => ?_, fun hnp k hk ht he j hj hp => ?_⟩
  · rw [hs] at a1
    simpa using a1
  · have := (Array.all_eq_true_iff_forall_mem.1 a2) e he
    rw [hb] at this
    simpa using this
  · have := List.all_eq_true.1 a3 t ht
    rw [hj] at this
    simpa [or_assoc] using this
  · rw [hg] at a4
    simp only [Bool.and_eq_true] at a4
    refine ⟨a4.1, ?_⟩
    have := a4.2
    cases hb : (ops[g]?).bind (·.dst) with
    | none => rw [hb] at this; cases this
    | some s => exact ⟨s, rfl⟩
  · rw [hk] at a5
    simp only [Bool.and_eq_true, beq_iff_eq, Option.isNone_iff_eq_none] at a5
    obtain ⟨⟨⟨⟨b1, b2⟩, b3⟩, b4⟩, b5⟩ := a5
    refine ⟨b1, b2, by simpa using b3, by simpa using b4, fun j hj hp => ?_⟩
    have := List.all_eq_true.1 b5 j (List.mem_range.2 hj)
    rw [hp] at this
    simpa using this
  · rw [hk] at a5
    simp only [Bool.and_eq_true, beq_iff_eq] at a5
    obtain ⟨⟨b1, b2⟩, b3⟩ := a5
    refine ⟨by simpa using b1, fun j hj hp => ?_, fun j hj hp hlt => ?_⟩
    · have := List.all_eq_true.1 b2 j (List.mem_range.2 hj)
      rw [hp] at this
      simpa using this
    · have := List.all_eq_true.1 b3 j (List.mem_range.2 hj)
      rw [hp] at this
      simp at this
      rcases this with (h | h) | h
      · omega
      · exact h.2
      · omega
  · rw [hk] at a5
    simp only [Bool.and_eq_true, beq_iff_eq] at a5
    simpa using a5.1
  · rw [hk] at a5
    simp only [Bool.and_eq_true, beq_iff_eq] at a5
    simpa using a5.1
  · rw [hk] at a5
    simp only [Bool.and_eq_true, Bool.or_eq_true, beq_iff_eq] at a5
    exact ⟨by simpa using a5.1.1, a5.1.2, a5.2⟩
  · have h5 : ((List.range ops.size).all fun k => !(tags.getD k .main == .new && uses ops i k) || (List.range ops.size).all fun j => !(tags.getD j .main == .put k)) = true := by
      cases ht : tags.getD i .main with
      | put k => exact absurd ht (hnp k)
      | main => rw [ht] at a6; exact a6
      | early => rw [ht] at a6; exact a6
      | late => rw [ht] at a6; exact a6
      | new => rw [ht] at a6; exact a6
      | ghost => rw [ht] at a6; exact a6
      | alias k => rw [ht] at a6; exact a6
    have := List.all_eq_true.1 h5 k (List.mem_range.2 hk)
    rw [ht, he] at this
    simp only [beq_self_eq_true, Bool.and_true, Bool.not_true, Bool.false_or] at this
    have := List.all_eq_true.1 this j (List.mem_range.2 hj)
    rw [hp] at this
    simp at this

theorem edge_spec {i j : Nat} (h : edge ops i j = true) : ∃ o, ops[i]? = some o ∧ ∃ e ∈ o.after, Region.binds .any e = true ∧ e.on = j := by
  unfold edge at h
  cases ho : ops[i]? with
  | none => rw [ho] at h; cases h
  | some o =>
    rw [ho] at h
    obtain ⟨e, he, hb⟩ := List.any_eq_true.1 h
    simp only [Bool.and_eq_true, beq_iff_eq] at hb
    exact ⟨o, rfl, e, Array.mem_toList_iff.1 he, hb.1, hb.2⟩
theorem edge_mk {i j : Nat} {o : Oper} (ho : ops[i]? = some o) {e : Edge} (he : e ∈ o.after) (hb : Region.binds .any e = true) (hj : e.on = j) : edge ops i j = true := by
  unfold edge
  rw [ho]
  refine List.any_eq_true.2 ⟨e, Array.mem_toList_iff.2 he, ?_⟩
  simp [hb, hj]
theorem ready_edge {L : Array Bool} {i j : Nat} (h : i ∈ Region.ready .any ops L) (he : edge ops i j = true) : upB L j := by
  obtain ⟨o, ho, e, h1, h2, h3⟩ := edge_spec he
  obtain ⟨-, -, o', ho', h'⟩ := ready_spec h
  rw [ho] at ho'
  cases ho'
  rw [← h3]
  exact h' e h1 h2
theorem ready_not {L : Array Bool} {i : Nat} (h : i ∈ Region.ready .any ops L) : ¬ upB L i := by
  obtain ⟨-, h1, -⟩ := ready_spec h
  intro h2
  unfold upB at h2
  simp only [Array.getD_eq_getD_getElem?] at h1 h2
  cases h3 : L[i]? with
  | none => rw [h3] at h2; cases h2
  | some b => rw [h3] at h1 h2; simp only [Option.getD_some] at h1 h2; rw [h1] at h2; cases h2

theorem reads_ready {tags : List Tag} (hok : ∀ i o, ops[i]? = some o → SchedOk ops tags a.tmps.size i o) {L : Array Bool} (hD : Down ops L) {i : Nat} (hi : i ∈ Region.ready .any ops L) (c : Nat → Gh) {o : Oper} (ho : ops[i]? = some o) :
    ∀ ts : List Nat, (∀ t ∈ ts, t ∈ o.looksAt ops) → ReadsAs ops T a c i (frameL ops T a L c) ts
  | [], _ => trivial
  | t :: r, h => by
    refine ⟨?_, reads_ready hok hD hi c ho r fun t' h' => h t' (List.mem_cons_of_mem _ h')⟩
    have hl := (hok i o ho).l t (h t (List.mem_cons_self ..))
    rw [frameL_eval]
    unfold readVal
    cases hw : wr ops t with
    | none => rfl
    | some j =>
      simp only
      obtain ⟨hj, oj, hoj, hdj⟩ := wr_spec hw
      have hts := ((hok j oj hoj).d t hdj).2
      by_cases he : edge ops i j = true
      · have hu : L.getD j false = true := ready_edge hi he
        rw [if_pos he, if_pos ⟨hu, hts⟩]
      · rw [if_neg he, if_neg]
        rintro ⟨hu, -⟩
        rcases hl j hw with e | e | e
        · subst e; exact ready_not hi hu
        · exact he e
        · exact ready_not hi (hD.reach 3 j i hu e)

theorem guard_reads {A : Act} {g s : Nat} {b : Bool} (hs : (ops[g]?).bind (·.dst) = some s) (h : A.eval (.tmp s) = .bool b) : yielded ops A.tmps g = some b := by
  unfold yielded
  rw [hs]
  unfold Act.eval at h
  simp only [Array.getD_eq_getD_getElem?] at h
  cases hq : A.tmps[s]? with
  | none => rw [hq] at h; simp [undef] at h
  | some v =>
    rw [hq] at h
    simp only [Option.getD_some] at h
    subst h
    simp [hq]

theorem putsAll_frame (hok : ∀ i o, ops[i]? = some o → ∀ s, o.dst = some s → wr ops s = some i) (c : Nat → Gh) : ∀ (l : List Oper) (i : Nat) (L : Array Bool), (∀ j, l[j]? = ops[i + j]?) → L.size = ops.size → i + l.length = ops.size →
    ∃ L' : Array Bool, putsAll T c l i (frameL ops T a L c) = frameL ops T a L' c ∧ ∀ j, upB L' j ↔ (upB L j ∨ (i ≤ j ∧ j < ops.size))
  | [], i, L, _, _, hl => ⟨L, rfl, fun j => ⟨.inl, fun h => h.elim id fun h => by simp at hl; omega⟩⟩
  | o :: r, i, L, h, hs, hl => by
    simp only [List.length_cons] at hl
    have ho : ops[i]? = some o := by simpa using (h 0).symm
    have hput := frameL_put (T := T) (a := a) (c := c) (show i < L.size by omega) ho (hok i o ho)
    obtain ⟨L', h1, h2⟩ := putsAll_frame hok c r (i + 1) (L.setIfInBounds i true) (fun j => by have := h (j + 1); simpa [Nat.add_assoc, Nat.add_comm 1 j] using this) (by simpa using hs) (by omega)
    refine ⟨L', ?_, fun j => ?_⟩
    · show putsAll T c r (i + 1) ((frameL ops T a L c).put o.dst (T.valOf c i)) = _
      rw [hput, h1]
    · rw [h2, upB_set (by omega)]
      constructor
      · rintro ((e | e) | e)
        · exact .inr ⟨by omega, by omega⟩
        · exact .inl e
        · exact .inr ⟨by omega, e.2⟩
      · rintro (e | e)
        · exact .inl (.inr e)
        · by_cases e' : j = i
          · exact .inl (.inl e')
          · exact .inr ⟨by omega, e.2⟩

theorem all_upB {L : Array Bool} (hf : ∀ i o, ops[i]? = some o → ∀ e ∈ o.after, Region.binds .any e = true → e.on < i) (hs : L.size = ops.size) (hr : Region.ready .any ops L = []) : ∀ n i, i < n → i < ops.size → upB L i
  | 0, i, h, _ => by omega
  | n + 1, i, h, hi => by
    by_cases hu : upB L i
    · exact hu
    exfalso
    have hL : L.getD i true = false := by
      unfold upB at hu
      simp only [Array.getD_eq_getD_getElem?] at hu ⊢
      rw [Array.getElem?_eq_getElem (by omega)] at hu ⊢
      simpa using hu
    have hmem : i ∈ Region.ready .any ops L := by
      unfold Region.ready
      refine List.mem_filter.2 ⟨List.mem_range.2 hi, ?_⟩
      rw [hL]
      rw [Array.getElem?_eq_getElem hi]
      simp only [Bool.not_false, Bool.true_and, Option.map_some, Option.getD_some, Array.all_eq_true_iff_forall_mem]
      intro e he
      cases hb : Region.binds .any e with
      | false => rfl
      | true =>
        have h3 : e.on < i := hf i _ (Array.getElem?_eq_getElem hi) e he hb
        have h4 := all_upB hf hs hr n e.on (by omega) (by omega)
        simpa [upB] using h4
    rw [hr] at hmem
    cases hmem

theorem Steps.at {l : List Oper} : ∀ {i j : Nat} {o : Oper}, Steps ops P T a C l i → l[j]? = some o → StepAt ops P T a C (i + j) o := by
  induction l with
  | nil => intro i j o _ h; simp at h
  | cons x r ih =>
    intro i j o h hj
    cases j with
    | zero => simp at hj; subst hj; exact h.1
    | succ j =>
      have := ih h.2 (by simpa using hj)
      rwa [Nat.add_assoc, Nat.add_comm 1 j] at this

theorem region_plan {id : Nat} {w : World} {Q : Exit → Act → World → Prop} (hm : P.follows .mixedOrders = true) (T : Sched) (C : Nat → (Nat → Prop) → World → Prop) (hB : schedB ops T.tags a.tmps.size = true)
    (hlen : ∀ i k, T.tag i = .put k → (T.xs0 k).length = (T.xs1 k).length)
    (hA : ∀ m N w o, C m N w → C m (fun b => N b ∨ b = w.heap.size) (w.alloc o)) (hP : ∀ m N w p xs, C m N w → N p → C m N (w.setCells p 0 xs))
    (hE : ∀ k v w w', T.tag k = .ghost → T.E k v w → RowKit.Below w.heap.size w w' → T.E k v w')
    (h0 : C 0 (fun _ => False) w.drew) (hs : Steps ops P T a C ops.toList 0)
    (hend : ∀ c N w', C (lates T.tags) N w' → (∀ k, T.tag k = .new → N (c k).p ∧ (c k).p < w'.heap.size ∧ w'.there (c k).p 0 (T.xs0 k).length ∧ ((∀ j, T.tag j ≠ .put k) → w'.rangeAt (c k).p 0 (T.xs0 k)) ∧ (∀ j, T.tag j = .put k → w'.rangeAt (c k).p 0 (T.xs1 k))) →
      (∀ k k', T.tag k = .new → T.tag k' = .new → k ≠ k' → (c k).p ≠ (c k').p) → (∀ k, T.tag k = .ghost → T.E k (c k).v w') → Q .normal (putsAll T c ops.toList 0 a) w') : (Code.region id ops true).wp P Q a w := by
  obtain ⟨htl, hsel, hgno, hok⟩ := schedB_spec hB
  have hgt : ∀ k, T.tag k = .ghost → ghosty T.tags = true := fun k hk => by
    unfold Sched.tag at hk
    rw [List.getD_eq_getElem?_getD] at hk
    cases he : T.tags[k]? with
    | none => rw [he] at hk; cases hk
    | some x =>
      rw [he] at hk
      simp only [Option.getD_some] at hk
      subst hk
      exact List.any_eq_true.2 ⟨_, List.mem_of_getElem? he, by simp⟩
  have hlt : ∀ k, T.tag k ≠ .main → k < ops.size := fun k hk => by
    rcases Nat.lt_or_ge k ops.size with h | h
    · exact h
    · exact absurd (by unfold Sched.tag; rw [List.getD_eq_getElem?_getD, List.getElem?_eq_none (by omega)]; rfl) hk
  refine region_inv hm (fun L a' w' => L.size = ops.size ∧ Down ops L ∧ ∃ c N m, a' = frameL ops T a L c ∧ Inv6 ops T C L c N m w') ?_ ?_ ?_
  · have hno : ∀ j, ¬ upB (Array.replicate ops.size false) j := fun j hj => by
      unfold upB at hj
      simp only [Array.getD_eq_getD_getElem?, Array.getElem?_replicate] at hj
      split at hj <;> cases hj
    exact ⟨by simp, fun i j h => absurd h (hno i), fun _ => ⟨0, undef⟩, fun _ => False, 0, (frameL_start _ _).symm, h0, Nat.zero_le _, fun i hi ht => ⟨fun h => absurd h (hno i), fun h => by omega⟩, fun k _ h => absurd h (hno k), fun k k' _ _ h => absurd h (hno k), fun k _ h => absurd h (hno k)⟩
  · rintro L a' w' ⟨hsz, hD, c, N, m, rfl, hI⟩ hr
    have hall := fun i hi => all_upB (fun i o ho => (hok i o ho).f) hsz hr ops.size i hi hi
    have hmM : m = lates T.tags := by
      rcases Nat.lt_or_ge m (lates T.tags) with h | h
      · obtain ⟨j, h1, h2, h3⟩ := lates_at T.tags T.tags.length (Nat.le_refl _) m (by rw [List.take_length]; exact h)
        have := (hI.late j (by omega) h2).1 (hall j (by omega))
        omega
      · exact Nat.le_antisymm hI.le h
    subst hmM
    obtain ⟨L', e1, e2⟩ := putsAll_frame (T := T) (a := a) (fun i o ho s hs => ((hok i o ho).d s hs).1) c ops.toList 0 (Array.replicate ops.size false) (by simp) (by simp) (by simp)
    rw [frameL_start] at e1
    have e3 : frameL ops T a L c = frameL ops T a L' c := by
      unfold frameL
      simp only [Act.mk.injEq, and_true]
      apply Array.ext
      · simp
      · intro t h1 h2
        simp only [Array.getElem_mapIdx]
        cases hw : wr ops t with
        | none => rfl
        | some j =>
          have hj := (wr_spec hw).1
          have u1 : L.getD j false = true := hall j hj
          have u2 : L'.getD j false = true := (e2 j).2 (.inr ⟨Nat.zero_le _, hj⟩)
          simp only [u1, u2]
    rw [e3, ← e1]
    refine hend c N w' hI.cls (fun k hk => ?_) (fun k k' hk hk' hne => hI.apart k k' hk hk' (hall k (hlt k (by rw [hk]; simp))) (hall k' (hlt k' (by rw [hk']; simp))) hne) (fun k hk => hI.ghosts k hk (hall k (hlt k (by rw [hk]; simp))))
    obtain ⟨n1, n2, n3, n4, n5⟩ := hI.news k hk (hall k (hlt k (by rw [hk]; simp)))
    exact ⟨n1, n2, n3, fun h => n4 fun j hj => absurd hj (h j), fun j hj => n5 j hj (hall j (hlt j (by rw [hj]; simp)))⟩
  · rintro L a' w' i ⟨hsz, hD, c, N, m, rfl, hI⟩ hi
    obtain ⟨hin, -, o, ho, -⟩ := ready_spec hi
    have hiL : i < L.size := by omega
    have hOK := hok i o ho
    have hst : StepAt ops P T a C i o := by
      have := Steps.at (i := 0) (j := i) hs (by simpa using ho)
      rwa [Nat.zero_add] at this
    have hD' : Down ops (L.setIfInBounds i true) := fun x y hx he => by
      rcases (upB_set hiL).1 hx with e | e
      · subst e; exact (upB_set hiL).2 (.inr (ready_edge hi he))
      · exact (upB_set hiL).2 (.inr (hD x y e he))
    have hsz' : (L.setIfInBounds i true).size = ops.size := by simpa using hsz
    have hR := fun c => reads_ready (T := T) hok hD hi c ho (o.looksAt ops) (fun t h => h)
    have hF : (∀ k, T.tag i ≠ .put k) → Facts ops T c N w' i := fun hnp k he => by
      have he' : edge ops i k = true := by unfold uses at he; rw [Bool.and_eq_true] at he; exact he.1
      refine ⟨fun hk => ?_, fun hk => hI.ghosts k hk (ready_edge hi he')⟩
      obtain ⟨n1, n2, n3, n4, n5⟩ := hI.news k hk (ready_edge hi he')
      exact ⟨n1, n2, n4 fun j hj => absurd hj (hOK.k hnp k (hlt k (by rw [hk]; simp)) hk he j (hlt j (by rw [hj]; simp)))⟩
    have hput : ∀ v, v = T.valOf c i → (frameL ops T a L c).put o.dst v = frameL ops T a (L.setIfInBounds i true) c := fun v hv => by
      subst hv
      exact frameL_put hiL ho fun s hs => (hOK.d s hs).1
    -- one that yields a value
    have mainly : T.tag i ≠ .new → T.tag i ≠ .ghost → (∀ k, T.tag i ≠ .alias k) → (∀ k, T.tag i ≠ .put k) → T.tag i ≠ .late → Guarded o (T.valOf c) (o.quietAt P (frameL ops T a L c) (fun w'' => C m N w'' ∧ Stays T N w' w'') w' (T.nth i)) (T.nth i) →
        wpOp P ops Q i (fun a'' w'' => (L.setIfInBounds i true).size = ops.size ∧ Down ops (L.setIfInBounds i true) ∧ ∃ c N m, a'' = frameL ops T a (L.setIfInBounds i true) c ∧ Inv6 ops T C (L.setIfInBounds i true) c N m w'') (frameL ops T a L c) w' := fun t1 t0 t00 t2 t3 hg => by
      have hv : T.valOf c i = T.nth i := by
        unfold Sched.valOf
        split
        · exact absurd (by assumption) t1
        · exact absurd (by assumption) t0
        · exact absurd (by assumption) (t00 _)
        · rfl
      have hl : ∀ j, j < ops.size → T.tag j = .late → (upB (L.setIfInBounds i true) j ↔ lates (T.tags.take j) < m) := fun j hj ht => by
        rw [← hI.late j hj ht, upB_set hiL]
        exact ⟨fun h => h.resolve_left fun e => by subst e; exact t3 ht, .inr⟩
      have fin : ∀ w'', (w'' = w' ∨ (C m N w'' ∧ Stays T N w' w'')) → Inv6 ops T C (L.setIfInBounds i true) c N m w'' := fun w'' h => by
        rcases h with rfl | ⟨h1, h2⟩
        · exact hI.stay hiL t1 t0 t2 hE hgt hI.cls ⟨fun _ _ _ => rfl, Nat.le_refl _, fun _ => RowKit.Below.refl _ _⟩ hI.le hl
        · exact hI.stay hiL t1 t0 t2 hE hgt h1 h2 hI.le hl
      refine wpOp_step ho fun K hK => ?_
      have go : o.quietAt P (frameL ops T a L c) (fun w'' => C m N w'' ∧ Stays T N w' w'') w' (T.nth i) → o.wp P (frameL ops T a L c) w' K Q := fun hq =>
        wp_of_quietAt hq fun w'' hw'' => hK _ _ ⟨hsz', hD', c, N, m, hput _ hv.symm, fin w'' hw''⟩
      unfold Guarded at hg
      cases hgd : o.guard with
      | none =>
        rw [hgd] at hg
        rw [if_pos (by unfold Region.wanted; rw [hgd])]
        exact go hg
      | some gw =>
        obtain ⟨g, want⟩ := gw
        rw [hgd] at hg
        obtain ⟨ge, s, hs'⟩ := hOK.g g want hgd
        have hsl : s ∈ o.looksAt ops := by
          unfold Oper.looksAt
          rw [hgd]
          exact List.mem_append_right _ (by simp [hs'])
        have hev : (frameL ops T a L c).eval (.tmp s) = T.valOf c g := by
          obtain ⟨og, hog, hdg⟩ := Option.bind_eq_some_iff.1 hs'
          have hw := ((hok g og hog).d s hdg)
          rw [frameL_eval, hw.1]
          exact if_pos ⟨ready_edge hi ge, hw.2⟩
        rcases hg with ⟨g1, g2⟩ | ⟨g1, g2⟩
        · rw [g1] at hev
          rw [if_pos (by unfold Region.wanted; rw [hgd]; simp [guard_reads hs' hev])]
          exact go g2
        · rw [g1] at hev
          rw [if_neg (by unfold Region.wanted; rw [hgd]; simp [guard_reads hs' hev])]
          exact hK _ _ ⟨hsz', hD', c, N, m, hput _ (by rw [hv, g2]), fin w' (.inl rfl)⟩
    cases ht : T.tag i with
    | main =>
      have hst' := hst
      unfold StepAt at hst'
      rw [ht] at hst'
      exact mainly (by rw [ht]; simp) (by rw [ht]; simp) (by rw [ht]; simp) (by rw [ht]; simp) (by rw [ht]; simp) (hst' m c N w' _ hI.le hI.cls (hF (by rw [ht]; simp)) (hR c))
    | early =>
      have hm0 : m = 0 := by
        rcases Nat.eq_zero_or_pos m with h | h
        · exact h
        · exfalso
          obtain ⟨j, h1, h2, h3⟩ := lates_at T.tags T.tags.length (Nat.le_refl _) 0 (by rw [List.take_length]; have := hI.le; omega)
          have hju := (hI.late j (by omega) h2).2 (by omega)
          obtain ⟨oj, hoj⟩ : ∃ oj, ops[j]? = some oj := ⟨_, Array.getElem?_eq_getElem (by omega)⟩
          exact ready_not hi (hD.reach 4 j i hju (((hok j oj hoj).t h2).2.1 i hin ht))
      subst hm0
      have hst' := hst
      unfold StepAt at hst'
      rw [ht] at hst'
      exact mainly (by rw [ht]; simp) (by rw [ht]; simp) (by rw [ht]; simp) (by rw [ht]; simp) (by rw [ht]; simp) (hst' c N w' _ hI.cls (hF (by rw [ht]; simp)) (hR c))
    | late =>
      have hst' := hst
      unfold StepAt at hst'
      rw [ht] at hst'
      obtain ⟨hgd, -, hchain⟩ := hOK.t ht
      have hmi : m = lates (T.tags.take i) := by
        have h1 : ¬ lates (T.tags.take i) < m := fun h => ready_not hi ((hI.late i hin ht).2 h)
        have h2 : ¬ m < lates (T.tags.take i) := fun h => by
          obtain ⟨j, q1, q2, q3⟩ := lates_at T.tags i (by omega) m h
          have := (hI.late j (by omega) q2).1 (by
            have hr := hchain j (by omega) q2 q1
            refine hD'.reach 4 i j ((upB_set hiL).2 (.inl rfl)) hr |> (upB_set hiL).1 |>.resolve_left (by omega))
          omega
        omega
      subst hmi
      have hv : T.valOf c i = T.nth i := by unfold Sched.valOf; rw [ht]
      refine wpOp_step ho fun K hK => ?_
      rw [if_pos (by unfold Region.wanted; rw [hgd])]
      refine wp_noPanic (hst' c N w' _ hI.cls (hF (by rw [ht]; simp)) (hR c)) ?_
      rintro a'' w'' ⟨rfl, h1, h2⟩
      refine hK _ _ ⟨hsz', hD', c, N, _, hput _ hv.symm, hI.stay hiL (by rw [ht]; simp) (by rw [ht]; simp) (by rw [ht]; simp) hE hgt h1 h2 ?_ ?_⟩
      · have := lates_lt T.tags (i := i) (j := T.tags.length) (by omega) ht (by omega)
        rw [List.take_length] at this
        omega
      · intro j hj htj
        rw [upB_set hiL, hI.late j hj htj]
        rcases Nat.lt_trichotomy j i with h | h | h
        · have := lates_lt T.tags (i := j) (j := i) (by omega) htj h
          exact ⟨fun _ => by omega, fun _ => .inr this⟩
        · subst h; exact ⟨fun _ => by omega, fun _ => .inl rfl⟩
        · have := lates_lt T.tags (i := i) (j := j) (by omega) ht h
          exact ⟨fun e => by omega, fun e => by omega⟩
    | new =>
      have hst' := hst
      unfold StepAt at hst'
      rw [ht] at hst'
      obtain ⟨ty, hrun⟩ := hst' m c N w' _ hI.le hI.cls (hR c)
      refine wpOp_step ho fun K hK => ?_
      rw [if_pos (by unfold Region.wanted; rw [hOK.n ht])]
      unfold Oper.wp
      rw [hrun]
      show K ((frameL ops T a L c).put o.dst (T.form i w'.heap.size)) (w'.alloc (.cells (T.xs0 i).toArray ty))
      obtain ⟨c', hc'⟩ : ∃ c' : Nat → Gh, c' = fun k => if k = i then ⟨w'.heap.size, undef⟩ else c k := ⟨_, rfl⟩
      have hci : (c' i).p = w'.heap.size := by rw [hc']; simp
      have hck : ∀ k, k ≠ i → c' k = c k := fun k hk => by rw [hc']; exact if_neg hk
      have hfr : frameL ops T a L c = frameL ops T a L c' := frameL_congr fun j hj => by
        have : j ≠ i := fun e => by subst e; exact ready_not hi hj
        unfold Sched.valOf
        split
        · rw [hck j this]
        · rw [hck j this]
        · next k hk =>
          have hkj : k ≠ i := fun e => by
            subst e
            obtain ⟨oj, hoj⟩ : ∃ oj, ops[j]? = some oj := ⟨_, Array.getElem?_eq_getElem (hlt j (by rw [hk]; simp))⟩
            exact ready_not hi (hD j k hj ((hok j oj hoj).a k hk).2.1)
          rw [hck k hkj]
        · rfl
      have hv : T.form i w'.heap.size = T.valOf c' i := by unfold Sched.valOf; rw [ht]; simp only [hci]
      have hsize : (w'.alloc (.cells (T.xs0 i).toArray ty)).heap.size = w'.heap.size + 1 := by simp
      have hblk : ∀ b, b < w'.heap.size → (w'.alloc (.cells (T.xs0 i).toArray ty)).heap[b]? = w'.heap[b]? := fun b hb => by
        show (w'.heap.push _)[b]? = _
        rw [Array.getElem?_push_lt hb]
        exact (Array.getElem?_eq_getElem hb).symm
      have hne : w'.heap[w'.heap.size]? = none := by simp
      have hnew : (w'.alloc (.cells (T.xs0 i).toArray ty)).heap[w'.heap.size]? = some (.cells (T.xs0 i).toArray ty) := by
        show (w'.heap.push _)[w'.heap.size]? = _
        rw [Array.getElem?_push_size]
      have back : ∀ k, upB (L.setIfInBounds i true) k → k ≠ i → upB L k := fun k hu hne => ((upB_set hiL).1 hu).resolve_left hne
      refine hK _ _ ⟨hsz', hD', c', fun b => N b ∨ b = w'.heap.size, m, ?_, hA m N w' _ hI.cls, hI.le, fun j hj htj => ?_, fun k hk hu => ?_, fun k k' hk hk' hu hu' hne => ?_, fun k hk hu => ?_⟩
      rotate_right
      · have hki : k ≠ i := fun e => by subst e; rw [ht] at hk; cases hk
        rw [hck k hki]
        exact hE k _ _ _ hk (hI.ghosts k hk (back k hu hki)) ((RowKit.Below.refl _ _).alloc (Nat.le_refl _) _)
      · rw [hfr, hv]
        exact frameL_put hiL ho fun s hs => (hOK.d s hs).1
      · rw [← hI.late j hj htj, upB_set hiL]
        exact ⟨fun h => h.resolve_left (fun e => by subst e; rw [ht] at htj; cases htj), .inr⟩
      · by_cases e : k = i
        · subst e
          rw [hci, hsize]
          have hnone : ∀ j, T.tag j = .put k → ¬ upB (L.setIfInBounds k true) j := fun j hj hu' => by
            rcases (upB_set hiL).1 hu' with e' | e'
            · subst e'; rw [ht] at hj; cases hj
            · obtain ⟨oj, hoj⟩ : ∃ oj, ops[j]? = some oj := ⟨_, Array.getElem?_eq_getElem (hlt j (by rw [hj]; simp))⟩
              exact ready_not hi (hD j k e' ((hok j oj hoj).p k hj).2.1)
          refine ⟨.inr rfl, by omega, fun j hj => ?_, fun _ j v hv => ?_, fun j hj hu' => absurd hu' (hnone j hj)⟩
          · unfold World.cell? World.frozen?
            simp only [hnew, Nat.zero_add]
            simp [hj]
          · unfold World.cell?
            simp only [hnew, Nat.zero_add]
            simpa using hv
        · obtain ⟨n1, n2, n3, n4, n5⟩ := hI.news k hk (back k hu e)
          rw [hck k e]
          refine ⟨.inl n1, by omega, there_of_block n3 (hblk _ n2), fun hj => range_of_block (n4 fun j hj' hu' => hj j hj' ((upB_set hiL).2 (.inr hu'))) (hblk _ n2), fun j hj hu' => range_of_block (n5 j hj ?_) (hblk _ n2)⟩
          exact back j hu' fun e' => by subst e'; rw [ht] at hj; cases hj
      · by_cases e : k = i
        · subst e
          have e' : k' ≠ k := fun e' => hne e'.symm
          rw [hci, hck k' e']
          have := (hI.news k' hk' (back k' hu' e')).2.1
          omega
        · by_cases e' : k' = i
          · subst e'
            rw [hci, hck k e]
            have := (hI.news k hk (back k hu e)).2.1
            omega
          · rw [hck k e, hck k' e']
            exact hI.apart k k' hk hk' (back k hu e) (back k' hu' e') hne
    | ghost =>
      have hst' := hst
      unfold StepAt at hst'
      rw [ht] at hst'
      refine wpOp_step ho fun K hK => ?_
      rw [if_pos (by unfold Region.wanted; rw [hOK.h ht])]
      refine wp_noPanic (hst' m c N w' _ hI.le hI.cls (hF (by rw [ht]; simp)) (hR c)) ?_
      rintro a'' w'' ⟨⟨v, rfl, hEv⟩, hcl, hb⟩
      obtain ⟨c', hc'⟩ : ∃ c' : Nat → Gh, c' = fun k => if k = i then ⟨0, v⟩ else c k := ⟨_, rfl⟩
      have hci : c' i = ⟨0, v⟩ := by rw [hc']; exact if_pos rfl
      have hck : ∀ k, k ≠ i → c' k = c k := fun k hk => by rw [hc']; exact if_neg hk
      have hfr : frameL ops T a L c = frameL ops T a L c' := frameL_congr fun j hj => by
        have : j ≠ i := fun e => by subst e; exact ready_not hi hj
        unfold Sched.valOf
        rw [hck j this]
        split
        · rfl
        · rfl
        · next k hk =>
          have hkj : k ≠ i := fun e => by
            subst e
            obtain ⟨oj, hoj⟩ : ∃ oj, ops[j]? = some oj := ⟨_, Array.getElem?_eq_getElem (hlt j (by rw [hk]; simp))⟩
            exact ready_not hi (hD j k hj ((hok j oj hoj).a k hk).2.1)
          rw [hck k hkj]
        · rfl
      have hv : v = T.valOf c' i := by unfold Sched.valOf; rw [ht]; simp only [hci]
      have back : ∀ k, upB (L.setIfInBounds i true) k → k ≠ i → upB L k := fun k hu hne => ((upB_set hiL).1 hu).resolve_left hne
      have hni : ∀ k, T.tag k = .new → k ≠ i := fun k hk e => by subst e; rw [ht] at hk; cases hk
      have hnp : ∀ j k, T.tag j = .put k → j ≠ i := fun j k hk e => by subst e; rw [ht] at hk; cases hk
      refine hK _ _ ⟨hsz', hD', c', N, m, ?_, hcl, hI.le, fun j hj htj => ?_, fun k hk hu => ?_, fun k k' hk hk' hu hu' hne => ?_, fun k hk hu => ?_⟩
      · rw [hfr, hv]
        exact frameL_put hiL ho fun s hs => (hOK.d s hs).1
      · rw [← hI.late j hj htj, upB_set hiL]
        exact ⟨fun h => h.resolve_left (fun e => by subst e; rw [ht] at htj; cases htj), .inr⟩
      · obtain ⟨n1, n2, n3, n4, n5⟩ := hI.news k hk (back k hu (hni k hk))
        rw [hck k (hni k hk)]
        have he := hb.block _ n2
        exact ⟨n1, Nat.lt_of_lt_of_le n2 hb.size, there_of_block n3 he, fun hj => range_of_block (n4 fun j hj' hu' => hj j hj' ((upB_set hiL).2 (.inr hu'))) he, fun j hj hu' => range_of_block (n5 j hj (back j hu' (hnp j k hj))) he⟩
      · rw [hck k (hni k hk), hck k' (hni k' hk')]
        exact hI.apart k k' hk hk' (back k hu (hni k hk)) (back k' hu' (hni k' hk')) hne
      · by_cases e : k = i
        · subst e
          rw [hci]
          exact hEv
        · rw [hck k e]
          exact hE k _ _ _ hk (hI.ghosts k hk (back k hu e)) hb
    | alias k0 =>
      have hst' := hst
      unfold StepAt at hst'
      rw [ht] at hst'
      refine wpOp_step ho fun K hK => ?_
      rw [if_pos (by unfold Region.wanted; rw [(hOK.a k0 ht).1])]
      refine wp_of_quietAt (Cl := fun _ => False) (v := T.valOf c i) ?_ fun w'' hw'' => ?_
      · unfold Oper.quietAt
        rw [hst' c w' _ (hR c)]
        exact ⟨rfl, rfl⟩
      · have hw : w'' = w' := hw''.elim (fun h => h) (fun h => h.elim)
        subst hw
        refine hK _ _ ⟨hsz', hD', c, N, m, hput _ rfl, hI.stay hiL (by rw [ht]; simp) (by rw [ht]; simp) (by rw [ht]; simp) hE hgt hI.cls ⟨fun _ _ _ => rfl, Nat.le_refl _, fun _ => RowKit.Below.refl _ _⟩ hI.le fun j hj htj => ?_⟩
        rw [← hI.late j hj htj, upB_set hiL]
        exact ⟨fun h => h.resolve_left (fun e => by subst e; rw [ht] at htj; cases htj), .inr⟩
    | put k =>
      have hst' := hst
      unfold StepAt at hst'
      rw [ht] at hst'
      obtain ⟨p1, p2, p3, p4, p5⟩ := hOK.p k ht
      have hku := ready_edge hi p2
      obtain ⟨n1, n2, n3, n4, n5⟩ := hI.news k p1 hku
      rw [hlen i k ht] at n3
      refine wpOp_step ho fun K hK => ?_
      rw [if_pos (by unfold Region.wanted; rw [p4])]
      refine wp_noPanic (hst' c w' _ n3 (hR c)) ?_
      rintro a'' w'' ⟨rfl, rfl⟩
      have hfr : frameL ops T a L c = frameL ops T a (L.setIfInBounds i true) c := by
        have := frameL_put (T := T) (a := a) (c := c) hiL ho fun s hs => (hOK.d s hs).1
        rw [p3] at this
        exact this
      have hssz : ∀ (vs : List Value) (o' : Nat) (x : World), (x.setCells (c k).p o' vs).heap.size = x.heap.size := by
        intro vs
        induction vs with
        | nil => intro o' x; rfl
        | cons v vs ih => intro o' x; rw [World.setCells, ih]; simp [World.setCell]
      have back : ∀ x, T.tag x = .new → upB (L.setIfInBounds i true) x → upB L x := fun x hx hu => ((upB_set hiL).1 hu).resolve_left fun e => by subst e; rw [ht] at hx; cases hx
      refine hK _ _ ⟨hsz', hD', c, N, m, hfr, hP m N w' _ _ hI.cls n1, hI.le, fun j hj htj => ?_, fun x hx hu => ?_, fun x x' hx hx' hu hu' hne => hI.apart x x' hx hx' (back x hx hu) (back x' hx' hu') hne, fun x hx hu => absurd ht ((hgno (hgt x hx) i).1 k)⟩
      · rw [← hI.late j hj htj, upB_set hiL]
        exact ⟨fun h => h.resolve_left (fun e => by subst e; rw [ht] at htj; cases htj), .inr⟩
      · obtain ⟨m1, m2, m3, m4, m5⟩ := hI.news x hx (back x hx hu)
        rw [hssz]
        refine ⟨m1, m2, World.there_setCells m3 _ _ _, fun hj => ?_, fun j hj hu' => ?_⟩
        · have hxk : x ≠ k := fun e => by subst e; exact hj i ht ((upB_set hiL).2 (.inl rfl))
          exact World.rangeAt_setCells_apart (m4 fun j hj' hu' => hj j hj' ((upB_set hiL).2 (.inr hu'))) _ _ _ (.inl (hI.apart x k hx p1 (back x hx hu) hku hxk))
        · by_cases hxk : x = k
          · subst hxk
            exact World.rangeAt_setCells_same _ _ _ _ n3
          · have hji : j ≠ i := fun e => by
              subst e
              have : T.tag j = .put k := ht
              rw [hj] at this
              injection this with this
              exact hxk this
            exact World.rangeAt_setCells_apart (m5 j hj (((upB_set hiL).1 hu').resolve_left hji)) _ _ _ (.inl (hI.apart x k hx p1 (back x hx hu) hku hxk))
end
end Go.Proofs.Ytchjjbklkmfelaa
