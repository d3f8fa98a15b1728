/- The law on such regions. -/
import Derived.Test.YtchjjbklkmfelaaPlan
namespace Go.Proofs.Ytchjjbklkmfelaa
set_option linter.unusedVariables false
set_option linter.unusedSimpArgs false

theorem lates_snoc (tags : List Tag) (i : Nat) (h : i < tags.length) : lates (tags.take (i + 1)) = lates (tags.take i) + if tags.getD i .main = .late then 1 else 0 := by
  unfold lates
  rw [List.take_succ_eq_append_getElem h, List.countP_append, List.getD_eq_getElem?_getD, List.getElem?_eq_getElem h]
  by_cases e : tags[i] = Tag.late
  · simp [e]
  · simp [e]
theorem lates_mono (tags : List Tag) {i j : Nat} (h : i ≤ j) : lates (tags.take i) ≤ lates (tags.take j) := by
  unfold lates
  rw [show tags.take i = (tags.take j).take i by rw [List.take_take, Nat.min_eq_left h]]
  exact List.Sublist.countP_le (List.take_sublist _ _)
theorem lates_lt (tags : List Tag) {i j : Nat} (hi : i < tags.length) (ht : tags.getD i .main = .late) (h : i < j) : lates (tags.take i) < lates (tags.take j) := by
  have h1 := lates_snoc tags i hi
  rw [if_pos ht] at h1
  have h2 := lates_mono tags (show i + 1 ≤ j by omega)
  omega
theorem lates_at (tags : List Tag) : ∀ (i : Nat), i ≤ tags.length → ∀ k, k < lates (tags.take i) → ∃ j, j < i ∧ tags.getD j .main = .late ∧ lates (tags.take j) = k
  | 0, _, k, hk => by simp [lates] at hk
  | i + 1, hi, k, hk => by
    have h1 := lates_snoc tags i (by omega)
    by_cases ht : tags.getD i .main = .late
    · rw [if_pos ht] at h1
      by_cases e : k = lates (tags.take i)
      · exact ⟨i, by omega, ht, e.symm⟩
      · obtain ⟨j, h2, h3, h4⟩ := lates_at tags i (by omega) k (by omega)
        exact ⟨j, by omega, h3, h4⟩
    · rw [if_neg ht] at h1
      obtain ⟨j, h2, h3, h4⟩ := lates_at tags i (by omega) k (by omega)
      exact ⟨j, by omega, h3, h4⟩

theorem range_of_block {w w' : World} {b o : Nat} {cs : List Value} (h : w.rangeAt b o cs) (he : w'.heap[b]? = w.heap[b]?) : w'.rangeAt b o cs := fun j v hv => by
  rw [← h j v hv]
  unfold World.cell?
  simp only [he]
theorem there_of_block {w w' : World} {b o n : Nat} (h : w.there b o n) (he : w'.heap[b]? = w.heap[b]?) : w'.there b o n := fun j hj => by
  have := h j hj
  unfold World.cell? World.frozen? at *
  simp only [he]
  exact this

section
variable {P : Program} {ops : Array Oper} {a : Act} {T : Sched} {C : Nat → (Nat → Prop) → World → Prop}

def upB (L : Array Bool) (k : Nat) : Prop := L.getD k false = true
theorem upB_set {L : Array Bool} {i k : Nat} (hi : i < L.size) : upB (L.setIfInBounds i true) k ↔ k = i ∨ upB L k := by
  unfold upB
  simp only [Array.getD_eq_getD_getElem?, Array.getElem?_setIfInBounds]
  by_cases e : i = k
  · subst e; simp [hi]
  · rw [if_neg e]
    constructor
    · exact .inr
    · rintro (h | h)
      · exact absurd h.symm e
      · exact h
def Down (ops : Array Oper) (L : Array Bool) : Prop := ∀ i j, upB L i → edge ops i j = true → upB L j
theorem Down.reach {L : Array Bool} (h : Down ops L) : ∀ (n i j : Nat), upB L i → reach ops n i j = true → upB L j
  | 0, _, _, _, h1 => by cases h1
  | n + 1, i, j, hi, h1 => by
    unfold Go.Proofs.Ytchjjbklkmfelaa.reach at h1
    rw [Bool.or_eq_true, List.any_eq_true] at h1
    rcases h1 with h1 | ⟨k, -, h2⟩
    · exact h i j hi h1
    · rw [Bool.and_eq_true] at h2
      exact Down.reach h n k j (h i k hi h2.1) h2.2

def frameL (ops : Array Oper) (T : Sched) (a : Act) (L : Array Bool) (c : Nat → Gh) : Act := { a with tmps := a.tmps.mapIdx fun t v => match wr ops t with | some j => if L.getD j false then T.valOf c j else v | none => v }

theorem wr_spec {t j : Nat} (h : wr ops t = some j) : j < ops.size ∧ ∃ o, ops[j]? = some o ∧ o.dst = some t := by
  unfold wr at h
  have h1 := List.find?_some h
  have h2 := List.mem_of_find?_eq_some h
  have h3 := List.mem_range.1 h2
  refine ⟨h3, ops[j], Array.getElem?_eq_getElem h3, ?_⟩
  rw [Array.getElem?_eq_getElem h3] at h1
  simpa using h1

theorem frameL_eval (L : Array Bool) (c : Nat → Gh) (t : Nat) : (frameL ops T a L c).eval (.tmp t) = match wr ops t with | some j => if L.getD j false ∧ t < a.tmps.size then T.valOf c j else a.eval (.tmp t) | none => a.eval (.tmp t) := by
  unfold frameL Act.eval
  simp only [Array.getD_eq_getD_getElem?, Array.getElem?_mapIdx]
  by_cases ht : t < a.tmps.size
  · rw [Array.getElem?_eq_getElem ht]
    cases wr ops t with
    | none => rfl
    | some j => by_cases hL : L.getD j false = true <;> simp [hL, ht]
  · rw [Array.getElem?_eq_none (by omega)]
    cases wr ops t with
    | none => rfl
    | some j => simp [ht]

/-- The frame, a value put. -/
theorem frameL_put {L : Array Bool} {c : Nat → Gh} {i : Nat} {o : Oper} (hi : i < L.size) (ho : ops[i]? = some o) (hd : ∀ s, o.dst = some s → wr ops s = some i) :
    (frameL ops T a L c).put o.dst (T.valOf c i) = frameL ops T a (L.setIfInBounds i true) c := by
  have key : ∀ j, (L.setIfInBounds i true).getD j false = if j = i then true else L.getD j false := fun j => by
    simp only [Array.getD_eq_getD_getElem?, Array.getElem?_setIfInBounds]
    by_cases e : i = j
    · subst e; simp [hi]
    · rw [if_neg e, if_neg (fun h => e h.symm)]
  unfold frameL Act.put
  cases hdo : o.dst with
  | none =>
    simp only [Act.mk.injEq, and_true]
    apply Array.ext
    · simp
    · intro t h1 h2
      simp only [Array.getElem_mapIdx]
      cases hw : wr ops t with
      | none => rfl
      | some j =>
        simp only [key]
        have : j ≠ i := fun e => by
          subst e
          obtain ⟨-, o', h3, h4⟩ := wr_spec hw
          rw [ho] at h3
          cases h3
          rw [hdo] at h4
          cases h4
        rw [if_neg this]
  | some s =>
    have hs := hd s hdo
    simp only [Act.mk.injEq, and_true]
    apply Array.ext
    · simp
    · intro t h1 h2
      rw [Array.getElem_setIfInBounds (by simpa using h1)]
      simp only [Array.getElem_mapIdx]
      by_cases e : s = t
      · subst e
        rw [if_pos rfl, hs]
        simp only [key, if_pos]
      · rw [if_neg e]
        cases hw : wr ops t with
        | none => rfl
        | some j =>
          simp only [key]
          have : j ≠ i := fun e' => by
            subst e'
            obtain ⟨-, o', h3, h4⟩ := wr_spec hw
            rw [ho] at h3
            cases h3
            rw [hdo] at h4
            cases h4
            exact e rfl
          rw [if_neg this]
theorem frameL_congr {L : Array Bool} {c c' : Nat → Gh} (h : ∀ j, upB L j → T.valOf c j = T.valOf c' j) : frameL ops T a L c = frameL ops T a L c' := by
  unfold frameL
  simp only [Act.mk.injEq, and_true]
  apply Array.ext
  · simp
  · intro t h1 h2
    simp only [Array.getElem_mapIdx]
    cases wr ops t with
    | none => rfl
    | some j =>
      by_cases hL : L.getD j false = true
      · simp only [hL, if_true]; exact h j hL
      · simp [hL]
theorem frameL_start (n : Nat) (c : Nat → Gh) : frameL ops T a (Array.replicate n false) c = a := by
  unfold frameL
  have : (a.tmps.mapIdx fun t v => match wr ops t with | some j => if (Array.replicate n false).getD j false then T.valOf c j else v | none => v) = a.tmps := by
    apply Array.ext
    · simp
    · intro t h1 h2
      simp only [Array.getElem_mapIdx]
      cases wr ops t with
      | none => rfl
      | some j =>
        have : (Array.replicate n false).getD j false = false := by
          simp only [Array.getD_eq_getD_getElem?, Array.getElem?_replicate]
          split <;> rfl
        simp only [this]
        rfl
  rw [this]

theorem wp_of_quietAt {o : Oper} {A : Act} {Cl : World → Prop} {w : World} {v : Value} {K : Act → World → Prop} {Q : Exit → Act → World → Prop} (h : o.quietAt P A Cl w v) (hK : ∀ w', (w' = w ∨ Cl w') → K (A.put o.dst v) w') : o.wp P A w K Q := by
  unfold Oper.quietAt at h
  unfold Oper.wp
  generalize (execOp A.eval o).run P w = r at *
  cases r with
  | ok n w' =>
    cases n <;> simp only [Oper.quietUpon] at h <;> simp only [Oper.upon]
    case value u =>
      obtain ⟨e1, e2⟩ := h
      rw [e1, e2]
      exact hK _ (.inl rfl)
    case skip =>
      obtain ⟨e1, e2⟩ := h
      rw [e1, ← e2]
      exact hK _ (.inl rfl)
    case enter f args =>
      obtain ⟨e1, hc⟩ := h
      rw [e1]
      exact hc.mono fun e w'' ⟨he, hw''⟩ => by subst he; exact hK _ (.inr hw'')
  | halt x w' => simp only [Oper.quietUpon] at h
theorem wp_noPanic {o : Oper} {A : Act} {w : World} {K K' : Act → World → Prop} {Q : Exit → Act → World → Prop} (h : o.wp P A w K (fun _ _ _ => False)) (hK : ∀ a w, K a w → K' a w) : o.wp P A w K' Q := by
  unfold Oper.wp at *
  generalize (execOp A.eval o).run P w = r at *
  cases r with
  | ok n w' =>
    cases n <;> simp only [Oper.upon] at h ⊢
    case enter f args =>
      refine h.mono fun e w'' he => ?_
      cases e with
      | returned v => exact hK _ _ he
      | panicked c => exact he.elim
      | outgrown => obtain ⟨_, _, h⟩ := he; exact h.elim
    case row row args => exact h.mono fun v w'' he => hK _ _ he
    all_goals first | exact hK _ _ h | exact h.elim
  | halt x w' => cases x <;> simp only [Oper.upon] at h ⊢

/-- What holds at whatever place of whatever order. -/
structure Inv6 (ops : Array Oper) (T : Sched) (C : Nat → (Nat → Prop) → World → Prop) (L : Array Bool) (c : Nat → Gh) (N : Nat → Prop) (m : Nat) (w : World) : Prop where
  cls : C m N w
  le : m ≤ lates T.tags
  late : ∀ i, i < ops.size → T.tag i = .late → (upB L i ↔ lates (T.tags.take i) < m)
  news : ∀ k, T.tag k = .new → upB L k → N (c k).p ∧ (c k).p < w.heap.size ∧ w.there (c k).p 0 (T.xs0 k).length ∧ ((∀ j, T.tag j = .put k → ¬ upB L j) → w.rangeAt (c k).p 0 (T.xs0 k)) ∧ (∀ j, T.tag j = .put k → upB L j → w.rangeAt (c k).p 0 (T.xs1 k))
  apart : ∀ k k', T.tag k = .new → T.tag k' = .new → upB L k → upB L k' → k ≠ k' → (c k).p ≠ (c k').p
  ghosts : ∀ k, T.tag k = .ghost → upB L k → T.E k (c k).v w

/-- A step that leaves the fresh blocks as they are. -/
theorem Inv6.stay {L : Array Bool} {c : Nat → Gh} {N : Nat → Prop} {m m' : Nat} {w w' : World} {i : Nat} (h : Inv6 ops T C L c N m w) (hi : i < L.size) (hn : T.tag i ≠ .new) (hgh : T.tag i ≠ .ghost) (hp : ∀ k, T.tag i ≠ .put k) (hE : ∀ k v w w', T.tag k = .ghost → T.E k v w → RowKit.Below w.heap.size w w' → T.E k v w') (hgt : ∀ k, T.tag k = .ghost → ghosty T.tags = true) (hc : C m' N w') (hs : Stays T N w w') (hle : m' ≤ lates T.tags)
    (hl : ∀ j, j < ops.size → T.tag j = .late → (upB (L.setIfInBounds i true) j ↔ lates (T.tags.take j) < m')) : Inv6 ops T C (L.setIfInBounds i true) c N m' w' := by
  have back : ∀ k, T.tag k = .new → upB (L.setIfInBounds i true) k → upB L k := fun k hk hu => by
    rcases (upB_set hi).1 hu with e | e
    · subst e; exact absurd hk hn
    · exact e
  refine ⟨hc, hle, hl, fun k hk hu => ?_, fun k k' hk hk' hu hu' hne => h.apart k k' hk hk' (back k hk hu) (back k' hk' hu') hne, fun k hk hu => ?_⟩
  rotate_left
  · refine hE k _ _ _ hk (h.ghosts k hk ?_) (hs.2.2 (hgt k hk))
    rcases (upB_set hi).1 hu with e | e
    · subst e; exact absurd hk hgh
    · exact e
  obtain ⟨h1, h2, h3, h4, h5⟩ := h.news k hk (back k hk hu)
  have he := hs.1 (c k).p h1 h2
  refine ⟨h1, Nat.lt_of_lt_of_le h2 hs.2.1, there_of_block h3 he, fun hj => range_of_block (h4 fun j hj' hu' => hj j hj' ((upB_set hi).2 (.inr hu'))) he, fun j hj hu' => range_of_block (h5 j hj ?_) he⟩
  rcases (upB_set hi).1 hu' with e | e
  · subst e; exact absurd hj (hp k)
  · exact e
end
end Go.Proofs.Ytchjjbklkmfelaa
