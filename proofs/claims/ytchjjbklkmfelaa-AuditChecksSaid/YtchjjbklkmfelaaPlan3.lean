/- The law on such regions, whole. -/
import Derived.Test.YtchjjbklkmfelaaPlan2
namespace Go.Proofs.Ytchjjbklkmfelaa
set_option linter.unusedVariables false
set_option linter.unusedSimpArgs false
section
variable {P : Program} {ops : Array Oper} {a : Act} {T : Sched} {C : Nat → (Nat → Prop) → World → Prop}

structure SchedOk (ops : Array Oper) (tags : List Tag) (nt i : Nat) (o : Oper) : Prop where
  d : ∀ s, o.dst = some s → wr ops s = some i ∧ s < nt
  f : ∀ e ∈ o.after, Region.binds .any e = true → e.on < i
  l : ∀ t ∈ o.looksAt ops, ∀ j, wr ops t = some j → j = i ∨ edge ops i j = true ∨ reach ops 3 j i = true
  g : ∀ g want, o.guard = some (g, want) → edge ops i g = true ∧ ∃ s, (ops[g]?).bind (·.dst) = some s
  p : ∀ k, tags.getD i .main = .put k → tags.getD k .main = .new ∧ edge ops i k = true ∧ o.dst = none ∧ o.guard = none ∧ ∀ j, j < ops.size → tags.getD j .main = .put k → j = i
  t : tags.getD i .main = .late → o.guard = none ∧ (∀ j, j < ops.size → tags.getD j .main = .early → reach ops 4 i j = true) ∧ (∀ j, j < ops.size → tags.getD j .main = .late → j < i → reach ops 4 i j = true)
  n : tags.getD i .main = .new → o.guard = none
  h : tags.getD i .main = .ghost → o.guard = none
  a : ∀ k, tags.getD i .main = .alias k → o.guard = none ∧ edge ops i k = true ∧ (tags.getD k .main = .new ∨ tags.getD k .main = .ghost)
  k : (∀ k, tags.getD i .main ≠ .put k) → ∀ k, k < ops.size → tags.getD k .main = .new → uses ops i k = true → ∀ j, j < ops.size → tags.getD j .main ≠ .put k

theorem schedB_spec {tags : List Tag} {nt : Nat} (h : schedB ops tags nt = true) : tags.length = ops.size ∧ Region.noSelect ops = true ∧ (ghosty tags = true → ∀ i, (∀ k, tags.getD i .main ≠ .put k) ∧ tags.getD i .main ≠ .late) ∧ ∀ i o, ops[i]? = some o → SchedOk ops tags nt i o := by
  unfold schedB at h
  simp only [Bool.and_eq_true, beq_iff_eq] at h
  obtain ⟨⟨⟨h1, h2⟩, hgh⟩, h3⟩ := h
  refine ⟨h1, h2, fun hg i => ?_, fun i o ho => ?_⟩
  · rw [hg] at hgh
    simp only [Bool.not_true, Bool.false_or] at hgh
    rw [List.getD_eq_getElem?_getD]
    cases he : tags[i]? with
    | none => simp
    | some x =>
      have := List.all_eq_true.1 hgh x (List.mem_of_getElem? he)
      simp only [Option.getD_some]
      cases x <;> simp_all
  have hi : i < ops.size := (Array.getElem?_eq_some_iff.1 ho).1
  have h4 := List.all_eq_true.1 h3 i (List.mem_range.2 hi)
  rw [ho] at h4
  simp only [Bool.and_eq_true] at h4
  obtain ⟨⟨⟨⟨⟨a1, a2⟩, a3⟩, a4⟩, a5⟩, a6⟩ := h4
  refine ⟨fun s hs => ?_, fun e he hb => ?_, fun t ht j hj => ?_, fun g want hg => ?_, fun k hk => ?_, fun hk => ?_, fun hk => ?_, fun hk => ?_, fun k hk => ?_, fun hnp k hk ht he j hj hp => ?_⟩
  · rw [hs] at a1
    simpa using a1
  · have := (Array.all_eq_true_iff_forall_mem.1 a2) e he
    rw [hb] at this
    simpa using this
  · have := List.all_eq_true.1 a3 t ht
    rw [hj] at this
    simpa [or_assoc] using this
  · rw [hg] at a4
    simp only [Bool.and_eq_true] at a4
    refine ⟨a4.1, ?_⟩
    have := a4.2
    cases hb : (ops[g]?).bind (·.dst) with
    | none => rw [hb] at this; cases this
    | some s => exact ⟨s, rfl⟩
  · rw [hk] at a5
    simp only [Bool.and_eq_true, beq_iff_eq, Option.isNone_iff_eq_none] at a5
    obtain ⟨⟨⟨⟨b1, b2⟩, b3⟩, b4⟩, b5⟩ := a5
    refine ⟨b1, b2, by simpa using b3, by simpa using b4, fun j hj hp => ?_⟩
    have := List.all_eq_true.1 b5 j (List.mem_range.2 hj)
    rw [hp] at this
    simpa using this
  · rw [hk] at a5
    simp only [Bool.and_eq_true, beq_iff_eq] at a5
    obtain ⟨⟨b1, b2⟩, b3⟩ := a5
    refine ⟨by simpa using b1, fun j hj hp => ?_, fun j hj hp hlt => ?_⟩
    · have := List.all_eq_true.1 b2 j (List.mem_range.2 hj)
      rw [hp] at this
      simpa using this
    · have := List.all_eq_true.1 b3 j (List.mem_range.2 hj)
      rw [hp] at this
      simp at this
      rcases this with (h | h) | h
      · omega
      · exact h.2
      · omega
  · rw [hk] at a5
    simp only [Bool.and_eq_true, beq_iff_eq] at a5
    simpa using a5.1
  · rw [hk] at a5
    simp only [Bool.and_eq_true, beq_iff_eq] at a5
    simpa using a5.1
  · rw [hk] at a5
    simp only [Bool.and_eq_true, Bool.or_eq_true, beq_iff_eq] at a5
    exact ⟨by simpa using a5.1.1, a5.1.2, a5.2⟩
  · have h5 : ((List.range ops.size).all fun k => !(tags.getD k .main == .new && uses ops i k) || (List.range ops.size).all fun j => !(tags.getD j .main == .put k)) = true := by
      cases ht : tags.getD i .main with
      | put k => exact absurd ht (hnp k)
      | main => rw [ht] at a6; exact a6
      | early => rw [ht] at a6; exact a6
      | late => rw [ht] at a6; exact a6
      | new => rw [ht] at a6; exact a6
      | ghost => rw [ht] at a6; exact a6
      | alias k => rw [ht] at a6; exact a6
    have := List.all_eq_true.1 h5 k (List.mem_range.2 hk)
    rw [ht, he] at this
    simp only [beq_self_eq_true, Bool.and_true, Bool.not_true, Bool.false_or] at this
    have := List.all_eq_true.1 this j (List.mem_range.2 hj)
    rw [hp] at this
    simp at this

theorem edge_spec {i j : Nat} (h : edge ops i j = true) : ∃ o, ops[i]? = some o ∧ ∃ e ∈ o.after, Region.binds .any e = true ∧ e.on = j := by
  unfold edge at h
  cases ho : ops[i]? with
  | none => rw [ho] at h; cases h
  | some o =>
    rw [ho] at h
    obtain ⟨e, he, hb⟩ := List.any_eq_true.1 h
    simp only [Bool.and_eq_true, beq_iff_eq] at hb
    exact ⟨o, rfl, e, Array.mem_toList_iff.1 he, hb.1, hb.2⟩
theorem edge_mk {i j : Nat} {o : Oper} (ho : ops[i]? = some o) {e : Edge} (he : e ∈ o.after) (hb : Region.binds .any e = true) (hj : e.on = j) : edge ops i j = true := by
  unfold edge
  rw [ho]
  refine List.any_eq_true.2 ⟨e, Array.mem_toList_iff.2 he, ?_⟩
  simp [hb, hj]
theorem ready_edge {L : Array Bool} {i j : Nat} (h : i ∈ Region.ready .any ops L) (he : edge ops i j = true) : upB L j := by
  obtain ⟨o, ho, e, h1, h2, h3⟩ := edge_spec he
  obtain ⟨-, -, o', ho', h'⟩ := ready_spec h
  rw [ho] at ho'
  cases ho'
  rw [← h3]
  exact h' e h1 h2
theorem ready_not {L : Array Bool} {i : Nat} (h : i ∈ Region.ready .any ops L) : ¬ upB L i := by
  obtain ⟨-, h1, -⟩ := ready_spec h
  intro h2
  unfold upB at h2
  simp only [Array.getD_eq_getD_getElem?] at h1 h2
  cases h3 : L[i]? with
  | none => rw [h3] at h2; cases h2
  | some b => rw [h3] at h1 h2; simp only [Option.getD_some] at h1 h2; rw [h1] at h2; cases h2

theorem reads_ready {tags : List Tag} (hok : ∀ i o, ops[i]? = some o → SchedOk ops tags a.tmps.size i o) {L : Array Bool} (hD : Down ops L) {i : Nat} (hi : i ∈ Region.ready .any ops L) (c : Nat → Gh) {o : Oper} (ho : ops[i]? = some o) :
    ∀ ts : List Nat, (∀ t ∈ ts, t ∈ o.looksAt ops) → ReadsAs ops T a c i (frameL ops T a L c) ts
  | [], _ => trivial
  | t :: r, h => by
    refine ⟨?_, reads_ready hok hD hi c ho r fun t' h' => h t' (List.mem_cons_of_mem _ h')⟩
    have hl := (hok i o ho).l t (h t (List.mem_cons_self ..))
    rw [frameL_eval]
    unfold readVal
    cases hw : wr ops t with
    | none => rfl
    | some j =>
      simp only
      obtain ⟨hj, oj, hoj, hdj⟩ := wr_spec hw
      have hts := ((hok j oj hoj).d t hdj).2
      by_cases he : edge ops i j = true
      · have hu : L.getD j false = true := ready_edge hi he
        rw [if_pos he, if_pos ⟨hu, hts⟩]
      · rw [if_neg he, if_neg]
        rintro ⟨hu, -⟩
        rcases hl j hw with e | e | e
        · subst e; exact ready_not hi hu
        · exact he e
        · exact ready_not hi (hD.reach 3 j i hu e)

theorem guard_reads {A : Act} {g s : Nat} {b : Bool} (hs : (ops[g]?).bind (·.dst) = some s) (h : A.eval (.tmp s) = .bool b) : yielded ops A.tmps g = some b := by
  unfold yielded
  rw [hs]
  unfold Act.eval at h
  simp only [Array.getD_eq_getD_getElem?] at h
  cases hq : A.tmps[s]? with
  | none => rw [hq] at h; simp [undef] at h
  | some v =>
    rw [hq] at h
    simp only [Option.getD_some] at h
    subst h
    simp [hq]

theorem putsAll_frame (hok : ∀ i o, ops[i]? = some o → ∀ s, o.dst = some s → wr ops s = some i) (c : Nat → Gh) : ∀ (l : List Oper) (i : Nat) (L : Array Bool), (∀ j, l[j]? = ops[i + j]?) → L.size = ops.size → i + l.length = ops.size →
    ∃ L' : Array Bool, putsAll T c l i (frameL ops T a L c) = frameL ops T a L' c ∧ ∀ j, upB L' j ↔ (upB L j ∨ (i ≤ j ∧ j < ops.size))
  | [], i, L, _, _, hl => ⟨L, rfl, fun j => ⟨.inl, fun h => h.elim id fun h => by simp at hl; omega⟩⟩
  | o :: r, i, L, h, hs, hl => by
    simp only [List.length_cons] at hl
    have ho : ops[i]? = some o := by simpa using (h 0).symm
    have hput := frameL_put (T := T) (a := a) (c := c) (show i < L.size by omega) ho (hok i o ho)
    obtain ⟨L', h1, h2⟩ := putsAll_frame hok c r (i + 1) (L.setIfInBounds i true) (fun j => by have := h (j + 1); simpa [Nat.add_assoc, Nat.add_comm 1 j] using this) (by simpa using hs) (by omega)
    refine ⟨L', ?_, fun j => ?_⟩
    · show putsAll T c r (i + 1) ((frameL ops T a L c).put o.dst (T.valOf c i)) = _
      rw [hput, h1]
    · rw [h2, upB_set (by omega)]
      constructor
      · rintro ((e | e) | e)
        · exact .inr ⟨by omega, by omega⟩
        · exact .inl e
        · exact .inr ⟨by omega, e.2⟩
      · rintro (e | e)
        · exact .inl (.inr e)
        · by_cases e' : j = i
          · exact .inl (.inl e')
          · exact .inr ⟨by omega, e.2⟩

theorem all_upB {L : Array Bool} (hf : ∀ i o, ops[i]? = some o → ∀ e ∈ o.after, Region.binds .any e = true → e.on < i) (hs : L.size = ops.size) (hr : Region.ready .any ops L = []) : ∀ n i, i < n → i < ops.size → upB L i
  | 0, i, h, _ => by omega
  | n + 1, i, h, hi => by
    by_cases hu : upB L i
    · exact hu
    exfalso
    have hL : L.getD i true = false := by
      unfold upB at hu
      simp only [Array.getD_eq_getD_getElem?] at hu ⊢
      rw [Array.getElem?_eq_getElem (by omega)] at hu ⊢
      simpa using hu
    have hmem : i ∈ Region.ready .any ops L := by
      unfold Region.ready
      refine List.mem_filter.2 ⟨List.mem_range.2 hi, ?_⟩
      rw [hL]
      rw [Array.getElem?_eq_getElem hi]
      simp only [Bool.not_false, Bool.true_and, Option.map_some, Option.getD_some, Array.all_eq_true_iff_forall_mem]
      intro e he
      cases hb : Region.binds .any e with
      | false => rfl
      | true =>
        have h3 : e.on < i := hf i _ (Array.getElem?_eq_getElem hi) e he hb
        have h4 := all_upB hf hs hr n e.on (by omega) (by omega)
        simpa [upB] using h4
    rw [hr] at hmem
    cases hmem

theorem Steps.at {l : List Oper} : ∀ {i j : Nat} {o : Oper}, Steps ops P T a C l i → l[j]? = some o → StepAt ops P T a C (i + j) o := by
  induction l with
  | nil => intro i j o _ h; simp at h
  | cons x r ih =>
    intro i j o h hj
    cases j with
    | zero => simp at hj; subst hj; exact h.1
    | succ j =>
      have := ih h.2 (by simpa using hj)
      rwa [Nat.add_assoc, Nat.add_comm 1 j] at this

theorem region_plan {id : Nat} {w : World} {Q : Exit → Act → World → Prop} (hm : P.follows .mixedOrders = true) (T : Sched) (C : Nat → (Nat → Prop) → World → Prop) (hB : schedB ops T.tags a.tmps.size = true)
    (hlen : ∀ i k, T.tag i = .put k → (T.xs0 k).length = (T.xs1 k).length)
    (hA : ∀ m N w o, C m N w → C m (fun b => N b ∨ b = w.heap.size) (w.alloc o)) (hP : ∀ m N w p xs, C m N w → N p → C m N (w.setCells p 0 xs))
    (hE : ∀ k v w w', T.tag k = .ghost → T.E k v w → RowKit.Below w.heap.size w w' → T.E k v w')
    (h0 : C 0 (fun _ => False) w.drew) (hs : Steps ops P T a C ops.toList 0)
    (hend : ∀ c N w', C (lates T.tags) N w' → (∀ k, T.tag k = .new → N (c k).p ∧ (c k).p < w'.heap.size ∧ w'.there (c k).p 0 (T.xs0 k).length ∧ ((∀ j, T.tag j ≠ .put k) → w'.rangeAt (c k).p 0 (T.xs0 k)) ∧ (∀ j, T.tag j = .put k → w'.rangeAt (c k).p 0 (T.xs1 k))) →
      (∀ k k', T.tag k = .new → T.tag k' = .new → k ≠ k' → (c k).p ≠ (c k').p) → (∀ k, T.tag k = .ghost → T.E k (c k).v w') → Q .normal (putsAll T c ops.toList 0 a) w') : (Code.region id ops true).wp P Q a w := by
  obtain ⟨htl, hsel, hgno, hok⟩ := schedB_spec hB
  have hgt : ∀ k, T.tag k = .ghost → ghosty T.tags = true := fun k hk => by
    unfold Sched.tag at hk
    rw [List.getD_eq_getElem?_getD] at hk
    cases he : T.tags[k]? with
    | none => rw [he] at hk; cases hk
    | some x =>
      rw [he] at hk
      simp only [Option.getD_some] at hk
      subst hk
      exact List.any_eq_true.2 ⟨_, List.mem_of_getElem? he, by simp⟩
  have hlt : ∀ k, T.tag k ≠ .main → k < ops.size := fun k hk => by
    rcases Nat.lt_or_ge k ops.size with h | h
    · exact h
    · exact absurd (by unfold Sched.tag; rw [List.getD_eq_getElem?_getD, List.getElem?_eq_none (by omega)]; rfl) hk
  refine region_inv hm (fun L a' w' => L.size = ops.size ∧ Down ops L ∧ ∃ c N m, a' = frameL ops T a L c ∧ Inv6 ops T C L c N m w') ?_ ?_ ?_
  · have hno : ∀ j, ¬ upB (Array.replicate ops.size false) j := fun j hj => by
      unfold upB at hj
      simp only [Array.getD_eq_getD_getElem?, Array.getElem?_replicate] at hj
      split at hj <;> cases hj
    exact ⟨by simp, fun i j h => absurd h (hno i), fun _ => ⟨0, undef⟩, fun _ => False, 0, (frameL_start _ _).symm, h0, Nat.zero_le _, fun i hi ht => ⟨fun h => absurd h (hno i), fun h => by omega⟩, fun k _ h => absurd h (hno k), fun k k' _ _ h => absurd h (hno k), fun k _ h => absurd h (hno k)⟩
  · rintro L a' w' ⟨hsz, hD, c, N, m, rfl, hI⟩ hr
    have hall := fun i hi => all_upB (fun i o ho => (hok i o ho).f) hsz hr ops.size i hi hi
    have hmM : m = lates T.tags := by
      rcases Nat.lt_or_ge m (lates T.tags) with h | h
      · obtain ⟨j, h1, h2, h3⟩ := lates_at T.tags T.tags.length (Nat.le_refl _) m (by rw [List.take_length]; exact h)
        have := (hI.late j (by omega) h2).1 (hall j (by omega))
        omega
      · exact Nat.le_antisymm hI.le h
    subst hmM
    obtain ⟨L', e1, e2⟩ := putsAll_frame (T := T) (a := a) (fun i o ho s hs => ((hok i o ho).d s hs).1) c ops.toList 0 (Array.replicate ops.size false) (by simp) (by simp) (by simp)
    rw [frameL_start] at e1
    have e3 : frameL ops T a L c = frameL ops T a L' c := by
      unfold frameL
      simp only [Act.mk.injEq, and_true]
      apply Array.ext
      · simp
      · intro t h1 h2
        simp only [Array.getElem_mapIdx]
        cases hw : wr ops t with
        | none => rfl
        | some j =>
          have hj := (wr_spec hw).1
          have u1 : L.getD j false = true := hall j hj
          have u2 : L'.getD j false = true := (e2 j).2 (.inr ⟨Nat.zero_le _, hj⟩)
          simp only [u1, u2]
    rw [e3, ← e1]
    refine hend c N w' hI.cls (fun k hk => ?_) (fun k k' hk hk' hne => hI.apart k k' hk hk' (hall k (hlt k (by rw [hk]; simp))) (hall k' (hlt k' (by rw [hk']; simp))) hne) (fun k hk => hI.ghosts k hk (hall k (hlt k (by rw [hk]; simp))))
    obtain ⟨n1, n2, n3, n4, n5⟩ := hI.news k hk (hall k (hlt k (by rw [hk]; simp)))
    exact ⟨n1, n2, n3, fun h => n4 fun j hj => absurd hj (h j), fun j hj => n5 j hj (hall j (hlt j (by rw [hj]; simp)))⟩
  · rintro L a' w' i ⟨hsz, hD, c, N, m, rfl, hI⟩ hi
    obtain ⟨hin, -, o, ho, -⟩ := ready_spec hi
    have hiL : i < L.size := by omega
    have hOK := hok i o ho
    have hst : StepAt ops P T a C i o := by
      have := Steps.at (i := 0) (j := i) hs (by simpa using ho)
      rwa [Nat.zero_add] at this
    have hD' : Down ops (L.setIfInBounds i true) := fun x y hx he => by
      rcases (upB_set hiL).1 hx with e | e
      · subst e; exact (upB_set hiL).2 (.inr (ready_edge hi he))
      · exact (upB_set hiL).2 (.inr (hD x y e he))
    have hsz' : (L.setIfInBounds i true).size = ops.size := by simpa using hsz
    have hR := fun c => reads_ready (T := T) hok hD hi c ho (o.looksAt ops) (fun t h => h)
    have hF : (∀ k, T.tag i ≠ .put k) → Facts ops T c N w' i := fun hnp k he => by
      have he' : edge ops i k = true := by unfold uses at he; rw [Bool.and_eq_true] at he; exact he.1
      refine ⟨fun hk => ?_, fun hk => hI.ghosts k hk (ready_edge hi he')⟩
      obtain ⟨n1, n2, n3, n4, n5⟩ := hI.news k hk (ready_edge hi he')
      exact ⟨n1, n2, n4 fun j hj => absurd hj (hOK.k hnp k (hlt k (by rw [hk]; simp)) hk he j (hlt j (by rw [hj]; simp)))⟩
    have hput : ∀ v, v = T.valOf c i → (frameL ops T a L c).put o.dst v = frameL ops T a (L.setIfInBounds i true) c := fun v hv => by
      subst hv
      exact frameL_put hiL ho fun s hs => (hOK.d s hs).1
    -- one that yields a value
    have mainly : T.tag i ≠ .new → T.tag i ≠ .ghost → (∀ k, T.tag i ≠ .alias k) → (∀ k, T.tag i ≠ .put k) → T.tag i ≠ .late → Guarded o (T.valOf c) (o.quietAt P (frameL ops T a L c) (fun w'' => C m N w'' ∧ Stays T N w' w'') w' (T.nth i)) (T.nth i) →
        wpOp P ops Q i (fun a'' w'' => (L.setIfInBounds i true).size = ops.size ∧ Down ops (L.setIfInBounds i true) ∧ ∃ c N m, a'' = frameL ops T a (L.setIfInBounds i true) c ∧ Inv6 ops T C (L.setIfInBounds i true) c N m w'') (frameL ops T a L c) w' := fun t1 t0 t00 t2 t3 hg => by
      have hv : T.valOf c i = T.nth i := by
        unfold Sched.valOf
        split
        · exact absurd (by assumption) t1
        · exact absurd (by assumption) t0
        · exact absurd (by assumption) (t00 _)
        · rfl
      have hl : ∀ j, j < ops.size → T.tag j = .late → (upB (L.setIfInBounds i true) j ↔ lates (T.tags.take j) < m) := fun j hj ht => by
        rw [← hI.late j hj ht, upB_set hiL]
        exact ⟨fun h => h.resolve_left fun e => by subst e; exact t3 ht, .inr⟩
      have fin : ∀ w'', (w'' = w' ∨ (C m N w'' ∧ Stays T N w' w'')) → Inv6 ops T C (L.setIfInBounds i true) c N m w'' := fun w'' h => by
        rcases h with rfl | ⟨h1, h2⟩
        · exact hI.stay hiL t1 t0 t2 hE hgt hI.cls ⟨fun _ _ _ => rfl, Nat.le_refl _, fun _ => RowKit.Below.refl _ _⟩ hI.le hl
        · exact hI.stay hiL t1 t0 t2 hE hgt h1 h2 hI.le hl
      refine wpOp_step ho fun K hK => ?_
      have go : o.quietAt P (frameL ops T a L c) (fun w'' => C m N w'' ∧ Stays T N w' w'') w' (T.nth i) → o.wp P (frameL ops T a L c) w' K Q := fun hq =>
        wp_of_quietAt hq fun w'' hw'' => hK _ _ ⟨hsz', hD', c, N, m, hput _ hv.symm, fin w'' hw''⟩
      unfold Guarded at hg
      cases hgd : o.guard with
      | none =>
        rw [hgd] at hg
        rw [if_pos (by unfold Region.wanted; rw [hgd])]
        exact go hg
      | some gw =>
        obtain ⟨g, want⟩ := gw
        rw [hgd] at hg
        obtain ⟨ge, s, hs'⟩ := hOK.g g want hgd
        have hsl : s ∈ o.looksAt ops := by
          unfold Oper.looksAt
          rw [hgd]
          exact List.mem_append_right _ (by simp [hs'])
        have hev : (frameL ops T a L c).eval (.tmp s) = T.valOf c g := by
          obtain ⟨og, hog, hdg⟩ := Option.bind_eq_some_iff.1 hs'
          have hw := ((hok g og hog).d s hdg)
          rw [frameL_eval, hw.1]
          exact if_pos ⟨ready_edge hi ge, hw.2⟩
        rcases hg with ⟨g1, g2⟩ | ⟨g1, g2⟩
        · rw [g1] at hev
          rw [if_pos (by unfold Region.wanted; rw [hgd]; simp [guard_reads hs' hev])]
          exact go g2
        · rw [g1] at hev
          rw [if_neg (by unfold Region.wanted; rw [hgd]; simp [guard_reads hs' hev])]
          exact hK _ _ ⟨hsz', hD', c, N, m, hput _ (by rw [hv, g2]), fin w' (.inl rfl)⟩
    cases ht : T.tag i with
    | main =>
      have hst' := hst
      unfold StepAt at hst'
      rw [ht] at hst'
      exact mainly (by rw [ht]; simp) (by rw [ht]; simp) (by rw [ht]; simp) (by rw [ht]; simp) (by rw [ht]; simp) (hst' m c N w' _ hI.le hI.cls (hF (by rw [ht]; simp)) (hR c))
    | early =>
      have hm0 : m = 0 := by
        rcases Nat.eq_zero_or_pos m with h | h
        · exact h
        · exfalso
          obtain ⟨j, h1, h2, h3⟩ := lates_at T.tags T.tags.length (Nat.le_refl _) 0 (by rw [List.take_length]; have := hI.le; omega)
          have hju := (hI.late j (by omega) h2).2 (by omega)
          obtain ⟨oj, hoj⟩ : ∃ oj, ops[j]? = some oj := ⟨_, Array.getElem?_eq_getElem (by omega)⟩
          exact ready_not hi (hD.reach 4 j i hju (((hok j oj hoj).t h2).2.1 i hin ht))
      subst hm0
      have hst' := hst
      unfold StepAt at hst'
      rw [ht] at hst'
      exact mainly (by rw [ht]; simp) (by rw [ht]; simp) (by rw [ht]; simp) (by rw [ht]; simp) (by rw [ht]; simp) (hst' c N w' _ hI.cls (hF (by rw [ht]; simp)) (hR c))
    | late =>
      have hst' := hst
      unfold StepAt at hst'
      rw [ht] at hst'
      obtain ⟨hgd, -, hchain⟩ := hOK.t ht
      have hmi : m = lates (T.tags.take i) := by
        have h1 : ¬ lates (T.tags.take i) < m := fun h => ready_not hi ((hI.late i hin ht).2 h)
        have h2 : ¬ m < lates (T.tags.take i) := fun h => by
          obtain ⟨j, q1, q2, q3⟩ := lates_at T.tags i (by omega) m h
          have := (hI.late j (by omega) q2).1 (by
            have hr := hchain j (by omega) q2 q1
            refine hD'.reach 4 i j ((upB_set hiL).2 (.inl rfl)) hr |> (upB_set hiL).1 |>.resolve_left (by omega))
          omega
        omega
      subst hmi
      have hv : T.valOf c i = T.nth i := by unfold Sched.valOf; rw [ht]
      refine wpOp_step ho fun K hK => ?_
      rw [if_pos (by unfold Region.wanted; rw [hgd])]
      refine wp_noPanic (hst' c N w' _ hI.cls (hF (by rw [ht]; simp)) (hR c)) ?_
      rintro a'' w'' ⟨rfl, h1, h2⟩
      refine hK _ _ ⟨hsz', hD', c, N, _, hput _ hv.symm, hI.stay hiL (by rw [ht]; simp) (by rw [ht]; simp) (by rw [ht]; simp) hE hgt h1 h2 ?_ ?_⟩
      · have := lates_lt T.tags (i := i) (j := T.tags.length) (by omega) ht (by omega)
        rw [List.take_length] at this
        omega
      · intro j hj htj
        rw [upB_set hiL, hI.late j hj htj]
        rcases Nat.lt_trichotomy j i with h | h | h
        · have := lates_lt T.tags (i := j) (j := i) (by omega) htj h
          exact ⟨fun _ => by omega, fun _ => .inr this⟩
        · subst h; exact ⟨fun _ => by omega, fun _ => .inl rfl⟩
        · have := lates_lt T.tags (i := i) (j := j) (by omega) ht h
          exact ⟨fun e => by omega, fun e => by omega⟩
    | new =>
      have hst' := hst
      unfold StepAt at hst'
      rw [ht] at hst'
      obtain ⟨ty, hrun⟩ := hst' m c N w' _ hI.le hI.cls (hR c)
      refine wpOp_step ho fun K hK => ?_
      rw [if_pos (by unfold Region.wanted; rw [hOK.n ht])]
      unfold Oper.wp
      rw [hrun]
      show K ((frameL ops T a L c).put o.dst (T.form i w'.heap.size)) (w'.alloc (.cells (T.xs0 i).toArray ty))
      obtain ⟨c', hc'⟩ : ∃ c' : Nat → Gh, c' = fun k => if k = i then ⟨w'.heap.size, undef⟩ else c k := ⟨_, rfl⟩
      have hci : (c' i).p = w'.heap.size := by rw [hc']; simp
      have hck : ∀ k, k ≠ i → c' k = c k := fun k hk => by rw [hc']; exact if_neg hk
      have hfr : frameL ops T a L c = frameL ops T a L c' := frameL_congr fun j hj => by
        have : j ≠ i := fun e => by subst e; exact ready_not hi hj
        unfold Sched.valOf
        split
        · rw [hck j this]
        · rw [hck j this]
        · next k hk =>
          have hkj : k ≠ i := fun e => by
            subst e
            obtain ⟨oj, hoj⟩ : ∃ oj, ops[j]? = some oj := ⟨_, Array.getElem?_eq_getElem (hlt j (by rw [hk]; simp))⟩
            exact ready_not hi (hD j k hj ((hok j oj hoj).a k hk).2.1)
          rw [hck k hkj]
        · rfl
      have hv : T.form i w'.heap.size = T.valOf c' i := by unfold Sched.valOf; rw [ht]; simp only [hci]
      have hsize : (w'.alloc (.cells (T.xs0 i).toArray ty)).heap.size = w'.heap.size + 1 := by simp
      have hblk : ∀ b, b < w'.heap.size → (w'.alloc (.cells (T.xs0 i).toArray ty)).heap[b]? = w'.heap[b]? := fun b hb => by
        show (w'.heap.push _)[b]? = _
        rw [Array.getElem?_push_lt hb]
        exact (Array.getElem?_eq_getElem hb).symm
      have hne : w'.heap[w'.heap.size]? = none := by simp
      have hnew : (w'.alloc (.cells (T.xs0 i).toArray ty)).heap[w'.heap.size]? = some (.cells (T.xs0 i).toArray ty) := by
        show (w'.heap.push _)[w'.heap.size]? = _
        rw [Array.getElem?_push_size]
      have back : ∀ k, upB (L.setIfInBounds i true) k → k ≠ i → upB L k := fun k hu hne => ((upB_set hiL).1 hu).resolve_left hne
      refine hK _ _ ⟨hsz', hD', c', fun b => N b ∨ b = w'.heap.size, m, ?_, hA m N w' _ hI.cls, hI.le, fun j hj htj => ?_, fun k hk hu => ?_, fun k k' hk hk' hu hu' hne => ?_, fun k hk hu => ?_⟩
      rotate_right
      · have hki : k ≠ i := fun e => by subst e; rw [ht] at hk; cases hk
        rw [hck k hki]
        exact hE k _ _ _ hk (hI.ghosts k hk (back k hu hki)) ((RowKit.Below.refl _ _).alloc (Nat.le_refl _) _)
      · rw [hfr, hv]
        exact frameL_put hiL ho fun s hs => (hOK.d s hs).1
      · rw [← hI.late j hj htj, upB_set hiL]
        exact ⟨fun h => h.resolve_left (fun e => by subst e; rw [ht] at htj; cases htj), .inr⟩
      · by_cases e : k = i
        · subst e
          rw [hci, hsize]
          have hnone : ∀ j, T.tag j = .put k → ¬ upB (L.setIfInBounds k true) j := fun j hj hu' => by
            rcases (upB_set hiL).1 hu' with e' | e'
            · subst e'; rw [ht] at hj; cases hj
            · obtain ⟨oj, hoj⟩ : ∃ oj, ops[j]? = some oj := ⟨_, Array.getElem?_eq_getElem (hlt j (by rw [hj]; simp))⟩
              exact ready_not hi (hD j k e' ((hok j oj hoj).p k hj).2.1)
          refine ⟨.inr rfl, by omega, fun j hj => ?_, fun _ j v hv => ?_, fun j hj hu' => absurd hu' (hnone j hj)⟩
          · unfold World.cell? World.frozen?
            simp only [hnew, Nat.zero_add]
            simp [hj]
          · unfold World.cell?
            simp only [hnew, Nat.zero_add]
            simpa using hv
        · obtain ⟨n1, n2, n3, n4, n5⟩ := hI.news k hk (back k hu e)
          rw [hck k e]
          refine ⟨.inl n1, by omega, there_of_block n3 (hblk _ n2), fun hj => range_of_block (n4 fun j hj' hu' => hj j hj' ((upB_set hiL).2 (.inr hu'))) (hblk _ n2), fun j hj hu' => range_of_block (n5 j hj ?_) (hblk _ n2)⟩
          exact back j hu' fun e' => by subst e'; rw [ht] at hj; cases hj
      · by_cases e : k = i
        · subst e
          have e' : k' ≠ k := fun e' => hne e'.symm
          rw [hci, hck k' e']
          have := (hI.news k' hk' (back k' hu' e')).2.1
          omega
        · by_cases e' : k' = i
          · subst e'
            rw [hci, hck k e]
            have := (hI.news k hk (back k hu e)).2.1
            omega
          · rw [hck k e, hck k' e']
            exact hI.apart k k' hk hk' (back k hu e) (back k' hu' e') hne
    | ghost =>
      have hst' := hst
      unfold StepAt at hst'
      rw [ht] at hst'
      refine wpOp_step ho fun K hK => ?_
      rw [if_pos (by unfold Region.wanted; rw [hOK.h ht])]
      refine wp_noPanic (hst' m c N w' _ hI.le hI.cls (hF (by rw [ht]; simp)) (hR c)) ?_
      rintro a'' w'' ⟨⟨v, rfl, hEv⟩, hcl, hb⟩
      obtain ⟨c', hc'⟩ : ∃ c' : Nat → Gh, c' = fun k => if k = i then ⟨0, v⟩ else c k := ⟨_, rfl⟩
      have hci : c' i = ⟨0, v⟩ := by rw [hc']; exact if_pos rfl
      have hck : ∀ k, k ≠ i → c' k = c k := fun k hk => by rw [hc']; exact if_neg hk
      have hfr : frameL ops T a L c = frameL ops T a L c' := frameL_congr fun j hj => by
        have : j ≠ i := fun e => by subst e; exact ready_not hi hj
        unfold Sched.valOf
        rw [hck j this]
        split
        · rfl
        · rfl
        · next k hk =>
          have hkj : k ≠ i := fun e => by
            subst e
            obtain ⟨oj, hoj⟩ : ∃ oj, ops[j]? = some oj := ⟨_, Array.getElem?_eq_getElem (hlt j (by rw [hk]; simp))⟩
            exact ready_not hi (hD j k hj ((hok j oj hoj).a k hk).2.1)
          rw [hck k hkj]
        · rfl
      have hv : v = T.valOf c' i := by unfold Sched.valOf; rw [ht]; simp only [hci]
      have back : ∀ k, upB (L.setIfInBounds i true) k → k ≠ i → upB L k := fun k hu hne => ((upB_set hiL).1 hu).resolve_left hne
      have hni : ∀ k, T.tag k = .new → k ≠ i := fun k hk e => by subst e; rw [ht] at hk; cases hk
      have hnp : ∀ j k, T.tag j = .put k → j ≠ i := fun j k hk e => by subst e; rw [ht] at hk; cases hk
      refine hK _ _ ⟨hsz', hD', c', N, m, ?_, hcl, hI.le, fun j hj htj => ?_, fun k hk hu => ?_, fun k k' hk hk' hu hu' hne => ?_, fun k hk hu => ?_⟩
      · rw [hfr, hv]
        exact frameL_put hiL ho fun s hs => (hOK.d s hs).1
      · rw [← hI.late j hj htj, upB_set hiL]
        exact ⟨fun h => h.resolve_left (fun e => by subst e; rw [ht] at htj; cases htj), .inr⟩
      · obtain ⟨n1, n2, n3, n4, n5⟩ := hI.news k hk (back k hu (hni k hk))
        rw [hck k (hni k hk)]
        have he := hb.block _ n2
        exact ⟨n1, Nat.lt_of_lt_of_le n2 hb.size, there_of_block n3 he, fun hj => range_of_block (n4 fun j hj' hu' => hj j hj' ((upB_set hiL).2 (.inr hu'))) he, fun j hj hu' => range_of_block (n5 j hj (back j hu' (hnp j k hj))) he⟩
      · rw [hck k (hni k hk), hck k' (hni k' hk')]
        exact hI.apart k k' hk hk' (back k hu (hni k hk)) (back k' hu' (hni k' hk')) hne
      · by_cases e : k = i
        · subst e
          rw [hci]
          exact hEv
        · rw [hck k e]
          exact hE k _ _ _ hk (hI.ghosts k hk (back k hu e)) hb
    | alias k0 =>
      have hst' := hst
      unfold StepAt at hst'
      rw [ht] at hst'
      refine wpOp_step ho fun K hK => ?_
      rw [if_pos (by unfold Region.wanted; rw [(hOK.a k0 ht).1])]
      refine wp_of_quietAt (Cl := fun _ => False) (v := T.valOf c i) ?_ fun w'' hw'' => ?_
      · unfold Oper.quietAt
        rw [hst' c w' _ (hR c)]
        exact ⟨rfl, rfl⟩
      · have hw : w'' = w' := hw''.elim (fun h => h) (fun h => h.elim)
        subst hw
        refine hK _ _ ⟨hsz', hD', c, N, m, hput _ rfl, hI.stay hiL (by rw [ht]; simp) (by rw [ht]; simp) (by rw [ht]; simp) hE hgt hI.cls ⟨fun _ _ _ => rfl, Nat.le_refl _, fun _ => RowKit.Below.refl _ _⟩ hI.le fun j hj htj => ?_⟩
        rw [← hI.late j hj htj, upB_set hiL]
        exact ⟨fun h => h.resolve_left (fun e => by subst e; rw [ht] at htj; cases htj), .inr⟩
    | put k =>
      have hst' := hst
      unfold StepAt at hst'
      rw [ht] at hst'
      obtain ⟨p1, p2, p3, p4, p5⟩ := hOK.p k ht
      have hku := ready_edge hi p2
      obtain ⟨n1, n2, n3, n4, n5⟩ := hI.news k p1 hku
      rw [hlen i k ht] at n3
      refine wpOp_step ho fun K hK => ?_
      rw [if_pos (by unfold Region.wanted; rw [p4])]
      refine wp_noPanic (hst' c w' _ n3 (hR c)) ?_
      rintro a'' w'' ⟨rfl, rfl⟩
      have hfr : frameL ops T a L c = frameL ops T a (L.setIfInBounds i true) c := by
        have := frameL_put (T := T) (a := a) (c := c) hiL ho fun s hs => (hOK.d s hs).1
        rw [p3] at this
        exact this
      have hssz : ∀ (vs : List Value) (o' : Nat) (x : World), (x.setCells (c k).p o' vs).heap.size = x.heap.size := by
        intro vs
        induction vs with
        | nil => intro o' x; rfl
        | cons v vs ih => intro o' x; rw [World.setCells, ih]; simp [World.setCell]
      have back : ∀ x, T.tag x = .new → upB (L.setIfInBounds i true) x → upB L x := fun x hx hu => ((upB_set hiL).1 hu).resolve_left fun e => by subst e; rw [ht] at hx; cases hx
      refine hK _ _ ⟨hsz', hD', c, N, m, hfr, hP m N w' _ _ hI.cls n1, hI.le, fun j hj htj => ?_, fun x hx hu => ?_, fun x x' hx hx' hu hu' hne => hI.apart x x' hx hx' (back x hx hu) (back x' hx' hu') hne, fun x hx hu => absurd ht ((hgno (hgt x hx) i).1 k)⟩
      · rw [← hI.late j hj htj, upB_set hiL]
        exact ⟨fun h => h.resolve_left (fun e => by subst e; rw [ht] at htj; cases htj), .inr⟩
      · obtain ⟨m1, m2, m3, m4, m5⟩ := hI.news x hx (back x hx hu)
        rw [hssz]
        refine ⟨m1, m2, World.there_setCells m3 _ _ _, fun hj => ?_, fun j hj hu' => ?_⟩
        · have hxk : x ≠ k := fun e => by subst e; exact hj i ht ((upB_set hiL).2 (.inl rfl))
          exact World.rangeAt_setCells_apart (m4 fun j hj' hu' => hj j hj' ((upB_set hiL).2 (.inr hu'))) _ _ _ (.inl (hI.apart x k hx p1 (back x hx hu) hku hxk))
        · by_cases hxk : x = k
          · subst hxk
            exact World.rangeAt_setCells_same _ _ _ _ n3
          · have hji : j ≠ i := fun e => by
              subst e
              have : T.tag j = .put k := ht
              rw [hj] at this
              injection this with this
              exact hxk this
            exact World.rangeAt_setCells_apart (m5 j hj (((upB_set hiL).1 hu').resolve_left hji)) _ _ _ (.inl (hI.apart x k hx p1 (back x hx hu) hku hxk))
end
end Go.Proofs.Ytchjjbklkmfelaa
