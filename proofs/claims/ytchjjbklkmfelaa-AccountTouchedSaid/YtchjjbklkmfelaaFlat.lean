/- What lies in the cells of a value of whole numbers and truth values alone, nested however. -/
import Derived.Test.YtchjjbklkmfelaaBase
import Derived.OpenShut
import Derived.Deep.MidRow
namespace Go.Proofs.Ytchjjbklkmfelaa
set_option linter.unusedVariables false

/-- The kinds of a type's cells: 'some k': a whole number; 'none': a truth value. -/
def flatFs (P : Program) (g : TypeId → Option (List (Option IntKind))) : List Field → Nat → Option (List (Option IntKind))
  | [], _ => some []
  | f :: fs, off => if f.offset = off then (g f.type).bind fun l => if P.cellsOf f.type = l.length then (flatFs P g fs (off + l.length)).map (l ++ ·) else none else none
def flatK (P : Program) : Nat → TypeId → Option (List (Option IntKind))
  | 0, _ => none
  | n + 1, t => match P.underlying t with
    | some (.int k) => some [some k]
    | some .bool => some [none]
    | some (.array m e) => (flatK P n e).bind fun l => if P.cellsOf e = l.length ∧ P.cellsOf t = m * l.length then some ((List.replicate m l).flatten) else none
    | some (.struct fs) => (flatFs P (flatK P n) fs.toList 0).bind fun l => if P.cellsOf t = l.length then some l else none
    | _ => none

/-- A cell's value of its kind. -/
def Typed1 : Option IntKind → Value → Prop
  | some k, v => ∃ n, v = .int k n ∧ (Lit.int k n).wf = true
  | none, v => ∃ b, v = .bool b
def Typed : List (Option IntKind) → List Value → Prop
  | [], cs => cs = []
  | k :: ks, cs => ∃ v vs, cs = v :: vs ∧ Typed1 k v ∧ Typed ks vs

theorem Typed.append {l l' : List (Option IntKind)} {c c' : List Value} (h : Typed l c) (h' : Typed l' c') : Typed (l ++ l') (c ++ c') := by
  induction l generalizing c with
  | nil => cases h; exact h'
  | cons k ks ih =>
    obtain ⟨v, vs, rfl, h1, h2⟩ := h
    exact ⟨v, vs ++ c', rfl, h1, ih h2⟩
theorem Typed.length {l : List (Option IntKind)} {c : List Value} (h : Typed l c) : c.length = l.length := by
  induction l generalizing c with
  | nil => cases h; rfl
  | cons k ks ih =>
    obtain ⟨v, vs, rfl, h1, h2⟩ := h
    simp [ih h2]
theorem Typed.one {l : List (Option IntKind)} {c : List Value} (h : Typed l c) : ∀ v ∈ c, v.oneCell' = true := by
  induction l generalizing c with
  | nil => cases h; simp
  | cons k ks ih =>
    obtain ⟨v, vs, rfl, h1, h2⟩ := h
    intro u hu
    rcases List.mem_cons.1 hu with rfl | hu
    · cases k with
      | none => obtain ⟨b, rfl⟩ := h1; rfl
      | some k => obtain ⟨b, rfl, -⟩ := h1; rfl
    · exact ih h2 u hu

theorem Typed.drop {l : List (Option IntKind)} {c : List Value} (h : Typed l c) : ∀ a, Typed (l.drop a) (c.drop a) := by
  induction l generalizing c with
  | nil => intro a; cases h; simp; exact rfl
  | cons k ks ih =>
    obtain ⟨v, vs, rfl, h1, h2⟩ := h
    intro a
    cases a with
    | zero => exact ⟨v, vs, rfl, h1, h2⟩
    | succ a => exact ih h2 a
theorem Typed.take {l : List (Option IntKind)} {c : List Value} (h : Typed l c) : ∀ a, Typed (l.take a) (c.take a) := by
  induction l generalizing c with
  | nil => intro a; cases h; simp; exact rfl
  | cons k ks ih =>
    obtain ⟨v, vs, rfl, h1, h2⟩ := h
    intro a
    cases a with
    | zero => exact rfl
    | succ a => exact ⟨v, vs.take a, rfl, h1, ih h2 a⟩
theorem Typed.part {l m : List (Option IntKind)} {c : List Value} (h : Typed l c) (a n : Nat) (hl : a + n ≤ c.length) (hm : (l.drop a).take n = m) : Typed m ((c.drop a).take n) := by
  rw [← hm]
  exact (h.drop a).take n

theorem chunks {l : List (Option IntKind)} {cs : List Value} : ∀ (m : Nat), cs.length = m * l.length → (∀ i, i < m → Typed l ((cs.drop (i * l.length)).take l.length)) → Typed ((List.replicate m l).flatten) cs
  | 0, hl, _ => by
    have : cs = [] := List.eq_nil_of_length_eq_zero (by simpa using hl)
    subst this
    exact rfl
  | m + 1, hl, h => by
    rw [Nat.add_mul, Nat.one_mul] at hl
    rw [List.replicate_succ, List.flatten_cons, ← List.take_append_drop l.length cs]
    refine Typed.append ?_ ?_
    · have := h 0 (by omega)
      rwa [Nat.zero_mul, List.drop_zero] at this
    · refine chunks m (by rw [List.length_drop]; omega) fun i hi => ?_
      have := h (i + 1) (by omega)
      rwa [Nat.add_mul, Nat.one_mul, Nat.add_comm, ← List.drop_drop] at this

section
variable {H : Type} {enc : TypeId × Value → H} {P : Program} {w : World} {base : Nat} {spare : Nat → Bool} {held : Bool}

theorem flatFs_typed {g : TypeId → Option (List (Option IntKind))} {cs : List Value} : ∀ (fs : List Field) (off : Nat) (l : List (Option IntKind)), flatFs P g fs off = some l →
    (∀ f ∈ fs, ∀ l, g f.type = some l → Typed l ((cs.drop f.offset).take (P.cellsOf f.type))) → off + l.length = cs.length → Typed l (cs.drop off)
  | [], off, l, h, _, hl => by
    cases h
    have : cs.drop off = [] := List.drop_eq_nil_of_le (by simp at hl; omega)
    rw [this]
    exact rfl
  | f :: fs, off, l, h, hf, hl => by
    unfold flatFs at h
    split at h
    · next ho =>
      subst ho
      obtain ⟨l1, h1, h2⟩ := Option.bind_eq_some_iff.1 h
      split at h2
      · next hc =>
        obtain ⟨l2, h3, rfl⟩ := Option.map_eq_some_iff.1 h2
        have t1 := hf f (by simp) l1 h1
        rw [hc] at t1
        rw [← List.take_append_drop l1.length (cs.drop f.offset)]
        refine Typed.append t1 ?_
        rw [List.drop_drop]
        exact flatFs_typed fs _ l2 h3 (fun f' hf' => hf f' (by simp [hf'])) (by rw [List.length_append] at hl; omega)
      · cases h2
    · cases h

theorem trod_flat : ∀ (n fuel : Nat) (t : TypeId) (l : List (Option IntKind)) (cs : List Value) (x : DataW H × List MemPlace), flatK P n t = some l → DataW.trod enc P w base spare held fuel t cs = some x → Typed l cs
  | 0, _, _, _, _, _, h, _ => by cases h
  | n + 1, fuel, t, l, cs, x, h, hx => by
    unfold flatK at h
    split at h
    · next k hu =>
      cases h
      obtain ⟨m, rfl, rfl, hw⟩ := DataW.trod_int hu hx
      exact ⟨_, [], rfl, ⟨m, rfl, hw⟩, rfl⟩
    · next hu =>
      cases h
      obtain ⟨b, rfl, rfl⟩ := DataW.trod_bool hu hx
      exact ⟨_, [], rfl, ⟨b, rfl⟩, rfl⟩
    · next m e hu =>
      obtain ⟨l1, h1, h2⟩ := Option.bind_eq_some_iff.1 h
      split at h2
      · next hc =>
        cases h2
        obtain ⟨xs, k, rfl, rfl, hl, hxs, he⟩ := DataW.trod_array hu hx
        rw [hc.1] at he
        refine chunks m (by rw [hl, hc.2]) fun i hi => ?_
        have := he i hi
        rw [List.getElem?_eq_getElem (by omega)] at this
        exact trod_flat n k e l1 _ _ h1 this
      · cases h2
    · next fs hu =>
      obtain ⟨l1, h1, h2⟩ := Option.bind_eq_some_iff.1 h
      split at h2
      · next hc =>
        cases h2
        obtain ⟨xs, k, rfl, rfl, hl, hxs, he⟩ := DataW.trod_struct hu hx
        have := flatFs_typed (P := P) (g := flatK P n) (cs := cs) fs.toList 0 l h1 (fun f hf l' hl' => by
          obtain ⟨i, hi, e⟩ := List.mem_iff_getElem.1 hf
          have hi' : i < fs.size := by simpa using hi
          have hfi : fs[i]? = some f := by rw [Array.getElem?_eq_getElem hi']; simpa using e
          have h3 := he i f hfi
          rw [List.getElem?_eq_getElem (by omega)] at h3
          exact trod_flat n k f.type l' _ _ hl' h3) (by rw [Nat.zero_add, hl, hc])
        rwa [List.drop_zero] at this
      · cases h2
    · cases h
end
end Go.Proofs.Ytchjjbklkmfelaa
