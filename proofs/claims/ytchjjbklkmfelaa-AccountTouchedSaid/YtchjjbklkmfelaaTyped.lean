/- Whether cells are of their kinds, by reckoning. -/
import Derived.Test.YtchjjbklkmfelaaFlat
namespace Go.Proofs.Ytchjjbklkmfelaa
set_option linter.unusedVariables false

def typedB : List (Option IntKind) → List Value → Bool
  | [], [] => true
  | some k :: ks, .int k' n :: vs => decide (k' = k) && (Lit.int k n).wf && typedB ks vs
  | none :: ks, .bool _ :: vs => typedB ks vs
  | _, _ => false
theorem typed_of_B : ∀ (ks : List (Option IntKind)) (vs : List Value), typedB ks vs = true → Typed ks vs := by
  intro ks vs
  induction ks, vs using typedB.induct with
  | case1 => intro _; exact rfl
  | case2 k ks k' n vs ih =>
    intro h
    unfold typedB at h
    simp only [Bool.and_eq_true, decide_eq_true_eq] at h
    obtain ⟨⟨rfl, h1⟩, h2⟩ := h
    exact ⟨_, _, rfl, ⟨n, rfl, h1⟩, ih h2⟩
  | case3 ks b vs ih =>
    intro h
    unfold typedB at h
    exact ⟨_, _, rfl, ⟨b, rfl⟩, ih h⟩
  | case4 ks vs h1 h2 h3 =>
    intro h
    unfold typedB at h
    split at h
    · exact absurd rfl (h1 rfl)
    · exact absurd rfl (h2 _ _ _ _ _ rfl)
    · exact absurd rfl (h3 _ _ _ rfl)
    · cases h
end Go.Proofs.Ytchjjbklkmfelaa
