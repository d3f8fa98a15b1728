/- What holds in a region that takes values, makes variables, and stores the values into them. -/
import Derived.Test.YtchjjbklkmfelaaInv2
import Derived.Test.YtchjjbklkmfelaaRecs
namespace Go.Proofs.Ytchjjbklkmfelaa
open Go.RowKit Go.Lib
set_option linter.unusedVariables false

/-- Values (operation, slot, value), variables (operation, slot, cells), stores (operation, the variable's slot, what is stored). -/
structure Plan where
  vals : List (Nat × Nat × Value)
  vars : List (Nat × Nat × Nat)
  puts : List (Nat × Nat × List Value)
def up (L : Array Bool) (k : Nat) : Prop := L.getD k false = true
theorem up_set {L : Array Bool} {i k : Nat} (h : up (L.setIfInBounds i true) k) (hk : k ≠ i) : up L k := by
  unfold up at *
  simp only [Array.getD_eq_getD_getElem?, Array.getElem?_setIfInBounds] at h ⊢
  rwa [if_neg (fun e => hk e.symm)] at h
theorem up_mono {L : Array Bool} {i k : Nat} (h : up L k) : up (L.setIfInBounds i true) k := by
  unfold up at *
  simp only [Array.getD_eq_getD_getElem?, Array.getElem?_setIfInBounds] at h ⊢
  by_cases e : i = k
  · subst e
    rw [if_pos rfl]
    by_cases hl : i < L.size
    · rw [if_pos hl]; rfl
    · rw [Array.getElem?_eq_none (by omega)] at h; cases h
  · rwa [if_neg e]
/-- What holds. -/
structure Stands (T : Plan) (W0 : World) (L : Array Bool) (V : Nat → Value) (w : World) : Prop where
  below : Below W0.heap.size W0 w
  val : ∀ k s v, (k, s, v) ∈ T.vals → up L k → V s = v
  var : ∀ k s n, (k, s, n) ∈ T.vars → up L k → ∃ p, V s = .pointer (some ⟨p, 0, none⟩) ∧ W0.heap.size ≤ p ∧ p < w.heap.size ∧ w.there p 0 n
  put : ∀ k s x, (k, s, x) ∈ T.puts → up L k → ∃ p, V s = .pointer (some ⟨p, 0, none⟩) ∧ p < w.heap.size ∧ w.rangeAt p 0 x
  dep : ∀ k s x, (k, s, x) ∈ T.puts → up L k → ∃ kv n, (kv, s, n) ∈ T.vars ∧ up L kv
  apart : ∀ k s n k' s' n', (k, s, n) ∈ T.vars → (k', s', n') ∈ T.vars → s ≠ s' → up L k → up L k' → V s ≠ V s'

theorem there_below {w w' : World} {B p n : Nat} (h : w.there p 0 n) (hb : Below B w w') (hp : p < B) : w'.there p 0 n := fun j hj => by
  have e := hb.block p hp
  unfold World.cell? World.frozen?
  rw [e]
  exact h j hj

/-- A value taken; what the world has more is new. -/
theorem Stands.taken {T : Plan} {W0 : World} {L : Array Bool} {V : Nat → Value} {w w' : World} (h : Stands T W0 L V w) {i s : Nat} {v : Value} (hi : (i, s, v) ∈ T.vals) (hb : Below w.heap.size w w')
    (u1 : ∀ k s' v', (k, s', v') ∈ T.vals → (k = i → s' = s ∧ v' = v) ∧ (s' = s → k = i)) (u2 : ∀ k s' n, (k, s', n) ∈ T.vars → k ≠ i ∧ s' ≠ s) (u3 : ∀ k s' x, (k, s', x) ∈ T.puts → k ≠ i ∧ s' ≠ s) :
    Stands T W0 (L.setIfInBounds i true) (turnV V s v) w' := by
  refine ⟨h.below.trans (hb.mono h.below.size), fun k s' v' hk hu => ?_, fun k s' n hk hu => ?_, fun k s' x hk hu => ?_, fun k s' x hk hu => (h.dep k s' x hk (up_set hu (u3 k s' x hk).1)).imp fun kv ⟨n, h1, h2⟩ => ⟨n, h1, up_mono h2⟩, fun k s' n k' s'' n' hk hk' hne hu hu' => ?_⟩
  · by_cases e : k = i
    · obtain ⟨e1, e2⟩ := (u1 k s' v' hk).1 e
      rw [e1, e2, turnV_same]
    · rw [turnV_other _ _ (fun h => e ((u1 k s' v' hk).2 h))]
      exact h.val k s' v' hk (up_set hu e)
  · obtain ⟨a, b⟩ := u2 k s' n hk
    obtain ⟨p, h1, h2, h3, h4⟩ := h.var k s' n hk (up_set hu a)
    exact ⟨p, by rw [turnV_other _ _ b]; exact h1, h2, Nat.lt_of_lt_of_le h3 hb.size, there_below h4 hb h3⟩
  · obtain ⟨a, b⟩ := u3 k s' x hk
    obtain ⟨p, h1, h3, h4⟩ := h.put k s' x hk (up_set hu a)
    exact ⟨p, by rw [turnV_other _ _ b]; exact h1, Nat.lt_of_lt_of_le h3 hb.size, range_below h4 hb h3⟩
  · rw [turnV_other _ _ (u2 k s' n hk).2, turnV_other _ _ (u2 k' s'' n' hk').2]
    exact h.apart k s' n k' s'' n' hk hk' hne (up_set hu (u2 k s' n hk).1) (up_set hu' (u2 k' s'' n' hk').1)

/-- A variable made. -/
theorem Stands.made {T : Plan} {W0 : World} {L : Array Bool} {V : Nat → Value} {w : World} (h : Stands T W0 L V w) {i s n : Nat} (cs : Array Value) (t : TypeId) (hn : cs.size = n)
    (u1 : ∀ k s' v', (k, s', v') ∈ T.vals → k ≠ i ∧ s' ≠ s) (u2 : ∀ k s' n', (k, s', n') ∈ T.vars → (k = i → s' = s ∧ n' = n) ∧ (s' = s → k = i)) (u3 : ∀ k s' x, (k, s', x) ∈ T.puts → k ≠ i) (hni : ¬ up L i) :
    Stands T W0 (L.setIfInBounds i true) (turnV V s (.pointer (some ⟨w.heap.size, 0, none⟩))) (w.alloc (.cells cs t)) := by
  have hb : Below w.heap.size w (w.alloc (.cells cs t)) := (Below.refl _ _).alloc (Nat.le_refl _) _
  have hsz : w.heap.size < (w.alloc (.cells cs t)).heap.size := by simp
  refine ⟨h.below.trans (hb.mono h.below.size), fun k s' v' hk hu => ?_, fun k s' n' hk hu => ?_, fun k s' x hk hu => ?_, fun k s' x hk hu => (h.dep k s' x hk (up_set hu (u3 k s' x hk))).imp fun kv ⟨n, h1, h2⟩ => ⟨n, h1, up_mono h2⟩, fun k s' n1 k' s'' n2 hk hk' hne hu hu' => ?_⟩
  · obtain ⟨a, b⟩ := u1 k s' v' hk
    rw [turnV_other _ _ b]
    exact h.val k s' v' hk (up_set hu a)
  · by_cases e : k = i
    · obtain ⟨e1, e2⟩ := (u2 k s' n' hk).1 e
      subst e1 e2
      refine ⟨w.heap.size, turnV_same _ _ _, h.below.size, hsz, ?_⟩
      rw [← hn]
      exact there_alloc w cs t
    · obtain ⟨p, h1, h2, h3, h4⟩ := h.var k s' n' hk (up_set hu e)
      exact ⟨p, by rw [turnV_other _ _ (fun h => e ((u2 k s' n' hk).2 h))]; exact h1, h2, Nat.lt_trans h3 hsz, there_below h4 hb h3⟩
  · have hu' := up_set hu (u3 k s' x hk)
    obtain ⟨p, h1, h3, h4⟩ := h.put k s' x hk hu'
    have b : s' ≠ s := fun e => by
      obtain ⟨kv, n', q1, q2⟩ := h.dep k s' x hk hu'
      have := (u2 kv s' n' q1).2 e
      subst this
      exact hni q2
    exact ⟨p, by rw [turnV_other _ _ b]; exact h1, Nat.lt_trans h3 hsz, range_below h4 hb h3⟩
  · by_cases e : k = i
    · by_cases e' : k' = i
      · exact absurd (((u2 k s' n1 hk).1 e).1.trans ((u2 k' s'' n2 hk').1 e').1.symm) hne
      · obtain ⟨p, h1, h2, h3, h4⟩ := h.var k' s'' n2 hk' (up_set hu' e')
        rw [((u2 k s' n1 hk).1 e).1, turnV_same, turnV_other _ _ (fun h => e' ((u2 k' s'' n2 hk').2 h)), h1]
        intro he
        injection he with he
        injection he with he
        injection he with he
        omega
    · obtain ⟨p, h1, h2, h3, h4⟩ := h.var k s' n1 hk (up_set hu e)
      by_cases e' : k' = i
      · rw [((u2 k' s'' n2 hk').1 e').1, turnV_same, turnV_other _ _ (fun h => e ((u2 k s' n1 hk).2 h)), h1]
        intro he
        injection he with he
        injection he with he
        injection he with he
        omega
      · rw [turnV_other _ _ (fun h => e ((u2 k s' n1 hk).2 h)), turnV_other _ _ (fun h => e' ((u2 k' s'' n2 hk').2 h))]
        exact h.apart k s' n1 k' s'' n2 hk hk' hne (up_set hu e) (up_set hu' e')

/-- A value stored into its variable. -/
theorem Stands.stored {T : Plan} {W0 : World} {L : Array Bool} {V : Nat → Value} {w : World} (h : Stands T W0 L V w) {j s k0 n : Nat} {x : List Value} (hj : (j, s, x) ∈ T.puts) (hv : (k0, s, n) ∈ T.vars) (h0 : up L k0) (hn : x.length = n)
    (u1 : ∀ k s' v', (k, s', v') ∈ T.vals → k ≠ j) (u2 : ∀ k s' n', (k, s', n') ∈ T.vars → k ≠ j) (u3 : ∀ k s' x', (k, s', x') ∈ T.puts → (k = j → s' = s ∧ x' = x) ∧ (s' = s → k = j)) {p : Nat} (hp : V s = .pointer (some ⟨p, 0, none⟩)) :
    Stands T W0 (L.setIfInBounds j true) V (w.setCells p 0 x) := by
  obtain ⟨p', h1, h2, h3, h4⟩ := h.var k0 s n hv h0
  rw [hp] at h1
  injection h1 with h1
  injection h1 with h1
  injection h1 with h1
  subst h1
  have hsz : w.heap.size ≤ (w.setCells p 0 x).heap.size := (below_range (B := 0) (Nat.zero_le _) x 0 w (Below.refl _ _)).size
  refine ⟨below_range h2 x 0 w h.below, fun k s' v' hk hu => h.val k s' v' hk (up_set hu (u1 k s' v' hk)), fun k s' n' hk hu => ?_, fun k s' x' hk hu => ?_, fun k s' x' hk hu => ?_, fun k s' n1 k' s'' n2 hk hk' hne hu hu' => h.apart k s' n1 k' s'' n2 hk hk' hne (up_set hu (u2 k s' n1 hk)) (up_set hu' (u2 k' s'' n2 hk'))⟩
  · obtain ⟨q, q1, q2, q3, q4⟩ := h.var k s' n' hk (up_set hu (u2 k s' n' hk))
    exact ⟨q, q1, q2, Nat.lt_of_lt_of_le q3 hsz, World.there_setCells q4 _ _ _⟩
  · by_cases e : k = j
    · obtain ⟨e1, e2⟩ := (u3 k s' x' hk).1 e
      subst e1 e2
      exact ⟨p, hp, Nat.lt_of_lt_of_le h3 hsz, World.rangeAt_setCells_same _ _ _ _ (by rw [hn]; exact h4)⟩
    · have hu' := up_set hu e
      obtain ⟨q, q1, q3, q4⟩ := h.put k s' x' hk hu'
      obtain ⟨kv, n', d1, d2⟩ := h.dep k s' x' hk hu'
      have hs : s' ≠ s := fun e' => e ((u3 k s' x' hk).2 e')
      have hqp : q ≠ p := fun e' => by
        subst e'
        exact h.apart kv s' n' k0 s n d1 hv hs d2 h0 (q1.trans hp.symm)
      exact ⟨q, q1, Nat.lt_of_lt_of_le q3 hsz, World.rangeAt_setCells_apart q4 p 0 x (.inl hqp)⟩
  · by_cases e : k = j
    · obtain ⟨e1, e2⟩ := (u3 k s' x' hk).1 e
      subst e1
      exact ⟨k0, n, hv, up_mono h0⟩
    · obtain ⟨kv, n', d1, d2⟩ := h.dep k s' x' hk (up_set hu e)
      exact ⟨kv, n', d1, up_mono d2⟩
theorem Stands.start (T : Plan) (W0 : World) (n : Nat) (V : Nat → Value) : Stands T W0 (Array.replicate n false) V W0.drew := by
  have hf : ∀ k, ¬ up (Array.replicate n false) k := fun k h => by
    unfold up at h
    rw [Array.getD_eq_getD_getElem?, Array.getElem?_replicate] at h
    split at h <;> cases h
  exact ⟨(Below.refl _ _).drew, fun k s v _ h => absurd h (hf k), fun k s v _ h => absurd h (hf k), fun k s v _ h => absurd h (hf k), fun k s v _ h => absurd h (hf k), fun k s v k' s' v' _ _ _ h => absurd h (hf k)⟩
end Go.Proofs.Ytchjjbklkmfelaa
