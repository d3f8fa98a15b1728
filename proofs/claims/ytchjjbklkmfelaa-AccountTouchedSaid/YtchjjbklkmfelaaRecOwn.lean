/- Slices of records that a call makes itself. -/
import Derived.Test.YtchjjbklkmfelaaRecs
import Derived.Test.YtchjjbklkmfelaaLaw2d
namespace Go.Proofs.Ytchjjbklkmfelaa
open Go.RowKit Go.Lib
set_option linter.unusedVariables false
set_option linter.unusedSimpArgs false

def OwnR (E : TypeId) (K : Kinds) (w : World) (base : Nat) (v : Value) (l : List (List Value)) : Prop := w.ownsRow base E K.length v l.length l.flatten ∧ ∀ x ∈ l, Typed K x
theorem OwnR.nil (E : TypeId) (K : Kinds) (w : World) (base : Nat) : OwnR E K w base (.slice none 0 0) [] := ⟨World.ownsRow_nil _ _ _ _, by simp⟩
theorem OwnR.later {E : TypeId} {K : Kinds} {w w' : World} {base : Nat} {v : Value} {l : List (List Value)} (h : OwnR E K w base v l) (hb : Below w.heap.size w w') : OwnR E K w' base v l := by
  refine ⟨⟨h.1.1, ?_⟩, h.2⟩
  rcases h.1.2 with h2 | ⟨g', cap, cur, rfl, hb', hc, h3⟩
  · exact .inl h2
  · refine .inr ⟨g', cap, cur, rfl, hb', ?_, h3⟩
    rw [hb.block g' (Array.getElem?_eq_some_iff.1 hc).1]
    exact hc
theorem flat_at {n : Nat} : ∀ {l : List (List Value)} (hl : ∀ x ∈ l, x.length = n) (i j : Nat) (u : Value), i < l.length → (l.getD i [])[j]? = some u → l.flatten[i * n + j]? = some u
  | [], _, i, j, u, hi, _ => by simp at hi
  | x :: l, hl, 0, j, u, hi, hu => by
    have hj : j < x.length := (List.getElem?_eq_some_iff.1 hu).1
    rw [List.flatten_cons, Nat.zero_mul, Nat.zero_add, List.getElem?_append_left hj]
    exact hu
  | x :: l, hl, i + 1, j, u, hi, hu => by
    rw [List.flatten_cons, List.getElem?_append_right (by rw [hl x (by simp), Nat.add_mul]; omega), hl x (by simp), show (i + 1) * n + j - n = i * n + j by rw [Nat.add_mul, Nat.one_mul]; omega]
    exact flat_at (fun y hy => hl y (by simp [hy])) i j u (by simpa using hi) (by simpa using hu)
theorem OwnR.recs {E : TypeId} {K : Kinds} {w : World} {base : Nat} {v : Value} {l : List (List Value)} (h : OwnR E K w base v l) : Recs K w v l := by
  have h0 := h.1
  rcases h.1.2 with ⟨rfl, hn⟩ | ⟨g, cap, cur, rfl, hb, hg, hn, hm, hs, ht⟩
  · obtain rfl : l = [] := List.length_eq_zero_iff.1 hn
    exact ⟨none, 0, rfl, Nat.le_refl _, by unfold maxLen; omega, by simp, .inl rfl⟩
  · refine ⟨some ⟨g, 0, none⟩, cap, rfl, hn, hm, h.2, .inr ⟨g, 0, rfl, fun i hi j u hu => ?_⟩⟩
    have := World.ownsRow.cells h0 (g := g) rfl (i * K.length + j) u (flat_at (fun x hx => (h.2 x hx).length) i j u hi hu)
    rw [Addr.add_lit] at this
    rw [Nat.zero_add] at this
    rw [Nat.zero_add]
    exact this
theorem OwnR.lt {E : TypeId} {K : Kinds} {w : World} {base : Nat} {v : Value} {l : List (List Value)} (h : OwnR E K w base v l) : ∀ k, v.ownBlock = some k → base ≤ k ∧ k < w.heap.size := World.ownsRow.lt h.1
theorem OwnR.grown {E : TypeId} {K : Kinds} {w w' : World} {base : Nat} {v : Value} {l : List (List Value)} {row : Option Nat} (h : OwnR E K w base v l) (hg : w.grownBy w' row) (hne : v.ownBlock = none ∨ v.ownBlock ≠ row) : OwnR E K w' base v l :=
  ⟨World.ownsRow.kept h.1 hg hne, h.2⟩
theorem OwnR.alloc {E : TypeId} {K : Kinds} {w : World} {base : Nat} {v : Value} {l : List (List Value)} (h : OwnR E K w base v l) (o : Obj) : OwnR E K (w.alloc o) base v l := ⟨World.ownsRow.alloc h.1 o, h.2⟩

section
variable {P : Program}
theorem wpList_app_rec {ops : Array Oper} {rest : List Oper} {o : Oper} {a : Act} {Q : Exit → Act → World → Prop} {w : World} (hgd : o.guard = none) (s x : Operand) (t E : TypeId) (K : Kinds) (z : Value) (bytes : Nat)
    (ho : o.op = .call { callee := .builtin .append, args := #[s, x], argTypes := #[t, t] }) (hu : P.underlying t = some (.slice E))
    (hi : (P.info? E).map (fun i => (i.zero, i.size, i.bytes)) = some (some z, K.length, bytes)) (hz : z.cells.size = K.length) (hK : 0 < K.length) (hby : bytes ≤ 1000)
    (base : Nat) (v : Value) (l : List (List Value)) (hs : a.eval s = v) (hown : OwnR E K w base v l) (y : List Value) (hy : Typed K y)
    (hx : a.eval x = .slice (some ⟨w.heap.size, 0, none⟩) 1 1) (hlen : l.length ≤ 1000000000) (hbase : base ≤ w.heap.size)
    (h : ∀ v' w', OwnR E K w' base v' (l ++ [y]) → (w.alloc (.cells y.toArray E)).grownBy w' v.ownBlock → Below base w w' → w.heap.size + 1 ≤ w'.heap.size → (v'.ownBlock = v.ownBlock ∨ v'.ownBlock = some (w.heap.size + 1)) → wpList P ops Q rest (a.put o.dst v') w') :
    wpList P ops Q (o :: rest) a (w.alloc (.cells y.toArray E)) := by
  obtain ⟨i0, hi0, hz0, hz1, hz2⟩ := info_parts hi
  refine wpList_append_own_at _ hgd s x t ho base E i0 z K.length bytes hu hi0 hz0 hz1 hz2 hz hK v l.length l.flatten hs (World.ownsRow.alloc hown.1 _) ⟨w.heap.size, 0, none⟩ 1 1 y hx (by rw [hy.length]; omega) (fun j u hj => ?_) hy.one (by unfold maxLen; omega) ?_ (by simp; omega) ?_
  · have := range_alloc w y.toArray E j u hj
    rw [Nat.zero_add] at this
    rw [Addr.add_lit, Nat.zero_add]
    exact this
  · have : (l.length + 1) * bytes ≤ 1000000001 * 1000 := Nat.mul_le_mul (by omega) hby
    omega
  · intro v' w' h1 h2 _ h4
    refine h v' w' ⟨?_, fun x hx => ?_⟩ h2 ?_ ?_ ?_
    · rw [List.length_append, List.flatten_append]
      simpa using h1
    · rcases List.mem_append.1 hx with hx | hx
      · exact hown.2 x hx
      · rw [List.mem_singleton.1 hx]; exact hy
    · exact ((Below.refl base w).alloc hbase _).grown h2 (by simp; omega) (fun k hk => (OwnR.lt hown k hk).1)
    · have := h2.size; simp at this; omega
    · simpa using h4
end

/-- Numbers as records. -/
abbrev numK : Kinds := List.replicate 4 (some .u64)
theorem cells4_typed (n : Nat) : Typed numK (cells4L n) := by
  have hw : ∀ k, (Lit.int .u64 (limb n k)).wf = true := fun k => by
    have := limb_bd n k
    simp [Lit.wf, IntKind.min, IntKind.max, IntKind.signed, IntKind.bits]
    omega
  exact ⟨_, _, rfl, ⟨_, rfl, hw 0⟩, _, _, rfl, ⟨_, rfl, hw 1⟩, _, _, rfl, ⟨_, rfl, hw 2⟩, _, _, rfl, ⟨_, rfl, hw 3⟩, rfl⟩
theorem OwnR.numsOf {w : World} {base : Nat} {v : Value} {l : List Nat} (h : OwnR 28 numK w base v (l.map cells4L)) : Nums w v l := by
  refine OwnN.nums (base := base) ?_
  unfold OwnN
  have := h.1
  rw [List.length_map] at this
  exact this
end Go.Proofs.Ytchjjbklkmfelaa
