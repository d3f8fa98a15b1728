/- A whole slice of records, appended to one's own. -/
import Derived.Test.YtchjjbklkmfelaaBuild
namespace Go.Proofs.Ytchjjbklkmfelaa
open Go.RowKit Go.Lib
set_option linter.unusedVariables false
section
variable {P : Program}
theorem flat_of {n : Nat} : ∀ {l : List (List Value)} (hl : ∀ x ∈ l, x.length = n) (hn : 0 < n) (j : Nat) (u : Value), l.flatten[j]? = some u → j / n < l.length ∧ (l.getD (j / n) [])[j % n]? = some u
  | [], _, _, j, u, h => by simp at h
  | x :: l, hl, hn, j, u, h => by
    have hx := hl x (by simp)
    rw [List.flatten_cons] at h
    rcases Nat.lt_or_ge j n with hj | hj
    · rw [List.getElem?_append_left (by omega)] at h
      rw [Nat.div_eq_of_lt hj, Nat.mod_eq_of_lt hj]
      exact ⟨by simp, by simpa using h⟩
    · rw [List.getElem?_append_right (by omega), hx] at h
      obtain ⟨h1, h2⟩ := flat_of (fun y hy => hl y (by simp [hy])) hn (j - n) u h
      have e1 : j / n = (j - n) / n + 1 := by rw [← Nat.sub_add_cancel hj, Nat.add_div_right _ hn, Nat.sub_add_cancel hj]
      have e2 : j % n = (j - n) % n := by conv => lhs; rw [← Nat.sub_add_cancel hj, Nat.add_mod_right]
      rw [e1, e2]
      exact ⟨by simpa using h1, by simpa using h2⟩
theorem flat_len {K : Kinds} : ∀ {l : List (List Value)}, (∀ x ∈ l, Typed K x) → l.flatten.length = l.length * K.length
  | [], _ => by simp
  | y :: l, h => by
    rw [List.flatten_cons, List.length_append, flat_len (fun x hx => h x (by simp [hx])), (h y (by simp)).length, List.length_cons, Nat.add_mul, Nat.one_mul, Nat.add_comm]
theorem wpList_app_all {ops : Array Oper} {rest : List Oper} {o : Oper} {a : Act} {Q : Exit → Act → World → Prop} {w : World} (hgd : o.guard = none) (s x : Operand) (t E : TypeId) (K : Kinds) (z : Value) (bytes : Nat)
    (ho : o.op = .call { callee := .builtin .append, args := #[s, x], argTypes := #[t, t] }) (hu : P.underlying t = some (.slice E))
    (hi : (P.info? E).map (fun i => (i.zero, i.size, i.bytes)) = some (some z, K.length, bytes)) (hz : z.cells.size = K.length) (hK : 0 < K.length) (hby : bytes ≤ 1000)
    (base : Nat) (v : Value) (l l2 : List (List Value)) (hs : a.eval s = v) (hown : OwnR E K w base v l) (ad : Addr) (m c : Nat)
    (hx : a.eval x = .slice (some ad) m c) (hrec : Recs K w (.slice (some ad) m c) l2) (hlen : l.length ≤ 1000000) (hlen2 : m ≤ 1000000) (hbase : base ≤ w.heap.size)
    (h : ∀ v' w', OwnR E K w' base v' (l ++ l2) → w.grownBy w' v.ownBlock → Below base w w' → wpList P ops Q rest (a.put o.dst v') w') :
    wpList P ops Q (o :: rest) a w := by
  obtain ⟨i0, hi0, hz0, hz1, hz2⟩ := info_parts hi
  obtain ⟨A', c', e, h1, h2, h4, h3⟩ := id hrec
  cases e
  have hfl : l2.flatten.length = l2.length * K.length := flat_len h4
  refine wpList_append_own_at _ hgd s x t ho base E i0 z K.length bytes hu hi0 hz0 hz1 hz2 hz hK v l.length l.flatten hs hown.1 ad l2.length c l2.flatten hx hfl (fun j u hj => ?_) (fun u hu => ?_) (by unfold maxLen; omega) ?_ hbase ?_
  · obtain ⟨q1, q2⟩ := flat_of (fun x hx => (h4 x hx).length) hK j u hj
    obtain ⟨g, o', e1, _, hr, _⟩ := hrec.at hK (j / K.length) q1
    cases e1
    have := hr (j % K.length) u q2
    rw [Addr.add_lit]
    rw [show o' + j = o' + j / K.length * K.length + j % K.length by rw [Nat.add_assoc, Nat.div_add_mod']]
    exact this
  · obtain ⟨y, hy, hu'⟩ := List.mem_flatten.1 hu
    exact (h4 y hy).one u hu'
  · have : (l.length + l2.length) * bytes ≤ 2000000 * 1000 := Nat.mul_le_mul (by omega) hby
    omega
  · intro v' w' k1 k2 _ _
    refine h v' w' ⟨?_, fun x hx => ?_⟩ k2 ?_
    · rw [List.length_append, List.flatten_append]
      exact k1
    · rcases List.mem_append.1 hx with hx | hx
      · exact hown.2 x hx
      · exact h4 x hx
    · exact (Below.refl base w).grown k2 hbase (fun k hk => (OwnR.lt hown k hk).1)
/-- A slice that came in: nil, or somewhere. -/
def NilOr (v : Value) : Prop := v = .slice none 0 0 ∨ ∃ a n c, v = .slice (some a) n c
theorem wpList_app_any {ops : Array Oper} {rest : List Oper} {o : Oper} {a : Act} {Q : Exit → Act → World → Prop} {w : World} (hgd : o.guard = none) (s x : Operand) (t E : TypeId) (K : Kinds) (z : Value) (bytes : Nat)
    (ho : o.op = .call { callee := .builtin .append, args := #[s, x], argTypes := #[t, t] }) (hu : P.underlying t = some (.slice E))
    (hi : (P.info? E).map (fun i => (i.zero, i.size, i.bytes)) = some (some z, K.length, bytes)) (hz : z.cells.size = K.length) (hK : 0 < K.length) (hby : bytes ≤ 1000)
    (base : Nat) (v : Value) (l l2 : List (List Value)) (hs : a.eval s = v) (hown : OwnR E K w base v l) (xv : Value)
    (hx : a.eval x = xv) (hrec : Recs K w xv l2) (hnil : NilOr xv) (hlen : l.length ≤ 1000000) (hlen2 : l2.length ≤ 1000000) (hbase : base ≤ w.heap.size)
    (h : ∀ v' w', OwnR E K w' base v' (l ++ l2) → Below base w w' → wpList P ops Q rest (a.put o.dst v') w') :
    wpList P ops Q (o :: rest) a w := by
  rcases hnil with rfl | ⟨ad, m, c, rfl⟩
  · obtain ⟨A', c', e, h1, h2, h4, h3⟩ := hrec
    have hl2 : l2 = [] := by
      apply List.eq_nil_of_length_eq_zero
      injection e with _ e2 _
      exact e2.symm
    subst hl2
    obtain ⟨i0, hi0, hz0, hz1, hz2⟩ := info_parts hi
    refine wpList_plain hgd fun Kk hKk => ?_
    have hr := run_append_owned_none (P := P) w base t o.type E i0 K.length hu hi0 v l.length l.flatten hown.1
    unfold Oper.wp execOp
    simp only [ho, resolve, invoke, builtin, Sem.run_bind, Sem.run_pure, Result.andThen_ok, List.map_toArray, List.map_cons, List.map_nil, hs, hx, hr]
    exact hKk _ _ (h v w (by rw [List.append_nil]; exact hown) (Below.refl _ _))
  · obtain ⟨A', c', e, h1, h2, h4, h3⟩ := id hrec
    have hm : m = l2.length := by injection e
    exact wpList_app_all hgd s x t E K z bytes ho hu hi hz hK hby base v l l2 hs hown ad m c hx hrec hlen (by omega) hbase (fun v' w' k1 _ k3 => h v' w' k1 k3)
end
end Go.Proofs.Ytchjjbklkmfelaa
