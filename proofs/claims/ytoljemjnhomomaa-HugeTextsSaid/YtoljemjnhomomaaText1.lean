/- huge.Text: a number's decimal text. -/
import Derived.Test.YtoljemjnhomomaaText
import Derived.Test.YtoljemjnhomomaaRev
import Derived.Test.YtoljemjnhomomaaShort
namespace Go.Proofs.Ytoljemjnhomomaa
open Go.RowKit Go.Lib
set_option linter.unusedVariables false
set_option linter.unusedSimpArgs false

def byteI (l : List UInt8) : List Int := l.map fun c => (c.toNat : Int)
theorem byteI_length (l : List UInt8) : (byteI l).length = l.length := by simp [byteI]
/-- A slice of bytes of one's own. -/
def OwnB (w : World) (base : Nat) (v : Value) (l : List UInt8) : Prop := w.ownsRow base 5 1 v l.length ((byteI l).map enc8)
theorem OwnB.nil (w : World) (base : Nat) : OwnB w base (.slice none 0 0) [] := World.ownsRow_nil _ _ _ _
theorem OwnB.drewN {w : World} {base : Nat} {v : Value} {l : List UInt8} (h : OwnB w base v l) (n : Nat) : OwnB (w.drewN n) base v l := h
theorem OwnB.not_nil {w : World} {base : Nat} {v : Value} {l : List UInt8} (h : OwnB w base v l) (hl : l ≠ []) : v ≠ .slice none 0 0 := by
  rintro rfl
  rcases h.2 with ⟨_, h2⟩ | ⟨g, cap, cur, e, -⟩
  · exact hl (List.length_eq_zero_iff.1 h2)
  · cases e
theorem Try.infoByte : (Try.prog.info? 5).map (fun i => (i.zero, i.size, i.bytes)) = some (some (.int .u8 0), 1, 1) := by kernel_rfl

theorem wpList_app_byte {ops : Array Oper} {rest : List Oper} {o : Oper} {a : Act} {Q : Exit → Act → World → Prop} {w : World} (hgd : o.guard = none) (s x : Operand)
    (ho : o.op = .call { callee := .builtin .append, args := #[s, x], argTypes := #[57, 57] })
    (base : Nat) (v : Value) (l : List UInt8) (hs : a.eval s = v) (hown : OwnB w base v l) (y : UInt8) (z : Int) (hz : z = (y.toNat : Int))
    (hx : a.eval x = .slice (some ⟨w.heap.size, 0, none⟩) 1 1) (hlen : l.length ≤ 1000000000) (hbase : base ≤ w.heap.size)
    (h : ∀ v' w', OwnB w' base v' (l ++ [y]) → (w.alloc (.cells #[.int .u8 z] 5)).grownBy w' v.ownBlock → Below base w w' → w.heap.size + 1 ≤ w'.heap.size → wpList Try.prog ops Q rest (a.put o.dst v') w') :
    wpList Try.prog ops Q (o :: rest) a (w.alloc (.cells #[.int .u8 z] 5)) := by
  subst hz
  obtain ⟨i0, hi, hz0, hz1, hz2⟩ := info_parts Try.infoByte
  refine wpList_append_own _ hgd s x 57 ho base 5 i0 (.int .u8 0) 1 1 Try.underlying57 hi hz0 hz1 hz2 rfl (by decide) v l.length ((byteI l).map enc8) hs (World.ownsRow.alloc hown _) ⟨w.heap.size, 0, none⟩ 1 1 [.int .u8 (y.toNat : Int)] hx rfl ?_ ?_ (by unfold maxLen; omega) (by omega) (by simp; omega) ?_
  · intro j u hj
    match j, hj with
    | 0, hj => simp at hj; subst hj; simp [Addr.add]
  · intro u hu; simp at hu; subst hu; rfl
  · intro v' w' h1 h2 _
    refine h v' w' ?_ h2 ?_ ?_
    · unfold OwnB byteI; rw [List.length_append, List.map_append, List.map_append]; exact h1
    · exact ((Below.refl base w).alloc hbase _).grown h2 (by simp; omega) (fun k hk => (World.ownsRow.lt hown k hk).1)
    · have := h2.size; simp at this; omega

theorem OwnB.lies {w : World} {base : Nat} {v : Value} {l : List UInt8} (h : OwnB w base v l) (hl : l ≠ []) :
    ∃ g c, v = .slice (some ⟨g, 0, none⟩) l.length c ∧ ∀ j (hj : j < l.length), w.cell? ((⟨g, 0, none⟩ : Addr).add j) = some (.int .u8 (l[j].toNat : Int)) := by
  obtain ⟨g, cap, rfl, hb, hg, h1, h2, h3, hH⟩ := holds_of_ownsRow h (h.not_nil hl)
  refine ⟨g, cap, rfl, fun j hj => ?_⟩
  rw [Addr.add_lit]
  have := (hH j (by simp [byteI]; exact hj)).1
  rw [this]
  simp [enc8, byteI, getElem!_pos, hj]

theorem own_string {w : World} {base : Nat} {v : Value} {l : List UInt8} (h : OwnB w base v l) (hl : l ≠ []) :
    (convert 57 9 v).run Try.prog w = .ok (.string ⟨l.toArray⟩) w := by
  obtain ⟨g, c, rfl, hc⟩ := h.lies hl
  exact run_convert_bytes_back (P := Try.prog) w 57 9 5 ⟨g, 0, none⟩ c l Try.underlying57 Try.underlying5 Try.underlying9 hc

theorem breverse_calls (v : Value) (l : List UInt8) (base : Nat) (w : World) (h : OwnB w base v l) (hv : l ≠ []) (hl : l.length ≤ 1000000) :
    Calls Try.prog 52 #[v] w fun e w' => e = .returned (.tuple #[]) ∧ OwnB w' base v l.reverse ∧ Below base w w' := by
  have := reverse_calls v (byteI l) base w (by rw [byteI_length]; exact h) (h.not_nil hv) (by rw [byteI_length]; exact hl)
  refine this.mono ?_
  rintro e w' ⟨rfl, h1, h2⟩
  refine ⟨rfl, ?_, h2⟩
  unfold OwnB
  rw [byteI_length] at h1
  rw [List.length_reverse]
  unfold byteI at h1 ⊢
  rw [List.map_reverse]
  exact h1

theorem box_ne {a : Nat} (ha : a < 18446744073709551616 ^ 4) (h : 0 < a) : limb a 0 ≠ 0 ∨ limb a 1 ≠ 0 ∨ limb a 2 ≠ 0 ∨ limb a 3 ≠ 0 := by
  apply Decidable.byContradiction
  intro hc
  have e : ∀ k, limb a k = ((a / 18446744073709551616 ^ k % 18446744073709551616 : Nat) : Int) := fun k => rfl
  rw [e, e, e, e] at hc
  omega
end Go.Proofs.Ytoljemjnhomomaa
