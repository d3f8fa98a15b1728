/- What an argument that came in is: a slice of numbers of four limbs. -/
import Derived.Test.YtoljemjnhomomaaOpen
import Derived.Test.YtoljemjnhomomaaNums
namespace Go.Proofs.Ytoljemjnhomomaa
open Go.ChangeShapes Go.WideShapes Go.ChangeAt Go.RowKit Go.Deep
set_option linter.unusedVariables false
section
variable {H : Type} {enc : TypeId × Value → H}

theorem list_of4 {l : List Value} (h : l.length = 4) : ∃ a b c d, l = [a, b, c, d] := list_four l h

theorem big_at {W : World} {a : Addr} {cs : List Value} {n fuel : Nat} {x : DataW H × List MemPlace} (hc : W.cells? 0 a 4 = some cs) (h : DataW.trod enc Try.prog W 0 (fun _ => true) true fuel 42 cs = some x) :
    ∃ n, n < 18446744073709551616 ^ 4 ∧ ∀ j, j < 4 → W.cell? (a.add j) = some (.int .u64 (limb n j)) := by
  obtain ⟨_, hlen, hcell⟩ := World.cells?_some hc
  obtain ⟨c0, c1, c2, c3, rfl⟩ := list_of4 hlen
  obtain ⟨y0, y1, y2, y3, m, hx, hy0, hy1, hy2, hy3⟩ := trod_array4 Try.underlying42 Try.cellsU64 h
  obtain ⟨x0, e0, rfl, w0⟩ := DataW.trod_int Try.underlying22 hy0
  obtain ⟨x1, e1, rfl, w1⟩ := DataW.trod_int Try.underlying22 hy1
  obtain ⟨x2, e2, rfl, w2⟩ := DataW.trod_int Try.underlying22 hy2
  obtain ⟨x3, e3, rfl, w3⟩ := DataW.trod_int Try.underlying22 hy3
  simp at e0 e1 e2 e3
  subst e0 e1 e2 e3
  have b0 := bounds_u64 w0
  have b1 := bounds_u64 w1
  have b2 := bounds_u64 w2
  have b3 := bounds_u64 w3
  obtain ⟨h0, h1, h2, h3⟩ := limb_num b0.1 (show x0 < 18446744073709551616 by omega) b1.1 (show x1 < 18446744073709551616 by omega) b2.1 (show x2 < 18446744073709551616 by omega) b3.1 (show x3 < 18446744073709551616 by omega)
  refine ⟨num x0 x1 x2 x3, num_lt (by omega) (by omega) (by omega) (by omega), fun j hj => ?_⟩
  rw [hcell j hj]
  match j, hj with
  | 0, _ => rw [h0]; rfl
  | 1, _ => rw [h1]; rfl
  | 2, _ => rw [h2]; rfl
  | 3, _ => rw [h3]; rfl

theorem open_Ints {W : World} {base : Nat} {v : Value} {d : DataW H} {p : List MemPlace} (hval : Value.okWide Try.prog W .any base 47 v) (h : DataW.Trod enc Try.prog W 0 (fun _ => true) true 47 v d p) :
    ∃ l, Nums W v l ∧ ∀ x ∈ l, x < 18446744073709551616 ^ 4 := by
  obtain ⟨a1, len, cap, rfl⟩ := okWide_slice Try.underlying47 hval
  obtain ⟨fuel, hf⟩ := h
  rcases open_slice Try.underlying47 hf with ⟨hcs, hx⟩ | ⟨a, len', cap', m, n, D, Pl, hcs, hb, hl, hm, hmm, hx, hel⟩
  · simp [Value.cells] at hcs
    obtain ⟨rfl, rfl, rfl⟩ := hcs
    exact ⟨[], ⟨none, 0, rfl, Nat.le_refl _, by unfold maxLen; omega, .inl rfl⟩, by simp⟩
  · simp [Value.cells] at hcs
    obtain ⟨rfl, rfl, rfl⟩ := hcs
    simp only [if_true] at hmm
    subst hmm
    rw [show Try.prog.cellsOf 42 = 4 by kernel_rfl] at hel
    obtain ⟨N, hN⟩ := choose_lt (α := Nat) (p := fun i n => n < 18446744073709551616 ^ 4 ∧ ∀ j, j < 4 → W.cell? ((a.add (i * 4)).add j) = some (.int .u64 (limb n j))) (fun i hi => by
      obtain ⟨cs', h1, h2⟩ := hel i hi
      exact big_at (n := 0) h1 h2)
    have hlen : ((List.range len).map N).length = len := by simp
    refine ⟨(List.range len).map N, ⟨some a, m, by rw [hlen], by rw [hlen]; exact hl, hm, ?_⟩, fun x hx => ?_⟩
    · rcases Nat.eq_zero_or_pos len with rfl | hp
      · exact .inl rfl
      · right
        have h0 := (hN 0 (by omega)).2 0 (by omega)
        obtain ⟨g, o, sp⟩ := a
        have hs : sp = none := by
          cases sp with
          | none => rfl
          | some q => have := World.cell?_spot h0; simp [Addr.add] at this
        subst hs
        refine ⟨g, o, rfl, fun i hi j hj => ?_⟩
        rw [hlen] at hi
        have := (hN i (by omega)).2 j hj
        rw [Addr.add_lit, Addr.add_lit] at this
        rw [this]
        congr 3
        rw [List.getD_eq_getElem?_getD, List.getElem?_map, List.getElem?_range hi]
        rfl
    · obtain ⟨i, hi, rfl⟩ := List.mem_map.1 hx
      exact (hN i (by have := List.mem_range.1 hi; omega)).1
end
end Go.Proofs.Ytoljemjnhomomaa
