/- What an argument that came in is: a slice of bytes. -/
import Derived.Test.YtoljemjnhomomaaPost
import Derived.Test.YtoljemjnhomomaaRead
namespace Go.Proofs.Ytoljemjnhomomaa
open Go.ChangeShapes Go.WideShapes Go.ChangeAt Go.RowKit Go.Deep
set_option linter.unusedVariables false
section
variable {H : Type} {enc : TypeId × Value → H}

theorem open_Bytes {W : World} {base : Nat} {v : Value} {d : DataW H} {p : List MemPlace} (hval : Value.okWide Try.prog W .any base 57 v) (h : DataW.Trod enc Try.prog W 0 (fun _ => true) true 57 v d p) :
    ∃ l, BRow W v l := by
  obtain ⟨a1, len, cap, rfl⟩ := okWide_slice Try.underlying57 hval
  obtain ⟨fuel, hf⟩ := h
  rcases open_slice1 Try.underlying57 (show Try.prog.cellsOf 5 = 1 by kernel_rfl) hf with ⟨hcs, hx⟩ | ⟨a, len', cap', m, n, V, D, Pl, hcs, hb, hl, hm, hmm, hx, hel⟩
  · simp [Value.cells] at hcs
    obtain ⟨rfl, rfl, rfl⟩ := hcs
    exact ⟨[], none, 0, rfl, Nat.le_refl _, by unfold maxLen; omega, .inl rfl⟩
  · simp [Value.cells] at hcs
    obtain ⟨rfl, rfl, rfl⟩ := hcs
    simp only [if_true] at hmm
    subst hmm
    obtain ⟨N, hN⟩ := choose_lt (α := UInt8) (p := fun i x => W.cell? (a.add i) = some (.int .u8 (x.toNat : Int))) (fun i hi => by
      obtain ⟨h1, h2⟩ := hel i hi
      obtain ⟨y, e, -, wy⟩ := DataW.trod_int Try.underlying5 h2
      have by' := bounds_u8 wy
      simp at e
      refine ⟨UInt8.ofNat y.toNat, ?_⟩
      rw [h1, e, UInt8.toNat_ofNat', Nat.mod_eq_of_lt (by omega), Int.toNat_of_nonneg by'.1])
    have hlen : ((List.range len).map N).length = len := by simp
    refine ⟨(List.range len).map N, some a, m, by rw [hlen], by rw [hlen]; exact hl, hm, ?_⟩
    rcases Nat.eq_zero_or_pos len with rfl | hp
    · exact .inl rfl
    · right
      have h0 := hN 0 (by omega)
      obtain ⟨g, o, sp⟩ := a
      have hs : sp = none := by
        cases sp with
        | none => rfl
        | some q => have := World.cell?_spot h0; simp [Addr.add] at this
      subst hs
      refine ⟨g, o, rfl, fun i hi => ?_⟩
      rw [hlen] at hi
      have := hN i (by omega)
      rw [Addr.add_lit] at this
      rw [this]
      congr 3
      rw [List.getD_eq_getElem?_getD, List.getElem?_map, List.getElem?_range hi]
      rfl
end
end Go.Proofs.Ytoljemjnhomomaa
