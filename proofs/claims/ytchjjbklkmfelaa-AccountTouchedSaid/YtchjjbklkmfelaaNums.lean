/- Slices of numbers of four limbs; huge.Sum. -/
import Derived.Test.YtchjjbklkmfelaaLaw2
namespace Go.Proofs.Ytchjjbklkmfelaa
open Go.RowKit Go.Lib
set_option linter.unusedVariables false
set_option linter.unusedSimpArgs false

/-- A slice of numbers, as it is read. -/
def Nums (w : World) (v : Value) (l : List Nat) : Prop :=
  ∃ A c, v = .slice A l.length c ∧ l.length ≤ c ∧ c ≤ maxLen ∧
    (l = [] ∨ ∃ g o, A = some ⟨g, o, none⟩ ∧ ∀ i, i < l.length → ∀ j, j < 4 → w.cell? ⟨g, o + i * 4 + j, none⟩ = some (.int .u64 (limb (l.getD i 0) j)))

theorem Nums.below {w w' : World} {v : Value} {l : List Nat} (h : Nums w v l) (hb : Below w.heap.size w w') : Nums w' v l := by
  obtain ⟨A, c, rfl, h1, h2, h3⟩ := h
  refine ⟨A, c, rfl, h1, h2, ?_⟩
  rcases h3 with h3 | ⟨g, o, rfl, hc⟩
  · exact .inl h3
  · exact .inr ⟨g, o, rfl, fun i hi j hj => (hb.cell (p := ⟨g, o + i * 4 + j, none⟩) (World.block_lt_of_cell? w _ (hc i hi j hj))).trans (hc i hi j hj)⟩

theorem Nums.at {w : World} {A : Option Addr} {n c : Nat} {l : List Nat} (h : Nums w (.slice A n c) l) (k : Nat) (hk : k < n) :
    ∃ g o, A = some ⟨g, o, none⟩ ∧ g < w.heap.size ∧ ∀ j, j < 4 → w.cell? ⟨g, o + k * 4 + j, none⟩ = some (.int .u64 (limb (l.getD k 0) j)) := by
  obtain ⟨A', c', e, h1, h2, h3⟩ := h
  cases e
  rcases h3 with h3 | ⟨g, o, rfl, hc⟩
  · subst h3; simp at hk
  · exact ⟨g, o, rfl, World.block_lt_of_cell? w _ (hc k hk 0 (by omega)), hc k hk⟩

theorem sum_take (l : List Nat) (k : Nat) (h : k < l.length) : (l.take (k + 1)).sum = (l.take k).sum + l.getD k 0 := by
  rw [List.take_succ_eq_append_getElem h, List.sum_append, List.getD_eq_getElem?_getD, List.getElem?_eq_getElem h]
  simp
theorem sum_take_le (l : List Nat) (k : Nat) : (l.take k).sum ≤ l.sum := by
  have h : (l.take k ++ l.drop k).sum = l.sum := by rw [List.take_append_drop]
  rw [List.sum_append] at h
  omega

set_option maxHeartbeats 1000000 in
set_option maxRecDepth 100000 in
theorem hsum_calls (v : Value) (l : List Nat) (w : World) (h : Nums w v l) (hl : l.length ≤ 1000000) (hlt : ∀ x ∈ l, x < 18446744073709551616 ^ 4) :
    Calls Try.prog 40 #[v] w fun e w' => e = .returned (sumV l.sum) ∧ Below w.heap.size w w' := by
  obtain ⟨A, c, rfl, a1, a2, -⟩ := id h
  have HN := Lib.hid h
  clear h
  unfold maxLen at a2
  have B0 : Box ((w.alloc (obj4 0 0 0 0)).alloc (obj4 0 0 0 0)) w.heap.size 0 := (Box.zero w).alloc _
  have T0 := Box.zero (w.alloc (obj4 0 0 0 0))
  rw [World.size_alloc] at T0
  have Q0 : Below w.heap.size w ((w.alloc (obj4 0 0 0 0)).alloc (obj4 0 0 0 0)) := ((Below.refl _ _).alloc (Nat.le_refl _) _).alloc (by simp) _
  have HLt := Lib.hid hlt
  have HLn := Lib.hid (show l.length = l.length from rfl)
  generalize hln : l.length = n at *
  have HL := Lib.hid hln
  clear hln HLn hlt
  go_enter Try.func40, Try.ntmps40
  go_wp2_with fail
  obtain ⟨W, hW⟩ : ∃ W, (w.alloc (obj4 0 0 0 0)).alloc (obj4 0 0 0 0) = W := ⟨_, rfl⟩
  dsimp only [obj4] at hW
  rw [hW]
  dsimp only [obj4] at B0 T0 Q0
  rw [hW] at B0 T0 Q0
  clear hW
  go_loopw [10] (fun i wr => ∃ k : Nat, i = .int .i64 k ∧ k ≤ n ∧ Box wr w.heap.size 0 ∧ Hid (Box wr (w.heap.size + 1) (l.take k).sum) ∧ Hid ((l.take k).sum < 18446744073709551616 ^ 4) ∧ Below w.heap.size w wr) (fun i _ => n - (intOf i).toNat)
  case atStart => exact ⟨0, rfl, by omega, B0, Lib.hid T0, Lib.hid (by simp), Q0⟩
  case round =>
    obtain ⟨k, rfl, hk, X, HY, HS, hb⟩ := hrel
    clear B0 T0 Q0
    by_cases hk1 : k < n
    · have hk1' : (k : Int) < (n : Int) := by omega
      obtain ⟨g, o, rfl, hg, hc⟩ := HN.out.at k hk1
      have HT := Lib.hid (sum_take l k (by rw [HL.out]; exact hk1))
      have HLe := Lib.hid (sum_take_le l (k + 1))
      have HM := Lib.hid (HLt.out (l.getD k 0) (by
        rw [List.getD_eq_getElem?_getD, List.getElem?_eq_getElem (by rw [HL.out]; exact hk1)]
        exact List.getElem_mem _))
      have c0 := (hb.cell (p := ⟨g, o + k * 4 + 0, none⟩) hg).trans (hc 0 (by omega))
      have c1 := (hb.cell (p := ⟨g, o + k * 4 + 1, none⟩) hg).trans (hc 1 (by omega))
      have c2 := (hb.cell (p := ⟨g, o + k * 4 + 2, none⟩) hg).trans (hc 2 (by omega))
      have c3 := (hb.cell (p := ⟨g, o + k * 4 + 3, none⟩) hg).trans (hc 3 (by omega))
      rw [Nat.add_zero] at c0
      clear hc
      generalize l.getD k 0 = x at *
      generalize hs : (l.take k).sum = s at *
      clear hs
      obtain ⟨b0, b1, b2, b3⟩ := HY.out.cells
      have lx := X.lt
      have ly := HY.out.lt
      have hadd := fun w => hadd_calls s x w HS.out HM.out
      simp only [sumV_kept] at hadd
      have HAdd := Lib.hid hadd
      clear hadd
      go_wp2_with fail
      refine (HAdd.out _).mono ?_
      rintro e w2 ⟨rfl, hb2⟩
      have X2 := (X.alloc (row4 (limb x))).later hb2
      have Y2 := (HY.out.alloc (row4 (limb x))).later hb2
      have hq : Below w.heap.size w w2 := (hb.alloc (by omega) (row4 (limb x))).trans (hb2.mono (by have := X.lt; simp; omega))
      obtain ⟨r0, r1, r2, r3⟩ := X2.cells
      obtain ⟨d0, d1, d2, d3⟩ := X2.free
      obtain ⟨s0, s1, s2, s3⟩ := Y2.cells
      obtain ⟨f0, f1, f2, f3⟩ := Y2.free
      have lx2 := X2.lt
      have ly2 := Y2.lt
      have HST := Lib.hid (Y2.stored (kept (s + x)))
      generalize hn' : s + x = n' at *
      have HN' := Lib.hid hn'
      clear hn' b0 b1 b2 b3 c0 c1 c2 c3 hb2
      by_cases hm : n' < 18446744073709551616 ^ 4
      · have e1 : okE n' = 0 := if_pos hm
        rw [e1]
        have HK := Lib.hid (show kept n' = n' from if_pos hm)
        have HM' := Lib.hid hm
        clear hm e1
        go_wp2_with fail
        go_roundw
        case rel =>
          refine ⟨k + 1, by simp, by omega, X2.store_other (by omega) _ _ _ _, ?_, ?_, below_store hq (by omega) _ _ _ _⟩
          · rw [HT.out]; have := HST.out; rw [HK.out] at this; exact Lib.hid (by rw [HK.out]; exact this)
          · rw [HT.out]; exact HM'
        case measure => simp [intOf]; omega
      · have e1 : okE n' = 2 := if_neg hm
        rw [e1]
        have HV := Lib.hid (sumV_ge (n := l.sum) (by have := HLe.out; have := HT.out; omega))
        clear hm e1
        go_wp2_with fail
        exact bodyPost_ret (v := .tuple #[big 0 0 0 0, .int .i64 2]) (by simp [results, Try.results40, go_sem, r0, r1, r2, r3, lx2]) rfl ⟨by rw [HV.out], below_store (below_store hq (by omega) _ _ _ _) (Nat.le_refl _) _ _ _ _⟩
    · have hk1' : ¬ (k : Int) < (n : Int) := by omega
      have he : k = n := by omega
      subst he
      have HT := Lib.hid (show l.take k = l from List.take_of_length_le (by rw [HL.out]; exact Nat.le_refl _))
      rw [HT.out] at HY HS
      obtain ⟨c0, c1, c2, c3⟩ := HY.out.cells
      obtain ⟨r0, r1, r2, r3⟩ := X.cells
      obtain ⟨d0, d1, d2, d3⟩ := X.free
      have lt0 := X.lt
      have HV := Lib.hid (sumV_lt HS.out)
      clear HT
      generalize hs : l.sum = s at *
      have HSm := Lib.hid hs
      clear hs
      go_wp2_with fail
      exact bodyPost_ret (v := .tuple #[bigN s, .int .i64 0]) (by simp [results, Try.results40, go_sem, c0, c1, c2, c3, r0, r1, r2, r3, lt0]) rfl ⟨by rw [HSm.out, HV.out], below_store hb (by omega) _ _ _ _⟩
end Go.Proofs.Ytchjjbklkmfelaa
