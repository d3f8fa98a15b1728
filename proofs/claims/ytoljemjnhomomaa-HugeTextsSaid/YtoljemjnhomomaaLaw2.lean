/- Layer 2 (huge): what its statements share (the chapter's example, 'is'), and the first of them. -/
import Derived.Test.YtoljemjnhomomaaParse
import Derived.Test.YtoljemjnhomomaaRef5
import Derived.Test.YtoljemjnhomomaaLaw1b
import Derived.Test.YtoljemjnhomomaaBits
namespace Go.Proofs.Ytoljemjnhomomaa
open Go.RowKit Go.Lib
set_option linter.unusedVariables false
set_option linter.unusedSimpArgs false

instance (l : List UInt8) : Decidable (badText l) := inferInstanceAs (Decidable (_ ∨ _ ∨ _))
/-- What Parse tells of a text. -/
def parseV (l : List UInt8) : Value := if badText l then .tuple #[bigN 0, .int .i64 6] else sumV (decV l)

theorem hparse_calls (s : ByteArray) (w : World) (hs : s.size ≤ 1000000) :
    Calls Try.prog 42 #[.string s] w fun e w' => e = .returned (parseV s.data.toList) ∧ Below w.heap.size w w' := by
  by_cases h1 : s.data.toList = [] ∨ (1 < s.data.toList.length ∧ s.data.toList.getD 0 0 = 48)
  · refine (parse_bad0 s w hs h1).mono ?_
    rintro e w' ⟨rfl, hb⟩
    refine ⟨?_, hb⟩
    rw [parseV, if_pos]
    rcases h1 with h | h
    · exact .inl h
    · exact .inr (.inl h)
  · have h0 : s.toList.isEmpty = false := by
      rw [ByteArray.toList_eq]
      cases hh : s.data.toList with
      | nil => exact absurd (Or.inl hh) h1
      | cons a b => rfl
    have h2 : (1 : Int) < (s.size : Int) → (((s.data.toList.getD 0 0).toNat : Int) == 48) = false := fun hl => by
      rw [beq_eq_false_iff_ne]
      intro h3
      refine h1 (.inr ⟨by have : 1 < s.size := by omega
                          simpa using this, ?_⟩)
      apply UInt8.toNat_inj.1
      show _ = 48
      omega
    refine (parse_loop s w hs h0 h2).mono ?_
    rintro e w' ⟨k1, k2, hb⟩
    refine ⟨?_, hb⟩
    by_cases h3 : ∃ c ∈ s.data.toList, ¬ isDig c
    · rw [k1 h3, parseV, if_pos (.inr (.inr h3))]
    · have h4 : ∀ c ∈ s.data.toList, isDig c := fun c hc => Decidable.byContradiction fun h => h3 ⟨c, hc, h⟩
      rw [k2 h4, parseV, if_neg]
      rintro (h | h | h)
      · exact h1 (.inl h)
      · exact h1 (.inr h)
      · exact h3 h

theorem parse_ex : parseV [49, 56, 52, 52, 54, 55, 52, 52, 48, 55, 51, 55, 48, 57, 53, 53, 49, 54, 49, 54] = .tuple #[big 0 1 0 0, .int .i64 0] := by
  unfold parseV
  rw [if_neg (by decide +kernel), show decV [49, 56, 52, 52, 54, 55, 52, 52, 48, 55, 51, 55, 48, 57, 53, 53, 49, 54, 49, 54] = 18446744073709551616 by decide +kernel, sumV_lt (by decide)]
  have e : ∀ k, limb 18446744073709551616 k = ((18446744073709551616 / 18446744073709551616 ^ k % 18446744073709551616 : Nat) : Int) := fun k => rfl
  have h0 : limb 18446744073709551616 0 = 0 := by rw [e]; decide
  have h1 : limb 18446744073709551616 1 = 1 := by rw [e]; decide
  have h2 : limb 18446744073709551616 2 = 0 := by rw [e]; decide
  have h3 : limb 18446744073709551616 3 = 0 := by rw [e]; decide
  unfold bigN
  rw [h0, h1, h2, h3]

set_option maxRecDepth 100000 in
theorem lives2_calls (w : World) : Calls Try.prog 26 #[] w (Yes w) := by
  have hp := hparse_calls ⟨#[49, 56, 52, 52, 54, 55, 52, 52, 48, 55, 51, 55, 48, 57, 53, 53, 49, 54, 49, 54]⟩ w (by decide)
  have e : (ByteArray.mk #[49, 56, 52, 52, 54, 55, 52, 52, 48, 55, 51, 55, 48, 57, 53, 53, 49, 54, 49, 54]).data.toList = [49, 56, 52, 52, 54, 55, 52, 52, 48, 55, 51, 55, 48, 57, 53, 53, 49, 54, 49, 54] := rfl
  rw [e, parse_ex] at hp
  have HP := Lib.hid hp
  clear hp e
  go_enter Try.func26, Try.ntmps26
  go_wp2_with fail
  refine HP.out.mono ?_
  rintro e w' ⟨rfl, hb⟩
  go_wp2_with fail
  go_ret
  exact ⟨rfl, hb.alloc hb.size _⟩

set_option maxRecDepth 100000 in
/-- A result that is the document's. -/
theorem is_calls (v : Value) (n : Nat) (w : World) (h : Row w v (dig n)) (hl : (dig n).length ≤ 1000000) :
    Calls Try.prog 31 #[bigN (kept n), .int .i64 (okE n), v] w (Yes w) := by
  have R0 : Row (w.alloc (row4 (limb (kept n)))) v (dig n) := h.below ((Below.refl _ _).alloc (Nat.le_refl _) _)
  have Q0 : Below w.heap.size w (w.alloc (row4 (limb (kept n)))) := (Below.refl _ _).alloc (Nat.le_refl _) _
  have B0 : Box (w.alloc (row4 (limb (kept n)))) w.heap.size (kept n) := Box.new w _
  have HI := Lib.hid (int_calls v n (w.alloc (row4 (limb (kept n)))) R0 hl)
  have HZ := Lib.hid bigN_zero
  by_cases hn : n < 18446744073709551616 ^ 4
  · have e1 : kept n = n := if_pos hn
    have e2 : okE n = 0 := if_pos hn
    have e3 : intV n = .tuple #[bigN n, .bool true] := if_pos hn
    rw [e1] at HI Q0 B0 ⊢
    rw [e3] at HI
    rw [e2]
    clear e1 e2 e3 R0 h hn
    go_enter Try.func31, Try.ntmps31
    go_wp2_with fail
    refine HI.out.mono ?_
    rintro e w' ⟨rfl, hb⟩
    have B1 := B0.later hb
    obtain ⟨c0, c1, c2, c3⟩ := B1.cells
    have lt1 := B1.lt
    have hbb := Q0.trans (hb.mono (by simp))
    go_wp2_with fail
    go_ret
    exact ⟨rfl, hbb.alloc (by omega) _⟩
  · have e1 : kept n = 0 := if_neg hn
    have e2 : okE n = 2 := if_neg hn
    have e3 : intV n = .tuple #[bigN 0, .bool false] := if_neg hn
    rw [e1] at HI Q0 B0 ⊢
    rw [e3] at HI
    rw [e2]
    rw [bigN_zero] at HI ⊢
    clear e1 e2 e3 R0 h hn
    simp only [row4, limb_zero] at HI Q0 B0 ⊢
    go_enter Try.func31, Try.ntmps31
    go_wp2_with fail
    refine HI.out.mono ?_
    rintro e w' ⟨rfl, hb⟩
    have B1 := B0.later hb
    obtain ⟨c0, c1, c2, c3⟩ := B1.cells
    have lt1 := B1.lt
    simp only [limb_zero] at c0 c1 c2 c3
    have hbb := Q0.trans (hb.mono (by simp))
    go_wp2_with fail
    go_ret
    exact ⟨rfl, hbb.alloc (by omega) _⟩

set_option maxHeartbeats 1000000 in
set_option maxRecDepth 100000 in
theorem hugeLows_calls (x : Int) (n : Nat) (w : World) (h0 : 0 ≤ x) (h1 : x < 18446744073709551616) (hn : n < 18446744073709551616 ^ 4) :
    Calls Try.prog 8 #[.int .u64 x, bigN n] w (Yes w) := by
  have hx : ∀ w : World, Calls Try.prog 27 #[.agg #[.int .u64 x, .int .u64 0, .int .u64 0, .int .u64 0]] w fun e w' => e = .returned (.tuple #[.int .u64 x, .bool true]) ∧ Below w.heap.size w w' := fun w => hlow_calls x 0 0 0 w
  have HX := Lib.hid hx
  clear hx hn
  have Q0 : Below w.heap.size w (w.alloc (obj4 (limb n 0) (limb n 1) (limb n 2) (limb n 3))) := (Below.refl _ _).alloc (Nat.le_refl _) _
  have B0 := Box.new w n
  have l0 := limb_bd n 0
  have l1 := limb_bd n 1
  have l2 := limb_bd n 2
  have l3 := limb_bd n 3
  have hl := fun w => hlow_calls (limb n 0) (limb n 1) (limb n 2) (limb n 3) w
  by_cases hm : limb n 1 = 0 ∧ limb n 2 = 0 ∧ limb n 3 = 0
  · rw [if_pos hm] at hl
    obtain ⟨m1, m2, m3⟩ := hm
    have HL := Lib.hid hl
    have HM := Lib.hid (And.intro m1 (And.intro m2 m3))
    clear hl m1 m2 m3
    go_enter Try.func8, Try.ntmps8
    go_wp2_with fail
    refine (lives2_calls _).mono ?_
    rintro e w1 ⟨rfl, hb1⟩
    have Q1 := Q0.trans (hb1.mono (by simp))
    have B1 := B0.later hb1
    go_wp2_with fail
    refine (hof_calls _ _).mono ?_
    rintro e w2 ⟨rfl, hb2⟩
    have Q2 := Q1.trans (hb2.mono Q1.size)
    have B2 := B1.later hb2
    go_wp2_with fail
    refine (HX.out _).mono ?_
    rintro e w3 ⟨rfl, hb3⟩
    have Q3 := Q2.trans (hb3.mono Q2.size)
    have B3 := B2.later hb3
    obtain ⟨c0, c1, c2, c3⟩ := B3.cells
    clear hb1 hb2 hb3 Q0 Q1 Q2 B0 B1 B2
    go_wp2_with fail
    refine (HL.out _).mono ?_
    rintro e w4 ⟨rfl, hb4⟩
    have B4 := B3.later hb4
    obtain ⟨c0', c1', c2', c3'⟩ := B4.cells
    rw [HM.out.1] at c1'
    rw [HM.out.2.1] at c2'
    rw [HM.out.2.2] at c3'
    clear c0 c1 c2 c3
    go_wp2_with fail
    refine (hof_calls _ _).mono ?_
    rintro e w5 ⟨rfl, hb5⟩
    have Q5 := (Q3.trans (hb4.mono Q3.size)).trans (hb5.mono (Nat.le_trans Q3.size hb4.size))
    obtain ⟨c0, -⟩ := (B4.later hb5).cells
    go_wp2_with fail
    go_ret
    exact ⟨rfl, Q5⟩
  · rw [if_neg hm] at hl
    have HL := Lib.hid hl
    have or1 := or64_bd l1.1 l1.2 l2.1 l2.2
    have or2 := or64_bd or1.1 or1.2.1 l3.1 l3.2
    have hor : (bits BinOp.or IntKind.u64 (bits BinOp.or IntKind.u64 (limb n 1) (limb n 2)) (limb n 3) != 0) = true := by
      rw [bne_iff_ne]
      intro h
      apply hm
      omega
    clear hl hm or1 or2
    go_enter Try.func8, Try.ntmps8
    go_wp2_with fail
    refine (lives2_calls _).mono ?_
    rintro e w1 ⟨rfl, hb1⟩
    have Q1 := Q0.trans (hb1.mono (by simp))
    have B1 := B0.later hb1
    go_wp2_with fail
    refine (hof_calls _ _).mono ?_
    rintro e w2 ⟨rfl, hb2⟩
    have Q2 := Q1.trans (hb2.mono Q1.size)
    have B2 := B1.later hb2
    go_wp2_with fail
    refine (HX.out _).mono ?_
    rintro e w3 ⟨rfl, hb3⟩
    have Q3 := Q2.trans (hb3.mono Q2.size)
    have B3 := B2.later hb3
    obtain ⟨c0, c1, c2, c3⟩ := B3.cells
    clear hb1 hb2 hb3 Q0 Q1 Q2 B0 B1 B2
    go_wp2_with fail
    refine (HL.out _).mono ?_
    rintro e w4 ⟨rfl, hb4⟩
    have B4 := B3.later hb4
    obtain ⟨c0', c1', c2', c3'⟩ := B4.cells
    generalize limb n 0 = y0 at *
    generalize limb n 1 = y1 at *
    generalize limb n 2 = y2 at *
    generalize limb n 3 = y3 at *
    clear c0 c1 c2 c3
    go_wp2_with fail
    refine (hof_calls _ _).mono ?_
    rintro e w5 ⟨rfl, hb5⟩
    have Q5 := (Q3.trans (hb4.mono Q3.size)).trans (hb5.mono (Nat.le_trans Q3.size hb4.size))
    go_wp2_with fail
    go_ret
    exact ⟨rfl, Q5⟩
end Go.Proofs.Ytoljemjnhomomaa
