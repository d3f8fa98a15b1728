/- Any number's text is the document's, and is parsed to it; any text is parsed just if it is a number's. -/
import Derived.Test.YtoljemjnhomomaaText2
import Derived.Test.YtoljemjnhomomaaText4
namespace Go.Proofs.Ytoljemjnhomomaa
open Go.RowKit Go.Lib
set_option linter.unusedVariables false
set_option linter.unusedSimpArgs false

set_option maxHeartbeats 1000000 in
set_option maxRecDepth 100000 in
theorem hugeTexts_many (n : Nat) (s : ByteArray) (w : World) (hl : 200 < s.size) :
    Calls Try.prog 13 #[bigN n, .string s] w (Yes w) := by
  have hl' : (200 : Int) < (s.size : Int) := by omega
  have Q0 : Below w.heap.size w (w.alloc (row4 (limb n))) := (Below.refl _ _).alloc (Nat.le_refl _) _
  go_enter Try.func13, Try.ntmps13
  go_wp2_with fail
  refine (lives2_calls _).mono ?_
  rintro e w1 ⟨rfl, hb1⟩
  go_wp2_with fail
  refine (lives2_calls _).mono ?_
  rintro e w2 ⟨rfl, hb2⟩
  go_wp2_with fail
  go_ret
  exact ⟨rfl, Q0.trans ((hb1.mono (by simp)).trans (hb2.mono (Nat.le_trans (by simp) hb1.size)))⟩

set_option maxHeartbeats 2000000 in
set_option maxRecDepth 100000 in
theorem hugeTexts_few (n : Nat) (s : ByteArray) (w : World) (hn : n < 18446744073709551616 ^ 4) (hl : s.size ≤ 200) :
    Calls Try.prog 13 #[bigN n, .string s] w (Yes w) := by
  have hl' : (s.size : Int) ≤ 200 := by omega
  have Q0 : Below w.heap.size w (w.alloc (row4 (limb n))) := (Below.refl _ _).alloc (Nat.le_refl _) _
  have X0 := Box.new w n
  obtain ⟨T, hT⟩ : ∃ T : ByteArray, T = ⟨(textN n).toArray⟩ := ⟨_, rfl⟩
  have hTl : T.data.toList = textN n := by rw [hT]
  have hTs : T.size ≤ 78 := by
    have := textN_len n hn
    rw [← hTl] at this
    simpa using this
  have HText := Lib.hid (fun w => htext_calls n w hn)
  have HRText := Lib.hid (fun w => rtext_calls n w hn)
  have HPT := Lib.hid (fun w => hparse_calls T w (by omega))
  rw [hTl, parseV_textN, sumV_lt hn] at HPT
  rw [← hT] at HText HRText
  have HPS := Lib.hid (fun w => hparse_calls s w (by omega))
  have HRS := Lib.hid (fun w => rparse_calls s w (by omega))
  have hcase : (∃ m, m < 18446744073709551616 ^ 4 ∧ parseV s.data.toList = .tuple #[bigN m, .int .i64 0] ∧ (⟨(textN m).toArray⟩ : ByteArray) = s) ∨ (∃ e : Int, e ≠ 0 ∧ parseV s.data.toList = .tuple #[bigN 0, .int .i64 e]) := by
    by_cases hb : badText s.data.toList
    · exact .inr ⟨6, by decide, if_pos hb⟩
    · have e : parseV s.data.toList = sumV (decV s.data.toList) := if_neg hb
      by_cases hm : decV s.data.toList < 18446744073709551616 ^ 4
      · refine .inl ⟨_, hm, by rw [e, sumV_lt hm], ?_⟩
        rw [textN_of _ hb]
      · refine .inr ⟨2, by decide, by rw [e, sumV_ge (by omega), bigN_zero]⟩
  have HC := Lib.hid hcase
  clear hcase hT hTl hTs hn hl
  go_enter Try.func13, Try.ntmps13
  go_wp2_with fail
  refine (lives2_calls _).mono ?_
  rintro e w1 ⟨rfl, hb1⟩
  have X1 := X0.later hb1
  have Q1 := Q0.trans (hb1.mono Q0.size)
  obtain ⟨x0, x1, x2, x3⟩ := X1.cells
  have lx1 := X1.lt
  clear X0 Q0 hb1
  go_wp2_with fail
  refine (HText.out _).mono ?_
  rintro e w2 ⟨rfl, hb2⟩
  have X2 := X1.later hb2
  have Q2 := Q1.trans (hb2.mono Q1.size)
  clear x0 x1 x2 x3 lx1 X1 Q1 hb2
  go_wp2_with fail
  refine (HPT.out _).mono ?_
  rintro e w3 ⟨rfl, hb3⟩
  have X3 := X2.later hb3
  have Q3 := Q2.trans (hb3.mono Q2.size)
  clear X2 Q2 hb3
  obtain ⟨x0, x1, x2, x3⟩ := X3.cells
  have lx3 := X3.lt
  have Y3 := Box.new w3 n
  have X3a := X3.alloc (row4 (limb n))
  have Q3a := Q3.alloc Q3.size (row4 (limb n))
  go_wp2_with fail
  refine (HRText.out _).mono ?_
  rintro e w4 ⟨rfl, hb4⟩
  have X4 := X3a.later hb4
  have Y4 := Y3.later hb4
  have Q4 := Q3a.trans (hb4.mono Q3a.size)
  clear x0 x1 x2 x3 lx3 X3 Q3 hb4 X3a Q3a Y3
  obtain ⟨x0, x1, x2, x3⟩ := X4.cells
  obtain ⟨y0, y1, y2, y3⟩ := Y4.cells
  have lx4 := X4.lt
  have ly4 := Y4.lt
  go_wp2_with fail
  refine (HPS.out _).mono ?_
  rintro e w5 ⟨rfl, hb5⟩
  have Q5 := Q4.trans (hb5.mono Q4.size)
  clear x0 x1 x2 x3 y0 y1 y2 y3 lx4 ly4 X4 Y4 Q4 hb5 HPS HPT HRText
  rcases HC.out with ⟨m, hm, e1, e2⟩ | ⟨x, hx, e1⟩
  · rw [e1] at HRS ⊢
    have Z5 := Box.new w5 m
    have Q5a := Q5.alloc Q5.size (row4 (limb m))
    have HMT := Lib.hid (fun w => htext_calls m w hm)
    rw [e2] at HMT
    clear HC HText e1 e2 hm
    go_wp2_with fail
    refine (HRS.out _).mono ?_
    rintro e w6 ⟨rfl, hb6⟩
    have Z6 := Z5.later hb6
    have Q6 := Q5a.trans (hb6.mono Q5a.size)
    have U6 := Box.new w6 m
    have Z6a := Z6.alloc (row4 (limb m))
    have Q6a := Q6.alloc Q6.size (row4 (limb m))
    clear Z5 Q5 Q5a hb6 HRS
    obtain ⟨x0, x1, x2, x3⟩ := Z6.cells
    have lx6 := Z6.lt
    go_wp2_with fail
    refine (HMT.out _).mono ?_
    rintro e w7 ⟨rfl, hb7⟩
    have Q7 := Q6a.trans (hb7.mono Q6a.size)
    clear x0 x1 x2 x3 lx6 Z6 Z6a U6 Q6 Q6a hb7 HMT
    go_wp2_with fail
    go_ret
    exact ⟨rfl, Q7⟩
  · rw [e1] at HRS ⊢
    have hx' : (x == 0) = false := beq_eq_false_iff_ne.2 hx
    have HZ := Lib.hid bigN_zero
    have Z5 := Box.new w5 0
    have Q5a := Q5.alloc Q5.size (row4 (limb 0))
    clear HC HText e1
    go_wp2_with fail
    refine (HRS.out _).mono ?_
    rintro e w6 ⟨rfl, hb6⟩
    have Z6 := Z5.later hb6
    have Q6 := Q5a.trans (hb6.mono Q5a.size)
    have Q6a := Q6.alloc Q6.size (row4 (limb 0))
    clear Z5 Q5 Q5a hb6 HRS
    obtain ⟨x0, x1, x2, x3⟩ := Z6.cells
    have lx6 := Z6.lt
    go_wp2_with fail
    go_ret
    exact ⟨rfl, Q6a⟩

theorem hugeTexts_calls (n : Nat) (s : ByteArray) (w : World) (hn : n < 18446744073709551616 ^ 4) (hs : s.size ≤ maxLen) :
    Calls Try.prog 13 #[bigN n, .string s] w (Yes w) := by
  rcases Nat.lt_or_ge 200 s.size with h | h
  · exact hugeTexts_many n s w h
  · exact hugeTexts_few n s w hn h
end Go.Proofs.Ytoljemjnhomomaa
