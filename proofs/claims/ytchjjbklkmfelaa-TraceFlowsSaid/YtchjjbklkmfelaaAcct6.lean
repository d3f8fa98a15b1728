/- What lines give and take adds up, whichever way they are cut; a balance is what they give, less what they take. -/
import Derived.Test.YtchjjbklkmfelaaAcct5
namespace Go.Proofs.Ytchjjbklkmfelaa
open Go.RowKit Go.Lib
set_option linter.unusedVariables false
set_option linter.unusedSimpArgs false

def fit (a b : Nat) : Prop := a < 18446744073709551616 ^ 4 ∧ b < 18446744073709551616 ^ 4
instance (a b : Nat) : Decidable (fit a b) := inferInstanceAs (Decidable (_ ∧ _))
def k1 (a b : Nat) : Nat := if fit a b then a else 0
def k2 (a b : Nat) : Nat := if fit a b then b else 0
def ke (a b : Nat) : Int := if fit a b then 0 else 2
theorem totV_eq (a b : Nat) : totV a b = .tuple #[bigN (k1 a b), bigN (k2 a b), .int .i64 (ke a b)] := by
  by_cases h : fit a b
  · rw [k1, if_pos h, k2, if_pos h, ke, if_pos h]; exact if_pos h
  · rw [k1, if_neg h, k2, if_neg h, ke, if_neg h]; exact if_neg h
theorem k1_lt (a b : Nat) : k1 a b < 18446744073709551616 ^ 4 := by
  unfold k1
  split
  · next h => exact h.1
  · decide
theorem k2_lt (a b : Nat) : k2 a b < 18446744073709551616 ^ 4 := by
  unfold k2
  split
  · next h => exact h.2
  · decide
theorem ins_split (l : List (List Value)) (k : Nat) : (ins l).sum = (ins (l.take k)).sum + (ins (l.drop k)).sum := by
  conv => lhs; rw [← List.take_append_drop k l]
  unfold ins
  rw [List.filter_append, List.map_append, List.sum_append]
theorem outs_split (l : List (List Value)) (k : Nat) : (outs l).sum = (outs (l.take k)).sum + (outs (l.drop k)).sum := by
  conv => lhs; rw [← List.take_append_drop k l]
  unfold outs
  rw [List.filter_append, List.map_append, List.sum_append]
theorem getD_take {α : Type} (l : List α) (k i : Nat) (d : α) (h : i < k) : (l.take k).getD i d = l.getD i d := by
  rw [List.getD_eq_getElem?_getD, List.getD_eq_getElem?_getD, List.getElem?_take, if_pos h]
theorem getD_drop {α : Type} (l : List α) (k i : Nat) (d : α) : (l.drop k).getD i d = l.getD (k + i) d := by
  rw [List.getD_eq_getElem?_getD, List.getD_eq_getElem?_getD, List.getElem?_drop]
theorem Recs.cut {K : Kinds} {w : World} {A : Option Addr} {n c : Nat} {l : List (List Value)} (h : Recs K w (.slice A n c) l) (k : Nat) (hk : k ≤ n) : Recs K w (.slice A k c) (l.take k) := by
  obtain ⟨A', c', e, h1, h2, h4, h3⟩ := h
  cases e
  have hl : (l.take k).length = k := by rw [List.length_take]; omega
  refine ⟨A, c, by rw [hl], by rw [hl]; omega, h2, fun x hx => h4 x (List.mem_of_mem_take hx), ?_⟩
  rcases h3 with h3 | ⟨g', o', e, hc⟩
  · subst h3; exact .inl (by simp)
  · refine .inr ⟨g', o', e, fun i hi => ?_⟩
    rw [hl] at hi
    rw [getD_take _ _ _ _ hi]
    exact hc i (by omega)
theorem Recs.restNil {K : Kinds} {w : World} {A : Option Addr} {n c : Nat} {l : List (List Value)} (h : Recs K w (.slice A n c) l) (k : Nat) (hk : k ≤ n) (hc : c - k = 0) : Recs K w (.slice A (n - k) 0) (l.drop k) := by
  obtain ⟨A', c', e, h1, h2, h4, h3⟩ := h
  cases e
  have hl : l.drop k = [] := List.drop_eq_nil_of_le (by omega)
  rw [hl]
  have : l.length - k = 0 := by omega
  rw [this]
  exact ⟨A, 0, rfl, Nat.le_refl _, by unfold maxLen; omega, by simp, .inl rfl⟩
theorem Recs.rest {K : Kinds} {w : World} {A : Option Addr} {n c : Nat} {l : List (List Value)} (h : Recs K w (.slice A n c) l) (k : Nat) (hk : k ≤ n) : Recs K w (.slice (A.map fun x => x.add (k * K.length)) (n - k) (c - k)) (l.drop k) := by
  obtain ⟨A', c', e, h1, h2, h4, h3⟩ := h
  cases e
  have hl : (l.drop k).length = l.length - k := by rw [List.length_drop]
  refine ⟨_, c - k, by rw [hl], by rw [hl]; omega, by unfold maxLen at *; omega, fun x hx => h4 x (List.mem_of_mem_drop hx), ?_⟩
  rcases h3 with h3 | ⟨g', o', rfl, hc⟩
  · subst h3; exact .inl (by simp)
  · refine .inr ⟨g', o' + k * K.length, by rw [Option.map_some, Addr.add_lit], fun i hi => ?_⟩
    rw [hl] at hi
    rw [getD_drop]
    have := hc (k + i) (by omega)
    rw [Nat.add_mul, ← Nat.add_assoc] at this
    exact this

set_option maxHeartbeats 2000000 in
set_option maxRecDepth 100000 in
theorem accountTotals_many (v : Value) (who tok at' : Int) (l : List (List Value)) (w : World) (h : Recs evK w v l) (hl : 40 < l.length) :
    Calls Try.prog 6 #[v, .int .u8 who, .int .u8 tok, .int .u8 at'] w (Yes w) := by
  obtain ⟨A, c, rfl, a1, a2, -, -⟩ := id h
  unfold maxLen at a2
  have hl' : (40 : Int) < (l.length : Int) := by omega
  generalize l.length = n at *
  go_enter Try.func6, Try.ntmps6
  go_wp2_with fail
  refine (alives_calls _).mono ?_
  rintro e w1 ⟨rfl, hb1⟩
  go_wp2_with fail
  refine (alives_calls _).mono ?_
  rintro e w2 ⟨rfl, hb2⟩
  go_wp2_with fail
  go_ret
  exact ⟨rfl, hb1.trans (hb2.mono hb1.size)⟩

set_option maxHeartbeats 4000000 in
set_option maxRecDepth 100000 in
theorem accountTotals_few (v : Value) (who tok at' : Int) (l : List (List Value)) (w : World) (h : Recs evK w v l) (hl : l.length ≤ 40) (h0 : 0 ≤ at') (h1 : at' < 256) :
    Calls Try.prog 6 #[v, .int .u8 who, .int .u8 tok, .int .u8 at'] w (Yes w) := by
  have HR0 := Lib.hid h
  have HL := Lib.hid hl
  have hll := linesOf_len l who tok
  obtain ⟨A, c, rfl, a1, a2, -, -⟩ := id h
  unfold maxLen at a2
  have hl' : (l.length : Int) ≤ 40 := by omega
  generalize hn : l.length = n at *
  have HN := Lib.hid hn
  clear hn h
  go_enter Try.func6, Try.ntmps6
  go_wp2_with fail
  refine (alives_calls _).mono ?_
  rintro e w1 ⟨rfl, hb1⟩
  have HR1 := Lib.hid (HR0.out.below (by rw [evK_len]; decide) hb1)
  have HLi := Lib.hid (lines_calls _ who tok l w1 HR1.out (by rw [HN.out]; omega))
  clear HR0
  go_wp2_with fail
  refine HLi.out.mono ?_
  rintro e w2 ⟨r, rfl, ho, hb2⟩
  have HR2 := Lib.hid (HR1.out.below (by rw [evK_len]; decide) hb2)
  have Q2 := hb1.trans (hb2.mono hb1.size)
  have hrec := ho.recs
  obtain ⟨A2, c2, rfl, b1, b2, -, -⟩ := id hrec
  have HREC := Lib.hid hrec
  clear hrec ho HLi HR1 hb1 hb2
  unfold maxLen at b2
  obtain ⟨m, hm⟩ : ∃ m, (linesOf l who tok).length = m := ⟨_, rfl⟩
  rw [hm] at b1 hll HREC
  rw [hm]
  have HM := Lib.hid hm
  clear hm
  have hc8 : IntKind.i64.wrap at' = at' := IntWalk.i64_in _ (by omega)
  have hm1 : IntKind.i64.wrap ((m : Int) + 1) = (m : Int) + 1 := IntWalk.i64_in _ (by omega)
  obtain ⟨k, hk⟩ : ∃ k : Nat, at'.toNat % (m + 1) = k := ⟨_, rfl⟩
  have hkm : k ≤ m := by have := Nat.mod_lt at'.toNat (show 0 < m + 1 by omega); omega
  have hrem : at'.tmod ((m : Int) + 1) = (k : Int) := by
    rw [Int.tmod_eq_emod_of_nonneg h0, ← hk, Int.natCast_emod, Int.toNat_of_nonneg h0]
    rfl
  have HK := Lib.hid hk
  clear hk
  have hnz : ((m : Int) + 1 == 0) = false := beq_eq_false_iff_ne.2 (by omega)
  have HT1 := Lib.hid (totals_calls _ _ w2 HREC.out (by rw [HM.out]; omega))
  go_upto_region 5 with fail
  have hv1 : totsV (linesOf l who tok) = totV (ins (linesOf l who tok)).sum (outs (linesOf l who tok)).sum := rfl
  have HV1 := Lib.hid (hv1.trans (totV_eq _ _))
  rw [HV1.out] at HT1
  clear hv1 HV1
  have HA1 := Lib.hid (And.intro (k1_lt (ins (linesOf l who tok)).sum (outs (linesOf l who tok)).sum) (k2_lt (ins (linesOf l who tok)).sum (outs (linesOf l who tok)).sum))
  obtain ⟨A1, hA1⟩ : ∃ a, k1 (ins (linesOf l who tok)).sum (outs (linesOf l who tok)).sum = a := ⟨_, rfl⟩
  obtain ⟨A2', hA2⟩ : ∃ a, k2 (ins (linesOf l who tok)).sum (outs (linesOf l who tok)).sum = a := ⟨_, rfl⟩
  obtain ⟨AE, hAE⟩ : ∃ a, ke (ins (linesOf l who tok)).sum (outs (linesOf l who tok)).sum = a := ⟨_, rfl⟩
  rw [hA1, hA2, hAE] at HT1
  rw [hA1, hA2] at HA1
  have HEA := Lib.hid (And.intro hA1 (And.intro hA2 hAE))
  clear hA1 hA2 hAE
  go_wp2_with fail
  refine HT1.out.mono ?_
  rintro e w3 ⟨rfl, hb3⟩
  have Q3 := Q2.trans (hb3.mono Q2.size)
  have HREC3 := Lib.hid (HREC.out.below (by decide) hb3)
  have HR3 := Lib.hid (HR2.out.below (by rw [evK_len]; decide) hb3)
  have X1 := (Box.new w3 A1).alloc (row4 (limb A2'))
  have X2 := Box.new (w3.alloc (row4 (limb A1))) A2'
  rw [World.size_alloc] at X2
  have Q4 : Below w3.heap.size w3 ((w3.alloc (row4 (limb A1))).alloc (row4 (limb A2'))) := ((Below.refl _ _).alloc (Nat.le_refl _) _).alloc (by simp) _
  go_upto_region 6 with fail
  obtain ⟨W4, hW4⟩ : ∃ W4, (w3.alloc (row4 (limb A1))).alloc (row4 (limb A2')) = W4 := ⟨_, rfl⟩
  dsimp only [row4] at hW4 X1 X2 Q4
  rw [hW4] at X1 X2 Q4
  rw [hW4]
  clear hW4
  have Q5 := Q3.trans (Q4.mono Q3.size)
  have HREC4 := Lib.hid (HREC3.out.below (by decide) Q4)
  have HR4 := Lib.hid (HR3.out.below (by rw [evK_len]; decide) Q4)
  clear HR2 HR3
  have HT2 := Lib.hid (totals_calls _ _ W4 (HREC4.out.cut k hkm) (by rw [List.length_take]; have := HM.out; omega))
  have hv2 : totsV ((linesOf l who tok).take k) = totV (ins ((linesOf l who tok).take k)).sum (outs ((linesOf l who tok).take k)).sum := rfl
  have HV2 := Lib.hid (hv2.trans (totV_eq _ _))
  rw [HV2.out] at HT2
  clear hv2 HV2
  have HC1 := Lib.hid (And.intro (k1_lt (ins ((linesOf l who tok).take k)).sum (outs ((linesOf l who tok).take k)).sum) (k2_lt (ins ((linesOf l who tok).take k)).sum (outs ((linesOf l who tok).take k)).sum))
  obtain ⟨C1, hC1⟩ : ∃ a, k1 (ins ((linesOf l who tok).take k)).sum (outs ((linesOf l who tok).take k)).sum = a := ⟨_, rfl⟩
  obtain ⟨C2, hC2⟩ : ∃ a, k2 (ins ((linesOf l who tok).take k)).sum (outs ((linesOf l who tok).take k)).sum = a := ⟨_, rfl⟩
  obtain ⟨CE, hCE⟩ : ∃ a, ke (ins ((linesOf l who tok).take k)).sum (outs ((linesOf l who tok).take k)).sum = a := ⟨_, rfl⟩
  rw [hC1, hC2, hCE] at HT2
  rw [hC1, hC2] at HC1
  have HEC := Lib.hid (And.intro hC1 (And.intro hC2 hCE))
  clear HT1 HREC HREC3 Q2 Q3 hC1 hC2 hCE
  go_wp2_with fail
  refine HT2.out.mono ?_
  rintro e w5 ⟨rfl, hb5⟩
  have Q6 := Q5.trans (hb5.mono Q5.size)
  have HREC5 := Lib.hid (HREC4.out.below (by decide) hb5)
  have HR5 := Lib.hid (HR4.out.below (by rw [evK_len]; decide) hb5)
  have X1b := X1.later hb5
  have X2b := X2.later hb5
  have Y1 := (Box.new w5 C1).alloc (row4 (limb C2))
  have Y2 := Box.new (w5.alloc (row4 (limb C1))) C2
  rw [World.size_alloc] at Y2
  have X1c := (X1b.alloc (row4 (limb C1))).alloc (row4 (limb C2))
  have X2c := (X2b.alloc (row4 (limb C1))).alloc (row4 (limb C2))
  have Q7 : Below w5.heap.size w5 ((w5.alloc (row4 (limb C1))).alloc (row4 (limb C2))) := ((Below.refl _ _).alloc (Nat.le_refl _) _).alloc (by simp) _
  go_upto_region 7 with fail
  obtain ⟨W6, hW6⟩ : ∃ W6, (w5.alloc (row4 (limb C1))).alloc (row4 (limb C2)) = W6 := ⟨_, rfl⟩
  dsimp only [row4] at hW6 Y1 Y2 Q7 X1c X2c
  rw [hW6] at Y1 Y2 Q7 X1c X2c
  rw [hW6]
  clear hW6
  have Q8 := Q6.trans (Q7.mono Q6.size)
  have HREC6 := Lib.hid (HREC5.out.below (by decide) Q7)
  have HR6 := Lib.hid (HR5.out.below (by rw [evK_len]; decide) Q7)
  clear HR4 HR5
  clear HT2 HREC4 HREC5 Q5 Q6 X1 X2 X1b X2b hb5 Q4
  have HD1 := Lib.hid (And.intro (k1_lt (ins ((linesOf l who tok).drop k)).sum (outs ((linesOf l who tok).drop k)).sum) (k2_lt (ins ((linesOf l who tok).drop k)).sum (outs ((linesOf l who tok).drop k)).sum))
  have hv3 : totsV ((linesOf l who tok).drop k) = totV (ins ((linesOf l who tok).drop k)).sum (outs ((linesOf l who tok).drop k)).sum := rfl
  have HV3 := Lib.hid (hv3.trans (totV_eq _ _))
  clear hv3
  obtain ⟨D1, hD1⟩ : ∃ a, k1 (ins ((linesOf l who tok).drop k)).sum (outs ((linesOf l who tok).drop k)).sum = a := ⟨_, rfl⟩
  obtain ⟨D2, hD2⟩ : ∃ a, k2 (ins ((linesOf l who tok).drop k)).sum (outs ((linesOf l who tok).drop k)).sum = a := ⟨_, rfl⟩
  obtain ⟨DE, hDE⟩ : ∃ a, ke (ins ((linesOf l who tok).drop k)).sum (outs ((linesOf l who tok).drop k)).sum = a := ⟨_, rfl⟩
  rw [hD1, hD2, hDE] at HV3
  rw [hD1, hD2] at HD1
  have HED := Lib.hid (And.intro hD1 (And.intro hD2 hDE))
  clear hD1 hD2 hDE
  have hspl : ∃ r3, Recs lineK W6 r3 ((linesOf l who tok).drop k) ∧ ((c2 - k = 0 ∧ r3 = .slice A2 (m - k) 0) ∨ (¬ c2 - k = 0 ∧ r3 = .slice (A2.map fun x => x.add (k * 7)) (m - k) (c2 - k))) := by
    by_cases hc : c2 - k = 0
    · exact ⟨_, HREC6.out.restNil k hkm hc, .inl ⟨hc, rfl⟩⟩
    · exact ⟨_, HREC6.out.rest k hkm, .inr ⟨hc, rfl⟩⟩
  obtain ⟨r3, hr3, hcs⟩ := hspl
  have HT3 := Lib.hid (totals_calls r3 _ W6 hr3 (by rw [List.length_drop]; have := HM.out; omega))
  rw [HV3.out] at HT3
  clear hr3 HV3 HREC6
  rcases hcs with ⟨hc, hr⟩ | ⟨hc, hr⟩
  all_goals
    rw [hr] at HT3
    go_wp2_with fail
    refine HT3.out.mono ?_
    rintro e w7 ⟨rfl, hb7⟩
    have Q9 := Q8.trans (hb7.mono Q8.size)
    have HR7 := Lib.hid (HR6.out.below (by rw [evK_len]; decide) hb7)
    have X1d := ((X1c.later hb7).alloc (row4 (limb D1))).alloc (row4 (limb D2))
    have X2d := ((X2c.later hb7).alloc (row4 (limb D1))).alloc (row4 (limb D2))
    have Y1d := ((Y1.later hb7).alloc (row4 (limb D1))).alloc (row4 (limb D2))
    have Y2d := ((Y2.later hb7).alloc (row4 (limb D1))).alloc (row4 (limb D2))
    have Z1 := (Box.new w7 D1).alloc (row4 (limb D2))
    have Z2 := Box.new (w7.alloc (row4 (limb D1))) D2
    rw [World.size_alloc] at Z2
    have Q10 : Below w7.heap.size w7 ((w7.alloc (row4 (limb D1))).alloc (row4 (limb D2))) := ((Below.refl _ _).alloc (Nat.le_refl _) _).alloc (by simp) _
    go_upto_region 8 with fail
    obtain ⟨W8, hW8⟩ : ∃ W8, (w7.alloc (row4 (limb D1))).alloc (row4 (limb D2)) = W8 := ⟨_, rfl⟩
    dsimp only [row4] at hW8 X1d X2d Y1d Y2d Z1 Z2 Q10
    rw [hW8] at X1d X2d Y1d Y2d Z1 Z2 Q10
    rw [hW8]
    clear hW8
    have Q11 := Q9.trans (Q10.mono Q9.size)
    have HR8 := Lib.hid (HR7.out.below (by rw [evK_len]; decide) Q10)
    clear HT3 HR6 HR7 Q8 Q9 Q10 X1c X2c Y1 Y2 hb7 hc hr
    have hbal : balV l who tok = (if fit (ins (linesOf l who tok)).sum (outs (linesOf l who tok)).sum then (if (outs (linesOf l who tok)).sum ≤ (ins (linesOf l who tok)).sum then .tuple #[bigN ((ins (linesOf l who tok)).sum - (outs (linesOf l who tok)).sum), .int .i64 0] else .tuple #[bigN 0, .int .i64 8]) else .tuple #[bigN 0, .int .i64 2]) := rfl
    have HBal := Lib.hid hbal
    have HB8 := Lib.hid (balance_calls _ who tok l W8 HR8.out (by rw [HN.out]; omega))
    clear hbal
    obtain ⟨hA1, hA2, hAE⟩ := HEA.out
    by_cases hf : fit (ins (linesOf l who tok)).sum (outs (linesOf l who tok)).sum
    · obtain ⟨hC1, hC2, hCE⟩ := HEC.out
      obtain ⟨hD1, hD2, hDE⟩ := HED.out
      have s1 := ins_split (linesOf l who tok) k
      have s2 := outs_split (linesOf l who tok) k
      have hf' : (ins (linesOf l who tok)).sum < 18446744073709551616 ^ 4 ∧ (outs (linesOf l who tok)).sum < 18446744073709551616 ^ 4 := hf
      have hfc : fit (ins ((linesOf l who tok).take k)).sum (outs ((linesOf l who tok).take k)).sum := ⟨by omega, by omega⟩
      have hfd : fit (ins ((linesOf l who tok).drop k)).sum (outs ((linesOf l who tok).drop k)).sum := ⟨by omega, by omega⟩
      rw [if_pos hf] at HBal
      rw [k1, if_pos hf] at hA1
      rw [k2, if_pos hf] at hA2
      rw [ke, if_pos hf] at hAE
      rw [k1, if_pos hfc] at hC1
      rw [k2, if_pos hfc] at hC2
      rw [ke, if_pos hfc] at hCE
      rw [k1, if_pos hfd] at hD1
      rw [k2, if_pos hfd] at hD2
      rw [ke, if_pos hfd] at hDE
      rw [hA1, hC1, hD1] at s1
      rw [hA2, hC2, hD2] at s2
      rw [hA1, hA2] at HBal
      rw [hA1, hA2] at hf'
      subst hAE hCE hDE
      rw [HBal.out] at HB8
      have HAd1 := Lib.hid (fun w => hadd_calls C1 D1 w (by omega) (by omega))
      have HAd2 := Lib.hid (fun w => hadd_calls C2 D2 w (by omega) (by omega))
      rw [← s1, sumV_lt hf'.1] at HAd1
      rw [← s2, sumV_lt hf'.2] at HAd2
      have HSb := Lib.hid (fun w => hsub_calls A1 A2' w hf'.1 hf'.2)
      have HF := Lib.hid hf'
      clear hA1 hA2 hC1 hC2 hD1 hD2 hf hfc hfd HEA HEC HED HA1 HC1 HD1 hf' s1 s2
      have HB := Lib.hid (fun w hr => balance_calls (.slice A n c) who tok l w hr (by rw [HN.out]; omega))
      rw [HBal.out] at HB
      obtain ⟨p0, p1, p2, p3⟩ := Y1d.cells
      obtain ⟨q0, q1, q2, q3⟩ := Z1.cells
      have lp := Y1d.lt
      have lq := Z1.lt
      clear HB8
      go_wp2_with fail
      refine (HAd1.out _).mono ?_
      rintro e w9 ⟨rfl, hb9⟩
      have X1e := (X1d.later hb9).alloc (row4 (limb A1))
      have X2e := (X2d.later hb9).alloc (row4 (limb A1))
      have Y2e := (Y2d.later hb9).alloc (row4 (limb A1))
      have Z2e := (Z2.later hb9).alloc (row4 (limb A1))
      have U1 := Box.new w9 A1
      have Q12 := Q11.trans (hb9.mono Q11.size)
      have Q13 := Q12.alloc Q12.size (row4 (limb A1))
      have HR9 := Lib.hid ((HR8.out.below (by rw [evK_len]; decide) hb9).below (by rw [evK_len]; decide) ((Below.refl _ _).alloc (Nat.le_refl _) (row4 (limb A1))))
      go_upto_region 12 with fail
      obtain ⟨W9, hW9⟩ : ∃ W9, w9.alloc (row4 (limb A1)) = W9 := ⟨_, rfl⟩
      dsimp only [row4] at hW9 X1e X2e Y2e Z2e U1 Q13 HR9
      rw [hW9] at X1e X2e Y2e Z2e U1 Q13 HR9
      rw [hW9]
      clear hW9 p0 p1 p2 p3 q0 q1 q2 q3 lp lq X1d X2d Y1d Y2d Z1 Z2 Q11 Q12 hb9 HR8 HAd1
      obtain ⟨p0, p1, p2, p3⟩ := Y2e.cells
      obtain ⟨q0, q1, q2, q3⟩ := Z2e.cells
      have lp := Y2e.lt
      have lq := Z2e.lt
      go_wp2_with fail
      refine (HAd2.out _).mono ?_
      rintro e w10 ⟨rfl, hb10⟩
      have X1f := (X1e.later hb10).alloc (row4 (limb A2'))
      have X2f := (X2e.later hb10).alloc (row4 (limb A2'))
      have U1f := (U1.later hb10).alloc (row4 (limb A2'))
      have U2f := Box.new w10 A2'
      have Q14 := Q13.trans (hb10.mono Q13.size)
      have Q15 := Q14.alloc Q14.size (row4 (limb A2'))
      have HR10 := Lib.hid ((HR9.out.below (by rw [evK_len]; decide) hb10).below (by rw [evK_len]; decide) ((Below.refl _ _).alloc (Nat.le_refl _) (row4 (limb A2'))))
      go_upto_region 13 with fail
      obtain ⟨W10, hW10⟩ : ∃ W10, w10.alloc (row4 (limb A2')) = W10 := ⟨_, rfl⟩
      dsimp only [row4] at hW10 X1f X2f U1f U2f Q15 HR10
      rw [hW10] at X1f X2f U1f U2f Q15 HR10
      rw [hW10]
      clear hW10 p0 p1 p2 p3 q0 q1 q2 q3 lp lq X1e X2e Y2e Z2e U1 Q13 Q14 hb10 HR9 HAd2
      obtain ⟨p0, p1, p2, p3⟩ := X1f.cells
      obtain ⟨q0, q1, q2, q3⟩ := X2f.cells
      obtain ⟨u0, u1, u2, u3⟩ := U1f.cells
      obtain ⟨t0, t1, t2, t3⟩ := U2f.cells
      have lp := X1f.lt
      have lq := X2f.lt
      have lu := U1f.lt
      have lt' := U2f.lt
      go_wp2_with fail
      refine (HB.out _ HR10.out).mono ?_
      rintro e w11 ⟨rfl, hb11⟩
      have X1g := X1f.later hb11
      have X2g := X2f.later hb11
      have Q16 := Q15.trans (hb11.mono Q15.size)
      clear p0 p1 p2 p3 q0 q1 q2 q3 u0 u1 u2 u3 t0 t1 t2 t3 lp lq lu lt' X1f X2f U1f U2f Q15 hb11 HR10 HB
      obtain ⟨p0, p1, p2, p3⟩ := X1g.cells
      obtain ⟨q0, q1, q2, q3⟩ := X2g.cells
      have lp := X1g.lt
      have lq := X2g.lt
      have hdv : diffV A1 A2' = if A2' ≤ A1 then .tuple #[bigN (A1 - A2'), .int .i64 0] else .tuple #[bigN 0, .int .i64 2] := rfl
      rw [hdv] at HSb
      clear hdv HBal
      by_cases hle : A2' ≤ A1
      · rw [if_pos hle] at HSb ⊢
        have V1 := Box.new w11 (A1 - A2')
        have Q17 := Q16.alloc Q16.size (row4 (limb (A1 - A2')))
        generalize A1 - A2' = df at *
        go_wp2_with fail
        refine (HSb.out _).mono ?_
        rintro e w12 ⟨rfl, hb12⟩
        have V2 := V1.later hb12
        have Q18 := Q17.trans (hb12.mono Q17.size)
        obtain ⟨v0, v1, v2, v3⟩ := V2.cells
        have lv := V2.lt
        clear p0 p1 p2 p3 q0 q1 q2 q3 lp lq V1 V2 Q16 Q17 hb12 X1g X2g HSb
        go_wp2_with fail
        go_ret
        exact ⟨rfl, Q18.alloc Q18.size _⟩
      · rw [if_neg hle] at HSb ⊢
        rw [bigN_zero] at HSb ⊢
        have V1 := Box.new w11 0
        have Q17 := Q16.alloc Q16.size (row4 (limb 0))
        simp only [row4, limb_zero] at V1 Q17
        go_wp2_with fail
        refine (HSb.out _).mono ?_
        rintro e w12 ⟨rfl, hb12⟩
        have V2 := V1.later hb12
        have Q18 := Q17.trans (hb12.mono Q17.size)
        obtain ⟨v0, v1, v2, v3⟩ := V2.cells
        simp only [limb_zero] at v0 v1 v2 v3
        have lv := V2.lt
        clear p0 p1 p2 p3 q0 q1 q2 q3 lp lq V1 V2 Q16 Q17 hb12 X1g X2g HSb
        go_wp2_with fail
        go_ret
        exact ⟨rfl, Q18.alloc Q18.size _⟩
    · rw [if_neg hf] at HBal
      rw [k1, if_neg hf] at hA1
      rw [k2, if_neg hf] at hA2
      rw [ke, if_neg hf] at hAE
      subst hA1 hA2 hAE
      rw [HBal.out, bigN_zero] at HB8
      obtain ⟨x0, x1, x2, x3⟩ := X1d.cells
      obtain ⟨y0, y1, y2, y3⟩ := X2d.cells
      simp only [limb_zero] at x0 x1 x2 x3 y0 y1 y2 y3
      have B1 := X1d.lt
      have B2 := X2d.lt
      clear X1d X2d Y1d Y2d Z1 Z2 hf HEA HEC HED HA1 HC1 HD1
      go_wp2_with fail
      refine HB8.out.mono ?_
      rintro e w9 ⟨rfl, hb9⟩
      have HX := And.intro (hb9.cell (p := ⟨w3.heap.size, 0, none⟩) B1) (And.intro (hb9.cell (p := ⟨w3.heap.size, 1, none⟩) B1) (And.intro (hb9.cell (p := ⟨w3.heap.size, 2, none⟩) B1) (hb9.cell (p := ⟨w3.heap.size, 3, none⟩) B1)))
      have HY := And.intro (hb9.cell (p := ⟨w3.heap.size + 1, 0, none⟩) B2) (And.intro (hb9.cell (p := ⟨w3.heap.size + 1, 1, none⟩) B2) (And.intro (hb9.cell (p := ⟨w3.heap.size + 1, 2, none⟩) B2) (hb9.cell (p := ⟨w3.heap.size + 1, 3, none⟩) B2)))
      rw [x0, x1, x2, x3] at HX
      rw [y0, y1, y2, y3] at HY
      clear x0 x1 x2 x3 y0 y1 y2 y3
      obtain ⟨x0, x1, x2, x3⟩ := HX
      obtain ⟨y0, y1, y2, y3⟩ := HY
      have B1' := Nat.lt_of_lt_of_le B1 hb9.size
      have B2' := Nat.lt_of_lt_of_le B2 hb9.size
      have Q12 := Q11.trans (hb9.mono Q11.size)
      clear Q11 hb9 HB8 B1 B2
      go_wp2_with fail
      go_ret
      exact ⟨rfl, Q12.alloc Q12.size _⟩
theorem accountTotals_calls (v : Value) (who tok at' : Int) (w : World) (h : ∃ l, Recs evK w v l) (a0 : 0 ≤ who) (a1 : who < 256) (b0 : 0 ≤ tok) (b1 : tok < 256) (h0 : 0 ≤ at') (h1 : at' < 256) :
    Calls Try.prog 6 #[v, .int .u8 who, .int .u8 tok, .int .u8 at'] w (Yes w) := by
  obtain ⟨l, h⟩ := h
  rcases Nat.lt_or_ge 40 l.length with hl | hl
  · exact accountTotals_many v who tok at' l w h hl
  · exact accountTotals_few v who tok at' l w h hl h0 h1
end Go.Proofs.Ytchjjbklkmfelaa
