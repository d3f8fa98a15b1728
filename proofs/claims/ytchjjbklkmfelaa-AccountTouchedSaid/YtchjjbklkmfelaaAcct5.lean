/- account.Balance; the chapter's example. -/
import Derived.Test.YtchjjbklkmfelaaAcct4
import Derived.Test.YtchjjbklkmfelaaTyped
namespace Go.Proofs.Ytchjjbklkmfelaa
open Go.RowKit Go.Lib
set_option linter.unusedVariables false
set_option linter.unusedSimpArgs false

/-- What an account has: what lines give, less what they take. -/
def balV (l : List (List Value)) (who tok : Int) : Value :=
  let a := (ins (linesOf l who tok)).sum; let b := (outs (linesOf l who tok)).sum
  if a < 18446744073709551616 ^ 4 ∧ b < 18446744073709551616 ^ 4 then (if b ≤ a then .tuple #[bigN (a - b), .int .i64 0] else .tuple #[bigN 0, .int .i64 8]) else .tuple #[bigN 0, .int .i64 2]
theorem linesOf_len (l : List (List Value)) (who tok : Int) : (linesOf l who tok).length ≤ 2 * l.length := linesN_len l who tok l.length

set_option maxHeartbeats 4000000 in
set_option maxRecDepth 100000 in
theorem balance_calls (v : Value) (who tok : Int) (l : List (List Value)) (w : World) (h : Recs evK w v l) (hl : l.length ≤ 1000) :
    Calls Try.prog 23 #[v, .int .u8 who, .int .u8 tok] w fun e w' => e = .returned (balV l who tok) ∧ Below w.heap.size w w' := by
  have B0 := Box.zero w
  have Q0 : Below w.heap.size w (w.alloc (obj4 0 0 0 0)) := (Below.refl _ _).alloc (Nat.le_refl _) _
  have HLn := Lib.hid (lines_calls v who tok l (w.alloc (obj4 0 0 0 0)) (h.below (by rw [evK_len]; decide) Q0) hl)
  have hll := linesOf_len l who tok
  have HV : balV l who tok = (if (ins (linesOf l who tok)).sum < 18446744073709551616 ^ 4 ∧ (outs (linesOf l who tok)).sum < 18446744073709551616 ^ 4 then (if (outs (linesOf l who tok)).sum ≤ (ins (linesOf l who tok)).sum then .tuple #[bigN ((ins (linesOf l who tok)).sum - (outs (linesOf l who tok)).sum), .int .i64 0] else .tuple #[bigN 0, .int .i64 8]) else .tuple #[bigN 0, .int .i64 2]) := rfl
  have HVh := Lib.hid HV
  clear HV h
  have HZ := Lib.hid bigN_zero
  go_enter Try.func23, Try.ntmps23
  go_wp2_with fail
  refine HLn.out.mono ?_
  rintro e w1 ⟨r, rfl, ho, hb1⟩
  have b1 := B0.later hb1
  have Q1 := Q0.trans (hb1.mono Q0.size)
  have HT := Lib.hid (totals_calls r (linesOf l who tok) w1 ho.recs (by omega))
  have hts : totsV (linesOf l who tok) = if (ins (linesOf l who tok)).sum < 18446744073709551616 ^ 4 ∧ (outs (linesOf l who tok)).sum < 18446744073709551616 ^ 4 then .tuple #[bigN (ins (linesOf l who tok)).sum, bigN (outs (linesOf l who tok)).sum, .int .i64 0] else .tuple #[bigN 0, bigN 0, .int .i64 2] := rfl
  have HTS := Lib.hid hts
  clear ho B0 Q0 hb1 HLn hts
  generalize (ins (linesOf l who tok)).sum = a at *
  generalize (outs (linesOf l who tok)).sum = b at *
  go_wp2_with fail
  refine HT.out.mono ?_
  rintro e w2 ⟨rfl, hb2⟩
  have b2 := b1.later hb2
  have Q2 := Q1.trans (hb2.mono Q1.size)
  clear HT b1 Q1 hb2
  rw [HTS.out]
  by_cases hab : a < 18446744073709551616 ^ 4 ∧ b < 18446744073709551616 ^ 4
  · rw [if_pos hab] at HVh ⊢
    have X1 := Box.new w2 a
    have X2 := Box.new (w2.alloc (row4 (limb a))) b
    have X1' := X1.alloc (row4 (limb b))
    have b2' := (b2.alloc (row4 (limb a))).alloc (row4 (limb b))
    have Q2' := (Q2.alloc Q2.size (row4 (limb a))).alloc (by simp; have := Q2.size; omega) (row4 (limb b))
    rw [World.size_alloc] at X2
    have HS := Lib.hid (fun w => hsub_calls a b w hab.1 hab.2)
    clear HTS X1 b2 Q2 hab
    go_upto_region 2 with fail
    obtain ⟨W3, hW3⟩ : ∃ W3, (w2.alloc (row4 (limb a))).alloc (row4 (limb b)) = W3 := ⟨_, rfl⟩
    dsimp only [row4] at hW3 X1' X2 b2' Q2'
    rw [hW3] at X1' X2 b2' Q2'
    rw [hW3]
    clear hW3
    obtain ⟨x0, x1, x2, x3⟩ := X1'.cells
    obtain ⟨y0, y1, y2, y3⟩ := X2.cells
    have lx := X1'.lt
    have ly := X2.lt
    go_wp2_with fail
    refine (HS.out _).mono ?_
    rintro e w4 ⟨rfl, hb4⟩
    have b4 := b2'.later hb4
    have Q4 := Q2'.trans (hb4.mono Q2'.size)
    have hdv : diffV a b = if b ≤ a then .tuple #[bigN (a - b), .int .i64 0] else .tuple #[bigN 0, .int .i64 2] := rfl
    rw [hdv]
    clear hdv HS x0 x1 x2 x3 y0 y1 y2 y3 lx ly X1' X2 b2' Q2' hb4
    obtain ⟨r0, r1, r2, r3⟩ := b4.cells
    obtain ⟨d0, d1, d2, d3⟩ := b4.free
    have lt4 := b4.lt
    by_cases hle : b ≤ a
    · rw [if_pos hle] at HVh ⊢
      generalize a - b = c at *
      clear b4
      go_wp2_with fail
      exact bodyPost_ret (v := .tuple #[bigN c, .int .i64 0]) (by simp [results, Try.results23, go_sem, r0, r1, r2, r3, lt4]) rfl ⟨by rw [HVh.out], (below_store Q4 (Nat.le_refl _) _ _ _ _).alloc (by rw [store_size]; exact Q4.size) _⟩
    · rw [if_neg hle] at HVh ⊢
      rw [HZ.out] at HVh ⊢
      clear b4
      go_wp2_with fail
      exact bodyPost_ret (v := .tuple #[big 0 0 0 0, .int .i64 8]) (by simp [results, Try.results23, go_sem, r0, r1, r2, r3, lt4]) rfl ⟨by rw [HVh.out], (below_store Q4 (Nat.le_refl _) _ _ _ _).alloc (by rw [store_size]; exact Q4.size) _⟩
  · rw [if_neg hab] at HVh ⊢
    rw [HZ.out] at HVh ⊢
    obtain ⟨r0, r1, r2, r3⟩ := b2.cells
    obtain ⟨d0, d1, d2, d3⟩ := b2.free
    have lt4 := b2.lt
    have hsz := Q2.size
    clear b2 HTS
    go_wp2_with fail
    refine bodyPost_ret (v := .tuple #[big 0 0 0 0, .int .i64 2]) (by simp [results, Try.results23, go_sem, r0, r1, r2, r3, lt4]) rfl ⟨by rw [HVh.out], ?_⟩
    exact ((below_store Q2 (Nat.le_refl _) _ _ _ _).alloc (by rw [store_size]; exact Q2.size) _).alloc (by rw [World.size_alloc, store_size]; omega) _
set_option maxRecDepth 100000 in
def aEv1 : List Value := [.int .u8 0, .int .u64 0, .int .u8 0, .int .u8 0, .int .u8 0, .int .u8 0, .int .u8 0, .int .u8 0, .int .u8 0, .int .u8 0, .int .u8 0, .int .u8 0, .int .u8 0, .int .u8 0, .int .u8 0, .int .u8 0, .int .u8 0, .int .u8 0, .int .u8 0, .int .u8 0, .int .u8 0, .int .u8 0, .int .u8 0, .int .u8 0, .int .u8 0, .int .u8 0, .int .u8 0, .int .u8 0, .int .u8 0, .int .u8 0, .int .u8 0, .int .u8 0, .int .u8 0, .int .u8 0, .int .u8 0, .int .u8 0, .int .u8 0, .int .u8 1, .int .u64 5, .int .u64 0, .int .u64 0, .int .u64 0, .int .u64 0, .int .u64 0, .int .u64 0, .int .u64 0, .int .u32 0]
set_option maxRecDepth 100000 in
def aEv2 : List Value := [.int .u8 9, .int .u64 0, .int .u8 0, .int .u8 0, .int .u8 0, .int .u8 0, .int .u8 0, .int .u8 0, .int .u8 0, .int .u8 0, .int .u8 0, .int .u8 0, .int .u8 0, .int .u8 0, .int .u8 0, .int .u8 0, .int .u8 0, .int .u8 0, .int .u8 0, .int .u8 0, .int .u8 0, .int .u8 0, .int .u8 0, .int .u8 0, .int .u8 0, .int .u8 0, .int .u8 0, .int .u8 0, .int .u8 0, .int .u8 0, .int .u8 0, .int .u8 0, .int .u8 0, .int .u8 0, .int .u8 0, .int .u8 0, .int .u8 1, .int .u8 0, .int .u64 2, .int .u64 0, .int .u64 0, .int .u64 0, .int .u64 0, .int .u64 0, .int .u64 0, .int .u64 0, .int .u32 0]
theorem aEv1_typed : Typed evK aEv1 := typed_of_B _ _ (by kernel_rfl)
theorem aEv2_typed : Typed evK aEv2 := typed_of_B _ _ (by kernel_rfl)
theorem aBal : balV [aEv1, aEv2] 1 0 = .tuple #[bigN 3, .int .i64 0] := by kernel_rfl
theorem two_recs {K : Kinds} {w : World} {g : Nat} {x y : List Value} (hx : Typed K x) (hy : Typed K y) (h : w.rangeAt g 0 (x ++ y)) : Recs K w (.slice (some ⟨g, 0, none⟩) 2 2) [x, y] := by
  refine ⟨some ⟨g, 0, none⟩, 2, rfl, Nat.le_refl _, by unfold maxLen; omega, fun z hz => ?_, .inr ⟨g, 0, rfl, fun i hi j v hv => ?_⟩⟩
  · rcases List.mem_cons.1 hz with rfl | hz
    · exact hx
    · rw [List.mem_singleton.1 hz]; exact hy
  · have hx' := hx.length
    have hy' := hy.length
    match i, hi with
    | 0, _ =>
      have hj : j < x.length := (List.getElem?_eq_some_iff.1 hv).1
      have := h j v (by rw [List.getElem?_append_left hj]; exact hv)
      simpa using this
    | 1, _ =>
      have := h (x.length + j) v (by rw [List.getElem?_append_right (by omega), Nat.add_sub_cancel_left]; exact hv)
      rw [hx', ← Nat.add_assoc] at this
      rwa [Nat.one_mul]

set_option maxHeartbeats 2000000 in
set_option maxRecDepth 100000 in
theorem alives_calls (w : World) : Calls Try.prog 20 #[] w (Yes w) := by
  have hrec := two_recs aEv1_typed aEv2_typed (range_alloc w (aEv1 ++ aEv2).toArray 31)
  have hB := balance_calls _ 1 0 [aEv1, aEv2] _ hrec (by decide)
  rw [aBal] at hB
  have HB := Lib.hid hB
  have Q0 : Below w.heap.size w (w.alloc (.cells (aEv1 ++ aEv2).toArray 31)) := (Below.refl _ _).alloc (Nat.le_refl _) _
  have HQ := Lib.hid Q0
  have e3 : bigN 3 = big 3 0 0 0 := by kernel_rfl
  have HE := Lib.hid e3
  clear hB hrec Q0 e3
  go_enter Try.func20, Try.ntmps20
  go_wp2_with fail
  refine HB.out.mono ?_
  rintro e w' ⟨rfl, hb⟩
  have hQ := HQ.out.trans (hb.mono HQ.out.size)
  rw [HE.out]
  clear hb HB HQ
  go_wp2_with fail
  go_ret
  exact ⟨rfl, hQ.alloc hQ.size _⟩
end Go.Proofs.Ytchjjbklkmfelaa
