/- HugeSums: the sum of any numbers, in whatever order. -/
import Derived.Test.YtoljemjnhomomaaLaw2b
import Derived.Test.YtoljemjnhomomaaNums
namespace Go.Proofs.Ytoljemjnhomomaa
open Go.RowKit Go.Lib
set_option linter.unusedVariables false
set_option linter.unusedSimpArgs false

def cells4L (n : Nat) : List Value := [.int .u64 (limb n 0), .int .u64 (limb n 1), .int .u64 (limb n 2), .int .u64 (limb n 3)]
def numsL (l : List Nat) : List Value := l.flatMap cells4L
theorem numsL_length (l : List Nat) : (numsL l).length = l.length * 4 := by
  induction l with
  | nil => rfl
  | cons a l ih => simp only [numsL, List.flatMap_cons, List.length_append] at ih ⊢; rw [ih]; simp [cells4L]; omega
theorem numsL_at (l : List Nat) (i j : Nat) (hi : i < l.length) (hj : j < 4) : (numsL l)[i * 4 + j]? = some (.int .u64 (limb (l.getD i 0) j)) := by
  induction l generalizing i with
  | nil => simp at hi
  | cons a l ih =>
    cases i with
    | zero =>
      match j, hj with
      | 0, _ => rfl
      | 1, _ => rfl
      | 2, _ => rfl
      | 3, _ => rfl
    | succ i =>
      have : (numsL (a :: l)) = cells4L a ++ numsL l := by simp [numsL]
      rw [this, List.getElem?_append_right (by simp [cells4L]; omega)]
      have e : (i + 1) * 4 + j - (cells4L a).length = i * 4 + j := by simp [cells4L]; omega
      rw [e, ih i (by simpa using hi)]
      simp

/-- A slice of numbers that the call itself makes. -/
def OwnN (w : World) (base : Nat) (v : Value) (l : List Nat) : Prop := w.ownsRow base 42 4 v l.length (numsL l)
theorem OwnN.nil (w : World) (base : Nat) : OwnN w base (.slice none 0 0) [] := World.ownsRow_nil _ _ _ _
theorem OwnN.below {w w' : World} {base : Nat} {v : Value} {l : List Nat} (h : OwnN w base v l) (hb : Below w.heap.size w w') : OwnN w' base v l := by
  refine ⟨h.1, ?_⟩
  rcases h.2 with hn | ⟨g, cap, cur, rfl, hbg, hg, rest⟩
  · exact .inl hn
  · exact .inr ⟨g, cap, cur, rfl, hbg, by rw [hb.block g (Array.getElem?_eq_some_iff.1 hg).1]; exact hg, rest⟩
theorem OwnN.nums {w : World} {base : Nat} {v : Value} {l : List Nat} (h : OwnN w base v l) : Nums w v l := by
  have h0 := h
  rcases h.2 with ⟨rfl, hn⟩ | ⟨g, cap, cur, rfl, hb, hg, hn, hm, hs, ht⟩
  · obtain rfl : l = [] := List.length_eq_zero_iff.1 hn
    exact ⟨none, 0, rfl, Nat.le_refl _, by unfold maxLen; omega, .inl rfl⟩
  · refine ⟨some ⟨g, 0, none⟩, cap, rfl, hn, hm, .inr ⟨g, 0, rfl, fun i hi j hj => ?_⟩⟩
    have := World.ownsRow.cells h0 (g := g) rfl (i * 4 + j) _ (numsL_at l i j hi hj)
    have hadd : (⟨g, 0, none⟩ : Addr).add (i * 4 + j) = ⟨g, 0 + i * 4 + j, none⟩ := by unfold Addr.add; split <;> simp_all
    rw [hadd] at this
    exact this

theorem Row.grown {w w' : World} {v : Value} {l : List Int} {r : Option Nat} (h : Row w v l) (hg : w.grownBy w' r) (hne : v.ownBlock ≠ r ∨ v.ownBlock = none) : Row w' v l := by
  obtain ⟨A, c, rfl, h1, h2, h3⟩ := h
  refine ⟨A, c, rfl, h1, h2, ?_⟩
  rcases h3 with h3 | ⟨g, o, rfl, hc⟩
  · exact .inl h3
  · refine .inr ⟨g, o, rfl, fun j hj => hg.cell (hc j hj) ?_⟩
    rcases hne with hne | hne
    · exact hne
    · simp [Value.ownBlock] at hne

theorem info4 : (Try.prog.info? 42).map (fun i => (i.zero, i.size, i.bytes)) = some (some (.agg #[.int .u64 0, .int .u64 0, .int .u64 0, .int .u64 0]), 4, 32) := by kernel_rfl

theorem wpList_app_num {ops : Array Oper} {rest : List Oper} {o : Oper} {a : Act} {Q : Exit → Act → World → Prop} {w : World} (hgd : o.guard = none) (s x : Operand)
    (ho : o.op = .call { callee := .builtin .append, args := #[s, x], argTypes := #[47, 47] })
    (base : Nat) (v : Value) (l : List Nat) (hs : a.eval s = v) (hown : OwnN w base v l) (y : Nat)
    (hx : a.eval x = .slice (some ⟨w.heap.size, 0, none⟩) 1 1) (hlen : l.length ≤ 1000000000) (hbase : base ≤ w.heap.size)
    (h : ∀ v' w', OwnN w' base v' (l ++ [y]) → (w.alloc (row4 (limb y))).grownBy w' v.ownBlock → Below base w w' → w.heap.size + 1 ≤ w'.heap.size → wpList Try.prog ops Q rest (a.put o.dst v') w') :
    wpList Try.prog ops Q (o :: rest) a (w.alloc (row4 (limb y))) := by
  obtain ⟨i0, hi, hz0, hz1, hz2⟩ := info_parts info4
  refine wpList_append_own _ hgd s x 47 ho base 42 i0 _ 4 32 Try.underlying47 hi hz0 hz1 hz2 rfl (by decide) v l.length (numsL l) hs (World.ownsRow.alloc hown _) ⟨w.heap.size, 0, none⟩ 1 1 (cells4L y) hx rfl ?_ ?_ (by unfold maxLen; omega) (by omega) (by simp; omega) ?_
  · intro j u hj
    match j, hj with
    | 0, hj => simp [cells4L] at hj; subst hj; have := (Box.new w y).cells.1; simp [Addr.add]; exact this
    | 1, hj => simp [cells4L] at hj; subst hj; have := (Box.new w y).cells.2.1; simp [Addr.add]; exact this
    | 2, hj => simp [cells4L] at hj; subst hj; have := (Box.new w y).cells.2.2.1; simp [Addr.add]; exact this
    | 3, hj => simp [cells4L] at hj; subst hj; have := (Box.new w y).cells.2.2.2; simp [Addr.add]; exact this
  · intro u hu; simp [cells4L] at hu; rcases hu with rfl | rfl | rfl | rfl <;> rfl
  · intro v' w' h1 h2 _
    refine h v' w' ?_ h2 ?_ ?_
    · unfold OwnN
      have : numsL (l ++ [y]) = numsL l ++ cells4L y := by simp [numsL]
      rw [List.length_append, this]; exact h1
    · exact ((Below.refl base w).alloc hbase _).grown h2 (by simp; omega) (fun k hk => (World.ownsRow.lt hown k hk).1)
    · have := h2.size; simp at this; omega

theorem rev_take (l : List Nat) (k : Nat) (h : k < l.length) : l.reverse.take (k + 1) = l.reverse.take k ++ [l.getD (l.length - 1 - k) 0] := by
  rw [List.take_succ_eq_append_getElem (by simpa using h), List.getElem_reverse, List.getD_eq_getElem?_getD, List.getElem?_eq_getElem (by omega)]
  rfl

theorem mem_getD {l : List Nat} {k : Nat} (h : k < l.length) : l.getD k 0 ∈ l := by
  rw [List.getD_eq_getElem?_getD, List.getElem?_eq_getElem h]
  exact List.getElem_mem _
theorem dig_len_sum {l : List Nat} (h : ∀ x ∈ l, x < 18446744073709551616 ^ 4) (hl : l.length ≤ 65536) : l.sum < 65536 ^ 17 := by
  have : l.sum ≤ l.length * 18446744073709551616 ^ 4 := by
    clear hl
    induction l with
    | nil => simp
    | cons a l ih =>
      have h1 := ih fun x hx => h x (List.mem_cons_of_mem _ hx)
      have h2 := h a (List.mem_cons_self ..)
      simp only [List.sum_cons, List.length_cons]
      rw [Nat.add_mul, Nat.one_mul]
      omega
  rw [show (65536 : Nat) ^ 17 = 65536 * 18446744073709551616 ^ 4 by decide]
  rcases Nat.eq_zero_or_pos l.length with h0 | h0
  · rw [h0] at this; omega
  · have h3 : l.length * 18446744073709551616 ^ 4 ≤ 65536 * 18446744073709551616 ^ 4 := Nat.mul_le_mul_right _ hl
    rcases Nat.lt_or_ge l.sum (65536 * 18446744073709551616 ^ 4) with h4 | h4
    · exact h4
    · exfalso
      have h5 : l.sum < l.length * 18446744073709551616 ^ 4 := by
        clear this h3 h4 hl
        induction l with
        | nil => simp at h0
        | cons a l ih =>
          have h2 := h a (List.mem_cons_self ..)
          simp only [List.sum_cons, List.length_cons]
          rw [Nat.add_mul, Nat.one_mul]
          rcases Nat.eq_zero_or_pos l.length with h6 | h6
          · obtain rfl : l = [] := List.length_eq_zero_iff.1 h6
            simp; exact h2
          · have := ih (fun x hx => h x (List.mem_cons_of_mem _ hx)) h6
            omega
      omega

set_option maxHeartbeats 1000000 in
set_option maxRecDepth 100000 in
theorem hugeSums_many (v : Value) (l : List Nat) (w : World) (h : Nums w v l) (hl : 30 < l.length) :
    Calls Try.prog 9 #[v] w (Yes w) := by
  obtain ⟨A, c, rfl, a1, a2, -⟩ := id h
  unfold maxLen at a2
  have hl' : (30 : Int) < (l.length : Int) := by omega
  generalize l.length = n at *
  go_enter Try.func9, Try.ntmps9
  go_wp2_with fail
  refine (lives2_calls _).mono ?_
  rintro e w1 ⟨rfl, hb1⟩
  go_wp2_with fail
  refine (lives2_calls _).mono ?_
  rintro e w2 ⟨rfl, hb2⟩
  go_wp2_with fail
  go_ret
  exact ⟨rfl, hb1.trans (hb2.mono hb1.size)⟩

set_option maxHeartbeats 1000000 in
set_option maxRecDepth 100000 in
theorem hugeSums_few (v : Value) (l : List Nat) (w : World) (h : Nums w v l) (hl : l.length ≤ 30) (hlt : ∀ x ∈ l, x < 18446744073709551616 ^ 4) :
    Calls Try.prog 9 #[v] w (Yes w) := by
  obtain ⟨A, c, rfl, a1, a2, -⟩ := id h
  unfold maxLen at a2
  have HN := Lib.hid h
  have HLt := Lib.hid hlt
  have hl' : (l.length : Int) ≤ 30 := by omega
  have HS17 := Lib.hid (dig_len_sum hlt (by omega))
  have HLL := Lib.hid (show l.length ≤ 1000000 by omega)
  clear hlt h
  generalize hn : l.length = n at *
  have HL := Lib.hid hn
  clear hn
  go_enter Try.func9, Try.ntmps9
  go_wp2_with fail
  refine (lives2_calls _).mono ?_
  rintro e w1 ⟨rfl, hb1⟩
  go_wp2_with fail
  go_loopw [3, 4, 20] (fun x b i wr => ∃ k : Nat, i = .int .i64 k ∧ k ≤ n ∧ Row wr x (dig (l.take k).sum) ∧ OwnN wr w.heap.size b (l.reverse.take k) ∧ Below w.heap.size w wr) (fun _ _ i _ => n - (intOf i).toNat)
  case atStart => exact ⟨0, rfl, by omega, by rw [List.take_zero, List.sum_nil, dig_zero]; exact Row.nil _, OwnN.nil _ _, hb1⟩
  case round =>
    obtain ⟨k, rfl, hk, hx, hbk, hb⟩ := hrel
    by_cases hk1 : k < n
    · have hk1' : (k : Int) < (n : Int) := by omega
      obtain ⟨g, o, rfl, hg, hc⟩ := HN.out.at k hk1
      obtain ⟨g', o', e', hg', hc'⟩ := HN.out.at (n - 1 - k) (by omega)
      cases e'
      have HT := Lib.hid (sum_take l k (by rw [HL.out]; exact hk1))
      have HR := Lib.hid (rev_take l k (by rw [HL.out]; exact hk1))
      rw [HL.out] at HR
      have HM := Lib.hid (HLt.out _ (mem_getD (l := l) (k := k) (by rw [HL.out]; exact hk1)))
      have c0 := (hb.cell (p := ⟨g, o + k * 4 + 0, none⟩) hg).trans (hc 0 (by omega))
      have c1 := (hb.cell (p := ⟨g, o + k * 4 + 1, none⟩) hg).trans (hc 1 (by omega))
      have c2 := (hb.cell (p := ⟨g, o + k * 4 + 2, none⟩) hg).trans (hc 2 (by omega))
      have c3 := (hb.cell (p := ⟨g, o + k * 4 + 3, none⟩) hg).trans (hc 3 (by omega))
      rw [Nat.add_zero] at c0
      have HS := Lib.hid (show (dig (l.take k).sum).length ≤ 1000000 from Nat.le_trans (dig_len_le (k := 17) (Nat.lt_of_le_of_lt (sum_take_le l k) HS17.out)) (by decide))
      have HXd := Lib.hid (show (dig (l.getD k 0)).length ≤ 1000000 from Nat.le_trans (dig_len_le (k := 16) (by rw [show (65536 : Nat) ^ 16 = 18446744073709551616 ^ 4 by decide]; exact HM.out)) (by decide))
      clear hc
      generalize l.getD k 0 = x at *
      go_wp2_with fail
      refine (rowof_calls x _ HM.out).mono ?_
      rintro e w2 ⟨v2, rfl, r2, f2, hb2⟩
      go_wp2_with fail
      refine (add_calls _ _ _ _ _ (hx.below hb2) r2 HS.out HXd.out).mono ?_
      rintro e w3 ⟨v3, rfl, r3, f3, hb3⟩
      have Q3 := (hb.trans (hb2.mono hb.size)).trans (hb3.mono (Nat.le_trans hb.size hb2.size))
      have hown := (hbk.below hb2).below hb3
      have hi : IntKind.i64.wrap ((n : Int) - 1) = (n : Int) - 1 := IntWalk.i64_in _ (by omega)
      have hi2 : IntKind.i64.wrap ((n : Int) - 1 - (k : Int)) = ((n - 1 - k : Nat) : Int) := by rw [show ((n : Int) - 1 - (k : Int)) = ((n - 1 - k : Nat) : Int) by omega]; exact IntWalk.i64_in _ (by omega)
      have hj : n - 1 - k < n := by omega
      have d0 := (Q3.cell (p := ⟨g, o + (n - 1 - k) * 4 + 0, none⟩) hg).trans (hc' 0 (by omega))
      have d1 := (Q3.cell (p := ⟨g, o + (n - 1 - k) * 4 + 1, none⟩) hg).trans (hc' 1 (by omega))
      have d2 := (Q3.cell (p := ⟨g, o + (n - 1 - k) * 4 + 2, none⟩) hg).trans (hc' 2 (by omega))
      have d3 := (Q3.cell (p := ⟨g, o + (n - 1 - k) * 4 + 3, none⟩) hg).trans (hc' 3 (by omega))
      rw [Nat.add_zero] at d0
      clear c0 c1 c2 c3 hc'
      generalize l.getD (n - 1 - k) 0 = y at *
      have HJ := Lib.hid (show n - 1 - k = n - 1 - k from rfl)
      generalize n - 1 - k = j at *
      have hj' : (j : Int) < (n : Int) := by omega
      have hfr : v3.ownBlock ≠ u4.ownBlock ∨ v3.ownBlock = none := by
        cases hq : v3.ownBlock with
        | none => exact .inr rfl
        | some q =>
          left
          intro e
          have h1 := (World.ownsRow.lt hbk q e.symm).2
          have h2 := f3 q hq
          have h3 := hb2.size
          omega
      have HFr := Lib.hid hfr
      have hlk : (l.reverse.take k).length ≤ 1000000000 := by rw [List.length_take]; omega
      have HLk := Lib.hid hlk
      clear hfr hlk
      go_wp2_with (at_builtin; refine wpList_app_num rfl _ _ rfl _ _ _ rfl hown y rfl ?c1 ?c2 ?_)
      case c1 => exact HLk.out
      case c2 => exact Q3.size
      intro v' w' ho hgr hb4 hz4
      have hrow := Row.grown (r3.below ((Below.refl _ _).alloc (Nat.le_refl _) (row4 (limb y)))) hgr HFr.out
      have Q4 := hb.trans ((hb2.mono hb.size).trans ((hb3.mono (Nat.le_trans hb.size hb2.size)).trans hb4))
      go_wp2
      go_roundw
      case rel => exact ⟨k + 1, by go_num, by omega, by rw [HT.out]; exact hrow, by rw [HR.out]; exact ho, Q4⟩
      case measure => simp [intOf]; omega
    · have hk1' : ¬ (k : Int) < (n : Int) := by omega
      have he : k = n := by omega
      subst he
      have e1 : l.take k = l := List.take_of_length_le (by rw [HL.out]; exact Nat.le_refl _)
      have e2 : l.reverse.take k = l.reverse := List.take_of_length_le (by rw [List.length_reverse, HL.out]; exact Nat.le_refl _)
      rw [e1] at hx
      rw [e2] at hbk
      have hsr : l.reverse.sum = l.sum := List.sum_reverse l
      have HSum := Lib.hid (fun w h => hsum_calls (.slice A k c) l w h (by rw [HL.out]; exact HLL.out) HLt.out)
      have HSum2 := Lib.hid (fun w h => hsum_calls u4 l.reverse w h (by rw [List.length_reverse, HL.out]; exact HLL.out) (fun x hx => HLt.out x (by simpa using hx)))
      rw [hsr] at HSum2
      simp only [sumV_kept] at HSum HSum2
      have HIs := Lib.hid (fun v w h => is_calls v l.sum w h (Nat.le_trans (dig_len_le HS17.out) (by decide)))
      generalize l.sum = S at *
      clear e1 e2 hsr
      go_wp2_with fail
      refine (HSum.out _ (HN.out.below hb)).mono ?_
      rintro e w2 ⟨rfl, hb2⟩
      have U2 := Box.new w2 (kept S)
      have Q2 := (hb.trans (hb2.mono hb.size)).alloc (Nat.le_trans hb.size hb2.size) (row4 (limb (kept S)))
      have hx2 := (hx.below hb2).below ((Below.refl _ w2).alloc (Nat.le_refl _) (row4 (limb (kept S))))
      have hb2' := ((OwnN.below hbk hb2).nums).below ((Below.refl _ w2).alloc (Nat.le_refl _) (row4 (limb (kept S))))
      go_wp2_with fail
      obtain ⟨W2, hW2⟩ : ∃ W, w2.alloc (row4 (limb (kept S))) = W := ⟨_, rfl⟩
      dsimp only [row4] at hW2
      rw [hW2]
      dsimp only [row4] at U2 Q2 hx2 hb2'
      rw [hW2] at U2 Q2 hx2 hb2'
      clear hW2 hb2 hb hx hbk
      generalize w2.heap.size = s at *
      refine (HSum2.out _ hb2').mono ?_
      rintro e w3 ⟨rfl, hb3⟩
      have U3 := (U2.later hb3).alloc (row4 (limb (kept S)))
      have V3 := Box.new w3 (kept S)
      have Q3 := (Q2.trans (hb3.mono Q2.size)).alloc (Nat.le_trans Q2.size hb3.size) (row4 (limb (kept S)))
      have hx3 := (hx2.below hb3).below ((Below.refl _ w3).alloc (Nat.le_refl _) (row4 (limb (kept S))))
      obtain ⟨a0, a1, a2, a3⟩ := (U2.later hb3).cells
      have lx := (U2.later hb3).lt
      go_wp2_with fail
      clear a0 a1 a2 a3 lx
      obtain ⟨W3, hW3⟩ : ∃ W, w3.alloc (row4 (limb (kept S))) = W := ⟨_, rfl⟩
      dsimp only [row4] at hW3
      rw [hW3]
      dsimp only [row4] at U3 V3 Q3 hx3
      rw [hW3] at U3 V3 Q3 hx3
      clear hW3 hb3 U2 Q2 hx2 hb2'
      generalize w3.heap.size = t at *
      refine (HIs.out _ _ hx3).mono ?_
      rintro e w4 ⟨rfl, hb4⟩
      have Q4 := Q3.trans (hb4.mono Q3.size)
      obtain ⟨x0, x1, x2, x3⟩ := (U3.later hb4).cells
      obtain ⟨y0, y1, y2, y3⟩ := (V3.later hb4).cells
      go_wp2_with fail
      go_ret
      exact ⟨rfl, Q4⟩

theorem hugeSums_calls (v : Value) (w : World) (h : ∃ l, Nums w v l ∧ ∀ x ∈ l, x < 18446744073709551616 ^ 4) :
    Calls Try.prog 9 #[v] w (Yes w) := by
  obtain ⟨l, h1, h2⟩ := h
  rcases Nat.lt_or_ge 30 l.length with h3 | h3
  · exact hugeSums_many v l w h1 h3
  · exact hugeSums_few v l w h1 h3 h2
end Go.Proofs.Ytoljemjnhomomaa
