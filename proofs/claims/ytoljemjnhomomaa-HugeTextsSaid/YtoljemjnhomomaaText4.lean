/- ref02.Parse: a text of decimal digits as a number, or why it is none, by the document. -/
import Derived.Test.YtoljemjnhomomaaText3
import Derived.Test.YtoljemjnhomomaaRef5
namespace Go.Proofs.Ytoljemjnhomomaa
open Go.RowKit Go.Lib
set_option linter.unusedVariables false
set_option linter.unusedSimpArgs false

set_option maxHeartbeats 1000000 in
set_option maxRecDepth 100000 in
theorem rparse_bad0 (s : ByteArray) (w : World) (hs : s.size ≤ 1000000) (h : s.data.toList = [] ∨ (1 < s.data.toList.length ∧ s.data.toList.getD 0 0 = 48)) :
    Calls Try.prog 44 #[.string s] w fun e w' => e = .returned (.tuple #[bigN 0, .int .i64 6]) ∧ Below w.heap.size w w' := by
  have Q0 : Below w.heap.size w (w.alloc (obj4 0 0 0 0)) := (Below.refl _ _).alloc (Nat.le_refl _) _
  have B0 := Box.zero w
  have HZ := Lib.hid bigN_zero
  rcases h with h | ⟨h1, h2⟩
  · have h0 : s.toList.isEmpty = true := by rw [ByteArray.toList_eq, h]; rfl
    clear h
    go_enter Try.func44, Try.ntmps44
    go_upto_region 1 with fail
    obtain ⟨W, hW⟩ : ∃ W, w.alloc (obj4 0 0 0 0) = W := ⟨_, rfl⟩
    dsimp only [obj4] at hW Q0 B0
    rw [hW] at Q0 B0
    rw [hW]
    clear hW
    obtain ⟨r0, r1, r2, r3⟩ := B0.cells
    obtain ⟨d0, d1, d2, d3⟩ := B0.free
    have lt0 := B0.lt
    go_wp2_with fail
    exact bodyPost_ret (v := .tuple #[big 0 0 0 0, .int .i64 6]) (by simp [results, Try.results44, go_sem, r0, r1, r2, r3, lt0]) rfl ⟨by rw [HZ.out], below_store Q0 (Nat.le_refl _) 0 0 0 0⟩
  · have hl : 1 < s.size := by simpa using h1
    have h0 : s.toList.isEmpty = false := by
      rw [ByteArray.toList_eq]
      cases hh : s.data.toList with
      | nil => rw [hh] at h1; simp at h1
      | cons a b => rfl
    rw [getD_byte s 0 (by omega)] at h2
    have h3 : (((s[0]'(by omega) : UInt8).toNat : Int) == 48) = true := by rw [h2]; rfl
    have hl' : (1 : Int) < (s.size : Int) := by omega
    clear h1 h2
    go_enter Try.func44, Try.ntmps44
    go_upto_region 1 with fail
    obtain ⟨W, hW⟩ : ∃ W, w.alloc (obj4 0 0 0 0) = W := ⟨_, rfl⟩
    dsimp only [obj4] at hW Q0 B0
    rw [hW] at Q0 B0
    rw [hW]
    clear hW
    obtain ⟨r0, r1, r2, r3⟩ := B0.cells
    obtain ⟨d0, d1, d2, d3⟩ := B0.free
    have lt0 := B0.lt
    go_wp2_with fail
    exact bodyPost_ret (v := .tuple #[big 0 0 0 0, .int .i64 6]) (by simp [results, Try.results44, go_sem, r0, r1, r2, r3, lt0]) rfl ⟨by rw [HZ.out], below_store Q0 (Nat.le_refl _) 0 0 0 0⟩
theorem Row.drew {w : World} {v : Value} {l : List Int} (h : Row w v l) : Row w.drew v l := h
theorem mul_at (v : Value) {n : Nat} (wr : World) (h : Row wr v (dig n)) (hl : (dig n).length ≤ 1000000) (X : World) (v' : Value) (hb : Below wr.heap.size wr X) (h10 : Row X v' (dig 10)) :
    Calls Try.prog 22 #[v, v'] X fun e w' => ∃ v, e = .returned v ∧ Row w' v (dig (n * 10)) ∧ Below wr.heap.size wr w' ∧ Below X.heap.size X w' := by
  refine (mul_calls v v' n 10 X (h.below hb) h10 hl (by rw [dig_ten]; decide)).mono ?_
  rintro e w' ⟨v, rfl, hr, -, hX⟩
  exact ⟨v, rfl, hr, hb.trans (hX.mono hb.size), hX⟩
theorem of_at {c : Nat} (wr : World) (hc : c < 256) (hcd : 48 ≤ c ∧ c ≤ 57) (X : World) (hb : Below wr.heap.size wr X) :
    Calls Try.prog 18 #[.int .u64 ((c : Int) - 48)] X fun e w' => ∃ v, e = .returned v ∧ Row w' v (dig (c - 48)) ∧ Below wr.heap.size wr w' ∧ Below X.heap.size X w' := by
  have h := of_calls ((c : Int) - 48) X (by omega) (by omega)
  rw [show ((c : Int) - 48).toNat = c - 48 by omega] at h
  refine h.mono ?_
  rintro e w' ⟨v, rfl, hr, -, hX⟩
  exact ⟨v, rfl, hr, hb.trans (hX.mono hb.size), hX⟩
theorem add_at {a b : Nat} (wr X : World) (v v' : Value) (hb : Below wr.heap.size wr X) (h : Row X v (dig a)) (h' : Row X v' (dig b)) (la : (dig a).length ≤ 1000000) (lb : (dig b).length ≤ 1000000) :
    Calls Try.prog 24 #[v, v'] X fun e w' => ∃ v, e = .returned v ∧ Row w' v (dig (a + b)) ∧ Below wr.heap.size wr w' := by
  refine (add_calls v v' a b X h h' la lb).mono ?_
  rintro e w' ⟨v, rfl, hr, -, hX⟩
  exact ⟨v, rfl, hr, hb.trans (hX.mono hb.size)⟩

/-- What the document tells of a text that is not empty, nor has a nought ahead. -/
def rparseP (s : ByteArray) (e : Ending) : Prop :=
  ((∃ c ∈ s.data.toList, ¬ isDig c) → e = .returned (.tuple #[bigN 0, .int .i64 6])) ∧ ((∀ c ∈ s.data.toList, isDig c) → e = .returned (if 78 < s.size then .tuple #[bigN 0, .int .i64 2] else sumV (decV s.data.toList)))

set_option maxHeartbeats 2000000 in
set_option maxRecDepth 100000 in
theorem rparse_main (s : ByteArray) (w : World) (hs : s.size ≤ 1000000) (h0 : s.toList.isEmpty = false) (h1 : ((1 : Int) < (s.size : Int) → (((s.data.toList.getD 0 0).toNat : Int) == 48) = false)) :
    Calls Try.prog 44 #[.string s] w fun e w' => rparseP s e ∧ Below w.heap.size w w' := by
  have Q0 : Below w.heap.size w (w.alloc (obj4 0 0 0 0)) := (Below.refl _ _).alloc (Nat.le_refl _) _
  have B0 := Box.zero w
  have HZ := Lib.hid bigN_zero
  have hpos : 0 < s.size := by
    rcases Nat.eq_zero_or_pos s.size with h | h
    · have : s.data.toList = [] := by
        apply List.eq_nil_of_length_eq_zero
        simpa using h
      rw [ByteArray.toList_eq, this] at h0
      simp at h0
    · exact h
  have hsp : (1 : Int) < (s.size : Int) ∨ (s.size : Int) ≤ 1 := by omega
  rw [getD_byte s 0 hpos] at h1
  have HM0 := Lib.hid (show s.data.toList.length = s.size by simp)
  go_enter Try.func44, Try.ntmps44
  go_upto_region 1 with fail
  obtain ⟨W, hW⟩ : ∃ W, w.alloc (obj4 0 0 0 0) = W := ⟨_, rfl⟩
  dsimp only [obj4] at hW Q0 B0
  rw [hW] at Q0 B0
  rw [hW]
  clear hW
  go_cut [20] from 9 to 21 (fun v wx => v = .bool false ∧ wx = W)
  case first =>
    rcases hsp with hl | hl
    case' inl => have h2 := h1 hl
    all_goals (go_wp2_with fail; all_goals (go_meet; exact ⟨by first | rfl | exact congrArg Value.bool (decide_eq_false (by omega)), rfl⟩))
  case rest =>
  obtain ⟨rfl, hwx⟩ := hcut
  rw [hwx]
  clear hwx hsp h0 h1
  go_wp2_with fail
  go_loopw [4] (fun i wr => ∃ k : Nat, i = .int .i64 k ∧ k ≤ s.size ∧ Hid (∀ j, j < k → isDig (s.data.toList.getD j 0)) ∧ wr = W) (fun i _ => s.size - (RowKit.intOf i).toNat)
  case atStart => exact ⟨0, rfl, by omega, Lib.hid (by omega), rfl⟩
  case round =>
    obtain ⟨k, rfl, hk, HD, hwr⟩ := hrel
    have hwr := hwr.symm
    subst hwr
    by_cases hlt : k < s.size
    · have hlt' : (k : Int) < (s.size : Int) := by omega
      have hget := getD_byte s k hlt
      have HM := Lib.hid (show s.data.toList.getD k 0 ∈ s.data.toList by
        rw [List.getD_eq_getElem?_getD, List.getElem?_eq_getElem (by simpa using hlt)]
        exact List.getElem_mem _)
      have HDk : Hid (isDig (s.data.toList.getD k 0) → ∀ j, j < k + 1 → isDig (s.data.toList.getD j 0)) := Lib.hid fun h j hj => by
        rcases Nat.lt_or_ge j k with h' | h'
        · exact HD.out j h'
        · have : j = k := by omega
          subst this
          exact h
      have hw : IntKind.i64.wrap ((k : Int) + 1) = (k : Int) + 1 := IntWalk.i64_in _ (by omega)
      obtain ⟨c, hc⟩ : ∃ c : Nat, (s.data.toList.getD k 0).toNat = c := ⟨_, rfl⟩
      have HCI : Hid (isDig (s.data.toList.getD k 0) ↔ 48 ≤ c ∧ c ≤ 57) := Lib.hid (by unfold isDig; rw [hc])
      rw [hget] at hc
      have hcv : (((s[k]'hlt : UInt8).toNat : Nat) : Int) = (c : Int) := by rw [hc]
      clear hget hc
      by_cases hd : 48 ≤ c ∧ c ≤ 57
      · have HDn := Lib.hid (HDk.out (HCI.out.2 hd))
        have hd1 : ¬ (c : Int) < 48 := by omega
        have hd2 : ¬ 57 < (c : Int) := by omega
        clear HDk HCI HM HD Q0 B0
        go_wp2_with fail
        go_roundw
        case rel => exact ⟨k + 1, by simp, by omega, HDn, by first | rfl | trivial⟩
        case measure => simp [RowKit.intOf]; omega
      · obtain ⟨r0, r1, r2, r3⟩ := B0.cells
        obtain ⟨d0, d1, d2, d3⟩ := B0.free
        have lt0 := B0.lt
        have HE := Lib.hid (show (∃ c ∈ s.data.toList, ¬ isDig c) from ⟨_, HM.out, fun h => hd (HCI.out.1 h)⟩)
        have hd' : (c : Int) < 48 ∨ 57 < (c : Int) := by omega
        clear HDk HCI HM HD
        rcases hd' with h | h
        · go_wp2_with fail
          exact bodyPost_ret (v := .tuple #[big 0 0 0 0, .int .i64 6]) (by simp [results, Try.results44, go_sem, r0, r1, r2, r3, lt0]) rfl ⟨⟨fun _ => by rw [HZ.out], fun hh => by obtain ⟨c, h1, h2⟩ := HE.out; exact absurd (hh c h1) h2⟩, below_store Q0 (Nat.le_refl _) 0 0 0 0⟩
        · have h' : ¬ (c : Int) < 48 := by omega
          go_wp2_with fail
          exact bodyPost_ret (v := .tuple #[big 0 0 0 0, .int .i64 6]) (by simp [results, Try.results44, go_sem, r0, r1, r2, r3, lt0]) rfl ⟨⟨fun _ => by rw [HZ.out], fun hh => by obtain ⟨c, h1, h2⟩ := HE.out; exact absurd (hh c h1) h2⟩, below_store Q0 (Nat.le_refl _) 0 0 0 0⟩
    · have hks : k = s.size := by omega
      subst hks
      have HAll : Hid (∀ c ∈ s.data.toList, isDig c) := Lib.hid fun c hc => by
        obtain ⟨j, hj, e⟩ := List.mem_iff_getElem.1 hc
        have := HD.out j (by simpa using hj)
        rw [List.getD_eq_getElem?_getD, List.getElem?_eq_getElem hj, Option.getD_some, e] at this
        exact this
      clear HD
      by_cases h78 : 78 < s.size
      · obtain ⟨r0, r1, r2, r3⟩ := B0.cells
        obtain ⟨d0, d1, d2, d3⟩ := B0.free
        have lt0 := B0.lt
        have h78' : (78 : Int) < (s.size : Int) := by omega
        go_wp2_with fail
        exact bodyPost_ret (v := .tuple #[big 0 0 0 0, .int .i64 2]) (by simp [results, Try.results44, go_sem, r0, r1, r2, r3, lt0]) rfl ⟨⟨fun ⟨c, h1, h2⟩ => absurd (HAll.out c h1) h2, fun _ => by rw [if_pos h78, HZ.out]⟩, below_store Q0 (Nat.le_refl _) 0 0 0 0⟩
      · have h78' : ¬ (78 : Int) < (s.size : Int) := by omega
        go_wp2_with fail
        have HS78 : Hid (s.size ≤ 78) := Lib.hid (by omega)
        clear hk h78 h78'
        go_loopw [5, 6] (fun l i wr => ∃ k : Nat, i = .int .i64 k ∧ k ≤ s.size ∧ Hid (Row wr l (dig (decV (s.data.toList.take k)))) ∧ Hid (decV (s.data.toList.take k) < 10 ^ k) ∧ Hid (Below W.heap.size W wr)) (fun _ i _ => s.size - (RowKit.intOf i).toNat)
        case atStart => exact ⟨0, rfl, by omega, Lib.hid (by rw [List.take_zero, show decV [] = 0 from rfl, dig_zero]; exact Row.nil _), Lib.hid (by rw [List.take_zero]; decide), Lib.hid (Below.refl _ _)⟩
        case round =>
          obtain ⟨k, rfl, hk, HR, HV, HB⟩ := hrel
          by_cases hlt : k < s.size
          · have hlt' : (k : Int) < (s.size : Int) := by omega
            have hget := getD_byte s k hlt
            have hw : IntKind.i64.wrap ((k : Int) + 1) = (k : Int) + 1 := IntWalk.i64_in _ (by omega)
            have HT := Lib.hid (decV_take s.data.toList k (by simpa using hlt))
            have HDk := Lib.hid (HAll.out (s.data.toList.getD k 0) (by
              rw [List.getD_eq_getElem?_getD, List.getElem?_eq_getElem (by simpa using hlt)]
              exact List.getElem_mem _))
            obtain ⟨c, hc⟩ : ∃ c : Nat, (s.data.toList.getD k 0).toNat = c := ⟨_, rfl⟩
            have hcd : 48 ≤ c ∧ c ≤ 57 := by have := HDk.out; unfold isDig at this; omega
            rw [hc] at HT
            rw [hget] at hc
            have hcv : (((s[k]'hlt : UInt8).toNat : Nat) : Int) = (c : Int) := by rw [hc]
            clear hget hc HDk
            have w1 : IntKind.u8.wrap ((c : Int) - 48) = (c : Int) - 48 := IntWalk.u8_in _ (by omega)
            have w2 : IntKind.u64.wrap ((c : Int) - 48) = (c : Int) - 48 := IntWalk.u64_in _ (by omega)
            have hll : (dig (decV (s.data.toList.take k))).length ≤ 100 := Nat.le_trans (dig_len_le (k := 18) (Nat.lt_of_lt_of_le HV.out (Nat.le_trans (Nat.pow_le_pow_right (by decide) (Nat.le_trans hk HS78.out)) (by decide)))) (by decide)
            have HV1 := Lib.hid (show decV (s.data.toList.take k) * 10 + (c - 48) < 10 ^ (k + 1) by rw [Nat.pow_succ]; have := HV.out; omega)
            rw [← HT.out] at HV1
            generalize decV (s.data.toList.take k) = n at *
            generalize hn1 : decV (s.data.toList.take (k + 1)) = n1 at *
            have HN1 := Lib.hid hn1
            clear hn1
            have l10 : (dig (n * 10)).length ≤ 200 := dig_len_le (k := 200) (by
              have h1 := dig_lt n
              have h2 : 65536 ^ (dig n).length ≤ 65536 ^ 199 := Nat.pow_le_pow_right (by decide) (by omega)
              rw [show 200 = 199 + 1 from rfl, Nat.pow_succ]
              generalize 65536 ^ 199 = z at *
              omega)
            have lc : (dig (c - 48)).length ≤ 200 := Nat.le_trans (dig_len_le (k := 1) (by omega)) (by decide)
            have HMul := Lib.hid (mul_at u5 wr HR.out (by omega))
            have HOf := Lib.hid (of_at wr (by omega) hcd)
            have HAdd := Lib.hid (fun (X : World) (v v' : Value) (hb : Below wr.heap.size wr X) (h : Row X v (dig (n * 10))) (h' : Row X v' (dig (c - 48))) => add_at wr X v v' hb h h' (by omega) (by omega))
            rw [← HT.out] at HAdd
            have HT10 := Lib.hid row_ten
            clear l10 lc hll
            go_wp2_with fail
            go_region_with (first
              | (go_at_call 22
                 refine (HMul.out _ _ ?h1 ?h2).mono ?_
                 case h1 => first | exact ((Below.refl _ _).alloc (Nat.le_refl _) _).drew | exact hBO | exact hBO.alloc hBO.size _
                 case h2 => first | exact (HT10.out _).drew | exact HT10.out _ | exact (HT10.out _).drew.below hbO
                 rintro e wM ⟨vM, rfl, hrM, hBM, hbM⟩)
              | (go_at_call 18
                 refine (HOf.out _ ?h1).mono ?_
                 case h1 => first | exact ((Below.refl _ _).alloc (Nat.le_refl _) _).drew | exact (Below.refl _ _).drew | exact hBM
                 rintro e wO ⟨vO, rfl, hrO, hBO, hbO⟩)
              | (go_at_call 24
                 refine (HAdd.out _ _ _ ?h1 ?h2 ?h3).mono ?_
                 case h1 => first | exact hBO | exact hBM
                 case h2 => first | exact hrM | exact hrM.below hbO
                 case h3 => first | exact hrO | exact hrO.below hbM | exact (hrO.below ((Below.refl _ _).alloc (Nat.le_refl _) _)).below hbM
                 rintro e wA ⟨vA, rfl, hrA, hBA⟩))
            all_goals
              go_wp2_with fail
              go_roundw
              case rel => exact ⟨k + 1, by simp, by omega, by rw [HN1.out]; exact Lib.hid hrA, by rw [HN1.out]; exact HV1, Lib.hid (HB.out.trans (hBA.mono HB.out.size))⟩
              case measure => simp [RowKit.intOf]; omega
          · have hks : k = s.size := by omega
            subst hks
            have et : s.data.toList.take s.size = s.data.toList := List.take_of_length_le (by rw [HM0.out]; exact Nat.le_refl _)
            rw [et] at HR HV
            have hll : (dig (decV s.data.toList)).length ≤ 1000000 := Nat.le_trans (dig_len_le (k := 18) (Nat.lt_of_lt_of_le HV.out (Nat.le_trans (Nat.pow_le_pow_right (by decide) HS78.out) (by decide)))) (by decide)
            have HI := Lib.hid (int_calls u5 (decV s.data.toList) wr HR.out hll)
            have HPost : Hid (∀ e, e = .returned (sumV (decV s.data.toList)) → rparseP s e) := Lib.hid fun e he => ⟨fun ⟨c, h1, h2⟩ => absurd (HAll.out c h1) h2, fun _ => by rw [if_neg (by have := HS78.out; omega)]; exact he⟩
            clear et hll HV
            generalize decV s.data.toList = n at *
            go_wp2_with fail
            refine HI.out.mono ?_
            rintro e w' ⟨rfl, hb⟩
            have B1 := (B0.below HB.out B0.lt).later hb
            have Q1 := Q0.trans ((HB.out.mono Q0.size).trans (hb.mono (Nat.le_trans Q0.size HB.out.size)))
            clear HB HI hb
            by_cases hn : n < 18446744073709551616 ^ 4
            · have hv : intV n = .tuple #[bigN n, .bool true] := if_pos hn
              have hs' : sumV n = .tuple #[bigN n, .int .i64 0] := if_pos hn
              rw [hv]
              obtain ⟨r0, r1, r2, r3⟩ := B1.cells
              obtain ⟨d0, d1, d2, d3⟩ := B1.free
              have lt1 := B1.lt
              have HF := Lib.hid (HPost.out _ (congrArg Ending.returned hs').symm)
              clear hv hs' HPost hn
              go_wp2_with fail
              refine bodyPost_ret (v := .tuple #[bigN n, .int .i64 0]) (by simp [results, Try.results44, go_sem, r0, r1, r2, r3, lt1]) rfl ⟨HF.out, ?_⟩
              exact (below_store Q1 (Nat.le_refl _) _ _ _ _).alloc (by rw [store_size]; exact Q1.size) _
            · have hv : intV n = .tuple #[bigN 0, .bool false] := if_neg hn
              have hs' : sumV n = .tuple #[bigN 0, .int .i64 2] := if_neg hn
              rw [hv]
              obtain ⟨r0, r1, r2, r3⟩ := B1.cells
              obtain ⟨d0, d1, d2, d3⟩ := B1.free
              have lt1 := B1.lt
              have HF := Lib.hid (HPost.out _ (congrArg Ending.returned hs').symm)
              clear hv hs' HPost hn
              rw [bigN_zero] at HF ⊢
              go_wp2_with fail
              refine bodyPost_ret (v := .tuple #[big 0 0 0 0, .int .i64 2]) (by simp [results, Try.results44, go_sem, r0, r1, r2, r3, lt1]) rfl ⟨HF.out, ?_⟩
              exact (below_store Q1 (Nat.le_refl _) _ _ _ _).alloc (by rw [store_size]; exact Q1.size) _
theorem rparse_calls (s : ByteArray) (w : World) (hs : s.size ≤ 1000000) :
    Calls Try.prog 44 #[.string s] w fun e w' => e = .returned (parseV s.data.toList) ∧ Below w.heap.size w w' := by
  by_cases h1 : s.data.toList = [] ∨ (1 < s.data.toList.length ∧ s.data.toList.getD 0 0 = 48)
  · refine (rparse_bad0 s w hs h1).mono ?_
    rintro e w' ⟨rfl, hb⟩
    refine ⟨?_, hb⟩
    rw [parseV, if_pos]
    rcases h1 with h | h
    · exact .inl h
    · exact .inr (.inl h)
  · have h0 : s.toList.isEmpty = false := by
      rw [ByteArray.toList_eq]
      cases hh : s.data.toList with
      | nil => exact absurd (Or.inl hh) h1
      | cons a b => rfl
    have h2 : (1 : Int) < (s.size : Int) → (((s.data.toList.getD 0 0).toNat : Int) == 48) = false := fun hl => by
      rw [beq_eq_false_iff_ne]
      intro h3
      refine h1 (.inr ⟨by have : 1 < s.size := by omega
                          simpa using this, ?_⟩)
      apply UInt8.toNat_inj.1
      show _ = 48
      omega
    refine (rparse_main s w hs h0 h2).mono ?_
    rintro e w' ⟨⟨k1, k2⟩, hb⟩
    refine ⟨?_, hb⟩
    by_cases h3 : ∃ c ∈ s.data.toList, ¬ isDig c
    · rw [k1 h3, parseV, if_pos (.inr (.inr h3))]
    · have h4 : ∀ c ∈ s.data.toList, isDig c := fun c hc => Decidable.byContradiction fun h => h3 ⟨c, hc, h⟩
      have h5 : ¬ badText s.data.toList := by
        rintro (h | h | h)
        · exact h1 (.inl h)
        · exact h1 (.inr h)
        · exact h3 h
      rw [k2 h4, parseV, if_neg h5]
      split
      · next h6 =>
        rw [sumV_ge (decV_big _ h5 (by simpa using h6)), bigN_zero]
      · rfl
end Go.Proofs.Ytoljemjnhomomaa
