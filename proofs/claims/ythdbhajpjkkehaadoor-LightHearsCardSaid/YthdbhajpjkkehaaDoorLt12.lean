/- The law of the light client: the same heads, of which so many are final. -/
import Derived.Test.YthdbhajpjkkehaaDoorLt11
namespace Go.Proofs.YthdbhajpjkkehaaDoor
open Go.RowKit Go.Lib
set_option linter.unusedVariables false
set_option linter.unusedSimpArgs false

set_option maxRecDepth 100000
theorem hash_lits (d : Nat) {ks : List Value} (h : Typed hashK ks) : ∃ L, Tryd.prog.keyLits (d + 2) 38 ks = some L := by
  have hl := hash_len h
  obtain ⟨ys, hys⟩ := mapM_all (fun i => Tryd.prog.keyLits (d + 1) 5 ((ks.drop (i * 1)).take 1)) (List.range 32) (fun i hi => by
    have hi' := List.mem_range.1 hi
    obtain ⟨q1, q2⟩ := h.at i .u8 (by
      unfold hashK
      rw [List.getElem?_replicate, if_pos hi'])
    have e : (ks.drop (i * 1)).take 1 = [.int .u8 (intAt ks i)] := by
      rw [Nat.mul_one]
      have := (List.getElem?_eq_some_iff.1 q1)
      rw [List.drop_eq_getElem_cons this.1, List.take_succ_cons, List.take_zero, this.2]
    rw [e]
    exact ⟨[.int .u8 (intAt ks i)], by unfold Program.keyLits; simp [Tryd.underlying5, q2]⟩)
  refine ⟨ys.flatten, ?_⟩
  show Tryd.prog.keyLits (d + 1 + 1) 38 ks = _
  unfold Program.keyLits
  simp only [Tryd.underlying38, ct_cells, ct_cells1, hl, if_true]
  rw [hys]
  rfl
theorem rh_cells : Tryd.prog.cellsOf 49 = 35 := by kernel_rfl
theorem c_u32 : Tryd.prog.cellsOf 23 = 1 := by kernel_rfl
theorem c_u64 : Tryd.prog.cellsOf 24 = 1 := by kernel_rfl
theorem rh_keyT : Tryd.prog.keyType 49 = true := by kernel_rfl
theorem rh_wide : (match Tryd.prog.underlying 49 with | some (.array _ _) | some (.struct _) => true | _ => false) = true := by kernel_rfl
theorem one_at {x : List Value} {j : Nat} {v : Value} (h : x[j]? = some v) : (x.drop j).take 1 = [v] := by
  obtain ⟨h1, h2⟩ := List.getElem?_eq_some_iff.1 h
  rw [List.drop_eq_getElem_cons h1, List.take_succ_cons, List.take_zero, h2]
theorem head_lits (d : Nat) {x : List Value} (h : Typed hdK x) : ∃ L, Tryd.prog.keyLits (d + 3) 49 x = some L := by
  obtain ⟨a1, a2⟩ := h.at 0 .u32 (by kernel_rfl)
  obtain ⟨b1, b2⟩ := h.at 1 .u64 (by kernel_rfl)
  obtain ⟨e1, e2⟩ := h.at 34 .u64 (by kernel_rfl)
  obtain ⟨L3, hL3⟩ := hash_lits d (h.part 2 32 (by rw [h.length, hdK_len]; omega) (by kernel_rfl) : Typed hashK ((x.drop 2).take 32))
  have k0 : Tryd.prog.keyLits (d + 2) 23 ((x.drop 0).take 1) = some [.int .u32 (intAt x 0)] := by
    rw [one_at a1]; show Tryd.prog.keyLits (d + 1 + 1) _ _ = _; unfold Program.keyLits; simp [Tryd.underlying23, a2]
  have k1 : Tryd.prog.keyLits (d + 2) 24 ((x.drop 1).take 1) = some [.int .u64 (intAt x 1)] := by
    rw [one_at b1]; show Tryd.prog.keyLits (d + 1 + 1) _ _ = _; unfold Program.keyLits; simp [Tryd.underlying24, b2]
  have k3 : Tryd.prog.keyLits (d + 2) 24 ((x.drop 34).take 1) = some [.int .u64 (intAt x 34)] := by
    rw [one_at e1]; show Tryd.prog.keyLits (d + 1 + 1) _ _ = _; unfold Program.keyLits; simp [Tryd.underlying24, e2]
  have hl : x.length = 35 := by rw [h.length, hdK_len]
  refine ⟨[[.int .u32 (intAt x 0)], [.int .u64 (intAt x 1)], L3, [.int .u64 (intAt x 34)]].flatten, ?_⟩
  show Tryd.prog.keyLits (d + 2 + 1) 49 x = _
  unfold Program.keyLits
  simp only [Tryd.underlying49, rh_cells, hl]
  rw [List.drop_zero] at k0
  rw [List.drop_one] at k1
  simp [List.mapM_cons, c_u32, c_u64, ct_cells, k0, k1, k3, hL3]
theorem head_key {x : List Value} (h : Typed hdK x) : ∃ l, keyOf Tryd.prog 49 (.agg x.toArray) = some l := by
  have hl : x.length = 35 := by rw [h.length, hdK_len]
  have hf : (Value.agg x.toArray).formed Tryd.prog 49 = true := by
    simp [Value.formed, Tryd.underlying49, rh_cells, hl]
  have hsz : ∃ m, Tryd.prog.types.size + 1 = m + 3 := by
    have h1 : (49 : TypeId) < Tryd.prog.types.size := of_decide_eq_true (by kernel_rfl)
    have h2 : 2 < Tryd.prog.types.size := Nat.lt_of_le_of_lt (by decide) h1
    exact ⟨Tryd.prog.types.size - 2, by omega⟩
  obtain ⟨m, hm⟩ := hsz
  obtain ⟨L, hL⟩ := head_lits m h
  have hk2 : Tryd.prog.keyLits (Tryd.prog.types.size + 1) 49 (Value.agg x.toArray).cells.toList = some L := by rw [hm]; exact hL
  refine ⟨.string (keyBytes L), ?_⟩
  unfold keyOf
  rw [Tryd.underlying49]
  simp only [rh_keyT, hf, Bool.and_self, if_true]
  rw [hk2]
  rfl
theorem head_same {x : List Value} (h : Typed hdK x) (w : World) : (Op.equalIn 10000 49 (.agg x.toArray) (.agg x.toArray)).run Tryd.prog w = .ok true w := by
  obtain ⟨l, hl⟩ := head_key h
  obtain ⟨r, hr, hrr⟩ := run_equal_deep w (m := 4) (by omega) (by kernel_rfl) rh_wide hl hl
  rw [hrr.2 rfl] at hr
  exact hr
abbrev blK : Kinds := [none]
/-- Which of so many are final: the first n. -/
def finL (m n : Nat) : List (List Value) := (List.range m).map fun i => [.bool (decide (i < n))]
theorem finL_len (m n : Nat) : (finL m n).length = m := by simp [finL]
theorem finL_at (m n i : Nat) (h : i < m) : (finL m n).getD i [] = [.bool (decide (i < n))] := by
  unfold finL
  rw [List.getD_eq_getElem?_getD, List.getElem?_map, List.getElem?_range h]
  rfl
theorem finL_snoc (m n : Nat) (h : n ≤ m) : finL m n ++ [[.bool false]] = finL (m + 1) n := by
  unfold finL
  rw [List.range_succ, List.map_append]
  simp; omega
theorem finL_cut (m n i : Nat) (h : i ≤ m) : (finL m n).take i = finL i n := by
  unfold finL
  rw [← List.map_take, List.take_range, Nat.min_eq_left h]
theorem finL_set (m n : Nat) (h : n < m) : (finL m n).set n [.bool true] = finL m (n + 1) := by
  unfold finL
  apply List.ext_getElem? 
  intro i
  rw [List.getElem?_set, List.getElem?_map, List.getElem?_map]
  by_cases hi : i < m
  · rw [List.getElem?_range hi]
    by_cases e : n = i
    · subst e; simp [h]
    · rw [if_neg e]
      simp
      omega
  · rw [List.getElem?_eq_none (by simpa using hi)]
    have : n ≠ i := by omega
    simp [this]
set_option maxHeartbeats 4000000 in
theorem lsame_calls (c n : Nat) (v mp dv fv ev : Value) (hs : List (List Value)) (w : World) (h : ClAt w c v n mp) (hR : Recs hdK w v hs) (hv : NilOr v) (hD : Recs hdK w dv hs) (hF : Recs blK w fv (finL hs.length n)) (hn : n ≤ hs.length) (hl : hs.length ≤ 1000) :
    Calls Tryd.prog 9 #[.pointer (some ⟨c, 0, none⟩), .agg #[dv, fv, ev]] w fun e w' => e = .returned (.bool true) ∧ Below w.heap.size w w' := by
  obtain ⟨Ad, cd, rfl, -⟩ := id hD
  obtain ⟨Af, cf, rfl, -⟩ := id hF
  have Q0 : Below w.heap.size w (w.alloc (.cells #[.slice Ad hs.length cd, .slice Af (finL hs.length n).length cf, ev] 36)) := (Below.refl _ _).alloc (Nat.le_refl _) _
  have hra := range_alloc w #[.slice Ad hs.length cd, .slice Af (finL hs.length n).length cf, ev] 36
  have HF := Lib.hid (hF.below (by decide) Q0)
  rw [finL_len] at HF hra Q0
  have d0 := hra 0 _ rfl
  have d1 := hra 1 _ rfl
  rw [Nat.zero_add] at d0 d1
  have hC := World.rowIs.of_block h (Q0.block c (World.rowIs.lt h))
  have HC : Hid (ClAt _ c v n mp) := Lib.hid hC
  have HR := Lib.hid (hR.below hdK_pos Q0)
  have HD := Lib.hid (hD.below hdK_pos Q0)
  have HQ := Lib.hid Q0
  have hcs := World.rowIs.lt hC
  rw [finL_len]
  obtain ⟨W, hW⟩ : ∃ W, w.alloc (.cells #[.slice Ad hs.length cd, .slice Af hs.length cf, ev] 36) = W := ⟨_, rfl⟩
  rw [hW] at HF d0 d1 HC HR HD HQ hcs
  have hqd : w.heap.size < W.heap.size := by rw [← hW]; simp
  have HHd := Lib.hid (heads_calls c v hs W HC.out.cells.1 HR.out hv hl)
  have HN := Lib.hid hn
  have hl' : (hs.length : Int) ≤ 1000 := by omega
  have HL := Lib.hid hl
  have hn' : (n : Int) ≤ (hs.length : Int) := by omega
  clear h hR hv hD hF hra Q0 hC hn hl
  go_enter Tryd.func9, Tryd.ntmps9
  go_upto_region 1 with fail
  clear hW
  go_upto_region 2 with (go_at_call 13; refine HHd.out.mono ?_; rintro e w2 ⟨v', rfl, u1, u2, u3⟩; obtain ⟨A2, c2, rfl, -⟩ := id u1.recs)
  have k0 := (u3.cell (p := ⟨w.heap.size, 0, none⟩) hqd).trans d0
  have k1 := (u3.cell (p := ⟨w.heap.size, 1, none⟩) hqd).trans d1
  have HB2 := Lib.hid u3
  have HR2 := Lib.hid u1.recs
  have HD2 := Lib.hid (HD.out.below hdK_pos u3)
  have HF2 := Lib.hid (HF.out.below (by decide) u3)
  have hq2 : w.heap.size < w2.heap.size := Nat.lt_of_lt_of_le hqd u3.size
  clear u1 u2 u3 d0 d1 HD HF
  go_wp2_with fail
  go_loopw [6, 7, 18] (fun p _ t wr => ∃ k : Nat, t = .int .i64 (k : Int) ∧ k ≤ hs.length ∧ p = .int .i64 ((min k n : Nat) : Int) ∧ Below w2.heap.size w2 wr) (fun _ _ t _ => hs.length - (RowKit.intOf t).toNat)
  case atStart => exact ⟨0, rfl, by omega, by simp, Below.refl _ _⟩
  case round =>
    obtain ⟨k, rfl, hk, rfl, hb⟩ := hrel
    have HBr := Lib.hid hb
    by_cases hlt : k < hs.length
    · have hlt' : (k : Int) < (hs.length : Int) := by omega
      obtain ⟨g, o, rfl, hg, hr, ht⟩ := (HR2.out.below hdK_pos hb).at hdK_pos k hlt
      obtain ⟨g', o', rfl, hg', hr', -⟩ := (HD2.out.below hdK_pos hb).at hdK_pos k hlt
      obtain ⟨g'', o'', rfl, hg'', hr'', -⟩ := (show Recs blK wr (.slice Af hs.length cf) (finL hs.length n) from HF2.out.below (by decide) hb).at (by decide) k hlt
      rw [finL_at _ _ _ hlt] at hr''
      have j1 : wr.cell? ⟨g'', o'' + k * 1, none⟩ = some (.bool (decide (k < n))) := hr'' 0 _ rfl
      rw [Nat.mul_one] at j1
      have m0 := (hb.cell (p := ⟨w.heap.size, 0, none⟩) hq2).trans k0
      have m1 := (hb.cell (p := ⟨w.heap.size, 1, none⟩) hq2).trans k1
      obtain ⟨x, hx⟩ : ∃ x, hs.getD k [] = x := ⟨_, rfl⟩
      rw [hx] at hr hr' ht
      rw [hdK_len] at hr hr'
      have heq := fun w => head_same ht w
      have HTx := Lib.hid ht
      clear hb hr'' hg hg' hg'' hx k0 k1
      go_upto_region 8 with fail
      refine wp_region_held (S := fun w' => w' = wr.drew) (by kernel_rfl) ?_
      change wpAnyH _ _ _ _ _ _ _ _ wr.drew

      refine wpAnyH_take (i := 0) (v := .slice (some ⟨g, o, none⟩) hs.length c2) rfl (by kernel_rfl) (by kernel_rfl) (by kernel_rfl) (fun _ _ _ h => h) (.inl ⟨by rfl, fun w hS => by rfl⟩) rfl ?_
      try simp only [List.getElem_toArray, List.getElem_cons_zero, List.getElem_cons_succ, Act.put, List.setIfInBounds_toArray, List.set_cons_zero, List.set_cons_succ]
      refine wpAnyH_take (i := 1) (v := .int .i64 (k : Int)) rfl (by kernel_rfl) (by kernel_rfl) (by kernel_rfl) (fun _ _ _ h => h) (.inl ⟨by rfl, fun w hS => by rfl⟩) rfl ?_
      try simp only [List.getElem_toArray, List.getElem_cons_zero, List.getElem_cons_succ, Act.put, List.setIfInBounds_toArray, List.set_cons_zero, List.set_cons_succ]
      refine wpAnyH_take (i := 2) (v := .pointer (some ⟨g, o + k * 35, none⟩)) rfl (by kernel_rfl) (by kernel_rfl) (by kernel_rfl) (fun _ _ _ h => h) (.inl ⟨by rfl, fun w hS => by go_simp⟩) rfl ?_
      try simp only [List.getElem_toArray, List.getElem_cons_zero, List.getElem_cons_succ, Act.put, List.setIfInBounds_toArray, List.set_cons_zero, List.set_cons_succ]
      refine wpAnyH_take (i := 3) (v := .agg x.toArray) rfl (by kernel_rfl) (by kernel_rfl) (by kernel_rfl) (fun _ _ _ h => h) (yieldsIf_load_mid (by rfl) 42 _ rfl (g) (o + k * 35) rfl x _ (fun w hS => by rw [hS]; exact hr) Tryd.underlying42 rfl (hd_info HTx.out)) rfl ?_
      try simp only [List.getElem_toArray, List.getElem_cons_zero, List.getElem_cons_succ, Act.put, List.setIfInBounds_toArray, List.set_cons_zero, List.set_cons_succ]
      refine wpAnyH_take (i := 4) (v := .pointer (some ⟨w.heap.size, 0, none⟩)) rfl (by kernel_rfl) (by kernel_rfl) (by kernel_rfl) (fun _ _ _ h => h) (.inl ⟨by rfl, fun w hS => by rfl⟩) rfl ?_
      try simp only [List.getElem_toArray, List.getElem_cons_zero, List.getElem_cons_succ, Act.put, List.setIfInBounds_toArray, List.set_cons_zero, List.set_cons_succ]
      refine wpAnyH_take (i := 5) (v := .slice (some ⟨g', o', none⟩) hs.length cd) rfl (by kernel_rfl) (by kernel_rfl) (by kernel_rfl) (fun _ _ _ h => h) (.inl ⟨by rfl, fun w hS => by subst hS; go_simp⟩) rfl ?_
      try simp only [List.getElem_toArray, List.getElem_cons_zero, List.getElem_cons_succ, Act.put, List.setIfInBounds_toArray, List.set_cons_zero, List.set_cons_succ]
      refine wpAnyH_take (i := 6) (v := .int .i64 (k : Int)) rfl (by kernel_rfl) (by kernel_rfl) (by kernel_rfl) (fun _ _ _ h => h) (.inl ⟨by rfl, fun w hS => by rfl⟩) rfl ?_
      try simp only [List.getElem_toArray, List.getElem_cons_zero, List.getElem_cons_succ, Act.put, List.setIfInBounds_toArray, List.set_cons_zero, List.set_cons_succ]
      refine wpAnyH_take (i := 7) (v := .pointer (some ⟨g', o' + k * 35, none⟩)) rfl (by kernel_rfl) (by kernel_rfl) (by kernel_rfl) (fun _ _ _ h => h) (.inl ⟨by rfl, fun w hS => by go_simp⟩) rfl ?_
      try simp only [List.getElem_toArray, List.getElem_cons_zero, List.getElem_cons_succ, Act.put, List.setIfInBounds_toArray, List.set_cons_zero, List.set_cons_succ]
      refine wpAnyH_take (i := 8) (v := .agg x.toArray) rfl (by kernel_rfl) (by kernel_rfl) (by kernel_rfl) (fun _ _ _ h => h) (yieldsIf_load_mid (by rfl) 49 _ rfl (g') (o' + k * 35) rfl x _ (fun w hS => by rw [hS]; exact hr') Tryd.underlying49 rfl (rh_info HTx.out)) rfl ?_
      try simp only [List.getElem_toArray, List.getElem_cons_zero, List.getElem_cons_succ, Act.put, List.setIfInBounds_toArray, List.set_cons_zero, List.set_cons_succ]
      refine wpAnyH_take (i := 9) (v := .bool false) rfl (by kernel_rfl) (by kernel_rfl) (by kernel_rfl) (fun _ _ _ h => h) (.inl ⟨by rfl, fun w hS => by have hq := heq w; go_simp⟩) rfl ?_
      try simp only [List.getElem_toArray, List.getElem_cons_zero, List.getElem_cons_succ, Act.put, List.setIfInBounds_toArray, List.set_cons_zero, List.set_cons_succ]
      refine wpAnyH_done (by kernel_rfl) ?_ _
      clear heq hr hr' ht
      have HBd : Hid (Below w2.heap.size w2 wr.drew) := Lib.hid HBr.out.drew
      by_cases hkn : k < n
      · have hd : decide (k < n) = true := decide_eq_true hkn
        rw [hd] at j1
        have hm1 : ((min k n : Nat) : Int) = (k : Int) := by omega
        have HM : Hid (((min (k + 1) n : Nat) : Int) = (k : Int) + 1) := Lib.hid (by omega)
        rw [hm1]
        clear hd hm1 hkn
        go_wp2_with fail
        go_roundw
        case rel => exact ⟨k + 1, by go_num, by omega, congrArg (Value.int .i64) (by rw [HM.out]), HBd.out⟩
        case measure => simp [RowKit.intOf]; omega
      · have hd : decide (k < n) = false := decide_eq_false hkn
        rw [hd] at j1
        have HM : Hid (((min (k + 1) n : Nat) : Int) = ((min k n : Nat) : Int)) := Lib.hid (by omega)
        generalize min k n = mk at HM ⊢
        clear hd hkn
        go_wp2_with fail
        go_roundw
        case rel => exact ⟨k + 1, by go_num, by omega, congrArg (Value.int .i64) HM.out.symm, HBd.out⟩
        case measure => simp [RowKit.intOf]; omega

    · obtain rfl : k = hs.length := by omega
      have hmn : ((min hs.length n : Nat) : Int) = (n : Int) := by have := HN.out; omega
      rw [hmn]
      have HFi := Lib.hid (finals_calls c n wr (HC.out.cells.2.1 |> fun h => (hb.cell (p := ⟨c, 1, none⟩) (Nat.lt_of_lt_of_le hcs HB2.out.size)).trans ((HB2.out.cell (p := ⟨c, 1, none⟩) hcs).trans h)))
      clear hmn
      go_wp2_with (go_at_call 14; refine HFi.out.mono ?_; rintro e w5 ⟨rfl, rfl⟩)
      go_ret
      exact ⟨by simp, HQ.out.trans ((HB2.out.trans (hb.mono HB2.out.size)).mono HQ.out.size)⟩
end Go.Proofs.YthdbhajpjkkehaaDoor
