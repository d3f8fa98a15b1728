/- wide.Product: whole. -/
import Derived.Test.YtchjjbklkmfelaaWide1
import Derived.Test.YtchjjbklkmfelaaAud6
import Derived.Test.YtchjjbklkmfelaaBits
import Derived.Test.YtchjjbklkmfelaaLen
import Derived.Test.YtchjjbklkmfelaaLimb
import Derived.Test.YtchjjbklkmfelaaPlan6
namespace Go.Proofs.Ytchjjbklkmfelaa
open Go.RowKit Go.Lib Go.Deep
set_option linter.unusedVariables false
set_option linter.unusedSimpArgs false

abbrev NBox (w : World) (g n : Nat) : Prop := w.rowIs g 141 9 (lim (limb n))
abbrev obj9 : Obj := .cells #[.int .u64 0, .int .u64 0, .int .u64 0, .int .u64 0, .int .u64 0, .int .u64 0, .int .u64 0, .int .u64 0, .int .u64 0] 141
theorem NBox.zero (w : World) : NBox (w.alloc obj9) w.heap.size 0 :=
  World.rowIs_alloc w #[.int .u64 0, .int .u64 0, .int .u64 0, .int .u64 0, .int .u64 0, .int .u64 0, .int .u64 0, .int .u64 0, .int .u64 0] 141 (lim (limb 0)) (fun i hi => by
    match i, hi with
    | 0, _ => rfl
    | 1, _ => rfl
    | 2, _ => rfl
    | 3, _ => rfl
    | 4, _ => rfl
    | 5, _ => rfl
    | 6, _ => rfl
    | 7, _ => rfl
    | 8, _ => rfl)
def prodW (w : World) (a b : Nat) : World := ((((w.alloc (row4 (limb a))).alloc (row4 (limb b))).alloc (obj8 0 0 0 0 0 0 0 0)).alloc (obj8 0 0 0 0 0 0 0 0)).alloc obj9
theorem prodW_facts (w : World) (a b : Nat) : Box (prodW w a b) w.heap.size a ∧ Box (prodW w a b) (w.heap.size + 1) b ∧ WBox (prodW w a b) (w.heap.size + 2) 0 ∧ WBox (prodW w a b) (w.heap.size + 3) 0 ∧ NBox (prodW w a b) (w.heap.size + 4) 0 ∧
    Below w.heap.size w (prodW w a b) ∧ (prodW w a b).heap.size = w.heap.size + 5 := by
  have h2 := Box.new (w.alloc (row4 (limb a))) b
  have h3 := WBox.zero ((w.alloc (row4 (limb a))).alloc (row4 (limb b)))
  have h4 := WBox.zero (((w.alloc (row4 (limb a))).alloc (row4 (limb b))).alloc (obj8 0 0 0 0 0 0 0 0))
  have h5 := NBox.zero ((((w.alloc (row4 (limb a))).alloc (row4 (limb b))).alloc (obj8 0 0 0 0 0 0 0 0)).alloc (obj8 0 0 0 0 0 0 0 0))
  simp only [World.size_alloc, Nat.add_assoc, Nat.reduceAdd] at h2 h3 h4 h5
  refine ⟨((((Box.new w a).alloc _).alloc _).alloc _).alloc _, ((h2.alloc _).alloc _).alloc _, (h3.alloc _).alloc _, h4.alloc _, h5, ?_, by unfold prodW; simp⟩
  exact ((((((Below.refl _ _).alloc (Nat.le_refl _) _).alloc (by simp) _).alloc (by simp; omega) _).alloc (by simp; omega) _).alloc (by simp; omega) _)
theorem prod_next (a b i : Nat) : a * (b % 18446744073709551616 ^ i) + a * (b / 18446744073709551616 ^ i % 18446744073709551616) * 18446744073709551616 ^ i = a * (b % 18446744073709551616 ^ (i + 1)) := by
  rw [Nat.pow_succ, Nat.mod_mul, Nat.mul_add, Nat.mul_assoc, Nat.mul_comm (b / 18446744073709551616 ^ i % 18446744073709551616)]
theorem prod_small (a b i : Nat) (ha : a < 18446744073709551616 ^ 4) : a * (b % 18446744073709551616 ^ i) < 18446744073709551616 ^ (i + 4) := by
  have h1 := Nat.mod_lt b (show 0 < 18446744073709551616 ^ i from Nat.pow_pos (by decide))
  rw [Nat.pow_add, Nat.mul_comm (18446744073709551616 ^ i)]
  exact Nat.mul_lt_mul_of_lt_of_le ha (Nat.le_of_lt h1) (by omega)
def cells8 (n : Nat) : List Value := (List.range 8).map (lim (limb n))
theorem cells8_one (n : Nat) : ∀ v ∈ cells8 n, v.oneCell' = true := by
  intro v hv
  obtain ⟨i, _, rfl⟩ := List.mem_map.1 hv
  rfl
theorem info8 (n : Nat) : (Try.prog.info? 111).map (·.size) = some (cells8 n).length := by kernel_rfl
theorem info8a (n : Nat) : (Try.prog.info? 111).map (·.size) = some (cells8 n).toArray.size := by kernel_rfl
theorem nbox_at {w : World} {g n : Nat} (h : NBox w g n) : At w g 0 (cells8 n) := (At.of_row h).part 0 8 (by simp)

set_option maxHeartbeats 2000000 in
set_option maxRecDepth 100000 in
theorem product_calls (a b : Nat) (w : World) (ha : a < 18446744073709551616 ^ 4) (hb0 : b < 18446744073709551616 ^ 4) :
    Calls Try.prog 70 #[bigN a, bigN b] w fun e w' => e = .returned (wideN (a * b)) ∧ Below w.heap.size w w' := by
  obtain ⟨F1, F2, F3, F4, F5, hq, hsz⟩ := prodW_facts w a b
  have HX := Lib.hid (idx_big b)
  have HA := Lib.hid ha
  have HB := Lib.hid hb0
  go_enter Try.func70, Try.ntmps70
  obtain ⟨W, hW⟩ : ∃ W, W = prodW w a b := ⟨_, rfl⟩
  rw [← hW] at F1 F2 F3 F4 F5 hq hsz
  unfold prodW row4 at hW
  clear ha hb0
  obtain ⟨y0, y1, y2, y3⟩ := F2.cells
  have HF5 := Lib.hid F5
  have HF1 := Lib.hid F1
  have HF4 := Lib.hid F4
  have HF3 := Lib.hid F3
  clear F1 F3 F4 F5
  go_upto_region 3 with fail
  rw [← hW]
  clear hW
  go_wp2_with fail
  clear y0 y1 y2 y3
  go_loopw [7, 8, 10] (fun _ _ j wr => ∃ i : Nat, j = .int .i64 (i : Int) ∧ i ≤ 4 ∧ Hid (Box wr w.heap.size a) ∧ Hid (WBox wr (w.heap.size + 2) 0) ∧ Hid (WBox wr (w.heap.size + 3) 0) ∧
      Hid (NBox wr (w.heap.size + 4) (a * (b % 18446744073709551616 ^ i))) ∧ Below w.heap.size w wr) (fun _ _ j _ => 4 - (intOf j).toNat)
  case atStart => exact ⟨0, rfl, by omega, HF1, HF3, HF4, by simpa [Nat.mod_one] using HF5, hq⟩
  case round =>
    obtain ⟨i, rfl, hi, X1, X3, X4, X5, hb⟩ := hrel
    clear HF1 HF3 HF4 HF5 hq hsz
    by_cases hi4 : i < 4
    · have hi4' : (i : Int) < 4 := by omega
      have hi0 : (0 : Int) ≤ (i : Int) := by omega
      have hi9 : (i : Int) ≤ 9 := by omega
      have hne9 : ¬ 9 = i := by omega
      have hidx := HX.out i hi4
      obtain ⟨a0, a1, a2, a3⟩ := X1.out.cells
      have e0 := (⟨a0, a1, a2, a3⟩ : wr.cell? ⟨w.heap.size, 0, none⟩ = some (.int .u64 (limb a 0)) ∧ wr.cell? ⟨w.heap.size, 1, none⟩ = some (.int .u64 (limb a 1)) ∧ wr.cell? ⟨w.heap.size, 2, none⟩ = some (.int .u64 (limb a 2)) ∧ wr.cell? ⟨w.heap.size, 3, none⟩ = some (.int .u64 (limb a 3)))
      have HDg := Lib.hid (show limb b i = ((b / 18446744073709551616 ^ i % 18446744073709551616 : Nat) : Int) from rfl)
      have hdl : b / 18446744073709551616 ^ i % 18446744073709551616 < 18446744073709551616 := Nat.mod_lt _ (by decide)
      have HPN := Lib.hid (prod_next a b i)
      have HPS := Lib.hid (prod_small a b i HA.out)
      rw [HDg.out] at hidx
      generalize b / 18446744073709551616 ^ i % 18446744073709551616 = d at *
      have HM := Lib.hid (fun (w' : World) (h : NBox w' (w.heap.size + 4) (a * (b % 18446744073709551616 ^ i))) => mulAdd_calls a d _ i (w.heap.size + 4) (9 - i) w' HA.out hdl (by omega) (by omega) (by omega) (by omega) HPS.out h)
      clear hdl
      go_upto_region 6 with fail
      have e1 : wr.drew.cell? ⟨w.heap.size, 0, none⟩ = some (.int .u64 (limb a 0)) ∧ wr.drew.cell? ⟨w.heap.size, 1, none⟩ = some (.int .u64 (limb a 1)) ∧ wr.drew.cell? ⟨w.heap.size, 2, none⟩ = some (.int .u64 (limb a 2)) ∧ wr.drew.cell? ⟨w.heap.size, 3, none⟩ = some (.int .u64 (limb a 3)) := e0
      have hcall := HM.out wr.drew (show NBox wr.drew (w.heap.size + 4) _ from X5.out)
      have e4 : w.heap.size + 4 = w.heap.size + 1 + 1 + 1 + 1 := rfl
      unfold bigN big at hcall
      rw [e4] at hcall
      have HCall := Lib.hid hcall
      clear hcall e4 HM
      go_region_held3 (fun w' => w'.cell? ⟨w.heap.size, 0, none⟩ = some (.int .u64 (limb a 0)) ∧ w'.cell? ⟨w.heap.size, 1, none⟩ = some (.int .u64 (limb a 1)) ∧ w'.cell? ⟨w.heap.size, 2, none⟩ = some (.int .u64 (limb a 2)) ∧ w'.cell? ⟨w.heap.size, 3, none⟩ = some (.int .u64 (limb a 3)))
        (first | with_reducible exact e1 | exact (Box.below (w := wr.drew) (n := a) X1.out hb1 (by omega)).cells)
        (first | (go_at_call 86; with_reducible refine HCall.out.mono ?_; rintro e w' ⟨rfl, hr1, hb1⟩))
      rw [HPN.out] at hr1
      have Y1 := Lib.hid ((show Box wr.drew w.heap.size a from X1.out).below hb1 (by omega))
      have Y3 := Lib.hid ((show WBox wr.drew (w.heap.size + 2) 0 from X3.out).below hb1 (by omega))
      have Y4 := Lib.hid ((show WBox wr.drew (w.heap.size + 3) 0 from X4.out).below hb1 (by omega))
      have hb2 := hb.drew.trans (hb1.mono (by omega))
      have HR1 := Lib.hid hr1
      clear hr1 hb1 X1 X3 X4 X5 a0 a1 a2 a3 e0
      go_wp2_with fail
      go_roundw
      case rel => exact ⟨i + 1, by simp, by omega, Y1, Y3, Y4, HR1, hb2⟩
      case measure => simp [intOf]; omega
    · have hi5 : i = 4 := by omega
      subst hi5
      rw [Nat.mod_eq_of_lt HB.out] at X5
      have HP := nbox_at X5.out
      have HD := At.of_row X4.out
      have HZ := At.of_row X3.out
      have hs5 := X5.out.lt
      have hl4 : w.heap.size + 1 + 1 + 1 < wr.heap.size := by omega
      have hl5 : w.heap.size + 1 + 1 + 1 + 1 < wr.heap.size := hs5
      have hl3 : w.heap.size + 1 + 1 < wr.heap.size := by omega
      have hth : wr.there (w.heap.size + 1 + 1 + 1) 0 (cells8 (a * b)).length := HD.2
      go_upto_region 8 with fail
      obtain ⟨T, hT⟩ : ∃ T : Sched, T = ⟨[.main, .main, .late], [.slice (some ⟨w.heap.size + 1 + 1 + 1, 0, none⟩) 8 8, .slice (some ⟨w.heap.size + 1 + 1 + 1 + 1, 0, none⟩) 9 9, goInt 8], (fun _ _ => undef), (fun _ => []), (fun _ => []), (fun _ _ _ => True)⟩ := ⟨_, rfl⟩
      have hng : ghosty T.tags = false := by rw [hT]; rfl
      obtain ⟨F, hF0, hF1, hFs⟩ := stage2 wr (wr.setCells (w.heap.size + 1 + 1 + 1) (0) (cells8 (a * b))) (cells_size _ _ _ _)
      have hF1 : F 1 = (F 0).setCells (w.heap.size + 1 + 1 + 1) (0) (cells8 (a * b)) := by rw [hF1, hF0]
      have hg00 : (w.heap.size + 1 + 1 + 1) < (F 0).heap.size := by rw [hF0]; exact hl4
      have hth0 : (F 0).there (w.heap.size + 1 + 1 + 1) (0) (cells8 (a * b)).length := by rw [hF0]; exact hth
      refine region_plan (by kernel_rfl) T (ClsF F) (by rw [hT]; kernel_rfl) (puts_len (by rw [hT]; exact trivial)) (ClsF.alloc hFs) ClsF.put (no_ghost hng) (by rw [← hF0]; exact ClsF.start F) ?steps ?fin
      case steps =>
        refine Steps.cons ?s0 (Steps.cons ?s1 (Steps.cons ?s2 (Steps.nil)))
        case s0 => exact pm_pure (by rw [hT]; rfl) rfl (fun cc AA ww hh => by
            have e5 : AA.eval (.tmp 5) = .pointer (some ⟨w.heap.size + 1 + 1 + 1, 0, none⟩) := (rd0 (t := 5) hh rfl).trans (by rw [hT]; rfl)
            have ev : T.nth 0 = .slice (some ⟨w.heap.size + 1 + 1 + 1, 0, none⟩) 8 8 := by rw [hT]; rfl
            rw [ev]
            have ek : ∀ v, AA.eval (.const v) = v := fun _ => rfl
            generalize AA.eval = ρ at *
            simp [go_sem, ek, e5])
        case s1 => exact pm_pure (by rw [hT]; rfl) rfl (fun cc AA ww hh => by
            have e6 : AA.eval (.tmp 6) = .pointer (some ⟨w.heap.size + 1 + 1 + 1 + 1, 0, none⟩) := (rd0 (t := 6) hh rfl).trans (by rw [hT]; rfl)
            have ev : T.nth 1 = .slice (some ⟨w.heap.size + 1 + 1 + 1 + 1, 0, none⟩) 9 9 := by rw [hT]; rfl
            rw [ev]
            have ek : ∀ v, AA.eval (.const v) = v := fun _ => rfl
            generalize AA.eval = ρ at *
            simp [go_sem, ek, e6])
        case s2 => exact pl_copy hng (by rw [hT]; rfl) hF1 hg00 (by rw [hT]; rfl) hth0 _ _ _ _ _ rfl Try.underlying125 (by kernel_rfl) _ _ _ _ _ _ (fun cc AA hh => (rd0 (t := 20) hh rfl).trans (by rw [hT]; rfl)) (fun cc AA hh => (rd1 (t := 21) hh rfl).trans (by rw [hT]; rfl)) (by rfl) (fun ww hh => range_below (hF0 ▸ HP.1) hh (hF0 ▸ hl5)) (cells8_one _) (by rw [hT]; rfl)
      case fin =>
        intro cc NN w2 hC hN hap hgs
        have hB : Below wr.heap.size (wr.setCells (w.heap.size + 1 + 1 + 1) (0) (cells8 (a * b))) w2 := by
          have h := hC.1
          rw [show lates T.tags = 1 from by rw [hT]; rfl, hF1, hF0] at h
          exact h
        rw [show putsAll T cc _ 0 _ = List.foldl (fun a x => Act.put a x.1 x.2) _ [(some 20, .slice (some ⟨w.heap.size + 1 + 1 + 1, 0, none⟩) 8 8), (some 21, .slice (some ⟨w.heap.size + 1 + 1 + 1 + 1, 0, none⟩) 9 9), (some 22, goInt 8)] from by rw [hT]; rfl]
        simp only [List.foldl_cons, List.foldl_nil, Act.put, List.setIfInBounds_toArray, List.set_cons_succ, List.set_cons_zero]
        clear hN hap hgs hng hT
        have A2 : At w2 (w.heap.size + 1 + 1 + 1) 0 (cells8 (a * b)) := (At.cells (cs := (List.range 8).map (lim (limb 0))) HD (cells8 (a * b)) rfl).below hB hl4
        have A3 : At w2 (w.heap.size + 1 + 1) 0 ((List.range 8).map (lim (limb 0))) := (HZ.apart (w.heap.size + 1 + 1 + 1) 0 (cells8 (a * b)) (.inl (by omega))).below hB hl3
        have HR := Lib.hid A2.1
        have HT := Lib.hid (show w2.there (w.heap.size + 1 + 1) 0 (cells8 (a * b)).toArray.size from A3.2)
        have HRr : Hid ((w2.setCells (w.heap.size + 1 + 1) 0 (cells8 (a * b))).rangeAt (w.heap.size + 1 + 1) 0 (cells8 (a * b))) := Lib.hid (At.cells A3 (cells8 (a * b)) rfl).1
        have hq2 : Below w.heap.size w w2 := (below_range (by omega) _ 0 _ hb).trans (hB.mono (by omega))
        have HI := Lib.hid (info8 (a * b))
        have HIa := Lib.hid (info8a (a * b))
        have HO := Lib.hid (all_oneCell_toArray (cells8_one (a * b)))
        have HE := Lib.hid (show wideN (a * b) = .agg (cells8 (a * b)).toArray from rfl)
        clear A2 A3 HD HZ HP hth hB hC X1 X3 X4 X5
        generalize cells8 (a * b) = c8 at *
        go_wp2_with (first
          | refine wpList_load_mid rfl 111 _ rfl (w.heap.size + 1 + 1 + 1) 0 rfl c8 _ HR.out Try.underlying111 rfl HI.out ?_
          | refine wpList_store_mid rfl 111 _ _ rfl (w.heap.size + 1 + 1) 0 c8.toArray rfl rfl HT.out HIa.out HO.out ?_)
        exact bodyPost_ret (v := .agg c8.toArray) (results_cell_row rfl _ _ (w.heap.size + 1 + 1) c8 _ rfl HRr.out Try.underlying111 rfl HI.out) rfl ⟨by rw [HE.out], below_range (by omega) _ 0 _ hq2⟩
end Go.Proofs.Ytchjjbklkmfelaa

/- wide.narrow: as a number. -/
namespace Go.Proofs.Ytchjjbklkmfelaa
open Go.RowKit Go.Lib Go.Deep
set_option linter.unusedVariables false
set_option linter.unusedSimpArgs false

theorem limbs_zero {m : Nat} (h : m < 18446744073709551616 ^ 4) (h0 : limb m 0 = 0) (h1 : limb m 1 = 0) (h2 : limb m 2 = 0) (h3 : limb m 3 = 0) : m = 0 := by
  unfold limb at h0 h1 h2 h3
  have e1 : m / 18446744073709551616 ^ 2 = m / 18446744073709551616 / 18446744073709551616 := by rw [Nat.div_div_eq_div_mul]
  have e2 : m / 18446744073709551616 ^ 3 = m / 18446744073709551616 / 18446744073709551616 / 18446744073709551616 := by rw [Nat.div_div_eq_div_mul, Nat.div_div_eq_div_mul]
  have e3 : m / 18446744073709551616 / 18446744073709551616 / 18446744073709551616 < 18446744073709551616 := by
    rw [Nat.div_div_eq_div_mul, Nat.div_div_eq_div_mul]
    exact Nat.div_lt_of_lt_mul h
  rw [Nat.pow_zero, Nat.div_one] at h0
  rw [Nat.pow_one] at h1
  rw [e1] at h2
  rw [e2] at h3
  clear h e1 e2
  omega
theorem or_nonzero (n : Nat) (hn : n < 18446744073709551616 ^ 8) : (bits BinOp.or IntKind.u64 (bits BinOp.or IntKind.u64 (bits BinOp.or IntKind.u64 (limb n 4) (limb n 5)) (limb n 6)) (limb n 7) != 0) = !decide (n < 18446744073709551616 ^ 4) := by
  by_cases h : n < 18446744073709551616 ^ 4
  · rw [limb_none h (show 4 ≤ 4 by omega), limb_none h (show 4 ≤ 5 by omega), limb_none h (show 4 ≤ 6 by omega), limb_none h (show 4 ≤ 7 by omega)]
    simp only [h]
    rfl
  · simp only [h, decide_false, Bool.not_false, bne_iff_ne]
    intro he
    obtain ⟨r0, r1, r2, r3⟩ := or64_bd (limb_nonneg n 4) (limb_lt n 4) (limb_nonneg n 5) (limb_lt n 5)
    obtain ⟨s0, s1, s2, s3⟩ := or64_bd r0 r1 (limb_nonneg n 6) (limb_lt n 6)
    obtain ⟨t0, t1, t2, t3⟩ := or64_bd s0 s1 (limb_nonneg n 7) (limb_lt n 7)
    have p4 := limb_nonneg n 4
    have p5 := limb_nonneg n 5
    have p6 := limb_nonneg n 6
    have p7 := limb_nonneg n 7
    have z4 : limb n 4 = 0 := by omega
    have z5 : limb n 5 = 0 := by omega
    have z6 : limb n 6 = 0 := by omega
    have z7 : limb n 7 = 0 := by omega
    have hm : n / 18446744073709551616 ^ 4 = 0 := by
      refine limbs_zero (Nat.div_lt_of_lt_mul ?_) ?_ ?_ ?_ ?_
      · rw [← Nat.pow_add]; exact hn
      · rw [← limb_high]; exact z4
      · rw [← limb_high]; exact z5
      · rw [← limb_high]; exact z6
      · rw [← limb_high]; exact z7
    exact h ((Nat.div_eq_zero_iff_lt (Nat.pow_pos (by decide))).1 hm)

set_option maxHeartbeats 1000000 in
set_option maxRecDepth 100000 in
theorem narrow_calls (n : Nat) (w : World) (hn : n < 18446744073709551616 ^ 8) :
    Calls Try.prog 71 #[wideN n] w fun e w' => e = .returned (.tuple #[bigN (kept n), .int .i64 (okE n)]) ∧ Below w.heap.size w w' := by
  have X0 := WBox.new w n
  have hq := (Below.refl w.heap.size w).alloc (Nat.le_refl _) (obj8 (limb n 0) (limb n 1) (limb n 2) (limb n 3) (limb n 4) (limb n 5) (limb n 6) (limb n 7))
  have HX := Lib.hid X0
  obtain ⟨c0, c1⟩ := X0.cells
  clear X0
  unfold wideN
  go_enter Try.func71, Try.ntmps71
  go_upto_if 15 with fail
  rw [or_nonzero n hn]
  by_cases h : n < 18446744073709551616 ^ 4
  · have hk : kept n = n := by unfold kept; rw [if_pos h]
    have ho : okE n = 0 := by unfold okE; rw [if_pos h]
    have HK := Lib.hid hk
    have HO := Lib.hid ho
    have hb0 : (!decide (n < 18446744073709551616 ^ 4)) = false := by simp only [h]; rfl
    rw [hb0]
    clear hb0 hk ho h hn
    have hat := arrayAt_four
    go_wp2_with fail
    obtain ⟨W, hW⟩ : ∃ W, w.alloc (obj8 (limb n 0) (limb n 1) (limb n 2) (limb n 3) (limb n 4) (limb n 5) (limb n 6) (limb n 7)) = W := ⟨_, rfl⟩
    have hs : W.heap.size = w.heap.size + 1 := by rw [← hW]; simp
    have hR := (Box.new W n).cells
    rw [hs] at hR
    obtain ⟨r0, r1, r2, r3⟩ := hR
    rw [hW] at hq
    rw [hW]
    clear hW hat
    exact bodyPost_ret (v := .tuple #[bigN n, .int .i64 0]) (by simp [results, Try.results71, go_sem, r0, r1, r2, r3, bigN, big]) rfl ⟨by rw [HK.out, HO.out], hq.alloc (by omega) _⟩
  · have hk : kept n = 0 := by unfold kept; rw [if_neg h]
    have ho : okE n = 2 := by unfold okE; rw [if_neg h]
    have HK := Lib.hid hk
    have HO := Lib.hid ho
    have hb0 : (!decide (n < 18446744073709551616 ^ 4)) = true := by simp only [h]; rfl
    rw [hb0]
    clear hb0 hk ho h hn
    go_wp2_with fail
    obtain ⟨W, hW⟩ : ∃ W, w.alloc (obj8 (limb n 0) (limb n 1) (limb n 2) (limb n 3) (limb n 4) (limb n 5) (limb n 6) (limb n 7)) = W := ⟨_, rfl⟩
    have hs : W.heap.size = w.heap.size + 1 := by rw [← hW]; simp
    have hR := (Box.zero W).cells
    rw [hs] at hR
    simp only [limb_zero] at hR
    obtain ⟨r0, r1, r2, r3⟩ := hR
    rw [hW] at hq
    rw [hW]
    clear hW
    exact bodyPost_ret (v := .tuple #[bigN 0, .int .i64 2]) (by simp [results, Try.results71, go_sem, r0, r1, r2, r3, bigN, big, limb_zero]) rfl ⟨by rw [HK.out, HO.out], hq.alloc (by omega) _⟩
end Go.Proofs.Ytchjjbklkmfelaa

/- wide.up: limbs, moved up by less than 64 bits: the plain law. -/
namespace Go.Proofs.Ytchjjbklkmfelaa
open Go.RowKit Go.Lib Go.Deep
set_option linter.unusedVariables false
set_option linter.unusedSimpArgs false

theorem up_parts {c d : Nat} (hB : c * d = 18446744073709551616) (hc : 0 < c) (hd : 0 < d) (m j : Nat) :
    m * c / 18446744073709551616 ^ (j + 1) = m / 18446744073709551616 ^ (j + 1) * c + m / 18446744073709551616 ^ j % 18446744073709551616 / d := by
  have e1 : m * c / 18446744073709551616 ^ (j + 1) = m / 18446744073709551616 ^ j / d := by
    rw [Nat.pow_succ, ← hB, Nat.mul_comm c d, ← Nat.mul_assoc, Nat.mul_div_mul_right _ _ hc, Nat.div_div_eq_div_mul]
  have e2 : m / 18446744073709551616 ^ (j + 1) = m / 18446744073709551616 ^ j / 18446744073709551616 := by rw [Nat.pow_succ, Nat.div_div_eq_div_mul]
  rw [e1, e2]
  generalize m / 18446744073709551616 ^ j = T
  have h := Nat.div_add_mod T 18446744073709551616
  generalize hq : T / 18446744073709551616 = q at *
  generalize hx : T % 18446744073709551616 = x at *
  rw [← h, ← hB, Nat.mul_comm c d, Nat.mul_assoc, Nat.mul_add_div hd, Nat.mul_comm c q]
theorem up_limb {c d : Nat} (hB : c * d = 18446744073709551616) (hc : 0 < c) (hd : 0 < d) (m j : Nat) :
    m * c / 18446744073709551616 ^ (j + 1) % 18446744073709551616 = (m / 18446744073709551616 ^ (j + 1) % 18446744073709551616) * c % 18446744073709551616 + m / 18446744073709551616 ^ j % 18446744073709551616 / d := by
  rw [up_parts hB hc hd]
  have he : m / 18446744073709551616 ^ j % 18446744073709551616 / d < c := by
    apply Nat.div_lt_of_lt_mul
    rw [Nat.mul_comm, hB]
    exact Nat.mod_lt _ (by decide)
  generalize m / 18446744073709551616 ^ j % 18446744073709551616 / d = e at *
  generalize m / 18446744073709551616 ^ (j + 1) = q
  have h1 : ∀ y : Nat, (y * c + e) % (c * d) = y * c % (c * d) + e := fun y => by
    rw [Nat.mod_mul, Nat.mod_mul, Nat.mul_comm y c, Nat.mul_add_mod, Nat.mod_eq_of_lt he, Nat.mul_add_div hc, Nat.div_eq_of_lt he, Nat.add_zero, Nat.mul_mod_right, Nat.mul_div_cancel_left _ hc]
    omega
  rw [← hB, h1, Nat.mod_mul_mod]
end Go.Proofs.Ytchjjbklkmfelaa

/- wide.up: limbs, moved up by less than 64 bits: the walk. -/
namespace Go.Proofs.Ytchjjbklkmfelaa
open Go.RowKit Go.Lib Go.Deep
set_option linter.unusedVariables false
set_option linter.unusedSimpArgs false

def prv (m j : Nat) : Int := if j = 0 then 0 else limb m (j - 1)
theorem prv_bd (m j : Nat) : 0 ≤ prv m j ∧ prv m j < 18446744073709551616 := by
  unfold prv
  split
  · decide
  · exact ⟨limb_nonneg _ _, limb_lt _ _⟩
theorem two_split (s : Nat) (hs : s ≤ 64) : 2 ^ s * 2 ^ (64 - s) = 18446744073709551616 := by
  rw [← Nat.pow_add, Nat.add_sub_cancel' hs]
theorem up_now (m j s : Nat) (hs : s ≤ 63) : bits .or .u64 (IntKind.u64.wrap (limb m j * (2 : Int) ^ s)) (prv m j / (2 : Int) ^ (64 - s)) = limb (m * 2 ^ s) j := by
  have hB := two_split s (by omega)
  have hc : 0 < 2 ^ s := Nat.pow_pos (by decide)
  have hd : 0 < 2 ^ (64 - s) := Nat.pow_pos (by decide)
  have hcI : ((2 ^ s : Nat) : Int) = (2 : Int) ^ s := by push_cast; rfl
  have hdI : ((2 ^ (64 - s) : Nat) : Int) = (2 : Int) ^ (64 - s) := by push_cast; rfl
  -- the part from below
  obtain ⟨e, he, hel, hlim⟩ : ∃ e : Nat, prv m j / (2 : Int) ^ (64 - s) = (e : Int) ∧ e < 2 ^ s ∧ limb (m * 2 ^ s) j = (((m / 18446744073709551616 ^ j % 18446744073709551616) * 2 ^ s % 18446744073709551616 + e : Nat) : Int) := by
    cases j with
    | zero =>
      refine ⟨0, ?_, hc, ?_⟩
      · unfold prv
        rw [if_pos rfl]
        exact Int.zero_ediv _
      · unfold limb
        rw [Nat.pow_zero, Nat.div_one, Nat.div_one, Nat.add_zero, Nat.mod_mul_mod]
    | succ j =>
      refine ⟨m / 18446744073709551616 ^ j % 18446744073709551616 / 2 ^ (64 - s), ?_, ?_, ?_⟩
      · unfold prv
        rw [if_neg (by omega), Nat.add_sub_cancel, ← hdI]
        unfold limb
        rw [← Int.natCast_ediv]
      · apply Nat.div_lt_of_lt_mul
        rw [Nat.mul_comm, hB]
        exact Nat.mod_lt _ (by decide)
      · unfold limb
        rw [up_limb hB hc hd]
  rw [he, hlim]
  have hx : limb m j = ((m / 18446744073709551616 ^ j % 18446744073709551616 : Nat) : Int) := rfl
  rw [hx]
  generalize m / 18446744073709551616 ^ j % 18446744073709551616 = x
  have hw : IntKind.u64.wrap ((x : Int) * (2 : Int) ^ s) = ((x % 2 ^ (64 - s) : Nat) : Int) * (2 : Int) ^ s := by
    have e1 : x * 2 ^ s % 18446744073709551616 = x % 2 ^ (64 - s) * 2 ^ s := by
      rw [← hB, Nat.mul_comm x, Nat.mul_mod_mul_left, Nat.mul_comm]
    have e2 : ((x * 2 ^ s % 18446744073709551616 : Nat) : Int) = ((x % 2 ^ (64 - s) * 2 ^ s : Nat) : Int) := by rw [e1]
    rw [Int.natCast_emod, Int.natCast_mul, Int.natCast_mul, hcI] at e2
    rw [u64_wrap]
    exact e2
  have e1 : x * 2 ^ s % 18446744073709551616 = x % 2 ^ (64 - s) * 2 ^ s := by
    rw [← hB, Nat.mul_comm x, Nat.mul_mod_mul_left, Nat.mul_comm]
  rw [hw, e1]
  have hxd := Nat.mod_lt x hd
  generalize x % 2 ^ (64 - s) = a at *
  have hle : a * 2 ^ s + e < 18446744073709551616 := by
    have : (a + 1) * 2 ^ s ≤ 2 ^ (64 - s) * 2 ^ s := Nat.mul_le_mul_right _ hxd
    rw [Nat.mul_comm (2 ^ (64 - s)), hB, Nat.add_mul, Nat.one_mul] at this
    omega
  rw [or_add (a : Int) (e : Int) ((2 : Int) ^ s) s rfl (by omega) ?_ (by omega) ?_]
  · rw [Int.natCast_add, Int.natCast_mul, hcI]
  · rw [← hcI, ← Int.natCast_mul, ← Int.natCast_add]; omega
  · rw [← hcI]; omega

abbrev Only (g : Nat) (w w' : World) : Prop := w.grownBy w' (some g)
theorem Only.set {g : Nat} {w w' : World} (h : Only g w w') (i : Nat) (v : Value) : Only g w (w'.setCell ⟨g, i, none⟩ v) :=
  ⟨h.os, h.tape, h.output, by simpa [World.setCell] using h.size, fun k hk hne => (Below.heap_setCell w' ⟨g, i, none⟩ v k (fun e => hne (by rw [e]))).trans (h.block k hk hne)⟩
theorem Only.drewN {g : Nat} {w w' : World} (h : Only g w w') (n : Nat) : Only g w (w'.drewN n) := ⟨h.os, h.tape, h.output, h.size, h.block⟩
theorem Only.row {g b : Nat} {w w' : World} {t : TypeId} {M : Nat} {f : Nat → Value} (h : Only g w w') (hne : b ≠ g) (hr : w.rowIs b t M f) : w'.rowIs b t M f :=
  World.rowIs.of_block hr (h.block b hr.lt (fun e => hne (by injection e)))

set_option maxHeartbeats 2000000 in
set_option maxRecDepth 100000 in
theorem up_calls {t t2 : TypeId} {M M2 : Nat} (m s g b L C F D : Nat) (f f2 : Nat → Value) (w : World) (hs : s ≤ 63) (hL : L ≤ M) (hM : M ≤ 1000) (hF : F ≤ M2) (hM2 : M2 ≤ 1000) (hm : m < 18446744073709551616 ^ F)
    (hne : b ≠ g) (hr : w.rowIs g t M f) (hr2 : w.rowIs b t2 M2 f2) (hf2 : ∀ j, j < F → f2 j = lim (limb m) j) :
    Calls Try.prog 84 #[.slice (some ⟨g, 0, none⟩) L C, .slice (some ⟨b, 0, none⟩) F D, .int .i64 (s : Int)] w fun e w' => e = .returned (.tuple #[]) ∧ w'.rowIs g t M (fun j => if j < L then lim (limb (m * 2 ^ s)) j else f j) ∧ Only g w w' := by
  have HM := Lib.hid hm
  have HF2 := Lib.hid hf2
  have HR := Lib.hid hr
  have HR2 := Lib.hid hr2
  have hs' : (s : Int) ≤ 63 := by omega
  clear hm hf2 hr hr2
  go_enter Try.func84, Try.ntmps84
  go_wp2_with fail
  go_loopw [6, 11] (fun l j wr => ∃ (k : Nat), j = .int .i64 k ∧ k ≤ L ∧ l = .int .u64 (prv m k) ∧
      Hid (wr.rowIs g t M (fun j => if j < k then lim (limb (m * 2 ^ s)) j else f j)) ∧ Only g w wr) (fun _ j _ => L - (intOf j).toNat)
  case atStart => exact ⟨0, rfl, by omega, rfl, Lib.hid (HR.out.congr fun j _ => by simp), World.grownBy.refl _ _⟩
  case round =>
    obtain ⟨k, rfl, hk, rfl, HB, hb⟩ := hrel
    by_cases hkL : k < L
    · have hk' : (k : Int) < (L : Int) := by omega
      have hk0 : (0 : Int) ≤ (k : Int) := by omega
      have HN := Lib.hid (up_now m k s hs)
      obtain ⟨p0, p1⟩ := prv_bd m k
      have x0 := limb_nonneg m k
      have x1 := limb_lt m k
      have hfree := World.rowIs.frozen HB.out k
      have hcell := World.rowIs.cell HB.out (i := k) (by omega)
      have HX := Lib.hid (show prv m (k + 1) = limb m k by unfold prv; rw [if_neg (by omega), Nat.add_sub_cancel])
      have hnext := fun (n : Nat) => (Only.drewN hb n).set k (.int .u64 (limb (m * 2 ^ s) k))
      have HS := fun (n : Nat) => Lib.hid (((show (wr.drewN n).rowIs g t M _ from HB.out).set k (.int .u64 (limb (m * 2 ^ s) k))).congr (g := fun j => if j < k + 1 then lim (limb (m * 2 ^ s)) j else f j) fun j _ => (by
        by_cases hj : j = k
        · subst hj
          rw [if_pos rfl, if_pos (by omega)]
          rfl
        · rw [if_neg hj]
          by_cases hj2 : j < k
          · rw [if_pos hj2, if_pos (by omega)]
          · rw [if_neg hj2, if_neg (by omega)]))
      by_cases hkF : k < F
      · have hkF' : (k : Int) < (F : Int) := by omega
        have hc2 := World.rowIs.cell (Only.row hb hne HR2.out) (i := k) (by omega)
        rw [HF2.out k hkF] at hc2
        dsimp only [lim] at hc2
        generalize limb m k = x at *
        generalize prv m k = p at *
        go_upto_region 7 with fail
        go_region
        rw [HN.out]
        go_wp2_with fail
        go_roundw
        case rel => exact ⟨k + 1, by go_num, by omega, by rw [HX.out], HS _, hnext _⟩
        case measure => simp [intOf]; omega
      · have hkF' : ¬ (k : Int) < (F : Int) := by omega
        have hx0 : limb m k = 0 := limb_none HM.out (by omega)
        rw [hx0] at HN HX
        generalize prv m k = p at *
        clear hx0 x0 x1
        go_upto_region 7 with fail
        go_region
        rw [show IntKind.u64.wrap (0 * (2 : Int) ^ s) = 0 by rw [Int.zero_mul]; rfl] at HN
        rw [HN.out]
        go_wp2_with fail
        go_roundw
        case rel => exact ⟨k + 1, by go_num, by omega, by rw [HX.out], HS _, hnext _⟩
        case measure => simp [intOf]; omega
    · have hk5 : k = L := by omega
      subst hk5
      go_wp2_with fail
      go_end0
      exact ⟨rfl, HB.out, hb⟩
end Go.Proofs.Ytchjjbklkmfelaa

/- wide.step: a limb of a quotient: the plain law, and the limbs' contracts over Nat. -/
namespace Go.Proofs.Ytchjjbklkmfelaa
open Go.RowKit Go.Lib Go.Deep
set_option linter.unusedVariables false
set_option linter.unusedSimpArgs false

theorem limb_from (n a b : Nat) : limb n (a + b) = limb (n / 18446744073709551616 ^ a) b := by
  unfold limb
  rw [Nat.div_div_eq_div_mul, ← Nat.pow_add]
theorem add_top {Y T j : Nat} (hY : Y < 18446744073709551616 ^ j) : (Y + T * 18446744073709551616 ^ j) / 18446744073709551616 ^ j = T := by
  rw [Nat.add_mul_div_right _ _ (Nat.pow_pos (by decide)), Nat.div_eq_of_lt hY, Nat.zero_add]
theorem limb_at {Y T j s : Nat} (hY : Y < 18446744073709551616 ^ j) : limb (Y + T * 18446744073709551616 ^ j) (j + s) = limb T s := by
  rw [limb_from, add_top hY]
theorem limb_zero_at (n : Nat) : limb n 0 = ((n % 18446744073709551616 : Nat) : Int) := by unfold limb; rw [Nat.pow_zero, Nat.div_one]

/-- Y's limbs below j, X's from there on. -/
def mixn (Y X j : Nat) : Nat := Y + X / 18446744073709551616 ^ j * 18446744073709551616 ^ j
theorem mix_zero (X : Nat) : mixn 0 X 0 = X := by unfold mixn; rw [Nat.pow_zero, Nat.div_one, Nat.mul_one, Nat.zero_add]
theorem mix_here {Y X j : Nat} (hY : Y < 18446744073709551616 ^ j) : limb (mixn Y X j) j = limb X j := by
  unfold mixn
  rw [show limb (Y + X / 18446744073709551616 ^ j * 18446744073709551616 ^ j) j = limb (Y + X / 18446744073709551616 ^ j * 18446744073709551616 ^ j) (j + 0) from rfl, limb_at hY, ← limb_from]
  rfl
theorem mix_limb {Y y X j t : Nat} (hY : Y < 18446744073709551616 ^ j) (hy : y < 18446744073709551616) :
    limb (mixn (Y + y * 18446744073709551616 ^ j) X (j + 1)) t = if t = j then (y : Int) else limb (mixn Y X j) t := by
  have e : mixn (Y + y * 18446744073709551616 ^ j) X (j + 1) = Y + (y + X / 18446744073709551616 ^ (j + 1) * 18446744073709551616) * 18446744073709551616 ^ j := by
    unfold mixn
    rw [Nat.add_mul, ← Nat.add_assoc, Nat.mul_assoc, ← Nat.pow_succ']
  rw [e]
  by_cases hj : t < j
  · rw [if_neg (by omega)]
    unfold mixn
    rw [limb_plus_below _ _ hj, limb_plus_below _ _ hj]
  · obtain ⟨s, rfl⟩ : ∃ s, t = j + s := ⟨t - j, by omega⟩
    unfold mixn
    rw [limb_at hY, limb_at hY]
    cases s with
    | zero =>
      rw [if_pos (Nat.add_zero j), limb_zero_at, Nat.add_mul_mod_self_right, Nat.mod_eq_of_lt hy]
    | succ s =>
      rw [if_neg (by omega), Nat.add_comm s 1, limb_from _ 1, limb_from (X / _) 1, Nat.pow_one, Nat.add_mul_div_right _ _ (by decide), Nat.div_eq_of_lt hy, Nat.zero_add, Nat.div_div_eq_div_mul, ← Nat.pow_succ]
theorem mix_bd {Y y j : Nat} (hY : Y < 18446744073709551616 ^ j) (hy : y < 18446744073709551616) : Y + y * 18446744073709551616 ^ j < 18446744073709551616 ^ (j + 1) := by
  have : (y + 1) * 18446744073709551616 ^ j ≤ 18446744073709551616 * 18446744073709551616 ^ j := Nat.mul_le_mul_right _ hy
  rw [Nat.pow_succ']
  rw [Nat.add_mul, Nat.one_mul] at this
  omega
theorem mix_end {Y X j : Nat} (hX : X < 18446744073709551616 ^ j) : mixn Y X j = Y := by
  unfold mixn
  rw [Nat.div_eq_of_lt hX, Nat.zero_mul, Nat.add_zero]

/-- The limbs of N below i, those of X from there on. -/
def win (N i X : Nat) (k : Nat) : Value := .int .u64 (if k < i then limb N k else limb X (k - i))
theorem win_start (N i k : Nat) : lim (limb N) k = win N i (N / 18446744073709551616 ^ i) k := by
  unfold win lim
  by_cases h : k < i
  · rw [if_pos h]
  · rw [if_neg h]
    obtain ⟨s, rfl⟩ : ∃ s, k = i + s := ⟨k - i, by omega⟩
    rw [Nat.add_sub_cancel_left, limb_from]
theorem win_end (N i X k : Nat) : win N i X k = lim (limb (N % 18446744073709551616 ^ i + X * 18446744073709551616 ^ i)) k := by
  have hp := Nat.mod_lt N (show 0 < 18446744073709551616 ^ i from Nat.pow_pos (by decide))
  unfold win lim
  by_cases h : k < i
  · rw [if_pos h, limb_plus_below _ _ h]
    have e : N = N % 18446744073709551616 ^ i + N / 18446744073709551616 ^ i * 18446744073709551616 ^ i := by rw [Nat.mul_comm, Nat.mod_add_div]
    conv => lhs; rw [e]
    rw [limb_plus_below _ _ h]
  · rw [if_neg h]
    obtain ⟨s, rfl⟩ : ∃ s, k = i + s := ⟨k - i, by omega⟩
    rw [Nat.add_sub_cancel_left, limb_at hp]
theorem win_set {N i Y y X j : Nat} (hY : Y < 18446744073709551616 ^ j) (hy : y < 18446744073709551616) (k : Nat) :
    (if k = i + j then Value.int .u64 (y : Int) else win N i (mixn Y X j) k) = win N i (mixn (Y + y * 18446744073709551616 ^ j) X (j + 1)) k := by
  unfold win
  by_cases h : k < i
  · rw [if_neg (by omega), if_pos h, if_pos h]
  · rw [if_neg h, if_neg h, mix_limb hY hy]
    by_cases h2 : k = i + j
    · rw [if_pos h2, if_pos (by omega)]
    · rw [if_neg h2, if_neg (by omega)]
theorem win_here {N i Y X j : Nat} (hY : Y < 18446744073709551616 ^ j) : win N i (mixn Y X j) (i + j) = .int .u64 ((X / 18446744073709551616 ^ j % 18446744073709551616 : Nat) : Int) := by
  unfold win
  rw [if_neg (by omega), Nat.add_sub_cancel_left, mix_here hY]
  rfl

/-- A guess that is not too small. -/
theorem guess_top {U V k : Nat} (hk : 1 ≤ k) (h : U / 18446744073709551616 ^ k < V / 18446744073709551616 ^ (k - 1)) :
    U / V ≤ (U / 18446744073709551616 ^ k * 18446744073709551616 + U / 18446744073709551616 ^ (k - 1) % 18446744073709551616) / (V / 18446744073709551616 ^ (k - 1)) := by
  obtain ⟨j, rfl⟩ : ∃ j, k = j + 1 := ⟨k - 1, by omega⟩
  rw [Nat.add_sub_cancel] at *
  have e : U / 18446744073709551616 ^ (j + 1) * 18446744073709551616 + U / 18446744073709551616 ^ j % 18446744073709551616 = U / 18446744073709551616 ^ j := by
    rw [Nat.pow_succ, ← Nat.div_div_eq_div_mul, Nat.mul_comm]
    exact Nat.div_add_mod _ _
  rw [e, Nat.div_div_eq_div_mul]
  apply Nat.div_le_div_left
  · exact Nat.mul_div_le _ _
  · apply Nat.mul_pos (Nat.pow_pos (by decide))
    omega
theorem guess_lt {a b v : Nat} (h : a < v) (hb : b < 18446744073709551616) : (a * 18446744073709551616 + b) / v < 18446744073709551616 := by
  apply Nat.div_lt_of_lt_mul
  have : (a + 1) * 18446744073709551616 ≤ v * 18446744073709551616 := Nat.mul_le_mul_right _ h
  omega
theorem quot_lt {U V : Nat} (h : U < V * 18446744073709551616) : U / V ≤ 18446744073709551615 := by
  have : U / V < 18446744073709551616 := Nat.div_lt_of_lt_mul h
  omega

theorem wsub_next {Y G U V j d hi lo lo2 c ov bw bw2 : Nat} (hinv : Y + G * (V % 18446744073709551616 ^ j) = U % 18446744073709551616 ^ j + (bw + ov) * 18446744073709551616 ^ j)
    (h1 : hi * 18446744073709551616 + lo = G * (V / 18446744073709551616 ^ j % 18446744073709551616)) (h2 : lo2 + c * 18446744073709551616 = lo + ov) (h3 : d + lo2 + bw = U / 18446744073709551616 ^ j % 18446744073709551616 + bw2 * 18446744073709551616) :
    Y + d * 18446744073709551616 ^ j + G * (V % 18446744073709551616 ^ (j + 1)) = U % 18446744073709551616 ^ (j + 1) + (bw2 + (hi + c)) * 18446744073709551616 ^ (j + 1) := by
  rw [Nat.pow_succ, Nat.mod_mul, Nat.mod_mul]
  generalize V / 18446744073709551616 ^ j % 18446744073709551616 = v at *
  generalize U / 18446744073709551616 ^ j % 18446744073709551616 = u at *
  generalize U % 18446744073709551616 ^ j = Ul at *
  generalize V % 18446744073709551616 ^ j = Vl at *
  generalize 18446744073709551616 ^ j = p at *
  have e : d + G * v + bw + ov = u + (bw2 + (hi + c)) * 18446744073709551616 := by
    rw [← h1]
    omega
  have e2 : (d + G * v + bw + ov) * p = (u + (bw2 + (hi + c)) * 18446744073709551616) * p := by rw [e]
  have e3 : (d + G * v + bw + ov) * p = d * p + G * (p * v) + (bw + ov) * p := by rw [Nat.mul_comm p v, ← Nat.mul_assoc]; simp only [Nat.add_mul]; omega
  have e4 : (u + (bw2 + (hi + c)) * 18446744073709551616) * p = p * u + (bw2 + (hi + c)) * (p * 18446744073709551616) := by rw [Nat.add_mul, Nat.mul_comm u, Nat.mul_assoc, Nat.mul_comm 18446744073709551616 p]
  rw [e3, e4] at e2
  rw [Nat.mul_add]
  omega
theorem wover_lt {hi lo G v lo2 c ov : Nat} (h1 : hi * 18446744073709551616 + lo = G * v) (h2 : lo2 + c * 18446744073709551616 = lo + ov) (hG : G < 18446744073709551616) (hv : v < 18446744073709551616) (ho : ov < 18446744073709551616) :
    hi + c < 18446744073709551616 := by
  have : G * v ≤ 18446744073709551615 * 18446744073709551615 := Nat.mul_le_mul (by omega) (by omega)
  omega
/-- The top limb. -/
theorem wsub_top {Y G U V k d ov bw bw2 : Nat} (hV : V < 18446744073709551616 ^ k) (hinv : Y + G * (V % 18446744073709551616 ^ k) = U % 18446744073709551616 ^ k + (bw + ov) * 18446744073709551616 ^ k)
    (hU : U < 18446744073709551616 ^ (k + 1)) (h3 : d + ov + bw = U / 18446744073709551616 ^ k % 18446744073709551616 + bw2 * 18446744073709551616) :
    Y + d * 18446744073709551616 ^ k + G * V = U + bw2 * 18446744073709551616 ^ (k + 1) := by
  have h := wsub_next (hi := 0) (lo := 0) (lo2 := ov) (c := 0) hinv (by rw [Nat.div_eq_of_lt hV]; simp) (by omega) h3
  rw [Nat.mod_eq_of_lt hU, Nat.mod_eq_of_lt (Nat.lt_trans hV (by rw [Nat.pow_succ]; have : 0 < 18446744073709551616 ^ k := Nat.pow_pos (by decide); omega))] at h
  exact h
/-- One more of the divisor. -/
theorem wadd_next {Y X V j s c c2 : Nat} (hinv : Y + c * 18446744073709551616 ^ j = X % 18446744073709551616 ^ j + V % 18446744073709551616 ^ j)
    (h : s + c2 * 18446744073709551616 = X / 18446744073709551616 ^ j % 18446744073709551616 + V / 18446744073709551616 ^ j % 18446744073709551616 + c) :
    Y + s * 18446744073709551616 ^ j + c2 * 18446744073709551616 ^ (j + 1) = X % 18446744073709551616 ^ (j + 1) + V % 18446744073709551616 ^ (j + 1) := by
  rw [Nat.pow_succ, Nat.mod_mul, Nat.mod_mul]
  generalize V / 18446744073709551616 ^ j % 18446744073709551616 = v at *
  generalize X / 18446744073709551616 ^ j % 18446744073709551616 = u at *
  generalize X % 18446744073709551616 ^ j = Ul at *
  generalize V % 18446744073709551616 ^ j = Vl at *
  generalize 18446744073709551616 ^ j = p at *
  have e2 : (s + c2 * 18446744073709551616) * p = (u + v + c) * p := by rw [h]
  rw [Nat.add_mul, Nat.add_mul, Nat.add_mul, Nat.mul_comm u, Nat.mul_comm v, Nat.mul_assoc, Nat.mul_comm 18446744073709551616 p] at e2
  omega
theorem wadd_top {Y X V k s c c2 : Nat} (hV : V < 18446744073709551616 ^ k) (hX : X < 18446744073709551616 ^ (k + 1)) (hinv : Y + c * 18446744073709551616 ^ k = X % 18446744073709551616 ^ k + V % 18446744073709551616 ^ k)
    (h : s + c2 * 18446744073709551616 = X / 18446744073709551616 ^ k % 18446744073709551616 + c) :
    Y + s * 18446744073709551616 ^ k + c2 * 18446744073709551616 ^ (k + 1) = X + V := by
  have h := wadd_next (c2 := c2) (s := s) hinv (by rw [Nat.div_eq_of_lt hV]; simpa using h)
  rw [Nat.mod_eq_of_lt hX, Nat.mod_eq_of_lt (Nat.lt_trans hV (by rw [Nat.pow_succ]; have : 0 < 18446744073709551616 ^ k := Nat.pow_pos (by decide); omega))] at h
  exact h

/-- What a guess leaves, with what was borrowed. -/
structure WGuess (U V k G X bw : Nat) : Prop where
  x : X < 18446744073709551616 ^ (k + 1)
  g : G < 18446744073709551616
  ge : U / V ≤ G
  b : bw ≤ 1
  eq : X + G * V = U + bw * 18446744073709551616 ^ (k + 1)
theorem WGuess.done {U V k G X : Nat} (hV : 0 < V) (h : WGuess U V k G X 0) : G = U / V ∧ X = U % V := by
  obtain ⟨h1, h2, h3, h4, h5⟩ := h
  have hq := Nat.div_add_mod U V
  have hm := Nat.mod_lt U hV
  have hG : G ≤ U / V := (Nat.le_div_iff_mul_le hV).2 (by omega)
  have : G = U / V := by omega
  subst this
  rw [Nat.mul_comm] at h5
  omega
theorem WGuess.pos {U V k G X : Nat} (h : WGuess U V k G X 1) : 1 ≤ G := by
  obtain ⟨h1, h2, h3, h4, h5⟩ := h
  by_cases hG : G = 0
  · subst hG
    rw [Nat.zero_mul, Nat.add_zero, Nat.one_mul] at h5
    omega
  · omega
theorem WGuess.more {U V k G X Y c : Nat} (hV : 0 < V) (hVk : V < 18446744073709551616 ^ k) (hU : U < V * 18446744073709551616) (h : WGuess U V k G X 1) (hY : Y < 18446744073709551616 ^ (k + 1)) (hc : c ≤ 1) (e : Y + c * 18446744073709551616 ^ (k + 1) = X + V) :
    1 ≤ G ∧ WGuess U V k (G - 1) Y (1 - c) := by
  obtain ⟨h1, h2, h3, h4, h5⟩ := h
  have hG : U / V < G := by
    by_cases hg : G ≤ U / V
    · have := (Nat.le_div_iff_mul_le hV).1 hg
      omega
    · omega
  have hge : U / V ≤ G - 1 := by generalize U / V = Q at *; omega
  have h1G : 1 ≤ G := Nat.lt_of_le_of_lt (Nat.zero_le _) hG
  refine ⟨h1G, hY, Nat.lt_of_le_of_lt (Nat.sub_le _ _) h2, hge, by omega, ?_⟩
  obtain ⟨g, rfl⟩ : ∃ g, G = g + 1 := ⟨G - 1, by omega⟩
  rw [Nat.add_sub_cancel]
  rw [Nat.add_mul, Nat.one_mul] at h5
  generalize 18446744073709551616 ^ (k + 1) = p at *
  generalize g * V = q at *
  have : c = 0 ∨ c = 1 := by omega
  rcases this with rfl | rfl
  · omega
  · omega

/-! The limbs' contracts, over Nat. -/
theorem mulN (a b : Nat) (w : World) (ha : a < 18446744073709551616) (hb : b < 18446744073709551616) :
    Calls Try.prog 94 #[.int .u64 (a : Int), .int .u64 (b : Int)] w fun e w' => ∃ hi lo : Nat, e = .returned (.tuple #[.int .u64 (hi : Int), .int .u64 (lo : Int)]) ∧ hi * 18446744073709551616 + lo = a * b ∧ hi < 18446744073709551616 ∧ lo < 18446744073709551616 ∧ Drawn w w' := by
  refine (lmul_calls a b w (by omega) (by omega) (by omega) (by omega)).mono ?_
  rintro e w' ⟨rfl, hd⟩
  refine ⟨a * b / 18446744073709551616, a * b % 18446744073709551616, by rw [Int.natCast_ediv, Int.natCast_emod, Int.natCast_mul]; rfl, by omega, ?_, Nat.mod_lt _ (by decide), hd⟩
  apply Nat.div_lt_of_lt_mul
  exact Nat.mul_lt_mul'' ha hb
theorem addN (a b c : Nat) (w : World) (ha : a < 18446744073709551616) (hb : b < 18446744073709551616) (hc : c ≤ 1) :
    Calls Try.prog 33 #[.int .u64 (a : Int), .int .u64 (b : Int), .int .u64 (c : Int)] w fun e w' => ∃ s o : Nat, e = .returned (.tuple #[.int .u64 (s : Int), .int .u64 (o : Int)]) ∧ s + o * 18446744073709551616 = a + b + c ∧ s < 18446744073709551616 ∧ o ≤ 1 ∧ w = w' := by
  refine (ladd_calls a b c w (by omega) (by omega) (by omega) (by omega)).mono ?_
  rintro e w' ⟨rfl, hd⟩
  have hcin : cin (c : Int) = (c : Int) := by unfold cin; split <;> omega
  refine ⟨(a + b + c) % 18446744073709551616, (a + b + c) / 18446744073709551616, ?_, by omega, Nat.mod_lt _ (by decide), by omega, hd⟩
  unfold addS addO
  rw [hcin, Int.natCast_ediv, Int.natCast_emod, Int.natCast_add, Int.natCast_add]
  rfl
theorem subN (a b c : Nat) (w : World) (ha : a < 18446744073709551616) (hb : b < 18446744073709551616) (hc : c ≤ 1) :
    Calls Try.prog 41 #[.int .u64 (a : Int), .int .u64 (b : Int), .int .u64 (c : Int)] w fun e w' => ∃ d o : Nat, e = .returned (.tuple #[.int .u64 (d : Int), .int .u64 (o : Int)]) ∧ d + b + c = a + o * 18446744073709551616 ∧ d < 18446744073709551616 ∧ o ≤ 1 ∧ w = w' := by
  refine (lsub_calls a b c w (by omega) (by omega) (by omega) (by omega)).mono ?_
  rintro e w' ⟨rfl, hd⟩
  have hcin : cin (c : Int) = (c : Int) := by unfold cin; split <;> omega
  unfold subS subO
  rw [hcin]
  by_cases h : a < b + c
  · refine ⟨a + 18446744073709551616 - b - c, 1, ?_, by omega, by omega, by omega, hd⟩
    rw [if_pos (by omega), show ((a : Int) - b - c) % 18446744073709551616 = ((a + 18446744073709551616 - b - c : Nat) : Int) by omega]
    rfl
  · refine ⟨a - b - c, 0, ?_, by omega, by omega, by omega, hd⟩
    rw [if_neg (by omega), show ((a : Int) - b - c) % 18446744073709551616 = ((a - b - c : Nat) : Int) by omega]
    rfl
/-- The guess. -/
def guessN (hi lo y : Nat) : Nat := if hi < y then (hi * 18446744073709551616 + lo) / y else 0
def zN (hi y : Nat) : Int := if hi < y then 0 else 2
theorem divN (hi lo y : Nat) (w : World) (h1 : hi < 18446744073709551616) (h2 : lo < 18446744073709551616) (h3 : y < 18446744073709551616) (h4 : 0 < y) :
    Calls Try.prog 93 #[.int .u64 (hi : Int), .int .u64 (lo : Int), .int .u64 (y : Int)] w fun e w' => ∃ (r : Int) (n : Nat), e = .returned (.tuple #[.int .u64 (guessN hi lo y : Int), .int .u64 r, .int .i64 (zN hi y)]) ∧ w' = w.drewN n := by
  unfold guessN zN
  by_cases h : hi < y
  · refine (div_calls hi lo y w (by omega) (by omega) (by omega) (by omega) (by omega)).mono ?_
    rintro e w' ⟨rfl, n, hd⟩
    exact ⟨_, n, by rw [if_pos h, if_pos h, Int.natCast_ediv, Int.natCast_add, Int.natCast_mul]; rfl, hd⟩
  · refine (div_over hi lo y w (by omega) (by omega)).mono ?_
    rintro e w' ⟨rfl, n, hd⟩
    exact ⟨_, n, by rw [if_neg h, if_neg h]; rfl, hd⟩
theorem add0N (a b : Nat) (w : World) (ha : a < 18446744073709551616) (hb : b < 18446744073709551616) :
    Calls Try.prog 33 #[.int .u64 (a : Int), .int .u64 (b : Int), .int .u64 0] w fun e w' => ∃ s o : Nat, e = .returned (.tuple #[.int .u64 (s : Int), .int .u64 (o : Int)]) ∧ s + o * 18446744073709551616 = a + b ∧ s < 18446744073709551616 ∧ o ≤ 1 ∧ w = w' := addN a b 0 w ha hb (by omega)
theorem add0cN (a c : Nat) (w : World) (ha : a < 18446744073709551616) (hc : c ≤ 1) :
    Calls Try.prog 33 #[.int .u64 (a : Int), .int .u64 0, .int .u64 (c : Int)] w fun e w' => ∃ s o : Nat, e = .returned (.tuple #[.int .u64 (s : Int), .int .u64 (o : Int)]) ∧ s + o * 18446744073709551616 = a + c ∧ s < 18446744073709551616 ∧ o ≤ 1 ∧ w = w' := addN a 0 c w ha (by omega) hc
/-- A scope with one label: what is shown of a pass serves the first pass, too. -/
theorem wp_scope_once {P : Program} {a : Act} {w : World} {Q : Exit → Act → World → Prop} {c rest : Code} (l : Nat) (J : Act → World → Prop) (μ : Act → World → Nat) (hf : findLabel c l = some (Code.skip.seq rest))
    (pass : ∀ a w, J a w → rest.wp P (Exit.jump l (fun a' w' => J a' w' ∧ μ a' w' < μ a w) Q) a w)
    (first : (∀ a w, J a w → rest.wp P (Exit.jump l J Q) a w) → c.wp P (Exit.jump l J Q) a w) : (Code.scope c).wp P Q a w :=
  wp_scope_jumps l J μ hf (first fun a w h => wp_mono (pass a w h) (by
    intro e a' w' he
    cases e <;> first | exact ⟨he.1, he.2.1⟩ | exact he)) (fun a w h => wp_seq (wp_skip (pass a w h)))
end Go.Proofs.Ytchjjbklkmfelaa

/- wide.step: a limb of a quotient. -/
namespace Go.Proofs.Ytchjjbklkmfelaa
open Go.RowKit Go.Lib Go.Deep
set_option linter.unusedVariables false
set_option linter.unusedSimpArgs false

structure Opq (p : Prop) : Prop where
  out : p
theorem frame132 {a : Act} {v0 v1 v5 v6 v10 : Value} (hs : a.tmps.size = 132) (hd : a.defers = []) (h0 : a.tmps.getD 0 undef = v0) (h1 : a.tmps.getD 1 undef = v1) (h5 : a.tmps.getD 5 undef = v5) (h6 : a.tmps.getD 6 undef = v6) (h10 : a.tmps.getD 10 undef = v10) :
    ∃ us : Nat → Value, a = { tmps := #[v0, v1, us 2, us 3, us 4, v5, v6, us 7, us 8, us 9, v10, us 11, us 12, us 13, us 14, us 15, us 16, us 17, us 18, us 19, us 20, us 21, us 22, us 23, us 24, us 25, us 26, us 27, us 28, us 29, us 30, us 31, us 32, us 33, us 34, us 35, us 36, us 37, us 38, us 39, us 40, us 41, us 42, us 43, us 44, us 45, us 46, us 47, us 48, us 49, us 50, us 51, us 52, us 53, us 54, us 55, us 56, us 57, us 58, us 59, us 60, us 61, us 62, us 63, us 64, us 65, us 66, us 67, us 68, us 69, us 70, us 71, us 72, us 73, us 74, us 75, us 76, us 77, us 78, us 79, us 80, us 81, us 82, us 83, us 84, us 85, us 86, us 87, us 88, us 89, us 90, us 91, us 92, us 93, us 94, us 95, us 96, us 97, us 98, us 99, us 100, us 101, us 102, us 103, us 104, us 105, us 106, us 107, us 108, us 109, us 110, us 111, us 112, us 113, us 114, us 115, us 116, us 117, us 118, us 119, us 120, us 121, us 122, us 123, us 124, us 125, us 126, us 127, us 128, us 129, us 130, us 131], defers := [] } := by
  obtain ⟨A, d⟩ := a
  simp only at hs hd h0 h1 h5 h6 h10
  subst hd
  refine ⟨fun i => A.getD i undef, ?_⟩
  have e : A = ((List.range 132).map fun i => A.getD i undef).toArray := by
    apply Array.ext
    · simp [hs]
    · intro i h1 h2
      simp [Array.getD, h1]
  rw [← h0, ← h1, ← h5, ← h6, ← h10]
  conv => lhs; rw [e]
  rfl
theorem win_last (N i X k : Nat) (hX : X < 18446744073709551616 ^ (k + 1)) : win N i X (i + k) = .int .u64 ((X / 18446744073709551616 ^ k : Nat) : Int) := by
  unfold win limb
  rw [if_neg (by omega), Nat.add_sub_cancel_left, Nat.mod_eq_of_lt]
  apply Nat.div_lt_of_lt_mul
  rw [← Nat.pow_succ]
  exact hX
theorem limb_top {V k : Nat} (hV : V < 18446744073709551616 ^ (k + 1)) : limb V k = ((V / 18446744073709551616 ^ k : Nat) : Int) := by
  unfold limb
  rw [Nat.mod_eq_of_lt]
  apply Nat.div_lt_of_lt_mul
  rw [← Nat.pow_succ]
  exact hV

set_option maxHeartbeats 4000000 in
set_option maxRecDepth 100000 in
theorem step_calls {t tv : TypeId} {M Mv : Nat} (N V i k kk g h C D : Nat) (w : World) (hkk : k = kk + 1) (hk4 : k ≤ 4) (hi : i + k + 1 ≤ M) (hM : M ≤ 1000) (hkv : k ≤ Mv) (hMv : Mv ≤ 1000) (hne : h ≠ g)
    (hV : V < 18446744073709551616 ^ k) (hc0 : 0 < V / 18446744073709551616 ^ kk) (hU : N / 18446744073709551616 ^ i < V * 18446744073709551616) (hr : w.rowIs g t M (lim (limb N))) (hv : w.rowIs h tv Mv (lim (limb V))) :
    Calls Try.prog 85 #[.slice (some ⟨g, i, none⟩) (k + 1) C, .slice (some ⟨h, 0, none⟩) k D] w fun e w' => e = .returned (.int .u64 ((N / 18446744073709551616 ^ i / V : Nat) : Int)) ∧ w'.rowIs g t M (lim (limb (N % 18446744073709551616 ^ i + N / 18446744073709551616 ^ i % V * 18446744073709551616 ^ i))) ∧ Only g w w' := by
  have HR := Lib.hid (World.rowIs.congr hr fun j _ => win_start N i j)
  have HV := Lib.hid hv
  obtain ⟨U, hUe⟩ : ∃ U, N / 18446744073709551616 ^ i = U := ⟨_, rfl⟩
  rw [hUe] at HR hU ⊢
  clear hUe hr hv
  have hVk : V / 18446744073709551616 ^ kk < 18446744073709551616 := by
    apply Nat.div_lt_of_lt_mul
    rw [← Nat.pow_succ, show kk.succ = k from hkk.symm]
    exact hV
  have hVpos : 0 < V := by
    by_cases h0 : V = 0
    · subst h0; simp at hc0
    · omega
  have hUk : U < 18446744073709551616 ^ (k + 1) := by
    rw [Nat.pow_succ]
    exact Nat.lt_of_lt_of_le hU (Nat.mul_le_mul_right _ (Nat.le_of_lt hV))
  have hUa : U / 18446744073709551616 ^ k < 18446744073709551616 := by
    apply Nat.div_lt_of_lt_mul
    rw [← Nat.pow_succ]
    exact hUk
  have hUb : U / 18446744073709551616 ^ kk % 18446744073709551616 < 18446744073709551616 := Nat.mod_lt _ (by decide)
  have HG : Hid (U / 18446744073709551616 ^ k < V / 18446744073709551616 ^ kk → U / V ≤ guessN (U / 18446744073709551616 ^ k) (U / 18446744073709551616 ^ kk % 18446744073709551616) (V / 18446744073709551616 ^ kk) ∧ guessN (U / 18446744073709551616 ^ k) (U / 18446744073709551616 ^ kk % 18446744073709551616) (V / 18446744073709551616 ^ kk) < 18446744073709551616) := by
    refine Lib.hid fun hlt => ?_
    unfold guessN
    rw [if_pos hlt]
    refine ⟨?_, guess_lt hlt hUb⟩
    have := guess_top (U := U) (V := V) (k := k) (by omega) (by rw [hkk, Nat.add_sub_cancel, ← hkk]; exact hlt)
    rw [show k - 1 = kk by omega] at this
    exact this
  have HQ := Lib.hid (quot_lt hU)
  have hkI : (k : Int) - 1 = ((kk : Nat) : Int) := by omega
  have hkI4 : (k : Int) ≤ 4 := by omega
  have hkk3 : (kk : Int) ≤ 3 := by omega
  have hkk0 : (0 : Int) ≤ (kk : Int) := by omega
  have hkl : (k : Int) < (k : Int) + 1 := by omega
  have hkkl : (kk : Int) < (k : Int) + 1 := by omega
  have hk0 : (0 : Int) ≤ (k : Int) := by omega
  have hwk : IntKind.i64.wrap (kk : Int) = (kk : Int) := by rw [IntKind.wrap_i64]; omega
  have hkle1 : kk ≤ k := by omega
  have hkle2 : (kk : Int) ≤ (k : Int) := by omega
  have hklt1 : kk < k := by omega
  have hkkl2 : (kk : Int) < (k : Int) := by omega
  have c1 := World.rowIs.cell HR.out (i := i + k) (by omega)
  rw [win_last N i U k hUk] at c1
  have c2 := World.rowIs.cell HR.out (i := i + kk) (by omega)
  rw [show win N i U (i + kk) = .int .u64 ((U / 18446744073709551616 ^ kk % 18446744073709551616 : Nat) : Int) by unfold win; rw [if_neg (by omega), Nat.add_sub_cancel_left]; rfl] at c2
  have c3 := World.rowIs.cell HV.out (i := kk) (by omega)
  rw [show lim (limb V) kk = .int .u64 ((V / 18446744073709551616 ^ kk : Nat) : Int) by unfold lim; rw [limb_top (by rw [← hkk]; exact hV)]] at c3
  have HVk := Lib.hid hV
  have HU := Lib.hid hU
  have HUk := Lib.hid hUk
  have HK := Lib.hid hkk
  have HVp := Lib.hid hVpos
  clear hV hU hUk hkk hVpos
  obtain ⟨a, ha⟩ : ∃ a, U / 18446744073709551616 ^ k = a := ⟨_, rfl⟩
  obtain ⟨b, hb⟩ : ∃ b, U / 18446744073709551616 ^ kk % 18446744073709551616 = b := ⟨_, rfl⟩
  obtain ⟨c, hc⟩ : ∃ c, V / 18446744073709551616 ^ kk = c := ⟨_, rfl⟩
  rw [ha] at HG hUa c1
  rw [hb] at HG hUb c2
  rw [hc] at HG hVk hc0 c3
  have HA := Lib.hid ha
  clear ha hb hc
  go_enter Try.func85, Try.ntmps85
  go_wp2_with fail
  refine wp_scope_once 0 (fun a' w' => ∃ G X bw : Nat, Hid (WGuess U V k G X bw) ∧ Hid (w'.rowIs g t M (win N i X)) ∧ Only g w w' ∧ a'.tmps.size = 132 ∧ a'.defers = [] ∧ a'.tmps.getD 0 undef = .slice (some ⟨g, i, none⟩) (k + 1) C ∧ a'.tmps.getD 1 undef = .slice (some ⟨h, 0, none⟩) k D ∧ a'.tmps.getD 5 undef = .int .i64 (k : Int) ∧ a'.tmps.getD 6 undef = .int .u64 (G : Int) ∧ a'.tmps.getD 10 undef = .int .u64 (bw : Int)) (fun a' _ => (intOf (a'.tmps.getD 6 undef)).toNat) rfl ?pass ?first
  case pass =>
    rintro a' wr ⟨G, X, bw, HW, HB, hb, hz, hd, z0, z1, z5, z6, z10⟩
    obtain ⟨us, rfl⟩ := frame132 hz hd z0 z1 z5 z6 z10
    clear hz hd z0 z1 z5 z6 z10
    clear HR c1 c2 c3 HG HA HQ hUa hUb hVk hc0 hkl hkkl hkkl2 hkI hkk0 hkk3 hwk hkle1 hkle2 hklt1
    by_cases hb0 : bw = 0
    · subst hb0
      obtain ⟨e1, e2⟩ := HW.out.done HVp.out
      have E1 := Lib.hid e1
      have E2 := Lib.hid e2
      clear e1 e2
      go_wp2_with fail
      simp only [Exit.jump]
      go_ret
      exact ⟨by rw [E1.out]; rfl, HB.out.congr fun j _ => by rw [win_end, E2.out], hb⟩
    · have hb1 : bw = 1 := by have := HW.out.b; omega
      subst hb1
      have hG1 := HW.out.pos
      have hgg := HW.out.g
      have hgI : (G : Int) - 1 = ((G - 1 : Nat) : Int) := by omega
      have hgw : IntKind.u64.wrap ((G - 1 : Nat) : Int) = ((G - 1 : Nat) : Int) := u64_lo (by omega) (by omega)
      have hGg : G - 1 < G := by omega
      have HMo := Lib.hid (fun (Y c : Nat) => @WGuess.more U V k G X Y c HVp.out HVk.out HU.out HW.out)
      have hXk := HW.out.x
      have HXk := Lib.hid hXk
      generalize G - 1 = G1 at *
      clear hG1 hgg hXk
      go_wp2_with fail
      go_loopw [16, 98] (fun cv j wl => ∃ (n co Y : Nat), j = .int .i64 (n : Int) ∧ n ≤ k ∧ cv = .int .u64 (co : Int) ∧ co ≤ 1 ∧ Hid (Y < 18446744073709551616 ^ n ∧ Y + co * 18446744073709551616 ^ n = X % 18446744073709551616 ^ n + V % 18446744073709551616 ^ n) ∧
          Hid (wl.rowIs g t M (win N i (mixn Y X n))) ∧ Only g w wl) (fun _ j _ => k - (intOf j).toNat)
      case atStart => exact ⟨0, 0, 0, rfl, by omega, rfl, by decide, Lib.hid ⟨by decide, by simp [Nat.mod_one]⟩, Lib.hid (by rw [mix_zero]; exact HB.out), hb⟩
      case round =>
        obtain ⟨n, co, Y, rfl, hn, rfl, hco, HI, HB2, hb2⟩ := hrel
        obtain ⟨hY, hinv⟩ := HI.out
        by_cases hnk : n < k
        · have hn1 : (n : Int) < (k : Int) := by omega
          have hn2 : (n : Int) < (k : Int) + 1 := by omega
          have hn3 : n ≤ k := by omega
          have hn0 : (0 : Int) ≤ (n : Int) := by omega
          have hcv := World.rowIs.cell (Only.row hb2 hne HV.out) (i := n) (by omega)
          rw [show lim (limb V) n = .int .u64 ((V / 18446744073709551616 ^ n % 18446744073709551616 : Nat) : Int) from rfl] at hcv
          have hcu := World.rowIs.cell HB2.out (i := i + n) (by omega)
          rw [win_here hY] at hcu
          have hfree := World.rowIs.frozen HB2.out (i + n)
          have hvl : V / 18446744073709551616 ^ n % 18446744073709551616 < 18446744073709551616 := Nat.mod_lt _ (by decide)
          have hul : X / 18446744073709551616 ^ n % 18446744073709551616 < 18446744073709551616 := Nat.mod_lt _ (by decide)
          have HNx := Lib.hid (fun (s c2 : Nat) => @wadd_next Y X V n s co c2 hinv)
          have HY := Lib.hid hY
          generalize V / 18446744073709551616 ^ n % 18446744073709551616 = v at *
          generalize X / 18446744073709551616 ^ n % 18446744073709551616 = u at *
          clear HI hinv hY
          go_wp2_with fail
          refine (addN u v co _ hul hvl hco).mono ?_
          rintro e w1 ⟨s, o2, rfl, hs, hsl, ho2, rfl⟩
          have Hs := Lib.hid hs
          clear hs
          go_wp2_with fail
          go_roundw
          case rel =>
            exact ⟨n + 1, o2, Y + s * 18446744073709551616 ^ n, by go_num, by omega, rfl, ho2, Lib.hid ⟨mix_bd HY.out hsl, HNx.out s o2 Hs.out⟩, Lib.hid ((HB2.out.set (i + n) (.int .u64 (s : Int))).congr fun j _ => win_set HY.out hsl j), hb2.set _ _⟩
          case measure => simp [intOf]; omega
        · have hkn : k = n := by omega
          subst hkn
          have hcu := World.rowIs.cell HB2.out (i := i + k) (by omega)
          rw [win_here hY] at hcu
          have hfree := World.rowIs.frozen HB2.out (i + k)
          have hul : X / 18446744073709551616 ^ k % 18446744073709551616 < 18446744073709551616 := Nat.mod_lt _ (by decide)
          have HTop := Lib.hid (fun (s c2 : Nat) => @wadd_top Y X V k s co c2 HVk.out HXk.out hinv)
          have HY := Lib.hid hY
          generalize X / 18446744073709551616 ^ k % 18446744073709551616 = u at *
          clear HI hinv hY
          go_wp2_with fail
          refine (add0cN u co _ hul hco).mono ?_
          rintro e w1 ⟨s, o2, rfl, hs, hsl, ho2, rfl⟩
          have Hs := Lib.hid hs
          clear hs
          have ho3 : (1 : Int) - (o2 : Int) = ((1 - o2 : Nat) : Int) := by omega
          have ho4 : IntKind.u64.wrap ((1 - o2 : Nat) : Int) = ((1 - o2 : Nat) : Int) := u64_lo (by omega) (by omega)
          go_wp2_with fail
          go_step3
          exact ⟨rfl, ⟨G1, Y + s * 18446744073709551616 ^ k, 1 - o2, Lib.hid (HMo.out _ o2 (mix_bd HY.out hsl) ho2 (HTop.out s o2 Hs.out)).2, Lib.hid ((HB2.out.set (i + k) (.int .u64 (s : Int))).congr fun j _ => (win_set HY.out hsl j).trans (by rw [mix_end HXk.out])), hb2.set _ _, rfl, rfl, rfl, rfl, rfl, rfl, rfl⟩, by simp [intOf]; omega⟩
  case first =>
    intro HP
    have HPass : Opq _ := ⟨HP⟩
    clear HP
    go_upto_region 2 with fail
    have e1 : w.drew.cell? ⟨g, i + k, none⟩ = some (.int .u64 (a : Int)) ∧ w.drew.cell? ⟨g, i + kk, none⟩ = some (.int .u64 (b : Int)) ∧ w.drew.cell? ⟨h, kk, none⟩ = some (.int .u64 (c : Int)) := ⟨c1, c2, c3⟩
    have e2 : ∀ n : Nat, (w.drewN n).cell? ⟨g, i + k, none⟩ = some (.int .u64 (a : Int)) ∧ (w.drewN n).cell? ⟨g, i + kk, none⟩ = some (.int .u64 (b : Int)) ∧ (w.drewN n).cell? ⟨h, kk, none⟩ = some (.int .u64 (c : Int)) := fun n => ⟨c1, c2, c3⟩
    have HD := Lib.hid (divN a b c w.drew hUa hUb hVk hc0)
    go_region_held3 (fun w' => w'.cell? ⟨g, i + k, none⟩ = some (.int .u64 (a : Int)) ∧ w'.cell? ⟨g, i + kk, none⟩ = some (.int .u64 (b : Int)) ∧ w'.cell? ⟨h, kk, none⟩ = some (.int .u64 (c : Int)))
      (first | with_reducible exact e1 | with_reducible exact e2 _)
      (first | (go_at_call 93; with_reducible refine HD.out.mono ?_; rintro e w' ⟨r, n1, rfl, rfl⟩))
    go_upto_if 41 with fail
    go_cut [6] (fun v6 wx => ∃ G : Nat, v6 = .int .u64 (G : Int) ∧ Hid (U / V ≤ G ∧ G < 18446744073709551616) ∧ Hid (wx.rowIs g t M (win N i U)) ∧ Only g w wx)
    case first =>
      have hR1 : Hid ((w.drewN (1 + n1)).rowIs g t M (win N i U)) := HR
      have hO1 : Only g w (w.drewN (1 + n1)) := Only.drewN (World.grownBy.refl _ _) _
      by_cases hac : a < c
      · have hz : (zN a c != 0) = false := by unfold zN; rw [if_pos hac]; rfl
        go_wp2_with fail
        go_meet
        case rel => exact ⟨guessN a b c, rfl, Lib.hid (HG.out hac), hR1, hO1⟩
      · have hz : (zN a c != 0) = true := by unfold zN; rw [if_neg hac]; rfl
        go_wp2_with fail
        go_meet
        case rel => exact ⟨18446744073709551615, rfl, Lib.hid ⟨HQ.out, by decide⟩, hR1, hO1⟩
    case rest =>
      obtain ⟨G, rfl, HGG, HR0, hO0⟩ := hcut
      obtain ⟨-, hGB⟩ := HGG.out
      clear HG HQ HA c1 c2 c3 e1 e2 HD HR
      go_wp2_with fail
      go_loopw [9, 10, 44] (fun ov bv j wr => ∃ (n o b' Y : Nat), j = .int .i64 (n : Int) ∧ n ≤ k ∧ ov = .int .u64 (o : Int) ∧ bv = .int .u64 (b' : Int) ∧ o < 18446744073709551616 ∧ b' ≤ 1 ∧ Hid (Y < 18446744073709551616 ^ n ∧ Y + G * (V % 18446744073709551616 ^ n) = U % 18446744073709551616 ^ n + (b' + o) * 18446744073709551616 ^ n) ∧
          Hid (wr.rowIs g t M (win N i (mixn Y U n))) ∧ Only g w wr) (fun _ _ j _ => k - (intOf j).toNat)
      case atStart => exact ⟨0, 0, 0, 0, rfl, by omega, rfl, rfl, by decide, by decide, Lib.hid ⟨by decide, by simp [Nat.mod_one]⟩, Lib.hid (by rw [mix_zero]; exact HR0.out), hO0⟩
      case round =>
        obtain ⟨n, o, b', Y, rfl, hn, rfl, rfl, ho, hbw, HI, HB, hb⟩ := hrel
        obtain ⟨hY, hinv⟩ := HI.out
        by_cases hnk : n < k
        · have hn1 : (n : Int) < (k : Int) := by omega
          have hn2 : (n : Int) < (k : Int) + 1 := by omega
          have hn3 : n ≤ k := by omega
          have hn0 : (0 : Int) ≤ (n : Int) := by omega
          have hcv := World.rowIs.cell (Only.row hb hne HV.out) (i := n) (by omega)
          rw [show lim (limb V) n = .int .u64 ((V / 18446744073709551616 ^ n % 18446744073709551616 : Nat) : Int) from rfl] at hcv
          have hcu := World.rowIs.cell HB.out (i := i + n) (by omega)
          rw [win_here hY] at hcu
          have hfree := World.rowIs.frozen HB.out (i + n)
          have hvl : V / 18446744073709551616 ^ n % 18446744073709551616 < 18446744073709551616 := Nat.mod_lt _ (by decide)
          have hul : U / 18446744073709551616 ^ n % 18446744073709551616 < 18446744073709551616 := Nat.mod_lt _ (by decide)
          have HNx := Lib.hid (fun (d hi lo lo2 c bw2 : Nat) => @wsub_next Y G U V n d hi lo lo2 c o b' bw2 hinv)
          have HY := Lib.hid hY
          generalize V / 18446744073709551616 ^ n % 18446744073709551616 = v at *
          generalize U / 18446744073709551616 ^ n % 18446744073709551616 = u at *
          clear HI hinv hY
          go_wp2_with fail
          refine (mulN G v _ hGB hvl).mono ?_
          rintro e w1 ⟨hi, lo, rfl, hm, hhi, hlo, n2, rfl⟩
          have Hm := Lib.hid hm
          clear hm
          go_wp2_with fail
          refine (add0N lo o _ hlo ho).mono ?_
          rintro e w1 ⟨lo2, co, rfl, ha, hlo2, hco, rfl⟩
          have Ha := Lib.hid ha
          have hov := wover_lt Hm.out ha hGB hvl ho
          have hovI : IntKind.u64.wrap ((hi : Int) + (co : Int)) = (hi : Int) + (co : Int) := u64_lo (by omega) (by omega)
          clear ha
          go_wp2_with fail
          refine (subN u lo2 b' _ hul hlo2 hbw).mono ?_
          rintro e w1 ⟨d, b2, rfl, hs, hd, hb2, rfl⟩
          have Hs := Lib.hid hs
          clear hs
          go_wp2_with fail
          go_roundw
          case rel =>
            exact ⟨n + 1, hi + co, b2, Y + d * 18446744073709551616 ^ n, by go_num, by omega, by simp, rfl, hov, hb2, Lib.hid ⟨mix_bd HY.out hd, HNx.out d hi lo lo2 co b2 Hm.out Ha.out Hs.out⟩, Lib.hid (((show (wr.drewN n2).rowIs g t M _ from HB.out).set (i + n) (.int .u64 (d : Int))).congr fun j _ => win_set HY.out hd j), (Only.drewN hb n2).set _ _⟩
          case measure => simp [intOf]; omega
        · have hkn : k = n := by omega
          subst hkn
          have hcu := World.rowIs.cell HB.out (i := i + k) (by omega)
          rw [win_here hY] at hcu
          have hfree := World.rowIs.frozen HB.out (i + k)
          have hul : U / 18446744073709551616 ^ k % 18446744073709551616 < 18446744073709551616 := Nat.mod_lt _ (by decide)
          have HTop := Lib.hid (fun (d bw2 : Nat) => @wsub_top Y G U V k d o b' bw2 HVk.out hinv HUk.out)
          have HY := Lib.hid hY
          have HBw := Lib.hid hb
          generalize U / 18446744073709551616 ^ k % 18446744073709551616 = u at *
          clear HI hinv hY
          go_wp2_with fail
          refine (subN u o b' _ hul ho hbw).mono ?_
          rintro e w1 ⟨d, b2, rfl, hs, hd, hb2, rfl⟩
          have Hs := Lib.hid hs
          clear hs
          go_wp2_with fail
          go_step3
          simp only [Exit.then]
          refine ‹∀ (a : Act) (w : World), Code.wp _ (Code.seq _ _) _ a w → _› _ _ (HPass.out _ _ ⟨G, Y + d * 18446744073709551616 ^ k, b2, Lib.hid ⟨mix_bd HY.out hd, hGB, HGG.out.1, hb2, HTop.out d b2 Hs.out⟩, Lib.hid ((HB.out.set (i + k) (.int .u64 (d : Int))).congr fun j _ => (win_set HY.out hd j).trans (by rw [mix_end HUk.out])), HBw.out.set _ _, rfl, rfl, rfl, rfl, rfl, rfl, rfl⟩)
end Go.Proofs.Ytchjjbklkmfelaa

/- wide.Divide: a quotient. -/
namespace Go.Proofs.Ytchjjbklkmfelaa
open Go.RowKit Go.Lib Go.Deep
set_option linter.unusedVariables false
set_option linter.unusedSimpArgs false

theorem Only.below {g B : Nat} {w w' : World} (h : Only g w w') (hB : B ≤ g) (hs : B ≤ w.heap.size) : Below B w w' :=
  ⟨h.os, h.tape, h.output, h.size, fun k hk => h.block k (by omega) (fun e => by injection e with e; omega)⟩

/-- What the divisor's move makes of it. -/
structure Norm (d k kk s V x : Nat) : Prop where
  lt : V < 18446744073709551616 ^ k
  top : 9223372036854775808 * 18446744073709551616 ^ kk ≤ V
  sh : s ≤ 63
  eq : V = d * 2 ^ s
theorem norm_of {d k kk s x : Nat} (hk : k = kk + 1) (hd : d < 18446744073709551616 ^ k) (hx : d / 18446744073709551616 ^ kk = x) (h0 : x ≠ 0) (hs : s = 64 - blen (x : Int)) : Norm d k kk s (d * 2 ^ s) x := by
  have hxl : x < 18446744073709551616 := by
    rw [← hx]
    apply Nat.div_lt_of_lt_mul
    rw [← Nat.pow_succ, show kk.succ = k from hk.symm]
    exact hd
  obtain ⟨p1, p2, p3⟩ := blen_pow (show (1 : Int) ≤ (x : Int) by omega)
  have hl := blen_le (show (x : Int) < 18446744073709551616 by omega)
  generalize blen (x : Int) = b at *
  obtain ⟨c, rfl⟩ : ∃ c, b = c + 1 := ⟨b - 1, by omega⟩
  rw [Nat.add_sub_cancel] at p1
  have q1 : 2 ^ c ≤ x := by
    have : ((2 ^ c : Nat) : Int) ≤ (x : Int) := by rw [Int.natCast_pow]; exact p1
    exact Int.ofNat_le.1 this
  have q2 : x < 2 ^ (c + 1) := by
    have : (x : Int) < ((2 ^ (c + 1) : Nat) : Int) := by rw [Int.natCast_pow]; exact p2
    exact Int.ofNat_lt.1 this
  have hp : 0 < 18446744073709551616 ^ kk := Nat.pow_pos (by decide)
  have hs2 : 0 < 2 ^ s := Nat.pow_pos (by decide)
  have e64 : 2 ^ (c + 1) * 2 ^ s = 18446744073709551616 := by
    rw [← Nat.pow_add, show c + 1 + s = 64 by omega]
  have e63 : 2 ^ c * 2 ^ s = 9223372036854775808 := by
    rw [← Nat.pow_add, show c + s = 63 by omega]
  have hdm := Nat.div_add_mod d (18446744073709551616 ^ kk)
  have hml := Nat.mod_lt d hp
  rw [hx] at hdm
  refine ⟨?_, ?_, by omega, rfl⟩
  · have h1 : d < 18446744073709551616 ^ kk * (x + 1) := by rw [Nat.mul_add, Nat.mul_one]; omega
    have h2 : 18446744073709551616 ^ kk * (x + 1) ≤ 18446744073709551616 ^ kk * 2 ^ (c + 1) := Nat.mul_le_mul_left _ q2
    have h3 : d * 2 ^ s < 18446744073709551616 ^ kk * 2 ^ (c + 1) * 2 ^ s := Nat.mul_lt_mul_of_pos_right (Nat.lt_of_lt_of_le h1 h2) hs2
    rw [Nat.mul_assoc, e64, ← Nat.pow_succ, show kk.succ = k from hk.symm] at h3
    exact h3
  · have h1 : 18446744073709551616 ^ kk * 2 ^ c ≤ d := Nat.le_trans (Nat.mul_le_mul_left _ q1) (by omega)
    have h2 := Nat.mul_le_mul_right (2 ^ s) h1
    rw [Nat.mul_assoc, e63, Nat.mul_comm] at h2
    exact h2

/-- The limbs of the one to be divided when those from i on are a rest. -/
def uat (m V i : Nat) : Nat := m % 18446744073709551616 ^ i + m / 18446744073709551616 ^ i % V * 18446744073709551616 ^ i
theorem uat_zero (m V : Nat) : uat m V 0 = m % V := by unfold uat; rw [Nat.pow_zero, Nat.mod_one, Nat.div_one, Nat.mul_one, Nat.zero_add]
theorem uat_start {m V i : Nat} (h : m / 18446744073709551616 ^ i < V) : uat m V i = m := by
  unfold uat
  rw [Nat.mod_eq_of_lt h, Nat.mul_comm, Nat.mod_add_div]
theorem uat_next {m V j : Nat} (hV : 0 < V) :
    uat m V (j + 1) / 18446744073709551616 ^ j < V * 18446744073709551616 ∧
    uat m V (j + 1) / 18446744073709551616 ^ j / V = m / V / 18446744073709551616 ^ j % 18446744073709551616 ∧
    uat m V (j + 1) % 18446744073709551616 ^ j + uat m V (j + 1) / 18446744073709551616 ^ j % V * 18446744073709551616 ^ j = uat m V j := by
  have hp : 0 < 18446744073709551616 ^ j := Nat.pow_pos (by decide)
  have e1 : uat m V (j + 1) / 18446744073709551616 ^ j = m / 18446744073709551616 ^ j % 18446744073709551616 + m / 18446744073709551616 ^ j / 18446744073709551616 % V * 18446744073709551616 := by
    unfold uat
    rw [Nat.pow_succ, ← Nat.div_div_eq_div_mul, Nat.mul_comm (18446744073709551616 ^ j), ← Nat.mul_assoc, Nat.add_mul_div_right _ _ hp, Nat.mod_mul_left_div_self]
  have e2 : uat m V (j + 1) % 18446744073709551616 ^ j = m % 18446744073709551616 ^ j := by
    unfold uat
    rw [Nat.pow_succ, Nat.mul_comm (18446744073709551616 ^ j), ← Nat.mul_assoc, Nat.add_mul_mod_self_right, Nat.mod_mul_left_mod]
  rw [e1, e2, show m / V / 18446744073709551616 ^ j = m / 18446744073709551616 ^ j / V by rw [Nat.div_div_eq_div_mul, Nat.div_div_eq_div_mul, Nat.mul_comm]]
  unfold uat
  generalize m / 18446744073709551616 ^ j = T
  have hT := Nat.div_add_mod T 18446744073709551616
  have hx := Nat.mod_lt T (show 0 < 18446744073709551616 by decide)
  have hq := Nat.div_add_mod (T / 18446744073709551616) V
  have hr := Nat.mod_lt (T / 18446744073709551616) hV
  have eT : T = (T % 18446744073709551616 + T / 18446744073709551616 % V * 18446744073709551616) + V * (T / 18446744073709551616 / V * 18446744073709551616) := by
    rw [← Nat.mul_assoc]
    generalize T / 18446744073709551616 % V = r at *
    generalize V * (T / 18446744073709551616 / V) = z at *
    omega
  have hlt : T % 18446744073709551616 + T / 18446744073709551616 % V * 18446744073709551616 < V * 18446744073709551616 := by
    have : (T / 18446744073709551616 % V + 1) * 18446744073709551616 ≤ V * 18446744073709551616 := Nat.mul_le_mul_right _ hr
    rw [Nat.add_mul] at this
    omega
  refine ⟨hlt, ?_, ?_⟩
  · have e3 : T / V = (T % 18446744073709551616 + T / 18446744073709551616 % V * 18446744073709551616) / V + T / 18446744073709551616 / V * 18446744073709551616 := by
      conv => lhs; rw [eT]
      rw [Nat.add_mul_div_left _ _ hV]
    rw [e3, Nat.add_mul_mod_self_right, Nat.mod_eq_of_lt (Nat.div_lt_of_lt_mul hlt)]
  · have e4 : T % V = (T % 18446744073709551616 + T / 18446744073709551616 % V * 18446744073709551616) % V := by
      conv => lhs; rw [eT]
      rw [Nat.add_mul_mod_self_left]
    rw [e4]
/-- The quotient's limbs from i on. -/
def qfrom (Q i : Nat) (k : Nat) : Value := .int .u64 (if k < i then 0 else limb Q k)
theorem qfrom_set (Q j k : Nat) : (if k = j then Value.int .u64 ((Q / 18446744073709551616 ^ j % 18446744073709551616 : Nat) : Int) else qfrom Q (j + 1) k) = qfrom Q j k := by
  unfold qfrom
  by_cases h : k = j
  · subst h
    rw [if_pos rfl, if_neg (by omega)]
    rfl
  · rw [if_neg h]
    by_cases h2 : k < j
    · rw [if_pos (by omega), if_pos h2]
    · rw [if_neg (by omega), if_neg h2]
theorem qfrom_zero (Q k : Nat) : qfrom Q 0 k = lim (limb Q) k := by unfold qfrom lim; rw [if_neg (by omega)]
theorem qfrom_start {Q i : Nat} (h : Q / 18446744073709551616 ^ i = 0) (k : Nat) : qfrom Q i k = .int .u64 0 := by
  unfold qfrom
  by_cases hk : k < i
  · rw [if_pos hk]
  · rw [if_neg hk]
    obtain ⟨s, rfl⟩ : ∃ s, k = i + s := ⟨k - i, by omega⟩
    rw [limb_from, h]
    unfold limb
    rw [Nat.zero_div]
    rfl
theorem div_start {n d k kk s V x : Nat} (hn : n < 18446744073709551616 ^ 8) (hk : k = kk + 1) (hk4 : k ≤ 4) (h : Norm d k kk s V x) : n * 2 ^ s / 18446744073709551616 ^ (9 - k) < V := by
  obtain ⟨h1, h2, h3, h4⟩ := h
  apply Nat.lt_of_lt_of_le ?_ h2
  apply Nat.div_lt_of_lt_mul
  have e : 18446744073709551616 ^ (9 - k) * (9223372036854775808 * 18446744073709551616 ^ kk) = 18446744073709551616 ^ 8 * 9223372036854775808 := by
    rw [Nat.mul_comm 9223372036854775808, ← Nat.mul_assoc, ← Nat.pow_add, show 9 - k + kk = 8 by omega]
  rw [e]
  have hs : 2 ^ s ≤ 9223372036854775808 := by
    have : 2 ^ s ≤ 2 ^ 63 := Nat.pow_le_pow_right (by decide) h3
    exact this
  exact Nat.mul_lt_mul_of_lt_of_le hn hs (by omega)
def divW (w : World) (n d : Nat) : World := (((w.alloc (obj8 (limb n 0) (limb n 1) (limb n 2) (limb n 3) (limb n 4) (limb n 5) (limb n 6) (limb n 7))).alloc (row4 (limb d))).alloc (obj8 0 0 0 0 0 0 0 0)).alloc (obj4 0 0 0 0)
theorem divW_facts (w : World) (n d : Nat) : WBox (divW w n d) w.heap.size n ∧ Box (divW w n d) (w.heap.size + 1) d ∧ WBox (divW w n d) (w.heap.size + 2) 0 ∧ Box (divW w n d) (w.heap.size + 3) 0 ∧ Below w.heap.size w (divW w n d) ∧ (divW w n d).heap.size = w.heap.size + 4 := by
  have h2 := Box.new (w.alloc (obj8 (limb n 0) (limb n 1) (limb n 2) (limb n 3) (limb n 4) (limb n 5) (limb n 6) (limb n 7))) d
  have h3 := WBox.zero ((w.alloc (obj8 (limb n 0) (limb n 1) (limb n 2) (limb n 3) (limb n 4) (limb n 5) (limb n 6) (limb n 7))).alloc (row4 (limb d)))
  have h4 := Box.zero (((w.alloc (obj8 (limb n 0) (limb n 1) (limb n 2) (limb n 3) (limb n 4) (limb n 5) (limb n 6) (limb n 7))).alloc (row4 (limb d))).alloc (obj8 0 0 0 0 0 0 0 0))
  simp only [World.size_alloc, Nat.add_assoc, Nat.reduceAdd] at h2 h3 h4
  refine ⟨(((WBox.new w n).alloc _).alloc _).alloc _, (h2.alloc _).alloc _, h3.alloc _, h4, ?_, by unfold divW; simp⟩
  exact (((((Below.refl _ _).alloc (Nat.le_refl _) _).alloc (by simp) _).alloc (by simp; omega) _).alloc (by simp; omega) _)
abbrev VBox (w : World) (g n : Nat) : Prop := w.rowIs g 27 4 (lim (limb n))
abbrev objv : Obj := .cells #[.int .u64 0, .int .u64 0, .int .u64 0, .int .u64 0] 27
theorem VBox.zero (w : World) : VBox (w.alloc objv) w.heap.size 0 :=
  World.rowIs_alloc w #[.int .u64 0, .int .u64 0, .int .u64 0, .int .u64 0] 27 (lim (limb 0)) (fun i hi => by
    match i, hi with
    | 0, _ => rfl
    | 1, _ => rfl
    | 2, _ => rfl
    | 3, _ => rfl)
theorem blen_le_nat {x : Nat} (h : x < 18446744073709551616) : blen (x : Int) ≤ 64 := blen_le (by omega)

theorem or_comm64 {a b : Int} (a0 : 0 ≤ a) (a1 : a < 18446744073709551616) (b0 : 0 ≤ b) (b1 : b < 18446744073709551616) : bits .or .u64 a b = bits .or .u64 b a := by
  rw [u64_or a b a0 a1 b0 b1, u64_or b a b0 b1 a0 a1, Nat.or_comm]
theorem down_now (R i s : Nat) (hs : s ≤ 63) : bits .or .u64 (limb R i / (2 : Int) ^ s) (IntKind.u64.wrap (limb R (i + 1) * (2 : Int) ^ (64 - s))) = limb (R / 2 ^ s) i := by
  have hB := two_split s (by omega)
  have hc : 0 < 2 ^ s := Nat.pow_pos (by decide)
  have hd : 0 < 2 ^ (64 - s) := Nat.pow_pos (by decide)
  have hcI : ((2 ^ s : Nat) : Int) = (2 : Int) ^ s := by rw [Int.natCast_pow]; rfl
  have hdI : ((2 ^ (64 - s) : Nat) : Int) = (2 : Int) ^ (64 - s) := by rw [Int.natCast_pow]; rfl
  have e0 : limb (R / 2 ^ s) i = ((R / 18446744073709551616 ^ i / 2 ^ s % 18446744073709551616 : Nat) : Int) := by
    unfold limb
    rw [Nat.div_div_eq_div_mul, Nat.mul_comm, ← Nat.div_div_eq_div_mul]
  have e1 : limb R i = ((R / 18446744073709551616 ^ i % 18446744073709551616 : Nat) : Int) := rfl
  have e2 : limb R (i + 1) = ((R / 18446744073709551616 ^ i / 18446744073709551616 % 18446744073709551616 : Nat) : Int) := by
    unfold limb
    rw [Nat.pow_succ, Nat.div_div_eq_div_mul]
  rw [e0, e1, e2]
  generalize R / 18446744073709551616 ^ i = T
  obtain ⟨x, hx⟩ : ∃ x, T % 18446744073709551616 = x := ⟨_, rfl⟩
  have hxl : x < 18446744073709551616 := by rw [← hx]; exact Nat.mod_lt _ (by decide)
  have hw : IntKind.u64.wrap (((T / 18446744073709551616 % 18446744073709551616 : Nat) : Int) * (2 : Int) ^ (64 - s)) = ((T / 18446744073709551616 % 2 ^ s : Nat) : Int) * (2 : Int) ^ (64 - s) := by
    have f1 : T / 18446744073709551616 % 18446744073709551616 * 2 ^ (64 - s) % 18446744073709551616 = T / 18446744073709551616 % 2 ^ s * 2 ^ (64 - s) := by
      generalize T / 18446744073709551616 = z
      rw [Nat.mod_mul_mod, ← hB, Nat.mul_comm (2 ^ s), Nat.mul_comm z, Nat.mul_mod_mul_left, Nat.mul_comm]
    have f2 : ((T / 18446744073709551616 % 18446744073709551616 * 2 ^ (64 - s) % 18446744073709551616 : Nat) : Int) = ((T / 18446744073709551616 % 2 ^ s * 2 ^ (64 - s) : Nat) : Int) := by rw [f1]
    rw [Int.natCast_emod, Int.natCast_mul, Int.natCast_mul, hdI] at f2
    rw [u64_wrap]
    exact f2
  have hv : T / 2 ^ s % 18446744073709551616 = T / 18446744073709551616 % 2 ^ s * 2 ^ (64 - s) + x / 2 ^ s := by
    have hT : T = x + 2 ^ s * (2 ^ (64 - s) * (T / 18446744073709551616)) := by
      rw [← Nat.mul_assoc, hB, ← hx, Nat.mod_add_div]
    have g1 : T / 2 ^ s = x / 2 ^ s + 2 ^ (64 - s) * (T / 18446744073709551616) := by
      conv => lhs; rw [hT]
      rw [Nat.add_mul_div_left _ _ hc]
    have g2 : x / 2 ^ s < 2 ^ (64 - s) := by
      apply Nat.div_lt_of_lt_mul
      rw [hB]
      exact hxl
    rw [g1]
    generalize T / 18446744073709551616 = z at *
    generalize x / 2 ^ s = y at *
    conv => lhs; rw [← hB, Nat.mul_comm (2 ^ s)]
    rw [Nat.mod_mul, Nat.add_mul_mod_self_left, Nat.mod_eq_of_lt g2, Nat.add_mul_div_left _ _ hd, Nat.div_eq_of_lt g2, Nat.zero_add, Nat.add_comm, Nat.mul_comm]
  rw [hx, hw, hv]
  have hxs : x / 2 ^ s < 2 ^ (64 - s) := by
    apply Nat.div_lt_of_lt_mul
    rw [hB]
    exact hxl
  have hxs2 : x / 2 ^ s < 18446744073709551616 := Nat.lt_of_le_of_lt (Nat.div_le_self _ _) hxl
  have hal := Nat.mod_lt (T / 18446744073709551616) hc
  rw [← hcI, ← Int.natCast_ediv]
  generalize T / 18446744073709551616 % 2 ^ s = a at *
  generalize x / 2 ^ s = y at *
  have hle : a * 2 ^ (64 - s) + y < 18446744073709551616 := by
    have : (a + 1) * 2 ^ (64 - s) ≤ 2 ^ s * 2 ^ (64 - s) := Nat.mul_le_mul_right _ hal
    rw [hB, Nat.add_mul, Nat.one_mul] at this
    omega
  have hap : ((a : Int) * (2 : Int) ^ (64 - s)) = ((a * 2 ^ (64 - s) : Nat) : Int) := by rw [Int.natCast_mul, hdI]
  rw [or_comm64 (by omega) (by omega) (by rw [hap]; omega) (by rw [hap]; omega), or_add (a : Int) (y : Int) ((2 : Int) ^ (64 - s)) (64 - s) rfl (by omega) (by rw [hap]; omega) (by omega) (by rw [← hdI]; omega), hap]
  omega
/-- The rest's limbs below i. -/
def rto (D i : Nat) (k : Nat) : Value := .int .u64 (if k < i then limb D k else 0)
theorem rto_set (D i k : Nat) : (if k = i then Value.int .u64 (limb D i) else rto D i k) = rto D (i + 1) k := by
  unfold rto
  by_cases h : k = i
  · subst h
    rw [if_pos rfl, if_pos (by omega)]
  · rw [if_neg h]
    by_cases h2 : k < i
    · rw [if_pos h2, if_pos (by omega)]
    · rw [if_neg h2, if_neg (by omega)]
theorem rto_end {D i : Nat} (h : D < 18446744073709551616 ^ i) (k : Nat) : rto D i k = lim (limb D) k := by
  unfold rto lim
  by_cases h2 : k < i
  · rw [if_pos h2]
  · rw [if_neg h2, limb_none h (by omega)]
theorem rto_zero (D k : Nat) : lim (limb 0) k = rto D 0 k := by
  unfold rto lim
  rw [if_neg (by omega), limb_none (n := 0) (m := 0) (by decide) (by omega)]
end Go.Proofs.Ytchjjbklkmfelaa

/- wide.Divide: the walk. -/
namespace Go.Proofs.Ytchjjbklkmfelaa
open Go.RowKit Go.Lib Go.Deep
set_option linter.unusedVariables false
set_option linter.unusedSimpArgs false

theorem stage3 (W W1 W2 : World) (h1 : W1.heap.size = W.heap.size) (h2 : W2.heap.size = W.heap.size) : ∃ F : Nat → World, F 0 = W ∧ F 1 = W1 ∧ F 2 = W2 ∧ (∀ m, F m = W ∨ F m = W1 ∨ F m = W2) ∧ ∀ m, (F m).heap.size = (F 0).heap.size :=
  ⟨fun m => match m with | 0 => W | 1 => W1 | _ => W2, rfl, rfl, rfl, fun m => match m with | 0 => .inl rfl | 1 => .inr (.inl rfl) | _ + 2 => .inr (.inr rfl), fun m => match m with | 0 => rfl | 1 => h1 | _ + 2 => h2⟩
theorem results_two_rows {P : Program} {fn : Func} {p q r : Tmp} {ty ty2 : TypeId} (h : fn.results = #[.cell p ty, .cell q ty2, .tmp r]) (tmps : Array Value) (w : World) (g g2 : Nat) (cs cs2 : List Value) (d d2 : TypeDesc) (v : Value)
    (hp : tmps.getD p undef = .pointer (some ⟨g, 0, none⟩)) (hq : tmps.getD q undef = .pointer (some ⟨g2, 0, none⟩)) (hr : tmps.getD r undef = v) (hc : w.rangeAt g 0 cs) (hc2 : w.rangeAt g2 0 cs2)
    (hu : P.underlying ty = some d) (hd : d.isRow = true) (hi : (P.info? ty).map (·.size) = some cs.length) (hu2 : P.underlying ty2 = some d2) (hd2 : d2.isRow = true) (hi2 : (P.info? ty2).map (·.size) = some cs2.length) :
    (results fn tmps).run P w = .ok (.tuple #[.agg cs.toArray, .agg cs2.toArray, v]) w := by
  have hp' : tmps[p]?.getD undef = .pointer (some ⟨g, 0, none⟩) := by simpa using hp
  have hq' : tmps[q]?.getD undef = .pointer (some ⟨g2, 0, none⟩) := by simpa using hq
  have hr' : tmps[r]?.getD undef = v := by simpa using hr
  simp [results, h, hp', hq', hr', asAddr, run_loadVar_mid w g 0 ty cs d hc hu hd hi, run_loadVar_mid w g2 0 ty2 cs2 d2 hc2 hu2 hd2 hi2]

set_option maxHeartbeats 4000000 in
set_option maxRecDepth 100000 in
theorem divide_calls (n d : Nat) (w : World) (hn : n < 18446744073709551616 ^ 8) (hd : d < 18446744073709551616 ^ 4) (hd0 : d ≠ 0) :
    Calls Try.prog 69 #[wideN n, bigN d] w fun e w' => e = .returned (.tuple #[wideN (n / d), bigN (n % d), .int .i64 0]) ∧ Below w.heap.size w w' := by
  obtain ⟨F1, F2, F3, F4, hq, hsz⟩ := divW_facts w n d
  have HX := Lib.hid (idx_big d)
  have HN := Lib.hid hn
  have HD := Lib.hid hd
  unfold wideN
  go_enter Try.func69, Try.ntmps69
  obtain ⟨W, hW⟩ : ∃ W, W = divW w n d := ⟨_, rfl⟩
  rw [← hW] at F1 F2 F3 F4 hq hsz
  unfold divW row4 at hW
  clear hn hd
  have HF1 := Lib.hid F1
  have HF2 := Lib.hid F2
  have HF3 := Lib.hid F3
  have HF4 := Lib.hid F4
  clear F1 F2 F3 F4
  go_upto_region 1 with fail
  rw [← hW]
  clear hW
  go_wp2_with fail
  go_loopw [7] (fun kv wr => ∃ kk : Nat, kv = .int .i64 ((kk : Int) + 1) ∧ kk ≤ 3 ∧ Hid (d < 18446744073709551616 ^ (kk + 1)) ∧ wr = W) (fun kv _ => (intOf kv).toNat)
  case atStart => exact ⟨3, rfl, by omega, HD, rfl⟩
  case round =>
    obtain ⟨kk, rfl, hk3, HDk, rfl⟩ := hrel
    have hcx := (HF2.out).at (k := kk) (by omega)
    rw [limb_top HDk.out] at hcx
    have hk0 : (0 : Int) < (kk : Int) + 1 := by omega
    have hk00 : (0 : Int) ≤ (kk : Int) := by omega
    have hk01 : ((kk : Int) + 1 == 0) = false := by simp; omega
    have hk4 : (kk : Int) < 4 := by omega
    have hwk : IntKind.i64.wrap (kk : Int) = (kk : Int) := by rw [IntKind.wrap_i64]; omega
    obtain ⟨x, hx⟩ : ∃ x, d / 18446744073709551616 ^ kk = x := ⟨_, rfl⟩
    rw [hx] at hcx
    have HXe := Lib.hid hx
    clear hx
    by_cases hz : x = 0
    · subst hz
      have hk1 : 1 ≤ kk := by
        by_cases h : kk = 0
        · subst h
          have := HXe.out
          rw [Nat.pow_zero, Nat.div_one] at this
          exact absurd this hd0
        · omega
      have HDn : Hid (d < 18446744073709551616 ^ kk) := Lib.hid ((Nat.div_eq_zero_iff_lt (Nat.pow_pos (by decide))).1 HXe.out)
      obtain ⟨j, rfl⟩ : ∃ j, kk = j + 1 := ⟨kk - 1, by omega⟩
      go_wp2_with fail
      go_roundw
      case rel => exact ⟨j, by go_num, by omega, HDn, trivial⟩
      case measure => simp [intOf]; omega
    · have hz2 : ((x : Int) == 0) = false := by simp; omega
      have hxl : x < 18446744073709551616 := by
        rw [← HXe.out]
        apply Nat.div_lt_of_lt_mul
        rw [← Nat.pow_succ]
        exact HDk.out
      obtain ⟨s, hs⟩ : ∃ s, 64 - blen (x : Int) = s := ⟨_, rfl⟩
      have HNorm := Lib.hid (norm_of (kk := kk) rfl HDk.out HXe.out hz hs.symm)
      have hl := blen_le_nat hxl
      have hsI : (64 : Int) - (blen (x : Int) : Int) = (s : Int) := by omega
      have hs63 := HNorm.out.sh
      have hs63' : (s : Int) ≤ 63 := by omega
      have hws : IntKind.i64.wrap (s : Int) = (s : Int) := by rw [IntKind.wrap_i64]; omega
      clear hs hl
      go_wp2_with fail
      refine (len_calls x _ (by omega) (by omega)).mono ?_
      rintro e w' ⟨rfl, rfl⟩
      go_upto_region 9 with fail
      have U0 := NBox.zero wr
      have V0 := VBox.zero (wr.alloc obj9)
      have N0 := (HF1.out.alloc obj9).alloc objv
      have D0 := (HF2.out.alloc obj9).alloc objv
      have Q0 := (HF3.out.alloc obj9).alloc objv
      have R0 := (HF4.out.alloc obj9).alloc objv
      have hq2 := (hq.alloc (by omega) obj9).alloc (by simp; omega) objv
      have U1 := World.rowIs.alloc U0 objv
      simp only [World.size_alloc, hsz] at V0 U1
      obtain ⟨W2, hW2⟩ : ∃ W2, (wr.alloc obj9).alloc objv = W2 := ⟨_, rfl⟩
      rw [hW2] at V0 N0 D0 Q0 R0 hq2 U1
      dsimp only [obj9, objv] at hW2
      rw [hW2]
      clear hW2 U0 hq HF1 HF2 HF3 HF4 hcx HX
      obtain ⟨gv, hgv⟩ : ∃ g, w.heap.size + 4 + 1 = g := ⟨_, rfl⟩
      rw [hgv] at V0 ⊢
      obtain ⟨gu, hgu⟩ : ∃ g, w.heap.size + 4 = g := ⟨_, rfl⟩
      rw [hgu] at U1 ⊢
      obtain ⟨gr, hgr⟩ : ∃ g, w.heap.size + 1 + 1 + 1 = g := ⟨_, rfl⟩
      rw [hgr]
      rw [show w.heap.size + 3 = gr from hgr] at R0
      obtain ⟨gq, hgq⟩ : ∃ g, w.heap.size + 1 + 1 = g := ⟨_, rfl⟩
      rw [hgq]
      rw [show w.heap.size + 2 = gq from hgq] at Q0
      obtain ⟨gd, hgd⟩ : ∃ g, w.heap.size + 1 = g := ⟨_, rfl⟩
      rw [hgd] at D0 ⊢
      clear hsz
      obtain ⟨gn, hgn⟩ : ∃ g, w.heap.size = g := ⟨_, rfl⟩
      rw [hgn] at N0 hq2 hgd hgq hgr hgu hgv ⊢
      have HGd := Lib.hid hgd
      have HGq := Lib.hid hgq
      have HGr := Lib.hid hgr
      have HGu := Lib.hid hgu
      have HGv := Lib.hid hgv
      have HGn := Lib.hid hgn
      clear hgd hgq hgr hgu hgv hgn
      have HUp := Lib.hid (up_calls (t := 141) (t2 := 111) (M := 9) (M2 := 8) n s gu gn 9 9 8 8 _ _ W2.drew hs63 (by omega) (by omega) (by omega) (by omega) HN.out (by have := HGu.out; omega) U1 N0 (fun j _ => rfl))
      have V0' := Lib.hid V0
      have D0' := Lib.hid D0
      have Q0' := Lib.hid Q0
      have R0' := Lib.hid R0
      have hq2' := Lib.hid hq2
      clear V0 D0 Q0 R0 hq2 U1 N0
      have hk5 : (kk : Int) + 1 ≤ 4 := by omega
      have hk6 : (0 : Int) ≤ (kk : Int) + 1 := by omega
      have htn : ((kk : Int) + 1).toNat = kk + 1 := by omega
      go_region_held3 (fun _ => True) (trivial)
        (first | (go_at_call 84; with_reducible refine HUp.out.mono ?_; rintro e w' ⟨rfl, hr1, ho1⟩))
      have hsz2 : gn ≤ W2.heap.size := by have := hq2'.out.size; have := HGn.out; omega
      have hV2 := Only.row ho1 (by have := HGu.out; have := HGv.out; omega) (show VBox W2.drew gv 0 from V0'.out)
      have hD2 := Only.row ho1 (by have := HGu.out; have := HGd.out; omega) (show Box W2.drew gd d from D0'.out)
      have hQ2 := Only.row ho1 (by have := HGu.out; have := HGq.out; omega) (show WBox W2.drew gq 0 from Q0'.out)
      have hR2 := Only.row ho1 (by have := HGu.out; have := HGr.out; omega) (show Box W2.drew gr 0 from R0'.out)
      have hU2 : NBox w' gu (n * 2 ^ s) := World.rowIs.congr hr1 fun j hj => by rw [if_pos (by omega)]
      have hb2 := hq2'.out.drew.trans (Only.below ho1 (by have := HGu.out; omega) hsz2)
      have hsz3 : gn ≤ w'.heap.size := by have := hb2.size; have := HGn.out; omega
      have HUp2 := Lib.hid (up_calls (t := 27) (t2 := 28) (M := 4) (M2 := 4) d s gv gd (kk + 1) 4 (kk + 1) 4 _ _ w'.drew hs63 (by omega) (by omega) (by omega) (by omega) HDk.out (by have := HGv.out; have := HGd.out; omega) hV2 hD2 (fun j _ => rfl))
      have Q2 := Lib.hid hQ2
      have R2 := Lib.hid hR2
      have U2 := Lib.hid hU2
      have HB2 := Lib.hid hb2
      clear hr1 ho1 hV2 hD2 hQ2 hR2 hU2 hb2 HUp V0' D0' Q0' R0' hq2'
      go_upto_region 10 with fail
      go_region_held3 (fun _ => True) (trivial)
        (first | (go_at_call 84; with_reducible refine HUp2.out.mono ?_; rintro e w3 ⟨rfl, hr1, ho1⟩))
      obtain ⟨m, hm⟩ : ∃ m, n * 2 ^ s = m := ⟨_, rfl⟩
      obtain ⟨V, hV⟩ : ∃ V, d * 2 ^ s = V := ⟨_, rfl⟩
      rw [hm] at U2
      rw [hV] at hr1 HNorm
      have hV3 : VBox w3 gv V := World.rowIs.congr hr1 fun j hj => by
        by_cases h : j < kk + 1
        · rw [if_pos h]
        · rw [if_neg h]
          unfold lim
          rw [limb_none HNorm.out.lt (by omega), limb_none (n := 0) (m := 0) (by decide) (by omega)]
      have hQ3 := Only.row ho1 (by have := HGv.out; have := HGq.out; omega) (show WBox w'.drew gq 0 from Q2.out)
      have hR3 := Only.row ho1 (by have := HGv.out; have := HGr.out; omega) (show Box w'.drew gr 0 from R2.out)
      have hU3 := Only.row ho1 (by have := HGv.out; have := HGu.out; omega) (show NBox w'.drew gu m from U2.out)
      have hb3 := HB2.out.drew.trans (Only.below ho1 (by have := HGv.out; omega) hsz3)
      have hst := div_start HN.out rfl (by omega) HNorm.out
      rw [hm, show 9 - (kk + 1) = 8 - kk by omega] at hst
      have hV0 : 0 < V := Nat.lt_of_le_of_lt (Nat.zero_le _) hst
      have hQd : m / V = n / d := by rw [← hm, ← hV, Nat.mul_div_mul_right _ _ (Nat.pow_pos (by decide))]
      have hQs : m / V / 18446744073709551616 ^ (8 - kk) = 0 := by rw [Nat.div_div_eq_div_mul, Nat.mul_comm, ← Nat.div_div_eq_div_mul, Nat.div_eq_of_lt hst]
      have HQd := Lib.hid hQd
      have HRd0 : Hid (m % V / 2 ^ s = n % d) := Lib.hid (by rw [← hm, ← hV, Nat.mul_mod_mul_right, Nat.mul_div_cancel _ (Nat.pow_pos (by decide))])
      have hc0 : 0 < V / 18446744073709551616 ^ kk := by
        have h1 := HNorm.out.top
        have h2 : 0 < 18446744073709551616 ^ kk := Nat.pow_pos (by decide)
        exact Nat.div_pos (by omega) h2
      have U3 := Lib.hid (World.rowIs.congr hU3 (g := lim (limb (uat m V (8 - kk)))) fun j _ => by rw [uat_start hst])
      have V3 := Lib.hid hV3
      have Q3 := Lib.hid (World.rowIs.congr hQ3 (g := qfrom (m / V) (8 - kk)) fun j _ => by rw [qfrom_start hQs]; unfold lim; rw [limb_none (n := 0) (m := 0) (by decide) (by omega)])
      have R3 := Lib.hid hR3
      have HB3 := Lib.hid hb3
      have HV0 := Lib.hid hV0
      have HVk := Lib.hid HNorm.out.lt
      have HC0 := Lib.hid hc0
      obtain ⟨Q, hQ⟩ : ∃ Q, m / V = Q := ⟨_, rfl⟩
      rw [hQ] at HQd Q3
      have HQ := Lib.hid hQ
      clear hr1 ho1 hV3 hQ3 hR3 hU3 hb3 hst hV0 hQd hQs hc0 hm hV hQ U2 Q2 R2 HB2 HUp2 hsz2 hsz3 HNorm
      have hw8 : IntKind.i64.wrap (8 - ((kk : Int) + 1)) = 8 - ((kk : Int) + 1) := by rw [IntKind.wrap_i64]; omega
      go_wp2_with fail
      go_loopw [11] (fun jv wl => ∃ i : Nat, jv = .int .i64 ((i : Int) - 1) ∧ i + kk ≤ 8 ∧ Hid (NBox wl gu (uat m V i)) ∧ Hid (VBox wl gv V) ∧ Hid (wl.rowIs gq 111 8 (qfrom Q i)) ∧ Hid (Box wl gr 0) ∧ Hid (Below gn w wl)) (fun jv _ => ((intOf jv) + 1).toNat)
      case atStart => exact ⟨8 - kk, by go_num, by omega, U3, V3, Q3, R3, HB3⟩
      case round =>
        obtain ⟨i, rfl, hi, HU, HVb, HQr, HR, HB⟩ := hrel
        clear U3 V3 Q3 R3 HB3
        cases i with
        | zero =>
          have hU0 := HU.out
          rw [uat_zero] at hU0
          have HU0 := Lib.hid hU0
          have HF0 : Hid (wr.rowIs gr 28 4 (rto (m % V / 2 ^ s) 0)) := Lib.hid (World.rowIs.congr HR.out fun k _ => rto_zero _ k)
          have HRV : Hid (m % V < 18446744073709551616 ^ (kk + 1)) := Lib.hid (Nat.lt_trans (Nat.mod_lt _ HV0.out) HVk.out)
          clear hU0 HU HVb HR HV0 HVk HC0
          have HRd := HRd0
          generalize m % V = R at *
          have HDr : Hid (R / 2 ^ s < 18446744073709551616 ^ (kk + 1)) := Lib.hid (Nat.lt_of_le_of_lt (Nat.div_le_self _ _) HRV.out)
          go_wp2_with fail
          go_loopw [62] (fun jv wl => ∃ i : Nat, jv = .int .i64 (i : Int) ∧ i ≤ kk + 1 ∧ Hid (wl.rowIs gr 28 4 (rto (R / 2 ^ s) i)) ∧ Hid (NBox wl gu R) ∧ Hid (wl.rowIs gq 111 8 (qfrom Q 0)) ∧ Hid (Below gn w wl)) (fun jv _ => kk + 1 - (intOf jv).toNat)
          case atStart => exact ⟨0, rfl, by omega, HF0, HU0, HQr, HB⟩
          case round =>
            obtain ⟨i, rfl, hi1, HF, HU, HQr1, HB1⟩ := hrel
            clear HF0 HU0 HQr HB
            have hf := HF.out
            by_cases hik : i < kk + 1
            · have hi2 : (i : Int) < (kk : Int) + 1 := by omega
              have hi0 : (0 : Int) ≤ (i : Int) := by omega
              have hi4 : (i : Int) < 4 := by omega
              have hi9 : (i : Int) < 9 := by omega
              have hi10 : (i : Int) + 1 < 9 := by omega
              have hi11 : (0 : Int) ≤ (i : Int) + 1 := by omega
              have hit : ((i : Int) + 1).toNat = i + 1 := by omega
              have hc1 := World.rowIs.cell HU.out (i := i) (by omega)
              have hc2 := World.rowIs.cell HU.out (i := i + 1) (by omega)
              have hc3 := World.rowIs.cell hf (i := i) (by omega)
              have hfz := World.rowIs.frozen hf i
              have a0 := limb_nonneg R i
              have a1 := limb_lt R i
              have b0 := limb_nonneg R (i + 1)
              have b1 := limb_lt R (i + 1)
              dsimp only [lim] at hc1 hc2
              have HDn := Lib.hid (down_now R i s hs63)
              generalize limb R i = a at *
              generalize limb R (i + 1) = b at *
              have HFr := Lib.hid hf
              clear hf HF
              go_upto_region 18 with fail
              go_region
              rw [HDn.out]
              go_wp2_with fail
              go_roundw
              case rel =>
                exact ⟨i + 1, by go_num, by omega, Lib.hid (((show (wr.drewN _).rowIs gr _ 4 _ from HFr.out).set i _).congr fun k _ => rto_set _ i k), Lib.hid (World.rowIs.setOther (show NBox (wr.drewN _) gu R from HU.out) (a := ⟨gr, i, none⟩) (by have := HGu.out; have := HGr.out; show gu ≠ gr; omega) _), Lib.hid (World.rowIs.setOther (show (wr.drewN _).rowIs gq _ 8 (qfrom Q 0) from HQr1.out) (a := ⟨gr, i, none⟩) (by have := HGr.out; have := HGq.out; show gq ≠ gr; omega) _), Lib.hid ((below_drewN HB1.out _).setCell (by have := HGr.out; show gn ≤ gr; omega) _)⟩
              case measure => simp [intOf]; omega
            · have hik2 : ¬ (i : Int) < (kk : Int) + 1 := by omega
              obtain ⟨qs, hqs⟩ : ∃ qs, cells8 Q = qs := ⟨_, rfl⟩
              have hAq : At wr gq 0 qs := by
                have h := At.of_row (World.rowIs.congr HQr1.out fun k _ => qfrom_zero Q k)
                rw [← hqs]
                exact h
              have hki : kk + 1 = i := by omega
              subst hki
              have hAr : At wr gr 0 [.int .u64 (limb (R / 2 ^ s) 0), .int .u64 (limb (R / 2 ^ s) 1), .int .u64 (limb (R / 2 ^ s) 2), .int .u64 (limb (R / 2 ^ s) 3)] := At.of_row (World.rowIs.congr hf fun k _ => rto_end HDr.out k)
              have hq8 : qs.toArray = #[.int .u64 (limb Q 0), .int .u64 (limb Q 1), .int .u64 (limb Q 2), .int .u64 (limb Q 3), .int .u64 (limb Q 4), .int .u64 (limb Q 5), .int .u64 (limb Q 6), .int .u64 (limb Q 7)] := by rw [← hqs]; rfl
              have HQ8 := Lib.hid hq8
              have HI8 : Hid ((Try.prog.info? 111).map (·.size) = some qs.length) := Lib.hid (hqs ▸ info8 Q)
              have HO8 : Hid (∀ v ∈ qs, v.oneCell' = true) := Lib.hid (hqs ▸ cells8_one Q)
              obtain ⟨rs, hrs⟩ : ∃ rs, [Value.int .u64 (limb (R / 2 ^ s) 0), .int .u64 (limb (R / 2 ^ s) 1), .int .u64 (limb (R / 2 ^ s) 2), .int .u64 (limb (R / 2 ^ s) 3)] = rs := ⟨_, rfl⟩
              rw [hrs] at hAr
              have HI4 : Hid ((Try.prog.info? 28).map (·.size) = some rs.length) := Lib.hid (by rw [← hrs]; kernel_rfl)
              have HO4 : Hid (∀ v ∈ rs, v.oneCell' = true) := Lib.hid (by rw [← hrs]; intro v hv; simp only [List.mem_cons, List.not_mem_nil, or_false] at hv; rcases hv with rfl | rfl | rfl | rfl <;> rfl)
              have HRS := Lib.hid hrs
              have hlq : gq < wr.heap.size := HQr1.out.lt
              have hlr : gr < wr.heap.size := hf.lt
              have hnqr : gq ≠ gr := by have := HGr.out; have := HGq.out; omega
              have hAr2 : At (wr.setCells gq 0 qs) gr 0 rs := hAr.apart gq 0 qs (.inl (Ne.symm hnqr))
              have HAq := Lib.hid hAq
              have HAr := Lib.hid hAr
              have HAr2 := Lib.hid hAr2
              have HAr3 := Lib.hid (hAr2.cells rs rfl)
              have HAq3 := Lib.hid ((hAq.cells qs rfl).apart gr 0 rs (.inl hnqr))
              have HBn := Lib.hid (below_range (show gn ≤ gr by have := HGr.out; omega) rs 0 _ (below_range (show gn ≤ gq by have := HGq.out; omega) qs 0 _ HB1.out))
              have HNqr := Lib.hid hnqr
              clear hq8 hqs hrs hAq hAr hAr2 hf HF HU HQr1 HB1 hnqr
              go_upto_region 20 with fail
              obtain ⟨T, hT⟩ : ∃ T : Sched, T = ⟨[.early, .main, .late, .late, .main], [.agg (List.toArray (qs)), .agg (List.toArray (rs)), undef, undef, .int .i64 0], (fun _ _ => undef), (fun _ => []), (fun _ => []), (fun _ _ _ => True)⟩ := ⟨_, rfl⟩
              have hng : ghosty T.tags = false := by rw [hT]; rfl
              obtain ⟨F, hF0, hF1, hF2, hFa, hFs⟩ := stage3 wr (wr.setCells (gq) (0) (qs)) ((wr.setCells (gq) (0) (qs)).setCells (gr) (0) (rs)) (cells_size _ _ _ _) ((cells_size _ _ _ _).trans (cells_size _ _ _ _))
              have hF2 : F 2 = (F 1).setCells (gr) (0) (rs) := by rw [hF2, hF1]
              have hF1 : F 1 = (F 0).setCells (gq) (0) (qs) := by rw [hF1, hF0]
              have hg01 : (gr) < (F 0).heap.size := by rw [hF0]; exact hlr
              have hth1 : (F 1).there (gr) (0) (rs).length := by rw [hF1, hF0]; exact HAr2.out.2
              have hg00 : (gq) < (F 0).heap.size := by rw [hF0]; exact hlq
              have hth0 : (F 0).there (gq) (0) (qs).length := by rw [hF0]; exact HAq.out.2
              refine region_plan (by kernel_rfl) T (ClsF F) (by rw [hT]; kernel_rfl) (puts_len (by rw [hT]; exact trivial)) (ClsF.alloc hFs) ClsF.put (no_ghost hng) (by rw [← hF0]; exact ClsF.start F) ?steps ?fin
              case steps =>
                refine Steps.cons ?s0 (Steps.cons ?s1 (Steps.cons ?s2 (Steps.cons ?s3 (Steps.cons ?s4 (Steps.nil)))))
                case s0 => exact pe_load (by rw [hT]; rfl) rfl _ _ rfl (gq) (0) (fun cc AA hh => (rd0 (t := 4) hh rfl).trans (by rw [hT]; rfl)) (qs) (by rw [hT]; rfl) (fun NN ww hh => range_below (hF0 ▸ HAq.out.1) hh.1 (hF0 ▸ hlq)) Try.underlying111 rfl HI8.out
                case s1 => exact pm_load (by rw [hT]; rfl) rfl _ _ rfl (gr) (0) (fun cc AA hh => (rd0 (t := 5) hh rfl).trans (by rw [hT]; rfl)) (rs) (by rw [hT]; rfl) (fun mm NN ww hh => range_below (show (F mm).rangeAt gr 0 rs by rcases hFa mm with e | e | e <;> rw [e] <;> first | exact HAr.out.1 | exact HAr2.out.1 | exact HAr3.out.1) hh.1 (hF0 ▸ hlr)) Try.underlying28 rfl HI4.out
                case s2 => exact pl_store hng (by rw [hT]; rfl) hF1 hg00 (by rw [hT]; rfl) hth0 _ _ _ rfl rfl (fun cc AA hh => (rd0 (t := 4) hh rfl).trans (by rw [hT]; rfl)) (fun cc AA hh => (rd1 (t := 81) hh rfl).trans (by rw [hT]; rfl)) (HI8.out) (HO8.out)
                case s3 => exact pl_store hng (by rw [hT]; rfl) hF2 hg01 (by rw [hT]; rfl) hth1 _ _ _ rfl rfl (fun cc AA hh => (rd0 (t := 5) hh rfl).trans (by rw [hT]; rfl)) (fun cc AA hh => (rd1 (t := 82) hh rfl).trans (by rw [hT]; rfl)) (HI4.out) (HO4.out)
                case s4 => exact pm_assign (by rw [hT]; rfl) rfl _ rfl (fun cc AA hh => by rw [hT]; rfl)
              case fin =>
                intro cc NN w4 hC hN hap hgs
                have hB : Below wr.heap.size ((wr.setCells (gq) (0) (qs)).setCells (gr) (0) (rs)) w4 := by
                  have h := hC.1
                  rw [show lates T.tags = 2 from by rw [hT]; rfl, hF2, hF1, hF0] at h
                  exact h
                rw [show putsAll T cc _ 0 _ = List.foldl (fun a x => Act.put a x.1 x.2) _ [(some 81, .agg (List.toArray (qs))), (some 82, .agg (List.toArray (rs))), (none, undef), (none, undef), (some 6, .int .i64 0)] from by rw [hT]; rfl]
                simp only [List.foldl_cons, List.foldl_nil, Act.put, List.setIfInBounds_toArray, List.set_cons_succ, List.set_cons_zero]
                clear hN hap hgs hng hT
                have A2 := HAq3.out.below hB hlq
                have A3 := HAr3.out.below hB hlr
                have HA2 := Lib.hid A2.1
                have HA3 := Lib.hid A3.1
                have HBf := Lib.hid (HBn.out.trans (hB.mono (by have := HGr.out; omega)))
                clear A2 A3 hB hC
                go_wp2_with fail
                exact bodyPost_ret (v := .tuple #[.agg qs.toArray, .agg rs.toArray, .int .i64 0]) (results_two_rows rfl _ _ gq gr qs rs _ _ _ rfl rfl rfl HA2.out HA3.out Try.underlying111 rfl HI8.out Try.underlying28 rfl HI4.out) rfl ⟨by rw [HQ8.out, ← HRS.out, HQd.out, HRd.out], HGn.out ▸ HBf.out⟩
        | succ j =>
          rw [show ((j + 1 : Nat) : Int) - 1 = (j : Int) by omega]
          have hj0 : (0 : Int) ≤ (j : Int) := by omega
          have hj7 : (j : Int) + ((kk : Int) + 1) + 1 ≤ 9 := by omega
          have hj6 : (j : Int) ≤ (j : Int) + ((kk : Int) + 1) + 1 := by omega
          have hj8 : (j : Int) < 8 := by omega
          have hne9 : ¬ 9 = j := by omega
          have hw1 : IntKind.i64.wrap ((j : Int) + ((kk : Int) + 1)) = (j : Int) + ((kk : Int) + 1) := by rw [IntKind.wrap_i64]; omega
          have hw2 : IntKind.i64.wrap ((j : Int) + ((kk : Int) + 1) + 1) = (j : Int) + ((kk : Int) + 1) + 1 := by rw [IntKind.wrap_i64]; omega
          have hw3 : IntKind.i64.wrap ((j : Int) - 1) = (j : Int) - 1 := by rw [IntKind.wrap_i64]; omega
          have ht2 : ((j : Int) + ((kk : Int) + 1) + 1).toNat = j + (kk + 1) + 1 := by omega
          have hl2 : j + (kk + 1) + 1 - j = kk + 1 + 1 := by omega
          obtain ⟨x1, x2, x3⟩ := uat_next (m := m) (V := V) (j := j) HV0.out
          rw [HQ.out] at x2
          have HSt := Lib.hid (step_calls (t := 141) (tv := 27) (M := 9) (Mv := 4) (uat m V (j + 1)) V j (kk + 1) kk gu gv (9 - j) 4 wr.drew rfl (by omega) (by omega) (by omega) (by omega) (by omega) (by have := HGu.out; have := HGv.out; omega) HVk.out HC0.out x1 HU.out HVb.out)
          rw [x2, x3] at HSt
          clear x1 x2 x3
          obtain ⟨qd, hqd⟩ : ∃ qd, Q / 18446744073709551616 ^ j % 18446744073709551616 = qd := ⟨_, rfl⟩
          rw [hqd] at HSt
          have HQd2 := Lib.hid hqd
          clear hqd
          go_upto_region 14 with fail
          have hqrow := fun (w3 : World) (h : Only gu wr.drew w3) => Only.row h (by have := HGu.out; have := HGq.out; omega) (show wr.drew.rowIs gq 111 8 (qfrom Q (j + 1)) from HQr.out)
          have HQrow := Lib.hid hqrow
          clear hqrow
          go_region_held3 (fun _ => True) (trivial)
            (first | (go_at_call 85; with_reducible refine HSt.out.mono ?_; rintro e w3 ⟨rfl, hr1, ho1⟩; have hfz := World.rowIs.frozen (HQrow.out w3 ho1) j; have hcz := World.rowIs.cell (HQrow.out w3 ho1) (i := j) (by omega)))
          have HU2 := Lib.hid hr1
          have HV2 := Lib.hid (Only.row ho1 (by have := HGu.out; have := HGv.out; omega) (show VBox wr.drew gv V from HVb.out))
          have HR2 := Lib.hid (Only.row ho1 (by have := HGu.out; have := HGr.out; omega) (show Box wr.drew gr 0 from HR.out))
          have HQ2 := Lib.hid (HQrow.out _ ho1)
          have hb2 := HB.out.drew.trans (Only.below ho1 (by have := HGu.out; omega) (by have := HB.out.size; have := HGn.out; exact (show gn ≤ wr.heap.size by omega)))
          have HB2 := Lib.hid hb2
          clear hr1 ho1 hb2 hfz hcz HU HVb HQr HR HB HSt HQrow
          go_wp2_with fail
          go_roundw
          case rel =>
            refine ⟨j, by go_num, by omega, Lib.hid (World.rowIs.setOther HU2.out (a := ⟨gq, j, none⟩) (by have := HGu.out; have := HGq.out; show gu ≠ gq; omega) _), Lib.hid (World.rowIs.setOther HV2.out (a := ⟨gq, j, none⟩) (by have := HGv.out; have := HGq.out; show gv ≠ gq; omega) _), Lib.hid ((HQ2.out.set j _).congr fun k _ => ?_), Lib.hid (World.rowIs.setOther HR2.out (a := ⟨gq, j, none⟩) (by have := HGr.out; have := HGq.out; show gr ≠ gq; omega) _), Lib.hid (HB2.out.setCell (by have := HGq.out; show gn ≤ gq; omega) _)⟩
            rw [← HQd2.out]
            exact qfrom_set Q j k
          case measure => simp [intOf]
end Go.Proofs.Ytchjjbklkmfelaa
