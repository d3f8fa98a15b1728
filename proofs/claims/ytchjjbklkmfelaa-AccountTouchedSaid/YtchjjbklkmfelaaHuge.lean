/- huge: numbers of four limbs: Of, Low, Cmp, Add, Sub. -/
import Derived.Test.YtchjjbklkmfelaaBig
import Derived.StillTailTactics
namespace Go.Proofs.Ytchjjbklkmfelaa
open Go.RowKit
set_option linter.unusedVariables false
set_option linter.unusedSimpArgs false

set_option maxHeartbeats 400000 in
theorem hof_calls (x : Int) (w : World) :
    Calls Try.prog 68 #[.int .u64 x] w fun e w' => e = .returned (big x 0 0 0) ∧ Below w.heap.size w w' := by
  go_enter Try.func68, Try.ntmps68
  go_wp2_with fail
  exact bodyPost_ret (v := big x 0 0 0) (by simp [results, Try.results68, go_sem, big]) rfl ⟨rfl, (Below.refl _ _).alloc (Nat.le_refl _) _⟩

/-- What a step of a chain does. -/
def Steps4 (F : FuncId) (S O : Int → Int → Int → Int) : Prop :=
  (∀ a b c (w : World), 0 ≤ a → a < 18446744073709551616 → 0 ≤ b → b < 18446744073709551616 →
    Calls Try.prog F #[.int .u64 a, .int .u64 b, .int .u64 c] w fun e w' => e = .returned (.tuple #[.int .u64 (S a b c), .int .u64 (O a b c)]) ∧ w = w')

def lim (A : Nat → Int) (j : Nat) : Value := .int .u64 (A j)

theorem rowIs_big (w : World) (A : Nat → Int) (t : TypeId) : (w.alloc (.cells #[.int .u64 (A 0), .int .u64 (A 1), .int .u64 (A 2), .int .u64 (A 3)] t)).rowIs w.heap.size t 4 (lim A) :=
  World.rowIs_alloc w #[.int .u64 (A 0), .int .u64 (A 1), .int .u64 (A 2), .int .u64 (A 3)] t (lim A) (fun i hi => by
    match i, hi with
    | 0, _ => rfl
    | 1, _ => rfl
    | 2, _ => rfl
    | 3, _ => rfl)

def row4 (A : Nat → Int) : Obj := .cells #[.int .u64 (A 0), .int .u64 (A 1), .int .u64 (A 2), .int .u64 (A 3)] 28
def chainW (w : World) (A B : Nat → Int) : World := (((w.alloc (row4 A)).alloc (row4 B)).alloc (row4 fun _ => 0)).alloc (row4 fun _ => 0)

theorem chainW_facts (w : World) (A B : Nat → Int) : (chainW w A B).rowIs w.heap.size 28 4 (lim A) ∧ (chainW w A B).rowIs (w.heap.size + 1) 28 4 (lim B) ∧
    (chainW w A B).rowIs (w.heap.size + 1 + 1) 28 4 (lim fun _ => 0) ∧ (chainW w A B).rowIs (w.heap.size + 1 + 1 + 1) 28 4 (lim fun _ => 0) ∧ Below w.heap.size w (chainW w A B) := by
  unfold chainW
  have h1 := rowIs_big w A 28
  have h2 := rowIs_big (w.alloc (row4 A)) B 28
  have h3 := rowIs_big ((w.alloc (row4 A)).alloc (row4 B)) (fun _ => 0) 28
  have h4 := rowIs_big (((w.alloc (row4 A)).alloc (row4 B)).alloc (row4 fun _ => 0)) (fun _ => 0) 28
  rw [World.size_alloc] at h2 h3 h4
  rw [World.size_alloc] at h3 h4
  rw [World.size_alloc] at h4
  exact ⟨((h1.alloc _).alloc _).alloc _, (h2.alloc _).alloc _, h3.alloc _, h4, ((((Below.refl _ _).alloc (Nat.le_refl _) _).alloc (by simp) _).alloc (by simp; omega) _).alloc (by simp; omega) _⟩

def chainV (S O : Int → Int → Int → Int) (A B : Nat → Int) : Value :=
  if carry O A B 4 = 0 then .tuple #[big (S (A 0) (B 0) (carry O A B 0)) (S (A 1) (B 1) (carry O A B 1)) (S (A 2) (B 2) (carry O A B 2)) (S (A 3) (B 3) (carry O A B 3)), .int .i64 0]
  else .tuple #[big 0 0 0 0, .int .i64 2]

theorem chain_set {w : World} {g k : Nat} {t : TypeId} {S O : Int → Int → Int → Int} {A B : Nat → Int} {x : Int} (h : w.rowIs g t 4 (lim fun j => if j < k then S (A j) (B j) (carry O A B j) else 0)) (hx : x = S (A k) (B k) (carry O A B k)) :
    (w.setCell ⟨g, k, none⟩ (.int .u64 x)).rowIs g t 4 (lim fun j => if j < k + 1 then S (A j) (B j) (carry O A B j) else 0) := by
  subst hx
  refine (h.set k _).congr fun j hj => ?_
  unfold lim
  show (if j = k then Value.int .u64 (S (A k) (B k) (carry O A B k)) else Value.int .u64 (if j < k then S (A j) (B j) (carry O A B j) else 0)) = Value.int .u64 (if j < k + 1 then S (A j) (B j) (carry O A B j) else 0)
  by_cases e : j = k
  · subst e
    rw [if_pos rfl, if_pos (by omega)]
  · rw [if_neg e]
    by_cases h : j < k
    · rw [if_pos h, if_pos (by omega)]
    · rw [if_neg h, if_neg (by omega)]

/-- The four cells of a number, and that they may be written. -/
theorem cells4 {w : World} {g : Nat} {t : TypeId} {A : Nat → Int} (h : w.rowIs g t 4 (lim A)) :
    (w.cell? ⟨g, 0, none⟩ = some (.int .u64 (A 0)) ∧ w.cell? ⟨g, 1, none⟩ = some (.int .u64 (A 1)) ∧ w.cell? ⟨g, 2, none⟩ = some (.int .u64 (A 2)) ∧ w.cell? ⟨g, 3, none⟩ = some (.int .u64 (A 3))) ∧
    (w.frozen? ⟨g, 0, none⟩ = false ∧ w.frozen? ⟨g, 1, none⟩ = false ∧ w.frozen? ⟨g, 2, none⟩ = false ∧ w.frozen? ⟨g, 3, none⟩ = false) :=
  ⟨⟨h.cell (by omega), h.cell (by omega), h.cell (by omega), h.cell (by omega)⟩, h.frozen 0, h.frozen 1, h.frozen 2, h.frozen 3⟩

set_option maxHeartbeats 2000000 in
set_option maxRecDepth 100000 in
theorem chainadd_calls (S O : Int → Int → Int → Int) (hst : Steps4 33 S O) (A B : Nat → Int) (hA : ∀ j, 0 ≤ A j ∧ A j < 18446744073709551616) (hB : ∀ j, 0 ≤ B j ∧ B j < 18446744073709551616) (w : World) :
    Calls Try.prog 32 #[big (A 0) (A 1) (A 2) (A 3), big (B 0) (B 1) (B 2) (B 3), .func (.func 33) #[] #[]] w fun e w' => e = .returned (chainV S O A B) ∧ Below w.heap.size w w' := by
  unfold big
  obtain ⟨f1, f2, f3, f4, f5⟩ := chainW_facts w A B
  have HF1 := Lib.hid f1
  have HF2 := Lib.hid f2
  have HF3 := Lib.hid f3
  have HF4 := Lib.hid f4
  have HF5 := Lib.hid f5
  have HST := Lib.hid hst
  have HA := Lib.hid hA
  have HB := Lib.hid hB
  clear f1 f2 f3 f4 f5 hst hA hB
  go_enter Try.func32, Try.ntmps32
  go_wp2_with fail
  obtain ⟨W, hW⟩ : ∃ W, W = chainW w A B := ⟨_, rfl⟩
  rw [← hW] at HF1 HF2 HF3 HF4 HF5
  unfold chainW row4 at hW
  rw [← hW]
  clear hW
  go_loopw [9, 11] (fun c i wr => ∃ k : Nat, i = .int .i64 k ∧ k ≤ 4 ∧ c = .int .u64 (carry O A B k) ∧ wr.rowIs w.heap.size 28 4 (lim A) ∧ wr.rowIs (w.heap.size + 1) 28 4 (lim B) ∧
      wr.rowIs (w.heap.size + 1 + 1) 28 4 (lim fun _ => 0) ∧ wr.rowIs (w.heap.size + 1 + 1 + 1) 28 4 (lim fun j => if j < k then S (A j) (B j) (carry O A B j) else 0) ∧ Below w.heap.size w wr) (fun _ i _ => 4 - (intOf i).toNat)
  case atStart => exact ⟨0, rfl, by omega, rfl, HF1.out, HF2.out, HF3.out, HF4.out, HF5.out⟩
  case round =>
    obtain ⟨k, rfl, hk, rfl, r1, r2, r3, r4, hb⟩ := hrel
    by_cases hk4 : k < 4
    · have c1 := r1.cell hk4
      have c2 := r2.cell hk4
      have c4 := r4.cell hk4
      have c5 := r4.frozen k
      unfold lim at c1 c2 c4
      simp only [Nat.lt_irrefl, if_false] at c4
      have hcall := (HST.out (A k) (B k) (carry O A B k) · (HA.out k).1 (HA.out k).2 (HB.out k).1 (HB.out k).2)
      have HC := Lib.hid hcall
      clear hcall
      obtain ⟨a, ha⟩ : ∃ a, A k = a := ⟨_, rfl⟩
      obtain ⟨b, hb'⟩ : ∃ b, B k = b := ⟨_, rfl⟩
      obtain ⟨c, hc⟩ : ∃ c, carry O A B k = c := ⟨_, rfl⟩
      have HCA := Lib.hid (show carry O A B (k + 1) = O a b c by rw [carry, ha, hb', hc])
      have HSA := Lib.hid (show S a b c = S (A k) (B k) (carry O A B k) by rw [ha, hb', hc])
      rw [ha] at c1 HC
      rw [hb'] at c2 HC
      rw [hc] at HC ⊢
      clear ha hb' hc
      go_wp2_with fail
      go_region_with (first | (go_at_call 33; refine (HC.out _).mono ?_; rintro e w' ⟨rfl, rfl⟩))
      all_goals
        go_wp2_with fail
        go_roundw
        case rel =>
          refine ⟨k + 1, by go_num, by omega, ?_, r1.setOther (by simp; omega) _, r2.setOther (by simp) _, r3.setOther (by simp) _, ?_, (hb.setCell (show w.heap.size ≤ w.heap.size + 1 + 1 + 1 by omega) _).drew⟩
          · rw [HCA.out]
          · exact (chain_set r4 HSA.out).drew
        case measure => simp [intOf]; omega
    · have hk4 : k = 4 := by omega
      subst hk4
      obtain ⟨⟨x0, x1, x2, x3⟩, -⟩ := cells4 r4
      obtain ⟨⟨y0, y1, y2, y3⟩, z0, z1, z2, z3⟩ := cells4 r3
      simp only [show (0 : Nat) < 4 by omega, show (1 : Nat) < 4 by omega, show (2 : Nat) < 4 by omega, show (3 : Nat) < 4 by omega, if_true] at x0 x1 x2 x3
      by_cases hz : carry O A B 4 = 0
      · go_wp2_with fail
        have hV : chainV S O A B = .tuple #[big (S (A 0) (B 0) (carry O A B 0)) (S (A 1) (B 1) (carry O A B 1)) (S (A 2) (B 2) (carry O A B 2)) (S (A 3) (B 3) (carry O A B 3)), .int .i64 0] := if_pos hz
        rw [hV]
        exact bodyPost_ret (v := .tuple #[big (S (A 0) (B 0) (carry O A B 0)) (S (A 1) (B 1) (carry O A B 1)) (S (A 2) (B 2) (carry O A B 2)) (S (A 3) (B 3) (carry O A B 3)), .int .i64 0]) (by simp [results, Try.results32, go_sem, big, x0, x1, x2, x3, y0, y1, y2, y3]) rfl ⟨rfl, by repeat (first | exact hb | (refine Below.setCell ?_ (by show w.heap.size ≤ w.heap.size + 1 + 1; omega) _))⟩
      · have hz' : (carry O A B 4 != 0) = true := bne_iff_ne.2 hz
        have hV : chainV S O A B = .tuple #[big 0 0 0 0, .int .i64 2] := if_neg hz
        have HV := Lib.hid hV
        clear hz hV
        go_wp2_with fail
        rw [HV.out]
        exact bodyPost_ret (v := .tuple #[big 0 0 0 0, .int .i64 2]) (by simp [results, Try.results32, go_sem, big, y0, y1, y2, y3]) rfl ⟨rfl, by repeat (first | exact hb | (refine Below.setCell ?_ (by show w.heap.size ≤ w.heap.size + 1 + 1; omega) _))⟩
set_option maxHeartbeats 2000000 in
set_option maxRecDepth 100000 in
theorem chainsub_calls (S O : Int → Int → Int → Int) (hst : Steps4 41 S O) (A B : Nat → Int) (hA : ∀ j, 0 ≤ A j ∧ A j < 18446744073709551616) (hB : ∀ j, 0 ≤ B j ∧ B j < 18446744073709551616) (w : World) :
    Calls Try.prog 32 #[big (A 0) (A 1) (A 2) (A 3), big (B 0) (B 1) (B 2) (B 3), .func (.func 41) #[] #[]] w fun e w' => e = .returned (chainV S O A B) ∧ Below w.heap.size w w' := by
  unfold big
  obtain ⟨f1, f2, f3, f4, f5⟩ := chainW_facts w A B
  have HF1 := Lib.hid f1
  have HF2 := Lib.hid f2
  have HF3 := Lib.hid f3
  have HF4 := Lib.hid f4
  have HF5 := Lib.hid f5
  have HST := Lib.hid hst
  have HA := Lib.hid hA
  have HB := Lib.hid hB
  clear f1 f2 f3 f4 f5 hst hA hB
  go_enter Try.func32, Try.ntmps32
  go_wp2_with fail
  obtain ⟨W, hW⟩ : ∃ W, W = chainW w A B := ⟨_, rfl⟩
  rw [← hW] at HF1 HF2 HF3 HF4 HF5
  unfold chainW row4 at hW
  rw [← hW]
  clear hW
  go_loopw [9, 11] (fun c i wr => ∃ k : Nat, i = .int .i64 k ∧ k ≤ 4 ∧ c = .int .u64 (carry O A B k) ∧ wr.rowIs w.heap.size 28 4 (lim A) ∧ wr.rowIs (w.heap.size + 1) 28 4 (lim B) ∧
      wr.rowIs (w.heap.size + 1 + 1) 28 4 (lim fun _ => 0) ∧ wr.rowIs (w.heap.size + 1 + 1 + 1) 28 4 (lim fun j => if j < k then S (A j) (B j) (carry O A B j) else 0) ∧ Below w.heap.size w wr) (fun _ i _ => 4 - (intOf i).toNat)
  case atStart => exact ⟨0, rfl, by omega, rfl, HF1.out, HF2.out, HF3.out, HF4.out, HF5.out⟩
  case round =>
    obtain ⟨k, rfl, hk, rfl, r1, r2, r3, r4, hb⟩ := hrel
    by_cases hk4 : k < 4
    · have c1 := r1.cell hk4
      have c2 := r2.cell hk4
      have c4 := r4.cell hk4
      have c5 := r4.frozen k
      unfold lim at c1 c2 c4
      simp only [Nat.lt_irrefl, if_false] at c4
      have hcall := (HST.out (A k) (B k) (carry O A B k) · (HA.out k).1 (HA.out k).2 (HB.out k).1 (HB.out k).2)
      have HC := Lib.hid hcall
      clear hcall
      obtain ⟨a, ha⟩ : ∃ a, A k = a := ⟨_, rfl⟩
      obtain ⟨b, hb'⟩ : ∃ b, B k = b := ⟨_, rfl⟩
      obtain ⟨c, hc⟩ : ∃ c, carry O A B k = c := ⟨_, rfl⟩
      have HCA := Lib.hid (show carry O A B (k + 1) = O a b c by rw [carry, ha, hb', hc])
      have HSA := Lib.hid (show S a b c = S (A k) (B k) (carry O A B k) by rw [ha, hb', hc])
      rw [ha] at c1 HC
      rw [hb'] at c2 HC
      rw [hc] at HC ⊢
      clear ha hb' hc
      go_wp2_with fail
      go_region_with (first | (go_at_call 41; refine (HC.out _).mono ?_; rintro e w' ⟨rfl, rfl⟩))
      all_goals
        go_wp2_with fail
        go_roundw
        case rel =>
          refine ⟨k + 1, by go_num, by omega, ?_, r1.setOther (by simp; omega) _, r2.setOther (by simp) _, r3.setOther (by simp) _, ?_, (hb.setCell (show w.heap.size ≤ w.heap.size + 1 + 1 + 1 by omega) _).drew⟩
          · rw [HCA.out]
          · exact (chain_set r4 HSA.out).drew
        case measure => simp [intOf]; omega
    · have hk4 : k = 4 := by omega
      subst hk4
      obtain ⟨⟨x0, x1, x2, x3⟩, -⟩ := cells4 r4
      obtain ⟨⟨y0, y1, y2, y3⟩, z0, z1, z2, z3⟩ := cells4 r3
      simp only [show (0 : Nat) < 4 by omega, show (1 : Nat) < 4 by omega, show (2 : Nat) < 4 by omega, show (3 : Nat) < 4 by omega, if_true] at x0 x1 x2 x3
      by_cases hz : carry O A B 4 = 0
      · go_wp2_with fail
        have hV : chainV S O A B = .tuple #[big (S (A 0) (B 0) (carry O A B 0)) (S (A 1) (B 1) (carry O A B 1)) (S (A 2) (B 2) (carry O A B 2)) (S (A 3) (B 3) (carry O A B 3)), .int .i64 0] := if_pos hz
        rw [hV]
        exact bodyPost_ret (v := .tuple #[big (S (A 0) (B 0) (carry O A B 0)) (S (A 1) (B 1) (carry O A B 1)) (S (A 2) (B 2) (carry O A B 2)) (S (A 3) (B 3) (carry O A B 3)), .int .i64 0]) (by simp [results, Try.results32, go_sem, big, x0, x1, x2, x3, y0, y1, y2, y3]) rfl ⟨rfl, by repeat (first | exact hb | (refine Below.setCell ?_ (by show w.heap.size ≤ w.heap.size + 1 + 1; omega) _))⟩
      · have hz' : (carry O A B 4 != 0) = true := bne_iff_ne.2 hz
        have hV : chainV S O A B = .tuple #[big 0 0 0 0, .int .i64 2] := if_neg hz
        have HV := Lib.hid hV
        clear hz hV
        go_wp2_with fail
        rw [HV.out]
        exact bodyPost_ret (v := .tuple #[big 0 0 0 0, .int .i64 2]) (by simp [results, Try.results32, go_sem, big, y0, y1, y2, y3]) rfl ⟨rfl, by repeat (first | exact hb | (refine Below.setCell ?_ (by show w.heap.size ≤ w.heap.size + 1 + 1; omega) _))⟩

theorem hof_num {x : Int} (h0 : 0 ≤ x) (h1 : x < 18446744073709551616) : big x 0 0 0 = bigN x.toNat := by
  rw [big_num h0 h1 (by omega) (by omega) (by omega) (by omega) (by omega) (by omega)]
  unfold num
  rfl

def sumV (n : Nat) : Value := if n < 18446744073709551616 ^ 4 then .tuple #[bigN n, .int .i64 0] else .tuple #[bigN 0, .int .i64 2]
def diffV (a b : Nat) : Value := if b ≤ a then .tuple #[bigN (a - b), .int .i64 0] else .tuple #[bigN 0, .int .i64 2]

theorem chain_sum {a b : Nat} (ha : a < 18446744073709551616 ^ 4) (hb : b < 18446744073709551616 ^ 4) : chainV addS addO (limb a) (limb b) = sumV (a + b) := by
  unfold chainV sumV
  simp only [limb_add]
  by_cases h : a + b < 18446744073709551616 ^ 4
  · rw [if_pos ((carry_add4 ha hb).2 h), if_pos h]
  · rw [if_neg (fun h' => h ((carry_add4 ha hb).1 h')), if_neg h]; simp only [bigN, limb_zero]

theorem chain_diff {a b : Nat} (ha : a < 18446744073709551616 ^ 4) (hb : b < 18446744073709551616 ^ 4) : chainV subS subO (limb a) (limb b) = diffV a b := by
  unfold chainV diffV
  by_cases h : b ≤ a
  · rw [if_pos ((carry_sub4 ha hb).2 h), if_pos h]
    simp only [limb_sub h]
  · rw [if_neg (fun h' => h ((carry_sub4 ha hb).1 h')), if_neg h]; simp only [bigN, limb_zero]

theorem steps_add : Steps4 33 addS addO := fun a b c w a0 a1 b0 b1 => ladd_calls a b c w a0 a1 b0 b1
theorem steps_sub : Steps4 41 subS subO := fun a b c w a0 a1 b0 b1 => lsub_calls a b c w a0 a1 b0 b1

set_option maxHeartbeats 1000000 in
set_option maxRecDepth 100000 in
theorem hadd_calls (a b : Nat) (w : World) (ha : a < 18446744073709551616 ^ 4) (hb : b < 18446744073709551616 ^ 4) :
    Calls Try.prog 13 #[bigN a, bigN b] w fun e w' => e = .returned (sumV (a + b)) ∧ Below w.heap.size w w' := by
  have HC := Lib.hid (fun w => chainadd_calls addS addO steps_add (limb a) (limb b) (limb_bd a) (limb_bd b) w)
  rw [chain_sum ha hb] at HC
  have HS : Hid (∃ x0 x1 x2 x3 k : Int, sumV (a + b) = .tuple #[big x0 x1 x2 x3, .int .i64 k]) := by
    refine Lib.hid ?_
    unfold sumV
    split
    · exact ⟨_, _, _, _, _, rfl⟩
    · exact ⟨_, _, _, _, _, rfl⟩
  clear ha hb
  unfold bigN
  generalize limb a 0 = a0 at *
  generalize limb a 1 = a1 at *
  generalize limb a 2 = a2 at *
  generalize limb a 3 = a3 at *
  generalize limb b 0 = b0 at *
  generalize limb b 1 = b1 at *
  generalize limb b 2 = b2 at *
  generalize limb b 3 = b3 at *
  generalize sumV (a + b) = V at *
  obtain ⟨x0, x1, x2, x3, k, rfl⟩ := HS.out
  clear HS
  go_enter Try.func13, Try.ntmps13
  go_wp2_with fail
  refine (HC.out _).mono ?_
  rintro e w1 ⟨rfl, hb1⟩
  have hz : w.heap.size + 1 + 1 < w1.heap.size := by have := hb1.size; simp at this; omega
  have R := rowIs_big ((w.alloc (.cells #[.int .u64 a0, .int .u64 a1, .int .u64 a2, .int .u64 a3] 28)).alloc (.cells #[.int .u64 b0, .int .u64 b1, .int .u64 b2, .int .u64 b3] 28)) (fun _ => 0) 28
  have R1 := R.of_block (hb1.block _ (by simp))
  simp only [World.size_alloc] at R1
  have hbb : Below w.heap.size w w1 := ((((Below.refl _ _).alloc (Nat.le_refl _) _).alloc (by simp) _).alloc (by simp; omega) _).trans (hb1.mono (by simp; omega))
  clear R hb1
  obtain ⟨⟨y0, y1, y2, y3⟩, z0, z1, z2, z3⟩ := cells4 R1
  clear R1
  go_wp2_with fail
  exact bodyPost_ret (v := .tuple #[big x0 x1 x2 x3, .int .i64 k]) (by simp [results, Try.results13, go_sem, y0, y1, y2, y3]) rfl ⟨rfl, by repeat (first | exact hbb | (refine Below.setCell ?_ (by show w.heap.size ≤ w.heap.size + 1 + 1; omega) _))⟩

set_option maxHeartbeats 1000000 in
set_option maxRecDepth 100000 in
theorem hsub_calls (a b : Nat) (w : World) (ha : a < 18446744073709551616 ^ 4) (hb : b < 18446744073709551616 ^ 4) :
    Calls Try.prog 24 #[bigN a, bigN b] w fun e w' => e = .returned (diffV a b) ∧ Below w.heap.size w w' := by
  have HC := Lib.hid (fun w => chainsub_calls subS subO steps_sub (limb a) (limb b) (limb_bd a) (limb_bd b) w)
  rw [chain_diff ha hb] at HC
  have HS : Hid (∃ x0 x1 x2 x3 k : Int, diffV a b = .tuple #[big x0 x1 x2 x3, .int .i64 k]) := by
    refine Lib.hid ?_
    unfold diffV
    split
    · exact ⟨_, _, _, _, _, rfl⟩
    · exact ⟨_, _, _, _, _, rfl⟩
  clear ha hb
  unfold bigN
  generalize limb a 0 = a0 at *
  generalize limb a 1 = a1 at *
  generalize limb a 2 = a2 at *
  generalize limb a 3 = a3 at *
  generalize limb b 0 = b0 at *
  generalize limb b 1 = b1 at *
  generalize limb b 2 = b2 at *
  generalize limb b 3 = b3 at *
  generalize diffV a b = V at *
  obtain ⟨x0, x1, x2, x3, k, rfl⟩ := HS.out
  clear HS
  go_enter Try.func24, Try.ntmps24
  go_wp2_with fail
  refine (HC.out _).mono ?_
  rintro e w1 ⟨rfl, hb1⟩
  have hz : w.heap.size + 1 + 1 < w1.heap.size := by have := hb1.size; simp at this; omega
  have R := rowIs_big ((w.alloc (.cells #[.int .u64 a0, .int .u64 a1, .int .u64 a2, .int .u64 a3] 28)).alloc (.cells #[.int .u64 b0, .int .u64 b1, .int .u64 b2, .int .u64 b3] 28)) (fun _ => 0) 28
  have R1 := R.of_block (hb1.block _ (by simp))
  simp only [World.size_alloc] at R1
  have hbb : Below w.heap.size w w1 := ((((Below.refl _ _).alloc (Nat.le_refl _) _).alloc (by simp) _).alloc (by simp; omega) _).trans (hb1.mono (by simp; omega))
  clear R hb1
  obtain ⟨⟨y0, y1, y2, y3⟩, z0, z1, z2, z3⟩ := cells4 R1
  clear R1
  go_wp2_with fail
  exact bodyPost_ret (v := .tuple #[big x0 x1 x2 x3, .int .i64 k]) (by simp [results, Try.results24, go_sem, y0, y1, y2, y3]) rfl ⟨rfl, by repeat (first | exact hbb | (refine Below.setCell ?_ (by show w.heap.size ≤ w.heap.size + 1 + 1; omega) _))⟩

end Go.Proofs.Ytchjjbklkmfelaa
