/- HugeBytes: a number's bytes, and the number of bytes. -/
import Derived.Test.YtoljemjnhomomaaRead
import Derived.Test.YtoljemjnhomomaaLaw2b
namespace Go.Proofs.Ytoljemjnhomomaa
open Go.RowKit Go.Lib
set_option linter.unusedVariables false
set_option linter.unusedSimpArgs false

def bytesU (n : Nat) : List UInt8 := (List.range 32).map fun i => UInt8.ofNat (byteAt n i)
theorem bytesU_length (n : Nat) : (bytesU n).length = 32 := by simp [bytesU]
theorem bytesU_at (n k : Nat) (h : k < 32) : ((bytesU n).getD k 0).toNat = byteAt n k := by
  unfold bytesU
  rw [List.getD_eq_getElem?_getD, List.getElem?_map, List.getElem?_range h]
  simp
  exact byteAt_lt n k
theorem readN_bytesU (n k : Nat) (h : k ≤ 32) : readN ((bytesU n).take k) = n / 256 ^ (32 - k) % 256 ^ k := by
  induction k with
  | zero => simp [readN, Nat.mod_one]
  | succ k ih =>
    rw [readN_take _ _ (by rw [bytesU_length]; omega), ih (by omega), bytesU_at n k (by omega)]
    unfold byteAt
    rw [show 32 - k = 31 - k + 1 by omega, show 32 - (k + 1) = 31 - k by omega, Nat.pow_succ, ← Nat.div_div_eq_div_mul]
    generalize n / 256 ^ (31 - k) = m
    rw [Nat.pow_succ 256 k, Nat.mul_comm (256 ^ k), Nat.mod_mul]
    omega
theorem readN_all (n : Nat) (h : n < 18446744073709551616 ^ 4) : readN (bytesU n) = n := by
  have := readN_bytesU n 32 (Nat.le_refl _)
  rw [List.take_of_length_le (by rw [bytesU_length]; exact Nat.le_refl _)] at this
  rw [this, show 32 - 32 = 0 by rfl, Nat.pow_zero, Nat.div_one]
  apply Nat.mod_eq_of_lt
  rw [show (256 : Nat) ^ 32 = 18446744073709551616 ^ 4 by decide]
  exact h
theorem byteAt_readN (l : List UInt8) (hl : l.length = 32) (i : Nat) (hi : i < 32) : byteAt (readN l) i = (l.getD i 0).toNat := by
  have key : ∀ k, k ≤ 32 → readN l / 256 ^ (32 - k) = readN (l.take k) := by
    intro k hk
    induction hd : 32 - k generalizing k with
    | zero => rw [show k = 32 by omega, List.take_of_length_le (by omega)]; simp
    | succ d ih =>
      have h1 := ih (k + 1) (by omega) (by omega)
      have h2 := readN_take l k (by omega)
      rw [Nat.pow_succ, ← Nat.div_div_eq_div_mul, h1, h2]
      have := (l.getD k 0).toNat_lt
      omega
  unfold byteAt
  rw [show 31 - i = 32 - (i + 1) by omega, key (i + 1) (by omega), readN_take l i (by omega)]
  have := (l.getD i 0).toNat_lt
  omega
theorem bytesU_readN (l : List UInt8) (hl : l.length = 32) : bytesU (readN l) = l := by
  apply List.ext_getElem
  · rw [bytesU_length, hl]
  · intro i h1 h2
    rw [bytesU_length] at h1
    apply UInt8.toNat_inj.1
    have := bytesU_at (readN l) i h1
    rw [byteAt_readN l hl i h1, List.getD_eq_getElem?_getD, List.getD_eq_getElem?_getD, List.getElem?_eq_getElem h2, List.getElem?_eq_getElem (by rw [bytesU_length]; exact h1)] at this
    exact this
theorem byteL_bytesU (n : Nat) : byteL n = (bytesU n).map fun b => .int .u8 (b.toNat : Int) := by
  unfold byteL bytesU
  rw [List.map_map]
  apply List.map_congr_left
  intro i hi
  simp only [Function.comp, byteV]
  congr 2
  have := bytesU_at n i (List.mem_range.1 hi)
  simp
  exact (Nat.mod_eq_of_lt (byteAt_lt n i)).symm

theorem idx_byte (n k : Nat) (hk : k < 32) (w : World) : (Instr.index 58 (.agg (byteL n).toArray) (.int .i64 (k : Int))).run Try.prog w = .ok (.int .u8 (byteAt n k : Int)) w := by
  have h : (byteL n).toArray[k]? = some (byteV n k) := by
    rw [List.getElem?_toArray, byteL, List.getElem?_map, List.getElem?_range hk]; rfl
  have h2 : (byteL n)[k]? = some (byteV n k) := by simpa using h
  simp [Instr.index, go_sem, Try.underlying58, h, h2]
  rw [if_pos hk]
  rfl

set_option maxHeartbeats 1000000 in
set_option maxRecDepth 100000 in
theorem hugeBytes_many (n : Nat) (v : Value) (l : List UInt8) (w : World) (h : BRow w v l) (hl : 100 < l.length) :
    Calls Try.prog 11 #[bigN n, v] w (Yes w) := by
  obtain ⟨A, c, rfl, a1, a2, -⟩ := id h
  unfold maxLen at a2
  have hl' : (100 : Int) < (l.length : Int) := by omega
  generalize l.length = m at *
  have Q0 : Below w.heap.size w (w.alloc (row4 (limb n))) := (Below.refl _ _).alloc (Nat.le_refl _) _
  go_enter Try.func11, Try.ntmps11
  go_wp2_with fail
  refine (lives2_calls _).mono ?_
  rintro e w1 ⟨rfl, hb1⟩
  go_wp2_with fail
  refine (lives2_calls _).mono ?_
  rintro e w2 ⟨rfl, hb2⟩
  go_wp2_with fail
  go_ret
  exact ⟨rfl, Q0.trans ((hb1.mono (by simp)).trans (hb2.mono (Nat.le_trans (by simp) hb1.size)))⟩

theorem range_brow {w : World} {g n : Nat} (h : w.rangeAt g 0 (byteL n)) : BRow w (.slice (some ⟨g, 0, none⟩) 32 32) (bytesU n) := by
  refine ⟨some ⟨g, 0, none⟩, 32, by rw [bytesU_length], by rw [bytesU_length]; exact Nat.le_refl _, by unfold maxLen; omega, .inr ⟨g, 0, rfl, fun i hi => ?_⟩⟩
  rw [bytesU_length] at hi
  rw [h i (byteV n i) (by rw [byteL, List.getElem?_map, List.getElem?_range hi]; rfl), bytesU_at n i hi]
  rfl
theorem brow_string {w : World} {g o n c : Nat} {l : List UInt8} (h : BRow w (.slice (some ⟨g, o, none⟩) n c) l) (hn : l.length = n) (k : Nat) :
    (convert 57 9 (.slice (some ⟨g, o, none⟩) n c)).run Try.prog (w.drewN k) = .ok (.string ⟨l.toArray⟩) (w.drewN k) := by
  subst hn
  refine run_convert_bytes_back (P := Try.prog) (w.drewN k) 57 9 5 ⟨g, o, none⟩ c l Try.underlying57 Try.underlying5 Try.underlying9 (fun j hj => ?_)
  obtain ⟨g', o', e, -, hc⟩ := h.at j hj
  cases e
  rw [Addr.add_lit, show l[j] = l.getD j 0 by rw [List.getD_eq_getElem?_getD, List.getElem?_eq_getElem hj]; rfl]
  exact hc
theorem obj32_there (w : World) : (w.alloc obj32).there w.heap.size 0 32 := rowIs_there (zero32 w)

set_option maxHeartbeats 4000000 in
set_option maxRecDepth 100000 in
theorem hugeBytes_few (n : Nat) (v : Value) (l : List UInt8) (w : World) (hn : n < 18446744073709551616 ^ 4) (h : BRow w v l) (hl : l.length ≤ 100) :
    Calls Try.prog 11 #[bigN n, v] w (Yes w) := by
  obtain ⟨A, c, rfl, a1, a2, -⟩ := id h
  unfold maxLen at a2
  have hl' : (l.length : Int) ≤ 100 := by omega
  have HB := Lib.hid h
  have HL := Lib.hid (show l.length = l.length from rfl)
  have HNn := Lib.hid hn
  clear h hn
  generalize hm : l.length = m at *
  have HM := Lib.hid hm
  clear hm HL
  have Q0 : Below w.heap.size w (w.alloc (row4 (limb n))) := (Below.refl _ _).alloc (Nat.le_refl _) _
  have X0 := Box.new w n
  have HI := Lib.hid (show ∀ n, (Try.prog.info? 58).map (·.size) = some (byteL n).length from fun n => by rw [byteL_length]; exact info32)
  have HI2 := Lib.hid (show ∀ n, (Try.prog.info? 58).map (·.size) = some (byteL n).toArray.size from fun n => by rw [List.size_toArray, byteL_length]; exact info32)
  have HO := Lib.hid (fun n => all_oneCell_toArray (byteL_one n))
  go_enter Try.func11, Try.ntmps11
  go_wp2_with fail
  refine (lives2_calls _).mono ?_
  rintro e w1 ⟨rfl, hb1⟩
  have X1 := X0.later hb1
  have Q1 := Q0.trans (hb1.mono Q0.size)
  obtain ⟨x0, x1, x2, x3⟩ := X1.cells
  go_wp2_with fail
  refine (bytes_calls n _).mono ?_
  rintro e w2 ⟨rfl, hb2⟩
  have X2 := X1.later hb2
  have Q2 := Q1.trans (hb2.mono Q1.size)
  have HTh := Lib.hid (show (w2.alloc obj32).there w2.heap.size 0 (byteL n).toArray.size by rw [show (byteL n).toArray.size = 32 by simp [byteL]]; exact obj32_there w2)
  unfold obj32 at HTh
  clear x0 x1 x2 x3
  have hz2 : w2.heap.size < (w2.alloc obj32).heap.size := by simp
  go_upto_region 4 with (first
    | refine wpList_store_mid rfl 58 _ _ rfl w2.heap.size 0 (byteL n).toArray rfl rfl HTh.out (HI2.out n) (HO.out n) ?_)
  have R3 : ((w2.alloc obj32).setCells w2.heap.size 0 (byteL n)).rangeAt w2.heap.size 0 (byteL n) := World.rangeAt_setCells_same _ _ _ _ (by rw [byteL_length]; exact obj32_there w2)
  have Q3 : Below w.heap.size w ((w2.alloc obj32).setCells w2.heap.size 0 (byteL n)) := below_setCells (Q2.size) _ _ _ (Q2.alloc Q2.size _)
  have X3 : Box ((w2.alloc obj32).setCells w2.heap.size 0 (byteL n)) w.heap.size n := X2.below (below_setCells (B := w2.heap.size) (Nat.le_refl _) _ _ _ ((Below.refl _ _).alloc (Nat.le_refl _) _)) X2.lt
  have BR3 : BRow ((w2.alloc obj32).setCells w2.heap.size 0 (byteL n)) (.slice (some ⟨w2.heap.size, 0, none⟩) 32 32) (bytesU n) := range_brow R3
  have HB3 := (((HB.out.below ((Below.refl _ _).alloc (Nat.le_refl _) (row4 (limb n)))).below hb1).below hb2).below (below_setCells (B := w2.heap.size) (Nat.le_refl _) (byteL n) 0 _ ((Below.refl _ _).alloc (Nat.le_refl _) obj32))
  have lt3 : w2.heap.size < ((w2.alloc obj32).setCells w2.heap.size 0 (byteL n)).heap.size := World.block_lt_of_cell? _ _ (R3 0 _ (show (byteL n)[0]? = some (byteV n 0) from rfl))
  obtain ⟨W3, hW3⟩ : ∃ W, (w2.alloc obj32).setCells w2.heap.size 0 (byteL n) = W := ⟨_, rfl⟩
  have hW3' := hW3
  unfold obj32 at hW3'
  rw [hW3'] 
  rw [hW3] at R3 Q3 X3 BR3 HB3 lt3
  generalize w2.heap.size = t at *
  clear hW3 hW3' HTh hz2 hb1 hb2 Q0 X0 Q1 X1 Q2 X2
  go_upto_block 0 with (first
    | refine wpList_load_mid rfl 58 _ rfl t 0 rfl (byteL n) (.array 32 5) R3 Try.underlying58 rfl (HI.out n) ?_)
  go_wp2_with fail
  go_loop [25] (fun i => ∃ k : Nat, i = .int .i64 k ∧ k ≤ 32) (fun i => 32 - (intOf i).toNat)
  case atStart => exact ⟨0, rfl, by omega⟩
  case round =>
    obtain ⟨k, rfl, hk⟩ := hrel
    by_cases hk1 : k < 32
    · have hk1' : (k : Int) < 32 := by omega
      have hidx := idx_byte n k hk1 W3
      have hq : (k : Int).tdiv 8 = ((k / 8 : Nat) : Int) := by rw [Int.tdiv_eq_ediv_of_nonneg (by omega)]; omega
      have hr : (k : Int).tmod 8 = ((k % 8 : Nat) : Int) := by rw [Int.tmod_eq_emod_of_nonneg (by omega)]; omega
      have w1 : IntKind.i64.wrap (3 - ((k / 8 : Nat) : Int)) = ((3 - k / 8 : Nat) : Int) := by rw [show 3 - ((k / 8 : Nat) : Int) = ((3 - k / 8 : Nat) : Int) by omega]; exact IntWalk.i64_in _ (by omega)
      have w2 : IntKind.i64.wrap (8 * ((k % 8 : Nat) : Int)) = 8 * ((k % 8 : Nat) : Int) := IntWalk.i64_in _ (by omega)
      have w3 : IntKind.i64.wrap (56 - 8 * ((k % 8 : Nat) : Int)) = ((56 - 8 * (k % 8) : Nat) : Int) := by rw [show 56 - 8 * ((k % 8 : Nat) : Int) = ((56 - 8 * (k % 8) : Nat) : Int) by omega]; exact IntWalk.i64_in _ (by omega)
      have hat := X3.at (k := 3 - k / 8) (by omega)
      have lx := X3.lt
      have hsh : bits .and .u64 (limb n (3 - k / 8) / 2 ^ (56 - 8 * (k % 8))) 255 = (byteAt n k : Int) := by
        have hl := limb_bd n (3 - k / 8)
        have e : limb n (3 - k / 8) / 2 ^ (56 - 8 * (k % 8)) = ((n / 18446744073709551616 ^ (3 - k / 8) % 18446744073709551616 / 2 ^ (56 - 8 * (k % 8)) : Nat) : Int) := rfl
        have hlt : n / 18446744073709551616 ^ (3 - k / 8) % 18446744073709551616 / 2 ^ (56 - 8 * (k % 8)) < 18446744073709551616 := Nat.lt_of_le_of_lt (Nat.div_le_self _ _) (Nat.mod_lt _ (by decide))
        rw [e, show (255 : Int) = ((255 : Nat) : Int) by rfl, u64_and_nat _ _ hlt (by decide), show (255 : Nat) = 2 ^ 8 - 1 by decide, Nat.and_two_pow_sub_one_eq_mod]
        unfold byteAt
        rw [← byte_limb, show (31 - k) / 8 = 3 - k / 8 by omega, show 8 * ((31 - k) % 8) = 56 - 8 * (k % 8) by omega]
      have hq4 : 3 - k / 8 < 4 := by omega
      have hs64 : 56 - 8 * (k % 8) < 64 := by omega
      have hr8 : k % 8 < 8 := by omega
      have hq8 : k / 8 < 4 := by omega
      have hbb := byteAt_lt n k
      generalize 3 - k / 8 = q at *
      generalize 56 - 8 * (k % 8) = s at *
      generalize k / 8 = q0 at *
      generalize k % 8 = r at *
      obtain ⟨B, hB⟩ : ∃ B : Int, (byteAt n k : Int) = B := ⟨_, rfl⟩
      rw [hB] at hidx hsh
      have hB0 : 0 ≤ B := by omega
      have hB1 : B < 256 := by omega
      have hw : IntKind.u64.wrap B = B := IntWalk.u64_in _ (by omega)
      have hq4' : (q : Int) < 4 := by omega
      have hs64' : (s : Int) ≤ 64 := by omega
      generalize limb n q = L at *
      clear hB hbb
      go_wp2_with fail
      go_round
      case rel => exact ⟨k + 1, by simp, by omega⟩
      case measure => simp [intOf]; omega
    · have hk1' : ¬ (k : Int) < 32 := by omega
      have he : k = 32 := by omega
      subst he
      have HRd := Lib.hid (show Calls Try.prog 38 #[.slice (some ⟨t, 0, none⟩) 32 32] W3 fun e w' => e = .returned (.tuple #[bigN n, .int .i64 0]) ∧ Below W3.heap.size W3 w' from by
        have := read_fit _ _ _ BR3 (bytesU_length n)
        rw [readN_all n HNn.out] at this
        exact this)
      go_wp2_with fail
      refine HRd.out.mono ?_
      rintro e w4 ⟨rfl, hb4⟩
      have X4 := (X3.later hb4).alloc (row4 (limb n))
      have U4 := Box.new w4 n
      have Q4 := (Q3.trans (hb4.mono Q3.size)).alloc (Nat.le_trans Q3.size hb4.size) (row4 (limb n))
      have HB4 := (HB3.below hb4).below ((Below.refl _ _).alloc (Nat.le_refl _) (row4 (limb n)))
      go_wp2_with fail
      obtain ⟨W4, hW4⟩ : ∃ W, w4.alloc (row4 (limb n)) = W := ⟨_, rfl⟩
      dsimp only [row4] at hW4
      rw [hW4]
      dsimp only [row4] at X4 U4 Q4 HB4
      rw [hW4] at X4 U4 Q4 HB4
      clear hW4 HRd R3 BR3 HB3 lt3 X3 Q3 hb4
      generalize w4.heap.size = s at *
      rcases Nat.lt_trichotomy m 32 with hm | hm | hm
      · have hmc : (m : Int) < 32 := by omega
        refine (read_short _ l _ HB4 (by rw [HM.out]; exact hm)).mono ?_
        rintro e w5 ⟨rfl, hb5⟩
        have X5 := (X4.later hb5)
        have U5 := (U4.later hb5)
        have lx := X5.lt
        have lu := U5.lt
        have V5 := Box.new w5 0
        have Q5 := (Q4.trans (hb5.mono Q4.size)).alloc (Nat.le_trans Q4.size hb5.size) (row4 (limb 0))
        have HB5 := (HB4.below hb5).below ((Below.refl _ _).alloc (Nat.le_refl _) (row4 (limb 0)))
        obtain ⟨x0, x1, x2, x3⟩ := X5.cells
        obtain ⟨y0, y1, y2, y3⟩ := U5.cells
        go_wp2_with fail
        refine (bytes_calls 0 _).mono ?_
        rintro e w6 ⟨rfl, hb6⟩
        have V6 := V5.later hb6
        have HB6 := HB5.below hb6
        have Q6 := Q5.trans (hb6.mono Q5.size)
        have HTh := Lib.hid (show (w6.alloc obj32).there w6.heap.size 0 (byteL 0).toArray.size by rw [show (byteL 0).toArray.size = 32 by simp [byteL]]; exact obj32_there w6)
        unfold obj32 at HTh
        have hz6 : w6.heap.size < (w6.alloc obj32).heap.size := by simp
        clear x0 x1 x2 x3 y0 y1 y2 y3 X5 U5 lx lu X4 U4 Q4 HB4 hb5 hb6
        go_upto_region 20 with (first
          | refine wpList_store_mid rfl 58 _ _ rfl w6.heap.size 0 (byteL 0).toArray rfl rfl HTh.out (HI2.out 0) (HO.out 0) ?_)
        have R7 : ((w6.alloc obj32).setCells w6.heap.size 0 (byteL 0)).rangeAt w6.heap.size 0 (byteL 0) := World.rangeAt_setCells_same _ _ _ _ (by rw [byteL_length]; exact obj32_there w6)
        have b7 : Below w6.heap.size w6 ((w6.alloc obj32).setCells w6.heap.size 0 (byteL 0)) := below_setCells (B := w6.heap.size) (Nat.le_refl _) _ _ _ ((Below.refl _ _).alloc (Nat.le_refl _) obj32)
        have Q7 : Below w.heap.size w ((w6.alloc obj32).setCells w6.heap.size 0 (byteL 0)) := Q6.trans (b7.mono Q6.size)
        have V7 := V6.later b7
        have HB7 := HB6.below b7
        obtain ⟨W7, hW7⟩ : ∃ W, (w6.alloc obj32).setCells w6.heap.size 0 (byteL 0) = W := ⟨_, rfl⟩
        have hW7' := hW7
        unfold obj32 at hW7'
        rw [hW7']
        rw [hW7] at R7 Q7 V7 HB7
        generalize w6.heap.size = t7 at *
        clear hW7 hW7' HTh hz6 b7 V5 V6 Q5 Q6 HB5 HB6
        have Z7 := V7.cells
        simp only [limb_zero] at Z7
        obtain ⟨z0, z1, z2, z3⟩ := Z7
        go_quiet (fail)
        go_wp2_with fail
        go_ret
        exact ⟨rfl, below_drewN Q7 _⟩
      · have hmc : m = 32 := hm
        subst hmc
        refine (read_fit _ l _ HB4 HM.out).mono ?_
        rintro e w5 ⟨rfl, hb5⟩
        have X5 := (X4.later hb5)
        have U5 := (U4.later hb5)
        have lx := X5.lt
        have lu := U5.lt
        have V5 := Box.new w5 (readN l)
        have Q5 := (Q4.trans (hb5.mono Q4.size)).alloc (Nat.le_trans Q4.size hb5.size) (row4 (limb (readN l)))
        have HB5 := (HB4.below hb5).below ((Below.refl _ _).alloc (Nat.le_refl _) (row4 (limb (readN l))))
        obtain ⟨x0, x1, x2, x3⟩ := X5.cells
        obtain ⟨y0, y1, y2, y3⟩ := U5.cells
        go_wp2_with fail
        refine (bytes_calls (readN l) _).mono ?_
        rintro e w6 ⟨rfl, hb6⟩
        have V6 := V5.later hb6
        have HB6 := HB5.below hb6
        have Q6 := Q5.trans (hb6.mono Q5.size)
        have HTh := Lib.hid (show (w6.alloc obj32).there w6.heap.size 0 (byteL (readN l)).toArray.size by rw [show (byteL (readN l)).toArray.size = 32 by simp [byteL]]; exact obj32_there w6)
        unfold obj32 at HTh
        have hz6 : w6.heap.size < (w6.alloc obj32).heap.size := by simp
        clear x0 x1 x2 x3 y0 y1 y2 y3 X5 U5 lx lu X4 U4 Q4 HB4 hb5 hb6
        go_upto_region 20 with (first
          | refine wpList_store_mid rfl 58 _ _ rfl w6.heap.size 0 (byteL (readN l)).toArray rfl rfl HTh.out (HI2.out (readN l)) (HO.out (readN l)) ?_)
        have R7 : ((w6.alloc obj32).setCells w6.heap.size 0 (byteL (readN l))).rangeAt w6.heap.size 0 (byteL (readN l)) := World.rangeAt_setCells_same _ _ _ _ (by rw [byteL_length]; exact obj32_there w6)
        have b7 : Below w6.heap.size w6 ((w6.alloc obj32).setCells w6.heap.size 0 (byteL (readN l))) := below_setCells (B := w6.heap.size) (Nat.le_refl _) _ _ _ ((Below.refl _ _).alloc (Nat.le_refl _) obj32)
        have Q7 : Below w.heap.size w ((w6.alloc obj32).setCells w6.heap.size 0 (byteL (readN l))) := Q6.trans (b7.mono Q6.size)
        have V7 := V6.later b7
        have HB7 := HB6.below b7
        obtain ⟨W7, hW7⟩ : ∃ W, (w6.alloc obj32).setCells w6.heap.size 0 (byteL (readN l)) = W := ⟨_, rfl⟩
        have hW7' := hW7
        unfold obj32 at hW7'
        rw [hW7']
        rw [hW7] at R7 Q7 V7 HB7
        generalize w6.heap.size = t7 at *
        clear hW7 hW7' HTh hz6 b7 V5 V6 Q5 Q6 HB5 HB6
        have hBr := range_brow R7
        rw [bytesU_readN l HM.out] at hBr
        obtain ⟨g, o, rfl, hg, -⟩ := HB7.at 0 (by omega)
        have hc1 := brow_string hBr HM.out
        have hc2 := brow_string HB7 HM.out
        go_quiet (fail)
        go_wp2_with fail
        go_ret
        exact ⟨rfl, below_drewN Q7 _⟩
      · have hmc : 32 < (m : Int) := by omega
        refine (read_long _ l _ HB4 (by rw [HM.out]; exact hm)).mono ?_
        rintro e w5 ⟨rfl, hb5⟩
        have X5 := (X4.later hb5)
        have U5 := (U4.later hb5)
        have lx := X5.lt
        have lu := U5.lt
        have V5 := Box.new w5 0
        have Q5 := (Q4.trans (hb5.mono Q4.size)).alloc (Nat.le_trans Q4.size hb5.size) (row4 (limb 0))
        have HB5 := (HB4.below hb5).below ((Below.refl _ _).alloc (Nat.le_refl _) (row4 (limb 0)))
        obtain ⟨x0, x1, x2, x3⟩ := X5.cells
        obtain ⟨y0, y1, y2, y3⟩ := U5.cells
        go_wp2_with fail
        refine (bytes_calls 0 _).mono ?_
        rintro e w6 ⟨rfl, hb6⟩
        have V6 := V5.later hb6
        have HB6 := HB5.below hb6
        have Q6 := Q5.trans (hb6.mono Q5.size)
        have HTh := Lib.hid (show (w6.alloc obj32).there w6.heap.size 0 (byteL 0).toArray.size by rw [show (byteL 0).toArray.size = 32 by simp [byteL]]; exact obj32_there w6)
        unfold obj32 at HTh
        have hz6 : w6.heap.size < (w6.alloc obj32).heap.size := by simp
        clear x0 x1 x2 x3 y0 y1 y2 y3 X5 U5 lx lu X4 U4 Q4 HB4 hb5 hb6
        go_upto_region 20 with (first
          | refine wpList_store_mid rfl 58 _ _ rfl w6.heap.size 0 (byteL 0).toArray rfl rfl HTh.out (HI2.out 0) (HO.out 0) ?_)
        have R7 : ((w6.alloc obj32).setCells w6.heap.size 0 (byteL 0)).rangeAt w6.heap.size 0 (byteL 0) := World.rangeAt_setCells_same _ _ _ _ (by rw [byteL_length]; exact obj32_there w6)
        have b7 : Below w6.heap.size w6 ((w6.alloc obj32).setCells w6.heap.size 0 (byteL 0)) := below_setCells (B := w6.heap.size) (Nat.le_refl _) _ _ _ ((Below.refl _ _).alloc (Nat.le_refl _) obj32)
        have Q7 : Below w.heap.size w ((w6.alloc obj32).setCells w6.heap.size 0 (byteL 0)) := Q6.trans (b7.mono Q6.size)
        have V7 := V6.later b7
        have HB7 := HB6.below b7
        obtain ⟨W7, hW7⟩ : ∃ W, (w6.alloc obj32).setCells w6.heap.size 0 (byteL 0) = W := ⟨_, rfl⟩
        have hW7' := hW7
        unfold obj32 at hW7'
        rw [hW7']
        rw [hW7] at R7 Q7 V7 HB7
        generalize w6.heap.size = t7 at *
        clear hW7 hW7' HTh hz6 b7 V5 V6 Q5 Q6 HB5 HB6
        have Z7 := V7.cells
        simp only [limb_zero] at Z7
        obtain ⟨z0, z1, z2, z3⟩ := Z7
        go_quiet (fail)
        go_wp2_with fail
        go_ret
        exact ⟨rfl, below_drewN Q7 _⟩

theorem hugeBytes_calls (n : Nat) (v : Value) (w : World) (hn : n < 18446744073709551616 ^ 4) (h : ∃ l, BRow w v l) :
    Calls Try.prog 11 #[bigN n, v] w (Yes w) := by
  obtain ⟨l, h⟩ := h
  rcases Nat.lt_or_ge 100 l.length with h3 | h3
  · exact hugeBytes_many n v l w h h3
  · exact hugeBytes_few n v l w hn h h3
end Go.Proofs.Ytoljemjnhomomaa
