/- The reference's rows of digits: Of, Cmp, Add, Sub, Mul, Div and Pair answer the digits of the number that they stand for. -/
import Derived.Test.YtchjjbklkmfelaaOwn
namespace Go.Proofs.Ytchjjbklkmfelaa
open Go.RowKit
set_option linter.unusedVariables false
set_option linter.unusedSimpArgs false

/-- A row that is handed back, in new memory. -/
def Gives (w : World) (n : Nat) (e : Ending) (w' : World) : Prop := ∃ v, e = .returned v ∧ Row w' v (dig n) ∧ Fresh w.heap.size v ∧ Below w.heap.size w w'

theorem dig_len_limb {x : Int} (h1 : x < 18446744073709551616) : (dig x.toNat).length ≤ 4 := dig_len_le (by omega)

/-- Which of two numbers is greater. -/
def cmpI (a b : Nat) : Int := if a < b then -1 else if b < a then 1 else 0

theorem cmp_step {a b k : Nat} (h : a / 65536 ^ (k + 1) = b / 65536 ^ (k + 1)) :
    (a / 65536 ^ k % 65536 < b / 65536 ^ k % 65536 → a < b) ∧ (a / 65536 ^ k % 65536 = b / 65536 ^ k % 65536 → a / 65536 ^ k = b / 65536 ^ k) := by
  have e (n : Nat) : n / 65536 ^ (k + 1) = n / 65536 ^ k / 65536 := by rw [Nat.pow_succ, Nat.div_div_eq_div_mul]
  rw [e, e] at h
  constructor
  · intro hlt
    have : a / 65536 ^ k < b / 65536 ^ k := by
      generalize a / 65536 ^ k = x at *
      generalize b / 65536 ^ k = y at *
      omega
    by_cases hab : a < b
    · exact hab
    · have := Nat.div_le_div_right (c := 65536 ^ k) (Nat.le_of_not_lt hab)
      omega
  · intro he
    generalize a / 65536 ^ k = x at *
    generalize b / 65536 ^ k = y at *
    omega

theorem top_eq (a b k : Nat) (h1 : (dig a).length ≤ k) (h2 : (dig b).length ≤ k) : a / 65536 ^ k = b / 65536 ^ k := by
  rw [dig_div_len a k h1, dig_div_len b k h2]

set_option maxHeartbeats 1000000 in
set_option maxRecDepth 100000 in
theorem cmp_calls (v v' : Value) (a b : Nat) (w : World) (ha : Row w v (dig a)) (hb : Row w v' (dig b)) :
    Calls Try.prog 38 #[v, v'] w fun e w' => e = .returned (.int .i64 (cmpI a b)) ∧ w = w' := by
  have HA := Lib.hid ha
  have HB := Lib.hid hb
  obtain ⟨A, c, rfl, a1, a2, a3⟩ := ha
  obtain ⟨A', c', rfl, b1, b2, b3⟩ := hb
  clear a3 b3
  unfold maxLen at a2 b2
  have HT := Lib.hid (top_eq a b)
  rcases Nat.lt_or_ge (dig a).length (dig b).length with hlt | hlt
  all_goals
    go_enter Try.func38, Try.ntmps38
    go_wp2
    go_loop [5] (fun t => ∃ k : Nat, t = .int .i64 ((k : Int) - 1) ∧ k ≤ 9223372036854775807 ∧ Hid (a / 65536 ^ k = b / 65536 ^ k)) (fun t => (intOf t + 1).toNat)
    case atStart => first | exact ⟨(dig b).length, rfl, by omega, Lib.hid (HT.out _ (by omega) (by omega))⟩ | exact ⟨(dig a).length, rfl, by omega, Lib.hid (HT.out _ (by omega) (by omega))⟩
    case round =>
      obtain ⟨k, rfl, hk, HK⟩ := hrel
      clear HT
      cases k with
      | zero =>
        have he : a = b := by simpa using HK.out
        go_wp2
        go_ret
        exact ⟨ret_one (by unfold cmpI; rw [if_neg (by omega), if_neg (by omega)]), rfl⟩
      | succ k =>
        have hs := cmp_step HK.out
        have hs' := cmp_step HK.out.symm
        have e1 : (((k + 1 : Nat) : Int) - 1) = (k : Int) := by omega
        have da := dig_getD a k
        have db := dig_getD b k
        rw [e1]
        clear e1
        generalize a / 65536 ^ k % 65536 = x at *
        generalize b / 65536 ^ k % 65536 = y at *
        have HDA := Lib.hid da
        have HDB := Lib.hid db
        clear da db
        have HS := Lib.hid hs
        have HS' := Lib.hid hs'
        clear hs hs' HK
        have CA : Calls Try.prog 57 #[.slice A (dig a).length c, .int .i64 (k : Int)] w fun e w' => e = .returned (.int .i64 (x : Int)) ∧ w = w' := by
          have := at_calls _ _ (k : Int) w HA.out (by omega) (by omega)
          rw [Int.toNat_natCast, HDA.out] at this
          exact this
        have CB : Calls Try.prog 57 #[.slice A' (dig b).length c', .int .i64 (k : Int)] w fun e w' => e = .returned (.int .i64 (y : Int)) ∧ w = w' := by
          have := at_calls _ _ (k : Int) w HB.out (by omega) (by omega)
          rw [Int.toNat_natCast, HDB.out] at this
          exact this
        have HCA := Lib.hid CA
        have HCB := Lib.hid CB
        clear CA CB
        go_wp2_with fail
        refine HCA.out.mono ?_
        rintro e w' ⟨rfl, rfl⟩
        go_wp2_with fail
        refine HCB.out.mono ?_
        rintro e w' ⟨rfl, rfl⟩
        by_cases h1 : x < y
        · go_wp2_with fail
          go_ret
          exact ⟨ret_one (by unfold cmpI; rw [if_pos (HS.out.1 h1)]), rfl⟩
        · go_wp2_with fail
          refine HCA.out.mono ?_
          rintro e w' ⟨rfl, rfl⟩
          go_wp2_with fail
          refine HCB.out.mono ?_
          rintro e w' ⟨rfl, rfl⟩
          by_cases h2 : y < x
          · go_wp2_with fail
            go_ret
            exact ⟨ret_one (by unfold cmpI; have := HS'.out.1 h2; rw [if_neg (by omega), if_pos this]), rfl⟩
          · go_wp2_with fail
            go_round
            case rel => exact ⟨k, rfl, by omega, Lib.hid (HS.out.2 (by omega))⟩
            case measure => simp [intOf]

/-- A digit of a sum, and what is carried. -/
theorem add_step {a b k cy : Nat} (h : a % 65536 ^ k + b % 65536 ^ k = (a + b) % 65536 ^ k + cy * 65536 ^ k) :
    (a + b) / 65536 ^ k % 65536 = (a / 65536 ^ k % 65536 + b / 65536 ^ k % 65536 + cy) % 65536 ∧
    a % 65536 ^ (k + 1) + b % 65536 ^ (k + 1) = (a + b) % 65536 ^ (k + 1) + (a / 65536 ^ k % 65536 + b / 65536 ^ k % 65536 + cy) / 65536 * 65536 ^ (k + 1) := by
  have hp : 0 < 65536 ^ k := Nat.pow_pos (by decide)
  rw [Nat.pow_succ, Nat.mod_mul, Nat.mod_mul, Nat.mod_mul]
  generalize 65536 ^ k = p at *
  have ea := Nat.div_add_mod a p
  have eb := Nat.div_add_mod b p
  have es := Nat.div_add_mod (a + b) p
  have hd : (a + b) / p = a / p + b / p + cy := by
    have h1 : p * ((a + b) / p) = p * (a / p + b / p + cy) := by
      rw [Nat.mul_add, Nat.mul_add, Nat.mul_comm p cy]
      omega
    exact Nat.eq_of_mul_eq_mul_left hp h1
  rw [hd]
  generalize a / p = qa at *
  generalize b / p = qb at *
  refine ⟨by omega, ?_⟩
  have e1 : (qa % 65536 + qb % 65536 + cy) / 65536 * (p * 65536) = p * ((qa % 65536 + qb % 65536 + cy) / 65536 * 65536) := by
    rw [Nat.mul_comm p 65536, ← Nat.mul_assoc, Nat.mul_comm]
  have e2 : p * (qa % 65536) + p * (qb % 65536) + cy * p = p * ((qa + qb + cy) % 65536) + p * ((qa % 65536 + qb % 65536 + cy) / 65536 * 65536) := by
    rw [Nat.mul_comm cy p, ← Nat.mul_add, ← Nat.mul_add, ← Nat.mul_add]
    congr 1
    omega
  rw [e1]
  generalize p * (qa % 65536) = u at *
  generalize p * (qb % 65536) = v at *
  generalize p * ((qa + qb + cy) % 65536) = x at *
  generalize p * ((qa % 65536 + qb % 65536 + cy) / 65536 * 65536) = y at *
  omega

theorem add_end {a b k cy : Nat} (h : a % 65536 ^ k + b % 65536 ^ k = (a + b) % 65536 ^ k + cy * 65536 ^ k) (ha : (dig a).length ≤ k) (hb : (dig b).length ≤ k) (hc : cy = 0) : a + b < 65536 ^ k := by
  have h1 := Nat.lt_of_lt_of_le (dig_lt a) (Nat.pow_le_pow_right (show 0 < 65536 by decide) ha)
  have h2 := Nat.lt_of_lt_of_le (dig_lt b) (Nat.pow_le_pow_right (show 0 < 65536 by decide) hb)
  have h3 := Nat.mod_lt (a + b) (show 0 < 65536 ^ k from Nat.pow_pos (by decide))
  rw [Nat.mod_eq_of_lt h1, Nat.mod_eq_of_lt h2, hc] at h
  omega

theorem add_last {a b k cy : Nat} (h : a % 65536 ^ (k + 1) + b % 65536 ^ (k + 1) = (a + b) % 65536 ^ (k + 1) + cy * 65536 ^ (k + 1)) (ha : (dig a).length ≤ k) (hb : (dig b).length ≤ k) : cy = 0 := by
  have h1 := Nat.lt_of_lt_of_le (dig_lt a) (Nat.pow_le_pow_right (show 0 < 65536 by decide) ha)
  have h2 := Nat.lt_of_lt_of_le (dig_lt b) (Nat.pow_le_pow_right (show 0 < 65536 by decide) hb)
  rw [Nat.pow_succ] at h
  generalize 65536 ^ k = p at *
  rw [Nat.mod_eq_of_lt (by omega), Nat.mod_eq_of_lt (by omega), Nat.mod_eq_of_lt (by omega)] at h
  have : cy * (p * 65536) = 0 := by omega
  rcases Nat.mul_eq_zero.1 this with h0 | h0
  · exact h0
  · omega

set_option maxHeartbeats 1000000 in
set_option maxRecDepth 100000 in
theorem add_calls (v v' : Value) (a b : Nat) (w : World) (ha : Row w v (dig a)) (hb : Row w v' (dig b)) (sa : (dig a).length ≤ 1000000) (sb : (dig b).length ≤ 1000000) :
    Calls Try.prog 36 #[v, v'] w (Gives w (a + b)) := by
  have HA := Lib.hid ha
  have HB := Lib.hid hb
  obtain ⟨A, c, rfl, a1, a2, a3⟩ := ha
  obtain ⟨A', c', rfl, b1, b2, b3⟩ := hb
  clear a3 b3
  unfold maxLen at a2 b2
  obtain ⟨M, hcase, hM'⟩ : ∃ M : Nat, (((dig a).length < (dig b).length ∧ M ≤ (dig b).length ∧ (dig b).length ≤ M) ∨ ((dig b).length ≤ (dig a).length ∧ M ≤ (dig a).length ∧ (dig a).length ≤ M)) ∧ Hid ((dig a).length ≤ M ∧ (dig b).length ≤ M ∧ M ≤ 1000000) := by
    rcases Nat.lt_or_ge (dig a).length (dig b).length with h | h
    · exact ⟨(dig b).length, .inl ⟨h, by omega, by omega⟩, Lib.hid ⟨by omega, by omega, by omega⟩⟩
    · exact ⟨(dig a).length, .inr ⟨h, by omega, by omega⟩, Lib.hid ⟨by omega, by omega, by omega⟩⟩
  have hM3 : M ≤ 1000000 := hM'.out.2.2
  rcases hcase with ⟨hlt, hE1, hE2⟩ | ⟨hlt, hE1, hE2⟩
  all_goals
    go_enter Try.func36, Try.ntmps36
    go_wp2
    go_loopw [5, 6, 7] (fun v c i wr => ∃ k cy : Nat, i = .int .i64 k ∧ c = .int .i64 cy ∧ cy ≤ 1 ∧ k ≤ M + 1 ∧ Hid (k = M + 1 → cy = 0) ∧ Own wr w.heap.size v (low k (a + b)) ∧
        Hid (a % 65536 ^ k + b % 65536 ^ k = (a + b) % 65536 ^ k + cy * 65536 ^ k) ∧ Below w.heap.size w wr) (fun _ _ i _ => M + 1 - (intOf i).toNat)
    case atStart => exact ⟨0, 0, rfl, rfl, by omega, by omega, Lib.hid (fun _ => rfl), Own.nil _ _, Lib.hid (by simp [Nat.mod_one]), Below.refl _ _⟩
    case round =>
      obtain ⟨k, cy, rfl, rfl, hcy, hk, HK, hown, HS, hbl⟩ := hrel
      have da := dig_getD a k
      have db := dig_getD b k
      have hs := add_step HS.out
      have hla := low_snoc k (a + b)
      rw [hs.1] at hla
      have xa : a / 65536 ^ k % 65536 < 65536 := Nat.mod_lt _ (by decide)
      have xb : b / 65536 ^ k % 65536 < 65536 := Nat.mod_lt _ (by decide)
      have hll := low_length k (a + b)
      have hend := fun hc hk => add_end (ha := Nat.le_trans hM'.out.1 hk) (hb := Nat.le_trans hM'.out.2.1 hk) HS.out hc
      have hlast : k = M → (a / 65536 ^ k % 65536 + b / 65536 ^ k % 65536 + cy) / 65536 = 0 := by
        intro e
        have := hs.2
        rw [e] at this ⊢
        exact add_last this hM'.out.1 hM'.out.2.1
      have HS2 := Lib.hid hs.2
      have HEnd := Lib.hid hend
      have HLast := Lib.hid hlast
      have HLa := Lib.hid hla
      have HLL := Lib.hid hll
      clear hs hend hlast hla hll HS
      generalize a / 65536 ^ k % 65536 = x at *
      generalize b / 65536 ^ k % 65536 = y at *
      have HDA := Lib.hid da
      have HDB := Lib.hid db
      clear da db
      have CA : ∀ w', Drawn wr w' → Calls Try.prog 57 #[.slice A (dig a).length c, .int .i64 (k : Int)] w' fun e w'' => e = .returned (.int .i64 (x : Int)) ∧ w' = w'' := by
        rintro w' ⟨n, rfl⟩
        have := at_calls _ _ (k : Int) (wr.drewN n) ((HA.out).below (below_drewN hbl n)) (by omega) (by omega)
        rw [Int.toNat_natCast, HDA.out] at this
        exact this
      have CB : ∀ w', Drawn wr w' → Calls Try.prog 57 #[.slice A' (dig b).length c', .int .i64 (k : Int)] w' fun e w'' => e = .returned (.int .i64 (y : Int)) ∧ w' = w'' := by
        rintro w' ⟨n, rfl⟩
        have := at_calls _ _ (k : Int) (wr.drewN n) ((HB.out).below (below_drewN hbl n)) (by omega) (by omega)
        rw [Int.toNat_natCast, HDB.out] at this
        exact this
      have HCA := Lib.hid CA
      have HCB := Lib.hid CB
      clear CA CB
      by_cases hk1 : k < M
      · go_wp2_with fail
        refine (HCA.out _ (Drawn.refl _)).mono ?_
        rintro e w' ⟨rfl, rfl⟩
        go_wp2_with fail
        refine (HCB.out _ (Drawn.refl _)).mono ?_
        rintro e w' ⟨rfl, rfl⟩
        go_wp2_with (at_builtin; refine wpList_app_int rfl _ _ rfl _ _ _ rfl hown _ rfl ?c1 ?c2 ?_)
        case c1 => rw [HLL.out]; omega
        case c2 => exact hbl.size
        intro v' w' ho _ hb' _
        go_wp2
        go_roundw
        case rel => exact ⟨k + 1, (x + y + cy) / 65536, by go_num, by go_num, by omega, by omega, Lib.hid (fun e => by omega), by rw [HLa.out]; exact ho, HS2, hbl.trans hb'⟩
        case measure => simp [intOf]; omega
      · by_cases hz : cy = 0
        · subst hz
          go_wp2_with fail
          refine (trim_calls _ k (a + b) wr hown.row (HEnd.out (by simp) (by omega))).mono ?_
          rintro e w' ⟨v', rfl, hr, hob, hd⟩
          go_wp2_with fail
          go_ret
          exact ⟨_, rfl, hr, fun k hk => (World.ownsRow.lt hown k (hob.symm.trans hk)).1, hbl.trans (hd.below _)⟩
        · have hkM : k ≤ M := by
            by_cases e : k = M + 1
            · exact absurd (HK.out e) hz
            · omega
          have hcp : 0 < cy := by omega
          go_wp2_with fail
          refine (HCA.out _ (Drawn.refl _)).mono ?_
          rintro e w' ⟨rfl, rfl⟩
          go_wp2_with fail
          refine (HCB.out _ (Drawn.refl _)).mono ?_
          rintro e w' ⟨rfl, rfl⟩
          go_wp2_with (at_builtin; refine wpList_app_int rfl _ _ rfl _ _ _ rfl hown _ rfl ?c1 ?c2 ?_)
          case c1 => rw [HLL.out]; omega
          case c2 => exact hbl.size
          intro v' w' ho _ hb' _
          go_wp2
          go_roundw
          case rel => exact ⟨k + 1, (x + y + cy) / 65536, by go_num, by go_num, by omega, by omega, Lib.hid (fun e => HLast.out (by omega)), by rw [HLa.out]; exact ho, HS2, hbl.trans hb'⟩
          case measure => simp [intOf]; omega

/-- A digit of a difference, and what is borrowed. -/
theorem sub_step {a b k bw : Nat} (hab : b ≤ a) (hbw : bw ≤ 1) (h : a % 65536 ^ k + bw * 65536 ^ k = b % 65536 ^ k + (a - b) % 65536 ^ k) :
    let x : Int := (a / 65536 ^ k % 65536 : Nat) - (b / 65536 ^ k % 65536 : Nat) - bw
    (0 ≤ x → (((a - b) / 65536 ^ k % 65536 : Nat) : Int) = x ∧ a % 65536 ^ (k + 1) = b % 65536 ^ (k + 1) + (a - b) % 65536 ^ (k + 1)) ∧
    (x < 0 → (((a - b) / 65536 ^ k % 65536 : Nat) : Int) = x + 65536 ∧ a % 65536 ^ (k + 1) + 65536 ^ (k + 1) = b % 65536 ^ (k + 1) + (a - b) % 65536 ^ (k + 1)) := by
  have hp : 0 < 65536 ^ k := Nat.pow_pos (by decide)
  intro x
  show (0 ≤ x → _) ∧ _
  have hx : x = (a / 65536 ^ k % 65536 : Nat) - (b / 65536 ^ k % 65536 : Nat) - bw := rfl
  clear_value x
  rw [Nat.pow_succ, Nat.mod_mul, Nat.mod_mul, Nat.mod_mul]
  generalize 65536 ^ k = p at *
  have ea := Nat.div_add_mod a p
  have eb := Nat.div_add_mod b p
  have es := Nat.div_add_mod (a - b) p
  have hd : (a - b) / p + b / p + bw = a / p := by
    have h1 : p * ((a - b) / p + b / p + bw) = p * (a / p) := by
      rw [Nat.mul_add, Nat.mul_add, Nat.mul_comm p bw]
      omega
    exact Nat.eq_of_mul_eq_mul_left hp h1
  rw [← hd] at ea hx ⊢
  generalize (a - b) / p = qs at *
  generalize b / p = qb at *
  constructor
  · intro h0
    have e : (qs + qb + bw) % 65536 = qb % 65536 + bw + qs % 65536 := by omega
    refine ⟨by omega, ?_⟩
    rw [e, Nat.mul_add, Nat.mul_add, Nat.mul_comm p bw]
    generalize p * (qb % 65536) = u at *
    generalize p * (qs % 65536) = v at *
    omega
  · intro h0
    have e : (qs + qb + bw) % 65536 + 65536 = qb % 65536 + bw + qs % 65536 := by omega
    refine ⟨by omega, ?_⟩
    have e2 : p * ((qs + qb + bw) % 65536) + p * 65536 = p * (qb % 65536) + p * bw + p * (qs % 65536) := by
      rw [← Nat.mul_add, ← Nat.mul_add, ← Nat.mul_add, e]
    rw [Nat.mul_comm p bw] at e2
    generalize p * ((qs + qb + bw) % 65536) = z at *
    generalize p * (qb % 65536) = u at *
    generalize p * (qs % 65536) = v at *
    omega

set_option maxHeartbeats 1000000 in
set_option maxRecDepth 100000 in
theorem sub_calls (v v' : Value) (a b : Nat) (w : World) (ha : Row w v (dig a)) (hb : Row w v' (dig b)) (sa : (dig a).length ≤ 1000000) (hab : b ≤ a) :
    Calls Try.prog 65 #[v, v'] w (Gives w (a - b)) := by
  have HB := Lib.hid hb
  obtain ⟨A, c, rfl, a1, a2, a3⟩ := ha
  obtain ⟨A', c', rfl, b1, b2, b3⟩ := hb
  clear b3
  unfold maxLen at a2 b2
  have hcell : ∀ j, j < (dig a).length → ∃ g o, A = some ⟨g, o, none⟩ ∧ g < w.heap.size ∧ w.cell? ⟨g, o + j, none⟩ = some (.int .i64 (a / 65536 ^ j % 65536 : Nat)) := by
    intro j hj
    rcases a3 with a3 | ⟨g, o, rfl, hc⟩
    · rw [a3] at hj; simp at hj
    · refine ⟨g, o, rfl, ?_, ?_⟩
      · exact World.block_lt_of_cell? w _ (hc j hj)
      · rw [hc j hj, dig_getD]
  have HC := Lib.hid hcell
  clear hcell a3
  go_enter Try.func65, Try.ntmps65
  go_wp2
  go_loopw [5, 6, 7] (fun v c i wr => ∃ k bw : Nat, i = .int .i64 k ∧ c = .int .i64 bw ∧ bw ≤ 1 ∧ k ≤ (dig a).length ∧ Own wr w.heap.size v (low k (a - b)) ∧
      Hid (a % 65536 ^ k + bw * 65536 ^ k = b % 65536 ^ k + (a - b) % 65536 ^ k) ∧ Below w.heap.size w wr) (fun _ _ i _ => (dig a).length - (intOf i).toNat)
  case atStart => exact ⟨0, 0, rfl, rfl, by omega, by omega, Own.nil _ _, Lib.hid (by simp [Nat.mod_one]), Below.refl _ _⟩
  case round =>
    obtain ⟨k, bw, rfl, rfl, hbw, hk, hown, HS, hbl⟩ := hrel
    by_cases hk1 : k < (dig a).length
    · have db := dig_getD b k
      have hs := sub_step hab hbw HS.out
      have hla := low_snoc k (a - b)
      have xa : a / 65536 ^ k % 65536 < 65536 := Nat.mod_lt _ (by decide)
      have xb : b / 65536 ^ k % 65536 < 65536 := Nat.mod_lt _ (by decide)
      obtain ⟨g, o, rfl, hg, hc⟩ := HC.out k hk1
      have hll := low_length k (a - b)
      have HS2 := Lib.hid hs
      have HLa := Lib.hid hla
      have HLL := Lib.hid hll
      clear hs hla hll HS
      generalize a / 65536 ^ k % 65536 = x at *
      generalize b / 65536 ^ k % 65536 = y at *
      have HDB := Lib.hid db
      clear db
      have hcr : wr.cell? ⟨g, o + k, none⟩ = some (.int .i64 (x : Int)) := (hbl.cell hg).trans hc
      clear hc
      have CB : ∀ n, Calls Try.prog 57 #[.slice A' (dig b).length c', .int .i64 (k : Int)] (wr.drewN n) fun e w'' => e = .returned (.int .i64 (y : Int)) ∧ w'' = wr.drewN n := by
        intro n
        have := at_calls _ _ (k : Int) (wr.drewN n) ((HB.out).below (below_drewN hbl n)) (by omega) (by omega)
        rw [Int.toNat_natCast, HDB.out] at this
        exact this.mono fun e w' h => ⟨h.1, h.2.symm⟩
      have HCB := Lib.hid CB
      clear CB
      by_cases hx : (x : Int) - y - bw < 0
      · go_wp2_with fail
        go_quiet ((go_at_call 57; exact Calls.quiet_of_same (HCB.out _)))
        go_wp2_with (at_builtin; refine wpList_app_int rfl _ _ rfl _ _ _ rfl (hown.drewN _) _ rfl ?c1 ?c2 ?_)
        case c1 => rw [HLL.out]; omega
        case c2 => exact hbl.size
        intro v' w' ho _ hb' _
        go_wp2
        go_roundw
        case rel =>
          have e := HS2.out.2 hx
          exact ⟨k + 1, 1, by go_num, rfl, by omega, by omega, by rw [HLa.out, e.1]; exact ho, Lib.hid (by rw [Nat.one_mul]; exact e.2), (below_drewN hbl _).trans hb'⟩
        case measure => simp [intOf]; omega
      · go_wp2_with fail
        go_quiet ((go_at_call 57; exact Calls.quiet_of_same (HCB.out _)))
        go_wp2_with (at_builtin; refine wpList_app_int rfl _ _ rfl _ _ _ rfl (hown.drewN _) _ rfl ?c1 ?c2 ?_)
        case c1 => rw [HLL.out]; omega
        case c2 => exact hbl.size
        intro v' w' ho _ hb' _
        go_wp2
        go_roundw
        case rel =>
          have e := HS2.out.1 (by omega)
          exact ⟨k + 1, 0, by go_num, rfl, by omega, by omega, by rw [HLa.out, e.1]; exact ho, Lib.hid (by rw [Nat.zero_mul]; exact e.2), (below_drewN hbl _).trans hb'⟩
        case measure => simp [intOf]; omega
    · have he : a - b < 65536 ^ k := Nat.lt_of_le_of_lt (Nat.sub_le a b) (Nat.lt_of_lt_of_le (dig_lt a) (Nat.pow_le_pow_right (by decide) (by omega)))
      have HE := Lib.hid he
      clear he
      go_wp2_with fail
      refine (trim_calls _ k (a - b) wr hown.row HE.out).mono ?_
      rintro e w' ⟨v', rfl, hr, hob, hd⟩
      go_wp2_with fail
      go_ret
      exact ⟨_, rfl, hr, fun k hk => (World.ownsRow.lt hown k (hob.symm.trans hk)).1, hbl.trans (hd.below _)⟩
end Go.Proofs.Ytchjjbklkmfelaa
