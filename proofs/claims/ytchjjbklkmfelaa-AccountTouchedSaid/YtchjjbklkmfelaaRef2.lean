/- The reference's product of rows of digits, and a pair of limbs as one number. -/
import Derived.Test.YtchjjbklkmfelaaRef1
namespace Go.Proofs.Ytchjjbklkmfelaa
open Go.RowKit
set_option linter.unusedVariables false
set_option linter.unusedSimpArgs false

/-- A digit, as it lies in memory. -/
def cell (V j : Nat) : Value := .int .i64 ((V / 65536 ^ j % 65536 : Nat) : Int)

/-- A number whose digit j is turned to d. -/
def turn (V j d : Nat) : Nat := V - V / 65536 ^ j % 65536 * 65536 ^ j + d * 65536 ^ j

theorem turn_le (V j : Nat) : V / 65536 ^ j % 65536 * 65536 ^ j ≤ V :=
  Nat.le_trans (Nat.mul_le_mul_right _ (Nat.mod_le _ _)) (Nat.div_mul_le_self _ _)

theorem cell_turn {L V j d i : Nat} (hj : j < L) (hd : d < 65536) (hi : i < L) : (if i = j then Value.int .i64 (d : Int) else cell V i) = cell (turn V j d) i := by
  have h := low_set L V j d hj hd
  have e := low_getD L (turn V j d) i hi
  unfold turn at e ⊢
  rw [← h, List.getD_eq_getElem?_getD, List.getElem?_set, low_length] at e
  unfold cell
  by_cases c : i = j
  · subst c
    rw [if_pos rfl]
    rw [if_pos rfl, if_pos hi] at e
    rw [← e]
    rfl
  · rw [if_neg c]
    rw [if_neg (fun h => c h.symm), low_getElem _ _ _ hi] at e
    rw [← e]
    rfl

theorem turn_lt {V j d n : Nat} (hj : j < n) (hd : d < 65536) (h : V < 65536 ^ n) : turn V j d < 65536 ^ n := by
  obtain ⟨m, rfl⟩ : ∃ m, n = j + 1 + m := ⟨n - (j + 1), by omega⟩
  have hp : 0 < 65536 ^ j := Nat.pow_pos (by decide)
  have e : turn V j d / 65536 ^ j = V / 65536 ^ j / 65536 * 65536 + d := by
    unfold turn
    have := Nat.div_add_mod V (65536 ^ j)
    have hm := Nat.mod_lt V hp
    have hle : V / 65536 ^ j % 65536 ≤ V / 65536 ^ j := Nat.mod_le _ _
    have hq : V / 65536 ^ j / 65536 * 65536 + V / 65536 ^ j % 65536 = V / 65536 ^ j := by omega
    generalize V / 65536 ^ j / 65536 * 65536 = A at *
    generalize V / 65536 ^ j % 65536 = D at *
    rw [← hq, Nat.mul_add] at this
    have e2 : V - D * 65536 ^ j + d * 65536 ^ j = V % 65536 ^ j + 65536 ^ j * (A + d) := by
      rw [Nat.mul_add, Nat.mul_comm D, Nat.mul_comm d]
      omega
    rw [e2, Nat.add_mul_div_left _ _ hp, Nat.div_eq_of_lt hm]
    omega
  have hV : V / 65536 ^ j / 65536 < 65536 ^ m := by
    rw [Nat.div_div_eq_div_mul, ← Nat.pow_succ]
    apply Nat.div_lt_of_lt_mul
    rw [← Nat.pow_add]
    exact h
  have hT : turn V j d / 65536 ^ j < 65536 ^ (m + 1) := by
    rw [e, Nat.pow_succ]
    generalize 65536 ^ m = p at *
    omega
  have := (Nat.div_lt_iff_lt_mul hp).1 hT
  rw [← Nat.pow_add] at this
  rwa [show m + 1 + j = j + 1 + m by omega] at this

/-- A digit of a product, and what is carried. -/
theorem mul_step {P S V cy x b i k : Nat} (h : V + cy * 65536 ^ (i + k) = P + S * 65536 ^ i * (b % 65536 ^ k)) (hx : x = V / 65536 ^ (i + k) % 65536 + S * (b / 65536 ^ k % 65536) + cy) :
    turn V (i + k) (x % 65536) + x / 65536 * 65536 ^ (i + (k + 1)) = P + S * 65536 ^ i * (b % 65536 ^ (k + 1)) := by
  have hle := turn_le V (i + k)
  unfold turn
  have e1 : 65536 ^ (i + (k + 1)) = 65536 ^ (i + k) * 65536 := by rw [← Nat.add_assoc, Nat.pow_succ]
  have e2 : b % 65536 ^ (k + 1) = b % 65536 ^ k + 65536 ^ k * (b / 65536 ^ k % 65536) := by rw [Nat.pow_succ, Nat.mod_mul]
  have e3 : S * 65536 ^ i * (65536 ^ k * (b / 65536 ^ k % 65536)) = S * (b / 65536 ^ k % 65536) * 65536 ^ (i + k) := by
    rw [Nat.pow_add, Nat.mul_assoc, ← Nat.mul_assoc (65536 ^ i), Nat.mul_comm (65536 ^ i * 65536 ^ k), ← Nat.mul_assoc]
  have e4 : x % 65536 * 65536 ^ (i + k) + x / 65536 * (65536 ^ (i + k) * 65536) = x * 65536 ^ (i + k) := by
    rw [Nat.mul_comm (65536 ^ (i + k)), ← Nat.mul_assoc, ← Nat.add_mul]
    congr 1
    omega
  have e5 : x * 65536 ^ (i + k) = V / 65536 ^ (i + k) % 65536 * 65536 ^ (i + k) + S * (b / 65536 ^ k % 65536) * 65536 ^ (i + k) + cy * 65536 ^ (i + k) := by
    rw [hx, Nat.add_mul, Nat.add_mul]
  rw [e1, e2, Nat.mul_add, e3]
  generalize V / 65536 ^ (i + k) % 65536 * 65536 ^ (i + k) = A at *
  generalize S * (b / 65536 ^ k % 65536) * 65536 ^ (i + k) = C at *
  generalize cy * 65536 ^ (i + k) = D at *
  generalize x % 65536 * 65536 ^ (i + k) = E at *
  generalize x / 65536 * (65536 ^ (i + k) * 65536) = F at *
  generalize x * 65536 ^ (i + k) = G at *
  omega

theorem mul_round {a b i lb V cy : Nat} (h : V + cy * 65536 ^ (i + lb) = a % 65536 ^ i * b + (a / 65536 ^ i % 65536) * 65536 ^ i * (b % 65536 ^ lb)) (hb : b < 65536 ^ lb) (hV : V < 65536 ^ (i + lb)) :
    turn V (i + lb) cy = a % 65536 ^ (i + 1) * b := by
  unfold turn
  rw [Nat.div_eq_of_lt hV]
  rw [Nat.mod_eq_of_lt hb] at h
  rw [Nat.pow_succ, Nat.mod_mul, Nat.add_mul, Nat.mul_comm (65536 ^ i) (a / 65536 ^ i % 65536)]
  simp only [Nat.zero_mod, Nat.zero_mul, Nat.sub_zero]
  exact h

theorem World.rowIs_row {w : World} {B n V : Nat} (h : w.rowIs B 3 n (cell V)) (hn : n ≤ maxLen) : Row w (.slice (some ⟨B, 0, none⟩) n n) (low n V) := by
  refine ⟨some ⟨B, 0, none⟩, n, by rw [low_length], by rw [low_length]; omega, hn, .inr ⟨B, 0, rfl, fun j hj => ?_⟩⟩
  rw [low_length] at hj
  rw [low_getD _ _ _ hj, Nat.zero_add]
  exact h.cell hj

theorem World.rowIs_drewN {w : World} {b n : Nat} {t : TypeId} {f : Nat → Value} (h : w.rowIs b t n f) (m : Nat) : (w.drewN m).rowIs b t n f := h

theorem cell_zero (j : Nat) : cell 0 j = .int .i64 0 := by unfold cell; simp

theorem row_cells {w : World} {A : Option Addr} {n c a : Nat} (h : Row w (.slice A n c) (dig a)) : ∀ j, j < n → ∃ g o, A = some ⟨g, o, none⟩ ∧ g < w.heap.size ∧ w.cell? ⟨g, o + j, none⟩ = some (cell a j) := by
  obtain ⟨A', c', e, h1, h2, h3⟩ := h
  cases e
  intro j hj
  rcases h3 with h3 | ⟨g, o, rfl, hc⟩
  · rw [h3] at hj; simp at hj
  · refine ⟨g, o, rfl, World.block_lt_of_cell? w _ (hc j hj), ?_⟩
    rw [hc j hj, dig_getD]
    rfl

theorem rowIs_turn {w : World} {B L V j d : Nat} {x : Int} (h : w.rowIs B 3 L (cell V)) (hj : j < L) (hd : d < 65536) (hx : x = (d : Int)) :
    (w.setCell ⟨B, j, none⟩ (.int .i64 x)).rowIs B 3 L (cell (turn V j d)) := by
  subst hx
  exact (h.set j (.int .i64 (d : Int))).congr fun i hi => cell_turn hj hd hi

set_option maxHeartbeats 2000000 in
set_option maxRecDepth 100000 in
theorem mul_calls (v v' : Value) (a b : Nat) (w : World) (ha : Row w v (dig a)) (hb : Row w v' (dig b)) (sa : (dig a).length ≤ 1000000) (sb : (dig b).length ≤ 1000000) :
    Calls Try.prog 64 #[v, v'] w (Gives w (a * b)) := by
  have la := Lib.hid (dig_lt a)
  have lb := Lib.hid (dig_lt b)
  obtain ⟨A, c, rfl, a1, a2, -⟩ := id ha
  obtain ⟨A', c', rfl, b1, b2, -⟩ := id hb
  unfold maxLen at a2 b2
  have HA := Lib.hid (row_cells ha)
  have HB := Lib.hid (row_cells hb)
  clear ha hb
  generalize hna : (dig a).length = na at *
  generalize hnb : (dig b).length = nb at *
  have hmk := fun (w : World) => run_make_row' (P := Try.prog) 84 3 (.int .i64 0) 8 Try.underlying84 Try.infoInt rfl .i64 .i64 (na + nb) (by omega) (by omega) w
  simp only [Int.natCast_add] at hmk
  have R0 : ∀ w : World, (w.alloc (.cells (madeCells #[.int .i64 0] (na + nb)) 3)).rowIs w.heap.size 3 (na + nb) (cell 0) :=
    fun w => (World.rowIs_made w _ _ _).congr (fun i _ => (cell_zero i).symm)
  have HR0 := Lib.hid (R0 w)
  clear R0 hna hnb
  go_enter Try.func64, Try.ntmps64
  go_wp2
  clear hmk
  generalize hW0 : w.alloc (.cells (madeCells #[.int .i64 0] (na + nb)) 3) = W0 at *
  have hs0 : w.heap.size + 1 ≤ W0.heap.size := by rw [← hW0]; simp
  have hb0 : Below w.heap.size w W0 := by rw [← hW0]; exact (Below.refl _ _).alloc (Nat.le_refl _) _
  clear hW0
  go_loopw [18] (fun i wr => ∃ k V : Nat, i = .int .i64 k ∧ k ≤ na ∧ wr.rowIs w.heap.size 3 (na + nb) (cell V) ∧ Hid (V = a % 65536 ^ k * b) ∧ Below w.heap.size w wr) (fun i _ => na - (intOf i).toNat)
  case atStart => exact ⟨0, 0, rfl, by omega, HR0.out, Lib.hid (by simp [Nat.mod_one]), hb0⟩
  case round =>
    obtain ⟨i, V, rfl, hi, hrow, HV, hbl⟩ := hrel
    clear HR0 hs0 hb0
    by_cases hi1 : i < na
    · obtain ⟨g, o, rfl, hg, hc⟩ := HA.out i hi1
      go_wp2_with fail
      have xa : a / 65536 ^ i % 65536 < 65536 := Nat.mod_lt _ (by decide)
      obtain ⟨wo, rfl⟩ : ∃ wo : World, wo = wr := ⟨_, rfl⟩
      go_loopw [7, 23] (fun cv kv wr => ∃ k cy V : Nat, kv = .int .i64 k ∧ cv = .int .i64 cy ∧ k ≤ nb ∧ cy < 65536 ∧ wr.rowIs w.heap.size 3 (na + nb) (cell V) ∧
          Hid (V < 65536 ^ (i + nb) ∧ V + cy * 65536 ^ (i + k) = a % 65536 ^ i * b + a / 65536 ^ i % 65536 * 65536 ^ i * (b % 65536 ^ k)) ∧ Below w.heap.size w wr) (fun _ kv _ => nb - (intOf kv).toNat)
      case atStart => exact ⟨0, 0, V, rfl, rfl, by omega, by omega, hrow, Lib.hid ⟨by
          have h1 : a % 65536 ^ i < 65536 ^ i := Nat.mod_lt _ (Nat.pow_pos (by decide))
          rw [HV.out, Nat.pow_add]
          exact Nat.mul_lt_mul'' h1 lb.out, by rw [HV.out]; simp [Nat.mod_one]⟩, hbl⟩
      case round =>
        obtain ⟨k, cy, U, rfl, rfl, hk, hcy, hrow', HU, hbl'⟩ := hrel
        clear HV hrow hbl
        by_cases hk1 : k < nb
        · obtain ⟨g', o', rfl, hg', hc'⟩ := HB.out k hk1
          have c1 : wr.cell? ⟨g, o + i, none⟩ = some (cell a i) := (hbl'.cell hg).trans hc
          have c2 : wr.cell? ⟨g', o' + k, none⟩ = some (cell b k) := (hbl'.cell hg').trans hc'
          have c3 : wr.cell? ⟨w.heap.size, i + k, none⟩ = some (cell U (i + k)) := hrow'.cell (by omega)
          have c4 := hrow'.frozen (i + k)
          have xb : b / 65536 ^ k % 65536 < 65536 := Nat.mod_lt _ (by decide)
          have xu : U / 65536 ^ (i + k) % 65536 < 65536 := Nat.mod_lt _ (by decide)
          have hm := mul_step (x := U / 65536 ^ (i + k) % 65536 + a / 65536 ^ i % 65536 * (b / 65536 ^ k % 65536) + cy) HU.out.2 rfl
          have HM := Lib.hid hm
          have HUlt := Lib.hid HU.out.1
          unfold cell at c1 c2 c3
          clear hc hc' hm HU
          generalize a / 65536 ^ i % 65536 = x at *
          generalize b / 65536 ^ k % 65536 = y at *
          generalize U / 65536 ^ (i + k) % 65536 = z at *
          have xyN : x * y ≤ 65535 * 65535 := Nat.mul_le_mul (by omega) (by omega)
          have hxy : 0 ≤ (x : Int) * (y : Int) ∧ (x : Int) * (y : Int) ≤ 4294836225 := by
            rw [← Int.natCast_mul]
            omega
          obtain ⟨xy0, xy1⟩ := hxy
          have w1 : IntKind.i64.wrap ((i : Int) + k) = (i : Int) + k := IntWalk.i64_in _ (by omega)
          have w2 : ((i : Int) + k).toNat = i + k := by omega
          have w3 : 0 ≤ (i : Int) + k := by omega
          go_wp2_with fail
          go_quiet (fail)
          go_wp2_with fail
          go_roundw
          case rel =>
            refine ⟨k + 1, (z + x * y + cy) / 65536, turn U (i + k) ((z + x * y + cy) % 65536), by go_num, ?_, by omega, by omega, ?_, Lib.hid ⟨turn_lt (by omega) (by omega) HUlt.out, HM.out⟩, ?_⟩
            · go_num
            · exact rowIs_turn (World.rowIs_drewN hrow' _) (by omega) (by omega) (by simp)
            · exact (below_drewN hbl' _).setCell (Nat.le_refl _) _
          case measure => simp [intOf]; omega
        · have hkn : k = nb := by omega
          subst hkn
          have hr := mul_round HU.out.2 lb.out HU.out.1
          have c3 : wr.cell? ⟨w.heap.size, i + k, none⟩ = some (.int .i64 0) := by
            have := hrow'.cell (i := i + k) (by omega)
            rw [this]
            unfold cell
            rw [Nat.div_eq_of_lt HU.out.1]
            rfl
          have c4 := hrow'.frozen (i + k)
          have HR := Lib.hid hr
          clear hr HU hc
          have w1 : IntKind.i64.wrap ((i : Int) + k) = (i : Int) + k := IntWalk.i64_in _ (by omega)
          have w2 : ((i : Int) + k).toNat = i + k := by omega
          have w3 : 0 ≤ (i : Int) + k := by omega
          go_wp2_with fail
          go_roundw
          case rel =>
            refine ⟨i + 1, turn U (i + k) cy, by go_num, by omega, ?_, HR.out, ?_⟩
            · exact rowIs_turn hrow' (by omega) hcy (by simp)
            · exact hbl'.setCell (Nat.le_refl _) _
          case measure => simp [intOf]; omega
    · have hin : i = na := by omega
      subst hin
      have hrw := World.rowIs_row hrow (by unfold maxLen; omega)
      have hlt : a * b < 65536 ^ (i + nb) := by rw [Nat.pow_add]; exact Nat.mul_lt_mul'' la.out lb.out
      have hV : V = a * b := by have := HV.out; rw [Nat.mod_eq_of_lt la.out] at this; exact this
      have HL := Lib.hid hlt
      have HR := Lib.hid (show Row wr _ (low (i + nb) (a * b)) by rw [← hV]; exact hrw)
      clear hlt hV HV hrw
      go_wp2_with fail
      refine (trim_calls _ (i + nb) (a * b) wr HR.out HL.out).mono ?_
      rintro e w' ⟨v', rfl, hr, hob, hd⟩
      go_wp2_with fail
      go_ret
      exact ⟨_, rfl, hr, fun k hk => by have h2 := hob.symm.trans hk; simp [Value.ownBlock] at h2; omega, hbl.trans (hd.below _)⟩
end Go.Proofs.Ytchjjbklkmfelaa
