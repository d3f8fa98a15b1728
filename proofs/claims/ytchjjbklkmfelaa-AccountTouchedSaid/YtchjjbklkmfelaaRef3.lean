/- The reference's quotient of rows of digits, and what is left. -/
import Derived.Test.YtchjjbklkmfelaaRef2
namespace Go.Proofs.Ytchjjbklkmfelaa
open Go.RowKit
set_option linter.unusedVariables false
set_option linter.unusedSimpArgs false

theorem dig_mono {m n : Nat} (h : m ≤ n) : (dig m).length ≤ (dig n).length := dig_len_le (Nat.lt_of_le_of_lt h (dig_lt n))
theorem dig_twice {m n : Nat} (h : m < 2 * n) : (dig m).length ≤ (dig n).length + 1 := by
  apply dig_len_le
  have := dig_lt n
  rw [Nat.pow_succ]
  generalize 65536 ^ (dig n).length = p at *
  omega
theorem dig_one : dig 1 = [1] := by rw [dig_pos (by omega), show 1 / 65536 = 0 from rfl, dig_zero]; rfl

/-- One bit of a quotient. -/
def unitOf : Nat → Nat
  | 0 => 0
  | s + 1 => 2 ^ s

theorem unit_half (s : Nat) : unitOf (s + 1) / 2 = unitOf s := by
  cases s with
  | zero => rfl
  | succ s => show 2 ^ (s + 1) / 2 = 2 ^ s; rw [Nat.pow_succ]; omega

theorem bit_next (n s : Nat) : n / 2 ^ s = 2 * (n / 2 ^ (s + 1)) + n / 2 ^ s % 2 := by
  rw [Nat.pow_succ, ← Nat.div_div_eq_div_mul]
  omega

theorem bit_of (n i s : Nat) (hs : s < 16) : n / 65536 ^ i / 2 ^ s % 2 = n / 65536 ^ i % 65536 / 2 ^ s % 2 := by
  generalize n / 65536 ^ i = q
  have e : 65536 = 2 ^ s * (2 * 2 ^ (15 - s)) := by
    rw [← Nat.mul_assoc, ← Nat.pow_succ, ← Nat.pow_add, show s + 1 + (15 - s) = 16 by omega]
  rw [e, Nat.mod_mul_right_div_self, Nat.mod_mul_right_mod]

theorem div_round {P b bit : Nat} (hb : 0 < b) (hbit : bit ≤ 1) :
    (b ≤ 2 * (P % b) + bit → (2 * P + bit) / b = 2 * (P / b) + 1 ∧ (2 * P + bit) % b = 2 * (P % b) + bit - b) ∧
    (2 * (P % b) + bit < b → (2 * P + bit) / b = 2 * (P / b) ∧ (2 * P + bit) % b = 2 * (P % b) + bit) := by
  have e := Nat.div_add_mod P b
  have hr := Nat.mod_lt P hb
  have key : 2 * P + bit = (2 * (P % b) + bit) + b * (2 * (P / b)) := by
    have : b * (2 * (P / b)) = 2 * (b * (P / b)) := by rw [Nat.mul_left_comm]
    omega
  constructor
  · intro h
    have k2 : 2 * P + bit = (2 * (P % b) + bit - b) + b * (2 * (P / b) + 1) := by rw [Nat.mul_add]; omega
    rw [k2, Nat.add_mul_div_left _ _ hb, Nat.add_mul_mod_self_left, Nat.div_eq_of_lt (by omega), Nat.mod_eq_of_lt (by omega)]
    omega
  · intro h
    rw [key, Nat.add_mul_div_left _ _ hb, Nat.add_mul_mod_self_left, Nat.div_eq_of_lt h, Nat.mod_eq_of_lt h]
    omega

/-- A bit more in the quotient's digit. -/
theorem turn_bit (Q s i : Nat) (hs : s < 16) : (Q * 2 ^ (s + 1) * 65536 ^ i) / 65536 ^ i % 65536 + 2 ^ s < 65536 ∧
    turn (Q * 2 ^ (s + 1) * 65536 ^ i) i ((Q * 2 ^ (s + 1) * 65536 ^ i) / 65536 ^ i % 65536 + 2 ^ s) = (2 * Q + 1) * 2 ^ s * 65536 ^ i := by
  have hle := turn_le (Q * 2 ^ (s + 1) * 65536 ^ i) i
  unfold turn
  rw [Nat.mul_div_cancel _ (Nat.pow_pos (by decide))] at hle ⊢
  constructor
  · have e : 65536 = 2 ^ (s + 1) * 2 ^ (15 - s) := by rw [← Nat.pow_add, show s + 1 + (15 - s) = 16 by omega]
    have h1 : Q * 2 ^ (s + 1) % 65536 = (Q % 2 ^ (15 - s)) * 2 ^ (s + 1) := by
      rw [e, Nat.mul_comm Q, Nat.mul_mod_mul_left, Nat.mul_comm]
    rw [h1]
    have h2 : Q % 2 ^ (15 - s) + 1 ≤ 2 ^ (15 - s) := Nat.mod_lt _ (Nat.pow_pos (by decide))
    have h3 : (Q % 2 ^ (15 - s) + 1) * 2 ^ (s + 1) ≤ 65536 := by
      have := Nat.mul_le_mul_right (2 ^ (s + 1)) h2
      rw [Nat.mul_comm (2 ^ (15 - s)), ← e] at this
      exact this
    have h4 : 0 < 2 ^ s := Nat.pow_pos (by decide)
    rw [Nat.add_mul, Nat.one_mul] at h3
    have h5 : 2 ^ (s + 1) = 2 ^ s * 2 := Nat.pow_succ ..
    omega
  · rw [Nat.add_mul, Nat.add_mul, Nat.one_mul, Nat.add_mul (2 * Q * 2 ^ s)]
    have h5 : 2 * Q * 2 ^ s = Q * 2 ^ (s + 1) := by rw [Nat.pow_succ, Nat.mul_comm 2 Q, Nat.mul_assoc, Nat.mul_comm 2]
    rw [h5]
    omega

theorem row_one (w : World) : Row (w.alloc (.cells #[.int .i64 1] 3)) (.slice (some ⟨w.heap.size, 0, none⟩) 1 1) (dig 1) := by
  rw [dig_one]
  refine ⟨some ⟨w.heap.size, 0, none⟩, 1, rfl, by simp, by unfold maxLen; omega, .inr ⟨w.heap.size, 0, rfl, fun j hj => ?_⟩⟩
  have : j = 0 := by simp at hj; omega
  subst this
  exact cell_one_new w (.int .i64 1) 3 0 _ rfl

theorem cmp_ge {m n : Nat} (h : n ≤ m) : 0 ≤ cmpI m n := by
  unfold cmpI
  rw [if_neg (by omega)]
  split <;> omega
theorem cmp_lt {m n : Nat} (h : m < n) : cmpI m n < 0 := by
  unfold cmpI
  rw [if_pos h]
  omega
theorem cmp_bd (m n : Nat) : -1 ≤ cmpI m n ∧ cmpI m n ≤ 1 := by
  unfold cmpI
  split
  · omega
  · split <;> omega

set_option maxHeartbeats 4000000 in
set_option maxRecDepth 100000 in
theorem refdiv_calls (v v' : Value) (a b : Nat) (w : World) (ha : Row w v (dig a)) (hb : Row w v' (dig b)) (sa : (dig a).length ≤ 100000) (sb : (dig b).length ≤ 100000) (hb0 : 0 < b) :
    Calls Try.prog 63 #[v, v'] w fun e w' => ∃ q r, e = .returned (.tuple #[q, r]) ∧ Row w' q (dig (a / b)) ∧ Row w' r (dig (a % b)) ∧ Below w.heap.size w w' := by
  have la := Lib.hid (dig_lt a)
  have HB := Lib.hid hb
  obtain ⟨A, c, rfl, a1, a2, -⟩ := id ha
  obtain ⟨A', c', rfl, b1, b2, -⟩ := id hb
  unfold maxLen at a2 b2
  have HA := Lib.hid (row_cells ha)
  have HLB : Hid ((dig b).length ≤ 100000) := Lib.hid sb
  clear ha hb
  generalize hna : (dig a).length = na at *
  generalize hnb : (dig b).length = nb at *
  have hmk := fun (w : World) => run_make_row' (P := Try.prog) 84 3 (.int .i64 0) 8 Try.underlying84 Try.infoInt rfl .i64 .i64 na (by omega) (by omega) w
  have R0 : ∀ w : World, (w.alloc (.cells (madeCells #[.int .i64 0] na) 3)).rowIs w.heap.size 3 na (cell 0) :=
    fun w => (World.rowIs_made w _ _ _).congr (fun i _ => (cell_zero i).symm)
  have HR0 := Lib.hid (R0 w)
  have HNB := Lib.hid hnb
  clear R0 hna hnb
  go_enter Try.func63, Try.ntmps63
  go_wp2
  clear hmk
  generalize hW0 : w.alloc (.cells (madeCells #[.int .i64 0] na) 3) = W0 at *
  have hs0 : w.heap.size + 1 ≤ W0.heap.size := by rw [← hW0]; simp
  have hbl0 : Below w.heap.size w W0 := by rw [← hW0]; exact (Below.refl _ _).alloc (Nat.le_refl _) _
  clear hW0
  go_loopw [7, 8] (fun l i wr => ∃ k V : Nat, i = .int .i64 ((k : Int) - 1) ∧ k ≤ na ∧ wr.rowIs w.heap.size 3 na (cell V) ∧ Row wr l (dig (a / 65536 ^ k % b)) ∧ l.ownBlock ≠ some w.heap.size ∧ Hid (V = a / 65536 ^ k / b * 65536 ^ k) ∧ Below w.heap.size w wr) (fun _ i _ => (intOf i + 1).toNat)
  case atStart => exact ⟨na, 0, rfl, by omega, HR0.out, by rw [Nat.div_eq_of_lt la.out, Nat.zero_mod, dig_zero]; exact Row.nil _, (by simp [Value.ownBlock]), Lib.hid (by rw [Nat.div_eq_of_lt la.out, Nat.zero_div, Nat.zero_mul]), hbl0⟩
  case round =>
    obtain ⟨k, V, rfl, hk, hrow, hl, hlo, HV, hbl⟩ := hrel
    clear HR0 hs0 hbl0
    cases k with
    | zero =>
      have hV : V = a / b := by have := HV.out; simpa using this
      have hlt : a / b < 65536 ^ na := Nat.lt_of_le_of_lt (Nat.div_le_self a b) la.out
      have HR := Lib.hid (show Row wr _ (low na (a / b)) by rw [← hV]; exact World.rowIs_row hrow (by unfold maxLen; omega))
      have HL := Lib.hid hlt
      have hl0 := hl
      rw [Nat.pow_zero, Nat.div_one] at hl0
      clear hV hlt HV hl
      go_wp2_with fail
      refine (trim_calls _ na (a / b) wr HR.out HL.out).mono ?_
      rintro e w' ⟨v', rfl, hr, hob, hd⟩
      go_wp2_with fail
      go_ret2
      exact ⟨_, _, rfl, hr, hl0.below (hd.below _), hbl.trans (hd.below _)⟩
    | succ i =>
      obtain ⟨g, o, rfl, hg, hc⟩ := HA.out i (by omega)
      have e1 : (((i + 1 : Nat) : Int) - 1) = (i : Int) := by omega
      rw [e1]
      clear e1
      go_wp2_with fail
      obtain ⟨wo, rfl⟩ : ∃ wo : World, wo = wr := ⟨_, rfl⟩
      go_loopw [7, 9] (fun l uv wr => ∃ t V : Nat, uv = .int .i64 (unitOf t) ∧ t ≤ 16 ∧ wr.rowIs w.heap.size 3 na (cell V) ∧ Row wr l (dig (a / 65536 ^ i / 2 ^ t % b)) ∧ l.ownBlock ≠ some w.heap.size ∧
          Hid (V = a / 65536 ^ i / 2 ^ t / b * 2 ^ t * 65536 ^ i) ∧ Below w.heap.size w wr) (fun _ uv _ => (intOf uv).toNat)
      case atStart =>
        have e : a / 65536 ^ i / 2 ^ 16 = a / 65536 ^ (i + 1) := by rw [Nat.div_div_eq_div_mul, Nat.pow_succ 65536 i]
        refine ⟨16, V, rfl, by omega, hrow, by rw [e]; exact hl, hlo, ?_, hbl⟩
        rw [e]
        refine Lib.hid (HV.out.trans ?_)
        rw [Nat.pow_succ 65536 i, Nat.mul_assoc, Nat.mul_comm (2 ^ 16)]
      case round =>
        obtain ⟨t, U, rfl, ht, hrow', hl', hlo', HU, hbl'⟩ := hrel
        clear HV hrow hbl hl
        cases t with
        | zero =>
          rw [show unitOf 0 = 0 from rfl]
          have e1 : a / 65536 ^ i / 2 ^ 0 = a / 65536 ^ i := by simp
          rw [e1] at hl' HU
          have HU' := Lib.hid (show U = a / 65536 ^ i / b * 65536 ^ i by have := HU.out; simpa using this)
          clear e1 HU
          go_wp2_with fail
          go_roundw
          case rel => exact ⟨i, U, by go_num, by omega, hrow', hl', hlo', HU', hbl'⟩
          case measure => simp [intOf]
        | succ s =>
          obtain ⟨u, hu⟩ : ∃ u, u = 2 ^ s := ⟨_, rfl⟩
          have eu : unitOf (s + 1) = u := hu.symm
          have hu1 : 1 ≤ u := by rw [hu]; exact Nat.pow_pos (by decide)
          have hu2 : u ≤ 32768 := by rw [hu]; exact Nat.le_trans (Nat.pow_le_pow_right (by decide) (show s ≤ 15 by omega)) (by decide)
          have hbit := bit_next (a / 65536 ^ i) s
          rw [bit_of a i s (by omega), ← hu] at hbit
          have xa : a / 65536 ^ i % 65536 < 65536 := Nat.mod_lt _ (by decide)
          have htb := turn_bit (a / 65536 ^ i / 2 ^ (s + 1) / b) s i (by omega)
          rw [← HU.out, ← hu] at htb
          have HU1 : Hid (U = 2 * (a / 65536 ^ i / 2 ^ (s + 1) / b) * u * 65536 ^ i) := by
            refine Lib.hid (HU.out.trans ?_)
            rw [Nat.pow_succ, ← hu, Nat.mul_comm 2, Nat.mul_assoc (a / 65536 ^ i / (u * 2) / b) 2 u, Nat.mul_comm 2 u]
          have HEU := Lib.hid (unit_half s)
          rw [eu] at HEU ⊢
          have c1 : wr.cell? ⟨g, o + i, none⟩ = some (cell a i) := (hbl'.cell hg).trans hc
          have c3 : wr.cell? ⟨w.heap.size, i, none⟩ = some (cell U i) := hrow'.cell (by omega)
          unfold cell at c1 c3
          have hbl1 : a / 65536 ^ i % 65536 / u % 2 ≤ 1 := by have := Nat.mod_lt (a / 65536 ^ i % 65536 / u) (show 0 < 2 by decide); omega
          have hr := div_round (P := a / 65536 ^ i / 2 ^ (s + 1)) hb0 hbl1
          rw [← hbit] at hr
          have hRb := Nat.mod_lt (a / 65536 ^ i / 2 ^ (s + 1)) hb0
          have HTB := Lib.hid htb.2
          have zu := htb.1
          have hlz : (dig (a / 65536 ^ i / 2 ^ (s + 1) % b)).length ≤ 100000 := Nat.le_trans (dig_mono (Nat.le_of_lt hRb)) (HNB.out ▸ HLB.out)
          clear htb hbit hc HU eu
          have HE := Lib.hid hu
          have HR := Lib.hid hr
          have HLZ := Lib.hid hlz
          clear hr hlz
          generalize a / 65536 ^ i / 2 ^ (s + 1) % b = R at *
          generalize a / 65536 ^ i / 2 ^ (s + 1) / b = Q at *
          generalize a / 65536 ^ i % 65536 = x at *
          generalize U / 65536 ^ i % 65536 = z at *
          have H3 := Lib.hid (dig_twice (m := R + R + 1) (n := b) (by omega))
          have H2 := Lib.hid (Nat.le_trans (dig_mono (show R + R ≤ R + R + 1 by omega)) H3.out)
          clear hu
          go_wp2_with fail
          refine (add_calls _ _ R R wr hl' hl' (by have := HLZ.out; omega) (by have := HLZ.out; omega)).mono ?_
          rintro e w1 ⟨l2, rfl, hl2, hf2, hb1⟩
          have c1' := (hb1.cell (World.block_lt_of_cell? wr _ c1)).trans c1
          have c3' := (hb1.cell (World.block_lt_of_cell? wr _ c3)).trans c3
          have q0 : 0 ≤ (x : Int) / (u : Int) ∧ (x : Int) / (u : Int) ≤ 65535 := by
            have := Nat.div_le_self x u
            rw [← Int.natCast_ediv]
            generalize x / u = y at *
            omega
          obtain ⟨q0, q1⟩ := q0
          have hodd : x / u % 2 = 1 ∨ x / u % 2 = 0 := by omega
          have hlo2 : l2.ownBlock ≠ some w.heap.size := fun e => by have := hf2 _ e; have := hrow'.lt; omega
          have hb2 := hbl'.trans (hb1.mono hbl'.size)
          have hrow1 := hrow'.of_block (hb1.block _ hrow'.lt)
          clear c1 c3 hrow' hl' hbl' hb1
          rcases hodd with hodd | hodd
          · have ht : ((((x : Int) / (u : Int)) % 2) == 1) = true := by
              rw [beq_iff_eq]; omega
            go_wp2_with fail
            have ro := row_one w1
            refine (add_calls _ _ (R + R) 1 _ (hl2.below ((Below.refl _ _).alloc (Nat.le_refl _) _)) ro (by have := H2.out; have := HNB.out; omega) (by rw [dig_one]; simp)).mono ?_
            rintro e w2 ⟨l3, rfl, hl3, hf3, hb3⟩
            have hlo3 : l3.ownBlock ≠ some w.heap.size := fun e => by have := hf3 _ e; have := hrow1.lt; simp at *; omega
            have hb4 : Below w1.heap.size w1 w2 := ((Below.refl _ _).alloc (Nat.le_refl _) _).trans (hb3.mono (by simp))
            have c3 := (hb4.cell (World.block_lt_of_cell? w1 _ c3')).trans c3'
            have hb5 := hb2.trans (hb4.mono hb2.size)
            have hrow2 := hrow1.of_block (hb4.block _ hrow1.lt)
            have HNb := Lib.hid (show R + R + 1 = 2 * R + x / u % 2 by omega)
            clear c1' c3' hl2 hb3 hb4 hb2 hrow1 ro hodd ht
            generalize R + R + 1 = N at *
            go_wp2_with fail
            refine (cmp_calls _ _ N b w2 hl3 ((HB.out).below (hb5))).mono ?_
            rintro e w' ⟨rfl, rfl⟩
            have hcb := cmp_bd N b
            by_cases hge : b ≤ N
            · have hcg := cmp_ge hge
              have hE := HR.out.1 (by have := HNb.out; omega)
              have HE2 := Lib.hid hE
              clear hE
              generalize cmpI N b = cc at *
              go_wp2_with fail
              refine (sub_calls _ _ N b w2 hl3 ((HB.out).below (hb5)) (by have := H3.out; have := HNB.out; omega) hge).mono ?_
              rintro e w5 ⟨l5, rfl, hl5, hf5, hb6⟩
              have hlo5 : l5.ownBlock ≠ some w.heap.size := fun e => by have := hf5 _ e; have := hrow2.lt; omega
              have c5 := (hb6.cell (World.block_lt_of_cell? w2 _ c3)).trans c3
              have hb7 := (hb5).trans (hb6.mono (hb5).size)
              have hrow5 := (hrow2).of_block (hb6.block _ (hrow2).lt)
              have c6 := hrow5.frozen i
              go_wp2_with fail
              go_roundw
              case rel =>
                refine ⟨s, turn U i (z + u), ?_, by omega, rowIs_turn hrow5 (by omega) zu (by simp), ?_, hlo5, ?_, hb7.setCell (Nat.le_refl _) _⟩
                · rw [← HEU.out]; go_num
                · rw [← HE.out, HE2.out.2, ← HNb.out]
                  exact Row.setCell hl5 hlo5 _
                · rw [← HE.out, HE2.out.1]; exact HTB
              case measure => simp [intOf]; omega
            · have hcg := cmp_lt (show N < b by omega)
              have hE := HR.out.2 (by have := HNb.out; omega)
              have HE2 := Lib.hid hE
              clear hE
              generalize cmpI N b = cc at *
              go_wp2_with fail
              go_roundw
              case rel =>
                refine ⟨s, U, ?_, by omega, hrow2, ?_, hlo3, ?_, hb5⟩
                · rw [← HEU.out]; go_num
                · rw [← HE.out, HE2.out.2, ← HNb.out]; exact hl3
                · rw [← HE.out, HE2.out.1]; exact HU1
              case measure => simp [intOf]; omega
          · have ht : ((((x : Int) / (u : Int)) % 2) == 1) = false := by
              rw [beq_eq_false_iff_ne]; omega
            have HNb := Lib.hid (show R + R = 2 * R + x / u % 2 by omega)
            clear hodd
            generalize R + R = N at *
            go_wp2_with fail
            refine (cmp_calls _ _ N b w1 hl2 ((HB.out).below (hb2))).mono ?_
            rintro e w' ⟨rfl, rfl⟩
            have hcb := cmp_bd N b
            by_cases hge : b ≤ N
            · have hcg := cmp_ge hge
              have hE := HR.out.1 (by have := HNb.out; omega)
              have HE2 := Lib.hid hE
              clear hE
              generalize cmpI N b = cc at *
              go_wp2_with fail
              refine (sub_calls _ _ N b w1 hl2 ((HB.out).below (hb2)) (by have := H2.out; have := HNB.out; omega) hge).mono ?_
              rintro e w5 ⟨l5, rfl, hl5, hf5, hb6⟩
              have hlo5 : l5.ownBlock ≠ some w.heap.size := fun e => by have := hf5 _ e; have := hrow1.lt; omega
              have c5 := (hb6.cell (World.block_lt_of_cell? w1 _ c3')).trans c3'
              have hb7 := (hb2).trans (hb6.mono (hb2).size)
              have hrow5 := (hrow1).of_block (hb6.block _ (hrow1).lt)
              have c6 := hrow5.frozen i
              go_wp2_with fail
              go_roundw
              case rel =>
                refine ⟨s, turn U i (z + u), ?_, by omega, rowIs_turn hrow5 (by omega) zu (by simp), ?_, hlo5, ?_, hb7.setCell (Nat.le_refl _) _⟩
                · rw [← HEU.out]; go_num
                · rw [← HE.out, HE2.out.2, ← HNb.out]
                  exact Row.setCell hl5 hlo5 _
                · rw [← HE.out, HE2.out.1]; exact HTB
              case measure => simp [intOf]; omega
            · have hcg := cmp_lt (show N < b by omega)
              have hE := HR.out.2 (by have := HNb.out; omega)
              have HE2 := Lib.hid hE
              clear hE
              generalize cmpI N b = cc at *
              go_wp2_with fail
              go_roundw
              case rel =>
                refine ⟨s, U, ?_, by omega, hrow1, ?_, hlo2, ?_, hb2⟩
                · rw [← HEU.out]; go_num
                · rw [← HE.out, HE2.out.2, ← HNb.out]; exact hl2
                · rw [← HE.out, HE2.out.1]; exact HU1
              case measure => simp [intOf]; omega
end Go.Proofs.Ytchjjbklkmfelaa
