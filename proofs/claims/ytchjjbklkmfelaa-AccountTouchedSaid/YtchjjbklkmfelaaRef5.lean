/- sponsionref02.Int: the number of a row of digits, if it has at most 256 bits. -/
import Derived.Test.YtchjjbklkmfelaaRef4
import Derived.Test.YtchjjbklkmfelaaBox
namespace Go.Proofs.Ytchjjbklkmfelaa
open Go.RowKit
set_option linter.unusedVariables false
set_option linter.unusedSimpArgs false

/-- What Int tells. -/
def intV (n : Nat) : Value := if n < 18446744073709551616 ^ 4 then .tuple #[bigN n, .bool true] else .tuple #[bigN 0, .bool false]

/-- A limb while digits from the k-th on are taken. -/
def icell (n k j : Nat) : Nat := n / 65536 ^ (max k (4 * j)) % 65536 ^ (4 * j + 4 - max k (4 * j))
theorem icell_top {n k : Nat} (h : n < 65536 ^ k) (j : Nat) : icell n k j = 0 := by
  unfold icell
  rw [Nat.div_eq_of_lt (Nat.lt_of_lt_of_le h (Nat.pow_le_pow_right (by decide) (Nat.le_max_left _ _))), Nat.zero_mod]
theorem icell_zero (n j : Nat) : icell n 0 j = n / 18446744073709551616 ^ j % 18446744073709551616 := by
  unfold icell
  rw [Nat.zero_max, Nat.pow_mul, show 4 * j + 4 - 4 * j = 4 by omega]
theorem icell_lt (n k j : Nat) : icell n k j < 18446744073709551616 := by
  unfold icell
  refine Nat.lt_of_lt_of_le (Nat.mod_lt _ (Nat.pow_pos (by decide))) ?_
  exact Nat.le_trans (Nat.pow_le_pow_right (by decide) (show _ ≤ 4 by omega)) (by decide)
theorem icell_step (n k : Nat) : icell n k (k / 4) = icell n (k + 1) (k / 4) * 65536 + n / 65536 ^ k % 65536 := by
  unfold icell
  rw [show max k (4 * (k / 4)) = k by omega, show max (k + 1) (4 * (k / 4)) = k + 1 by omega]
  obtain ⟨e, he⟩ : ∃ e, 4 * (k / 4) + 4 - k = e + 1 := ⟨4 * (k / 4) + 4 - k - 1, by omega⟩
  rw [he, show 4 * (k / 4) + 4 - (k + 1) = e by omega, Nat.pow_succ 65536 k, ← Nat.div_div_eq_div_mul, Nat.pow_succ, Nat.mul_comm (65536 ^ e), Nat.mod_mul]
  omega
theorem icell_other (n k j : Nat) (h : j ≠ k / 4) : icell n k j = icell n (k + 1) j := by
  unfold icell
  by_cases hj : 4 * j ≤ k
  · rw [show 4 * j + 4 - max k (4 * j) = 0 by omega, show 4 * j + 4 - max (k + 1) (4 * j) = 0 by omega, Nat.pow_zero, Nat.mod_one, Nat.mod_one]
  · rw [show max k (4 * j) = 4 * j by omega, show max (k + 1) (4 * j) = 4 * j by omega]
def ic (n k j : Nat) : Value := .int .u64 (icell n k j : Int)

theorem ic_box {w : World} {g n : Nat} (h : w.rowIs g 28 4 (ic n 0)) : Box w g n := h.congr fun j _ => by
  unfold ic lim limb
  rw [icell_zero]
theorem ic_start {w : World} {g n k : Nat} (h : Box w g 0) (hn : n < 65536 ^ k) : w.rowIs g 28 4 (ic n k) := h.congr fun j _ => by
  unfold ic lim
  rw [icell_top hn, limb_zero]
  rfl
theorem ic_set {w : World} {g n k : Nat} (h : w.rowIs g 28 4 (ic n (k + 1))) : (w.setCell ⟨g, k / 4, none⟩ (.int .u64 ((icell n (k + 1) (k / 4) * 65536 + n / 65536 ^ k % 65536 : Nat) : Int))).rowIs g 28 4 (ic n k) :=
  (h.set (k / 4) _).congr fun j _ => by
    by_cases hj : j = k / 4
    · subst hj; simp [ic, icell_step]
    · simp [ic, hj, icell_other n k j hj]

set_option maxHeartbeats 1000000 in
set_option maxRecDepth 100000 in
theorem int_calls (v : Value) (n : Nat) (w : World) (h : Row w v (dig n)) (hl : (dig n).length ≤ 1000000) :
    Calls Try.prog 44 #[v] w fun e w' => e = .returned (intV n) ∧ Below w.heap.size w w' := by
  have B0 := Box.zero w
  have R0 : Row (w.alloc (.cells #[.int .u64 0, .int .u64 0, .int .u64 0, .int .u64 0] 28)) v (low (dig n).length n) := by
    rw [← dig_low]
    exact h.below ((Below.refl _ _).alloc (Nat.le_refl _) _)
  have Q0 : Below w.heap.size w (w.alloc (.cells #[.int .u64 0, .int .u64 0, .int .u64 0, .int .u64 0] 28)) := (Below.refl _ _).alloc (Nat.le_refl _) _
  go_enter Try.func44, Try.ntmps44
  go_wp2_with fail
  refine (trim_calls v (dig n).length n _ R0 (dig_lt n)).mono ?_
  rintro e w' ⟨v', rfl, hr, -, hd⟩
  have B1 := B0.below (hd.below _) B0.lt
  have Q1 := Q0.trans (hd.below w.heap.size)
  obtain ⟨A, c, rfl, a1, a2, -⟩ := id hr
  have HR := Lib.hid (row_cells hr)
  clear hr
  unfold maxLen at a2
  have lt0 := B1.lt
  have HL := Lib.hid (dig_lt n)
  have HLL := Lib.hid (show n < 18446744073709551616 ^ 4 ↔ (dig n).length ≤ 16 from ⟨fun h => dig_len_le (k := 16) (by rw [show (65536 : Nat) ^ 16 = 18446744073709551616 ^ 4 by decide]; exact h), fun h => Nat.lt_of_lt_of_le (dig_lt n) (by rw [show (18446744073709551616 : Nat) ^ 4 = 65536 ^ 16 by decide]; exact Nat.pow_le_pow_right (by decide) h)⟩)
  clear R0 Q0 B0 hd h
  generalize hna : (dig n).length = na at *
  clear hna
  rcases Nat.lt_or_ge 16 na with hb | hb
  · have HV := Lib.hid (show intV n = .tuple #[bigN 0, .bool false] from if_neg (by rw [HLL.out]; omega))
    have HZ := Lib.hid bigN_zero
    obtain ⟨r0, r1, r2, r3⟩ := B1.cells
    obtain ⟨d0, d1, d2, d3⟩ := B1.free
    have hb' : (16 : Int) < (na : Int) := by omega
    go_wp2_with fail
    exact bodyPost_ret (v := .tuple #[big 0 0 0 0, .bool false]) (by simp [results, Try.results44, go_sem, r0, r1, r2, r3, lt0]) rfl ⟨by rw [HV.out, HZ.out], below_store Q1 (Nat.le_refl _) _ _ _ _⟩
  · have hb' : (na : Int) ≤ 16 := by omega
    have HV := Lib.hid (show intV n = .tuple #[bigN n, .bool true] from if_pos (HLL.out.2 hb))
    have C0 := Lib.hid (ic_start (Box.zero w') HL.out)
    clear HLL HL
    go_wp2_with fail
    go_loopw [5] (fun i wr => ∃ k : Nat, i = .int .i64 ((k : Int) - 1) ∧ k ≤ na ∧ wr.rowIs w'.heap.size 28 4 (ic n k) ∧ Below w'.heap.size w' wr) (fun i _ => (intOf i + 1).toNat)
    case atStart => exact ⟨na, rfl, by omega, C0.out, (Below.refl _ _).alloc (Nat.le_refl _) _⟩
    case round =>
      obtain ⟨k, rfl, hk, hrow, hbl⟩ := hrel
      clear C0
      cases k with
      | zero =>
        obtain ⟨c0, c1, c2, c3⟩ := (ic_box hrow).cells
        obtain ⟨r0, r1, r2, r3⟩ := (B1.below hbl lt0).cells
        obtain ⟨d0, d1, d2, d3⟩ := (B1.below hbl lt0).free
        have lt1 := (B1.below hbl lt0).lt
        have hbb := Q1.trans (hbl.mono (by omega))
        go_wp2_with fail
        exact bodyPost_ret (v := .tuple #[bigN n, .bool true]) (by simp [results, Try.results44, go_sem, c0, c1, c2, c3, r0, r1, r2, r3, lt1]) rfl ⟨by rw [HV.out], below_store hbb (Nat.le_refl _) _ _ _ _⟩
      | succ k =>
        have e1 : (((k + 1 : Nat) : Int) - 1) = (k : Int) := by omega
        rw [e1]
        clear e1
        obtain ⟨g, o, rfl, hg, hc⟩ := HR.out k (by omega)
        have hq4 : k / 4 < 4 := by omega
        have c0 : wr.cell? ⟨w'.heap.size, k / 4, none⟩ = some (.int .u64 (icell n (k + 1) (k / 4))) := hrow.cell hq4
        have c1 := hrow.frozen (k / 4)
        have c2 : wr.cell? ⟨g, o + k, none⟩ = some (.int .i64 ((n / 65536 ^ k % 65536 : Nat) : Int)) := (hbl.cell (p := ⟨g, o + k, none⟩) hg).trans hc
        have hd : n / 65536 ^ k % 65536 < 65536 := Nat.mod_lt _ (by decide)
        have hs := icell_step n k
        have hlt := icell_lt n k (k / 4)
        rw [hs] at hlt
        have HS := Lib.hid (ic_set hrow)
        clear hs hrow
        generalize n / 65536 ^ k % 65536 = d at *
        generalize icell n (k + 1) (k / 4) = x at *
        have hqq : (k : Int).tdiv 4 = ((k / 4 : Nat) : Int) := by rw [Int.tdiv_eq_ediv_of_nonneg (by omega)]; omega
        generalize k / 4 = q at *
        have hq4' : (q : Int) < 4 := by omega
        obtain ⟨X, hX⟩ : ∃ X : Int, (x : Int) = X := ⟨_, rfl⟩
        obtain ⟨D, hD⟩ : ∃ D : Int, (d : Int) = D := ⟨_, rfl⟩
        have HSe := Lib.hid (show ((x * 65536 + d : Nat) : Int) = X * 65536 + D by rw [Int.natCast_add, Int.natCast_mul, hX, hD]; rfl)
        have hw1 : IntKind.u64.wrap (X * 65536) = X * 65536 := IntWalk.u64_in _ (by omega)
        have hw2 : IntKind.u64.wrap D = D := IntWalk.u64_in _ (by omega)
        have hw3 : IntKind.u64.wrap (X * 65536 + D) = X * 65536 + D := IntWalk.u64_in _ (by omega)
        rw [HSe.out] at HS
        rw [hX] at c0
        rw [hD] at c2
        clear hX hD hd hlt
        go_wp2_with fail
        go_region
        go_wp2_with fail
        go_roundw
        case rel => exact ⟨k, rfl, by omega, HS.out, (hbl.setCell (Nat.le_refl _) _).drew⟩
        case measure => simp [intOf]
end Go.Proofs.Ytchjjbklkmfelaa
