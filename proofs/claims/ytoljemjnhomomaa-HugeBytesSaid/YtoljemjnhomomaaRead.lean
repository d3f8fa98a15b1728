/- huge.Read: a number of its 32 bytes. -/
import Derived.Test.YtoljemjnhomomaaBytes
import Derived.Test.YtoljemjnhomomaaBits
namespace Go.Proofs.Ytoljemjnhomomaa
open Go.RowKit Go.Lib
set_option linter.unusedVariables false
set_option linter.unusedSimpArgs false

/-- A slice of bytes, as it is read. -/
def BRow (w : World) (v : Value) (l : List UInt8) : Prop :=
  ∃ A c, v = .slice A l.length c ∧ l.length ≤ c ∧ c ≤ maxLen ∧
    (l = [] ∨ ∃ g o, A = some ⟨g, o, none⟩ ∧ ∀ i, i < l.length → w.cell? ⟨g, o + i, none⟩ = some (.int .u8 ((l.getD i 0).toNat : Int)))

theorem BRow.below {w w' : World} {v : Value} {l : List UInt8} (h : BRow w v l) (hb : Below w.heap.size w w') : BRow w' v l := by
  obtain ⟨A, c, rfl, h1, h2, h3⟩ := h
  refine ⟨A, c, rfl, h1, h2, ?_⟩
  rcases h3 with h3 | ⟨g, o, rfl, hc⟩
  · exact .inl h3
  · exact .inr ⟨g, o, rfl, fun i hi => (hb.cell (p := ⟨g, o + i, none⟩) (World.block_lt_of_cell? w _ (hc i hi))).trans (hc i hi)⟩
theorem BRow.at {w : World} {A : Option Addr} {n c : Nat} {l : List UInt8} (h : BRow w (.slice A n c) l) (k : Nat) (hk : k < n) :
    ∃ g o, A = some ⟨g, o, none⟩ ∧ g < w.heap.size ∧ w.cell? ⟨g, o + k, none⟩ = some (.int .u8 ((l.getD k 0).toNat : Int)) := by
  obtain ⟨A', c', e, h1, h2, h3⟩ := h
  cases e
  rcases h3 with h3 | ⟨g, o, rfl, hc⟩
  · subst h3; simp at hk
  · exact ⟨g, o, rfl, World.block_lt_of_cell? w _ (hc k hk), hc k hk⟩

/-- The number of bytes, the highest first. -/
def readN (l : List UInt8) : Nat := l.foldl (fun n c => n * 256 + c.toNat) 0
theorem readN_snoc (l : List UInt8) (c : UInt8) : readN (l ++ [c]) = readN l * 256 + c.toNat := by simp [readN]
theorem readN_take (l : List UInt8) (k : Nat) (h : k < l.length) : readN (l.take (k + 1)) = readN (l.take k) * 256 + (l.getD k 0).toNat := by
  rw [List.take_succ_eq_append_getElem h, readN_snoc]
  simp [List.getD_eq_getElem?_getD, h]
theorem readN_lt (l : List UInt8) : readN l < 256 ^ l.length := by
  suffices ∀ k, readN (l.take k) < 256 ^ k by
    have h := this l.length
    rwa [List.take_length] at h
  intro k
  induction k with
  | zero => simp [readN]
  | succ k ih =>
    by_cases hk : k < l.length
    · rw [readN_take l k hk, Nat.pow_succ]
      have := (l.getD k 0).toNat_lt
      omega
    · rw [List.take_of_length_le (by omega)]
      rw [List.take_of_length_le (by omega)] at ih
      rw [Nat.pow_succ]
      omega

/-- One byte more. -/
theorem limb_byte (R x q r j : Nat) (hx : x < 256) (hr : r < 8) (hj : j < 4) :
    limb ((R * 256 + x) * 256 ^ (8 * q + r)) j = if j = q then limb (R * 256 ^ (8 * q + r + 1)) q + ((x * 256 ^ r : Nat) : Int) else limb (R * 256 ^ (8 * q + r + 1)) j := by
  unfold limb
  have e1 : (R * 256 + x) * 256 ^ (8 * q + r) = (R * 256 ^ (r + 1) + x * 256 ^ r) * 18446744073709551616 ^ q := by
    rw [show (18446744073709551616 : Nat) = 256 ^ 8 by decide, ← Nat.pow_mul, Nat.pow_add, Nat.add_mul, Nat.add_mul, Nat.pow_succ, Nat.mul_assoc R, Nat.mul_comm (256 ^ (8 * q)), Nat.mul_assoc R, Nat.mul_assoc x, Nat.mul_comm 256 (256 ^ r * 256 ^ (8 * q)), Nat.mul_assoc (256 ^ r) 256, Nat.mul_comm 256 (256 ^ (8 * q)), ← Nat.mul_assoc (256 ^ r)]
  have e2 : R * 256 ^ (8 * q + r + 1) = R * 256 ^ (r + 1) * 18446744073709551616 ^ q := by
    rw [show (18446744073709551616 : Nat) = 256 ^ 8 by decide, ← Nat.pow_mul, Nat.mul_assoc, ← Nat.pow_add, show r + 1 + 8 * q = 8 * q + r + 1 by omega]
  rw [e1, e2]
  have hp : 0 < 18446744073709551616 ^ q := Nat.pow_pos (by decide)
  have hx2 : x * 256 ^ r < 256 ^ (r + 1) := by
    rw [Nat.pow_succ, Nat.mul_comm]
    exact Nat.mul_lt_mul_of_pos_left hx (Nat.pow_pos (by decide))
  have hs : (18446744073709551616 : Nat) = 256 ^ (r + 1) * 256 ^ (7 - r) := by rw [← Nat.pow_add, show r + 1 + (7 - r) = 8 by omega]
  rcases Nat.lt_trichotomy j q with h | h | h
  · rw [if_neg (by omega)]
    obtain ⟨d, rfl⟩ : ∃ d, q = j + 1 + d := ⟨q - (j + 1), by omega⟩
    have e : ∀ m : Nat, m * 18446744073709551616 ^ (j + 1 + d) / 18446744073709551616 ^ j % 18446744073709551616 = 0 := fun m => by
      rw [Nat.pow_add, Nat.pow_succ, Nat.mul_assoc (18446744073709551616 ^ j), Nat.mul_left_comm, Nat.mul_div_cancel_left _ (Nat.pow_pos (by decide)), Nat.mul_left_comm, Nat.mul_mod_right]
    rw [e, e]
  · subst h
    rw [if_pos rfl, Nat.mul_div_cancel _ hp, Nat.mul_div_cancel _ hp]
    have e3 : R * 256 ^ (r + 1) % 18446744073709551616 = R % 256 ^ (7 - r) * 256 ^ (r + 1) := by
      rw [hs, Nat.mul_comm (256 ^ (r + 1)), Nat.mul_mod_mul_right]
    have e4 : (R * 256 ^ (r + 1) + x * 256 ^ r) % 18446744073709551616 = R % 256 ^ (7 - r) * 256 ^ (r + 1) + x * 256 ^ r := by
      rw [← Nat.mod_add_mod, e3, Nat.mod_eq_of_lt]
      have h1 := Nat.mod_lt R (show 0 < 256 ^ (7 - r) from Nat.pow_pos (by decide))
      have h2 : (R % 256 ^ (7 - r) + 1) * 256 ^ (r + 1) ≤ 256 ^ (7 - r) * 256 ^ (r + 1) := Nat.mul_le_mul_right _ h1
      rw [Nat.mul_comm (256 ^ (7 - r)), ← hs, Nat.add_mul, Nat.one_mul] at h2
      omega
    rw [e3, e4, Int.natCast_add]
  · rw [if_neg (by omega)]
    obtain ⟨d, rfl⟩ : ∃ d, j = q + 1 + d := ⟨j - (q + 1), by omega⟩
    have e : ∀ y, y < 256 ^ (r + 1) → (R * 256 ^ (r + 1) + y) * 18446744073709551616 ^ q / 18446744073709551616 ^ (q + 1 + d) = R / 256 ^ (7 - r) / 18446744073709551616 ^ d := fun y hy => by
      rw [show q + 1 + d = q + (1 + d) by omega, Nat.pow_add 18446744073709551616 q, ← Nat.div_div_eq_div_mul, Nat.mul_div_cancel _ hp, Nat.pow_add 18446744073709551616 1, ← Nat.div_div_eq_div_mul, Nat.pow_one, hs, ← Nat.div_div_eq_div_mul, Nat.mul_comm R, Nat.mul_add_div (Nat.pow_pos (by decide)), Nat.div_eq_of_lt hy, Nat.add_zero]
    have e0 := e 0 (Nat.pow_pos (by decide))
    rw [Nat.add_zero] at e0
    rw [e _ hx2, e0]

theorem limb_or (R x q r : Nat) (hx : x < 256) (hr : r < 8) : bits .or .u64 (limb (R * 256 ^ (8 * q + r + 1)) q) ((x * 256 ^ r : Nat) : Int) = limb (R * 256 ^ (8 * q + r + 1)) q + ((x * 256 ^ r : Nat) : Int) := by
  have h8 : 256 ^ (r + 1) * 256 ^ (7 - r) = 18446744073709551616 := by rw [← Nat.pow_add, show r + 1 + (7 - r) = 8 by omega]
  have hx2 : x * 256 ^ r < 256 ^ (r + 1) := by
    rw [Nat.pow_succ, Nat.mul_comm]
    exact Nat.mul_lt_mul_of_pos_left hx (Nat.pow_pos (by decide))
  have hle : 256 ^ (r + 1) ≤ 18446744073709551616 := by
    rw [← h8]
    exact Nat.le_mul_of_pos_right _ (Nat.pow_pos (by decide))
  have e : R * 256 ^ (8 * q + r + 1) / 18446744073709551616 ^ q % 18446744073709551616 = R % 256 ^ (7 - r) * 256 ^ (r + 1) := by
    have e2 : R * 256 ^ (8 * q + r + 1) = R * 256 ^ (r + 1) * 18446744073709551616 ^ q := by
      rw [show (18446744073709551616 : Nat) = 256 ^ 8 by decide, ← Nat.pow_mul, Nat.mul_assoc, ← Nat.pow_add, show r + 1 + 8 * q = 8 * q + r + 1 by omega]
    rw [e2, Nat.mul_div_cancel _ (Nat.pow_pos (by decide)), ← h8, Nat.mul_comm (256 ^ (r + 1)), Nat.mul_mod_mul_right]
  have hl : R * 256 ^ (8 * q + r + 1) / 18446744073709551616 ^ q % 18446744073709551616 < 18446744073709551616 := Nat.mod_lt _ (by decide)
  unfold limb
  rw [u64_or_nat _ _ hl (Nat.lt_of_lt_of_le hx2 hle), ← Int.natCast_add, nat_join (8 * (r + 1)) _ _ (by rw [e, Nat.pow_mul, show (2 : Nat) ^ 8 = 256 by decide, Nat.mul_mod_left]) (by rw [Nat.pow_mul, show (2 : Nat) ^ 8 = 256 by decide]; exact hx2)]

theorem box_byte {w : World} {g R x q r : Nat} (h : Box w g (R * 256 ^ (8 * q + r + 1))) (hx : x < 256) (hr : r < 8) : Box (w.setCell ⟨g, q, none⟩ (.int .u64 (limb (R * 256 ^ (8 * q + r + 1)) q + ((x * 256 ^ r : Nat) : Int)))) g ((R * 256 + x) * 256 ^ (8 * q + r)) :=
  (World.rowIs.set h q _).congr fun j hj => by
    unfold lim
    rw [limb_byte R x q r j hx hr hj]
    by_cases hq : j = q
    · subst hq; simp
    · simp [hq]

theorem shl_byte (x r : Nat) (hx : x < 256) (hr : r < 8) : IntKind.u64.wrap ((x : Int) * 2 ^ (8 * r)) = ((x * 256 ^ r : Nat) : Int) := by
  have e : (x : Int) * 2 ^ (8 * r) = ((x * 256 ^ r : Nat) : Int) := by
    rw [Int.natCast_mul, Int.natCast_pow, show ((256 : Nat) : Int) = 2 ^ 8 by decide, ← Int.pow_mul]
  rw [e]
  have h8 : 256 ^ (r + 1) * 256 ^ (7 - r) = 18446744073709551616 := by rw [← Nat.pow_add, show r + 1 + (7 - r) = 8 by omega]
  have hx2 : x * 256 ^ r < 256 ^ (r + 1) := by
    rw [Nat.pow_succ, Nat.mul_comm]
    exact Nat.mul_lt_mul_of_pos_left hx (Nat.pow_pos (by decide))
  have hle : 256 ^ (r + 1) ≤ 18446744073709551616 := by
    rw [← h8]
    exact Nat.le_mul_of_pos_right _ (Nat.pow_pos (by decide))
  exact IntWalk.u64_in _ ⟨Int.natCast_nonneg _, by
    have : x * 256 ^ r < 18446744073709551616 := Nat.lt_of_lt_of_le hx2 hle
    omega⟩

set_option maxHeartbeats 1000000 in
set_option maxRecDepth 100000 in
theorem read_short (v : Value) (l : List UInt8) (w : World) (h : BRow w v l) (hl : l.length < 32) :
    Calls Try.prog 38 #[v] w fun e w' => e = .returned (.tuple #[bigN 0, .int .i64 4]) ∧ Below w.heap.size w w' := by
  obtain ⟨A, c, rfl, a1, a2, -⟩ := h
  unfold maxLen at a2
  have Q0 := Lib.hid (show Below w.heap.size w (w.alloc (obj4 0 0 0 0)) from (Below.refl _ _).alloc (Nat.le_refl _) _)
  have HZ := Lib.hid bigN_zero
  have hl' : (l.length : Int) < 32 := by omega
  generalize l.length = n at *
  go_enter Try.func38, Try.ntmps38
  go_wp2_with fail
  exact bodyPost_ret (v := .tuple #[big 0 0 0 0, .int .i64 4]) (by simp [results, Try.results38, go_sem]) rfl ⟨by rw [HZ.out], Q0.out⟩

set_option maxHeartbeats 1000000 in
set_option maxRecDepth 100000 in
theorem read_long (v : Value) (l : List UInt8) (w : World) (h : BRow w v l) (hl : 32 < l.length) :
    Calls Try.prog 38 #[v] w fun e w' => e = .returned (.tuple #[bigN 0, .int .i64 5]) ∧ Below w.heap.size w w' := by
  obtain ⟨A, c, rfl, a1, a2, -⟩ := h
  unfold maxLen at a2
  have Q0 := Lib.hid (show Below w.heap.size w (w.alloc (obj4 0 0 0 0)) from (Below.refl _ _).alloc (Nat.le_refl _) _)
  have HZ := Lib.hid bigN_zero
  have hl' : (32 : Int) < (l.length : Int) := by omega
  generalize l.length = n at *
  go_enter Try.func38, Try.ntmps38
  go_wp2_with fail
  exact bodyPost_ret (v := .tuple #[big 0 0 0 0, .int .i64 5]) (by simp [results, Try.results38, go_sem]) rfl ⟨by rw [HZ.out], Q0.out⟩

set_option maxHeartbeats 1000000 in
set_option maxRecDepth 100000 in
theorem read_fit (v : Value) (l : List UInt8) (w : World) (h : BRow w v l) (hl : l.length = 32) :
    Calls Try.prog 38 #[v] w fun e w' => e = .returned (.tuple #[bigN (readN l), .int .i64 0]) ∧ Below w.heap.size w w' := by
  obtain ⟨A, c, rfl, a1, a2, -⟩ := id h
  unfold maxLen at a2
  have HR := Lib.hid h
  rw [hl] at HR a1 ⊢
  have HL := Lib.hid hl
  clear hl h
  have B0 : Box ((w.alloc (obj4 0 0 0 0)).alloc (obj4 0 0 0 0)) w.heap.size 0 := (Box.zero w).alloc _
  have T0 := Box.zero (w.alloc (obj4 0 0 0 0))
  rw [World.size_alloc] at T0
  have Q0 : Below w.heap.size w ((w.alloc (obj4 0 0 0 0)).alloc (obj4 0 0 0 0)) := ((Below.refl _ _).alloc (Nat.le_refl _) _).alloc (by simp) _
  go_enter Try.func38, Try.ntmps38
  go_wp2_with fail
  obtain ⟨W, hW⟩ : ∃ W, (w.alloc (obj4 0 0 0 0)).alloc (obj4 0 0 0 0) = W := ⟨_, rfl⟩
  dsimp only [obj4] at hW
  rw [hW]
  dsimp only [obj4] at B0 T0 Q0
  rw [hW] at B0 T0 Q0
  clear hW
  go_loopw [20] (fun i wr => ∃ k : Nat, i = .int .i64 k ∧ k ≤ 32 ∧ Box wr w.heap.size 0 ∧ Hid (Box wr (w.heap.size + 1) (readN (l.take k) * 256 ^ (32 - k))) ∧ Below w.heap.size w wr) (fun i _ => 32 - (intOf i).toNat)
  case atStart => exact ⟨0, rfl, by omega, B0, Lib.hid (by simpa [readN] using T0), Q0⟩
  case round =>
    obtain ⟨k, rfl, hk, X, HY, hb⟩ := hrel
    clear B0 T0 Q0
    by_cases hk1 : k < 32
    · have hk1' : (k : Int) < 32 := by omega
      obtain ⟨g, o, rfl, hg, hc0⟩ := HR.out.at k hk1
      have hc := (hb.cell (p := ⟨g, o + k, none⟩) hg).trans hc0
      have HT := Lib.hid (readN_take l k (by rw [HL.out]; exact hk1))
      obtain ⟨m, hm⟩ : ∃ m, 31 - k = m := ⟨_, rfl⟩
      have w1 : IntKind.i64.wrap (31 - (k : Int)) = (m : Int) := by rw [show 31 - (k : Int) = (m : Int) by omega]; exact IntWalk.i64_in _ (by omega)
      have hq : (m : Int).tdiv 8 = ((m / 8 : Nat) : Int) := by rw [Int.tdiv_eq_ediv_of_nonneg (by omega)]; omega
      have hr : (m : Int).tmod 8 = ((m % 8 : Nat) : Int) := by rw [Int.tmod_eq_emod_of_nonneg (by omega)]; omega
      have w2 : IntKind.i64.wrap (8 * ((m % 8 : Nat) : Int)) = 8 * ((m % 8 : Nat) : Int) := IntWalk.i64_in _ (by omega)
      have hq4 : m / 8 < 4 := by omega
      have hr8 : m % 8 < 8 := by omega
      have hx := (l.getD k 0).toNat_lt
      generalize (l.getD k 0).toNat = x at *
      generalize readN (l.take k) = R at *
      have e1 : 32 - k = 8 * (m / 8) + m % 8 + 1 := by omega
      rw [e1] at HY
      have HE := Lib.hid (show 32 - (k + 1) = 8 * (m / 8) + m % 8 by omega)
      clear hc0 e1
      generalize m / 8 = q at *
      generalize m % 8 = r at *
      have hq4' : (q : Int) < 4 := by omega
      have s0 : 0 ≤ 8 * (r : Int) := by omega
      have s1 : 8 * (r : Int) ≤ 64 := by omega
      have hat := HY.out.at hq4
      have hfz := HY.out.freeAt q
      have hlt := HY.out.lt
      have HOr := limb_or R x q r hx hr8
      have HS := Lib.hid (box_byte HY.out hx hr8)
      have hxx := shl_byte x r hx hr8
      generalize limb (R * 256 ^ (8 * q + r + 1)) q = L at *
      generalize x * 256 ^ r = X2 at *
      clear hm
      go_wp2_with fail
      go_region
      go_wp2_with fail
      go_roundw
      case rel => exact ⟨k + 1, by simp, by omega, (X.other (by show w.heap.size ≠ w.heap.size + 1; omega) _).drew, by rw [HT.out, HE.out]; exact HS, (hb.setCell (by simp) _).drew⟩
      case measure => simp [intOf]; omega
    · have hk1' : ¬ (k : Int) < 32 := by omega
      have he : k = 32 := by omega
      subst he
      have e1 : readN (l.take 32) * 256 ^ (32 - 32) = readN l := by rw [List.take_of_length_le (by rw [HL.out]; exact Nat.le_refl _)]; simp
      rw [e1] at HY
      obtain ⟨c0, c1, c2, c3⟩ := HY.out.cells
      obtain ⟨r0, r1, r2, r3⟩ := X.cells
      obtain ⟨d0, d1, d2, d3⟩ := X.free
      have lt0 := X.lt
      have HG := Lib.hid (show readN l = readN l from rfl)
      generalize hs : readN l = s at *
      have HSm := Lib.hid hs
      clear hs e1 HG
      go_wp2_with fail
      exact bodyPost_ret (v := .tuple #[bigN s, .int .i64 0]) (by simp [results, Try.results38, go_sem, c0, c1, c2, c3, r0, r1, r2, r3, lt0]) rfl ⟨by rw [HSm.out], below_store hb (by omega) _ _ _ _⟩
end Go.Proofs.Ytoljemjnhomomaa
