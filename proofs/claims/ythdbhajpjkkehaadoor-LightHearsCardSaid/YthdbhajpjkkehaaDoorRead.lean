/- huge.Read: a number of its 32 bytes. -/
import Derived.Test.YthdbhajpjkkehaaDoorLaw2
import Derived.Deep.MidRow
namespace Go.Proofs.YthdbhajpjkkehaaDoor
open Go.RowKit Go.Lib
set_option linter.unusedVariables false
set_option linter.unusedSimpArgs false

/-- The i-th byte, the highest first. -/
def byteAt (n i : Nat) : Nat := n / 256 ^ (31 - i) % 256
def byteV (n i : Nat) : Value := .int .u8 (byteAt n i : Int)
def byteL (n : Nat) : List Value := (List.range 32).map (byteV n)
theorem byteAt_lt (n i : Nat) : byteAt n i < 256 := Nat.mod_lt _ (by decide)
theorem byte_limb (n k : Nat) : n / 18446744073709551616 ^ (k / 8) % 18446744073709551616 / 2 ^ (8 * (k % 8)) % 256 = n / 256 ^ k % 256 := by
  have h1 : (18446744073709551616 : Nat) = 2 ^ (8 * (k % 8)) * 2 ^ (64 - 8 * (k % 8)) := by
    rw [← Nat.pow_add, show 8 * (k % 8) + (64 - 8 * (k % 8)) = 64 by omega]
  have h2 : n / 18446744073709551616 ^ (k / 8) % 18446744073709551616 / 2 ^ (8 * (k % 8)) = n / 18446744073709551616 ^ (k / 8) / 2 ^ (8 * (k % 8)) % 2 ^ (64 - 8 * (k % 8)) := by
    generalize n / 18446744073709551616 ^ (k / 8) = m
    rw [h1, Nat.mod_mul_right_div_self]
  rw [h2, Nat.mod_mod_of_dvd _ (by rw [show (256 : Nat) = 2 ^ 8 by decide]; exact Nat.pow_dvd_pow 2 (by omega)), Nat.div_div_eq_div_mul]
  have h3 : (18446744073709551616 : Nat) ^ (k / 8) * 2 ^ (8 * (k % 8)) = 256 ^ k := by
    rw [show (18446744073709551616 : Nat) = 2 ^ 64 by decide, show (256 : Nat) = 2 ^ 8 by decide, ← Nat.pow_mul, ← Nat.pow_mul, ← Nat.pow_add]
    congr 1
    omega
  rw [h3]

def bcellAt (n k j : Nat) : Value := .int .u8 (if j < k then (byteAt n j : Int) else 0)
def obj32 : Obj := .cells #[.int .u8 0, .int .u8 0, .int .u8 0, .int .u8 0, .int .u8 0, .int .u8 0, .int .u8 0, .int .u8 0, .int .u8 0, .int .u8 0, .int .u8 0, .int .u8 0, .int .u8 0, .int .u8 0, .int .u8 0, .int .u8 0, .int .u8 0, .int .u8 0, .int .u8 0, .int .u8 0, .int .u8 0, .int .u8 0, .int .u8 0, .int .u8 0, .int .u8 0, .int .u8 0, .int .u8 0, .int .u8 0, .int .u8 0, .int .u8 0, .int .u8 0, .int .u8 0] 37

theorem zero32 (w : World) : (w.alloc obj32).rowIs w.heap.size 37 32 (fun _ => .int .u8 0) :=
  World.rowIs_alloc w _ _ _ (fun i hi => by
    have h : i < 32 := hi
    have e : (#[.int .u8 0, .int .u8 0, .int .u8 0, .int .u8 0, .int .u8 0, .int .u8 0, .int .u8 0, .int .u8 0, .int .u8 0, .int .u8 0, .int .u8 0, .int .u8 0, .int .u8 0, .int .u8 0, .int .u8 0, .int .u8 0, .int .u8 0, .int .u8 0, .int .u8 0, .int .u8 0, .int .u8 0, .int .u8 0, .int .u8 0, .int .u8 0, .int .u8 0, .int .u8 0, .int .u8 0, .int .u8 0, .int .u8 0, .int .u8 0, .int .u8 0, .int .u8 0] : Array Value) = Array.replicate 32 (.int .u8 0) := rfl
    rw [e, Array.getElem?_replicate, if_pos h])

/-- Block g holds so many bytes. -/
theorem rowIs_range {w : World} {g n : Nat} {t : TypeId} {f : Nat → Value} (h : w.rowIs g t n f) : w.rangeAt g 0 ((List.range n).map f) := fun j v hv => by
  rw [List.getElem?_map] at hv
  rcases Nat.lt_or_ge j n with hj | hj
  · rw [List.getElem?_range hj] at hv
    cases hv
    rw [Nat.zero_add]
    exact h.cell hj
  · rw [List.getElem?_eq_none (by simpa using hj)] at hv
    cases hv
theorem rowIs_there {w : World} {g n : Nat} {t : TypeId} {f : Nat → Value} (h : w.rowIs g t n f) : w.there g 0 n := fun j hj => by
  rw [Nat.zero_add]
  exact ⟨by rw [h.cell hj]; rfl, h.frozen j⟩
theorem below_setCells {B : Nat} {a : World} {g : Nat} (hg : B ≤ g) : ∀ (vs : List Value) (o : Nat) (w : World), Below B a w → Below B a (w.setCells g o vs)
  | [], _, _, h => h
  | v :: vs, o, w, h => by
    rw [World.setCells]
    exact below_setCells hg vs (o + 1) _ (h.setCell hg _)
theorem info32 : (Tryd.prog.info? 37).map (·.size) = some 32 := by kernel_rfl
theorem byteL_length (n : Nat) : (byteL n).length = 32 := by simp [byteL]
theorem byteL_one (n : Nat) : ∀ v ∈ byteL n, v.oneCell' = true := by
  intro v hv
  obtain ⟨i, _, rfl⟩ := List.mem_map.1 hv
  rfl
theorem results_cell_mid {P : Program} {fn : Func} {p : Tmp} {ty : TypeId} (h : fn.results = #[.cell p ty]) (tmps : Array Value) (w : World) (g : Nat) (cs : List Value) (d : TypeDesc)
    (hp : tmps.getD p undef = .pointer (some ⟨g, 0, none⟩)) (hc : w.rangeAt g 0 cs)
    (hu : P.underlying ty = some d) (hd : d.isRow = true) (hi : (P.info? ty).map (·.size) = some cs.length) :
    (results fn tmps).run P w = .ok (.agg cs.toArray) w := by
  have hp' : tmps[p]?.getD undef = .pointer (some ⟨g, 0, none⟩) := by simpa using hp
  simp [results, h, hp', asAddr, run_loadVar_mid w g 0 ty cs d hc hu hd hi]

def bytesW (w : World) (n : Nat) : World := ((w.alloc (row4 (limb n))).alloc obj32).alloc obj32
theorem bytesW_facts (w : World) (n : Nat) : Box (bytesW w n) w.heap.size n ∧ (bytesW w n).rowIs (w.heap.size + 1) 37 32 (fun _ => .int .u8 0) ∧ (bytesW w n).rowIs (w.heap.size + 1 + 1) 37 32 (bcellAt n 0) ∧ Below w.heap.size w (bytesW w n) := by
  have h1 := zero32 (w.alloc (row4 (limb n)))
  have h2 := zero32 ((w.alloc (row4 (limb n))).alloc obj32)
  rw [World.size_alloc] at h1
  rw [World.size_alloc, World.size_alloc] at h2
  exact ⟨((Box.new w n).alloc _).alloc _, h1.alloc _, h2.congr fun j _ => by simp [bcellAt], (((Below.refl _ _).alloc (Nat.le_refl _) _).alloc (by simp) _).alloc (by simp; omega) _⟩

set_option maxHeartbeats 1000000 in
set_option maxRecDepth 100000 in
theorem bytes_calls (n : Nat) (w : World) :
    Calls Tryd.prog 53 #[bigN n] w fun e w' => e = .returned (.agg (byteL n).toArray) ∧ Below w.heap.size w w' := by
  obtain ⟨B0, R0, T0, Q0⟩ := bytesW_facts w n
  have HB := Lib.hid B0
  have HR := Lib.hid R0
  have HT := Lib.hid T0
  have HQ := Lib.hid Q0
  clear B0 R0 T0 Q0
  go_enter Tryd.func53, Tryd.ntmps53
  go_wp2_with fail
  obtain ⟨W, hW⟩ : ∃ W, bytesW w n = W := ⟨_, rfl⟩
  rw [hW] at HB HR HT HQ
  unfold bytesW row4 obj32 at hW
  rw [hW]
  clear hW
  go_loopw [6] (fun i wr => ∃ k : Nat, i = .int .i64 k ∧ k ≤ 32 ∧ Box wr w.heap.size n ∧ Hid (wr.rowIs (w.heap.size + 1) 37 32 (fun _ => .int .u8 0)) ∧ Hid (wr.rowIs (w.heap.size + 1 + 1) 37 32 (bcellAt n k)) ∧ Below w.heap.size w wr) (fun i _ => 32 - (intOf i).toNat)
  case atStart => exact ⟨0, rfl, by omega, HB.out, HR, HT, HQ.out⟩
  case round =>
    obtain ⟨k, rfl, hk, X, HR1, HT1, hb⟩ := hrel
    clear HB HR HT HQ
    by_cases hk1 : k < 32
    · have hk1' : (k : Int) < 32 := by omega
      obtain ⟨m, hm⟩ : ∃ m, 31 - k = m := ⟨_, rfl⟩
      have w1 : IntKind.i64.wrap (31 - (k : Int)) = (m : Int) := by rw [show 31 - (k : Int) = (m : Int) by omega]; exact IntWalk.i64_in _ (by omega)
      have hm1 : m < 32 := by omega
      have hq : (m : Int).tdiv 8 = ((m / 8 : Nat) : Int) := by rw [Int.tdiv_eq_ediv_of_nonneg (by omega)]; omega
      have hr : (m : Int).tmod 8 = ((m % 8 : Nat) : Int) := by rw [Int.tmod_eq_emod_of_nonneg (by omega)]; omega
      have hat := X.at (k := m / 8) (by omega)
      have w2 : IntKind.i64.wrap (8 * ((m % 8 : Nat) : Int)) = 8 * ((m % 8 : Nat) : Int) := IntWalk.i64_in _ (by omega)
      have hc : wr.cell? ⟨w.heap.size + 1 + 1, k, none⟩ = some (bcellAt n k k) := HT1.out.cell hk1
      have hfz := HT1.out.frozen k
      have hlt := HT1.out.lt
      have lx := X.lt
      unfold bcellAt at hc
      rw [if_neg (by omega)] at hc
      have hv : limb n (m / 8) / 2 ^ (8 * (m % 8)) % 256 = (byteAt n k : Int) := by
        unfold byteAt limb
        rw [hm, ← byte_limb]
        exact rfl
      have HS := Lib.hid (show (wr.setCell ⟨w.heap.size + 1 + 1, k, none⟩ (.int .u8 (byteAt n k : Int))).rowIs (w.heap.size + 1 + 1) 37 32 (bcellAt n (k + 1)) from (HT1.out.set k _).congr fun j _ => by
        unfold bcellAt
        by_cases hj : j = k
        · subst hj; simp
        · by_cases hj2 : j < k
          · simp [hj, hj2, show j < k + 1 by omega]
          · simp [hj, hj2, show ¬ j < k + 1 by omega])
      have HV := Lib.hid hv
      clear hv
      have hq4 : m / 8 < 4 := by omega
      have hr8 : m % 8 < 8 := by omega
      generalize byteAt n k = bb at *
      generalize limb n (m / 8) = L at *
      generalize m / 8 = q at *
      generalize m % 8 = r at *
      have hq4' : (q : Int) < 4 := by omega
      have s0 : 0 ≤ 8 * (r : Int) := by omega
      have s1 : 8 * (r : Int) ≤ 64 := by omega
      clear hm
      go_wp2_with fail
      go_roundw
      case rel => exact ⟨k + 1, by simp, by omega, X.other (by show w.heap.size ≠ w.heap.size + 1 + 1; omega) _, Lib.hid (HR1.out.setOther (by show w.heap.size + 1 ≠ w.heap.size + 1 + 1; omega) _), by rw [HV.out]; exact HS, hb.setCell (by simp; omega) _⟩
      case measure => simp [intOf]; omega
    · have hk1' : ¬ (k : Int) < 32 := by omega
      have he : k = 32 := by omega
      subst he
      have hrg : wr.rangeAt (w.heap.size + 1 + 1) 0 (byteL n) := rowIs_range (HT1.out.congr fun j hj => by unfold bcellAt byteV; rw [if_pos hj])
      have hth := rowIs_there HR1.out
      have HRg := Lib.hid hrg
      have HTh := Lib.hid (show wr.there (w.heap.size + 1) 0 (byteL n).toArray.size by simpa [byteL] using hth)
      clear hrg hth
      have HI := Lib.hid (show (Tryd.prog.info? 37).map (·.size) = some (byteL n).length by rw [byteL_length]; exact info32)
      have HI2 := Lib.hid (show (Tryd.prog.info? 37).map (·.size) = some (byteL n).toArray.size by rw [List.size_toArray, byteL_length]; exact info32)
      have HO := Lib.hid (all_oneCell_toArray (byteL_one n))
      have HRr := Lib.hid (World.rangeAt_setCells_same wr (w.heap.size + 1) 0 (byteL n) (by have := HTh.out; simpa using this))
      have lx := X.lt
      go_wp2_with (first
        | refine wpList_load_mid rfl 37 _ rfl (w.heap.size + 1 + 1) 0 rfl (byteL n) (.array 32 5) HRg.out Tryd.underlying37 rfl HI.out ?_
        | refine wpList_store_mid rfl 37 _ _ rfl (w.heap.size + 1) 0 (byteL n).toArray rfl rfl HTh.out HI2.out HO.out ?_)
      exact bodyPost_ret (v := .agg (byteL n).toArray) (results_cell_mid rfl _ _ (w.heap.size + 1) (byteL n) (.array 32 5) rfl HRr.out Tryd.underlying37 rfl HI.out) rfl ⟨rfl, below_setCells (by omega) _ _ _ hb⟩
end Go.Proofs.YthdbhajpjkkehaaDoor

namespace Go.Proofs.YthdbhajpjkkehaaDoor
open Go.RowKit Go.Lib
set_option linter.unusedVariables false
set_option linter.unusedSimpArgs false

/-- A slice of bytes, as it is read. -/
def BRow (w : World) (v : Value) (l : List UInt8) : Prop :=
  ∃ A c, v = .slice A l.length c ∧ l.length ≤ c ∧ c ≤ maxLen ∧
    (l = [] ∨ ∃ g o, A = some ⟨g, o, none⟩ ∧ ∀ i, i < l.length → w.cell? ⟨g, o + i, none⟩ = some (.int .u8 ((l.getD i 0).toNat : Int)))

theorem BRow.below {w w' : World} {v : Value} {l : List UInt8} (h : BRow w v l) (hb : Below w.heap.size w w') : BRow w' v l := by
  obtain ⟨A, c, rfl, h1, h2, h3⟩ := h
  refine ⟨A, c, rfl, h1, h2, ?_⟩
  rcases h3 with h3 | ⟨g, o, rfl, hc⟩
  · exact .inl h3
  · exact .inr ⟨g, o, rfl, fun i hi => (hb.cell (p := ⟨g, o + i, none⟩) (World.block_lt_of_cell? w _ (hc i hi))).trans (hc i hi)⟩
theorem BRow.at {w : World} {A : Option Addr} {n c : Nat} {l : List UInt8} (h : BRow w (.slice A n c) l) (k : Nat) (hk : k < n) :
    ∃ g o, A = some ⟨g, o, none⟩ ∧ g < w.heap.size ∧ w.cell? ⟨g, o + k, none⟩ = some (.int .u8 ((l.getD k 0).toNat : Int)) := by
  obtain ⟨A', c', e, h1, h2, h3⟩ := h
  cases e
  rcases h3 with h3 | ⟨g, o, rfl, hc⟩
  · subst h3; simp at hk
  · exact ⟨g, o, rfl, World.block_lt_of_cell? w _ (hc k hk), hc k hk⟩

/-- The number of bytes, the highest first. -/
def readN (l : List UInt8) : Nat := l.foldl (fun n c => n * 256 + c.toNat) 0
theorem readN_snoc (l : List UInt8) (c : UInt8) : readN (l ++ [c]) = readN l * 256 + c.toNat := by simp [readN]
theorem readN_take (l : List UInt8) (k : Nat) (h : k < l.length) : readN (l.take (k + 1)) = readN (l.take k) * 256 + (l.getD k 0).toNat := by
  rw [List.take_succ_eq_append_getElem h, readN_snoc]
  simp [List.getD_eq_getElem?_getD, h]
theorem readN_lt (l : List UInt8) : readN l < 256 ^ l.length := by
  suffices ∀ k, readN (l.take k) < 256 ^ k by
    have h := this l.length
    rwa [List.take_length] at h
  intro k
  induction k with
  | zero => simp [readN]
  | succ k ih =>
    by_cases hk : k < l.length
    · rw [readN_take l k hk, Nat.pow_succ]
      have := (l.getD k 0).toNat_lt
      omega
    · rw [List.take_of_length_le (by omega)]
      rw [List.take_of_length_le (by omega)] at ih
      rw [Nat.pow_succ]
      omega

/-- One byte more. -/
theorem limb_byte (R x q r j : Nat) (hx : x < 256) (hr : r < 8) (hj : j < 4) :
    limb ((R * 256 + x) * 256 ^ (8 * q + r)) j = if j = q then limb (R * 256 ^ (8 * q + r + 1)) q + ((x * 256 ^ r : Nat) : Int) else limb (R * 256 ^ (8 * q + r + 1)) j := by
  unfold limb
  have e1 : (R * 256 + x) * 256 ^ (8 * q + r) = (R * 256 ^ (r + 1) + x * 256 ^ r) * 18446744073709551616 ^ q := by
    rw [show (18446744073709551616 : Nat) = 256 ^ 8 by decide, ← Nat.pow_mul, Nat.pow_add, Nat.add_mul, Nat.add_mul, Nat.pow_succ, Nat.mul_assoc R, Nat.mul_comm (256 ^ (8 * q)), Nat.mul_assoc R, Nat.mul_assoc x, Nat.mul_comm 256 (256 ^ r * 256 ^ (8 * q)), Nat.mul_assoc (256 ^ r) 256, Nat.mul_comm 256 (256 ^ (8 * q)), ← Nat.mul_assoc (256 ^ r)]
  have e2 : R * 256 ^ (8 * q + r + 1) = R * 256 ^ (r + 1) * 18446744073709551616 ^ q := by
    rw [show (18446744073709551616 : Nat) = 256 ^ 8 by decide, ← Nat.pow_mul, Nat.mul_assoc, ← Nat.pow_add, show r + 1 + 8 * q = 8 * q + r + 1 by omega]
  rw [e1, e2]
  have hp : 0 < 18446744073709551616 ^ q := Nat.pow_pos (by decide)
  have hx2 : x * 256 ^ r < 256 ^ (r + 1) := by
    rw [Nat.pow_succ, Nat.mul_comm]
    exact Nat.mul_lt_mul_of_pos_left hx (Nat.pow_pos (by decide))
  have hs : (18446744073709551616 : Nat) = 256 ^ (r + 1) * 256 ^ (7 - r) := by rw [← Nat.pow_add, show r + 1 + (7 - r) = 8 by omega]
  rcases Nat.lt_trichotomy j q with h | h | h
  · rw [if_neg (by omega)]
    obtain ⟨d, rfl⟩ : ∃ d, q = j + 1 + d := ⟨q - (j + 1), by omega⟩
    have e : ∀ m : Nat, m * 18446744073709551616 ^ (j + 1 + d) / 18446744073709551616 ^ j % 18446744073709551616 = 0 := fun m => by
      rw [Nat.pow_add, Nat.pow_succ, Nat.mul_assoc (18446744073709551616 ^ j), Nat.mul_left_comm, Nat.mul_div_cancel_left _ (Nat.pow_pos (by decide)), Nat.mul_left_comm, Nat.mul_mod_right]
    rw [e, e]
  · subst h
    rw [if_pos rfl, Nat.mul_div_cancel _ hp, Nat.mul_div_cancel _ hp]
    have e3 : R * 256 ^ (r + 1) % 18446744073709551616 = R % 256 ^ (7 - r) * 256 ^ (r + 1) := by
      rw [hs, Nat.mul_comm (256 ^ (r + 1)), Nat.mul_mod_mul_right]
    have e4 : (R * 256 ^ (r + 1) + x * 256 ^ r) % 18446744073709551616 = R % 256 ^ (7 - r) * 256 ^ (r + 1) + x * 256 ^ r := by
      rw [← Nat.mod_add_mod, e3, Nat.mod_eq_of_lt]
      have h1 := Nat.mod_lt R (show 0 < 256 ^ (7 - r) from Nat.pow_pos (by decide))
      have h2 : (R % 256 ^ (7 - r) + 1) * 256 ^ (r + 1) ≤ 256 ^ (7 - r) * 256 ^ (r + 1) := Nat.mul_le_mul_right _ h1
      rw [Nat.mul_comm (256 ^ (7 - r)), ← hs, Nat.add_mul, Nat.one_mul] at h2
      omega
    rw [e3, e4, Int.natCast_add]
  · rw [if_neg (by omega)]
    obtain ⟨d, rfl⟩ : ∃ d, j = q + 1 + d := ⟨j - (q + 1), by omega⟩
    have e : ∀ y, y < 256 ^ (r + 1) → (R * 256 ^ (r + 1) + y) * 18446744073709551616 ^ q / 18446744073709551616 ^ (q + 1 + d) = R / 256 ^ (7 - r) / 18446744073709551616 ^ d := fun y hy => by
      rw [show q + 1 + d = q + (1 + d) by omega, Nat.pow_add 18446744073709551616 q, ← Nat.div_div_eq_div_mul, Nat.mul_div_cancel _ hp, Nat.pow_add 18446744073709551616 1, ← Nat.div_div_eq_div_mul, Nat.pow_one, hs, ← Nat.div_div_eq_div_mul, Nat.mul_comm R, Nat.mul_add_div (Nat.pow_pos (by decide)), Nat.div_eq_of_lt hy, Nat.add_zero]
    have e0 := e 0 (Nat.pow_pos (by decide))
    rw [Nat.add_zero] at e0
    rw [e _ hx2, e0]

theorem limb_or (R x q r : Nat) (hx : x < 256) (hr : r < 8) : bits .or .u64 (limb (R * 256 ^ (8 * q + r + 1)) q) ((x * 256 ^ r : Nat) : Int) = limb (R * 256 ^ (8 * q + r + 1)) q + ((x * 256 ^ r : Nat) : Int) := by
  have h8 : 256 ^ (r + 1) * 256 ^ (7 - r) = 18446744073709551616 := by rw [← Nat.pow_add, show r + 1 + (7 - r) = 8 by omega]
  have hx2 : x * 256 ^ r < 256 ^ (r + 1) := by
    rw [Nat.pow_succ, Nat.mul_comm]
    exact Nat.mul_lt_mul_of_pos_left hx (Nat.pow_pos (by decide))
  have hle : 256 ^ (r + 1) ≤ 18446744073709551616 := by
    rw [← h8]
    exact Nat.le_mul_of_pos_right _ (Nat.pow_pos (by decide))
  have e : R * 256 ^ (8 * q + r + 1) / 18446744073709551616 ^ q % 18446744073709551616 = R % 256 ^ (7 - r) * 256 ^ (r + 1) := by
    have e2 : R * 256 ^ (8 * q + r + 1) = R * 256 ^ (r + 1) * 18446744073709551616 ^ q := by
      rw [show (18446744073709551616 : Nat) = 256 ^ 8 by decide, ← Nat.pow_mul, Nat.mul_assoc, ← Nat.pow_add, show r + 1 + 8 * q = 8 * q + r + 1 by omega]
    rw [e2, Nat.mul_div_cancel _ (Nat.pow_pos (by decide)), ← h8, Nat.mul_comm (256 ^ (r + 1)), Nat.mul_mod_mul_right]
  have hl : R * 256 ^ (8 * q + r + 1) / 18446744073709551616 ^ q % 18446744073709551616 < 18446744073709551616 := Nat.mod_lt _ (by decide)
  unfold limb
  rw [u64_or_nat _ _ hl (Nat.lt_of_lt_of_le hx2 hle), ← Int.natCast_add, nat_join (8 * (r + 1)) _ _ (by rw [e, Nat.pow_mul, show (2 : Nat) ^ 8 = 256 by decide, Nat.mul_mod_left]) (by rw [Nat.pow_mul, show (2 : Nat) ^ 8 = 256 by decide]; exact hx2)]

theorem box_byte {w : World} {g R x q r : Nat} (h : Box w g (R * 256 ^ (8 * q + r + 1))) (hx : x < 256) (hr : r < 8) : Box (w.setCell ⟨g, q, none⟩ (.int .u64 (limb (R * 256 ^ (8 * q + r + 1)) q + ((x * 256 ^ r : Nat) : Int)))) g ((R * 256 + x) * 256 ^ (8 * q + r)) :=
  (World.rowIs.set h q _).congr fun j hj => by
    unfold lim
    rw [limb_byte R x q r j hx hr hj]
    by_cases hq : j = q
    · subst hq; simp
    · simp [hq]

theorem shl_byte (x r : Nat) (hx : x < 256) (hr : r < 8) : IntKind.u64.wrap ((x : Int) * 2 ^ (8 * r)) = ((x * 256 ^ r : Nat) : Int) := by
  have e : (x : Int) * 2 ^ (8 * r) = ((x * 256 ^ r : Nat) : Int) := by
    rw [Int.natCast_mul, Int.natCast_pow, show ((256 : Nat) : Int) = 2 ^ 8 by decide, ← Int.pow_mul]
  rw [e]
  have h8 : 256 ^ (r + 1) * 256 ^ (7 - r) = 18446744073709551616 := by rw [← Nat.pow_add, show r + 1 + (7 - r) = 8 by omega]
  have hx2 : x * 256 ^ r < 256 ^ (r + 1) := by
    rw [Nat.pow_succ, Nat.mul_comm]
    exact Nat.mul_lt_mul_of_pos_left hx (Nat.pow_pos (by decide))
  have hle : 256 ^ (r + 1) ≤ 18446744073709551616 := by
    rw [← h8]
    exact Nat.le_mul_of_pos_right _ (Nat.pow_pos (by decide))
  exact IntWalk.u64_in _ ⟨Int.natCast_nonneg _, by
    have : x * 256 ^ r < 18446744073709551616 := Nat.lt_of_lt_of_le hx2 hle
    omega⟩

end Go.Proofs.YthdbhajpjkkehaaDoor
