/- huge.Bytes, huge.Read: a number's 32 bytes. -/
import Derived.Test.YtoljemjnhomomaaLaw2
import Derived.Deep.MidRow
namespace Go.Proofs.Ytoljemjnhomomaa
open Go.RowKit Go.Lib
set_option linter.unusedVariables false
set_option linter.unusedSimpArgs false

/-- The i-th byte, the highest first. -/
def byteAt (n i : Nat) : Nat := n / 256 ^ (31 - i) % 256
def byteV (n i : Nat) : Value := .int .u8 (byteAt n i : Int)
def byteL (n : Nat) : List Value := (List.range 32).map (byteV n)
theorem byteAt_lt (n i : Nat) : byteAt n i < 256 := Nat.mod_lt _ (by decide)
theorem byte_limb (n k : Nat) : n / 18446744073709551616 ^ (k / 8) % 18446744073709551616 / 2 ^ (8 * (k % 8)) % 256 = n / 256 ^ k % 256 := by
  have h1 : (18446744073709551616 : Nat) = 2 ^ (8 * (k % 8)) * 2 ^ (64 - 8 * (k % 8)) := by
    rw [← Nat.pow_add, show 8 * (k % 8) + (64 - 8 * (k % 8)) = 64 by omega]
  have h2 : n / 18446744073709551616 ^ (k / 8) % 18446744073709551616 / 2 ^ (8 * (k % 8)) = n / 18446744073709551616 ^ (k / 8) / 2 ^ (8 * (k % 8)) % 2 ^ (64 - 8 * (k % 8)) := by
    generalize n / 18446744073709551616 ^ (k / 8) = m
    rw [h1, Nat.mod_mul_right_div_self]
  rw [h2, Nat.mod_mod_of_dvd _ (by rw [show (256 : Nat) = 2 ^ 8 by decide]; exact Nat.pow_dvd_pow 2 (by omega)), Nat.div_div_eq_div_mul]
  have h3 : (18446744073709551616 : Nat) ^ (k / 8) * 2 ^ (8 * (k % 8)) = 256 ^ k := by
    rw [show (18446744073709551616 : Nat) = 2 ^ 64 by decide, show (256 : Nat) = 2 ^ 8 by decide, ← Nat.pow_mul, ← Nat.pow_mul, ← Nat.pow_add]
    congr 1
    omega
  rw [h3]

def bcellAt (n k j : Nat) : Value := .int .u8 (if j < k then (byteAt n j : Int) else 0)
def obj32 : Obj := .cells #[.int .u8 0, .int .u8 0, .int .u8 0, .int .u8 0, .int .u8 0, .int .u8 0, .int .u8 0, .int .u8 0, .int .u8 0, .int .u8 0, .int .u8 0, .int .u8 0, .int .u8 0, .int .u8 0, .int .u8 0, .int .u8 0, .int .u8 0, .int .u8 0, .int .u8 0, .int .u8 0, .int .u8 0, .int .u8 0, .int .u8 0, .int .u8 0, .int .u8 0, .int .u8 0, .int .u8 0, .int .u8 0, .int .u8 0, .int .u8 0, .int .u8 0, .int .u8 0] 58

theorem zero32 (w : World) : (w.alloc obj32).rowIs w.heap.size 58 32 (fun _ => .int .u8 0) :=
  World.rowIs_alloc w _ _ _ (fun i hi => by
    have h : i < 32 := hi
    have e : (#[.int .u8 0, .int .u8 0, .int .u8 0, .int .u8 0, .int .u8 0, .int .u8 0, .int .u8 0, .int .u8 0, .int .u8 0, .int .u8 0, .int .u8 0, .int .u8 0, .int .u8 0, .int .u8 0, .int .u8 0, .int .u8 0, .int .u8 0, .int .u8 0, .int .u8 0, .int .u8 0, .int .u8 0, .int .u8 0, .int .u8 0, .int .u8 0, .int .u8 0, .int .u8 0, .int .u8 0, .int .u8 0, .int .u8 0, .int .u8 0, .int .u8 0, .int .u8 0] : Array Value) = Array.replicate 32 (.int .u8 0) := rfl
    rw [e, Array.getElem?_replicate, if_pos h])

/-- Block g holds so many bytes. -/
theorem rowIs_range {w : World} {g n : Nat} {t : TypeId} {f : Nat → Value} (h : w.rowIs g t n f) : w.rangeAt g 0 ((List.range n).map f) := fun j v hv => by
  rw [List.getElem?_map] at hv
  rcases Nat.lt_or_ge j n with hj | hj
  · rw [List.getElem?_range hj] at hv
    cases hv
    rw [Nat.zero_add]
    exact h.cell hj
  · rw [List.getElem?_eq_none (by simpa using hj)] at hv
    cases hv
theorem rowIs_there {w : World} {g n : Nat} {t : TypeId} {f : Nat → Value} (h : w.rowIs g t n f) : w.there g 0 n := fun j hj => by
  rw [Nat.zero_add]
  exact ⟨by rw [h.cell hj]; rfl, h.frozen j⟩
theorem below_setCells {B : Nat} {a : World} {g : Nat} (hg : B ≤ g) : ∀ (vs : List Value) (o : Nat) (w : World), Below B a w → Below B a (w.setCells g o vs)
  | [], _, _, h => h
  | v :: vs, o, w, h => by
    rw [World.setCells]
    exact below_setCells hg vs (o + 1) _ (h.setCell hg _)
theorem info32 : (Try.prog.info? 58).map (·.size) = some 32 := by kernel_rfl
theorem byteL_length (n : Nat) : (byteL n).length = 32 := by simp [byteL]
theorem byteL_one (n : Nat) : ∀ v ∈ byteL n, v.oneCell' = true := by
  intro v hv
  obtain ⟨i, _, rfl⟩ := List.mem_map.1 hv
  rfl
theorem results_cell_mid {P : Program} {fn : Func} {p : Tmp} {ty : TypeId} (h : fn.results = #[.cell p ty]) (tmps : Array Value) (w : World) (g : Nat) (cs : List Value) (d : TypeDesc)
    (hp : tmps.getD p undef = .pointer (some ⟨g, 0, none⟩)) (hc : w.rangeAt g 0 cs)
    (hu : P.underlying ty = some d) (hd : d.isRow = true) (hi : (P.info? ty).map (·.size) = some cs.length) :
    (results fn tmps).run P w = .ok (.agg cs.toArray) w := by
  have hp' : tmps[p]?.getD undef = .pointer (some ⟨g, 0, none⟩) := by simpa using hp
  simp [results, h, hp', asAddr, run_loadVar_mid w g 0 ty cs d hc hu hd hi]

def bytesW (w : World) (n : Nat) : World := ((w.alloc (row4 (limb n))).alloc obj32).alloc obj32
theorem bytesW_facts (w : World) (n : Nat) : Box (bytesW w n) w.heap.size n ∧ (bytesW w n).rowIs (w.heap.size + 1) 58 32 (fun _ => .int .u8 0) ∧ (bytesW w n).rowIs (w.heap.size + 1 + 1) 58 32 (bcellAt n 0) ∧ Below w.heap.size w (bytesW w n) := by
  have h1 := zero32 (w.alloc (row4 (limb n)))
  have h2 := zero32 ((w.alloc (row4 (limb n))).alloc obj32)
  rw [World.size_alloc] at h1
  rw [World.size_alloc, World.size_alloc] at h2
  exact ⟨((Box.new w n).alloc _).alloc _, h1.alloc _, h2.congr fun j _ => by simp [bcellAt], (((Below.refl _ _).alloc (Nat.le_refl _) _).alloc (by simp) _).alloc (by simp; omega) _⟩

set_option maxHeartbeats 1000000 in
set_option maxRecDepth 100000 in
theorem bytes_calls (n : Nat) (w : World) :
    Calls Try.prog 37 #[bigN n] w fun e w' => e = .returned (.agg (byteL n).toArray) ∧ Below w.heap.size w w' := by
  obtain ⟨B0, R0, T0, Q0⟩ := bytesW_facts w n
  have HB := Lib.hid B0
  have HR := Lib.hid R0
  have HT := Lib.hid T0
  have HQ := Lib.hid Q0
  clear B0 R0 T0 Q0
  go_enter Try.func37, Try.ntmps37
  go_wp2_with fail
  obtain ⟨W, hW⟩ : ∃ W, bytesW w n = W := ⟨_, rfl⟩
  rw [hW] at HB HR HT HQ
  unfold bytesW row4 obj32 at hW
  rw [hW]
  clear hW
  go_loopw [6] (fun i wr => ∃ k : Nat, i = .int .i64 k ∧ k ≤ 32 ∧ Box wr w.heap.size n ∧ Hid (wr.rowIs (w.heap.size + 1) 58 32 (fun _ => .int .u8 0)) ∧ Hid (wr.rowIs (w.heap.size + 1 + 1) 58 32 (bcellAt n k)) ∧ Below w.heap.size w wr) (fun i _ => 32 - (intOf i).toNat)
  case atStart => exact ⟨0, rfl, by omega, HB.out, HR, HT, HQ.out⟩
  case round =>
    obtain ⟨k, rfl, hk, X, HR1, HT1, hb⟩ := hrel
    clear HB HR HT HQ
    by_cases hk1 : k < 32
    · have hk1' : (k : Int) < 32 := by omega
      obtain ⟨m, hm⟩ : ∃ m, 31 - k = m := ⟨_, rfl⟩
      have w1 : IntKind.i64.wrap (31 - (k : Int)) = (m : Int) := by rw [show 31 - (k : Int) = (m : Int) by omega]; exact IntWalk.i64_in _ (by omega)
      have hm1 : m < 32 := by omega
      have hq : (m : Int).tdiv 8 = ((m / 8 : Nat) : Int) := by rw [Int.tdiv_eq_ediv_of_nonneg (by omega)]; omega
      have hr : (m : Int).tmod 8 = ((m % 8 : Nat) : Int) := by rw [Int.tmod_eq_emod_of_nonneg (by omega)]; omega
      have hat := X.at (k := m / 8) (by omega)
      have w2 : IntKind.i64.wrap (8 * ((m % 8 : Nat) : Int)) = 8 * ((m % 8 : Nat) : Int) := IntWalk.i64_in _ (by omega)
      have hc : wr.cell? ⟨w.heap.size + 1 + 1, k, none⟩ = some (bcellAt n k k) := HT1.out.cell hk1
      have hfz := HT1.out.frozen k
      have hlt := HT1.out.lt
      have lx := X.lt
      unfold bcellAt at hc
      rw [if_neg (by omega)] at hc
      have hv : limb n (m / 8) / 2 ^ (8 * (m % 8)) % 256 = (byteAt n k : Int) := by
        unfold byteAt limb
        rw [hm, ← byte_limb]
        exact rfl
      have HS := Lib.hid (show (wr.setCell ⟨w.heap.size + 1 + 1, k, none⟩ (.int .u8 (byteAt n k : Int))).rowIs (w.heap.size + 1 + 1) 58 32 (bcellAt n (k + 1)) from (HT1.out.set k _).congr fun j _ => by
        unfold bcellAt
        by_cases hj : j = k
        · subst hj; simp
        · by_cases hj2 : j < k
          · simp [hj, hj2, show j < k + 1 by omega]
          · simp [hj, hj2, show ¬ j < k + 1 by omega])
      have HV := Lib.hid hv
      clear hv
      have hq4 : m / 8 < 4 := by omega
      have hr8 : m % 8 < 8 := by omega
      generalize byteAt n k = bb at *
      generalize limb n (m / 8) = L at *
      generalize m / 8 = q at *
      generalize m % 8 = r at *
      have hq4' : (q : Int) < 4 := by omega
      have s0 : 0 ≤ 8 * (r : Int) := by omega
      have s1 : 8 * (r : Int) ≤ 64 := by omega
      clear hm
      go_wp2_with fail
      go_roundw
      case rel => exact ⟨k + 1, by simp, by omega, X.other (by show w.heap.size ≠ w.heap.size + 1 + 1; omega) _, Lib.hid (HR1.out.setOther (by show w.heap.size + 1 ≠ w.heap.size + 1 + 1; omega) _), by rw [HV.out]; exact HS, hb.setCell (by simp; omega) _⟩
      case measure => simp [intOf]; omega
    · have hk1' : ¬ (k : Int) < 32 := by omega
      have he : k = 32 := by omega
      subst he
      have hrg : wr.rangeAt (w.heap.size + 1 + 1) 0 (byteL n) := rowIs_range (HT1.out.congr fun j hj => by unfold bcellAt byteV; rw [if_pos hj])
      have hth := rowIs_there HR1.out
      have HRg := Lib.hid hrg
      have HTh := Lib.hid (show wr.there (w.heap.size + 1) 0 (byteL n).toArray.size by simpa [byteL] using hth)
      clear hrg hth
      have HI := Lib.hid (show (Try.prog.info? 58).map (·.size) = some (byteL n).length by rw [byteL_length]; exact info32)
      have HI2 := Lib.hid (show (Try.prog.info? 58).map (·.size) = some (byteL n).toArray.size by rw [List.size_toArray, byteL_length]; exact info32)
      have HO := Lib.hid (all_oneCell_toArray (byteL_one n))
      have HRr := Lib.hid (World.rangeAt_setCells_same wr (w.heap.size + 1) 0 (byteL n) (by have := HTh.out; simpa using this))
      have lx := X.lt
      go_wp2_with (first
        | refine wpList_load_mid rfl 58 _ rfl (w.heap.size + 1 + 1) 0 rfl (byteL n) (.array 32 5) HRg.out Try.underlying58 rfl HI.out ?_
        | refine wpList_store_mid rfl 58 _ _ rfl (w.heap.size + 1) 0 (byteL n).toArray rfl rfl HTh.out HI2.out HO.out ?_)
      exact bodyPost_ret (v := .agg (byteL n).toArray) (results_cell_mid rfl _ _ (w.heap.size + 1) (byteL n) (.array 32 5) rfl HRr.out Try.underlying58 rfl HI.out) rfl ⟨rfl, below_setCells (by omega) _ _ _ hb⟩
end Go.Proofs.Ytoljemjnhomomaa
