/- trace.add, (*trace.Exit).counter: what became of an exit. -/
import Derived.Test.YtchjjbklkmfelaaEv
import Derived.Test.YtchjjbklkmfelaaHMul2
namespace Go.Proofs.Ytchjjbklkmfelaa
open Go.RowKit Go.Lib
set_option linter.unusedVariables false
set_option linter.unusedSimpArgs false

/-- A sum, at most all that there can be. -/
def sat (a b : Nat) : Nat := if a + b < 18446744073709551616 ^ 4 then a + b else 18446744073709551616 ^ 4 - 1
theorem sat_lt (a b : Nat) : sat a b < 18446744073709551616 ^ 4 := by
  unfold sat
  split
  · assumption
  · decide
theorem limb_all (k : Nat) (hk : k < 4) : limb (18446744073709551616 ^ 4 - 1) k = 18446744073709551615 := by
  unfold limb
  match k, hk with
  | 0, _ => decide
  | 1, _ => decide
  | 2, _ => decide
  | 3, _ => decide

set_option maxHeartbeats 1000000 in
set_option maxRecDepth 100000 in
theorem tadd_calls (a b : Nat) (w : World) (ha : a < 18446744073709551616 ^ 4) (hb : b < 18446744073709551616 ^ 4) :
    Calls Try.prog 52 #[bigN a, bigN b] w fun e w' => e = .returned (bigN (sat a b)) ∧ Below w.heap.size w w' := by
  have HA := Lib.hid (fun w => hadd_calls a b w ha hb)
  have Q0 : Below w.heap.size w (((w.alloc (row4 (limb a))).alloc (row4 (limb b))).alloc (obj4 0 0 0 0)) := (((Below.refl _ _).alloc (Nat.le_refl _) _).alloc (by simp) _).alloc (by simp; omega) _
  have B0 := Box.zero ((w.alloc (row4 (limb a))).alloc (row4 (limb b)))
  simp only [World.size_alloc] at B0
  have HZ := Lib.hid (show bigN (18446744073709551616 ^ 4 - 1) = big 18446744073709551615 18446744073709551615 18446744073709551615 18446744073709551615 by
    unfold bigN; rw [limb_all 0 (by decide), limb_all 1 (by decide), limb_all 2 (by decide), limb_all 3 (by decide)])
  have hs : sat a b = if a + b < 18446744073709551616 ^ 4 then a + b else 18446744073709551616 ^ 4 - 1 := rfl
  have HS := Lib.hid hs
  have hv : sumV (a + b) = if a + b < 18446744073709551616 ^ 4 then .tuple #[bigN (a + b), .int .i64 0] else .tuple #[bigN 0, .int .i64 2] := rfl
  have HV := Lib.hid hv
  have HN0 := Lib.hid bigN_zero
  clear hs hv
  go_enter Try.func52, Try.ntmps52
  go_wp2_with fail
  refine (HA.out _).mono ?_
  rintro e w' ⟨rfl, hb'⟩
  have B1 := B0.later hb'
  have Q1 := Q0.trans (hb'.mono Q0.size)
  obtain ⟨r0, r1, r2, r3⟩ := B1.cells
  obtain ⟨d0, d1, d2, d3⟩ := B1.free
  have lt1 := B1.lt
  clear B0 Q0 hb' HA B1
  rw [HV.out]
  by_cases h : a + b < 18446744073709551616 ^ 4
  · rw [if_pos h] at HS ⊢
    generalize a + b = n at *
    go_wp2_with fail
    refine bodyPost_ret (v := bigN n) (by simp [results, Try.results52, go_sem, r0, r1, r2, r3, lt1]) rfl ⟨by rw [HS.out], ?_⟩
    exact (below_store Q1 (by omega) _ _ _ _).alloc (by rw [store_size]; exact Q1.size) _
  · rw [if_neg h] at HS ⊢
    rw [HN0.out]
    go_wp2_with fail
    refine bodyPost_ret (v := big 18446744073709551615 18446744073709551615 18446744073709551615 18446744073709551615) (by simp [results, Try.results52, go_sem, r0, r1, r2, r3, lt1]) rfl ⟨by rw [HS.out, HZ.out], ?_⟩
    exact (below_store Q1 (by omega) _ _ _ _).alloc (by rw [store_size]; exact Q1.size) _
/-- What became of an exit. -/
structure Ex where
  idc : List Value
  tok : Int
  burns : Nat
  fills : Nat
  redeems : Nat
  refunds : Nat
  carries : Nat
  paid : Nat
  fee : Nat
def Ex.zero : Ex := ⟨List.replicate 32 (.int .u8 0), 0, 0, 0, 0, 0, 0, 0, 0⟩
/-- Its cells. -/
def Ex.cell (x : Ex) (j : Nat) : Value :=
  if j < 32 then x.idc.getD j (.int .u8 0) else if j = 32 then .int .u8 x.tok else if j = 33 then .int .i64 x.burns else if j = 34 then .int .i64 x.fills else if j = 35 then .int .i64 x.redeems
  else if j = 36 then .int .i64 x.refunds else if j = 37 then .int .i64 x.carries else if j < 42 then .int .u64 (limb x.paid (j - 38)) else .int .u64 (limb x.fee (j - 42))
def ExAt (w : World) (g : Nat) (x : Ex) : Prop := w.rowIs g 35 46 x.cell
set_option maxRecDepth 100000 in
def objEx : Obj := .cells #[.int .u8 0, .int .u8 0, .int .u8 0, .int .u8 0, .int .u8 0, .int .u8 0, .int .u8 0, .int .u8 0, .int .u8 0, .int .u8 0, .int .u8 0, .int .u8 0, .int .u8 0, .int .u8 0, .int .u8 0, .int .u8 0, .int .u8 0, .int .u8 0, .int .u8 0, .int .u8 0, .int .u8 0, .int .u8 0, .int .u8 0, .int .u8 0, .int .u8 0, .int .u8 0, .int .u8 0, .int .u8 0, .int .u8 0, .int .u8 0, .int .u8 0, .int .u8 0, .int .u8 0, .int .i64 0, .int .i64 0, .int .i64 0, .int .i64 0, .int .i64 0, .int .u64 0, .int .u64 0, .int .u64 0, .int .u64 0, .int .u64 0, .int .u64 0, .int .u64 0, .int .u64 0] 35
set_option maxRecDepth 100000 in
theorem ExAt.zero (w : World) : ExAt (w.alloc objEx) w.heap.size Ex.zero :=
  World.rowIs_alloc w _ _ _ (fun i hi => by
    have h : i < 46 := hi
    have e : (#[.int .u8 0, .int .u8 0, .int .u8 0, .int .u8 0, .int .u8 0, .int .u8 0, .int .u8 0, .int .u8 0, .int .u8 0, .int .u8 0, .int .u8 0, .int .u8 0, .int .u8 0, .int .u8 0, .int .u8 0, .int .u8 0, .int .u8 0, .int .u8 0, .int .u8 0, .int .u8 0, .int .u8 0, .int .u8 0, .int .u8 0, .int .u8 0, .int .u8 0, .int .u8 0, .int .u8 0, .int .u8 0, .int .u8 0, .int .u8 0, .int .u8 0, .int .u8 0, .int .u8 0, .int .i64 0, .int .i64 0, .int .i64 0, .int .i64 0, .int .i64 0, .int .u64 0, .int .u64 0, .int .u64 0, .int .u64 0, .int .u64 0, .int .u64 0, .int .u64 0, .int .u64 0] : Array Value) = ((List.range 46).map Ex.zero.cell).toArray := by kernel_rfl
    rw [e, List.getElem?_toArray, List.getElem?_map, List.getElem?_range h]
    rfl)

/-- Which counter an event turns. -/
def ctr (kind : Int) : Option Nat := if kind = 3 then some 33 else if kind = 8 then some 34 else if kind = 13 then some 35 else if kind = 11 then some 36 else if kind = 12 then some 37 else none
set_option maxHeartbeats 1000000 in
set_option maxRecDepth 100000 in
theorem counter_calls (g : Nat) (kind : Int) (w : World) :
    Calls Try.prog 51 #[.pointer (some ⟨g, 0, none⟩), .int .u8 kind] w fun e w' => e = .returned (.pointer ((ctr kind).map fun j => ⟨g, j, none⟩)) ∧ w = w' := by
  have hb : ∀ (a b : Int), a ≠ b → (a == b) = false := fun a b h => beq_eq_false_iff_ne.2 h
  unfold ctr
  by_cases h1 : kind = 3
  · subst h1
    go_enter Try.func51, Try.ntmps51
    go_wp2_with fail
    go_ret
    exact ⟨rfl, rfl⟩
  rw [if_neg h1]
  have b1 := hb _ _ h1
  by_cases h2 : kind = 8
  · subst h2
    go_enter Try.func51, Try.ntmps51
    go_wp2_with fail
    go_ret
    exact ⟨rfl, rfl⟩
  rw [if_neg h2]
  have b2 := hb _ _ h2
  by_cases h3 : kind = 13
  · subst h3
    go_enter Try.func51, Try.ntmps51
    go_wp2_with fail
    go_ret
    exact ⟨rfl, rfl⟩
  rw [if_neg h3]
  have b3 := hb _ _ h3
  by_cases h4 : kind = 11
  · subst h4
    go_enter Try.func51, Try.ntmps51
    go_wp2_with fail
    go_ret
    exact ⟨rfl, rfl⟩
  rw [if_neg h4]
  have b4 := hb _ _ h4
  by_cases h5 : kind = 12
  · subst h5
    go_enter Try.func51, Try.ntmps51
    go_wp2_with fail
    go_ret
    exact ⟨rfl, rfl⟩
  rw [if_neg h5]
  have b5 := hb _ _ h5
  go_enter Try.func51, Try.ntmps51
  go_wp2_with fail
  go_ret
  exact ⟨rfl, rfl⟩
end Go.Proofs.Ytchjjbklkmfelaa
