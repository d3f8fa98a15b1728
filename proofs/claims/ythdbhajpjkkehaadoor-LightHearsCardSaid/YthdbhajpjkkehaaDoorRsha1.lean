/- The document's sums: numbers down, exclusive or. -/
import Derived.Test.YthdbhajpjkkehaaDoorRpack2
import Derived.Test.YthdbhajpjkkehaaDoorLen
import Derived.Test.YthdbhajpjkkehaaDoorBy3
namespace Go.Proofs.YthdbhajpjkkehaaDoor
open Go.RowKit Go.Lib Sha
set_option linter.unusedVariables false
set_option linter.unusedSimpArgs false

theorem rnum4 (m : Nat) (hm : m < 18446744073709551616) (w : World) :
    Calls Tryd.prog 48 #[.int .u64 (m : Int), .int .i64 4] w fun e w' => e = .returned (sV (beBytes m 4)) ∧ Below w.heap.size w w' :=
  rnum_calls m 4 hm (by omega) w
theorem rnum1 (m : Nat) (hm : m < 18446744073709551616) (w : World) :
    Calls Tryd.prog 48 #[.int .u64 (m : Int), .int .i64 1] w fun e w' => e = .returned (sV (beBytes m 1)) ∧ Below w.heap.size w w' :=
  rnum_calls m 1 hm (by omega) w
set_option maxHeartbeats 2000000 in
set_option maxRecDepth 100000 in
theorem rtext_calls (idx tok own n : Nat) (w : World) (hi : idx < 4294967296) (ht : tok < 256) (ho : own < 256) :
    Calls Tryd.prog 33 #[inV idx tok own n] w fun e w' => e = .returned (sV (inB idx tok own n)) ∧ Below w.heap.size w w' := by
  have Q0 : Below w.heap.size w (w.alloc (objIn idx tok own n)) := (Below.refl _ _).alloc (Nat.le_refl _) _
  have hI0 := inAt_new w idx tok own n
  obtain ⟨S3, hS3⟩ : ∃ S : ByteArray, S = ⟨(beBytes idx 4).toArray⟩ := ⟨_, rfl⟩
  obtain ⟨S2, hS2⟩ : ∃ S : ByteArray, S = ⟨(beBytes tok 1).toArray⟩ := ⟨_, rfl⟩
  obtain ⟨S1, hS1⟩ : ∃ S : ByteArray, S = ⟨(beBytes own 1).toArray⟩ := ⟨_, rfl⟩
  obtain ⟨S0, hS0⟩ : ∃ S : ByteArray, S = ⟨(beBytes n 32).toArray⟩ := ⟨_, rfl⟩
  have HS : Hid (S3 ++ S2 ++ S1 ++ S0 = ⟨(inB idx tok own n).toArray⟩) := Lib.hid (by rw [hS3, hS2, hS1, hS0, str_append, str_append, str_append]; rfl)
  have N3 := Lib.hid (fun w => rnum4 idx (by omega) w)
  have N2 := Lib.hid (fun w => rnum1 tok (by omega) w)
  have N1 := Lib.hid (fun w => rnum1 own (by omega) w)
  have N0 := Lib.hid (fun w => rint_calls n w)
  unfold sV at N3 N2 N1 N0
  rw [← hS3] at N3
  rw [← hS2] at N2
  rw [← hS1] at N1
  rw [← hS0] at N0
  have z3 : S3.size = 4 := by rw [hS3, str_size, beBytes_length]
  have z2 : S2.size = 1 := by rw [hS2, str_size, beBytes_length]
  have z1 : S1.size = 1 := by rw [hS1, str_size, beBytes_length]
  have z0 : S0.size = 32 := by rw [hS0, str_size, beBytes_length]
  clear hS3 hS2 hS1 hS0
  have hc3 : IntKind.u64.wrap (idx : Int) = (idx : Int) := by simp [IntKind.wrap, IntKind.bits, IntKind.signed]; omega
  have hc2 : IntKind.u64.wrap (tok : Int) = (tok : Int) := by simp [IntKind.wrap, IntKind.bits, IntKind.signed]; omega
  have hc1 : IntKind.u64.wrap (own : Int) = (own : Int) := by simp [IntKind.wrap, IntKind.bits, IntKind.signed]; omega
  clear hi ht ho
  go_enter Tryd.func33, Tryd.ntmps33
  go_wp2_with fail
  obtain ⟨W0, hW0⟩ : ∃ W0, w.alloc (objIn idx tok own n) = W0 := ⟨_, rfl⟩
  rw [hW0] at hI0 Q0
  unfold objIn at hW0
  rw [hW0]
  clear hW0
  have hlt : w.heap.size < W0.heap.size := World.block_lt_of_cell? W0 _ hI0.1
  have hI1 : InAt W0.drew w.heap.size idx tok own n := hI0
  have HQ := Lib.hid Q0
  clear Q0 hI0
  go_region_held3 (fun w' => w'.cell? ⟨w.heap.size, 0, none⟩ = some (.int .u32 (idx : Int)) ∧ w'.cell? ⟨w.heap.size, 1, none⟩ = some (.int .u8 (tok : Int)) ∧ w'.cell? ⟨w.heap.size, 2, none⟩ = some (.int .u8 (own : Int)) ∧ w'.cell? ⟨w.heap.size, 3, none⟩ = some (.int .u64 (limb n 0)) ∧ w'.cell? ⟨w.heap.size, 4, none⟩ = some (.int .u64 (limb n 1)) ∧ w'.cell? ⟨w.heap.size, 5, none⟩ = some (.int .u64 (limb n 2)) ∧ w'.cell? ⟨w.heap.size, 6, none⟩ = some (.int .u64 (limb n 3)))
    (first | with_reducible exact hI1 | with_reducible exact hI2 | with_reducible exact hI3 | with_reducible exact hI4 | with_reducible exact hI5)
    (first
      | (go_at_call 48
         with_reducible refine (N3.out _).mono ?_
         rintro e w1 ⟨rfl, hb1⟩
         have hI2 : InAt w1 w.heap.size idx tok own n := hI1.below hb1 hlt
         have hlt1 : w.heap.size < w1.heap.size := Nat.lt_of_lt_of_le hlt hb1.size
         have HB1 := Lib.hid hb1
         clear hb1)
      | (go_at_call 48
         with_reducible refine (N2.out _).mono ?_
         rintro e w2 ⟨rfl, hb1⟩
         have hI3 : InAt w2 w.heap.size idx tok own n := hI2.below hb1 hlt1
         have hlt2 : w.heap.size < w2.heap.size := Nat.lt_of_lt_of_le hlt1 hb1.size
         have HB2 := Lib.hid hb1
         clear hb1)
      | (go_at_call 48
         with_reducible refine (N1.out _).mono ?_
         rintro e w3 ⟨rfl, hb1⟩
         have hI4 : InAt w3 w.heap.size idx tok own n := hI3.below hb1 hlt2
         have hlt3 : w.heap.size < w3.heap.size := Nat.lt_of_lt_of_le hlt2 hb1.size
         have HB3 := Lib.hid hb1
         clear hb1)
      | (go_at_call 49
         with_reducible refine (N0.out _).mono ?_
         rintro e w4 ⟨rfl, hb1⟩
         have hI5 : InAt w4 w.heap.size idx tok own n := hI4.below hb1 hlt3
         have hlt4 : w.heap.size < w4.heap.size := Nat.lt_of_lt_of_le hlt3 hb1.size
         have HB4 := Lib.hid hb1
         clear hb1))
  go_wp2_with fail
  rw [HS.out]
  go_ret
  refine ⟨rfl, ?_⟩
  have p0 : w.heap.size ≤ W0.drew.heap.size := HQ.out.size
  have p1 : w.heap.size ≤ w1.heap.size := Nat.le_trans p0 HB1.out.size
  have p2 : w.heap.size ≤ w2.heap.size := Nat.le_trans p1 HB2.out.size
  have p3 : w.heap.size ≤ w3.heap.size := Nat.le_trans p2 HB3.out.size
  have q0 : Below w.heap.size w W0.drew := HQ.out.trans (⟨rfl, rfl, rfl, Nat.le_refl _, fun _ _ => rfl⟩ : Below w.heap.size W0 W0.drew)
  exact (((q0.trans (HB1.out.mono p0)).trans (HB2.out.mono p1)).trans (HB3.out.mono p2)).trans (HB4.out.mono p3)
end Go.Proofs.YthdbhajpjkkehaaDoor

namespace Go.Proofs.YthdbhajpjkkehaaDoor
open Go.RowKit Go.Lib Sha
set_option linter.unusedVariables false
set_option linter.unusedSimpArgs false

/-- Strings, one behind the other in memory. -/
def StrsAt (w : World) (v : Value) (ps : List (List UInt8)) : Prop :=
  ∃ A c, v = .slice A ps.length c ∧ (ps = [] ∨ ∃ gp o, A = some ⟨gp, o, none⟩ ∧ ∀ i, i < ps.length → w.cell? ⟨gp, o + i, none⟩ = some (sV (ps.getD i [])))
theorem StrsAt.below {w w' : World} {v : Value} {ps : List (List UInt8)} (h : StrsAt w v ps) (hb : Below w.heap.size w w') : StrsAt w' v ps := by
  obtain ⟨A, c, rfl, h⟩ := h
  refine ⟨A, c, rfl, ?_⟩
  rcases h with h | ⟨gp, o, rfl, h⟩
  · exact .inl h
  · exact .inr ⟨gp, o, rfl, fun i hi => (hb.cell (p := ⟨gp, o + i, none⟩) (World.block_lt_of_cell? w _ (h i hi))).trans (h i hi)⟩
set_option maxHeartbeats 1000000 in
set_option maxRecDepth 100000 in
theorem rdtext_calls (tag : Nat) (v : Value) (ps : List (List UInt8)) (w : World) (h : StrsAt w v ps) (ht : tag < 256) (hps : ps.length ≤ 1000) (hl : (domText tag ps).length ≤ 900000) :
    Calls Tryd.prog 47 #[.int .u8 (tag : Int), v] w fun e w' => e = .returned (sV (domText tag ps)) ∧ Below w.heap.size w w' := by
  obtain ⟨A, c, rfl, hp⟩ := id h
  have HP := Lib.hid h
  have HL := Lib.hid hl
  have N1 := Lib.hid (rnum1 tag (by omega) w)
  have hc1 : IntKind.u64.wrap (tag : Int) = (tag : Int) := by simp [IntKind.wrap, IntKind.bits, IntKind.signed]; omega
  clear h hl hp ht
  go_enter Tryd.func47, Tryd.ntmps47
  go_wp2_with fail
  refine N1.out.mono ?_
  rintro e w1 ⟨rfl, Q1⟩
  have hs0 : sV (beBytes tag 1) = .string ⟨(domPre tag ps 0).toArray⟩ := by simp [domPre]
  rw [hs0]
  clear hs0
  go_wp2_with fail
  go_loopw [5, 13] (fun s t wr => ∃ k : Nat, t = .int .i64 (k : Int) ∧ k ≤ ps.length ∧ s = .string ⟨(domPre tag ps k).toArray⟩ ∧ Below w.heap.size w wr) (fun _ t _ => ps.length - (intOf t).toNat)
  case atStart => exact ⟨0, rfl, by omega, rfl, Q1⟩
  case round =>
    obtain ⟨k, rfl, hk, rfl, hb⟩ := hrel
    clear Q1
    have hkk : (k : Int) ≤ 1000 := by omega
    by_cases hk1 : k < ps.length
    · have hk1' : (k : Int) < (ps.length : Int) := by omega
      obtain ⟨A', c', e, hp⟩ := HP.out
      cases e
      rcases hp with hp | ⟨gp, o, rfl, hp⟩
      · rw [hp] at hk1; simp at hk1
      · have q0 := hp k hk1
        have q1 := (hb.cell (p := ⟨gp, o + k, none⟩) (World.block_lt_of_cell? w _ q0)).trans q0
        clear q0 hp
        have hn := domPre_next tag ps k hk1
        have hle1 := domPre_le tag ps k hk
        have hle2 := domPre_le tag ps (k + 1) hk1
        rw [hn] at hle2
        obtain ⟨pl, hpl⟩ : ∃ pl, ps.getD k [] = pl := ⟨_, rfl⟩
        rw [hpl] at hn hle2 q1
        have hlen : (domPre tag ps k).length + (4 + pl.length) ≤ 900000 := by
          have := HL.out
          simp only [List.length_append, beBytes_length] at hle2
          omega
        obtain ⟨S, hS⟩ : ∃ S : ByteArray, S = ⟨(domPre tag ps k).toArray⟩ := ⟨_, rfl⟩
        obtain ⟨T, hT⟩ : ∃ T : ByteArray, T = ⟨(beBytes pl.length 4).toArray⟩ := ⟨_, rfl⟩
        obtain ⟨R, hR⟩ : ∃ R : ByteArray, R = ⟨pl.toArray⟩ := ⟨_, rfl⟩
        have HS : Hid (S ++ T ++ R = ⟨(domPre tag ps (k + 1)).toArray⟩) := Lib.hid (by rw [hS, hT, hR, str_append, str_append, hn])
        have hRl : R.size = pl.length := by rw [hR, str_size]
        have zS : S.size ≤ 900000 := by rw [hS, str_size]; omega
        have zT : T.size = 4 := by rw [hT, str_size, beBytes_length]
        have zR : R.size ≤ 900000 := by omega
        have N4 := Lib.hid (rnum4 pl.length (by omega) wr)
        unfold sV at N4 q1
        rw [← hR] at q1
        rw [← hT] at N4
        rw [← hRl] at N4
        rw [← hS]
        have hcv : IntKind.u64.wrap (R.size : Int) = (R.size : Int) := by simp [IntKind.wrap, IntKind.bits, IntKind.signed]; omega
        have HB := Lib.hid hb
        clear hb hn hle1 hle2 hpl hlen hS hT hR hRl
        go_wp2_with fail
        refine N4.out.mono ?_
        rintro e w2 ⟨rfl, u2⟩
        have HB2 := Lib.hid (HB.out.trans (u2.mono HB.out.size))
        clear u2 hcv
        go_wp2_with fail
        go_roundw
        case rel => exact ⟨k + 1, by go_num, by omega, congrArg Value.string HS.out, HB2.out⟩
        case measure => simp [intOf]; omega
    · obtain rfl : k = ps.length := by omega
      go_wp2_with fail
      go_ret
      exact ⟨rfl, hb⟩
end Go.Proofs.YthdbhajpjkkehaaDoor

namespace Go.Proofs.YthdbhajpjkkehaaDoor
open Go.RowKit Go.Lib Sha
set_option linter.unusedVariables false
set_option linter.unusedSimpArgs false

def dn (x : Wd) (n : Nat) (turn : Bool) : Wd := if turn then x.rotateRight n else x >>> n
theorem dn_zero (x : Wd) (t : Bool) : dn x 0 t = x := by
  cases t
  · simp [dn]
  · unfold dn
    rw [if_pos rfl]
    apply BitVec.eq_of_toNat_eq
    rw [BitVec.toNat_rotateRight]
    have := x.isLt
    simp [Nat.shiftLeft_eq]
theorem dn_next (x : Wd) (n : Nat) (hn : n < 31) (t : Bool) : (dn x (n + 1) t).toNat = (dn x n t).toNat / 2 + (if t = true ∧ (dn x n t).toNat % 2 = 1 then 2147483648 else 0) := by
  cases t
  · simp [dn, Nat.shiftRight_succ]
  · unfold dn
    simp only [if_true, true_and]
    rw [← ror_succ x n hn, ror_one]
set_option maxHeartbeats 1000000 in
theorem down_calls (x : Wd) (n : Nat) (turn : Bool) (hn : n ≤ 31) (w : World) :
    Calls Tryd.prog 56 #[wV x, .int .i64 (n : Int), .bool turn] w (IsW w (dn x n turn)) := by
  go_enter Tryd.func56, Tryd.ntmps56
  go_wp2_with fail
  go_loop [0, 9] (fun s t => ∃ k : Nat, t = .int .i64 (k : Int) ∧ k ≤ n ∧ s = wV (dn x k turn)) (fun _ t => n - (intOf t).toNat)
  case atStart => exact ⟨0, rfl, by omega, by rw [dn_zero]⟩
  case round =>
    obtain ⟨k, rfl, hk, rfl⟩ := hrel
    by_cases hk1 : k < n
    · have hk1' : (k : Int) < (n : Int) := by omega
      have hnx := dn_next x k (by omega) turn
      have hlt := (dn x k turn).isLt
      obtain ⟨y, hy⟩ : ∃ y, (dn x k turn).toNat = y := ⟨_, rfl⟩
      rw [hy] at hnx hlt
      unfold wV
      rw [hy]
      have HN := Lib.hid hnx
      have hyI : (y : Int) < 4294967296 := by omega
      clear hnx hy
      by_cases hb : y % 2 = 1
      · have hbi : (y : Int) % 2 = 1 := by omega
        have hbt : (y : Int).tmod 2 = 1 := by rw [Int.tmod_eq_emod_of_nonneg (by omega)]; exact hbi
        have HB := Lib.hid hb
        clear hb
        cases turn
        all_goals
          go_wp2_with fail
          go_round
          case rel => exact ⟨k + 1, by go_num, by omega, congrArg (Value.int IntKind.u32) (by rw [HN.out]; have := HB.out; simp [this]; try omega)⟩
          case measure => simp [intOf]; omega
      · have hbi : (y : Int) % 2 = 0 := by omega
        have hbt : (y : Int).tmod 2 = 0 := by rw [Int.tmod_eq_emod_of_nonneg (by omega)]; exact hbi
        have HB := Lib.hid hb
        clear hb
        cases turn
        all_goals
          go_wp2_with fail
          go_round
          case rel => exact ⟨k + 1, by go_num, by omega, congrArg (Value.int IntKind.u32) (by rw [HN.out]; have := HB.out; simp [this]; try omega)⟩
          case measure => simp [intOf]; omega
    · obtain rfl : k = n := by omega
      go_wp2_with fail
      go_ret
      exact ⟨rfl, rfl⟩
set_option maxHeartbeats 400000 in
theorem both_calls (a b c : Wd) (w : World) : Calls Tryd.prog 55 #[wV a, wV b, wV c] w (IsW w (a ^^^ b ^^^ c)) := by
  go_enter Tryd.func55, Tryd.ntmps55
  go_wp2_with fail
  go_ret
  refine ⟨ret_one ?_, rfl⟩
  show bits .xor .u32 (bits .xor .u32 (a.toNat : Int) (b.toNat : Int)) (c.toNat : Int) = _
  rw [xor_w, xor_w]
end Go.Proofs.YthdbhajpjkkehaaDoor
