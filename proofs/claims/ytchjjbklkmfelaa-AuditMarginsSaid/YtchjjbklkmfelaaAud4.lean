/- audit.Picture's Check. -/
import Derived.Test.YtchjjbklkmfelaaAud3
namespace Go.Proofs.Ytchjjbklkmfelaa
open Go.RowKit Go.Lib Go.Deep
set_option linter.unusedVariables false
set_option linter.unusedSimpArgs false

abbrev finK : Kinds := [some .u8, some .u8]
def finRec (i : Nat) : List Value := [.int .u8 ((i / 4 : Nat) : Int), .int .u8 ((i % 4 : Nat) : Int)]
/-- What is found, of the first n pairs of a kind and a token. -/
def finds (cs : List Value) (n : Nat) : List (List Value) := ((List.range n).filter fun i => badP cs (i / 4) (i % 4)).map finRec
theorem finds_snoc (cs : List Value) (n : Nat) : finds cs (n + 1) = finds cs n ++ if badP cs (n / 4) (n % 4) then [finRec n] else [] := by
  unfold finds
  rw [List.range_succ, List.filter_append, List.map_append]
  cases h : badP cs (n / 4) (n % 4) <;> simp [List.filter_cons, h]
theorem finds_len (cs : List Value) (n : Nat) : (finds cs n).length ≤ n := by
  unfold finds
  rw [List.length_map]
  exact Nat.le_trans (List.length_filter_le _ _) (by simp)
theorem finRec_typed {i : Nat} (h : i < 20) : Typed finK (finRec i) := by
  refine ⟨_, _, rfl, ⟨_, rfl, ?_⟩, _, _, rfl, ⟨_, rfl, ?_⟩, rfl⟩ <;> simp [Lit.wf, IntKind.min, IntKind.max, IntKind.signed, IntKind.bits] <;> omega
theorem infoFin : (Try.prog.info? 81).map (fun i => (i.zero, i.size, i.bytes)) = some (some (.agg #[.int .u8 0, .int .u8 0]), 2, 2) := by kernel_rfl
theorem pic_info {cs : List Value} (h : Typed picK cs) : (Try.prog.info? 46).map (·.size) = some cs.length := by
  rw [h.length]
  kernel_rfl

set_option maxHeartbeats 4000000 in
set_option maxRecDepth 100000 in
theorem check_calls (cs : List Value) (w : World) (hcs : Typed picK cs) :
    Calls Try.prog 17 #[.agg cs.toArray] w fun e w' => ∃ v, e = .returned v ∧ Recs finK w' v (finds cs 20) ∧ Below w.heap.size w w' := by
  have A0 := At.new w cs.toArray 46
  have hq0 : Below w.heap.size w (w.alloc (.cells cs.toArray 46)) := (Below.refl _ _).alloc (Nat.le_refl _) _
  have hs0 : w.heap.size < (w.alloc (.cells cs.toArray 46)).heap.size := by simp
  have HC := Lib.hid hcs
  have HI := Lib.hid (pic_info hcs)
  have HW := Lib.hid (fun k t w hk ht => wrong_calls cs k t w hcs hk ht)
  clear hcs
  go_enter Try.func17, Try.ntmps17
  go_wp2_with fail
  obtain ⟨W, hW⟩ : ∃ W, w.alloc (.cells cs.toArray 46) = W := ⟨_, rfl⟩
  rw [hW] at A0 hq0 hs0
  rw [hW]
  clear hW
  go_loopw [3, 4] (fun v i wr => ∃ k : Nat, i = .int .u8 (k : Int) ∧ k ≤ 5 ∧ Hid (OwnR 81 finK wr (w.heap.size + 1) v (finds cs (4 * k))) ∧ Hid (At wr w.heap.size 0 cs) ∧ w.heap.size < wr.heap.size ∧ Below w.heap.size w wr) (fun _ i _ => 5 - (intOf i).toNat)
  case atStart => exact ⟨0, rfl, by omega, Lib.hid (OwnR.nil _ _ _ _), Lib.hid A0, hs0, hq0⟩
  case round =>
    obtain ⟨k, rfl, hk, HO, HA, hsz, hb⟩ := hrel
    clear A0 hq0 hs0
    by_cases hk4 : k ≤ 4
    · have hk4' : (k : Int) ≤ 4 := by omega
      go_wp2_with fail
      obtain ⟨wo, rfl⟩ : ∃ wo : World, wo = wr := ⟨_, rfl⟩
      go_loopw [3, 5, 10] (fun v v5 i wx => ∃ t : Nat, i = .int .u8 (t : Int) ∧ t ≤ 4 ∧ Hid (OwnR 81 finK wx (w.heap.size + 1) v (finds cs (4 * k + t))) ∧ Hid (At wx w.heap.size 0 cs) ∧ w.heap.size < wx.heap.size ∧ Below w.heap.size w wx) (fun _ _ i _ => 4 - (intOf i).toNat)
      case atStart => exact ⟨0, rfl, by omega, HO, HA, hsz, hb⟩
      case round =>
        obtain ⟨t, rfl, ht, HO1, HA1, hsz1, hb1⟩ := hrel
        clear HO HA hsz hb
        by_cases ht4 : t < 4
        · have ht4' : (t : Int) < 4 := by omega
          have HS := Lib.hid (finds_snoc cs (4 * k + t))
          rw [show (4 * k + t) / 4 = k by omega, show (4 * k + t) % 4 = t by omega, show finRec (4 * k + t) = [.int .u8 ((k : Nat) : Int), .int .u8 ((t : Nat) : Int)] by unfold finRec; rw [show (4 * k + t) / 4 = k by omega, show (4 * k + t) % 4 = t by omega]] at HS
          have HTy := Lib.hid (finRec_typed (i := 4 * k + t) (by omega))
          rw [show finRec (4 * k + t) = [.int .u8 ((k : Nat) : Int), .int .u8 ((t : Nat) : Int)] by unfold finRec; rw [show (4 * k + t) / 4 = k by omega, show (4 * k + t) % 4 = t by omega]] at HTy
          have hln := finds_len cs (4 * k + t)
          go_wp2_with (first | refine wpList_load_mid rfl 46 _ rfl w.heap.size 0 rfl cs _ HA1.out.1 Try.underlying46 rfl HI.out ?_)
          refine (HW.out k t _ hk4 ht4).mono ?_
          rintro e w5 ⟨rfl, hb5⟩
          have HO5 := Lib.hid (HO1.out.later hb5)
          have HA5 := Lib.hid (At.below HA1.out hb5 hsz1)
          have hs5 := Nat.lt_of_lt_of_le hsz1 hb5.size
          have hq5 := hb1.trans (hb5.mono (Nat.le_of_lt hsz1))
          clear HO1 HA1 hsz1 hb1 hb5
          obtain ⟨l0, hl0⟩ : ∃ l, finds cs (4 * k + t) = l := ⟨_, rfl⟩
          rw [hl0] at HS HO5 hln
          clear hl0
          cases hbad : badP cs k t with
          | true =>
            rw [hbad, if_pos rfl] at HS
            clear hbad
            go_wp2_with (first
              | (at_builtin; refine wpList_app_rec rfl _ _ 48 81 finK _ 2 rfl Try.underlying48 infoFin rfl (by decide) (by decide) (w.heap.size + 1) _ l0 rfl HO5.out [.int .u8 ((k : Nat) : Int), .int .u8 ((t : Nat) : Int)] HTy.out rfl (by omega) (by omega) ?_))
            intro v' w6 ho6 hg6 hb6 hz6 hr6
            have HO6 := Lib.hid ho6
            have hb6' := hb6.mono (show w.heap.size + 1 ≤ w.heap.size + 1 from Nat.le_refl _)
            have HA6 := Lib.hid (At.below HA5.out hb6 (Nat.lt_succ_self _))
            have hq6 : Below w.heap.size w w6 := hq5.trans (hb6.mono (Nat.le_succ _))
            clear ho6 hg6 hr6 HO5 HA5 hb6'
            go_wp2_with fail
            go_roundw
            case rel => exact ⟨t + 1, by simp, by omega, by rw [show 4 * k + (t + 1) = 4 * k + t + 1 by omega, HS.out]; exact HO6, HA6, by omega, hq6⟩
            case measure => simp [intOf]; omega
          | false =>
            rw [hbad] at HS
            clear hbad
            go_wp2_with fail
            go_roundw
            case rel => exact ⟨t + 1, by simp, by omega, by rw [show 4 * k + (t + 1) = 4 * k + t + 1 by omega, HS.out]; simpa using HO5, HA5, hs5, hq5⟩
            case measure => simp [intOf]; omega
        · have ht5 : t = 4 := by omega
          subst ht5
          go_wp2_with fail
          go_roundw
          case rel => exact ⟨k + 1, by simp, by omega, by rw [show 4 * (k + 1) = 4 * k + 4 by omega]; exact HO1, HA1, hsz1, hb1⟩
          case measure => simp [intOf]; omega
    · have hk5 : k = 5 := by omega
      subst hk5
      go_wp2_with fail
      go_ret
      exact ⟨_, rfl, HO.out.recs, hb⟩
end Go.Proofs.Ytchjjbklkmfelaa
