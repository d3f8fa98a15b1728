/- account.Lines: the lines of an account and a token. -/
import Derived.Test.YtchjjbklkmfelaaAcct2
import Derived.Test.YtchjjbklkmfelaaRecOwn
namespace Go.Proofs.Ytchjjbklkmfelaa
open Go.RowKit Go.Lib
set_option linter.unusedVariables false
set_option linter.unusedSimpArgs false

abbrev lineK : Kinds := [some .i64, some .u8, none, some .u64, some .u64, some .u64, some .u64]
def lineV (k : Nat) (c : List Value) (b : Bool) : List Value := [.int .i64 (k : Int), .int .u8 (intAt c 0), .bool b, .int .u64 (intAt c 38), .int .u64 (intAt c 39), .int .u64 (intAt c 40), .int .u64 (intAt c 41)]
theorem lineV_typed {c : List Value} (hc : Typed evK c) (k : Nat) (hk : k ≤ 1000000) (b : Bool) : Typed lineK (lineV k c b) := by
  have h0 : (Lit.int .i64 (k : Int)).wf = true := by
    simp [Lit.wf, IntKind.min, IntKind.max, IntKind.signed, IntKind.bits]
    omega
  exact ⟨_, _, rfl, ⟨_, rfl, h0⟩, _, _, rfl, ⟨_, rfl, (hc.at 0 .u8 (by kernel_rfl)).2⟩, _, _, rfl, ⟨_, rfl⟩, _, _, rfl, ⟨_, rfl, (hc.at 38 .u64 (by kernel_rfl)).2⟩, _, _, rfl, ⟨_, rfl, (hc.at 39 .u64 (by kernel_rfl)).2⟩,
    _, _, rfl, ⟨_, rfl, (hc.at 40 .u64 (by kernel_rfl)).2⟩, _, _, rfl, ⟨_, rfl, (hc.at 41 .u64 (by kernel_rfl)).2⟩, rfl⟩
def stepL (who tok : Int) (k : Nat) (c : List Value) : List (List Value) :=
  if intAt c 35 = tok then (if givesV c who then [lineV k c true] else []) ++ (if takesV c who then [lineV k c false] else []) else []
def linesN (l : List (List Value)) (who tok : Int) : Nat → List (List Value)
  | 0 => []
  | k + 1 => linesN l who tok k ++ stepL who tok k (l.getD k [])
def linesOf (l : List (List Value)) (who tok : Int) : List (List Value) := linesN l who tok l.length
theorem stepL_len (who tok : Int) (k : Nat) (c : List Value) : (stepL who tok k c).length ≤ 2 := by
  unfold stepL
  repeat' split
  all_goals simp
theorem linesN_len (l : List (List Value)) (who tok : Int) (k : Nat) : (linesN l who tok k).length ≤ 2 * k := by
  induction k with
  | zero => exact Nat.le_refl _
  | succ k ih =>
    unfold linesN
    rw [List.length_append]
    have := stepL_len who tok k (l.getD k [])
    omega
abbrev OwnL (w : World) (base : Nat) (v : Value) (l : List (List Value)) : Prop := OwnR 92 lineK w base v l
theorem infoLine : (Try.prog.info? 92).map (fun i => (i.zero, i.size, i.bytes)) = some (some (.agg #[.int .i64 0, .int .u8 0, .bool false, .int .u64 0, .int .u64 0, .int .u64 0, .int .u64 0]), 7, 48) := by kernel_rfl

set_option maxHeartbeats 4000000 in
set_option maxRecDepth 100000 in
theorem lines_calls (v : Value) (who tok : Int) (l : List (List Value)) (w : World) (h : Recs evK w v l) (hl : l.length ≤ 1000) :
    Calls Try.prog 21 #[v, .int .u8 who, .int .u8 tok] w fun e w' => ∃ r, e = .returned r ∧ OwnL w' w.heap.size r (linesOf l who tok) ∧ Below w.heap.size w w' := by
  obtain ⟨A, c, rfl, a1, a2, -, -⟩ := id h
  unfold maxLen at a2
  have HR := Lib.hid h
  clear h
  have HO : linesOf l who tok = linesN l who tok l.length := rfl
  have HOH := Lib.hid HO
  clear HO
  generalize hn : l.length = n at *
  clear hn
  go_enter Try.func21, Try.ntmps21
  go_wp2_with fail
  go_loopw [7, 14] (fun r i wr => ∃ k : Nat, i = .int .i64 k ∧ k ≤ n ∧ OwnL wr w.heap.size r (linesN l who tok k) ∧ Below w.heap.size w wr) (fun _ i _ => n - (RowKit.intOf i).toNat)
  case atStart => exact ⟨0, rfl, by omega, OwnR.nil _ _ _ _, Below.refl _ _⟩
  case round =>
    obtain ⟨k, rfl, hk, ho, hb⟩ := hrel
    by_cases hlt : k < n
    · have hlt' : (k : Int) < (n : Int) := by omega
      obtain ⟨g, o, rfl, hg, hr, ht⟩ := (HR.out.below (by rw [evK_len]; decide) hb).at (by rw [evK_len]; decide) k hlt
      have hstep : linesN l who tok (k + 1) = linesN l who tok k ++ stepL who tok k (l.getD k []) := rfl
      obtain ⟨x, hxe⟩ : ∃ x, l.getD k [] = x := ⟨_, rfl⟩
      rw [hxe] at hr ht hstep
      rw [evK_len] at hr
      have hll := linesN_len l who tok k
      have HTh := Lib.hid (ev_there wr ht)
      unfold objEv at HTh
      go_upto_region 5 with (first
        | refine wpList_load_mid rfl 31 _ rfl g (o + k * 47) rfl x _ hr Try.underlying31 rfl (ev_info ht) ?_
        | refine wpList_store_mid rfl 31 _ _ rfl wr.heap.size 0 x.toArray rfl rfl HTh.out (ev_info' ht) (ev_one ht) ?_)
      have hL := ev_laid wr ht
      have hbn := new_below wr objEv x
      have hbb := hb.trans (hbn.mono hb.size)
      have hs : wr.heap.size < ((wr.alloc objEv).setCells wr.heap.size 0 x).heap.size := range_lt hL (by rw [ht.length, evK_len]; decide)
      have ho2 := ho.later hbn
      have HLt := Lib.hid (OwnR.lt ho)
      obtain ⟨W2, hW2⟩ : ∃ W2, (wr.alloc objEv).setCells wr.heap.size 0 x = W2 := ⟨_, rfl⟩
      rw [hW2] at hL hbb hs ho2
      unfold objEv at hW2
      rw [hW2]
      clear hW2 HTh ho hr hb hbn
      have hw : IntKind.i64.wrap ((k : Int) + 1) = (k : Int) + 1 := IntWalk.i64_in _ (by omega)
      have hin := ev_info ht
      have HOf := Lib.hid (aof_calls x who W2 ht)
      have HTy := Lib.hid ht
      go_wp2_with (first
        | refine wpList_load_mid rfl 31 _ rfl wr.heap.size 0 rfl x _ hL Try.underlying31 rfl hin ?_)
      refine HOf.out.mono ?_
      rintro e w3 ⟨rfl, hb3⟩
      have hL3 := range_below hL hb3 hs
      have ho3 := ho2.later hb3
      have hbb3 := hbb.trans (hb3.mono hbb.size)
      have hs3 : wr.heap.size < w3.heap.size := Nat.lt_of_lt_of_le hs hb3.size
      clear hL ho2 hbb hs HOf hb3 ht hin
      have c0 := ev_cell hL3 HTy.out 0 .u8 (by kernel_rfl)
      have c35 := ev_cell hL3 HTy.out 35 .u8 (by kernel_rfl)
      have c38 := ev_cell hL3 HTy.out 38 .u64 (by kernel_rfl)
      have c39 := ev_cell hL3 HTy.out 39 .u64 (by kernel_rfl)
      have c40 := ev_cell hL3 HTy.out 40 .u64 (by kernel_rfl)
      have c41 := ev_cell hL3 HTy.out 41 .u64 (by kernel_rfl)
      have hst : stepL who tok k x = if intAt x 35 = tok then (if givesV x who then [lineV k x true] else []) ++ (if takesV x who then [lineV k x false] else []) else [] := rfl
      have hlt1 := lineV_typed HTy.out k (by omega) true
      have hlt0 := lineV_typed HTy.out k (by omega) false
      have HST := Lib.hid hst
      have HSP := Lib.hid hstep
      clear hst hstep
      by_cases htk : intAt x 35 = tok
      · rw [if_pos htk] at HST
        have htb : (intAt x 35 == tok) = true := beq_iff_eq.2 htk
        clear htk
        cases hgv : givesV x who with
        | false =>
          cases htv : takesV x who with
          | false =>
            rw [hgv, htv] at HST
            clear hgv htv
            go_wp2_with fail
            go_roundw
            case rel => exact ⟨k + 1, rfl, by omega, by rw [HSP.out, HST.out]; simp only [Bool.false_eq_true, if_false, List.append_nil]; exact ho3, hbb3⟩
            case measure => simp [RowKit.intOf]; omega
          | true =>
            rw [hgv, htv] at HST
            clear hgv htv
            go_wp2_with (at_builtin; refine wpList_app_rec rfl _ _ 58 92 lineK _ 48 rfl Try.underlying58 infoLine rfl (by decide) (by decide) w.heap.size u7 (linesN l who tok k) rfl ho3 (lineV k x false) hlt0 rfl ?c1 ?c2 ?_)
            case c1 => omega
            case c2 => exact hbb3.size
            intro v' w4 ho4 _ hb4 _ _
            have hbb4 := hbb3.trans hb4
            clear ho3
            go_wp2_with fail
            go_roundw
            case rel => exact ⟨k + 1, rfl, by omega, by rw [HSP.out, HST.out]; simp only [Bool.false_eq_true, if_false, if_true, List.nil_append]; exact ho4, hbb4⟩
            case measure => simp [RowKit.intOf]; omega
        | true =>
          cases htv : takesV x who with
          | false =>
            rw [hgv, htv] at HST
            clear hgv htv
            go_wp2_with (at_builtin; refine wpList_app_rec rfl _ _ 58 92 lineK _ 48 rfl Try.underlying58 infoLine rfl (by decide) (by decide) w.heap.size u7 (linesN l who tok k) rfl ho3 (lineV k x true) hlt1 rfl ?c1 ?c2 ?_)
            case c1 => omega
            case c2 => exact hbb3.size
            intro v' w4 ho4 _ hb4 _ _
            have hbb4 := hbb3.trans hb4
            clear ho3
            go_wp2_with fail
            go_roundw
            case rel => exact ⟨k + 1, rfl, by omega, by rw [HSP.out, HST.out]; simp only [Bool.false_eq_true, if_false, if_true, List.append_nil]; exact ho4, hbb4⟩
            case measure => simp [RowKit.intOf]; omega
          | true =>
            rw [hgv, htv] at HST
            clear hgv htv
            go_wp2_with (at_builtin; refine wpList_app_rec rfl _ _ 58 92 lineK _ 48 rfl Try.underlying58 infoLine rfl (by decide) (by decide) w.heap.size u7 (linesN l who tok k) rfl ho3 (lineV k x true) hlt1 rfl ?c1 ?c2 ?_)
            case c1 => omega
            case c2 => exact hbb3.size
            intro v' w4 ho4 hg4 hb4 hs4 _
            have hbb4 := hbb3.trans (hb4.mono (Nat.le_refl _))
            have hL4 : w4.rangeAt wr.heap.size 0 x := fun j u hu => hg4.cell (range_below hL3 ((Below.refl _ _).alloc (Nat.le_refl _) _) hs3 j u hu) (by
              intro e
              exact Nat.lt_irrefl _ (HLt.out _ e.symm).2)
            clear c0 c35 c38 c39 c40 c41
            have c0 := ev_cell hL4 HTy.out 0 .u8 (by kernel_rfl)
            have c38 := ev_cell hL4 HTy.out 38 .u64 (by kernel_rfl)
            have c39 := ev_cell hL4 HTy.out 39 .u64 (by kernel_rfl)
            have c40 := ev_cell hL4 HTy.out 40 .u64 (by kernel_rfl)
            have c41 := ev_cell hL4 HTy.out 41 .u64 (by kernel_rfl)
            have lx4 : wr.heap.size < w4.heap.size := Nat.lt_of_lt_of_le hs3 (Nat.le_of_succ_le hs4)
            clear ho3
            go_wp2_with (at_builtin; refine wpList_app_rec rfl _ _ 58 92 lineK _ 48 rfl Try.underlying58 infoLine rfl (by decide) (by decide) w.heap.size v' (linesN l who tok k ++ [lineV k x true]) rfl ho4 (lineV k x false) hlt0 rfl ?c1 ?c2 ?_)
            case c1 => simp; omega
            case c2 => exact hbb4.size
            intro v5 w5 ho5 _ hb5 _ _
            have hbb5 := hbb4.trans hb5
            clear ho4
            go_wp2_with fail
            go_roundw
            case rel => exact ⟨k + 1, rfl, by omega, by rw [HSP.out, HST.out]; simpa using ho5, hbb5⟩
            case measure => simp [RowKit.intOf]; omega
      · rw [if_neg htk] at HST
        have htb : (intAt x 35 == tok) = false := beq_eq_false_iff_ne.2 htk
        clear htk
        go_wp2_with fail
        go_roundw
        case rel => exact ⟨k + 1, rfl, by omega, by rw [HSP.out, HST.out, List.append_nil]; exact ho3, hbb3⟩
        case measure => simp [RowKit.intOf]; omega
    · have hkn : k = n := by omega
      subst hkn
      go_wp2_with fail
      go_ret
      exact ⟨_, rfl, by rw [HOH.out]; exact ho, hb⟩
end Go.Proofs.Ytchjjbklkmfelaa
