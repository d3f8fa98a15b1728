/- huge.Text: a number's decimal text, walked. -/
import Derived.Test.YtoljemjnhomomaaText1
namespace Go.Proofs.Ytoljemjnhomomaa
open Go.RowKit Go.Lib
set_option linter.unusedVariables false
set_option linter.unusedSimpArgs false

theorem OwnB.store {w : World} {base : Nat} {v : Value} {l : List UInt8} (h : OwnB w base v l) {g : Nat} (hg : g < base) (a b c d : Int) : OwnB (store4 w g a b c d) base v l := by
  unfold OwnB at h ⊢
  have hne : ∀ k, v.ownBlock = some k → g ≠ k := fun k hk => by have := (World.ownsRow.lt h k hk).1; omega
  refine ⟨h.1, ?_⟩
  rcases h.2 with h2 | ⟨g', cap, cur, rfl, hb, hc, h3⟩
  · exact .inl h2
  · refine .inr ⟨g', cap, cur, rfl, hb, ?_, h3⟩
    have h0 : ∀ (w : World) (k : Nat) (u : Value), (w.setCell ⟨g, k, none⟩ u).heap[g']? = w.heap[g']? := fun w k u => by
      exact Go.Deep.blk_setCell_other w ⟨g, k, none⟩ u g' (fun e => hne g' rfl e.symm)
    unfold store4
    rw [h0, h0, h0, h0]
    exact hc
theorem OwnB.later {w w' : World} {base : Nat} {v : Value} {l : List UInt8} (h : OwnB w base v l) (hb : Below w.heap.size w w') : OwnB w' base v l := by
  refine ⟨h.1, ?_⟩
  rcases h.2 with h2 | ⟨g', cap, cur, rfl, hb', hc, h3⟩
  · exact .inl h2
  · refine .inr ⟨g', cap, cur, rfl, hb', ?_, h3⟩
    rw [hb.block g' (Array.getElem?_eq_some_iff.1 hc).1]
    exact hc

theorem text_parts (n m i : Nat) (hi : i ≤ 19) : n / 10 ^ (m + i) = n / 10 ^ (m + 19) * 10 ^ (19 - i) + n / 10 ^ (m + i) % 10 ^ (19 - i) := by
  have e : n / 10 ^ (m + 19) = n / 10 ^ (m + i) / 10 ^ (19 - i) := by
    rw [Nat.div_div_eq_div_mul, ← Nat.pow_add, show m + i + (19 - i) = m + 19 by omega]
  rw [e]
  exact (Nat.div_add_mod' _ _).symm
theorem text_digit (n m i : Nat) (hi : i < 19) : n / 10 ^ (m + i) % 10 ^ (19 - i) % 10 = n / 10 ^ (m + i) % 10 ∧ n / 10 ^ (m + i) % 10 ^ (19 - i) / 10 = n / 10 ^ (m + (i + 1)) % 10 ^ (19 - (i + 1)) := by
  obtain ⟨k, hk⟩ : ∃ k, 19 - i = k + 1 := ⟨18 - i, by omega⟩
  rw [hk, show 19 - (i + 1) = k by omega, Nat.pow_succ, show m + (i + 1) = (m + i) + 1 by omega, Nat.pow_succ, ← Nat.div_div_eq_div_mul]
  refine ⟨Nat.mod_mod_of_dvd _ ⟨10 ^ k, Nat.mul_comm _ _⟩, ?_⟩
  rw [Nat.mod_mul_left_div_self]

set_option maxHeartbeats 2000000 in
set_option maxRecDepth 100000 in
theorem htext_pos (n : Nat) (w : World) (hn : n < 18446744073709551616 ^ 4) (hp : 0 < n) :
    Calls Try.prog 41 #[bigN n] w fun e w' => e = .returned (.string ⟨(textN n).toArray⟩) ∧ Below w.heap.size w w' := by
  have B0 := Box.new w n
  have Q0 : Below w.heap.size w (w.alloc (row4 (limb n))) := (Below.refl _ _).alloc (Nat.le_refl _) _
  have HT := Lib.hid (show textN n = (decU n).reverse from if_neg (by omega))
  have hz : ¬ (limb n 0 = 0 ∧ limb n 1 = 0 ∧ limb n 2 = 0 ∧ limb n 3 = 0) := fun h => by
    have := (bigN_inj (m := n) (n := 0) hn (by decide)).1 (by simp only [limb_zero]; exact h)
    omega
  have HN := Lib.hid hn
  have HP := Lib.hid hp
  clear hn hp
  go_enter Try.func41, Try.ntmps41
  go_wp2_with fail
  obtain ⟨W, hW⟩ : ∃ W, w.alloc (row4 (limb n)) = W := ⟨_, rfl⟩
  dsimp only [row4] at hW
  rw [hW]
  dsimp only [row4] at Q0
  rw [hW] at Q0 B0
  clear hW
  go_loopg [3] n (fun q out wr => ∃ m : Nat, OwnB wr (w.heap.size + 1) out ((decU n).take m) ∧ Box wr w.heap.size q ∧ Hid (q = n / 10 ^ m) ∧ Below w.heap.size w wr)
  case atStart => exact ⟨0, by rw [List.take_zero]; exact OwnB.nil _ _, B0, Lib.hid (by rw [Nat.pow_zero, Nat.div_one]), Q0⟩
  case round =>
    obtain ⟨m, ho, hbx, HQ, hb⟩ := hrel
    clear B0 Q0 hz
    obtain ⟨c0, c1, c2, c3⟩ := hbx.cells
    have lx := hbx.lt
    have hq : gk < 18446744073709551616 ^ 4 := by rw [HQ.out]; exact Nat.lt_of_le_of_lt (Nat.div_le_self _ _) HN.out
    have hll : ((decU n).take m).length ≤ 78 := by
      have h1 := decU_len n 78
      rw [Nat.div_eq_of_lt (Nat.lt_of_lt_of_le HN.out ten78)] at h1
      rw [List.length_take]
      omega
    rcases Nat.eq_zero_or_pos gk with h0 | h0
    · subst h0
      simp only [limb_zero] at c0 c1 c2 c3
      have e := decU_take_all n m HQ.out.symm
      rw [e] at ho hll
      have hne : decU n ≠ [] := by rw [decU_pos HP.out]; simp
      have HR := Lib.hid (breverse_calls u3 (decU n) (w.heap.size + 1) wr ho hne (by omega))
      have HNE := Lib.hid (show (decU n).reverse ≠ [] by simpa using hne)
      clear ho e hne hll HQ
      go_wp2_with fail
      refine HR.out.mono ?_
      rintro e w' ⟨rfl, ho', hb'⟩
      have hstr := own_string ho' HNE.out
      have hbb := hb.trans (hb'.mono (show w.heap.size ≤ w.heap.size + 1 by omega))
      clear ho' hb' HR
      rw [← HT.out] at hstr
      go_wp2_with fail
      go_ret
      exact ⟨rfl, hbb⟩
    · have hz : ¬ (limb gk 0 = 0 ∧ limb gk 1 = 0 ∧ limb gk 2 = 0 ∧ limb gk 3 = 0) := fun h => by
        have := (bigN_inj (m := gk) (n := 0) hq (by decide)).1 (by simp only [limb_zero]; exact h)
        omega
      have HS := Lib.hid (short_calls gk 10000000000000000000 wr (by decide) (by decide) hq)
      have HQ1 := Lib.hid (show gk / 10000000000000000000 = n / 10 ^ (m + 19) by rw [HQ.out, Nat.div_div_eq_div_mul, Nat.pow_add])
      have HQ2 := Lib.hid (show gk % 10000000000000000000 = n / 10 ^ (m + 0) % 10 ^ (19 - 0) by rw [HQ.out]; rfl)
      have hq1 : gk / 10000000000000000000 < gk := Nat.div_lt_self h0 (by decide)
      have hr1 : gk % 10000000000000000000 < 10000000000000000000 := Nat.mod_lt _ (by decide)
      generalize gk / 10000000000000000000 = q1 at *
      generalize gk % 10000000000000000000 = r1 at *
      go_wp2_with fail
      refine HS.out.mono ?_
      rintro e w' ⟨rfl, hb'⟩
      have ho1 := (ho.later hb').store (g := w.heap.size) (by omega) (limb q1 0) (limb q1 1) (limb q1 2) (limb q1 3)
      have hbx' := hbx.later hb'
      have hbx1 := hbx'.stored q1
      have hb1 : Below w.heap.size w (store4 w' w.heap.size (limb q1 0) (limb q1 1) (limb q1 2) (limb q1 3)) := below_store (hb.trans (hb'.mono (by omega))) (Nat.le_refl _) _ _ _ _
      obtain ⟨d0, d1, d2, d3⟩ := hbx'.cells
      obtain ⟨f0, f1, f2, f3⟩ := hbx'.free
      clear hz c0 c1 c2 c3 ho hbx hb HS lx
      have lx := hbx'.lt
      clear hbx' hb'
      go_wp2_with fail
      obtain ⟨W2, hW2⟩ : ∃ W2, store4 w' w.heap.size (limb q1 0) (limb q1 1) (limb q1 2) (limb q1 3) = W2 := ⟨_, rfl⟩
      unfold store4 at hW2 ho1 hbx1 hb1
      rw [hW2] at ho1 hbx1 hb1
      rw [hW2]
      have lx2 := hbx1.lt
      clear hW2 d0 d1 d2 d3 f0 f1 f2 f3 lx
      go_loopw [3, 4, 17] (fun out r i wr => ∃ k rr : Nat, i = .int .i64 k ∧ r = .int .u64 rr ∧ k ≤ 19 ∧ rr < 10000000000000000000 ∧ Hid (rr = n / 10 ^ (m + k) % 10 ^ (19 - k)) ∧
        OwnB wr (w.heap.size + 1) out ((decU n).take (m + k)) ∧ Box wr w.heap.size q1 ∧ Below w.heap.size w wr) (fun _ _ i _ => 19 - (RowKit.intOf i).toNat)
      case atStart => exact ⟨0, r1, rfl, rfl, by omega, hr1, HQ2, ho1, hbx1, hb1⟩
      case round =>
        obtain ⟨k, rr, rfl, rfl, hk, hrr, HR, ho, hbx, hb⟩ := hrel
        clear ho1 hbx1 hb1 hr1 HQ2 lx2
        obtain ⟨c0, c1, c2, c3⟩ := hbx.cells
        have lx := hbx.lt
        have hpt := text_parts n m k hk
        rw [← HR.out, ← HQ1.out] at hpt
        rcases Nat.eq_zero_or_pos (n / 10 ^ (m + k)) with hd | hd
        · have hq0 : q1 = 0 := by
            rw [hd] at hpt
            rcases Nat.eq_zero_or_pos q1 with e | e
            · exact e
            · have := Nat.mul_pos e (Nat.pow_pos (n := 19 - k) (show 0 < 10 by decide))
              omega
          have hr0 : rr = 0 := by
            rw [hd, hq0] at hpt
            omega
          subst hq0 hr0
          simp only [limb_zero] at c0 c1 c2 c3
          have ho' : OwnB wr (w.heap.size + 1) u3 ((decU n).take (m + 19)) := by
            rw [decU_take_all n (m + k) hd] at ho
            rw [decU_take_all n (m + 19) HQ1.out.symm]
            exact ho
          clear hpt hd HR ho
          have hks : (k : Int) < 19 ∨ (k : Int) = 19 := by omega
          rcases hks with hk1 | hk1
          · go_wp2_with fail
            go_roundg 0
            case measure => omega
            case rel => exact ⟨m + 19, ho', hbx, HQ1, hb⟩
          · rw [hk1]
            go_wp2_with fail
            go_roundg 0
            case measure => omega
            case rel => exact ⟨m + 19, ho', hbx, HQ1, hb⟩
        · rcases Nat.lt_or_ge k 19 with hk1 | hk1
          · obtain ⟨e1, e2⟩ := text_digit n m k hk1
            rw [← HR.out] at e1 e2
            have HT1 := Lib.hid (decU_take_succ n (m + k) hd)
            rw [← e1] at HT1
            have HE2 := Lib.hid e2
            have hll2 : ((decU n).take (m + k)).length ≤ 1000 := by
              have h1 := decU_len n 78
              rw [Nat.div_eq_of_lt (Nat.lt_of_lt_of_le HN.out ten78)] at h1
              rw [List.length_take]
              omega
            have t1 : (rr : Int).tmod 10 = ((rr % 10 : Nat) : Int) := by rw [Int.tmod_eq_emod_of_nonneg (by omega)]; omega
            have t2 : (rr : Int).tdiv 10 = ((rr / 10 : Nat) : Int) := by rw [Int.tdiv_eq_ediv_of_nonneg (by omega)]; omega
            have hd10 : rr % 10 < 10 := Nat.mod_lt _ (by decide)
            have hdiv : rr / 10 < 10000000000000000000 := by omega
            have hy := digit_toNat rr
            have hsp : (¬ (limb q1 0 = 0 ∧ limb q1 1 = 0 ∧ limb q1 2 = 0 ∧ limb q1 3 = 0)) ∨ (q1 = 0 ∧ ((rr : Int) == 0) = false) := by
              rcases Nat.eq_zero_or_pos q1 with e | e
              · right
                refine ⟨e, ?_⟩
                rw [beq_eq_false_iff_ne]
                rw [e, Nat.zero_mul] at hpt
                omega
              · left
                intro h
                have := (bigN_inj (m := q1) (n := 0) (by omega) (by decide)).1 (by simp only [limb_zero]; exact h)
                omega
            clear e1 e2 hpt hd HR hk
            have hk1' : (k : Int) < 19 := by omega
            have hy2 : ((48 : Int) + ((rr % 10 : Nat) : Int)) = ((UInt8.ofNat (48 + rr % 10)).toNat : Int) := by rw [hy]; omega
            have HY2 := Lib.hid hy2
            clear hy hy2
            generalize UInt8.ofNat (48 + rr % 10) = y at *
            generalize rr % 10 = d at *
            generalize rr / 10 = rq at *
            have w1 : IntKind.u64.wrap (48 + (d : Int)) = 48 + (d : Int) := IntWalk.u64_in _ (by omega)
            have w2 : IntKind.u8.wrap (48 + (d : Int)) = 48 + (d : Int) := IntWalk.u8_in _ (by omega)
            have w3 : IntKind.i64.wrap ((k : Int) + 1) = (k : Int) + 1 := IntWalk.i64_in _ (by omega)
            rcases hsp with hz | ⟨rfl, hr0⟩
            · go_wp2_with (at_builtin; refine wpList_app_byte rfl _ _ rfl _ _ _ rfl ho y _ HY2.out rfl ?c1 ?c2 ?_)
              case c1 => omega
              case c2 => omega
              intro v' w2' ho' _ hb' _
              have hbx' := hbx.below hb' (Nat.lt_succ_self _)
              have hbb := hb.trans (hb'.mono (Nat.le_succ _))
              rw [← HT1.out] at ho'
              go_wp2_with fail
              go_roundw
              case rel => exact ⟨k + 1, rq, rfl, rfl, by omega, hdiv, HE2, ho', hbx', hbb⟩
              case measure => simp [RowKit.intOf]; omega
            · simp only [limb_zero] at c0 c1 c2 c3
              go_wp2_with (at_builtin; refine wpList_app_byte rfl _ _ rfl _ _ _ rfl ho y _ HY2.out rfl ?c1 ?c2 ?_)
              case c1 => omega
              case c2 => omega
              intro v' w2' ho' _ hb' _
              have hbx' := hbx.below hb' (Nat.lt_succ_self _)
              have hbb := hb.trans (hb'.mono (Nat.le_succ _))
              rw [← HT1.out] at ho'
              go_wp2_with fail
              go_roundw
              case rel => exact ⟨k + 1, rq, rfl, rfl, by omega, hdiv, HE2, ho', hbx', hbb⟩
              case measure => simp [RowKit.intOf]; omega
          · have hk19 : k = 19 := by omega
            subst hk19
            go_wp2_with fail
            go_roundg q1
            case measure => omega
            case rel => exact ⟨m + 19, ho, hbx, HQ1, hb⟩
set_option maxHeartbeats 1000000 in
set_option maxRecDepth 100000 in
theorem htext_calls (n : Nat) (w : World) (hn : n < 18446744073709551616 ^ 4) :
    Calls Try.prog 41 #[bigN n] w fun e w' => e = .returned (.string ⟨(textN n).toArray⟩) ∧ Below w.heap.size w w' := by
  rcases Nat.eq_zero_or_pos n with h | h
  · subst h
    rw [bigN_zero]
    have Q0 : Below w.heap.size w (w.alloc (obj4 0 0 0 0)) := (Below.refl _ _).alloc (Nat.le_refl _) _
    have HE := Lib.hid (show (.string ⟨#[48]⟩ : Value) = .string ⟨(textN 0).toArray⟩ from rfl)
    go_enter Try.func41, Try.ntmps41
    go_wp2_with fail
    go_ret
    exact ⟨congrArg Ending.returned HE.out, Q0⟩
  · exact htext_pos n w hn h
end Go.Proofs.Ytoljemjnhomomaa
