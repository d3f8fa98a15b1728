/- ref02.Text: a number's decimal text, by the document. -/
import Derived.Test.YtoljemjnhomomaaText
import Derived.Test.YtoljemjnhomomaaRef3
import Derived.Test.YtoljemjnhomomaaRef4
namespace Go.Proofs.Ytoljemjnhomomaa
open Go.RowKit Go.Lib
set_option linter.unusedVariables false
set_option linter.unusedSimpArgs false

theorem dig_ten : dig 10 = [10] := by rw [dig_pos (by omega), show 10 / 65536 = 0 from rfl, dig_zero]; rfl
theorem row_ten (w : World) : Row (w.alloc (.cells #[.int .i64 10] 3)) (.slice (some ⟨w.heap.size, 0, none⟩) 1 1) (dig 10) := by
  rw [dig_ten]
  refine ⟨some ⟨w.heap.size, 0, none⟩, 1, rfl, Nat.le_refl _, by unfold maxLen; omega, .inr ⟨w.heap.size, 0, rfl, fun i hi => ?_⟩⟩
  match i, hi with
  | 0, _ => simp
theorem rtext_byte (w : World) (c : UInt8) (z : Int) (hz : z = (c.toNat : Int)) :
    (convert 57 9 (.slice (some ⟨w.heap.size, 0, none⟩) 1 1)).run Try.prog (w.alloc (.cells #[.int .u8 z] 5)) = .ok (.string ⟨#[c]⟩) (w.alloc (.cells #[.int .u8 z] 5)) := by
  subst hz
  exact run_convert_bytes_back (P := Try.prog) _ 57 9 5 ⟨w.heap.size, 0, none⟩ 1 [c] Try.underlying57 Try.underlying5 Try.underlying9 (fun j hj => by
    match j, hj with
    | 0, _ => rw [Addr.add_lit]; simp)

theorem dig_small {n : Nat} (h : n < 65536) (hp : 0 < n) : dig n = [(n : Int)] := by
  rw [dig_pos hp, show n / 65536 = 0 by omega, dig_zero, Nat.mod_eq_of_lt h]

set_option maxHeartbeats 2000000 in
set_option maxRecDepth 100000 in
theorem rtext_pos (n : Nat) (w : World) (hn : n < 18446744073709551616 ^ 4) (hp : 0 < n) :
    Calls Try.prog 43 #[bigN n] w fun e w' => e = .returned (.string ⟨(textN n).toArray⟩) ∧ Below w.heap.size w w' := by
  have HT := Lib.hid (show textN n = (decU n).reverse from if_neg (by omega))
  have HRow := Lib.hid (rowof_calls n (w.alloc (row4 (limb n))) hn)
  have Q0 : Below w.heap.size w (w.alloc (row4 (limb n))) := (Below.refl _ _).alloc (Nat.le_refl _) _
  have z0 : w.heap.size ≤ (w.alloc (row4 (limb n))).heap.size := by simp
  have HLn : ∀ q, q ≤ n → (dig q).length ≤ 16 := fun q hq => dig_len_le (k := 16) (Nat.lt_of_le_of_lt hq (by rw [show (65536 : Nat) ^ 16 = 18446744073709551616 ^ 4 by decide]; exact hn))
  have HLN := Lib.hid HLn
  have HN := Lib.hid (And.intro hn hp)
  clear HLn hn
  go_enter Try.func43, Try.ntmps43
  go_wp2_with fail
  refine HRow.out.mono ?_
  rintro e W ⟨v, rfl, hr, -, hb⟩
  have hb0 : Below w.heap.size w W := Q0.trans (hb.mono z0)
  clear hb Q0 z0 HRow
  obtain ⟨A, c, rfl, -, -, -⟩ := id hr
  have hl0 : 0 < (dig n).length := by rw [dig_pos hp]; simp
  have HR0 := Lib.hid hr
  clear hr
  generalize hna : (dig n).length = na at *
  have hl0' : (0 : Int) < (na : Int) := by omega
  have hl0'' : ((na : Int) == 0) = false := by rw [beq_eq_false_iff_ne]; omega
  have HNA := Lib.hid hna
  clear hna hp
  go_wp2_with fail
  go_loopg [3, 4] n (fun q l out wr => ∃ k : Nat, Hid (q = n / 10 ^ k) ∧ Hid (Row wr l (dig q)) ∧ out = .string ⟨((decU n).take k).reverse.toArray⟩ ∧ Below w.heap.size w wr)
  case atStart => exact ⟨0, Lib.hid (by rw [Nat.pow_zero, Nat.div_one]), HR0, by rw [List.take_zero]; rfl, hb0⟩
  case round =>
    obtain ⟨k, HQ, HR, rfl, hb⟩ := hrel
    clear hb0 HR0 HNA hl0 hl0' hl0''
    obtain ⟨A, c, rfl, -, -, -⟩ := id HR.out
    rcases Nat.eq_zero_or_pos gk with h0 | h0
    · subst h0
      simp only [dig_zero, List.length_nil]
      rw [decU_take_all n k HQ.out.symm, ← HT.out]
      go_wp2_with fail
      go_ret
      exact ⟨rfl, hb⟩
    · have hl0 : 0 < (dig gk).length := by rw [dig_pos h0]; simp
      have hl16 := HLN.out gk (by rw [HQ.out]; exact Nat.div_le_self _ _)
      have ha := HR.out.below ((Below.refl _ _).alloc (Nat.le_refl _) (.cells #[.int .i64 10] 3))
      have HD := Lib.hid (refdiv_calls _ _ gk 10 _ ha (row_ten wr) (by omega) (by rw [dig_ten]; decide) (by decide))
      have z1 : wr.heap.size ≤ (wr.alloc (.cells #[.int .i64 10] 3)).heap.size := by simp
      have hbA : Below w.heap.size w (wr.alloc (.cells #[.int .i64 10] 3)) := hb.alloc hb.size _
      have z2 := hb.size
      clear ha hb hl16
      generalize hna : (dig gk).length = na at *
      have hl0' : (0 : Int) < (na : Int) := by omega
      have HNA := Lib.hid hna
      clear hna
      go_wp2_with fail
      refine HD.out.mono ?_
      rintro e w' ⟨qv, rv, rfl, hq, hr, hb'⟩
      have hbb := hbA.trans (hb'.mono (Nat.le_trans z2 z1))
      clear hb' hbA z1 z2 HD HR HNA hl0 hl0'
      have hd10 : gk % 10 < 10 := Nat.mod_lt _ (by decide)
      have hy : ((48 : Int) + ((gk % 10 : Nat) : Int)) = ((UInt8.ofNat (48 + gk % 10)).toNat : Int) := by rw [digit_toNat]; omega
      have hts := decU_take_succ n k (by rw [← HQ.out]; exact h0)
      rw [← HQ.out] at hts
      have HTS : Hid ((⟨#[UInt8.ofNat (48 + gk % 10)]⟩ : ByteArray) ++ ⟨((decU n).take k).reverse.toArray⟩ = ⟨((decU n).take (k + 1)).reverse.toArray⟩) := Lib.hid (by
        rw [hts, List.reverse_append, List.reverse_singleton]
        apply ByteArray.ext
        rw [ByteArray.data_append]
        simp)
      have HQ1 : Hid (gk / 10 = n / 10 ^ (k + 1)) := Lib.hid (by rw [HQ.out, Nat.div_div_eq_div_mul, Nat.pow_succ])
      have hlt : gk / 10 < gk := Nat.div_lt_self h0 (by decide)
      clear hts HQ
      generalize UInt8.ofNat (48 + gk % 10) = y at *
      have HQr := Lib.hid hq
      clear hq
      generalize gk / 10 = q1 at *
      obtain ⟨S, hS⟩ : ∃ S : ByteArray, S = ⟨((decU n).take k).reverse.toArray⟩ := ⟨_, rfl⟩
      rw [← hS] at HTS
      rw [← hS]
      have hss : ¬ 9223372036854775807 < 1 + S.size := by
        have h1 := decU_len n 78
        rw [Nat.div_eq_of_lt (Nat.lt_of_lt_of_le HN.out.1 ten78)] at h1
        have h2 : S.size = ((decU n).take k).length := by rw [hS]; simp [ByteArray.size]
        rw [List.length_take] at h2
        omega
      clear hS
      generalize hdd : gk % 10 = d at *
      obtain ⟨A2, c2, rfl, -, -, -⟩ := id hr
      rcases Nat.eq_zero_or_pos d with hd | hd
      · subst hd
        simp only [dig_zero, List.length_nil]
        have hcv := rtext_byte w' y 48 hy
        clear hy hr
        go_wp2_with fail
        go_roundg q1
        case measure => exact hlt
        case rel => exact ⟨k + 1, HQ1, Lib.hid (HQr.out.below ((Below.refl _ _).alloc (Nat.le_refl _) _)), congrArg Value.string HTS.out, hbb.alloc hbb.size _⟩
      · obtain ⟨g, o, rfl, hg, hc⟩ := row_cells hr 0 (by rw [dig_small (by omega) hd]; simp)
        have hlen : (dig d).length = 1 := by rw [dig_small (by omega) hd]; rfl
        have hc' : w'.cell? ⟨g, o, none⟩ = some (.int .i64 (d : Int)) := by
          have := hc
          unfold cell at this
          rw [Nat.pow_zero, Nat.div_one, Nat.mod_eq_of_lt (by omega)] at this
          exact this
        rw [hlen]
        have hcv := rtext_byte w' y (48 + (d : Int)) hy
        have w1 : IntKind.i64.wrap (48 + (d : Int)) = 48 + (d : Int) := IntWalk.i64_in _ (by omega)
        have w2 : IntKind.u8.wrap (48 + (d : Int)) = 48 + (d : Int) := IntWalk.u8_in _ (by omega)
        clear hy hr hc hlen
        go_wp2_with fail
        go_roundg q1
        case measure => exact hlt
        case rel => exact ⟨k + 1, HQ1, Lib.hid (HQr.out.below ((Below.refl _ _).alloc (Nat.le_refl _) _)), congrArg Value.string HTS.out, hbb.alloc hbb.size _⟩

set_option maxHeartbeats 1000000 in
set_option maxRecDepth 100000 in
theorem rtext_calls (n : Nat) (w : World) (hn : n < 18446744073709551616 ^ 4) :
    Calls Try.prog 43 #[bigN n] w fun e w' => e = .returned (.string ⟨(textN n).toArray⟩) ∧ Below w.heap.size w w' := by
  rcases Nat.eq_zero_or_pos n with h | h
  · subst h
    have HE := Lib.hid (show (.string ⟨#[48]⟩ : Value) = .string ⟨(textN 0).toArray⟩ from rfl)
    have HRow := Lib.hid (rowof_calls 0 (w.alloc (row4 (limb 0))) hn)
    have Q0 : Below w.heap.size w (w.alloc (row4 (limb 0))) := (Below.refl _ _).alloc (Nat.le_refl _) _
    have z0 : w.heap.size ≤ (w.alloc (row4 (limb 0))).heap.size := by simp
    rw [bigN_zero] at HRow ⊢
    simp only [row4, limb_zero] at HRow Q0 z0
    go_enter Try.func43, Try.ntmps43
    go_wp2_with fail
    refine HRow.out.mono ?_
    rintro e W ⟨v, rfl, hr, -, hb⟩
    have hb0 := Q0.trans (hb.mono z0)
    clear hb Q0 z0 HRow
    obtain ⟨A, c, rfl, -, -, -⟩ := id hr
    simp only [dig_zero, List.length_nil]
    clear hr
    go_wp2_with fail
    go_ret
    exact ⟨congrArg Ending.returned HE.out, hb0⟩
  · exact rtext_pos n w hn h
end Go.Proofs.Ytoljemjnhomomaa
