/- The document's sums: bytes padded. -/
import Derived.Test.YthdbhajpjkkehaaDoorRsha1
import Derived.Test.YthdbhajpjkkehaaDoorBy3
namespace Go.Proofs.YthdbhajpjkkehaaDoor
open Go.RowKit Go.Lib Sha
set_option linter.unusedVariables false
set_option linter.unusedSimpArgs false

def slLen : Value → Nat
  | .slice _ n _ => n
  | _ => 0
def unitN (i : Nat) : Nat := 72057594037927936 / 256 ^ i
theorem unit_pow (i : Nat) (h : i < 8) : unitN i = 256 ^ (7 - i) := by
  unfold unitN
  rw [show (72057594037927936 : Nat) = 256 ^ 7 by decide, Nat.pow_div (by omega) (by decide)]
theorem unit_next (i : Nat) : unitN (i + 1) = unitN i / 256 := by
  unfold unitN
  rw [Nat.pow_succ, Nat.div_div_eq_div_mul]
theorem unit_last : unitN 8 = 0 := by decide
theorem len_byte (n i : Nat) (h : i < 8) (hn : n ≤ 900000) : (((lenBytes n).getD i 0).toNat : Int) = ((8 * n / unitN i % 256 : Nat) : Int) := by
  have e : (lenBytes n).getD i 0 = UInt8.ofNat (8 * n % 18446744073709551616 / 256 ^ (7 - i) % 256) := by
    unfold lenBytes
    rw [List.getD_eq_getElem?_getD, List.getElem?_map, List.getElem?_range h]; rfl
  rw [e, UInt8.toNat_ofNat', Nat.mod_eq_of_lt (show 8 * n < 18446744073709551616 by omega), show 2 ^ 8 = 256 by decide, Nat.mod_mod, unit_pow i h]
theorem take_next' (l : List UInt8) (i : Nat) (h : i < l.length) : l.take (i + 1) = l.take i ++ [l.getD i 0] := by
  rw [List.take_succ_eq_append_getElem h, List.getD_eq_getElem?_getD, List.getElem?_eq_getElem h]; rfl
theorem app_byte128 {ops : Array Oper} {rest : List Oper} {o : Oper} {a : Act} {Q : Exit → Act → World → Prop} {w : World} (hgd : o.guard = none) (s x : Operand)
    (ho : o.op = .call { callee := .builtin .append, args := #[s, x], argTypes := #[66, 66] })
    (base : Nat) (v : Value) (l : List UInt8) (hs : a.eval s = v) (hown : OwnB w base v l)
    (hx : a.eval x = .slice (some ⟨w.heap.size, 0, none⟩) 1 1) (hlen : l.length ≤ 1000000) (hbase : base ≤ w.heap.size)
    (h : ∀ v' w', OwnB w' base v' (l ++ [128]) → Below base w w' → wpList Tryd.prog ops Q rest (a.put o.dst v') w') :
    wpList Tryd.prog ops Q (o :: rest) a (w.alloc (.cells #[.int .u8 128] 5)) := wpList_app_byte hgd s x ho base v l hs hown 128 hx hlen hbase (fun v' w' h1 _ _ h4 _ => h v' w' h1 h4)
theorem app_byte0 {ops : Array Oper} {rest : List Oper} {o : Oper} {a : Act} {Q : Exit → Act → World → Prop} {w : World} (hgd : o.guard = none) (s x : Operand)
    (ho : o.op = .call { callee := .builtin .append, args := #[s, x], argTypes := #[66, 66] })
    (base : Nat) (v : Value) (l : List UInt8) (hs : a.eval s = v) (hown : OwnB w base v l)
    (hx : a.eval x = .slice (some ⟨w.heap.size, 0, none⟩) 1 1) (hlen : l.length ≤ 1000000) (hbase : base ≤ w.heap.size)
    (h : ∀ v' w', OwnB w' base v' (l ++ [0]) → Below base w w' → wpList Tryd.prog ops Q rest (a.put o.dst v') w') :
    wpList Tryd.prog ops Q (o :: rest) a (w.alloc (.cells #[.int .u8 0] 5)) := wpList_app_byte hgd s x ho base v l hs hown 0 hx hlen hbase (fun v' w' h1 _ _ h4 _ => h v' w' h1 h4)
theorem unit_le (i : Nat) : unitN i ≤ 72057594037927936 := by unfold unitN; exact Nat.div_le_self _ _
attribute [local irreducible] unitN
set_option maxHeartbeats 1000000 in
set_option maxRecDepth 100000 in
theorem padded_calls (v : Value) (p : List UInt8) (w : World) (h : BRow w v p) (hn : NilOr v) (hl : p.length ≤ 900000) :
    Calls Tryd.prog 54 #[v] w fun e w' => ∃ v', e = .returned v' ∧ OwnB w' w.heap.size v' (p ++ padOf p.length) ∧ Below w.heap.size w w' := by
  obtain ⟨A, c, rfl, m1, m2, -⟩ := id h
  unfold maxLen at m2
  have HE := Lib.hid (ownB_empty w)
  have Q0 : Below w.heap.size w (w.alloc (.cells #[] 5)) := (Below.refl _ _).alloc (Nat.le_refl _) _
  have HP := Lib.hid (h.below Q0)
  have HN := Lib.hid hn
  have HQ0 := Lib.hid Q0
  have HL := Lib.hid hl
  have HL6 : Hid (p.length ≤ 1000000) := Lib.hid (by omega)
  have HZ6 : Hid (([] : List UInt8).length ≤ 1000000) := Lib.hid (by simp)
  clear h hn hl Q0
  go_enter Tryd.func54, Tryd.ntmps54
  go_wp2_with (at_builtin; refine wpList_app_bytes rfl _ _ rfl w.heap.size _ [] p rfl HE.out _ rfl HP.out HN.out HZ6.out HL6.out (by simp) ?_)
  intro v1 w1 ho1 _ _ hb1
  have HO1 := Lib.hid ho1
  have HB1 := Lib.hid (HQ0.out.trans hb1)
  clear ho1 hb1 HQ0 HE
  go_wp2_with (at_builtin; refine app_byte128 rfl _ _ rfl w.heap.size v1 p rfl HO1.out rfl HL6.out HB1.out.size ?_)
  intro v2 w2 ho2 hb2
  have HO2 := Lib.hid ho2
  have HB2 := Lib.hid (HB1.out.trans hb2)
  clear ho2 hb2 HO1 HB1
  obtain ⟨z, hz⟩ : ∃ z, (119 - p.length % 64) % 64 = z := ⟨_, rfl⟩
  have HZ := Lib.hid hz
  obtain ⟨n, hpn⟩ : ∃ n, p.length = n := ⟨_, rfl⟩
  have HPn := Lib.hid hpn
  rw [hpn] at HL HL6 HZ m1 hz ⊢
  have HPad : Hid (padOf n = 128 :: List.replicate z 0 ++ lenBytes n) := Lib.hid (by rw [← hz]; rfl)
  have hz64 : z < 64 := by omega
  clear hpn
  have HHz := Lib.hid hz
  clear hz
  go_wp2_with fail
  go_loopw [3] (fun s wr => ∃ j : Nat, j ≤ z ∧ OwnB wr w.heap.size s (p ++ 128 :: List.replicate j 0) ∧ Below w.heap.size w wr) (fun s _ => n + 1 + z - slLen s)
  case atStart => exact ⟨0, by omega, HO2.out, HB2.out⟩
  case round =>
    obtain ⟨j, hj, ho, hb⟩ := hrel
    clear HO2 HB2
    have hlen : (p ++ 128 :: List.replicate j 0).length = n + 1 + j := by
      rw [List.length_append, List.length_cons, List.length_replicate, HPn.out]; omega
    obtain ⟨Aj, cj, rfl⟩ := ho.len
    rw [hlen] at ho ⊢
    have HLe := Lib.hid hlen
    have HHl := HL.out
    by_cases hjz : j < z
    · have hm : ((n + 1 + j : Nat) : Int).tmod 64 = (((n + 1 + j) % 64 : Nat) : Int) := by rw [Int.tmod_eq_emod_of_nonneg (by omega)]; omega
      have hm2 : ((n + 1 + j : Nat) : Int) % 64 = (((n + 1 + j) % 64 : Nat) : Int) := by omega
      have hne : (n + 1 + j) % 64 ≠ 56 := by have := HHz.out; omega
      have hneI : ((((n + 1 + j) % 64 : Nat) : Int) != 56) = true := by simp; omega
      obtain ⟨q, hq⟩ : ∃ q, n + 1 + j = q := ⟨_, rfl⟩
      rw [hq] at hm hm2 hneI ho HLe ⊢
      generalize q % 64 = q64 at *
      have HO := Lib.hid ho
      have HLL : Hid ((p ++ 128 :: List.replicate j 0).length ≤ 1000000) := Lib.hid (by rw [hlen]; omega)
      have HBb := Lib.hid hb
      have HQ := Lib.hid hq
      clear ho hb hlen hq hne HHl
      go_wp2_with (at_builtin; refine app_byte0 rfl _ _ rfl w.heap.size _ _ rfl HO.out rfl HLL.out HBb.out.size ?_)
      intro v3 w3 ho3 hb3
      have hl3 : slLen v3 = q + 1 := by
        obtain ⟨A3, c3, rfl⟩ := ho3.len
        simp [slLen, HLe.out]
        have := HLe.out
        simp at this
        omega
      have HL3 := Lib.hid hl3
      have HF := Lib.hid (And.intro ho3 (HBb.out.trans hb3))
      clear ho3 hb3 hl3 hm hm2 hneI
      go_wp2_with fail
      go_roundw
      case rel => exact ⟨j + 1, by omega, by have := HF.out.1; rw [List.replicate_succ']; simpa [List.append_assoc] using this, HF.out.2⟩
      case measure => rw [HL3.out]; simp only [slLen]; have := HQ.out; omega
    · obtain rfl : j = z := by omega
      have hm : ((n + 1 + j : Nat) : Int).tmod 64 = 56 := by have := HHz.out; rw [Int.tmod_eq_emod_of_nonneg (by omega)]; omega
      have hm2 : ((n + 1 + j : Nat) : Int) % 64 = 56 := by have := HHz.out; omega
      obtain ⟨q, hq⟩ : ∃ q, n + 1 + j = q := ⟨_, rfl⟩
      rw [hq] at hm hm2 ho HLe ⊢
      have HO := Lib.hid ho
      have HBb := Lib.hid hb
      have hmul : IntKind.u64.wrap ((n : Int) * 8) = ((8 * n : Nat) : Int) := by rw [u64_wrap]; omega
      have hcv : IntKind.u64.wrap (n : Int) = (n : Int) := by rw [u64_wrap]; omega
      have HQ := Lib.hid hq
      have HNn : Hid (n ≤ 900000) := Lib.hid HHl
      clear ho hb hlen hq HHl
      have HU0 : Hid (unitN 0 = 72057594037927936) := Lib.hid (by unfold unitN; decide)
      obtain ⟨pre, hpre⟩ : ∃ pre, p ++ 128 :: List.replicate j 0 = pre := ⟨_, rfl⟩
      rw [hpre] at HO HLe
      have HPre := Lib.hid hpre
      obtain ⟨n8, hn8⟩ : ∃ n8, 8 * n = n8 := ⟨_, rfl⟩
      rw [hn8] at hmul
      have HN8 := Lib.hid hn8
      clear hpre hn8
      go_wp2_with fail
      go_loopw [3, 5] (fun s u wr => ∃ i : Nat, i ≤ 8 ∧ u = .int .u64 (unitN i : Int) ∧ OwnB wr w.heap.size s (pre ++ (lenBytes n).take i) ∧ Below w.heap.size w wr) (fun _ u _ => (intOf u).toNat)
      case atStart => exact ⟨0, by omega, by rw [HU0.out]; rfl, by simpa using HO.out, HBb.out⟩
      case round =>
        obtain ⟨i, hi, rfl, ho, hb⟩ := hrel
        clear HO HBb
        have hll : (pre ++ (lenBytes n).take i).length ≤ 1000000 := by
          have h1 := HLe.out
          have h2 := HQ.out
          have h3 := HNn.out
          rw [List.length_append, h1]
          have : ((lenBytes n).take i).length ≤ 8 := by simp [lenBytes]; omega
          omega
        by_cases hi8 : i < 8
        · have hup : 0 < unitN i := by rw [unit_pow i hi8]; exact Nat.pow_pos (by decide)
          have hnx := unit_next i
          have hule := unit_le i
          have hlb := len_byte n i hi8 HNn.out
          rw [HN8.out] at hlb
          have htk := take_next' (lenBytes n) i (by simp [lenBytes]; omega)
          obtain ⟨cb, hcb⟩ : ∃ cb, (lenBytes n).getD i 0 = cb := ⟨_, rfl⟩
          rw [hcb] at hlb htk
          obtain ⟨u, hu⟩ : ∃ u, unitN i = u := ⟨_, rfl⟩
          rw [hu] at hup hnx hlb hule ⊢
          have hule' : (u : Int) ≤ 72057594037927936 := by omega
          clear hule
          have hup' : (0 : Int) < (u : Int) := by omega
          have hn80 : (0 : Int) ≤ (n8 : Int) := by omega
          have hqd : (n8 : Int) / (u : Int) = ((n8 / u : Nat) : Int) := rfl
          obtain ⟨y, hy⟩ : ∃ y, n8 / u = y := ⟨_, rfl⟩
          rw [hy] at hqd hlb
          have hy1 : (y : Int) ≤ 7200000 := by
            have h1 := HNn.out
            have h2 := HN8.out
            have h3 : n8 / u ≤ n8 := Nat.div_le_self _ _
            omega
          have hy0 : (0 : Int) ≤ (y : Int) := by omega
          have HLb : Hid ((y : Int) % 256 = (cb.toNat : Int)) := Lib.hid (by rw [hlb]; omega)
          have HLw : Hid (IntKind.u8.wrap ((y : Int) % 256) = (cb.toNat : Int)) := Lib.hid (by rw [IntKind.wrap_u8', HLb.out]; have := cb.toNat_lt; omega)
          have HLm : Hid ((y : Int) % 256 % 256 = (cb.toNat : Int)) := Lib.hid (by rw [HLb.out]; have := cb.toNat_lt; omega)
          have HNx := Lib.hid hnx
          have HTk := Lib.hid htk
          have HO := Lib.hid ho
          have HLL := Lib.hid hll
          have HBb := Lib.hid hb
          clear hlb hnx htk hcb hu hy ho hll hb
          go_wp2_with (at_builtin; (first | rw [HLm.out] | rw [HLw.out] | rw [HLb.out]); refine wpList_app_byte rfl _ _ rfl w.heap.size _ _ rfl HO.out cb rfl HLL.out HBb.out.size ?_)
          intro v3 w3 ho3 _ _ hb3 _
          have HF := Lib.hid (And.intro ho3 (HBb.out.trans hb3))
          have htd : IntKind.u64.wrap ((u : Int).tdiv 256) = ((u / 256 : Nat) : Int) := by rw [Int.tdiv_eq_ediv_of_nonneg (by omega), u64_wrap]; omega
          have htd2 : IntKind.u64.wrap ((u : Int) / 256) = ((u / 256 : Nat) : Int) := by rw [u64_wrap]; omega
          obtain ⟨u2, hu2⟩ : ∃ u2, u / 256 = u2 := ⟨_, rfl⟩
          have hul : u2 < u := by omega
          rw [hu2] at htd htd2 HNx
          clear hu2 hule' hup'
          clear ho3 hb3 hqd
          go_wp2_with fail
          go_roundw
          case rel => exact ⟨i + 1, by omega, by rw [HNx.out], by have := HF.out.1; rw [HTk.out]; simpa [List.append_assoc] using this, HF.out.2⟩
          case measure => simp [intOf]; omega
        · obtain rfl : i = 8 := by omega
          rw [unit_last] at *
          have HO := Lib.hid ho
          have HB := Lib.hid hb
          clear ho hb hll
          go_wp2_with fail
          go_ret
          refine ⟨_, rfl, ?_, HB.out⟩
          have := HO.out
          rw [List.take_of_length_le (by simp [lenBytes]), ← HPre.out] at this
          rw [HPn.out, HPad.out]
          simpa [List.append_assoc] using this
end Go.Proofs.YthdbhajpjkkehaaDoor
