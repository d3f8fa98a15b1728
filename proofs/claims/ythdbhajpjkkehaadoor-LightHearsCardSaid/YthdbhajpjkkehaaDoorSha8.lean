/- digest.Sum: of bytes. -/
import Derived.Test.YthdbhajpjkkehaaDoorBy3
namespace Go.Proofs.YthdbhajpjkkehaaDoor
open Go.RowKit Go.Lib Sha
set_option linter.unusedVariables false
set_option linter.unusedSimpArgs false

def objSt (st : St) (rv : Value) (n : Int) : Obj := .cells #[wV st.a, wV st.b, wV st.c, wV st.d, wV st.e, wV st.f, wV st.g, wV st.h, rv, .int .u64 n] 110
theorem stAt_box (w : World) (st : St) (rv : Value) (n : Int) : StAt (w.alloc (objSt st rv n)) w.heap.size st rv n :=
  World.rowIs_alloc w _ _ _ (fun i hi => by
    have h : i < 10 := hi
    match i, h with
    | 0, _ => rfl
    | 1, _ => rfl
    | 2, _ => rfl
    | 3, _ => rfl
    | 4, _ => rfl
    | 5, _ => rfl
    | 6, _ => rfl
    | 7, _ => rfl
    | 8, _ => rfl
    | 9, _ => rfl)
abbrev WordsAt (w : World) (g : Nat) (st : St) (rv : Value) (n : Int) : Prop :=
    w.cell? ⟨g, 0, none⟩ = some (wV st.a) ∧ w.cell? ⟨g, 1, none⟩ = some (wV st.b) ∧ w.cell? ⟨g, 2, none⟩ = some (wV st.c) ∧ w.cell? ⟨g, 3, none⟩ = some (wV st.d) ∧ w.cell? ⟨g, 4, none⟩ = some (wV st.e) ∧ w.cell? ⟨g, 5, none⟩ = some (wV st.f) ∧ w.cell? ⟨g, 6, none⟩ = some (wV st.g) ∧ w.cell? ⟨g, 7, none⟩ = some (wV st.h) ∧ w.cell? ⟨g, 8, none⟩ = some rv ∧ w.cell? ⟨g, 9, none⟩ = some (.int .u64 n)
theorem StAt.words {w : World} {g : Nat} {st : St} {rv : Value} {n : Int} (h : StAt w g st rv n) :
    w.cell? ⟨g, 0, none⟩ = some (wV st.a) ∧ w.cell? ⟨g, 1, none⟩ = some (wV st.b) ∧ w.cell? ⟨g, 2, none⟩ = some (wV st.c) ∧ w.cell? ⟨g, 3, none⟩ = some (wV st.d) ∧ w.cell? ⟨g, 4, none⟩ = some (wV st.e) ∧ w.cell? ⟨g, 5, none⟩ = some (wV st.f) ∧ w.cell? ⟨g, 6, none⟩ = some (wV st.g) ∧ w.cell? ⟨g, 7, none⟩ = some (wV st.h) ∧ w.cell? ⟨g, 8, none⟩ = some rv ∧ w.cell? ⟨g, 9, none⟩ = some (.int .u64 n) :=
  ⟨World.rowIs.cell h (i := 0) (by omega), World.rowIs.cell h (i := 1) (by omega), World.rowIs.cell h (i := 2) (by omega), World.rowIs.cell h (i := 3) (by omega), World.rowIs.cell h (i := 4) (by omega), World.rowIs.cell h (i := 5) (by omega), World.rowIs.cell h (i := 6) (by omega), World.rowIs.cell h (i := 7) (by omega), h.rest, h.num⟩
theorem app_zeros128 {ops : Array Oper} {rest : List Oper} {o : Oper} {a : Act} {Q : Exit → Act → World → Prop} {w : World} (hgd : o.guard = none) (s x : Operand)
    (ho : o.op = .call { callee := .builtin .append, args := #[s, x], argTypes := #[66, 24] })
    (hs : a.eval s = .slice (some ⟨w.heap.size, 0, none⟩) 1 1) (z : Nat) (hx : a.eval x = .int .u64 (z : Int)) (hz : z ≤ 64)
    (h : ∀ v' w', OwnB w' w.heap.size v' (128 :: List.replicate z 0) → Below w.heap.size w w' → wpList Tryd.prog ops Q rest (a.put o.dst v') w') :
    wpList Tryd.prog ops Q (o :: rest) a (w.alloc (.cells #[.int .u8 128] 5)) := wpList_app_zeros hgd s x ho 128 hs z hx hz h
theorem take_next (l : List UInt8) (i : Nat) (h : i < l.length) : l.take (i + 1) = l.take i ++ [l.getD i 0] := by
  rw [List.take_succ_eq_append_getElem h, List.getD_eq_getElem?_getD, List.getElem?_eq_getElem h]; rfl
theorem lenByte_val (n i : Nat) (h : i < 8) (hn : n ≤ 900000) : (8 * (n : Int)) / 2 ^ (56 - 8 * i) % 256 = (((lenBytes n).getD i 0).toNat : Int) := by
  have e : (lenBytes n).getD i 0 = UInt8.ofNat (8 * n % 18446744073709551616 / 256 ^ (7 - i) % 256) := by
    unfold lenBytes
    rw [List.getD_eq_getElem?_getD, List.getElem?_map, List.getElem?_range h]; rfl
  have e2 : 2 ^ (56 - 8 * i) = 256 ^ (7 - i) := by
    rw [show (256 : Nat) = 2 ^ 8 by decide, ← Nat.pow_mul]; congr 1; omega
  rw [e, UInt8.toNat_ofNat', Nat.mod_eq_of_lt (show 8 * n < 18446744073709551616 by omega), ← e2, show 2 ^ 8 = 256 by decide, Nat.mod_mod, Int.natCast_emod, Int.natCast_ediv, Int.natCast_mul, Int.natCast_pow]
  rfl
theorem cell_new (w : World) (v : Value) (t : TypeId) : (w.alloc (.cells #[v] t)).cell? ⟨w.heap.size, 0, none⟩ = some v := by
  have := range_alloc w #[v] t 0 v rfl
  rw [Nat.zero_add] at this
  exact this
def hcell (st : St) (i j : Nat) : Value := .int .u8 (if j < i then ((Sha.byteOf st j).toNat : Int) else 0)
theorem hcell_next (st : St) (i j : Nat) : (if j = i then .int .u8 ((Sha.byteOf st i).toNat : Int) else hcell st i j) = hcell st (i + 1) j := by
  unfold hcell
  by_cases h : j = i
  · subst h; simp
  · by_cases h2 : j < i
    · simp [h, h2, show j < i + 1 by omega]
    · simp [h, h2, show ¬ j < i + 1 by omega]
theorem byte_val (st : St) (i : Nat) : (((st.list.getD (i / 4) 0).toNat : Nat) : Int) / 2 ^ (24 - 8 * (i % 4)) % 256 = ((Sha.byteOf st i).toNat : Int) := by
  unfold Sha.byteOf
  have e2 : 2 ^ (24 - 8 * (i % 4)) = 256 ^ (3 - i % 4) := by
    rw [show (256 : Nat) = 2 ^ 8 by decide, ← Nat.pow_mul]; congr 1; omega
  rw [UInt8.toNat_ofNat', show 2 ^ 8 = 256 by decide, Nat.mod_mod, ← e2, Int.natCast_emod, Int.natCast_ediv, Int.natCast_pow]
  rfl
def hsumV (st : St) : List Value := st.bytes.map fun c => .int .u8 (c.toNat : Int)
theorem hsumV_eq (st : St) : hsumV st = (List.range 32).map fun i => .int .u8 ((Sha.byteOf st i).toNat : Int) := by
  unfold hsumV St.bytes; rw [List.map_map]; rfl
theorem hsumV_length (st : St) : (hsumV st).length = 32 := by simp [hsumV, St.bytes]
theorem hsumV_one (st : St) : ∀ v ∈ hsumV st, v.oneCell' = true := by
  intro v hv
  obtain ⟨i, _, rfl⟩ := List.mem_map.1 hv
  rfl
theorem hcell_all (st : St) (j : Nat) (h : j < 32) : hcell st 32 j = .int .u8 ((Sha.byteOf st j).toNat : Int) := by
  unfold hcell; rw [if_pos h]
theorem hinfo32 : (Tryd.prog.info? 38).map (·.size) = some 32 := by kernel_rfl
theorem sum_end {st st1 : St} {q1 all pd : List UInt8} (hst : st = St.begin.blocks all) (h : st1.blocks q1 = st.blocks (restOf all ++ pd)) (hl : q1.length < 64) (hp : pd = padOf all.length) : hsumV st1 = (sum all).map fun c => .int .u8 (c.toNat : Int) := by
  rw [blocks_short st1 q1 hl, hst, ← blocks_append, hp] at h
  rw [h]; rfl
def hob32 : Obj := .cells #[.int .u8 0, .int .u8 0, .int .u8 0, .int .u8 0, .int .u8 0, .int .u8 0, .int .u8 0, .int .u8 0, .int .u8 0, .int .u8 0, .int .u8 0, .int .u8 0, .int .u8 0, .int .u8 0, .int .u8 0, .int .u8 0, .int .u8 0, .int .u8 0, .int .u8 0, .int .u8 0, .int .u8 0, .int .u8 0, .int .u8 0, .int .u8 0, .int .u8 0, .int .u8 0, .int .u8 0, .int .u8 0, .int .u8 0, .int .u8 0, .int .u8 0, .int .u8 0] 38
theorem hzero32 (w : World) : (w.alloc hob32).rowIs w.heap.size 38 32 (fun _ => .int .u8 0) :=
  World.rowIs_alloc w _ _ _ (fun i hi => by
    have h : i < 32 := hi
    have e : (#[.int .u8 0, .int .u8 0, .int .u8 0, .int .u8 0, .int .u8 0, .int .u8 0, .int .u8 0, .int .u8 0, .int .u8 0, .int .u8 0, .int .u8 0, .int .u8 0, .int .u8 0, .int .u8 0, .int .u8 0, .int .u8 0, .int .u8 0, .int .u8 0, .int .u8 0, .int .u8 0, .int .u8 0, .int .u8 0, .int .u8 0, .int .u8 0, .int .u8 0, .int .u8 0, .int .u8 0, .int .u8 0, .int .u8 0, .int .u8 0, .int .u8 0, .int .u8 0] : Array Value) = Array.replicate 32 (.int .u8 0) := rfl
    rw [e, Array.getElem?_replicate, if_pos h])
set_option maxHeartbeats 4000000 in
set_option maxRecDepth 100000 in
theorem sum_calls (g : Nat) (st : St) (rv : Value) (q all : List UInt8) (w : World) (hS : StAt w g st rv (all.length : Int)) (hB : BRow w rv q) (hN : NilOr rv) (hst : st = St.begin.blocks all) (hq : q = restOf all) (hl : all.length ≤ 900000) (hK : KAt w) :
    Calls Tryd.prog 38 #[.pointer (some ⟨g, 0, none⟩)] w fun e w' => e = .returned (.agg ((sum all).map fun c => .int .u8 (c.toNat : Int)).toArray) ∧ Below w.heap.size w w' := by
  obtain ⟨Ar, cr, rfl, m1, m2, -⟩ := id hB
  have HW0 := Lib.hid hS.lt
  have HQl : Hid (q.length < 64) := Lib.hid (by rw [hq, rest_length]; omega)
  have HZ := hzero32 w
  have Q0 : Below w.heap.size w (w.alloc hob32) := (Below.refl _ _).alloc (Nat.le_refl _) _
  have hS0 : StAt (w.alloc hob32) g st (.slice Ar q.length cr) (all.length : Int) := World.rowIs.alloc hS _
  have hB0 := hB.below Q0
  have HCl := Lib.hid (clone_calls (.slice Ar q.length cr) q (w.alloc hob32).drew hB0 hN (by have := HQl.out; omega))
  have HSt := Lib.hid hst
  have HQq := Lib.hid hq
  have HL := Lib.hid hl
  have HK := Lib.hid hK
  obtain ⟨c0, c1, c2, c3, c4, c5, c6, c7, c8, c9⟩ := hS0.words
  have HS0 := Lib.hid hS0
  have hgs0 := hS0.lt
  have HGs := Lib.hid hS.lt
  clear hS hB hN hst hq hl hK hS0 hB0 m1 m2
  go_enter Tryd.func38, Tryd.ntmps38
  go_wp2_with fail
  obtain ⟨W0, hW0⟩ : ∃ W0, w.alloc hob32 = W0 := ⟨_, rfl⟩
  rw [hW0] at HZ Q0 c0 c1 c2 c3 c4 c5 c6 c7 c8 c9 HCl HS0 hgs0
  unfold hob32 at hW0
  rw [hW0]
  clear hW0
  obtain ⟨nn, hnn⟩ : ∃ nn, all.length = nn := ⟨_, rfl⟩
  obtain ⟨qn, hqn⟩ : ∃ qn, q.length = qn := ⟨_, rfl⟩
  rw [hnn] at c9 HS0 HL
  rw [hqn] at c8 HS0 HCl HQl
  have HNn := Lib.hid hnn
  have HQn := Lib.hid hqn
  clear hnn hqn
  have hE0 := HS0.out.words
  have hE1 : WordsAt W0.drew g st (.slice Ar qn cr) (nn : Int) := hE0
  go_region_held3 (fun w' => w'.cell? ⟨g, 0, none⟩ = some (wV st.a) ∧ w'.cell? ⟨g, 1, none⟩ = some (wV st.b) ∧ w'.cell? ⟨g, 2, none⟩ = some (wV st.c) ∧ w'.cell? ⟨g, 3, none⟩ = some (wV st.d) ∧ w'.cell? ⟨g, 4, none⟩ = some (wV st.e) ∧ w'.cell? ⟨g, 5, none⟩ = some (wV st.f) ∧ w'.cell? ⟨g, 6, none⟩ = some (wV st.g) ∧ w'.cell? ⟨g, 7, none⟩ = some (wV st.h) ∧ w'.cell? ⟨g, 8, none⟩ = some (.slice Ar qn cr) ∧ w'.cell? ⟨g, 9, none⟩ = some (.int .u64 (nn : Int)))
    (first | with_reducible exact hE1 | with_reducible exact hE9 | with_reducible exact hE10 _)
    (first
    | (go_at_call 43
       with_reducible refine HCl.out.mono ?_
       rintro e w9 ⟨v9, rfl, ho9, hn9, hb9⟩
       obtain ⟨A9, k9, rfl⟩ := ho9.len
       have hS9 : StAt w9 g st (.slice Ar qn cr) (nn : Int) := World.rowIs.of_block HS0.out (hb9.block _ hgs0)
       have hE9 : WordsAt w9 g st (.slice Ar qn cr) (nn : Int) := hS9.words
       have hE10 : ∀ o, WordsAt (w9.alloc o) g st (.slice Ar qn cr) (nn : Int) := fun o => StAt.words (World.rowIs.alloc hS9 o)
       have HO9 := Lib.hid ho9
       have HN9 := Lib.hid hn9
       have HB9 := Lib.hid hb9
       have HS9 := Lib.hid hS9
       clear ho9 hn9 hb9 hS9))
  clear c0 c1 c2 c3 c4 c5 c6 c7 c8 c9 hE0 hE1 hE9 hE10 HCl
  have HSe := Lib.hid (stAt_box w9 st (.slice A9 q.length k9) (nn : Int))
  have HSg : Hid (StAt (w9.alloc (objSt st (.slice A9 q.length k9) (nn : Int))) g st (.slice Ar qn cr) (nn : Int)) := Lib.hid (World.rowIs.alloc HS9.out _)
  have HOe : Hid (OwnB (w9.alloc (objSt st (.slice A9 q.length k9) (nn : Int))) W0.drew.heap.size (.slice A9 q.length k9) q) := Lib.hid (OwnR.alloc HO9.out _)
  have HOne : Hid ((Value.slice A9 q.length k9).ownBlock ≠ some w9.heap.size) := Lib.hid (fun e => by have := (OwnR.lt HO9.out _ e).2; omega)
  have HBW : Hid (Below w.heap.size w (w9.alloc (objSt st (.slice A9 q.length k9) (nn : Int)))) := Lib.hid ((Q0.drew.trans (HB9.out.mono (by have := Q0.size; exact this))).alloc (by have := Q0.size; have := HB9.out.size; simp at this; omega) _)
  have HBe : Hid (W0.drew.heap.size ≤ w9.heap.size) := Lib.hid HB9.out.size
  have HZ1 : Hid ((w9.alloc (objSt st (.slice A9 q.length k9) (nn : Int))).rowIs w.heap.size 38 32 (fun _ => .int .u8 0)) := Lib.hid (World.rowIs.alloc (World.rowIs.of_block HZ (HB9.out.block _ HZ.lt)) _)
  have hz1 : (w9.alloc (objSt st (.slice A9 q.length k9) (nn : Int))).heap.size = w9.heap.size + 1 := by simp
  obtain ⟨W1, hW1⟩ : ∃ W1, w9.alloc (objSt st (.slice A9 q.length k9) (nn : Int)) = W1 := ⟨_, rfl⟩
  rw [hW1] at HSe HSg HOe HBW HZ1 hz1
  unfold objSt at hW1
  rw [hW1]
  have HZs := Lib.hid hz1
  have HWsz : Hid (w.heap.size < W0.drew.heap.size) := Lib.hid HZ.lt
  obtain ⟨e1, he1⟩ : ∃ e1, w9.heap.size = e1 := ⟨_, rfl⟩
  rw [he1] at HSe HOne HBe HZs ⊢
  clear hW1 hz1 he1 HS9 HO9 HN9 HB9 HZ Q0 HS0 hgs0
  have hc9 : (W1.alloc (.cells #[.int .u8 128] 5)).cell? ⟨g, 9, none⟩ = some (.int .u64 (nn : Int)) := StAt.num (World.rowIs.alloc HSg.out _)
  obtain ⟨z, hz⟩ : ∃ z, (119 - nn % 64) % 64 = z := ⟨_, rfl⟩
  have hm1 : IntKind.u64.wrap (119 - (nn : Int) % 64) = ((119 - nn % 64 : Nat) : Int) := by rw [u64_wrap]; omega
  have hm2 : ((119 - nn % 64 : Nat) : Int) % 64 = (z : Int) := by omega
  have HZl : Hid (z ≤ 64) := Lib.hid (by omega)
  have HPad : Hid (padOf nn = 128 :: List.replicate z 0 ++ lenBytes nn) := Lib.hid (by rw [← hz]; rfl)
  clear hz
  generalize 119 - nn % 64 = y at *
  have hy0 : (0 : Int) ≤ (y : Int) := by omega
  have HM2 := Lib.hid hm2
  clear hm2
  go_wp2_with (at_builtin; refine app_zeros128 rfl _ _ rfl rfl z (congrArg (Value.int IntKind.u64) HM2.out) HZl.out ?_)
  intro v4 W2 ho4 hb4
  have HO4 := Lib.hid ho4
  have HB4 := Lib.hid hb4
  clear ho4 hb4 hc9 hm1 hy0 HM2
  have hc9 : W2.cell? ⟨g, 9, none⟩ = some (.int .u64 (nn : Int)) := (HB4.out.cell (p := ⟨g, 9, none⟩) (HSg.out.lt)).trans HSg.out.num
  have HC9 := Lib.hid hc9
  have HG2 := Lib.hid HSg.out.lt
  clear hc9
  go_wp2_with fail
  go_loopw [32, 4] (fun t s4 wr => ∃ i : Nat, t = .int .i64 (i : Int) ∧ i ≤ 8 ∧ OwnB wr W1.heap.size s4 (128 :: List.replicate z 0 ++ (lenBytes nn).take i) ∧ Below W1.heap.size W1 wr) (fun t _ _ => 8 - (intOf t).toNat)
  case atStart => exact ⟨0, rfl, by omega, by simpa using HO4.out, HB4.out⟩
  case round =>
    obtain ⟨i, rfl, hi, ho, hb⟩ := hrel
    clear HO4 HB4 HC9
    have hll : (128 :: List.replicate z 0 ++ (lenBytes nn).take i : List UInt8).length ≤ 1000000 := by
      have := HZl.out
      simp [lenBytes]; omega
    by_cases hi8 : i < 8
    · have hi8' : (i : Int) < 8 := by omega
      have hc9 : wr.cell? ⟨g, 9, none⟩ = some (.int .u64 (nn : Int)) := (hb.cell (p := ⟨g, 9, none⟩) HG2.out).trans HSg.out.num
      have hmul : IntKind.u64.wrap (8 * (nn : Int)) = 8 * (nn : Int) := by have := HL.out; rw [u64_wrap]; omega
      have hmi : IntKind.i64.wrap (8 * (i : Int)) = 8 * (i : Int) := IntWalk.i64_in _ (by omega)
      have hlb := lenByte_val nn i hi8 HL.out
      obtain ⟨sh, hsh⟩ : ∃ sh, 56 - 8 * i = sh := ⟨_, rfl⟩
      rw [hsh] at hlb
      have hsub : IntKind.i64.wrap (56 - 8 * (i : Int)) = (sh : Int) := by rw [IntWalk.i64_in _ (by omega)]; omega
      have hs0 : (0 : Int) ≤ (sh : Int) := by omega
      have hs1 : (sh : Int) ≤ 64 := by omega
      have htk := take_next (lenBytes nn) i (by simp [lenBytes]; omega)
      have HTk := Lib.hid htk
      obtain ⟨cb, hcb⟩ : ∃ cb, (lenBytes nn).getD i 0 = cb := ⟨_, rfl⟩
      rw [hcb] at hlb HTk
      have HLb := Lib.hid hlb
      have HO := Lib.hid ho
      have HLL := Lib.hid hll
      have HBb := Lib.hid hb
      clear hcb htk hlb ho hll hb hsh
      have HLw : Hid (IntKind.u8.wrap (8 * (nn : Int) / 2 ^ sh) = (cb.toNat : Int)) := Lib.hid (by rw [IntKind.wrap_u8']; exact HLb.out)
      go_wp2_with (at_builtin; (first | rw [HLb.out] | rw [HLw.out]); refine wpList_app_byte rfl _ _ rfl W1.heap.size _ _ rfl HO.out cb rfl HLL.out HBb.out.size ?_)
      intro v' w' ho' _ _ hb' _
      have hbb := HBb.out.trans hb'
      clear hc9 hmul hmi hsub hs0 hs1
      go_wp2_with fail
      go_roundw
      case rel => exact ⟨i + 1, by go_num, by omega, by rw [HTk.out]; simpa [List.append_assoc] using ho', hbb⟩
      case measure => simp [intOf]; omega
    · obtain rfl : i = 8 := by omega
      have hpad : (128 :: List.replicate z 0 ++ (lenBytes nn).take 8 : List UInt8) = padOf nn := by
        rw [List.take_of_length_le (by simp [lenBytes]), HPad.out]
      rw [hpad] at ho hll
      obtain ⟨pd, hpd⟩ : ∃ pd, padOf nn = pd := ⟨_, rfl⟩
      rw [hpd] at ho hll
      have HPd := Lib.hid hpd
      obtain ⟨Ap, cp, rfl⟩ := ho.len
      have HPl : Hid (pd.length ≤ 200) := Lib.hid (by rw [← hpd]; simp [padOf, lenBytes]; omega)
      have HO := Lib.hid ho
      have HB := Lib.hid hb
      have HLL := Lib.hid hll
      clear ho hb hll hpad hpd
      have Q3 : Below W1.heap.size W1 (wr.alloc (.cells #[.slice Ap pd.length cp] 66)) := HB.out.alloc HB.out.size _
      have hK3 : KAt (wr.alloc (.cells #[.slice Ap pd.length cp] 66)) := fun i hi => by
        have h1 := HK.out i hi
        have h2 := World.block_lt_of_cell? w _ h1
        exact ((HBW.out.trans (Q3.mono HBW.out.size)).cell (p := ⟨2, i, none⟩) h2).trans h1
      have HA := Lib.hid (add_calls e1 st (.slice A9 q.length k9) q nn wr.heap.size 0 1 (.slice Ap pd.length cp) pd (wr.alloc (.cells #[.slice Ap pd.length cp] 66)) W0.drew.heap.size
        (World.rowIs.alloc (World.rowIs.of_block HSe.out (HB.out.block _ HSe.out.lt)) _)
        (OwnR.later HOe.out Q3) HOne.out (cell_new _ _ _) (HO.out.row.below ((Below.refl _ _).alloc (Nat.le_refl _) _)) (own_nil_or HO.out)
        (fun e => by have := (OwnR.lt HO.out _ e).1; have := HSe.out.lt; omega)
        (by have := HSe.out.lt; have := HB.out.size; omega) hK3
        (by have := World.block_lt_of_cell? w _ (HK.out 0 (by omega)); have h2 : 2 < w.heap.size := this; have := HWsz.out; omega) HBe.out (by have := HQl.out; have := HQn.out; omega) (by have := HPl.out; omega) (by have := HL.out; omega) _ rfl _ rfl)
      clear hK3 Q3
      go_wp2_with fail
      refine HA.out.mono ?_
      rintro e w4 ⟨rfl, hT, hRL⟩
      have HT := Lib.hid hT
      have HRL := Lib.hid hRL
      clear hT hRL HA
      obtain ⟨st1, rv1, q1, S1, B1, -, -, hb4, hbl, -, -⟩ := HT.out
      obtain ⟨A1, c1, rfl, -⟩ := id B1
      have hq1 : q1.length < 64 := by
        have := HRL.out
        unfold restLen at this
        rw [S1.rest] at this
        exact this
      rw [HQq.out] at hbl
      have HSum := Lib.hid (sum_end HSt.out hbl hq1 (by rw [← HPd.out, HNn.out]))
      have Q3 : Below W1.heap.size W1 (wr.alloc (.cells #[.slice Ap pd.length cp] 66)) := HB.out.alloc HB.out.size _
      have hbW : Below w.heap.size w w4 := (HBW.out.trans (Q3.mono HBW.out.size)).trans (hb4.mono (Nat.le_of_lt HWsz.out))
      have HZ4 : w4.rowIs w.heap.size 38 32 (fun _ => .int .u8 0) := World.rowIs.of_block (World.rowIs.of_block HZ1.out (Q3.block _ HZ1.out.lt)) (hb4.block _ HWsz.out)
      have HZ5 := Lib.hid (World.rowIs.alloc HZ4 hob32)
      have HS5 : Hid (StAt (w4.alloc hob32) e1 st1 (.slice A1 q1.length c1) _) := Lib.hid (World.rowIs.alloc S1 _)
      have HR5 := Lib.hid (hzero32 w4)
      have HB5 : Hid (Below w.heap.size w (w4.alloc hob32)) := Lib.hid (hbW.alloc hbW.size _)
      have HE4 : Hid (e1 < w4.heap.size) := Lib.hid S1.lt
      have HW4 : Hid (w.heap.size < w4.heap.size) := Lib.hid HZ4.lt
      have HEw : Hid (w.heap.size < e1) := Lib.hid (by have := HBe.out; have := HWsz.out; omega)
      clear S1 B1 hb4 hbl hq1 Q3 hbW HZ4 HT HRL HO HB HLL HSe HSg HOe HOne HBW HZ1 HBe HZs HPd
      go_wp2_with fail
      obtain ⟨W5, hW5⟩ : ∃ W5, w4.alloc hob32 = W5 := ⟨_, rfl⟩
      rw [hW5] at HZ5 HS5 HR5 HB5
      unfold hob32 at hW5
      rw [hW5]
      clear hW5
      go_loopw [53] (fun t wx => ∃ i : Nat, t = .int .i64 (i : Int) ∧ i ≤ 32 ∧ wx.rowIs w4.heap.size 38 32 (hcell st1 i) ∧ Hid (wx.rowIs w.heap.size 38 32 (fun _ => .int .u8 0)) ∧ (∀ j, j < 8 → wx.cell? ⟨e1, j, none⟩ = some (wV (st1.list.getD j 0))) ∧ Below w.heap.size w wx) (fun t _ => 32 - (intOf t).toNat)
      case atStart => exact ⟨0, rfl, by omega, HR5.out.congr fun j _ => by simp [hcell], HZ5, fun j hj => (HS5.out.cell (by omega)).trans (by unfold stC; rw [if_pos hj]), HB5.out⟩
      case round =>
        obtain ⟨i, rfl, hi, hR, HZ, hS, hb⟩ := hrel
        clear HZ5 HS5 HR5 HB5
        by_cases hi32 : i < 32
        · have hi32' : (i : Int) < 32 := by omega
          have hbv := byte_val st1 i
          have hcw := hS (i / 4) (by omega)
          have hcr : wr.cell? ⟨w4.heap.size, i, none⟩ = some (hcell st1 i i) := hR.cell hi32
          have hcr2 : hcell st1 i i = .int .u8 0 := by unfold hcell; simp
          rw [hcr2] at hcr
          have hfr := hR.frozen i
          have hlt := hR.lt
          have HRn := Lib.hid ((hR.set i (.int .u8 ((Sha.byteOf st1 i).toNat : Int))).congr fun j _ => hcell_next st1 i j)
          have HZn := Lib.hid (World.rowIs.setOther HZ.out (a := ⟨w4.heap.size, i, none⟩) (by show w.heap.size ≠ w4.heap.size; have := HW4.out; omega) (.int .u8 ((Sha.byteOf st1 i).toNat : Int)))
          have HSn : Hid (∀ j, j < 8 → (wr.setCell ⟨w4.heap.size, i, none⟩ (.int .u8 ((Sha.byteOf st1 i).toNat : Int))).cell? ⟨e1, j, none⟩ = some (wV (st1.list.getD j 0))) := Lib.hid (fun j hj => (World.cell?_setCell_other _ _ _ _ (fun e => by have := congrArg Addr.block e; simp at this; have := HE4.out; omega)).trans (hS j hj))
          have HBn : Hid (Below w.heap.size w (wr.setCell ⟨w4.heap.size, i, none⟩ (.int .u8 ((Sha.byteOf st1 i).toNat : Int)))) := Lib.hid (hb.setCell (by show w.heap.size ≤ w4.heap.size; have := HW4.out; omega) _)
          clear hR HZ hS hb hcr2
          have hq : (i : Int).tdiv 4 = ((i / 4 : Nat) : Int) := by rw [Int.tdiv_eq_ediv_of_nonneg (by omega)]; omega
          have hr : (i : Int).tmod 4 = ((i % 4 : Nat) : Int) := by rw [Int.tmod_eq_emod_of_nonneg (by omega)]; omega
          have hq2 : (i : Int) / 4 = ((i / 4 : Nat) : Int) := by omega
          have hr2 : (i : Int) % 4 = ((i % 4 : Nat) : Int) := by omega
          have hq8 : i / 4 < 8 := by omega
          have hr4 : i % 4 < 4 := by omega
          obtain ⟨bb, hbb⟩ : ∃ bb, Sha.byteOf st1 i = bb := ⟨_, rfl⟩
          rw [hbb] at HRn HZn HSn HBn hbv
          clear hbb
          obtain ⟨x, hx⟩ : ∃ x, st1.list.getD (i / 4) 0 = x := ⟨_, rfl⟩
          rw [hx] at hcw hbv
          clear hx
          generalize i / 4 = q4 at *
          generalize i % 4 = r4 at *
          have hq8' : (q4 : Int) < 8 := by omega
          have w2 : IntKind.i64.wrap (8 * (r4 : Int)) = 8 * (r4 : Int) := IntWalk.i64_in _ (by omega)
          obtain ⟨sh, hsh⟩ : ∃ sh, 24 - 8 * r4 = sh := ⟨_, rfl⟩
          rw [hsh] at hbv
          have w3 : IntKind.i64.wrap (24 - 8 * (r4 : Int)) = (sh : Int) := by rw [IntWalk.i64_in _ (by omega)]; omega
          have s0 : (0 : Int) ≤ (sh : Int) := by omega
          have s1 : (sh : Int) ≤ 64 := by omega
          have HMin : Hid (min sh 32 = sh) := Lib.hid (by omega)
          have HBv := Lib.hid hbv
          clear hsh hbv
          go_wp2_with fail
          rw [HMin.out, HBv.out]
          go_roundw
          case rel => exact ⟨i + 1, by go_num, by omega, HRn.out, HZn, HSn.out, HBn.out⟩
          case measure => simp [intOf]; omega
        · obtain rfl : i = 32 := by omega
          have HRg := Lib.hid (show wr.rangeAt w4.heap.size 0 (hsumV st1) by rw [hsumV_eq]; exact rowIs_range (hR.congr fun j hj => hcell_all st1 j hj))
          have HTh := Lib.hid (show wr.there w.heap.size 0 (hsumV st1).toArray.size by have := rowIs_there HZ.out; simpa [hsumV_length] using this)
          have HI := Lib.hid (show (Tryd.prog.info? 38).map (·.size) = some (hsumV st1).length by rw [hsumV_length]; exact hinfo32)
          have HI2 := Lib.hid (show (Tryd.prog.info? 38).map (·.size) = some (hsumV st1).toArray.size by rw [List.size_toArray, hsumV_length]; exact hinfo32)
          have HO := Lib.hid (all_oneCell_toArray (hsumV_one st1))
          have HRr := Lib.hid (World.rangeAt_setCells_same wr w.heap.size 0 (hsumV st1) (by have := HTh.out; simpa using this))
          have HBf := Lib.hid hb
          obtain ⟨ws, hws⟩ : ∃ ws, hsumV st1 = ws := ⟨_, rfl⟩
          rw [hws] at HRg HTh HI HI2 HO HRr HSum
          clear hws hR HZ hS hb
          go_wp2_with (first
            | refine wpList_load_mid rfl 38 _ rfl w4.heap.size 0 rfl ws (.array 32 5) HRg.out Tryd.underlying38 rfl HI.out ?_
            | refine wpList_store_mid rfl 38 _ _ rfl w.heap.size 0 ws.toArray rfl rfl HTh.out HI2.out HO.out ?_)
          exact bodyPost_ret (v := .agg ws.toArray) (results_cell_mid rfl _ _ w.heap.size ws (.array 32 5) rfl HRr.out Tryd.underlying38 rfl HI.out) rfl ⟨by rw [HSum.out], below_setCells (Nat.le_refl _) _ _ _ HBf.out⟩
end Go.Proofs.YthdbhajpjkkehaaDoor

namespace Go.Proofs.YthdbhajpjkkehaaDoor
open Go.RowKit Go.Lib Sha
set_option linter.unusedVariables false
set_option linter.unusedSimpArgs false

def sumL (p : List UInt8) : List Value := (sum p).map fun c => .int .u8 (c.toNat : Int)
theorem sumL_length (p : List UInt8) : (sumL p).length = 32 := by simp [sumL, sum_length]
theorem sumL_one (p : List UInt8) : ∀ v ∈ sumL p, v.oneCell' = true := by
  intro v hv
  obtain ⟨i, _, rfl⟩ := List.mem_map.1 hv
  rfl
theorem KAt.below {w w' : World} (h : KAt w) (hb : Below w.heap.size w w') : KAt w' := fun i hi => (hb.cell (p := ⟨2, i, none⟩) (World.block_lt_of_cell? w _ (h i hi))).trans (h i hi)
theorem BAt.below {w w' : World} (h : BAt w) (hb : Below w.heap.size w w') : BAt w' := fun i hi => (hb.cell (p := ⟨0, i, none⟩) (World.block_lt_of_cell? w _ (h i hi))).trans (h i hi)
set_option maxHeartbeats 4000000 in
set_option maxRecDepth 100000 in
theorem dsum_calls (gp o c : Nat) (pv : Value) (p : List UInt8) (w : World) (hpc : w.cell? ⟨gp, o, none⟩ = some pv) (hP : BRow w pv p) (hN : NilOr pv) (hpl : ∀ k, pv.ownBlock = some k → k < w.heap.size) (hp : p.length ≤ 900000) (hK : KAt w) (hB : BAt w) :
    Calls Tryd.prog 27 #[.slice (some ⟨gp, o, none⟩) 1 c] w fun e w' => e = .returned (.agg (sumL p).toArray) ∧ Below w.heap.size w w' := by
  have HZ := hzero32 w
  have Q0 : Below w.heap.size w (w.alloc hob32) := (Below.refl _ _).alloc (Nat.le_refl _) _
  have hgp := World.block_lt_of_cell? w _ hpc
  have hK0 := hK.below Q0
  have hB0 := hB.below Q0
  have hc0 : (w.alloc hob32).cell? ⟨gp, o, none⟩ = some pv := (Q0.cell (p := ⟨gp, o, none⟩) hgp).trans hpc
  have hP0 := hP.below Q0
  have HHp := Lib.hid hp
  have HHl := Lib.hid hpl
  have HNn := Lib.hid hN
  have hg0 : gp < (w.alloc hob32).heap.size := Nat.lt_of_lt_of_le hgp Q0.size
  have hwW : w.heap.size < (w.alloc hob32).heap.size := HZ.lt
  clear hpc hP hN hp hK hB hpl
  go_enter Tryd.func27, Tryd.ntmps27
  go_wp2_with fail
  obtain ⟨W0, hW0⟩ : ∃ W0, w.alloc hob32 = W0 := ⟨_, rfl⟩
  rw [hW0] at HZ Q0 hK0 hB0 hc0 hP0 hg0 hwW
  unfold hob32 at hW0
  rw [hW0]
  clear hW0
  have HC := Lib.hid hc0
  have HK := Lib.hid hK0
  have HP := Lib.hid hP0
  have HZ0 := Lib.hid HZ
  clear hc0 hK0 hP0 HZ
  refine (new_calls W0 hB0).mono ?_
  rintro e w1 ⟨rfl, hS1, hb1⟩
  clear hB0
  have hc1 := (hb1.cell (p := ⟨gp, o, none⟩) hg0).trans HC.out
  have hKb : 2 < W0.heap.size := World.block_lt_of_cell? W0 _ (HK.out 0 (by omega))
  have hA := add_calls W0.heap.size St.begin (.slice none 0 0) [] 0 gp o c pv p w1 W0.heap.size hS1 (OwnR.nil _ _ _ _) (by simp [Value.ownBlock]) hc1 (HP.out.below hb1) HNn.out
    (fun e => by have := HHl.out _ e; omega) (by omega) (HK.out.below hb1) hKb (Nat.le_refl _) (by simp) (by have := HHp.out; omega) (by omega) p (List.nil_append p) (p.length : Int) (by simp)
  have HA := Lib.hid hA
  have HB1 := Lib.hid hb1
  clear hA hc1 hS1 hb1 hKb
  go_wp2_with fail
  refine HA.out.mono ?_
  rintro e w2 ⟨rfl, ⟨st1, rv1, q, S1, B1, n1, -, hb2, hbl, hre, -⟩, hrl⟩
  obtain ⟨A1, c1, rfl, -⟩ := id B1
  have hq : q.length < 64 := by
    unfold restLen at hrl
    rw [S1.rest] at hrl
    exact hrl
  rw [blocks_short st1 q hq] at hbl
  rw [rest_short q hq] at hre
  have hbW : Below W0.heap.size W0 w2 := HB1.out.trans hb2
  have hs := sum_calls W0.heap.size st1 _ q p w2 S1 B1 n1 hbl hre HHp.out (HK.out.below hbW)
  have HS := Lib.hid hs
  have HBW := Lib.hid hbW
  clear hs hbW S1 B1 n1 hb2 hbl hre hrl hq HA
  go_wp2_with fail
  refine HS.out.mono ?_
  rintro e w3 ⟨rfl, hb3⟩
  have hbf : Below W0.heap.size W0 w3 := HBW.out.trans (hb3.mono HBW.out.size)
  have HBf : Hid (Below w.heap.size w w3) := Lib.hid (Q0.trans (hbf.mono (Nat.le_of_lt hwW)))
  have HZ3 : w3.rowIs w.heap.size 38 32 (fun _ => .int .u8 0) := World.rowIs.of_block HZ0.out (hbf.block _ hwW)
  have HI2 := Lib.hid (show (Tryd.prog.info? 38).map (·.size) = some (sumL p).toArray.size by rw [List.size_toArray, sumL_length]; exact hinfo32)
  have HI := Lib.hid (show (Tryd.prog.info? 38).map (·.size) = some (sumL p).length by rw [sumL_length]; exact hinfo32)
  have HO := Lib.hid (all_oneCell_toArray (sumL_one p))
  have HTh := Lib.hid (show w3.there w.heap.size 0 (sumL p).toArray.size by have := rowIs_there HZ3; simpa [sumL_length] using this)
  have HRr := Lib.hid (World.rangeAt_setCells_same w3 w.heap.size 0 (sumL p) (by have := HTh.out; simpa using this))
  clear hbf HZ3 hb3 HS HBW
  have HE : Hid (((sum p).map fun c => Value.int .u8 (c.toNat : Int)) = sumL p) := Lib.hid rfl
  rw [HE.out]
  obtain ⟨ws, hws⟩ : ∃ ws, sumL p = ws := ⟨_, rfl⟩
  rw [hws] at HI HI2 HO HTh HRr ⊢
  have HWs := Lib.hid hws
  clear hws HE
  go_wp2_with (refine wpList_store_mid rfl 38 _ _ rfl w.heap.size 0 ws.toArray rfl rfl HTh.out HI2.out HO.out ?_)
  exact bodyPost_ret (v := .agg ws.toArray) (results_cell_mid rfl _ _ w.heap.size ws (.array 32 5) rfl HRr.out Tryd.underlying38 rfl HI.out) rfl ⟨by rw [HWs.out], below_setCells (Nat.le_refl _) _ _ _ HBf.out⟩
end Go.Proofs.YthdbhajpjkkehaaDoor
