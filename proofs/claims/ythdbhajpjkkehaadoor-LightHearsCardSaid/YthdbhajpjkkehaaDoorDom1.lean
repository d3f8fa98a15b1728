/- domain.Text: a tag, and parts. -/
import Derived.Test.YthdbhajpjkkehaaDoorBy3
import Derived.Deep.RegionLaw
import Derived.Test.YthdbhajpjkkehaaDoorSha8
import Derived.Test.YthdbhajpjkkehaaDoorRead
namespace Go.Proofs.YthdbhajpjkkehaaDoor
open Go.RowKit Go.Lib
set_option linter.unusedVariables false
set_option linter.unusedSimpArgs false

theorem brow_new (w : World) (c : UInt8) (y : Int) (hy : y = (c.toNat : Int)) : BRow (w.alloc (.cells #[.int .u8 y] 5)) (.slice (some ⟨w.heap.size, 0, none⟩) 1 1) [c] := by
  refine ⟨_, 1, rfl, Nat.le_refl _, by unfold maxLen; omega, .inr ⟨w.heap.size, 0, rfl, fun i hi => ?_⟩⟩
  obtain rfl : i = 0 := by simpa using hi
  have := range_alloc w #[.int .u8 y] 5 0 (.int .u8 y) rfl
  rw [this, hy]; rfl
theorem run_app_bytes (w : World) (ty : TypeId) (base : Nat) (v : Value) (l l2 : List UInt8) (hown : OwnB w base v l) (xv : Value) (hrec : BRow w xv l2) (hnil : NilOr xv) (hlen : l.length ≤ 1000000) (hlen2 : l2.length ≤ 1000000) (hbase : base ≤ w.heap.size) :
    ∃ A' c' w', (Builtin.append_ #[66, 66] ty #[v, xv]).run Tryd.prog w = .ok (.slice A' (l ++ l2).length c') w' ∧ OwnB w' base (.slice A' (l ++ l2).length c') (l ++ l2) ∧ w.grownBy w' v.ownBlock ∧ ((Value.slice A' (l ++ l2).length c').ownBlock = v.ownBlock ∨ (Value.slice A' (l ++ l2).length c').ownBlock = some w.heap.size) ∧ Below base w w' := by
  obtain ⟨i0, hi0, hz0, hz1, hz2⟩ := info_parts infoByte
  rcases hnil with rfl | ⟨ad, m, c, rfl⟩
  · obtain ⟨A', c', e, _⟩ := hrec
    obtain rfl : l2 = [] := List.length_eq_zero_iff.1 (Value.slice.inj e).2.1.symm
    have hr := run_append_owned_none (P := Tryd.prog) w base 66 ty 5 i0 1 Tryd.underlying66 hi0 v (l.map bC).length (l.map bC).flatten hown.1
    obtain ⟨A, c, rfl⟩ := hown.len
    exact ⟨A, c, w, by rw [List.append_nil]; exact hr, by rw [List.append_nil]; exact hown, World.grownBy.refl _ _, .inl (by rw [List.append_nil]), Below.refl _ _⟩
  · have hR := hrec.recs
    obtain ⟨A', c', e, q1, q2, q4, q3⟩ := id hR
    obtain ⟨rfl, rfl, rfl⟩ : some ad = A' ∧ m = (l2.map bC).length ∧ c = c' := by injection e with e1 e2 e3; exact ⟨e1, e2, e3⟩
    have hfl : (l2.map bC).flatten.length = (l2.map bC).length * 1 := flat_len (K := u8K) q4
    obtain ⟨v', w', hr, h2, h3, h4, h5⟩ := run_append_own_at (P := Tryd.prog) w base 66 ty 5 i0 (.int .u8 0) 1 1 Tryd.underlying66 hi0 hz0 hz1 hz2 rfl (by decide) v (l.map bC).length (l.map bC).flatten hown.1 ad (l2.map bC).length c (l2.map bC).flatten hfl (fun j u hj => by
        obtain ⟨p1, p2⟩ := flat_of (n := 1) (fun x hx => (q4 x hx).length) (by decide) j u hj
        obtain ⟨g, o', e1, _, hr, _⟩ := Recs.at (K := u8K) (by decide) hR (j / 1) p1
        cases e1
        have := hr (j % 1) u p2
        rw [Addr.add_lit]
        rw [show o' + j = o' + j / 1 * u8K.length + j % 1 by show o' + j = o' + j / 1 * 1 + j % 1; omega]
        exact this) (fun u hu => by
        obtain ⟨y, hy, hu'⟩ := List.mem_flatten.1 hu
        exact (q4 y hy).one u hu') (by rw [List.length_map, List.length_map]; unfold maxLen; omega) (by rw [List.length_map, List.length_map]; omega) hbase
    have ho : OwnB w' base v' (l ++ l2) := OwnB.app ⟨by rw [List.length_append, List.flatten_append]; exact h2, fun x hx => by
      rcases List.mem_append.1 hx with hx | hx
      · exact hown.2 x hx
      · exact q4 x hx⟩
    obtain ⟨A, c2, rfl⟩ := ho.len
    exact ⟨A, c2, w', hr, ho, h3, h5, (Below.refl base w).grown h3 hbase (fun k hk => (OwnR.lt hown k hk).1)⟩
/-- The same, as a step of a region that draws. -/
theorem step_app_bytes {ops : Array Oper} {o : Oper} {a : Act} {w : World} {K : Act → World → Prop} {Q : Exit → Act → World → Prop} {E : Prop} (hg : o.guard = none) (s x : Operand)
    (hop : o.op = Op.call { callee := Callee.builtin Builtin.append, args := #[s, x], argTypes := #[66, 66] }) (base : Nat) (v : Value) (l l2 : List UInt8) (hs : a.eval s = v) (hown : OwnB w base v l) (xv : Value) (hx : a.eval x = xv) (hrec : BRow w xv l2) (hnil : NilOr xv) (hlen : l.length ≤ 1000000) (hlen2 : l2.length ≤ 1000000) (hbase : base ≤ w.heap.size)
    (hK : ∀ A' c' w', OwnB w' base (.slice A' (l ++ l2).length c') (l ++ l2) → w.grownBy w' v.ownBlock → ((Value.slice A' (l ++ l2).length c').ownBlock = v.ownBlock ∨ (Value.slice A' (l ++ l2).length c').ownBlock = some w.heap.size) → Below base w w' → K (a.put o.dst (.slice A' (l ++ l2).length c')) w') :
    if Region.wanted o (yielded ops a.tmps) = true then Oper.wp Tryd.prog o a w K Q else E := by
  have hw : Region.wanted o (yielded ops a.tmps) = true := by simp [Region.wanted, hg]
  rw [if_pos hw]
  obtain ⟨A', c', w', hrun, h1, h2, h3, h4⟩ := run_app_bytes w o.type base v l l2 hown xv hrec hnil hlen hlen2 hbase
  unfold Oper.wp
  simp only [execOp, hop, resolve, invoke, builtin, Sem.run_bind, Sem.run_pure, Result.andThen_ok, List.map_toArray, List.map_cons, List.map_nil, hs, hx, hrun]
  exact hK A' c' w' h1 h2 h3 h4
end Go.Proofs.YthdbhajpjkkehaaDoor

namespace Go.Proofs.YthdbhajpjkkehaaDoor
open Go.RowKit Go.Lib Sha
set_option linter.unusedVariables false
set_option linter.unusedSimpArgs false

/-- A number's bytes, the highest first. -/
def beBytes (x size : Nat) : List UInt8 := (List.range size).map fun j => UInt8.ofNat (x / 256 ^ (size - 1 - j) % 256)
theorem beBytes_length (x size : Nat) : (beBytes x size).length = size := by simp [beBytes]
/-- A writer's bytes so far. -/
def WrAt (w : World) (base p : Nat) (N : Nat → Prop) (l : List UInt8) : Prop := ∃ A c, w.rowIs p 82 1 (fun _ => .slice A l.length c) ∧ OwnB w base (.slice A l.length c) l ∧ (Value.slice A l.length c).ownBlock ≠ some p ∧ base ≤ p ∧ (∀ k, (Value.slice A l.length c).ownBlock = some k → ¬ N k) ∧ ¬ N p ∧ (∀ k, N k → k < w.heap.size)
def Kept (N : Nat → Prop) (w w' : World) : Prop := ∀ k, N k → w'.heap[k]? = w.heap[k]?
theorem Kept.refl (N : Nat → Prop) (w : World) : Kept N w w := fun _ _ => rfl
theorem Kept.trans {N : Nat → Prop} {a b c : World} (h : Kept N a b) (h' : Kept N b c) : Kept N a c := fun k hk => (h' k hk).trans (h k hk)
theorem Kept.of_below {N : Nat → Prop} {w w' : World} {B : Nat} (h : Below B w w') (hN : ∀ k, N k → k < B) : Kept N w w' := fun k hk => h.block k (hN k hk)
theorem WrAt.le {w : World} {base p : Nat} {N : Nat → Prop} {l : List UInt8} (h : WrAt w base p N l) : base ≤ p ∧ p < w.heap.size := by
  obtain ⟨A, c, h1, _, _, h2, _⟩ := h
  exact ⟨h2, h1.lt⟩
theorem WrAt.later {w w' : World} {base p : Nat} {N : Nat → Prop} {l : List UInt8} (h : WrAt w base p N l) (hb : Below w.heap.size w w') : WrAt w' base p N l := by
  obtain ⟨A, c, h1, h2, h3, h4, h5, h6, h7⟩ := h
  exact ⟨A, c, World.rowIs.of_block h1 (hb.block _ h1.lt), OwnR.later h2 hb, h3, h4, h5, h6, fun k hk => Nat.lt_of_lt_of_le (h7 k hk) hb.size⟩
theorem num_byte (x size k : Nat) (h : k < size) (hs : size ≤ 8) : (x : Int) / 2 ^ (8 * (size - 1 - k)) % 256 = (((beBytes x size).getD k 0).toNat : Int) := by
  have e : (beBytes x size).getD k 0 = UInt8.ofNat (x / 256 ^ (size - 1 - k) % 256) := by
    unfold beBytes
    rw [List.getD_eq_getElem?_getD, List.getElem?_map, List.getElem?_range h]; rfl
  rw [e, UInt8.toNat_ofNat', show 2 ^ 8 = 256 by decide, Nat.mod_mod, Int.natCast_emod, Int.natCast_ediv, Int.natCast_pow, show ((256 : Nat) : Int) = 2 ^ 8 by decide, ← Int.pow_mul]
  rfl
theorem wrAt_store {w : World} {base p c : Nat} {l : List UInt8} {A : Option Addr} {f : Nat → Value} (h : w.rowIs p 82 1 f) (ho : OwnB w base (.slice A l.length c) l) (hn : (Value.slice A l.length c).ownBlock ≠ some p) (hb : base ≤ p) {N : Nat → Prop} (hN : ∀ k, (Value.slice A l.length c).ownBlock = some k → ¬ N k) (hp : ¬ N p) (hs : ∀ k, N k → k < w.heap.size) : WrAt (w.setCell ⟨p, 0, none⟩ (.slice A l.length c)) base p N l :=
  ⟨A, c, (h.set 0 _).congr fun i hi => by obtain rfl : i = 0 := by omega
                                          rw [if_pos rfl], OwnR.grown ho (grown_set (World.grownBy.refl _ _) 0 _) (.inr hn), hn, hb, hN, hp, fun k hk => by simpa [World.setCell] using hs k hk⟩
/-- What is kept by an append to bytes of one's own, and a store. -/
theorem kept_store {w w2 : World} {N : Nat → Prop} {v v' : Value} {p : Nat} (hg : w.grownBy w2 v.ownBlock) (hN : ∀ k, v.ownBlock = some k → ¬ N k) (hp : ¬ N p) (hs : ∀ k, N k → k < w.heap.size) (u : Value) : Kept N w (w2.setCell ⟨p, 0, none⟩ u) := fun k hk =>
  (Below.heap_setCell w2 ⟨p, 0, none⟩ u k (fun e => hp (by have e2 : k = p := e; rw [← e2]; exact hk))).trans (hg.block k (hs k hk) (fun e => hN k e.symm hk))
theorem own_not {v v' : Value} {N : Nat → Prop} {n : Nat} (h : v'.ownBlock = v.ownBlock ∨ v'.ownBlock = some n) (h1 : ∀ k, v.ownBlock = some k → ¬ N k) (h2 : ∀ k, N k → k < n) : ∀ k, v'.ownBlock = some k → ¬ N k := by
  intro k hk hn
  rcases h with e | e
  · exact h1 k (e ▸ hk) hn
  · rw [e] at hk; injection hk with hk; have := h2 k hn; omega
theorem own_ne {v v' : Value} {p n : Nat} (h : v'.ownBlock = v.ownBlock ∨ v'.ownBlock = some n) (h1 : v.ownBlock ≠ some p) (h2 : p ≠ n) : v'.ownBlock ≠ some p := by
  rcases h with e | e
  · rw [e]; exact h1
  · rw [e]; intro e2; injection e2 with e2; exact h2 e2.symm
set_option maxHeartbeats 4000000 in
set_option maxRecDepth 100000 in
theorem num_calls (p base x size : Nat) (N : Nat → Prop) (l : List UInt8) (w : World) (hW : WrAt w base p N l) (hx : x < 18446744073709551616) (hs : size ≤ 8) (hl : l.length ≤ 900000) :
    Calls Tryd.prog 52 #[.pointer (some ⟨p, 0, none⟩), .int .u64 (x : Int), .int .i64 (size : Int)] w fun e w' => e = .returned (.pointer (some ⟨p, 0, none⟩)) ∧ WrAt w' base p N (l ++ beBytes x size) ∧ Below base w w' ∧ Kept N w w' := by
  have HL := Lib.hid hl
  have HW := Lib.hid hW
  have hs1 : IntKind.i64.wrap ((size : Int) - 1) = (size : Int) - 1 := IntWalk.i64_in _ (by omega)
  have HX : Hid ((x : Int) < 18446744073709551616) := Lib.hid (by omega)
  clear hl hW hx
  go_enter Tryd.func52, Tryd.ntmps52
  go_wp2_with fail
  go_loopw [7] (fun t wr => ∃ k : Nat, t = .int .i64 ((size : Int) - 1 - (k : Int)) ∧ k ≤ size ∧ WrAt wr base p N (l ++ (beBytes x size).take k) ∧ Below base w wr ∧ Kept N w wr) (fun t _ => (intOf t + 1).toNat)
  case atStart => exact ⟨0, by simp, by omega, by simpa using HW.out, Below.refl _ _, Kept.refl _ _⟩
  case round =>
    obtain ⟨k, rfl, hk, hw, hb, hkp⟩ := hrel
    have HKp := Lib.hid hkp
    clear hkp
    by_cases hk1 : k < size
    · obtain ⟨m, hm⟩ : ∃ m, size - 1 - k = m := ⟨_, rfl⟩
      have hmI : (size : Int) - 1 - (k : Int) = (m : Int) := by omega
      have HMI := Lib.hid hmI
      rw [hmI]
      have hnb := num_byte x size k hk1 hs
      rw [hm] at hnb
      have htk := take_next (beBytes x size) k (by rw [beBytes_length]; exact hk1)
      have h8 : IntKind.i64.wrap (8 * (m : Int)) = ((8 * m : Nat) : Int) := by rw [IntWalk.i64_in _ (by omega)]; omega
      have hm1 : IntKind.i64.wrap ((m : Int) - 1) = (m : Int) - 1 := IntWalk.i64_in _ (by omega)
      have HM8 : Hid (min (8 * m) 64 = 8 * m) := Lib.hid (by omega)
      have hm64 : ((8 * m : Nat) : Int) ≤ 64 := by omega
      obtain ⟨cb, hcb⟩ : ∃ cb, (beBytes x size).getD k 0 = cb := ⟨_, rfl⟩
      rw [hcb] at hnb htk
      have HNb := Lib.hid hnb
      have HNw : Hid (IntKind.u8.wrap ((x : Int) / 2 ^ (8 * m)) = (cb.toNat : Int)) := Lib.hid (by rw [IntKind.wrap_u8']; exact hnb)
      have HTk := Lib.hid htk
      obtain ⟨A, c, h1, h2, h3, h4, h5, h6, h7⟩ := hw
      have hll : (l ++ (beBytes x size).take k).length ≤ 1000000 := by
        have := HL.out
        rw [List.length_append, List.length_take, beBytes_length]; omega
      obtain ⟨lk, hlk⟩ : ∃ lk, l ++ (beBytes x size).take k = lk := ⟨_, rfl⟩
      rw [hlk] at h1 h2 h3 h5 hll
      have H5 := Lib.hid h5
      have H6 := Lib.hid h6
      have H7 := Lib.hid h7
      clear h5 h6 h7
      have HLk := Lib.hid hlk
      clear hm hcb hnb htk hlk
      have hc := h1.cell (i := 0) (by omega)
      have hf := h1.frozen 0
      have hlt := h1.lt
      have H1 := Lib.hid h1
      have H2 := Lib.hid h2
      have H3 := Lib.hid h3
      have H4 := Lib.hid h4
      have HLL := Lib.hid hll
      have HB := Lib.hid hb
      have HBs : Hid (base ≤ wr.heap.size) := Lib.hid (by omega)
      clear h1 h2 h3 h4 hll hb hmI
      have hca : ∀ o, (wr.drew.alloc o).cell? ⟨p, 0, none⟩ = some (.slice A lk.length c) := fun o => (((Below.refl wr.heap.size wr).drew.alloc (Nat.le_refl _) o).cell (p := ⟨p, 0, none⟩) hlt).trans hc
      have HY : Hid ((x : Int) / 2 ^ min (8 * m) 64 % 256 = (cb.toNat : Int)) := Lib.hid (by rw [HM8.out]; exact HNb.out)
      have HYw : Hid (IntKind.u8.wrap ((x : Int) / 2 ^ min (8 * m) 64) = (cb.toNat : Int)) := Lib.hid (by rw [HM8.out]; exact HNw.out)
      have HYt : Hid (IntKind.u8.wrap ((x : Int) / 2 ^ (8 * (m : Int)).toNat) = (cb.toNat : Int)) := Lib.hid (by rw [show (8 * (m : Int)).toNat = 8 * m by omega]; exact HNw.out)
      have HO1 : Hid (∀ o, OwnB (wr.drew.alloc o) base (.slice A lk.length c) lk) := Lib.hid (fun o => OwnR.alloc (show OwnB wr.drew base _ lk from H2.out) o)
      have HBs1 : Hid (∀ o, base ≤ (wr.drew.alloc o).heap.size) := Lib.hid (fun o => by have := HBs.out; simp; omega)
      have HLo : Hid (([cb] : List UInt8).length ≤ 1000000) := Lib.hid (by simp)
      go_wp2_with fail
      go_region_law ((refine step_app_bytes rfl (.tmp 18) (.tmp 24) rfl base (.slice A lk.length c) lk [cb] (by simp [Act.eval, Act.put]) (HO1.out _) (.slice (some ⟨wr.heap.size, 0, none⟩) 1 1) (by simp [Act.eval, Act.put]) (brow_new wr.drew cb _ (by first | exact HYt.out | exact HY.out | exact HYw.out)) (.inr ⟨_, _, _, rfl⟩) HLL.out HLo.out (HBs1.out _) ?_
                      intro A2 c2 w2 ho hg hn hb2
                      have hne := own_ne hn H3.out (by have := hlt; simp; omega)
                      have h12 := World.rowIs.of_block (World.rowIs.alloc (show wr.drew.rowIs p 82 1 _ from H1.out) _) (hg.block p (by have := hlt; simp; omega) (Ne.symm H3.out))
                      have hc2 := h12.cell (i := 0) (by omega)
                      have hf2 := h12.frozen 0
                      have hl2 := h12.lt
                      have HR2 := Lib.hid h12
                      have HO2 := Lib.hid ho
                      have HN2 := Lib.hid hne
                      have HN5 := Lib.hid (own_not hn H5.out (fun k hk => by have := H7.out k hk; simp; omega))
                      have HK2 : Hid (∀ u, Kept N wr (w2.setCell ⟨p, 0, none⟩ u)) := Lib.hid (fun u => (Kept.of_below ((Below.refl wr.heap.size wr).drew.alloc (Nat.le_refl _) _) H7.out).trans (kept_store (v' := .bool true) hg H5.out H6.out (fun k hk => by have := H7.out k hk; simp; omega) u))
                      have HS2 : Hid (∀ k, N k → k < w2.heap.size) := Lib.hid (fun k hk => Nat.lt_of_lt_of_le (by have := H7.out k hk; simp; omega) hg.size)
                      have HB2 : Hid (Below base wr w2) := Lib.hid (((Below.refl base wr).drew.alloc HBs.out _).trans hb2)
                      clear ho hg hn hb2 hne h12))
      all_goals
        have HWn := Lib.hid (wrAt_store HR2.out HO2.out HN2.out H4.out HN5.out H6.out HS2.out)
        rw [List.length_append] at HWn
        have HBn : Hid (Below base w (w2.setCell ⟨p, 0, none⟩ (.slice A2 (lk.length + [cb].length) c2))) := Lib.hid ((HB.out.trans HB2.out).setCell H4.out _)
        clear hca hc2 hf2 hl2 hc hf hlt
        go_wp2_with fail
        go_roundw
        case rel => exact ⟨k + 1, congrArg (Value.int IntKind.i64) (by have := HMI.out; omega), by omega, by rw [HTk.out, ← List.append_assoc, HLk.out]; exact HWn.out, HBn.out, HKp.out.trans (HK2.out _)⟩
        case measure => simp [intOf]
    · obtain rfl : k = size := by omega
      have hm1 : (k : Int) - 1 - (k : Int) = -1 := by omega
      rw [hm1]
      rw [List.take_of_length_le (by rw [beBytes_length]; exact Nat.le_refl _)] at hw
      have HWf := Lib.hid hw
      have HBf := Lib.hid hb
      clear hw hb hm1
      go_wp2_with fail
      go_ret
      exact ⟨rfl, HWf.out, HBf.out, HKp.out⟩
end Go.Proofs.YthdbhajpjkkehaaDoor

namespace Go.Proofs.YthdbhajpjkkehaaDoor
open Go.RowKit Go.Lib Sha
set_option linter.unusedVariables false
set_option linter.unusedSimpArgs false

def WrDone (w : World) (base p : Nat) (N : Nat → Prop) (l : List UInt8) (e : Ending) (w' : World) : Prop := e = .returned (.pointer (some ⟨p, 0, none⟩)) ∧ WrAt w' base p N l ∧ Below base w w' ∧ Kept N w w'
set_option maxHeartbeats 400000 in
theorem u8_calls (p base : Nat) (x : Nat) (N : Nat → Prop) (l : List UInt8) (w : World) (hW : WrAt w base p N l) (hx : x < 256) (hl : l.length ≤ 900000) :
    Calls Tryd.prog 39 #[.pointer (some ⟨p, 0, none⟩), .int .u8 (x : Int)] w (WrDone w base p N (l ++ beBytes x 1)) := by
  have H := Lib.hid (num_calls p base x 1 N l w hW (by omega) (by omega) hl)
  have hc : IntKind.u64.wrap (x : Int) = (x : Int) := by rw [u64_wrap]; omega
  clear hW hl
  go_enter Tryd.func39, Tryd.ntmps39
  go_wp2_with fail
  refine H.out.mono ?_
  rintro e w1 ⟨rfl, h1, h2, h3⟩
  have HF := Lib.hid (And.intro h1 (And.intro h2 h3))
  clear h1 h2 h3
  go_wp2_with fail
  go_ret
  exact ⟨rfl, HF.out.1, HF.out.2.1, HF.out.2.2⟩
set_option maxHeartbeats 400000 in
theorem u32_calls (p base : Nat) (x : Nat) (N : Nat → Prop) (l : List UInt8) (w : World) (hW : WrAt w base p N l) (hx : x < 4294967296) (hl : l.length ≤ 900000) :
    Calls Tryd.prog 40 #[.pointer (some ⟨p, 0, none⟩), .int .u32 (x : Int)] w (WrDone w base p N (l ++ beBytes x 4)) := by
  have H := Lib.hid (num_calls p base x 4 N l w hW (by omega) (by omega) hl)
  have hc : IntKind.u64.wrap (x : Int) = (x : Int) := by rw [u64_wrap]; omega
  clear hW hl
  go_enter Tryd.func40, Tryd.ntmps40
  go_wp2_with fail
  refine H.out.mono ?_
  rintro e w1 ⟨rfl, h1, h2, h3⟩
  have HF := Lib.hid (And.intro h1 (And.intro h2 h3))
  clear h1 h2 h3
  go_wp2_with fail
  go_ret
  exact ⟨rfl, HF.out.1, HF.out.2.1, HF.out.2.2⟩
set_option maxHeartbeats 400000 in
set_option maxRecDepth 100000 in
theorem raw_calls (p base : Nat) (xv : Value) (x : List UInt8) (N : Nat → Prop) (l : List UInt8) (w : World) (hW : WrAt w base p N l) (hx : BRow w xv x) (hn : NilOr xv) (hxl : x.length ≤ 900000) (hl : l.length ≤ 900000) :
    Calls Tryd.prog 41 #[.pointer (some ⟨p, 0, none⟩), xv] w (WrDone w base p N (l ++ x)) := by
  obtain ⟨A, c, h1, h2, h3, h4, h5, h6, h7⟩ := hW
  have hc := h1.cell (i := 0) (by omega)
  have hf := h1.frozen 0
  have hlt := h1.lt
  have H1 := Lib.hid h1
  have H2 := Lib.hid h2
  have H3 := Lib.hid h3
  have H4 := Lib.hid h4
  have HX := Lib.hid hx
  have HN := Lib.hid hn
  have HXl : Hid (x.length ≤ 1000000) := Lib.hid (by omega)
  have HL : Hid (l.length ≤ 1000000) := Lib.hid (by omega)
  have HBs : Hid (base ≤ w.heap.size) := Lib.hid (by omega)
  have H5 := Lib.hid h5
  have H6 := Lib.hid h6
  have H7 := Lib.hid h7
  clear h1 h2 h3 h4 h5 h6 h7 hx hn hxl hl
  go_enter Tryd.func41, Tryd.ntmps41
  go_wp2_with (at_builtin; refine wpList_app_bytes rfl _ _ rfl base _ l x rfl H2.out xv rfl HX.out HN.out HL.out HXl.out HBs.out ?_)
  intro v' w2 ho hg hn2 hb2
  obtain ⟨A2, c2, rfl⟩ := ho.len
  have hne := own_ne hn2 H3.out (by omega)
  have h12 := World.rowIs.of_block H1.out (hg.block p hlt (Ne.symm H3.out))
  have hc2 := h12.cell (i := 0) (by omega)
  have hf2 := h12.frozen 0
  have hl2 := h12.lt
  have HKn := Lib.hid (fun u => kept_store (v' := .bool true) hg H5.out H6.out H7.out u)
  have HWn := Lib.hid (wrAt_store h12 ho hne H4.out (own_not hn2 H5.out H7.out) H6.out (fun k hk => Nat.lt_of_lt_of_le (H7.out k hk) hg.size))
  have HBn : Hid (Below base w (w2.setCell ⟨p, 0, none⟩ (.slice A2 (l ++ x).length c2))) := Lib.hid (hb2.setCell H4.out _)
  rw [List.length_append] at HWn HBn
  clear hc hf ho hg hn2 hb2 hne h12
  go_wp2_with fail
  go_ret
  exact ⟨rfl, HWn.out, HBn.out, HKn.out _⟩
set_option maxHeartbeats 400000 in
theorem wbytes_calls (p base : Nat) (N : Nat → Prop) (l : List UInt8) (w : World) (hW : WrAt w base p N l) (hl : l.length ≤ 900000) :
    Calls Tryd.prog 30 #[.pointer (some ⟨p, 0, none⟩)] w fun e w' => ∃ v', e = .returned v' ∧ OwnB w' w.heap.size v' l ∧ NilOr v' ∧ Below w.heap.size w w' := by
  obtain ⟨A, c, h1, h2, h3, h4, h5, h6, h7⟩ := hW
  have hc := h1.cell (i := 0) (by omega)
  have H := Lib.hid (clone_calls _ l w h2.row (own_nil_or h2) (by omega))
  clear h1 h2 h3 h4 h5 h6 h7 hl
  go_enter Tryd.func30, Tryd.ntmps30
  go_wp2_with fail
  refine H.out.mono ?_
  rintro e w1 ⟨v', rfl, k1, k2, k3⟩
  have HK := Lib.hid (And.intro k1 (And.intro k2 k3))
  clear k1 k2 k3
  go_wp2_with fail
  go_ret
  exact ⟨v', rfl, HK.out.1, HK.out.2.1, HK.out.2.2⟩
end Go.Proofs.YthdbhajpjkkehaaDoor

namespace Go.Proofs.YthdbhajpjkkehaaDoor
open Go.RowKit Go.Lib Sha
set_option linter.unusedVariables false
set_option linter.unusedSimpArgs false

def bV (l : List UInt8) : List Value := l.map fun c => Value.int .u8 (c.toNat : Int)
theorem bV_length (l : List UInt8) : (bV l).length = l.length := by simp [bV]
theorem bV_one (l : List UInt8) : ∀ v ∈ bV l, v.oneCell' = true := by
  intro v hv
  obtain ⟨i, _, rfl⟩ := List.mem_map.1 hv
  rfl
theorem byteL_eq (n : Nat) : byteL n = bV (beBytes n 32) := by
  unfold byteL beBytes bV
  rw [List.map_map]
  refine List.map_congr_left fun i _ => ?_
  show Value.int .u8 (byteAt n i : Int) = Value.int .u8 _
  congr 1
  unfold byteAt
  rw [UInt8.toNat_ofNat', show 2 ^ 8 = 256 by decide, Nat.mod_mod]
/-- A row of 32 bytes as a slice of it. -/
theorem brow_range {w : World} {g : Nat} {l : List UInt8} (h : w.rangeAt g 0 (bV l)) (hl : l.length ≤ 1000000) : BRow w (.slice (some ⟨g, 0, none⟩) l.length l.length) l :=
  ⟨_, _, rfl, Nat.le_refl _, by unfold maxLen; omega, .inr ⟨g, 0, rfl, fun i hi => h i _ (by unfold bV; rw [List.getElem?_map, List.getElem?_eq_getElem hi, List.getD_eq_getElem?_getD, List.getElem?_eq_getElem hi]; rfl)⟩⟩
set_option maxHeartbeats 1000000 in
set_option maxRecDepth 100000 in
theorem int_calls (p base n : Nat) (N : Nat → Prop) (l : List UInt8) (w : World) (hW : WrAt w base p N l) (hl : l.length ≤ 900000) :
    Calls Tryd.prog 42 #[.pointer (some ⟨p, 0, none⟩), bigN n] w (WrDone w base p N (l ++ beBytes n 32)) := by
  have Q0 : Below w.heap.size w (w.alloc (row4 (limb n))) := (Below.refl _ _).alloc (Nat.le_refl _) _
  have HW := Lib.hid (hW.later Q0)
  have HL := Lib.hid hl
  have HHb := Lib.hid (bytes_calls n)
  have HB4 := Lib.hid (Box.new w n)
  have hle := hW.le
  have HNs : Hid (∀ k, N k → k < w.heap.size) := Lib.hid (by obtain ⟨A, c, _, _, _, _, _, _, h7⟩ := hW; exact h7)
  have HLe := Lib.hid hle
  clear hW hl hle
  have hb4 := HB4.out.cells
  obtain ⟨b0, b1, b2, b3⟩ := hb4
  go_enter Tryd.func42, Tryd.ntmps42
  go_wp2_with fail
  obtain ⟨W0, hW0⟩ : ∃ W0, w.alloc (row4 (limb n)) = W0 := ⟨_, rfl⟩
  unfold row4 at hW0 HW Q0
  rw [hW0] at b0 b1 b2 b3 HW Q0 ⊢
  clear hW0 HB4
  go_wp2_with fail
  refine (HHb.out _).mono ?_
  rintro e w1 ⟨rfl, hb1⟩
  have H1 := Lib.hid (HW.out.later hb1)
  have HQ1 := Lib.hid (Q0.trans (hb1.mono Q0.size))
  clear hb1 Q0 HHb b0 b1 b2 b3
  rw [byteL_eq]
  have hlen : (bV (beBytes n 32)).length = 32 := by rw [bV_length, beBytes_length]
  have HTh : Hid ((w1.alloc obj32).there w1.heap.size 0 (bV (beBytes n 32)).toArray.size) := Lib.hid (show (w1.alloc obj32).there w1.heap.size 0 (bV (beBytes n 32)).length by rw [hlen]; exact rowIs_there (zero32 w1))
  have HI2 := Lib.hid (show (Tryd.prog.info? 37).map (·.size) = some (bV (beBytes n 32)).toArray.size by rw [List.size_toArray, hlen]; exact info32)
  have HO := Lib.hid (all_oneCell_toArray (bV_one (beBytes n 32)))
  have hQ2 : Below w1.heap.size w1 ((w1.alloc obj32).setCells w1.heap.size 0 (bV (beBytes n 32))) := below_setCells (Nat.le_refl _) _ _ _ ((Below.refl _ _).alloc (Nat.le_refl _) _)
  have hrg : ((w1.alloc obj32).setCells w1.heap.size 0 (bV (beBytes n 32))).rangeAt w1.heap.size 0 (bV (beBytes n 32)) := World.rangeAt_setCells_same _ _ _ _ (by have := HTh.out; simpa using this)
  have hbr := brow_range hrg (by rw [beBytes_length]; decide)
  rw [beBytes_length] at hbr
  have HRaw := Lib.hid (raw_calls p base _ _ N l _ (H1.out.later hQ2) hbr (.inr ⟨_, _, _, rfl⟩) (by rw [beBytes_length]; decide) HL.out)
  have HQ2 := Lib.hid (HQ1.out.trans (hQ2.mono HQ1.out.size))
  clear hQ2 hrg hbr hlen H1
  obtain ⟨ws, hws⟩ : ∃ ws, bV (beBytes n 32) = ws := ⟨_, rfl⟩
  rw [hws] at HTh HI2 HO HRaw HQ2 ⊢
  clear hws
  unfold obj32 at HTh HRaw HQ2
  go_wp2_with (refine wpList_store_mid rfl 37 _ _ rfl w1.heap.size 0 ws.toArray rfl rfl HTh.out HI2.out HO.out ?_)
  refine HRaw.out.mono ?_
  rintro e w2 ⟨rfl, h1, h2, h3⟩
  have HF := Lib.hid (And.intro h1 (And.intro h2 h3))
  clear h1 h2 h3 HRaw HTh
  go_wp2_with fail
  go_ret
  exact ⟨rfl, HF.out.1, (HQ2.out.mono (by have := HLe.out; omega)).trans HF.out.2.1, (Kept.of_below HQ2.out HNs.out).trans HF.out.2.2⟩
end Go.Proofs.YthdbhajpjkkehaaDoor

namespace Go.Proofs.YthdbhajpjkkehaaDoor
open Go.RowKit Go.Lib Sha
set_option linter.unusedVariables false
set_option linter.unusedSimpArgs false

/-- Slices of bytes, one behind the other in memory. -/
def PartsAt (w : World) (v : Value) (ps : List (List UInt8)) : Prop :=
  ∃ A c, v = .slice A ps.length c ∧ (ps = [] ∨ ∃ gp o, A = some ⟨gp, o, none⟩ ∧ ∀ i, i < ps.length → ∃ pv, w.cell? ⟨gp, o + i, none⟩ = some pv ∧ BRow w pv (ps.getD i []) ∧ NilOr pv)
theorem PartsAt.below {w w' : World} {v : Value} {ps : List (List UInt8)} (h : PartsAt w v ps) (hb : Below w.heap.size w w') : PartsAt w' v ps := by
  obtain ⟨A, c, rfl, h⟩ := h
  refine ⟨A, c, rfl, ?_⟩
  rcases h with h | ⟨gp, o, rfl, h⟩
  · exact .inl h
  · refine .inr ⟨gp, o, rfl, fun i hi => ?_⟩
    obtain ⟨pv, h1, h2, h3⟩ := h i hi
    exact ⟨pv, (hb.cell (p := ⟨gp, o + i, none⟩) (World.block_lt_of_cell? w _ h1)).trans h1, h2.below hb, h3⟩
def domPre (tag : Nat) (ps : List (List UInt8)) (k : Nat) : List UInt8 := beBytes tag 1 ++ ((ps.take k).map fun p => beBytes p.length 4 ++ p).flatten
def domText (tag : Nat) (ps : List (List UInt8)) : List UInt8 := domPre tag ps ps.length
theorem domPre_next (tag : Nat) (ps : List (List UInt8)) (k : Nat) (h : k < ps.length) : domPre tag ps (k + 1) = domPre tag ps k ++ beBytes (ps.getD k []).length 4 ++ ps.getD k [] := by
  unfold domPre
  rw [List.take_succ_eq_append_getElem h, List.map_append, List.flatten_append, List.getD_eq_getElem?_getD, List.getElem?_eq_getElem h]
  simp [List.append_assoc]
theorem domPre_le (tag : Nat) (ps : List (List UInt8)) (k : Nat) (h : k ≤ ps.length) : (domPre tag ps k).length ≤ (domText tag ps).length := by
  have e : ∀ j, k + j ≤ ps.length → (domPre tag ps k).length ≤ (domPre tag ps (k + j)).length := by
    intro j
    induction j with
    | zero => intro _; exact Nat.le_refl _
    | succ j ih =>
      intro hj
      refine Nat.le_trans (ih (by omega)) ?_
      rw [show k + (j + 1) = k + j + 1 by omega, domPre_next tag ps (k + j) (by omega)]
      simp
  have := e (ps.length - k) (by omega)
  rwa [show k + (ps.length - k) = ps.length by omega] at this
theorem own_base {w : World} {b b' : Nat} {v : Value} {l : List UInt8} (h : OwnB w b v l) (hb : b' ≤ b) : OwnB w b' v l := by
  refine ⟨⟨h.1.1, ?_⟩, h.2⟩
  rcases h.1.2 with hn | ⟨g, cap, cur, e, hbg, rest⟩
  · exact .inl hn
  · exact .inr ⟨g, cap, cur, e, Nat.le_trans hb hbg, rest⟩
set_option maxHeartbeats 1000000 in
set_option maxRecDepth 100000 in
theorem text_calls (tag : Nat) (v : Value) (ps : List (List UInt8)) (w : World) (h : PartsAt w v ps) (ht : tag < 256) (hps : ps.length ≤ 1000) (hl : (domText tag ps).length ≤ 900000) :
    Calls Tryd.prog 28 #[.int .u8 (tag : Int), v] w fun e w' => ∃ v', e = .returned v' ∧ OwnB w' w.heap.size v' (domText tag ps) ∧ NilOr v' ∧ Below w.heap.size w w' := by
  obtain ⟨A, c, rfl, hp⟩ := id h
  have HP := Lib.hid h
  have HL := Lib.hid hl
  have hW0 : WrAt (w.alloc (.cells #[.slice none 0 0] 82)) w.heap.size w.heap.size (fun _ => False) [] := ⟨none, 0, World.rowIs_alloc w _ _ _ (fun i hi => by
    obtain rfl : i = 0 := by simpa using hi
    rfl), OwnR.nil _ _ _ _, by simp [Value.ownBlock], Nat.le_refl _, fun _ _ h => h, fun h => h, fun _ h => h.elim⟩
  have Q0 : Below w.heap.size w (w.alloc (.cells #[.slice none 0 0] 82)) := (Below.refl _ _).alloc (Nat.le_refl _) _
  have HU8 := Lib.hid (u8_calls w.heap.size w.heap.size tag (fun _ => False) [] _ hW0 ht (by simp))
  have HQ0 := Lib.hid Q0
  clear h hl hW0 Q0 hp
  go_enter Tryd.func28, Tryd.ntmps28
  go_wp2_with fail
  refine HU8.out.mono ?_
  rintro e w1 ⟨rfl, h1, h2, -⟩
  have H1 : WrAt w1 w.heap.size w.heap.size (fun _ => False) (domPre tag ps 0) := by simpa [domPre] using h1
  have Q1 := HQ0.out.trans h2
  clear h1 h2 HU8 HQ0
  go_wp2_with fail
  go_loopw [14] (fun t wr => ∃ k : Nat, t = .int .i64 (k : Int) ∧ k ≤ ps.length ∧ WrAt wr w.heap.size w.heap.size (fun _ => False) (domPre tag ps k) ∧ Below w.heap.size w wr) (fun t _ => ps.length - (intOf t).toNat)
  case atStart => exact ⟨0, rfl, by omega, H1, Q1⟩
  case round =>
    obtain ⟨k, rfl, hk, hw, hb⟩ := hrel
    clear H1 Q1
    have hkk : (k : Int) ≤ 1000 := by omega
    by_cases hk1 : k < ps.length
    · have hk1' : (k : Int) < (ps.length : Int) := by omega
      obtain ⟨A', c', e, hp⟩ := HP.out
      cases e
      rcases hp with hp | ⟨gp, o, rfl, hp⟩
      · rw [hp] at hk1; simp at hk1
      · obtain ⟨pv, q0, q2, q3⟩ := hp k hk1
        have q1 := (hb.cell (p := ⟨gp, o + k, none⟩) (World.block_lt_of_cell? w _ q0)).trans q0
        clear q0 hp
        have hn := domPre_next tag ps k hk1
        have hle1 := domPre_le tag ps k hk
        have hle2 := domPre_le tag ps (k + 1) hk1
        rw [hn] at hle2
        obtain ⟨Ap, cp, rfl, p1, p2, -⟩ := id q2
        have HN := Lib.hid hn
        obtain ⟨pl, hpl⟩ : ∃ pl, ps.getD k [] = pl := ⟨_, rfl⟩
        rw [hpl] at HN hle2 q1 q2 q3 p1
        have hlen : (domPre tag ps k).length + (4 + pl.length) ≤ 900000 := by
          have := HL.out
          simp only [List.length_append, beBytes_length] at hle2
          omega
        have hcv : IntKind.u32.wrap (pl.length : Int) = (pl.length : Int) := by rw [IntKind.wrap_u32']; omega
        have HU := Lib.hid (u32_calls w.heap.size w.heap.size pl.length (fun _ => False) (domPre tag ps k) wr hw (by omega) (by omega))
        have HR := Lib.hid (fun (w2 : World) (hb2 : Below w.heap.size wr w2) (hw2 : WrAt w2 w.heap.size w.heap.size (fun _ => False) (domPre tag ps k ++ beBytes pl.length 4)) => raw_calls w.heap.size w.heap.size _ pl (fun _ => False) _ w2 hw2 (q2.below (hb.trans hb2)) q3 (by omega) (by rw [List.length_append, beBytes_length]; omega))
        have HB := Lib.hid hb
        have HPl : Hid ((pl.length : Int) ≤ 900000) := Lib.hid (by omega)
        clear hw hb q2 q3 hn hle1 hle2 hlen hpl
        go_wp2_with fail
        refine HU.out.mono ?_
        rintro e w2 ⟨rfl, u1, u2, -⟩
        have HR2 := Lib.hid (HR.out w2 u2 u1)
        have HB2 := Lib.hid (HB.out.trans u2)
        clear u1 u2 HU HR q1
        go_wp2_with fail
        refine HR2.out.mono ?_
        rintro e w3 ⟨rfl, u1, u2, -⟩
        have HF := Lib.hid (And.intro u1 (HB2.out.trans u2))
        clear u1 u2 HR2 hcv
        go_wp2_with fail
        go_roundw
        case rel => exact ⟨k + 1, by go_num, by omega, by rw [HN.out]; exact HF.out.1, HF.out.2⟩
        case measure => simp [intOf]; omega
    · obtain rfl : k = ps.length := by omega
      have HB := Lib.hid (wbytes_calls w.heap.size w.heap.size (fun _ => False) (domText tag ps) wr hw HL.out)
      have HQ := Lib.hid hb
      clear hw hb
      go_wp2_with fail
      refine HB.out.mono ?_
      rintro e w2 ⟨v', rfl, u1, u2, u3⟩
      have HF := Lib.hid (And.intro u1 (And.intro u2 (HQ.out.trans (u3.mono HQ.out.size))))
      have hso : Hid (w.heap.size ≤ wr.heap.size) := Lib.hid HQ.out.size
      clear u1 u2 u3 HB
      go_wp2_with fail
      go_ret
      exact ⟨v', rfl, own_base HF.out.1 hso.out, HF.out.2.1, HF.out.2.2⟩
end Go.Proofs.YthdbhajpjkkehaaDoor
