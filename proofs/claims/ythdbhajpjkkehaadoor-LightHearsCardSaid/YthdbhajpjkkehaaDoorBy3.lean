/- Noughts appended to one byte. -/
import Derived.Test.YthdbhajpjkkehaaDoorJoin2
import Derived.Test.YthdbhajpjkkehaaDoorRead
import Derived.Lib.AppendZerosOnto
import Derived.Lib.AppendZeros
import Derived.Lib.SliceRun
import Derived.Test.YthdbhajpjkkehaaDoorPost
namespace Go.Proofs.YthdbhajpjkkehaaDoor
open Go.RowKit Go.Lib
set_option linter.unusedVariables false
set_option linter.unusedSimpArgs false

abbrev u8K : Kinds := [some .u8]
def bC (c : UInt8) : List Value := [.int .u8 (c.toNat : Int)]
abbrev OwnB (w : World) (base : Nat) (v : Value) (l : List UInt8) : Prop := OwnR 5 u8K w base v (l.map bC)
theorem infoByte : (Tryd.prog.info? 5).map (fun i => (i.zero, i.size, i.bytes)) = some (some (.int .u8 0), 1, 1) := by kernel_rfl
theorem wf_byte (a : Int) (h0 : 0 ≤ a) (h1 : a < 256) : (Lit.int .u8 a).wf = true := by
  simp [Lit.wf, IntKind.min, IntKind.max, IntKind.signed, IntKind.bits]
  omega
theorem bC_typed (c : UInt8) : Typed u8K (bC c) := ⟨_, _, rfl, ⟨_, rfl, wf_byte _ (by omega) (by have := c.toNat_lt; omega)⟩, rfl⟩
theorem bC_getD (l : List UInt8) (i : Nat) (h : i < l.length) : (l.map bC).getD i [] = bC (l.getD i 0) := by
  rw [List.getD_eq_getElem?_getD, List.getElem?_map, List.getElem?_eq_getElem h, List.getD_eq_getElem?_getD, List.getElem?_eq_getElem h]; rfl
theorem BRow.recs {w : World} {v : Value} {l : List UInt8} (h : BRow w v l) : Recs u8K w v (l.map bC) := by
  obtain ⟨A, c, rfl, h1, h2, h3⟩ := h
  refine ⟨A, c, by rw [List.length_map], by rw [List.length_map]; exact h1, h2, fun x hx => ?_, ?_⟩
  · obtain ⟨c, _, rfl⟩ := List.mem_map.1 hx
    exact bC_typed c
  · rcases h3 with h3 | ⟨g, o, rfl, hc⟩
    · exact .inl (by rw [h3]; rfl)
    · refine .inr ⟨g, o, rfl, fun i hi j u hu => ?_⟩
      rw [List.length_map] at hi
      rw [bC_getD l i hi] at hu
      match j, hu with
      | 0, hu =>
        cases hu
        have := hc i hi
        simpa using this
theorem Recs.bytes {w : World} {v : Value} {l : List UInt8} (h : Recs u8K w v (l.map bC)) : BRow w v l := by
  obtain ⟨A, c, rfl, h1, h2, h4, h3⟩ := h
  rw [List.length_map] at h1
  refine ⟨A, c, by rw [List.length_map], h1, h2, ?_⟩
  rcases h3 with h3 | ⟨g, o, rfl, hc⟩
  · exact .inl (List.map_eq_nil_iff.1 h3)
  · refine .inr ⟨g, o, rfl, fun i hi => ?_⟩
    have := hc i (by simpa using hi) 0 (.int .u8 ((l.getD i 0).toNat : Int)) (by rw [bC_getD l i hi]; rfl)
    simpa using this
theorem OwnB.row {w : World} {base : Nat} {v : Value} {l : List UInt8} (h : OwnB w base v l) : BRow w v l := Recs.bytes (OwnR.recs h)
theorem OwnB.snoc {w : World} {base : Nat} {v : Value} {l : List UInt8} {c : UInt8} (h : OwnR 5 u8K w base v (l.map bC ++ [bC c])) : OwnB w base v (l ++ [c]) := by
  unfold OwnB; rw [List.map_append]; exact h
theorem OwnB.app {w : World} {base : Nat} {v : Value} {l m : List UInt8} (h : OwnR 5 u8K w base v (l.map bC ++ m.map bC)) : OwnB w base v (l ++ m) := by
  unfold OwnB; rw [List.map_append]; exact h
theorem OwnB.len {w : World} {base : Nat} {v : Value} {l : List UInt8} (h : OwnB w base v l) : ∃ A c, v = .slice A l.length c := by
  obtain ⟨A, c, rfl, _⟩ := h.row
  exact ⟨A, c, rfl⟩

/-- Bytes appended to bytes of one's own. -/
theorem wpList_app_bytes {ops : Array Oper} {rest : List Oper} {o : Oper} {a : Act} {Q : Exit → Act → World → Prop} {w : World} (hgd : o.guard = none) (s x : Operand)
    (ho : o.op = .call { callee := .builtin .append, args := #[s, x], argTypes := #[66, 66] })
    (base : Nat) (v : Value) (l l2 : List UInt8) (hs : a.eval s = v) (hown : OwnB w base v l) (xv : Value)
    (hx : a.eval x = xv) (hrec : BRow w xv l2) (hnil : NilOr xv) (hlen : l.length ≤ 1000000) (hlen2 : l2.length ≤ 1000000) (hbase : base ≤ w.heap.size)
    (h : ∀ v' w', OwnB w' base v' (l ++ l2) → w.grownBy w' v.ownBlock → (v'.ownBlock = v.ownBlock ∨ v'.ownBlock = some w.heap.size) → Below base w w' → wpList Tryd.prog ops Q rest (a.put o.dst v') w') :
    wpList Tryd.prog ops Q (o :: rest) a w := by
  obtain ⟨i0, hi0, hz0, hz1, hz2⟩ := info_parts infoByte
  rcases hnil with rfl | ⟨ad, m, c, rfl⟩
  · obtain ⟨A', c', e, _⟩ := hrec
    obtain rfl : l2 = [] := List.length_eq_zero_iff.1 (Value.slice.inj e).2.1.symm
    refine wpList_plain hgd fun Kk hKk => ?_
    have hr := run_append_owned_none (P := Tryd.prog) w base 66 o.type 5 i0 1 Tryd.underlying66 hi0 v (l.map bC).length (l.map bC).flatten hown.1
    unfold Oper.wp execOp
    simp only [ho, resolve, invoke, builtin, Sem.run_bind, Sem.run_pure, Result.andThen_ok, List.map_toArray, List.map_cons, List.map_nil, hs, hx, hr]
    exact hKk _ _ (h v w (by rw [List.append_nil]; exact hown) (World.grownBy.refl _ _) (.inl rfl) (Below.refl _ _))
  · have hR := hrec.recs
    obtain ⟨A', c', e, q1, q2, q4, q3⟩ := id hR
    obtain ⟨rfl, rfl, rfl⟩ : some ad = A' ∧ m = (l2.map bC).length ∧ c = c' := by injection e with e1 e2 e3; exact ⟨e1, e2, e3⟩
    have hfl : (l2.map bC).flatten.length = (l2.map bC).length * 1 := flat_len (K := u8K) q4
    refine wpList_append_own_at _ hgd s x _ ho base 5 i0 (.int .u8 0) 1 1 Tryd.underlying66 hi0 hz0 hz1 hz2 rfl (by decide) v (l.map bC).length (l.map bC).flatten hs hown.1 ad (l2.map bC).length c (l2.map bC).flatten hx hfl (fun j u hj => ?_) (fun u hu => ?_) (by rw [List.length_map, List.length_map]; unfold maxLen; omega) (by rw [List.length_map, List.length_map]; omega) hbase ?_
    · obtain ⟨p1, p2⟩ := flat_of (n := 1) (fun x hx => (q4 x hx).length) (by decide) j u hj
      obtain ⟨g, o', e1, _, hr, _⟩ := Recs.at (K := u8K) (by decide) hR (j / 1) p1
      cases e1
      have := hr (j % 1) u p2
      rw [Addr.add_lit]
      rw [show o' + j = o' + j / 1 * u8K.length + j % 1 by show o' + j = o' + j / 1 * 1 + j % 1; omega]
      exact this
    · obtain ⟨y, hy, hu'⟩ := List.mem_flatten.1 hu
      exact (q4 y hy).one u hu'
    · intro v' w' k1 k2 _ k4
      refine h v' w' (OwnB.app ⟨?_, fun x hx => ?_⟩) k2 k4 ?_
      · rw [List.length_append, List.flatten_append]
        exact k1
      · rcases List.mem_append.1 hx with hx | hx
        · exact hown.2 x hx
        · exact q4 x hx
      · exact (Below.refl base w).grown k2 hbase (fun k hk => (OwnR.lt hown k hk).1)
end Go.Proofs.YthdbhajpjkkehaaDoor

namespace Go.Proofs.YthdbhajpjkkehaaDoor
open Go.RowKit Go.Lib
set_option linter.unusedVariables false
set_option linter.unusedSimpArgs false

/-- A byte appended to bytes of one's own. -/
theorem wpList_app_byte {ops : Array Oper} {rest : List Oper} {o : Oper} {a : Act} {Q : Exit → Act → World → Prop} {w : World} (hgd : o.guard = none) (s x : Operand)
    (ho : o.op = .call { callee := .builtin .append, args := #[s, x], argTypes := #[66, 66] })
    (base : Nat) (v : Value) (l : List UInt8) (hs : a.eval s = v) (hown : OwnB w base v l) (c : UInt8)
    (hx : a.eval x = .slice (some ⟨w.heap.size, 0, none⟩) 1 1) (hlen : l.length ≤ 1000000) (hbase : base ≤ w.heap.size)
    (h : ∀ v' w', OwnB w' base v' (l ++ [c]) → w.grownBy w' v.ownBlock → (v'.ownBlock = v.ownBlock ∨ v'.ownBlock = some (w.heap.size + 1)) → Below base w w' → w.heap.size + 1 ≤ w'.heap.size → wpList Tryd.prog ops Q rest (a.put o.dst v') w') :
    wpList Tryd.prog ops Q (o :: rest) a (w.alloc (.cells #[.int .u8 (c.toNat : Int)] 5)) :=
  wpList_app_rec hgd s x 66 5 u8K (.int .u8 0) 1 ho Tryd.underlying66 infoByte rfl (by decide) (by decide) base v (l.map bC) hs hown (bC c) (bC_typed c) hx (by rw [List.length_map]; omega) hbase
    (fun v' w' h1 h2 h3 h4 h5 => h v' w' (OwnB.snoc h1) ⟨h2.os, h2.tape, h2.output, Nat.le_trans (by simp) h2.size, fun k hk hne => (h2.block k (by simp; omega) hne).trans (((Below.refl w.heap.size w).alloc (Nat.le_refl _) _).block k hk)⟩ h5 h3 h4)
theorem eql_nil (a : Option Addr) (n c : Nat) (w : World) : (binOp .eql 66 (.slice a n c) (.slice none 0 0)).run Tryd.prog w = .ok (.bool a.isNone) w := Go.Lib.run_eql_slice_nil w 66 5 a n c 0 0 Tryd.underlying66
theorem own_nil_or {w : World} {base : Nat} {v : Value} {l : List UInt8} (h : OwnB w base v l) : NilOr v := by
  rcases h.1.2 with ⟨rfl, _⟩ | ⟨g, cap, cur, rfl, _⟩
  · exact .inl rfl
  · exact .inr ⟨_, _, _, rfl⟩
theorem ownB_empty (w : World) : OwnB (w.alloc (.cells #[] 5)) w.heap.size (.slice (some ⟨w.heap.size, 0, none⟩) 0 0) [] :=
  ⟨World.ownsRow_made w #[] 0 (Nat.le_refl _) (by unfold maxLen; omega) rfl, by simp⟩
set_option maxHeartbeats 400000 in
set_option maxRecDepth 100000 in
theorem clone_calls (v : Value) (l : List UInt8) (w : World) (h : BRow w v l) (hnil : NilOr v) (hl : l.length ≤ 1000000) :
    Calls Tryd.prog 43 #[v] w fun e w' => ∃ v', e = .returned v' ∧ OwnB w' w.heap.size v' l ∧ NilOr v' ∧ Below w.heap.size w w' := by
  rcases hnil with rfl | ⟨ad, n, c, rfl⟩
  · obtain ⟨A', c', e, _⟩ := h
    obtain rfl : l = [] := List.length_eq_zero_iff.1 (Value.slice.inj e).2.1.symm
    clear e hl
    have heq := fun w => eql_nil none 0 0 w
    go_enter Tryd.func43, Tryd.ntmps43
    go_wp2_with fail
    go_ret
    exact ⟨.slice none 0 0, rfl, OwnR.nil _ _ _ _, .inl rfl, Below.refl _ _⟩
  · have HB := Lib.hid h
    have HLn := Lib.hid hl
    clear h hl
    have HE := Lib.hid (ownB_empty w)
    have Q0 := Lib.hid (show Below w.heap.size w (w.alloc (.cells #[] 5)) from (Below.refl _ _).alloc (Nat.le_refl _) _)
    have heq := fun w => eql_nil (some ad) n c w
    go_enter Tryd.func43, Tryd.ntmps43
    go_wp2_with (at_builtin; refine wpList_app_bytes rfl _ _ rfl w.heap.size _ [] l rfl HE.out _ rfl (HB.out.below Q0.out) (.inr ⟨_, _, _, rfl⟩) (by simp) HLn.out (by simp) ?_)
    intro v' w' h1 _ _ h4
    go_wp2_with fail
    go_ret
    exact ⟨v', rfl, h1, own_nil_or h1, Q0.out.trans (h4.mono (by simp))⟩
end Go.Proofs.YthdbhajpjkkehaaDoor

namespace Go.Proofs.YthdbhajpjkkehaaDoor
open Go.RowKit Go.Lib Sha
set_option linter.unusedVariables false
set_option linter.unusedSimpArgs false

def BAt (w : World) : Prop := ∀ i, i < 8 → w.cell? ⟨0, i, none⟩ = some (wV (St.begin.list.getD i 0))
def objNew : Obj := .cells #[.int .u32 1779033703, .int .u32 3144134277, .int .u32 1013904242, .int .u32 2773480762, .int .u32 1359893119, .int .u32 2600822924, .int .u32 528734635, .int .u32 1541459225, .slice none 0 0, .int .u64 0] 110
theorem stAt_new (w : World) : StAt (w.alloc objNew) w.heap.size St.begin (.slice none 0 0) 0 :=
  World.rowIs_alloc w _ _ _ (fun i hi => by
    have h : i < 10 := hi
    match i, h with
    | 0, _ => rfl
    | 1, _ => rfl
    | 2, _ => rfl
    | 3, _ => rfl
    | 4, _ => rfl
    | 5, _ => rfl
    | 6, _ => rfl
    | 7, _ => rfl
    | 8, _ => rfl
    | 9, _ => rfl)
set_option maxHeartbeats 400000 in
set_option maxRecDepth 100000 in
theorem new_calls (w : World) (hB : BAt w) :
    Calls Tryd.prog 36 #[] w fun e w' => e = .returned (.pointer (some ⟨w.heap.size, 0, none⟩)) ∧ StAt w' w.heap.size St.begin (.slice none 0 0) 0 ∧ Below w.heap.size w w' := by
  have c0 : w.cell? ⟨0, 0, none⟩ = some (.int .u32 1779033703) := hB 0 (by omega)
  have c1 : w.cell? ⟨0, 1, none⟩ = some (.int .u32 3144134277) := hB 1 (by omega)
  have c2 : w.cell? ⟨0, 2, none⟩ = some (.int .u32 1013904242) := hB 2 (by omega)
  have c3 : w.cell? ⟨0, 3, none⟩ = some (.int .u32 2773480762) := hB 3 (by omega)
  have c4 : w.cell? ⟨0, 4, none⟩ = some (.int .u32 1359893119) := hB 4 (by omega)
  have c5 : w.cell? ⟨0, 5, none⟩ = some (.int .u32 2600822924) := hB 5 (by omega)
  have c6 : w.cell? ⟨0, 6, none⟩ = some (.int .u32 528734635) := hB 6 (by omega)
  have c7 : w.cell? ⟨0, 7, none⟩ = some (.int .u32 1541459225) := hB 7 (by omega)
  have HS := Lib.hid (stAt_new w)
  have HQ := Lib.hid (show Below w.heap.size w (w.alloc objNew) from (Below.refl _ _).alloc (Nat.le_refl _) _)
  clear hB
  go_enter Tryd.func36, Tryd.ntmps36
  go_wp2_with fail
  go_ret
  exact ⟨rfl, HS.out, HQ.out⟩

theorem BRow.take {w : World} {A : Option Addr} {n c : Nat} {l : List UInt8} (h : BRow w (.slice A n c) l) {k : Nat} (hk : k ≤ n) : BRow w (.slice A k c) (l.take k) := by
  obtain ⟨A', c', e, h1, h2, h3⟩ := h
  cases e
  refine ⟨A, c, by rw [List.length_take, Nat.min_eq_left hk], by rw [List.length_take]; omega, h2, ?_⟩
  rcases h3 with rfl | ⟨g, o, rfl, hc⟩
  · exact .inl (by simp)
  · refine .inr ⟨g, o, rfl, fun j hj => ?_⟩
    rw [List.length_take] at hj
    rw [hc j (by omega)]
    have : (l.take k).getD j 0 = l.getD j 0 := by
      rw [List.getD_eq_getElem?_getD, List.getD_eq_getElem?_getD, List.getElem?_take_of_lt (by omega)]
    rw [this]
theorem BRow.drop {w : World} {g o n c : Nat} {l : List UInt8} (h : BRow w (.slice (some ⟨g, o, none⟩) n c) l) {k : Nat} (hk : k ≤ n) : BRow w (.slice (some ⟨g, o + k, none⟩) (n - k) (c - k)) (l.drop k) := by
  obtain ⟨A', c', e, h1, h2, h3⟩ := h
  cases e
  refine ⟨some ⟨g, o + k, none⟩, c - k, by rw [List.length_drop], by rw [List.length_drop]; omega, by omega, ?_⟩
  rcases h3 with rfl | ⟨g', o', e, hc⟩
  · exact .inl (by simp)
  · cases e
    refine .inr ⟨g, o + k, rfl, fun j hj => ?_⟩
    rw [List.length_drop] at hj
    have := hc (k + j) (by omega)
    rw [← Nat.add_assoc] at this
    rw [this]
    have : (l.drop k).getD j 0 = l.getD (k + j) 0 := by
      rw [List.getD_eq_getElem?_getD, List.getD_eq_getElem?_getD, List.getElem?_drop]
    rw [this]
theorem BRow.len {w : World} {A : Option Addr} {n c : Nat} {l : List UInt8} (h : BRow w (.slice A n c) l) : n = l.length := by
  obtain ⟨A', c', e, _⟩ := h
  exact (Value.slice.inj e).2.1
/-- Read again behind a store elsewhere. -/
theorem BRow.grown {w w' : World} {v : Value} {l : List UInt8} {g : Nat} (h : BRow w v l) (hg : w.grownBy w' (some g)) (hne : v.ownBlock ≠ some g) : BRow w' v l := by
  obtain ⟨A, c, rfl, h1, h2, h3⟩ := h
  refine ⟨A, c, rfl, h1, h2, ?_⟩
  rcases h3 with h3 | ⟨b, o, rfl, hc⟩
  · exact .inl h3
  · exact .inr ⟨b, o, rfl, fun i hi => hg.cell (hc i hi) (by simpa [Value.ownBlock] using hne)⟩
end Go.Proofs.YthdbhajpjkkehaaDoor

namespace Go.Proofs.YthdbhajpjkkehaaDoor
open Go.RowKit Go.Lib Sha
set_option linter.unusedVariables false
set_option linter.unusedSimpArgs false

theorem stC_n (st : St) (rv : Value) (n m : Int) (j : Nat) (hj : j < 10) : (if j = 9 then .int .u64 m else stC st rv n j) = stC st rv m j := by
  unfold stC
  by_cases h9 : j = 9
  · subst h9; simp
  · rw [if_neg h9]
    by_cases h8 : j < 8
    · rw [if_pos h8, if_pos h8]
    · rw [if_neg h8, if_neg h8, if_pos (by omega), if_pos (by omega)]
theorem stC_r (st : St) (rv rv' : Value) (n : Int) (j : Nat) : (if j = 8 then rv' else stC st rv n j) = stC st rv' n j := by
  unfold stC
  by_cases h8 : j = 8
  · subst h8; simp
  · rw [if_neg h8]
    by_cases h9 : j < 8
    · rw [if_pos h9, if_pos h9]
    · rw [if_neg h9, if_neg h9, if_neg h8, if_neg h8]
theorem StAt.rest {w : World} {g : Nat} {st : St} {rv : Value} {n : Int} (h : StAt w g st rv n) : w.cell? ⟨g, 8, none⟩ = some rv := World.rowIs.cell h (i := 8) (by omega)
theorem StAt.num {w : World} {g : Nat} {st : St} {rv : Value} {n : Int} (h : StAt w g st rv n) : w.cell? ⟨g, 9, none⟩ = some (.int .u64 n) := World.rowIs.cell h (i := 9) (by omega)
theorem StAt.setNum {w : World} {g : Nat} {st : St} {rv : Value} {n : Int} (h : StAt w g st rv n) (m : Int) : StAt (w.setCell ⟨g, 9, none⟩ (.int .u64 m)) g st rv m := World.rowIs.congr (World.rowIs.set h 9 _) fun j hj => stC_n st rv n m j hj
theorem StAt.setRest {w : World} {g : Nat} {st : St} {rv : Value} {n : Int} (h : StAt w g st rv n) (rv' : Value) : StAt (w.setCell ⟨g, 8, none⟩ rv') g st rv' n := World.rowIs.congr (World.rowIs.set h 8 _) fun j hj => stC_r st rv rv' n j
theorem StAt.grown {w w' : World} {g : Nat} {st : St} {rv : Value} {n : Int} {row : Option Nat} (h : StAt w g st rv n) (hg : w.grownBy w' row) (hne : some g ≠ row) : StAt w' g st rv n := World.rowIs.of_block h (hg.block g (World.rowIs.lt h) hne)
def AddRel (w : World) (g base : Nat) (st : St) (all : List UInt8) (N : Int) (k : Nat) (wr : World) : Prop :=
  (k = 0 ∧ w = wr) ∨ (k = 1 ∧ ∃ rv', StAt wr g st rv' N ∧ OwnB wr base rv' all ∧ rv'.ownBlock ≠ some g ∧ Below base w wr)
/-- What is left, and what went in. -/
def TakeRel (w : World) (g base : Nat) (st : St) (all : List UInt8) (n : Int) (wr : World) : Prop :=
  ∃ st1 rv1 q, StAt wr g st1 rv1 n ∧ BRow wr rv1 q ∧ NilOr rv1 ∧ rv1.ownBlock ≠ some g ∧ Below base w wr ∧ st1.blocks q = st.blocks all ∧ restOf q = restOf all ∧ q.length ≤ all.length
def restLen (w : World) (g : Nat) : Nat := match w.cell? ⟨g, 8, none⟩ with | some (.slice _ n _) => n | _ => 0
theorem restLen_set {w : World} {g : Nat} {st : St} {rv : Value} {n : Int} (h : StAt w g st rv n) (A : Option Addr) (m c : Nat) : restLen (w.setCell ⟨g, 8, none⟩ (.slice A m c)) g = m := by
  unfold restLen; rw [(h.setRest (.slice A m c)).rest]
theorem takeRel_next {w wr w2 : World} {g base : Nat} {st st1 : St} {rv1 rvn : Value} {q all : List UInt8} {N : Int} (HS : StAt w2 g (st1.take (q.take 64)) rv1 N) (HG : wr.grownBy w2 (some g)) (HB : BRow wr rvn (q.drop 64))
    (hne : rvn.ownBlock ≠ some g) (hnil : NilOr rvn) (hb : Below base w wr) (hbw : base ≤ wr.heap.size) (hbg : base ≤ g) (h64 : 64 ≤ q.length) (hbl : st1.blocks q = st.blocks all) (hre : restOf q = restOf all) (hle : q.length ≤ all.length) :
    TakeRel w g base st all N (w2.setCell ⟨g, 8, none⟩ rvn) := by
  refine ⟨_, rvn, q.drop 64, HS.setRest rvn, (HB.grown HG hne).grown (grown_set (World.grownBy.refl _ _) 8 rvn) hne, hnil, hne, ?_, ?_, ?_, ?_⟩
  · exact (hb.trans ((Below.refl base wr).grown HG hbw (fun k hk => by injection hk with hk; omega))).setCell hbg _
  · rw [← blocks_cons st1 q h64, hbl]
  · rw [rest_drop q h64, hre]
  · rw [List.length_drop]; omega
attribute [local irreducible] restOf St.take
set_option maxHeartbeats 4000000 in
set_option maxRecDepth 100000 in
theorem add_calls (g : Nat) (st : St) (rv : Value) (r : List UInt8) (n : Nat) (gp o c : Nat) (pv : Value) (p : List UInt8) (w : World) (base : Nat)
    (hS : StAt w g st rv (n : Int)) (hO : OwnB w base rv r) (hog : rv.ownBlock ≠ some g) (hpc : w.cell? ⟨gp, o, none⟩ = some pv) (hP : BRow w pv p) (hN : NilOr pv) (hpg : pv.ownBlock ≠ some g) (hgg : gp ≠ g)
    (hK : KAt w) (hKb : 2 < base) (hb : base ≤ g) (hr : r.length ≤ 1000000) (hp : p.length ≤ 1000000) (hn : n ≤ 1000000) (all : List UInt8) (hall : r ++ p = all) (N : Int) (hNN : (n : Int) + p.length = N) :
    Calls Tryd.prog 37 #[.pointer (some ⟨g, 0, none⟩), .slice (some ⟨gp, o, none⟩) 1 c] w fun e w' => e = .returned (.pointer (some ⟨g, 0, none⟩)) ∧ TakeRel w g base st all N w' ∧ restLen w' g < 64 := by
  obtain ⟨Ap, cp, rfl, p1, p2, -⟩ := id hP
  unfold maxLen at p2
  have HS := Lib.hid hS
  have HO := Lib.hid hO
  have HP := Lib.hid hP
  have HN := Lib.hid hN
  have HOg := Lib.hid hog
  have HPg := Lib.hid hpg
  have HGg := Lib.hid hgg
  have HK := Lib.hid hK
  have HKb := Lib.hid hKb
  have HBg := Lib.hid hb
  have HR := Lib.hid hr
  have HPl := Lib.hid hp
  have HBw : Hid (base ≤ w.heap.size) := Lib.hid (Nat.le_trans hb (Nat.le_of_lt hS.lt))
  have Hwr := Lib.hid (show IntKind.u64.wrap ((n : Int) + (p.length : Int)) = (n : Int) + (p.length : Int) by rw [u64_wrap]; omega)
  have Hcv := Lib.hid (show IntKind.u64.wrap (p.length : Int) = (p.length : Int) by rw [u64_wrap]; omega)
  have hgs := hS.lt
  have HAll := Lib.hid hall
  have HNN := Lib.hid hNN
  clear hS hO hog hP hN hpg hgg hK hKb hb hr hp hn hall hNN
  go_enter Tryd.func37, Tryd.ntmps37
  go_wp2_with fail
  go_loopw [9] (fun t wr => ∃ k : Nat, t = .int .i64 (k : Int) ∧ AddRel w g base st all N k wr) (fun t _ => 1 - (intOf t).toNat)
  case atStart => exact ⟨0, rfl, .inl ⟨rfl, rfl⟩⟩
  case round =>
    obtain ⟨k, rfl, ⟨rfl, rfl⟩ | ⟨rfl, rv', HS1, HO1, hne1, hb1⟩⟩ := hrel
    · have hc9 := HS.out.num
      have hc8 := HS.out.rest
      have hf9 := HS.out.frozen 9
      have hf8 := HS.out.frozen 8
      have hwr := Hwr.out
      have hcv := Hcv.out
      go_upto_region 5 with fail
      clear hwr hcv
      have HS1 := Lib.hid (HS.out.setNum ((n : Int) + (p.length : Int)))
      have HG1 : Hid (w.grownBy (w.setCell ⟨g, 9, none⟩ (.int .u64 ((n : Int) + (p.length : Int)))) (some g)) := Lib.hid (grown_set (World.grownBy.refl _ _) 9 _)
      have HB1 : Hid (Below base w (w.setCell ⟨g, 9, none⟩ (.int .u64 ((n : Int) + (p.length : Int))))) := Lib.hid ((Below.refl _ _).setCell HBg.out _)
      have hsz : (w.setCell ⟨g, 9, none⟩ (.int .u64 ((n : Int) + (p.length : Int)))).heap.size = w.heap.size := by simp [World.setCell]
      obtain ⟨W1, hW1⟩ : ∃ W1, w.setCell ⟨g, 9, none⟩ (.int .u64 ((n : Int) + (p.length : Int))) = W1 := ⟨_, rfl⟩
      rw [hW1] at HS1 HG1 HB1 hsz ⊢
      clear hW1 hc9 hf9
      have hc8' := HS1.out.rest
      have HO1 : Hid (OwnB W1 base rv r) := Lib.hid (OwnR.grown HO.out HG1.out (.inr HOg.out))
      have HP1 := Lib.hid (HP.out.grown HG1.out HPg.out)
      have HBw1 : Hid (base ≤ W1.heap.size) := Lib.hid (by rw [hsz]; exact HBw.out)
      have HSz := Lib.hid hsz
      clear hsz hc8 hf8
      go_wp2_with (at_builtin; refine wpList_app_bytes rfl _ _ rfl base rv r p rfl HO1.out _ rfl HP1.out HN.out HR.out HPl.out HBw1.out ?_)
      intro v' W2 ho2 hg2 hn2 hb2
      rw [HAll.out] at ho2
      rw [HNN.out] at HS1
      obtain ⟨Av, cv, rfl⟩ := ho2.len
      have HS2 := Lib.hid (HS1.out.grown hg2 (Ne.symm HOg.out))
      have hc8 := HS2.out.rest
      have hf8 := HS2.out.frozen 8
      have hgs2 := HS2.out.lt
      have HS3 := Lib.hid (HS2.out.setRest (.slice Av all.length cv))
      have hne2 : (Value.slice Av all.length cv).ownBlock ≠ some g := by
        rcases hn2 with e | e
        · rw [e]; exact HOg.out
        · rw [e]; intro e2; injection e2 with e2; rw [HSz.out] at e2; omega
      have HO3 : Hid (OwnB (W2.setCell ⟨g, 8, none⟩ (.slice Av all.length cv)) base (.slice Av all.length cv) all) := Lib.hid (OwnR.grown ho2 (grown_set (World.grownBy.refl _ _) 8 (.slice Av all.length cv)) (.inr hne2))
      have HNe := Lib.hid hne2
      have HB3 : Hid (Below base w (W2.setCell ⟨g, 8, none⟩ (.slice Av all.length cv))) := Lib.hid ((HB1.out.trans hb2).setCell HBg.out _)
      clear hc8' ho2 hg2 hn2 hb2 hne2
      go_wp2_with fail
      go_roundw
      case rel => exact ⟨1, rfl, .inr ⟨rfl, (.slice Av all.length cv), HS3.out, HO3.out, HNe.out, HB3.out⟩⟩
      case measure => simp [intOf]
    · have HT0 : TakeRel w g base st all N wr := ⟨st, rv', all, HS1, HO1.row, own_nil_or HO1, hne1, hb1, rfl, rfl, Nat.le_refl _⟩
      clear HS1 HO1 hne1 hb1 HS HO HP HN HOg HPg HR HPl HBw Hwr Hcv HAll HNN
      go_wp2_with fail
      go_loopw [33] (fun t wr => TakeRel w g base st all N wr) (fun _ wr => restLen wr g)
      case atStart => exact HT0
      case round =>
        obtain ⟨st1, rv1, q, HS1, HB1, hn1, hne1, hb1, hbl, hre, hle⟩ := hrel
        obtain ⟨A1, c1, rfl, m1, m2, -⟩ := id HB1
        unfold maxLen at m2
        have hc8 := HS1.rest
        have hf8 := HS1.frozen 8
        have hgs1 := HS1.lt
        have HS2 := Lib.hid HS1
        have HB2 := Lib.hid HB1
        have HNe := Lib.hid hne1
        have HNil := Lib.hid hn1
        have HB3 := Lib.hid hb1
        have HBl := Lib.hid hbl
        have HRe := Lib.hid hre
        have HLe := Lib.hid hle
        have HRL : Hid (restLen wr g = q.length) := Lib.hid (by unfold restLen; rw [HS1.rest])
        have HQn := Lib.hid (rfl : q.length = q.length)
        clear HS1 HB1 hn1 hne1 hb1 hbl hre hle
        by_cases h64 : 64 ≤ q.length
        · obtain ⟨b, o1, rfl, hbs, -⟩ := HB2.out.block (by omega)
          have h64' : (64 : Int) ≤ (q.length : Int) := by omega
          have hc64 : (64 : Int) ≤ (c1 : Int) := by omega
          have hc64n : 64 ≤ c1 := by omega
          have HTk := Lib.hid (take_calls (.slice (some ⟨b, o1, none⟩) 64 c1) (q.take 64) g st1 (.slice (some ⟨b, o1, none⟩) q.length c1) N wr (HB2.out.take h64) (by rw [List.length_take]; omega) HS2.out (fun i hi => (HB3.out.cell (p := ⟨2, i, none⟩) HKb.out).trans (HK.out i hi)) (by have := HKb.out; have := HBg.out; omega))
          have HD := Lib.hid (HB2.out.drop h64)
          have HBc := Lib.hid (blocks_cons st1 q h64)
          have HRd := Lib.hid (rest_drop q h64)
          have HDl : Hid ((q.drop 64).length = q.length - 64) := Lib.hid (by simp)
          obtain ⟨m, hm⟩ : ∃ m, q.length = m := ⟨_, rfl⟩
          have HM := Lib.hid hm
          rw [hm] at hc8 h64 h64' m1 HTk HD HDl HB2 HRL
          clear hm HQn
          go_wp2_with fail
          refine HTk.out.mono ?_
          rintro e w2 ⟨rfl, hS2, hG2⟩
          have hc8 := hS2.rest
          have hf8 := hS2.frozen 8
          have hgs2 := hS2.lt
          have HS3 := Lib.hid hS2
          have HG3 := Lib.hid hG2
          clear hS2 hG2 HTk
          have HBw : Hid (base ≤ wr.heap.size) := Lib.hid (by have := HBg.out; omega)
          have HQ64 : Hid (64 ≤ q.length) := Lib.hid (by rw [HM.out]; exact h64)
          by_cases hcc : c1 = 64
          · subst hcc
            obtain rfl : m = 64 := by omega
            have HD0 : Hid (BRow wr (.slice (some ⟨b, o1, none⟩) 0 0) (q.drop 64)) := Lib.hid ⟨some ⟨b, o1, none⟩, 0, by rw [HDl.out], by rw [HDl.out]; omega, by unfold maxLen; omega, .inl (List.eq_nil_of_length_eq_zero HDl.out)⟩
            have HRs := Lib.hid (restLen_set HS3.out (some ⟨b, o1, none⟩) 0 0)
            have HNx := Lib.hid (takeRel_next (rvn := .slice (some ⟨b, o1, none⟩) 0 0) HS3.out HG3.out HD0.out (by simpa [Value.ownBlock] using HNe.out) (.inr ⟨_, _, _, rfl⟩) HB3.out HBw.out HBg.out HQ64.out HBl.out HRe.out HLe.out)
            go_wp2_with fail
            go_roundw
            case rel => ((repeat apply Exists.intro); exact ⟨HNx.out, rfl⟩)
            case measure => rw [HRs.out, HRL.out]; omega
          · have hcl : 64 < c1 := by omega
            have HRs := Lib.hid (restLen_set HS3.out (some ⟨b, o1 + 64, none⟩) (m - 64) (c1 - 64))
            have HNx := Lib.hid (takeRel_next (rvn := .slice (some ⟨b, o1 + 64, none⟩) (m - 64) (c1 - 64)) HS3.out HG3.out HD.out (by simpa [Value.ownBlock] using HNe.out) (.inr ⟨_, _, _, rfl⟩) HB3.out HBw.out HBg.out HQ64.out HBl.out HRe.out HLe.out)
            go_wp2_with fail
            go_roundw
            case rel => ((repeat apply Exists.intro); exact ⟨HNx.out, rfl⟩)
            case measure => rw [HRs.out, HRL.out]; omega
        · have h64' : ¬ (64 : Int) ≤ (q.length : Int) := by omega
          go_wp2_with fail
          go_ret
          exact ⟨rfl, ⟨st1, _, q, HS2.out, HB2.out, HNil.out, HNe.out, HB3.out, HBl.out, HRe.out, HLe.out⟩, by rw [HRL.out]; omega⟩
end Go.Proofs.YthdbhajpjkkehaaDoor

namespace Go.Proofs.YthdbhajpjkkehaaDoor
open Go.RowKit Go.Lib
set_option linter.unusedVariables false
set_option linter.unusedSimpArgs false

theorem zeros_flat (z : Nat) : ((List.replicate z (0 : UInt8)).map bC).flatten = List.replicate z (.int .u8 0) := by
  induction z with
  | zero => rfl
  | succ z ih => rw [List.replicate_succ, List.map_cons, List.flatten_cons, ih]; rfl
theorem zeroCells_one (z : Nat) : (Builtin.zeroCells #[Value.int .u8 0] z).toList = List.replicate z (.int .u8 0) := by
  simp [Builtin.zeroCells, Nat.mod_one]
  apply List.ext_getElem
  · simp
  · intro i h1 h2
    simp
theorem flat_one (c : UInt8) (z : Nat) : ((c :: List.replicate z (0 : UInt8)).map bC).flatten = .int .u8 (c.toNat : Int) :: List.replicate z (.int .u8 0) := by
  rw [List.map_cons, List.flatten_cons, zeros_flat]; rfl
theorem wpList_app_zeros {ops : Array Oper} {rest : List Oper} {o : Oper} {a : Act} {Q : Exit → Act → World → Prop} {w : World} (hgd : o.guard = none) (s x : Operand)
    (ho : o.op = .call { callee := .builtin .append, args := #[s, x], argTypes := #[66, 24] }) (c : UInt8)
    (hs : a.eval s = .slice (some ⟨w.heap.size, 0, none⟩) 1 1) (z : Nat) (hx : a.eval x = .int .u64 (z : Int)) (hz : z ≤ 64)
    (h : ∀ v' w', OwnB w' w.heap.size v' (c :: List.replicate z 0) → Below w.heap.size w w' → wpList Tryd.prog ops Q rest (a.put o.dst v') w') :
    wpList Tryd.prog ops Q (o :: rest) a (w.alloc (.cells #[.int .u8 (c.toNat : Int)] 5)) := by
  obtain ⟨i0, hi0, hz0, hz1, hz2⟩ := info_parts infoByte
  by_cases h0 : z = 0
  · subst h0
    have hr : (Builtin.append_ #[66, 24] o.type #[.slice (some ⟨w.heap.size, 0, none⟩) 1 1, .int .u64 ((0 : Nat) : Int)]).run Tryd.prog (w.alloc (.cells #[.int .u8 (c.toNat : Int)] 5)) = .ok (.slice (some ⟨w.heap.size, 0, none⟩) 1 1) (w.alloc (.cells #[.int .u8 (c.toNat : Int)] 5)) := by
      simp [Builtin.append_, Tryd.underlying66, Tryd.underlying24, go_sem, hi0, Builtin.lenOf, sizeOf, typeInfo, show IntKind.i64.wrap 0 = 0 by decide]
    refine Go.Lib.wpList_append_run _ hgd s x _ _ ho _ _ hs hx _ _ hr (h _ _ ?_ ?_)
    · refine ⟨⟨rfl, .inr ⟨w.heap.size, 1, #[.int .u8 (c.toNat : Int)], rfl, Nat.le_refl _, heap_alloc _ _, Nat.le_refl _, by unfold maxLen; omega, rfl, rfl⟩⟩, ?_⟩
      intro x hx
      obtain ⟨c, _, rfl⟩ := List.mem_map.1 hx
      exact bC_typed c
    · exact (Below.refl _ _).alloc (Nat.le_refl _) _
  · have hold : (Builtin.firstCells i0.size 1 (.slice (some ⟨w.heap.size, 0, none⟩) 1 1)).run Tryd.prog (w.alloc (.cells #[.int .u8 (c.toNat : Int)] 5)).drew = .ok ([Value.int .u8 (c.toNat : Int)]).toArray (w.alloc (.cells #[.int .u8 (c.toNat : Int)] 5)).drew := by
      rw [hz1]
      simp [Builtin.firstCells, go_sem]
    have hr := Go.Lib.run_append_grow_zeros (P := Tryd.prog) (w.alloc (.cells #[.int .u8 (c.toNat : Int)] 5)) 66 24 o.type 5 i0 (.int .u8 0) .u64 .u64 Tryd.underlying66 Tryd.underlying24 hi0 hz0 _ 1 1 [Value.int .u8 (c.toNat : Int)] hold z (by omega) (by rw [hz1]; decide) (by omega) (by omega) (by rw [hz2]; omega) (by rw [hz2]; unfold Builtin.nextslicecap; rw [if_pos (show 1 < 256 by decide)]; split <;> omega)
    have hcz : (Value.int IntKind.u8 0).cells = #[Value.int IntKind.u8 0] := rfl
    rw [hcz] at hr
    refine Go.Lib.wpList_append_run _ hgd s x _ _ ho _ _ hs hx _ _ hr (h _ _ ?_ ?_)
    · have hcap := grownCap_ge (w.alloc (.cells #[.int .u8 (c.toNat : Int)] 5)) (1 + z) 1 5
      have hmax := grownCap_le_maxLen (w.alloc (.cells #[.int .u8 (c.toNat : Int)] 5)) (1 + z) 1 5 (by unfold maxLen; omega)
      generalize grownCap (w.alloc (.cells #[.int .u8 (c.toNat : Int)] 5)) (1 + z) 1 5 = cap at *
      refine ⟨⟨?_, .inr ⟨_, cap, _, by rw [List.length_map, List.length_cons, List.length_replicate, Nat.add_comm 1 z]; rfl, by simp, heap_alloc _ _, ?_, hmax, ?_, ?_⟩⟩, ?_⟩
      · rw [flat_one, List.length_cons, List.length_replicate, List.length_map, List.length_cons, List.length_replicate, show u8K.length = 1 from rfl, Nat.mul_one]
      · simp; omega
      · simp [Builtin.zeroCells]; omega
      · rw [flat_one, List.length_map, List.length_cons, List.length_replicate, show u8K.length = 1 from rfl, Nat.mul_one, Array.toList_append, Array.toList_append, zeroCells_one, zeroCells_one]
        rw [List.take_append_of_le_length (by simp)]
        exact List.take_of_length_le (by simp)
      · intro x hx
        obtain ⟨c, _, rfl⟩ := List.mem_map.1 hx
        exact bC_typed c
    · exact ((Below.refl _ _).alloc (Nat.le_refl _) _).drew.alloc (by simp) _
end Go.Proofs.YthdbhajpjkkehaaDoor
