/- Records appended inside a region that draws its order. -/
import Derived.Test.YthdbhajpjkkehaaDoorLt4
import Derived.Test.YthdbhajpjkkehaaDoorJoin2
import Derived.Test.YthdbhajpjkkehaaDoorBox
import Derived.DeepKeys4
import Derived.Test.YthdbhajpjkkehaaDoorDom1
import Derived.Deep.RegionLaw
namespace Go.Proofs.YthdbhajpjkkehaaDoor
open Go.RowKit Go.Lib
set_option linter.unusedVariables false
set_option linter.unusedSimpArgs false

theorem getD_take {α : Type} (l : List α) (k i : Nat) (d : α) (h : i < k) : (l.take k).getD i d = l.getD i d := by
  rw [List.getD_eq_getElem?_getD, List.getD_eq_getElem?_getD, List.getElem?_take, if_pos h]
theorem Recs.cut {K : Kinds} {w : World} {A : Option Addr} {n c : Nat} {l : List (List Value)} (h : Recs K w (.slice A n c) l) (k : Nat) (hk : k ≤ n) : Recs K w (.slice A k c) (l.take k) := by
  obtain ⟨A', c', e, h1, h2, h4, h3⟩ := h
  cases e
  have hl : (l.take k).length = k := by rw [List.length_take]; omega
  refine ⟨A, c, by rw [hl], by rw [hl]; omega, h2, fun x hx => h4 x (List.mem_of_mem_take hx), ?_⟩
  rcases h3 with h3 | ⟨g', o', e, hc⟩
  · subst h3; exact .inl (by simp)
  · refine .inr ⟨g', o', e, fun i hi => ?_⟩
    rw [hl] at hi
    rw [getD_take _ _ _ _ hi]
    exact hc i (by omega)
theorem ownR_base {E : TypeId} {K : Kinds} {w : World} {b b' : Nat} {v : Value} {l : List (List Value)} (h : OwnR E K w b v l) (hb : b' ≤ b) : OwnR E K w b' v l := by
  refine ⟨⟨h.1.1, ?_⟩, h.2⟩
  rcases h.1.2 with hn | ⟨g, cap, cur, e, hbg, rest⟩
  · exact .inl hn
  · exact .inr ⟨g, cap, cur, e, Nat.le_trans hb hbg, rest⟩
theorem fnd_range (hs : List (List Value)) (m : Int) : fnd hs m = -1 ∨ ∃ i : Nat, i < hs.length ∧ fnd hs m = (i : Int) := by
  unfold fnd
  cases h : hs.findIdx? (fun x => decide (intAt x 0 = m)) with
  | none => exact .inl rfl
  | some i =>
    rw [List.findIdx?_eq_some_iff_getElem] at h
    exact .inr ⟨i, h.1, rfl⟩
set_option maxHeartbeats 1000000 in
set_option maxRecDepth 100000 in
theorem revert_no (c n : Nat) (v mp : Value) (hs : List (List Value)) (m : Int) (w : World) (h : ClAt w c v n mp) (hR : Recs hdK w v hs) (hl : hs.length ≤ 1000) (hn : n ≤ hs.length) (r : Int) (hr : (fnd hs m = -1 ∧ r = 10) ∨ (0 ≤ fnd hs m ∧ fnd hs m < n ∧ r = 11)) :
    Calls Tryd.prog 19 #[.pointer (some ⟨c, 0, none⟩), .int .u32 m] w fun e w' => e = .returned (.int .i64 r) ∧ Below w.heap.size w w' := by
  have HF := Lib.hid (find_calls c v hs m w h.cells.1 hR hl)
  have HC := Lib.hid h
  obtain ⟨i, hi⟩ : ∃ i, fnd hs m = i := ⟨_, rfl⟩
  rw [hi] at HF hr
  clear h hR hi
  have hn2 : (n : Int) ≤ 1000 := by omega
  rcases hr with ⟨rfl, rfl⟩ | ⟨h1, h2, rfl⟩
  · go_enter Tryd.func19, Tryd.ntmps19
    go_wp2_with (go_at_call 31; refine HF.out.mono ?_; rintro e w2 ⟨rfl, hb2⟩)
    go_ret
    exact ⟨rfl, hb2⟩
  · have h1' : ¬ i < 0 := by omega
    go_enter Tryd.func19, Tryd.ntmps19
    go_wp2_with (go_at_call 31
                 refine HF.out.mono ?_
                 rintro e w2 ⟨rfl, hb2⟩
                 have c1 := (World.rowIs.of_block HC.out (hb2.block c (World.rowIs.lt HC.out))).cell (i := 1) (by omega)
                 change _ = some (Value.int .i64 (n : Int)) at c1)
    go_ret
    exact ⟨rfl, hb2⟩
set_option maxHeartbeats 1000000 in
set_option maxRecDepth 100000 in
theorem revert_yes (c n i : Nat) (v mp : Value) (hs : List (List Value)) (m : Int) (w : World) (h : ClAt w c v n mp) (hR : Recs hdK w v hs) (hl : hs.length ≤ 1000) (hi : fnd hs m = (i : Int)) (hni : n ≤ i) (hil : i < hs.length) :
    Calls Tryd.prog 19 #[.pointer (some ⟨c, 0, none⟩), .int .u32 m] w fun e w' => e = .returned (.int .i64 0) ∧ ∃ v', ClAt w' c v' n mp ∧ OwnR 42 hdK w' w.heap.size v' (hs.take i) ∧ NilOr v' ∧ Below c w w' ∧ ∀ k, k < w.heap.size → k ≠ c → w'.heap[k]? = w.heap[k]? := by
  have HF := Lib.hid (find_calls c v hs m w h.cells.1 hR hl)
  have HC := Lib.hid h
  have HR := Lib.hid hR
  rw [hi] at HF
  obtain ⟨A, cp, rfl, hcp, hcm, -, hA⟩ := id hR
  rcases hA with hA | ⟨g, o, rfl, -⟩
  · rw [hA] at hil; simp at hil
  have h1' : ¬ (i : Int) < 0 := by omega
  have h2' : ¬ (i : Int) < (n : Int) := by omega
  have h3' : (i : Int) ≤ (cp : Int) := by omega
  have hcl : w.heap.size > c := World.rowIs.lt h
  have HTk : Hid ((hs.take i).length = i) := Lib.hid (by rw [List.length_take]; omega)
  have hii : i ≤ cp := by omega
  have hi2 : (i : Int) ≤ 1000 := by omega
  clear h hR hi
  go_enter Tryd.func19, Tryd.ntmps19
  go_wp2_with (first
    | (go_at_call 31
       refine HF.out.mono ?_
       rintro e w2 ⟨rfl, hb2⟩
       have HC2 := Lib.hid (show ClAt w2 c _ n mp from World.rowIs.of_block HC.out (hb2.block c (World.rowIs.lt HC.out)))
       have c0 := HC2.out.cells.1
       have c1 := HC2.out.cells.2.1
       have HCl := Lib.hid (hclone_calls (.slice (some ⟨g, o, none⟩) i cp) (hs.take i) w2 ((HR.out.below hdK_pos hb2).cut i (by omega)) (.inr ⟨_, _, _, rfl⟩) (by rw [HTk.out]; omega)))
    | (go_at_call 26
       refine HCl.out.mono ?_
       rintro e w3 ⟨v', rfl, u1, u2, u3⟩
       obtain ⟨A3, cp3, rfl, -⟩ := id u1.recs
       have hC3 : ClAt w3 c _ n mp := World.rowIs.of_block HC2.out (u3.block c (World.rowIs.lt HC2.out))
       have c3 := hC3.cells.1
       have hf3 := World.rowIs.frozen hC3 0))
  have U1 := Lib.hid u1
  have U2 := Lib.hid u2
  have U3 := Lib.hid u3
  have HB2 := Lib.hid hb2
  clear u1 u2 u3 hb2
  go_ret
  have hsz2 : w.heap.size ≤ w2.heap.size := HB2.out.size
  have hsz3 : w2.heap.size ≤ w3.heap.size := U3.out.size
  have hC3 : ClAt w3 c (.slice (some ⟨g, o, none⟩) hs.length cp) n mp := World.rowIs.of_block HC2.out (U3.out.block c (by omega))
  have hne : ∀ u : Value, u = .slice A3 (hs.take i).length cp3 → u.ownBlock ≠ some c := fun u hu e => by
    have := (OwnR.lt U1.out c (by rw [← hu]; exact e)).1
    omega
  have hu1 := U1.out
  have hso := fun u => set_only w3 c 0 u
  rw [List.length_take] at hu1 hne
  refine ⟨rfl, _, hC3.set_v _, ownR_base (OwnR.grown hu1 (grown_set (World.grownBy.refl _ _) 0 _) (.inr (hne _ rfl))) hsz2, ownH_nil_or hu1, ?_, fun k hk hkc => ?_⟩
  · exact ((HB2.out.mono (by omega)).trans (U3.out.mono (by omega))).trans (hso _).1
  · rw [(hso _).2 k hkc, U3.out.block k (by omega), HB2.out.block k hk]
end Go.Proofs.YthdbhajpjkkehaaDoor

namespace Go.Proofs.YthdbhajpjkkehaaDoor
open Go.RowKit Go.Lib
set_option linter.unusedVariables false
set_option linter.unusedSimpArgs false

set_option maxHeartbeats 1000000 in
set_option maxRecDepth 100000 in
theorem lnew_calls (w : World) :
    Calls Tryd.prog 5 #[] w fun e w' => e = .returned (.pointer (some ⟨w.heap.size + 1, 0, none⟩)) ∧ w'.heap[w.heap.size]? = some (.map #[] 0) ∧ ClAt w' (w.heap.size + 1) (.slice none 0 0) 0 (.map (some w.heap.size)) ∧ Below w.heap.size w w' := by
  have hmm := @run_makeMap Tryd.prog
  go_enter Tryd.func5, Tryd.ntmps5
  go_wp2_with fail
  go_ret
  have hsz : (w.alloc (.map #[] 0)).heap.size = w.heap.size + 1 := by simp
  have hq : ((w.alloc (.map #[] 0)).alloc (.cells #[.slice none 0 0, .int .i64 0, .map (some w.heap.size)] 64)).heap[w.heap.size]? = (w.alloc (.map #[] 0)).heap[w.heap.size]? := ((Below.refl (w.heap.size + 1) _).alloc (by omega) _).block w.heap.size (by omega)
  refine ⟨rfl, by rw [hq]; exact heap_alloc w _, ?_, ((Below.refl _ _).alloc (Nat.le_refl _) _).alloc (by simp) _⟩
  have := World.rowIs_alloc (w.alloc (.map #[] 0)) #[.slice none 0 0, .int .i64 0, .map (some w.heap.size)] 64 (clF (.slice none 0 0) 0 (.map (some w.heap.size))) (fun i hi => by
    have hi' : i < 3 := hi
    match i, hi' with
    | 0, _ => rfl
    | 1, _ => rfl
    | 2, _ => rfl)
  rw [hsz] at this
  exact this
end Go.Proofs.YthdbhajpjkkehaaDoor

namespace Go.Proofs.YthdbhajpjkkehaaDoor
open Go.RowKit Go.Lib
set_option linter.unusedVariables false
set_option linter.unusedSimpArgs false

/-- An event's cells. -/
def evK : Kinds := [some .u8, some .u64] ++ List.replicate 32 (some .u8) ++ [some .u8, some .u8, some .u8, some .u8] ++ List.replicate 8 (some .u64) ++ [some .u32]
theorem evK_flat : flatK Tryd.prog 6 40 = some evK := by kernel_rfl
theorem evK_cells : Tryd.prog.cellsOf 40 = evK.length := by kernel_rfl
theorem evK_info : (Tryd.prog.info? 40).map (·.size) = some 47 := by kernel_rfl
set_option maxRecDepth 10000 in
theorem evK_len : evK.length = 47 := by kernel_rfl
set_option maxRecDepth 100000 in
/-- A new variable for one. -/
def objEv : Obj := .cells #[.int .u8 0, .int .u64 0, .int .u8 0, .int .u8 0, .int .u8 0, .int .u8 0, .int .u8 0, .int .u8 0, .int .u8 0, .int .u8 0, .int .u8 0, .int .u8 0, .int .u8 0, .int .u8 0, .int .u8 0, .int .u8 0, .int .u8 0, .int .u8 0, .int .u8 0, .int .u8 0, .int .u8 0, .int .u8 0, .int .u8 0, .int .u8 0, .int .u8 0, .int .u8 0, .int .u8 0, .int .u8 0, .int .u8 0, .int .u8 0, .int .u8 0, .int .u8 0, .int .u8 0, .int .u8 0, .int .u8 0, .int .u8 0, .int .u8 0, .int .u8 0, .int .u64 0, .int .u64 0, .int .u64 0, .int .u64 0, .int .u64 0, .int .u64 0, .int .u64 0, .int .u64 0, .int .u32 0] 40
theorem ev_info {c : List Value} (h : Typed evK c) : (Tryd.prog.info? 40).map (·.size) = some c.length := by rw [h.length]; exact evK_info
theorem ev_info' {c : List Value} (h : Typed evK c) : (Tryd.prog.info? 40).map (·.size) = some c.toArray.size := by rw [List.size_toArray]; exact ev_info h
theorem ev_one {c : List Value} (h : Typed evK c) : c.toArray.all (·.oneCell') = true := all_oneCell_toArray h.one
theorem evK_pos : 0 < evK.length := by rw [evK_len]; omega
set_option maxRecDepth 100000 in
theorem ev_there (w : World) {c : List Value} (h : Typed evK c) : (w.alloc objEv).there w.heap.size 0 c.toArray.size := by
  have := there_alloc w #[.int .u8 0, .int .u64 0, .int .u8 0, .int .u8 0, .int .u8 0, .int .u8 0, .int .u8 0, .int .u8 0, .int .u8 0, .int .u8 0, .int .u8 0, .int .u8 0, .int .u8 0, .int .u8 0, .int .u8 0, .int .u8 0, .int .u8 0, .int .u8 0, .int .u8 0, .int .u8 0, .int .u8 0, .int .u8 0, .int .u8 0, .int .u8 0, .int .u8 0, .int .u8 0, .int .u8 0, .int .u8 0, .int .u8 0, .int .u8 0, .int .u8 0, .int .u8 0, .int .u8 0, .int .u8 0, .int .u8 0, .int .u8 0, .int .u8 0, .int .u8 0, .int .u64 0, .int .u64 0, .int .u64 0, .int .u64 0, .int .u64 0, .int .u64 0, .int .u64 0, .int .u64 0, .int .u32 0] 40
  rw [show c.toArray.size = 47 by rw [List.size_toArray, h.length, evK_len]]
  exact this
theorem ev_laid (w : World) {c : List Value} (h : Typed evK c) : ((w.alloc objEv).setCells w.heap.size 0 c).rangeAt w.heap.size 0 c :=
  World.rangeAt_setCells_same _ _ _ _ (by have := ev_there w h; rwa [List.size_toArray] at this)
theorem new_below (w : World) (o : Obj) (c : List Value) : Below w.heap.size w ((w.alloc o).setCells w.heap.size 0 c) := below_range (Nat.le_refl _) c 0 _ ((Below.refl _ _).alloc (Nat.le_refl _) o)

theorem ev_cell {W : World} {g : Nat} {x : List Value} (hL : W.rangeAt g 0 x) (ht : Typed evK x) (j : Nat) (k : IntKind) (hk : evK[j]? = some (some k)) : W.cell? ⟨g, j, none⟩ = some (.int k (intAt x j)) := by
  have := hL j _ (ht.at j k hk).1
  rwa [Nat.zero_add] at this
theorem filter_take {α : Type} (p : α → Bool) (l : List α) (d : α) (k : Nat) (h : k < l.length) : ((l.take (k + 1)).filter p).length = ((l.take k).filter p).length + if p (l.getD k d) then 1 else 0 := by
  rw [List.take_succ_eq_append_getElem h, List.filter_append, List.length_append, List.getD_eq_getElem?_getD, List.getElem?_eq_getElem h]
  simp only [Option.getD_some, List.filter_cons, List.filter_nil]
  split <;> rfl

/-- Is an event a slash of an account, with a fee? -/
def slashed (who : Int) (c : List Value) : Bool := intAt c 0 == 14 && intAt c 36 == who && !decide (intAt c 42 = 0 ∧ intAt c 43 = 0 ∧ intAt c 44 = 0 ∧ intAt c 45 = 0)

end Go.Proofs.YthdbhajpjkkehaaDoor

namespace Go.Proofs.YthdbhajpjkkehaaDoor
open Go.RowKit Go.Lib
set_option linter.unusedVariables false
set_option linter.unusedSimpArgs false

theorem results_mid {P : Program} {fn : Func} {p : Tmp} {ty : TypeId} (h : fn.results = #[.cell p ty]) (tmps : Array Value) (w : World) (g : Nat) (cs : List Value) (d : TypeDesc)
    (hp : tmps.getD p undef = .pointer (some ⟨g, 0, none⟩)) (hc : w.rangeAt g 0 cs)
    (hu : P.underlying ty = some d) (hd : d.isRow = true) (hi : (P.info? ty).map (·.size) = some cs.length) :
    (results fn tmps).run P w = .ok (.agg cs.toArray) w := by
  have hp' : tmps[p]?.getD undef = .pointer (some ⟨g, 0, none⟩) := by simpa using hp
  simp [results, h, hp', asAddr, run_loadVar_mid w g 0 ty cs d hc hu hd hi]
theorem row_range {w : World} {g n : Nat} {t : TypeId} {f : Nat → Value} (h : w.rowIs g t n f) : w.rangeAt g 0 ((List.range n).map f) := fun j v hv => by
  rw [List.getElem?_map] at hv
  rcases Nat.lt_or_ge j n with hj | hj
  · rw [List.getElem?_range hj] at hv
    cases hv
    rw [Nat.zero_add]
    exact h.cell hj
  · rw [List.getElem?_eq_none (by simpa using hj)] at hv
    cases hv
theorem row_there {w : World} {g n : Nat} {t : TypeId} {f : Nat → Value} (h : w.rowIs g t n f) : w.there g 0 n := fun j hj => by
  rw [Nat.zero_add]
  exact ⟨by rw [h.cell hj]; rfl, h.frozen j⟩

/-! Hashes -/
abbrev hashK : Kinds := List.replicate 32 (some .u8)
def intsOf (cs : List Value) : List Int := cs.map fun v => match v with | .int _ n => n | _ => 0
theorem typed_ints (k : IntKind) : ∀ (n : Nat) (cs : List Value), Typed (List.replicate n (some k)) cs → cs = (intsOf cs).map (Value.int k)
  | 0, cs, h => by cases h; rfl
  | n + 1, cs, h => by
    obtain ⟨v, vs, rfl, ⟨m, rfl, -⟩, h2⟩ := h
    have := typed_ints k n vs h2
    unfold intsOf at this ⊢
    rw [List.map_cons, List.map_cons, ← this]
theorem intsOf_length (cs : List Value) : (intsOf cs).length = cs.length := by simp [intsOf]
theorem Tryd.cellsU8h : Tryd.prog.cellsOf 5 = 1 := by kernel_rfl
theorem Tryd.infoU8h : (Tryd.prog.info? 5).map (fun i => (i.zero, i.size, i.bytes)) = some (some (.int .u8 0), 1, 1) := by kernel_rfl
theorem hash_len {cs : List Value} (h : Typed hashK cs) : cs.length = 32 := by rw [h.length, List.length_replicate]
theorem hash_eql {a b : List Value} (ha : Typed hashK a) (hb : Typed hashK b) (w : World) :
    (binOp .eql 38 (.agg a.toArray) (.agg b.toArray)).run Tryd.prog w = .ok (.bool (decide (intsOf a = intsOf b))) w := by
  obtain ⟨i, hi, _⟩ := Option.map_eq_some_iff.1 Tryd.infoU8h
  have := run_eql_ints (P := Tryd.prog) w (t := 38) (k := .u8) Tryd.underlying38 Tryd.underlying5 hi Tryd.cellsU8h (intsOf a) (intsOf b) (by rw [intsOf_length, hash_len ha]) (by rw [intsOf_length, hash_len hb])
  unfold ints at this
  rw [← typed_ints .u8 32 a ha, ← typed_ints .u8 32 b hb] at this
  exact this

theorem hash_equal {a b : List Value} (ha : Typed hashK a) (hb : Typed hashK b) (w : World) :
    (Op.equalIn 10000 38 (.agg a.toArray) (.agg b.toArray)).run Tryd.prog w = .ok (decide (intsOf a = intsOf b)) w := by
  obtain ⟨i, hi, _⟩ := Option.map_eq_some_iff.1 Tryd.infoU8h
  have := equalIn_ints (P := Tryd.prog) w 9998 (t := 38) (k := .u8) Tryd.underlying38 Tryd.underlying5 hi Tryd.cellsU8h (intsOf a) (intsOf b) (by rw [intsOf_length, hash_len ha]) (by rw [intsOf_length, hash_len hb])
  unfold ints at this
  rw [← typed_ints .u8 32 a ha, ← typed_ints .u8 32 b hb] at this
  exact this

/-- Is an event an id's? -/
def idOf (c : List Value) : List Value := (c.drop 2).take 32
theorem id_typed {c : List Value} (h : Typed evK c) : Typed hashK (idOf c) := h.part 2 32 (by rw [h.length, evK_len]; omega) (by kernel_rfl)
def hasId (ids c : List Value) : Bool := decide (intsOf (idOf c) = intsOf ids)
end Go.Proofs.YthdbhajpjkkehaaDoor

namespace Go.Proofs.YthdbhajpjkkehaaDoor
open Go.RowKit Go.Lib
set_option linter.unusedVariables false
set_option linter.unusedSimpArgs false

set_option maxRecDepth 100000
theorem ct_laid : laidOutB Tryd.prog = true := by kernel_rfl
theorem ct_wide : (match Tryd.prog.underlying 38 with | some (.array _ _) | some (.struct _) => true | _ => false) = true := by kernel_rfl
theorem ct_row : (38 : TypeId) < Tryd.prog.types.size := of_decide_eq_true (by kernel_rfl)
theorem ct_law : WideMaps.KeyLaw Tryd.prog 38 := deep_law_laid ct_laid (m := 3) (by omega) ct_row (by kernel_rfl) ct_wide
theorem ct_type : Tryd.prog.keyType 38 = true := by kernel_rfl
theorem ct_cells : Tryd.prog.cellsOf 38 = 32 := by kernel_rfl
theorem ct_cells1 : Tryd.prog.cellsOf 5 = 1 := by kernel_rfl
theorem ct_size : ∃ m, Tryd.prog.types.size = m + 1 := by
  exact ⟨Tryd.prog.types.size - 1, (Nat.succ_pred_eq_of_pos (Nat.lt_of_le_of_lt (Nat.zero_le _) ct_row)).symm⟩
theorem mapM_all {α β : Type} (f : α → Option β) : ∀ l : List α, (∀ i ∈ l, ∃ y, f i = some y) → ∃ ys, l.mapM f = some ys
  | [], _ => ⟨[], by simp⟩
  | a :: l, h => by
    obtain ⟨y, hy⟩ := h a (by simp)
    obtain ⟨ys, hys⟩ := mapM_all f l (fun i hi => h i (by simp [hi]))
    exact ⟨y :: ys, by simp [List.mapM_cons, hy, hys]⟩
theorem hash_key {ks : List Value} (h : Typed hashK ks) : ∃ l, keyOf Tryd.prog 38 (.agg ks.toArray) = some l := by
  have hl := hash_len h
  have hf : (Value.agg ks.toArray).formed Tryd.prog 38 = true := by
    simp [Value.formed, Tryd.underlying38, ct_cells, hl]
  obtain ⟨m, hm⟩ := ct_size
  obtain ⟨ys, hys⟩ := mapM_all (fun i => Tryd.prog.keyLits (m + 1) 5 ((ks.drop (i * 1)).take 1)) (List.range 32) (fun i hi => by
    have hi' := List.mem_range.1 hi
    obtain ⟨q1, q2⟩ := h.at i .u8 (by
      unfold hashK
      rw [List.getElem?_replicate, if_pos hi'])
    have e : (ks.drop (i * 1)).take 1 = [.int .u8 (intAt ks i)] := by
      rw [Nat.mul_one]
      have := (List.getElem?_eq_some_iff.1 q1)
      rw [List.drop_eq_getElem_cons this.1, List.take_succ_cons, List.take_zero, this.2]
    rw [e]
    exact ⟨[.int .u8 (intAt ks i)], by unfold Program.keyLits; simp [Tryd.underlying5, q2]⟩)
  have hk : Tryd.prog.keyLits (Tryd.prog.types.size + 1) 38 ks = some ys.flatten := by
    rw [hm]
    show Tryd.prog.keyLits (m + 1 + 1) 38 ks = _
    unfold Program.keyLits
    simp only [Tryd.underlying38, ct_cells, ct_cells1, hl, if_true]
    rw [hys]
    rfl
  have hk2 : Tryd.prog.keyLits (Tryd.prog.types.size + 1) 38 (Value.agg ks.toArray).cells.toList = some ys.flatten := hk
  refine ⟨.string (keyBytes ys.flatten), ?_⟩
  unfold keyOf
  rw [Tryd.underlying38]
  simp only [ct_type, hf, Bool.and_self, if_true]
  rw [hk2]
  rfl

/-- How often was paid, and refunded, by id. -/
abbrev Cnts := List Int → Nat × Nat
def kV (p : Nat × Nat) : Value := .agg #[.int .i64 (p.1 : Int), .int .i64 (p.2 : Int)]
def CtAt (w : World) (b : Nat) (f : Cnts) : Prop := ∃ es clock, w.heap[b]? = some (.map es clock) ∧ (∀ e ∈ es.toList, ∃ ks, Typed hashK ks ∧ e.key = .agg ks.toArray ∧ e.val = kV (f (intsOf ks))) ∧ (es.toList.map (·.key)).Nodup ∧ ∀ ks, Typed hashK ks → (∀ e ∈ es.toList, e.key ≠ .agg ks.toArray) → f (intsOf ks) = (0, 0)
theorem CtAt.lt {w : World} {b : Nat} {f : Cnts} (h : CtAt w b f) : b < w.heap.size := by
  obtain ⟨es, clock, hb, _⟩ := h
  exact (Array.getElem?_eq_some_iff.1 hb).1
theorem CtAt.kept {w w' : World} {b : Nat} {f : Cnts} (h : CtAt w b f) (hb : w'.heap[b]? = w.heap[b]?) : CtAt w' b f := by
  obtain ⟨es, clock, h1, h2⟩ := h
  exact ⟨es, clock, hb.trans h1, h2⟩
theorem CtAt.new {w : World} {b : Nat} (h : w.heap[b]? = some (.map #[] 0)) : CtAt w b (fun _ => (0, 0)) := ⟨#[], 0, h, by simp, by simp, fun _ _ _ => rfl⟩
theorem CtAt.keys {w : World} {b : Nat} {f : Cnts} {es : Array MapEntry} (h : ∀ e ∈ es.toList, ∃ ks, Typed hashK ks ∧ e.key = .agg ks.toArray ∧ e.val = kV (f (intsOf ks))) : ∀ e ∈ es.toList, ∃ l, keyOf Tryd.prog 38 e.key = some l := fun e he => by
  obtain ⟨ks, h1, h2, _⟩ := h e he
  rw [h2]
  exact hash_key h1
theorem ints_inj {a b : List Value} (ha : Typed hashK a) (hb : Typed hashK b) (h : intsOf a = intsOf b) : a = b := by
  rw [typed_ints .u8 32 a ha, typed_ints .u8 32 b hb, h]
theorem ct_zero (w : World) : (zeroValue 70).run Tryd.prog w = .ok (kV (0, 0)) w := by kernel_rfl
theorem ct_look {w : World} {b : Nat} {f : Cnts} {ks : List Value} (h : CtAt w b f) (hk : Typed hashK ks) : (Instr.lookup 62 (.map (some b)) (.agg ks.toArray) false).run Tryd.prog w = .ok (kV (f (intsOf ks))) w := by
  obtain ⟨es, clock, hb, h1, h2, h3⟩ := h
  obtain ⟨l, hl⟩ := hash_key hk
  rcases ct_law.find w hl es.toList (CtAt.keys (w := w) (b := b) h1) with ⟨g1, g2⟩ | ⟨j, e0, g1, g2, g3⟩
  · rw [h3 ks hk g2]
    simp [Instr.lookup, run_underlying Tryd.underlying62, MapKept.run_getObj_map hb, ct_law.check w _ hl, g1, ct_zero, Result.andThen]
    try rfl
  · obtain ⟨ks', q1, q2, q3⟩ := h1 e0 (List.mem_of_getElem? g2)
    have e : ks' = ks := by
      rw [q2] at g3
      simpa using g3
    subst e
    rw [← q3]
    simp [Instr.lookup, run_underlying Tryd.underlying62, MapKept.run_getObj_map hb, ct_law.check w _ hl, g1, Result.andThen]
/-- One id has other counts. -/
def ctUp (f : Cnts) (k : List Int) (p : Nat × Nat) : Cnts := fun k' => if k' = k then p else f k'
theorem ct_put {w : World} {b : Nat} {f : Cnts} {ks : List Value} (p : Nat × Nat) (h : CtAt w b f) (hk : Typed hashK ks) : ∃ w', (Instr.mapUpdate 62 (.map (some b)) (.agg ks.toArray) (kV p)).run Tryd.prog w = .ok () w' ∧ CtAt w' b (ctUp f (intsOf ks) p) ∧ w.grownBy w' (some b) := by
  obtain ⟨es, clock, hb, h1, h2, h3⟩ := h
  obtain ⟨l, hl⟩ := hash_key hk
  have hgr : ∀ es' clock', w.grownBy (ChangeMaps.setBlock w b (.map es' clock')) (some b) := fun es' clock' => ⟨rfl, rfl, rfl, by simp [ChangeMaps.setBlock], fun i _ hi => ChangeMaps.heap_setBlock_other hb _ (fun e => hi (by rw [e]))⟩
  rcases ct_law.find w hl es.toList (CtAt.keys (w := w) (b := b) h1) with ⟨g1, g2⟩ | ⟨j, e0, g1, g2, g3⟩
  · refine ⟨ChangeMaps.setBlock w b (.map (es.push ⟨.agg ks.toArray, kV p, clock⟩) (clock + 1)), ?_, ⟨_, _, ChangeMaps.heap_setBlock_same hb _, ?_, ?_, ?_⟩, hgr _ _⟩
    · simp [Instr.mapUpdate, run_underlying Tryd.underlying62, MapKept.run_getObj_map hb, ct_law.check w false hl, g1, MapKept.run_setObj_map _ hb, Result.andThen, ChangeMaps.setBlock]
    · intro e he
      rw [Array.toList_push, List.mem_append, List.mem_singleton] at he
      rcases he with he | rfl
      · obtain ⟨ks', q1, q2, q3⟩ := h1 e he
        refine ⟨ks', q1, q2, ?_⟩
        have : intsOf ks' ≠ intsOf ks := fun e1 => g2 e he (by rw [q2, ints_inj q1 hk e1])
        unfold ctUp
        rw [if_neg this, q3]
      · exact ⟨ks, hk, rfl, by unfold ctUp; rw [if_pos rfl]⟩
    · rw [Array.toList_push, List.map_append, List.nodup_append]
      refine ⟨h2, by simp, fun a ha c hc => ?_⟩
      obtain ⟨e, he, rfl⟩ := List.mem_map.1 ha
      rw [List.map_singleton, List.mem_singleton] at hc
      rw [hc]
      exact g2 e he
    · intro ks' hk' hall
      have : intsOf ks' ≠ intsOf ks := fun e1 => hall ⟨.agg ks.toArray, kV p, clock⟩ (by simp) (by rw [ints_inj hk' hk e1])
      unfold ctUp
      rw [if_neg this]
      exact h3 ks' hk' (fun e he => hall e (by rw [Array.toList_push]; simp [he]))
  · have hj : es[j]? = some e0 := by simpa using g2
    obtain ⟨hjl, hje⟩ := Array.getElem?_eq_some_iff.1 hj
    refine ⟨ChangeMaps.setBlock w b (.map (es.modify j fun e => { e with key := .agg ks.toArray, val := kV p }) clock), ?_, ⟨_, _, ChangeMaps.heap_setBlock_same hb _, ?_, ?_, ?_⟩, hgr _ _⟩
    · simp [Instr.mapUpdate, run_underlying Tryd.underlying62, MapKept.run_getObj_map hb, ct_law.check w false hl, g1, hj, g3, ct_law.stays w hl, MapKept.run_setObj_map _ hb, Result.andThen, ChangeMaps.setBlock]
    all_goals rw [Array.toList_modify, ChangeMaps.modify_eq_set _ es.toList j e0 g2]
    · intro e he
      obtain ⟨i, hi⟩ := List.mem_iff_getElem?.1 he
      rw [List.getElem?_set] at hi
      by_cases hji : j = i
      · subst hji
        rw [if_pos rfl, if_pos (by simpa using hjl)] at hi
        cases hi
        exact ⟨ks, hk, rfl, by unfold ctUp; rw [if_pos rfl]⟩
      · rw [if_neg hji] at hi
        obtain ⟨ks', q1, q2, q3⟩ := h1 e (List.mem_of_getElem? hi)
        refine ⟨ks', q1, q2, ?_⟩
        have : intsOf ks' ≠ intsOf ks := fun e1 => by
          rw [ints_inj q1 hk e1, ← g3] at q2
          refine hji ((List.getElem?_inj (l := es.toList.map (·.key)) (by rw [List.length_map]; exact hjl) h2).1 ?_)
          rw [List.getElem?_map, List.getElem?_map, hi, g2, Option.map_some, Option.map_some, q2]
        unfold ctUp
        rw [if_neg this, q3]
    · rw [List.map_set]
      have : (es.toList.map (·.key)).set j (.agg ks.toArray) = es.toList.map (·.key) := by
        have hx : (es.toList.map (·.key))[j]? = some (Value.agg ks.toArray) := by rw [List.getElem?_map, g2, Option.map_some, g3]
        obtain ⟨hy, hz⟩ := List.getElem?_eq_some_iff.1 hx
        rw [← hz]
        exact List.set_getElem_self hy
      rw [this]
      exact h2
    · intro ks' hk' hall
      have hm : (⟨.agg ks.toArray, kV p, e0.born⟩ : MapEntry) ∈ es.toList.set j ⟨.agg ks.toArray, kV p, e0.born⟩ := List.mem_iff_getElem?.2 ⟨j, by rw [List.getElem?_set, if_pos rfl, if_pos (show j < es.toList.length from hjl)]⟩
      have : intsOf ks' ≠ intsOf ks := fun e1 => hall _ hm (by rw [ints_inj hk' hk e1])
      unfold ctUp
      rw [if_neg this]
      refine h3 ks' hk' (fun e he => ?_)
      obtain ⟨i, hi⟩ := List.mem_iff_getElem?.1 he
      by_cases hji : j = i
      · subst hji
        rw [g2] at hi
        cases hi
        rw [g3]
        intro e1
        exact this (by
          have : ks = ks' := by simpa using e1
          rw [this])
      · exact hall e (List.mem_iff_getElem?.2 ⟨i, by rw [List.getElem?_set, if_neg hji]; exact hi⟩)
end Go.Proofs.YthdbhajpjkkehaaDoor

namespace Go.Proofs.YthdbhajpjkkehaaDoor
open Go.RowKit Go.Lib
set_option linter.unusedVariables false
set_option linter.unusedSimpArgs false

section
variable {P : Program}
theorem run_app_rec (w : World) (t ty E : TypeId) (K : Kinds) (z : Value) (bytes : Nat) (hu : P.underlying t = some (.slice E)) (hi : (P.info? E).map (fun i => (i.zero, i.size, i.bytes)) = some (some z, K.length, bytes)) (hz : z.cells.size = K.length) (hK : 0 < K.length) (hby : bytes ≤ 1000)
    (base : Nat) (v : Value) (l l2 : List (List Value)) (hown : OwnR E K w base v l) (xv : Value) (hrec : Recs K w xv l2) (hnil : NilOr xv) (hlen : l.length ≤ 1000000) (hlen2 : l2.length ≤ 1000000) (hbase : base ≤ w.heap.size) :
    ∃ A' c' w', (Builtin.append_ #[t, t] ty #[v, xv]).run P w = .ok (.slice A' (l ++ l2).length c') w' ∧ OwnR E K w' base (.slice A' (l ++ l2).length c') (l ++ l2) ∧ w.grownBy w' v.ownBlock ∧ ((Value.slice A' (l ++ l2).length c').ownBlock = v.ownBlock ∨ (Value.slice A' (l ++ l2).length c').ownBlock = some w.heap.size) ∧ Below base w w' := by
  obtain ⟨i0, hi0, hz0, hz1, hz2⟩ := info_parts hi
  rcases hnil with rfl | ⟨ad, m, c, rfl⟩
  · obtain ⟨A', c', e, _⟩ := hrec
    obtain rfl : l2 = [] := List.length_eq_zero_iff.1 (Value.slice.inj e).2.1.symm
    have hr := run_append_owned_none (P := P) w base t ty E i0 K.length hu hi0 v l.length l.flatten hown.1
    obtain ⟨A, c, rfl, -⟩ := id hown.recs
    exact ⟨A, c, w, by rw [List.append_nil]; exact hr, by rw [List.append_nil]; exact hown, World.grownBy.refl _ _, .inl (by rw [List.append_nil]), Below.refl _ _⟩
  · obtain ⟨A', c', e, q1, q2, q4, q3⟩ := id hrec
    obtain ⟨rfl, rfl, rfl⟩ : some ad = A' ∧ m = l2.length ∧ c = c' := by injection e with e1 e2 e3; exact ⟨e1, e2, e3⟩
    have hfl : l2.flatten.length = l2.length * K.length := flat_len q4
    obtain ⟨v', w', hr, h2, h3, h4, h5⟩ := run_append_own_at (P := P) w base t ty E i0 z K.length bytes hu hi0 hz0 hz1 hz2 hz hK v l.length l.flatten hown.1 ad l2.length c l2.flatten hfl (fun j u hj => by
        obtain ⟨p1, p2⟩ := flat_of (fun x hx => (q4 x hx).length) hK j u hj
        obtain ⟨g, o', e1, _, hr, _⟩ := hrec.at hK (j / K.length) p1
        cases e1
        have := hr (j % K.length) u p2
        rw [Addr.add_lit]
        rw [show o' + j = o' + j / K.length * K.length + j % K.length by rw [Nat.add_assoc, Nat.div_add_mod']]
        exact this) (fun u hu => by
        obtain ⟨y, hy, hu'⟩ := List.mem_flatten.1 hu
        exact (q4 y hy).one u hu') (by unfold maxLen; omega) (by
        have : (l.length + l2.length) * bytes ≤ 2000000 * 1000 := Nat.mul_le_mul (by omega) hby
        omega) hbase
    have ho : OwnR E K w' base v' (l ++ l2) := ⟨by rw [List.length_append, List.flatten_append]; exact h2, fun x hx => by
      rcases List.mem_append.1 hx with hx | hx
      · exact hown.2 x hx
      · exact q4 x hx⟩
    obtain ⟨A, c2, rfl, -⟩ := id ho.recs
    exact ⟨A, c2, w', hr, ho, h3, h5, (Below.refl base w).grown h3 hbase (fun k hk => (OwnR.lt hown k hk).1)⟩
/-- The same, as a step of a region that draws. -/
theorem step_app_rec {ops : Array Oper} {o : Oper} {a : Act} {w : World} {K' : Act → World → Prop} {Q : Exit → Act → World → Prop} {F : Prop} (hg : o.guard = none) (s x : Operand) (t E : TypeId) (K : Kinds) (z : Value) (bytes : Nat) (hu : P.underlying t = some (.slice E)) (hi : (P.info? E).map (fun i => (i.zero, i.size, i.bytes)) = some (some z, K.length, bytes)) (hz : z.cells.size = K.length) (hK : 0 < K.length) (hby : bytes ≤ 1000)
    (hop : o.op = Op.call { callee := Callee.builtin Builtin.append, args := #[s, x], argTypes := #[t, t] }) (base : Nat) (v : Value) (l l2 : List (List Value)) (hs : a.eval s = v) (hown : OwnR E K w base v l) (xv : Value) (hx : a.eval x = xv) (hrec : Recs K w xv l2) (hnil : NilOr xv) (hlen : l.length ≤ 1000000) (hlen2 : l2.length ≤ 1000000) (hbase : base ≤ w.heap.size)
    (hK' : ∀ A' c' w', OwnR E K w' base (.slice A' (l ++ l2).length c') (l ++ l2) → w.grownBy w' v.ownBlock → ((Value.slice A' (l ++ l2).length c').ownBlock = v.ownBlock ∨ (Value.slice A' (l ++ l2).length c').ownBlock = some w.heap.size) → Below base w w' → K' (a.put o.dst (.slice A' (l ++ l2).length c')) w') :
    if Region.wanted o (yielded ops a.tmps) = true then Oper.wp P o a w K' Q else F := by
  have hw : Region.wanted o (yielded ops a.tmps) = true := by simp [Region.wanted, hg]
  rw [if_pos hw]
  obtain ⟨A', c', w', hrun, h1, h2, h3, h4⟩ := run_app_rec w t o.type E K z bytes hu hi hz hK hby base v l l2 hown xv hrec hnil hlen hlen2 hbase
  unfold Oper.wp
  simp only [execOp, hop, resolve, invoke, builtin, Sem.run_bind, Sem.run_pure, Result.andThen_ok, List.map_toArray, List.map_cons, List.map_nil, hs, hx, hrun]
  exact hK' A' c' w' h1 h2 h3 h4
end
end Go.Proofs.YthdbhajpjkkehaaDoor
