/- trace.Of: what became of the exit of an id. -/
import Derived.Test.YtchjjbklkmfelaaTake2
namespace Go.Proofs.Ytchjjbklkmfelaa
open Go.RowKit Go.Lib
set_option linter.unusedVariables false
set_option linter.unusedSimpArgs false

theorem results_mid {P : Program} {fn : Func} {p : Tmp} {ty : TypeId} (h : fn.results = #[.cell p ty]) (tmps : Array Value) (w : World) (g : Nat) (cs : List Value) (d : TypeDesc)
    (hp : tmps.getD p undef = .pointer (some ⟨g, 0, none⟩)) (hc : w.rangeAt g 0 cs)
    (hu : P.underlying ty = some d) (hd : d.isRow = true) (hi : (P.info? ty).map (·.size) = some cs.length) :
    (results fn tmps).run P w = .ok (.agg cs.toArray) w := by
  have hp' : tmps[p]?.getD undef = .pointer (some ⟨g, 0, none⟩) := by simpa using hp
  simp [results, h, hp', asAddr, run_loadVar_mid w g 0 ty cs d hc hu hd hi]
theorem row_range {w : World} {g n : Nat} {t : TypeId} {f : Nat → Value} (h : w.rowIs g t n f) : w.rangeAt g 0 ((List.range n).map f) := fun j v hv => by
  rw [List.getElem?_map] at hv
  rcases Nat.lt_or_ge j n with hj | hj
  · rw [List.getElem?_range hj] at hv
    cases hv
    rw [Nat.zero_add]
    exact h.cell hj
  · rw [List.getElem?_eq_none (by simpa using hj)] at hv
    cases hv
theorem row_there {w : World} {g n : Nat} {t : TypeId} {f : Nat → Value} (h : w.rowIs g t n f) : w.there g 0 n := fun j hj => by
  rw [Nat.zero_add]
  exact ⟨by rw [h.cell hj]; rfl, h.frozen j⟩

/-! Hashes -/
abbrev hashK : Kinds := List.replicate 32 (some .u8)
def intsOf (cs : List Value) : List Int := cs.map fun v => match v with | .int _ n => n | _ => 0
theorem typed_ints (k : IntKind) : ∀ (n : Nat) (cs : List Value), Typed (List.replicate n (some k)) cs → cs = (intsOf cs).map (Value.int k)
  | 0, cs, h => by cases h; rfl
  | n + 1, cs, h => by
    obtain ⟨v, vs, rfl, ⟨m, rfl, -⟩, h2⟩ := h
    have := typed_ints k n vs h2
    unfold intsOf at this ⊢
    rw [List.map_cons, List.map_cons, ← this]
theorem intsOf_length (cs : List Value) : (intsOf cs).length = cs.length := by simp [intsOf]
theorem Try.cellsU8 : Try.prog.cellsOf 5 = 1 := by kernel_rfl
theorem Try.infoU8 : (Try.prog.info? 5).map (fun i => (i.zero, i.size, i.bytes)) = some (some (.int .u8 0), 1, 1) := by kernel_rfl
theorem hash_len {cs : List Value} (h : Typed hashK cs) : cs.length = 32 := by rw [h.length, List.length_replicate]
theorem hash_eql {a b : List Value} (ha : Typed hashK a) (hb : Typed hashK b) (w : World) :
    (binOp .eql 26 (.agg a.toArray) (.agg b.toArray)).run Try.prog w = .ok (.bool (decide (intsOf a = intsOf b))) w := by
  obtain ⟨i, hi, _⟩ := Option.map_eq_some_iff.1 Try.infoU8
  have := run_eql_ints (P := Try.prog) w (t := 26) (k := .u8) Try.underlying26 Try.underlying5 hi Try.cellsU8 (intsOf a) (intsOf b) (by rw [intsOf_length, hash_len ha]) (by rw [intsOf_length, hash_len hb])
  unfold ints at this
  rw [← typed_ints .u8 32 a ha, ← typed_ints .u8 32 b hb] at this
  exact this

theorem hash_equal {a b : List Value} (ha : Typed hashK a) (hb : Typed hashK b) (w : World) :
    (Op.equalIn 10000 26 (.agg a.toArray) (.agg b.toArray)).run Try.prog w = .ok (decide (intsOf a = intsOf b)) w := by
  obtain ⟨i, hi, _⟩ := Option.map_eq_some_iff.1 Try.infoU8
  have := equalIn_ints (P := Try.prog) w 9998 (t := 26) (k := .u8) Try.underlying26 Try.underlying5 hi Try.cellsU8 (intsOf a) (intsOf b) (by rw [intsOf_length, hash_len ha]) (by rw [intsOf_length, hash_len hb])
  unfold ints at this
  rw [← typed_ints .u8 32 a ha, ← typed_ints .u8 32 b hb] at this
  exact this

/-- Is an event an id's? -/
def idOf (c : List Value) : List Value := (c.drop 2).take 32
theorem id_typed {c : List Value} (h : Typed evK c) : Typed hashK (idOf c) := h.part 2 32 (by rw [h.length, evK_len]; omega) (by kernel_rfl)
def hasId (ids c : List Value) : Bool := decide (intsOf (idOf c) = intsOf ids)
def exOf (l : List (List Value)) (ids : List Value) : Ex := (l.filter (hasId ids)).foldl Ex.take Ex.zero
def Ex.list (x : Ex) : List Value := (List.range 46).map x.cell
theorem Ex.list_len (x : Ex) : x.list.length = 46 := by simp [Ex.list]
/-- All is in its bounds. -/
def Ex.ok (x : Ex) : Prop := Typed hashK x.idc ∧ x.paid < 18446744073709551616 ^ 4 ∧ x.fee < 18446744073709551616 ^ 4
set_option maxRecDepth 10000 in
theorem Ex.zero_ok : Ex.zero.ok := by
  refine ⟨?_, by decide, by decide⟩
  have : ∀ n, Typed (List.replicate n (some .u8)) (List.replicate n (.int .u8 0)) := fun n => by
    induction n with
    | zero => exact rfl
    | succ n ih => exact ⟨_, _, rfl, ⟨0, rfl, rfl⟩, ih⟩
  exact this 32
theorem Ex.first_ok {x : Ex} {c : List Value} (h : x.ok) (hc : Typed evK c) : (x.first c).ok := by
  unfold Ex.first
  split
  · exact ⟨id_typed hc, h.2⟩
  · exact h
theorem Ex.count_ok {x : Ex} (h : x.ok) (k : Int) : (x.count k).ok := by
  unfold Ex.count
  repeat' split
  all_goals exact h
theorem Ex.take_ok {x : Ex} {c : List Value} (h : x.ok) (hc : Typed evK c) : (x.take c).ok ∧ (x.take c).sum ≤ x.sum + 1 := by
  unfold Ex.take
  split
  · exact ⟨h, by omega⟩
  · have h1 := Ex.count_ok (Ex.first_ok h hc) (intAt c 0)
    have h2 := ((x.first c).count_sum (intAt c 0)).1
    rw [(x.first_sum c).1] at h2
    generalize (x.first c).count (intAt c 0) = y at *
    have h3 : (y.fees c).ok ∧ (y.fees c).sum = y.sum := by
      unfold Ex.fees
      split
      · exact ⟨⟨h1.1, h1.2.1, sat_lt _ _⟩, rfl⟩
      · exact ⟨h1, rfl⟩
    generalize y.fees c = z at *
    unfold Ex.pays
    split
    · exact ⟨⟨h3.1.1, sat_lt _ _, h3.1.2.2⟩, by rw [← h2, ← h3.2]; exact Nat.le_refl _⟩
    · exact ⟨h3.1, by rw [← h2, ← h3.2]; exact Nat.le_refl _⟩
theorem Ex.fold_ok (l : List (List Value)) (h : ∀ c ∈ l, Typed evK c) : (l.foldl Ex.take Ex.zero).ok ∧ (l.foldl Ex.take Ex.zero).sum ≤ l.length := by
  suffices ∀ (x : Ex) (n : Nat), x.ok → x.sum ≤ n → (l.foldl Ex.take x).ok ∧ (l.foldl Ex.take x).sum ≤ n + l.length by
    have := this Ex.zero 0 Ex.zero_ok (by decide)
    rwa [Nat.zero_add] at this
  induction l with
  | nil => intro x n h1 h2; exact ⟨h1, h2⟩
  | cons c l ih =>
    intro x n h1 h2
    have h3 := Ex.take_ok h1 (h c (by simp))
    have := ih (fun c hc => h c (by simp [hc])) (x.take c) (n + 1) h3.1 (by omega)
    rw [List.foldl_cons, List.length_cons]
    exact ⟨this.1, by omega⟩
theorem exOf_ok (l : List (List Value)) (ids : List Value) (h : ∀ c ∈ l, Typed evK c) : (exOf l ids).ok ∧ (exOf l ids).sum ≤ l.length := by
  have := Ex.fold_ok (l.filter (hasId ids)) (fun c hc => h c (List.mem_filter.1 hc).1)
  exact ⟨this.1, Nat.le_trans this.2 (List.length_filter_le _ _)⟩
theorem exOf_take (l : List (List Value)) (ids : List Value) (k : Nat) (h : k < l.length) : exOf (l.take (k + 1)) ids = if hasId ids (l.getD k []) then (exOf (l.take k) ids).take (l.getD k []) else exOf (l.take k) ids := by
  unfold exOf
  rw [List.take_succ_eq_append_getElem h, List.filter_append, List.getD_eq_getElem?_getD, List.getElem?_eq_getElem h]
  simp only [Option.getD_some, List.filter_cons, List.filter_nil]
  split
  · rw [List.foldl_append]; rfl
  · rw [List.append_nil]
theorem Ex.list_one {x : Ex} (h : x.ok) : ∀ v ∈ x.list, v.oneCell' = true := by
  intro v hv
  obtain ⟨j, hj, rfl⟩ := List.mem_map.1 hv
  unfold Ex.cell
  split
  · rw [List.getD_eq_getElem?_getD]
    rcases hh : x.idc[j]? with _ | u
    · rfl
    · exact h.1.one u (List.mem_of_getElem? hh)
  repeat' split
  all_goals rfl
theorem ex_info (x : Ex) : (Try.prog.info? 35).map (·.size) = some x.list.length := by rw [x.list_len]; kernel_rfl
theorem ex_info' (x : Ex) : (Try.prog.info? 35).map (·.size) = some x.list.toArray.size := by rw [List.size_toArray]; exact ex_info x
set_option maxHeartbeats 4000000 in
set_option maxRecDepth 100000 in
theorem of_calls (v : Value) (ids : List Value) (l : List (List Value)) (w : World) (h : Recs evK w v l) (hi : Typed hashK ids) (hl : l.length ≤ 1000000) :
    Calls Try.prog 12 #[v, .agg ids.toArray] w fun e w' => e = .returned (.agg (exOf l ids).list.toArray) ∧ Below w.heap.size w w' := by
  obtain ⟨A, c, rfl, a1, a2, HTy, -⟩ := id h
  unfold maxLen at a2
  have HR := Lib.hid h
  clear h
  have HOK := Lib.hid (fun k => exOf_ok (l.take k) ids (fun c hc => HTy c (List.mem_of_mem_take hc)))
  generalize hn : l.length = n at *
  have HN := Lib.hid hn
  have HTY := Lib.hid HTy
  have HI := Lib.hid hi
  clear hn HTy hi
  -- the three variables
  have R0 := range_alloc w ids.toArray 26
  have E1 := ExAt.zero (w.alloc (.cells ids.toArray 26))
  have E2 := ExAt.zero ((w.alloc (.cells ids.toArray 26)).alloc objEx)
  have Q0 : Below w.heap.size w (((w.alloc (.cells ids.toArray 26)).alloc objEx).alloc objEx) := (((Below.refl _ _).alloc (Nat.le_refl _) _).alloc (by simp) _).alloc (by simp; omega) _
  simp only [World.size_alloc] at E1 E2
  have E1' : ExAt (((w.alloc (.cells ids.toArray 26)).alloc objEx).alloc objEx) (w.heap.size + 1) Ex.zero := World.rowIs.alloc E1 _
  have R0' : (((w.alloc (.cells ids.toArray 26)).alloc objEx).alloc objEx).rangeAt w.heap.size 0 ids := range_below R0 (((Below.refl _ _).alloc (by simp) _).alloc (by simp) _) (Nat.lt_succ_self _)
  clear R0 E1
  go_enter Try.func12, Try.ntmps12
  go_wp2_with fail
  obtain ⟨W, hW⟩ : ∃ W, ((w.alloc (.cells ids.toArray 26)).alloc objEx).alloc objEx = W := ⟨_, rfl⟩
  rw [hW] at E2 E1' R0' Q0
  unfold objEx at hW
  rw [hW]
  clear hW
  go_loopw [10] (fun i wr => ∃ k : Nat, i = .int .i64 k ∧ k ≤ n ∧ wr.rangeAt w.heap.size 0 ids ∧ ExAt wr (w.heap.size + 1) Ex.zero ∧ ExAt wr (w.heap.size + 1 + 1) (exOf (l.take k) ids) ∧ Below w.heap.size w wr) (fun i _ => n - (RowKit.intOf i).toNat)
  case atStart => exact ⟨0, rfl, by omega, R0', E1', E2, Q0⟩
  case round =>
    obtain ⟨k, rfl, hk, hri, hz, hx, hb⟩ := hrel
    clear E2 E1' R0' Q0
    by_cases hlt : k < n
    · have hlt' : (k : Int) < (n : Int) := by omega
      obtain ⟨g, o, rfl, hg, hr, ht⟩ := (HR.out.below (by rw [evK_len]; decide) hb).at (by rw [evK_len]; decide) k hlt
      have hft := exOf_take l ids k (by rw [HN.out]; exact hlt)
      obtain ⟨x, hxe⟩ : ∃ x, l.getD k [] = x := ⟨_, rfl⟩
      rw [hxe] at hr ht hft
      rw [evK_len] at hr
      have HTh := Lib.hid (ev_there wr ht)
      unfold objEv at HTh
      have hsx := hx.lt
      go_upto_region 5 with (first
        | refine wpList_load_mid rfl 31 _ rfl g (o + k * 47) rfl x _ hr Try.underlying31 rfl (ev_info ht) ?_
        | refine wpList_store_mid rfl 31 _ _ rfl wr.heap.size 0 x.toArray rfl rfl HTh.out (ev_info' ht) (ev_one ht) ?_)
      have hL := ev_laid wr ht
      have hbn := new_below wr objEv x
      have hbb := hb.trans (hbn.mono hb.size)
      have hs : wr.heap.size < ((wr.alloc objEv).setCells wr.heap.size 0 x).heap.size := range_lt hL (by rw [ht.length, evK_len]; decide)
      have hri2 := range_below hri hbn (by omega)
      have hz2 : ExAt ((wr.alloc objEv).setCells wr.heap.size 0 x) (w.heap.size + 1) Ex.zero := World.rowIs.of_block hz (hbn.block _ hz.lt)
      have hx2 : ExAt ((wr.alloc objEv).setCells wr.heap.size 0 x) (w.heap.size + 1 + 1) (exOf (l.take k) ids) := World.rowIs.of_block hx (hbn.block _ hx.lt)
      unfold objEv at hL hbb hs hri2 hz2 hx2
      obtain ⟨W2, hW2⟩ : ∃ W2, (wr.alloc objEv).setCells wr.heap.size 0 x = W2 := ⟨_, rfl⟩
      unfold objEv at hW2
      rw [hW2] at hL hbb hs hri2 hz2 hx2
      rw [hW2]
      clear hW2 HTh hri hz hx hr hb hbn
      have hw : IntKind.i64.wrap ((k : Int) + 1) = (k : Int) + 1 := IntWalk.i64_in _ (by omega)
      have hid := range_part hL 2 32
      rw [Nat.zero_add] at hid
      have hit := id_typed ht
      have heq := hash_equal hit HI.out W2
      have hhas : hasId ids x = decide (intsOf (idOf x) = intsOf ids) := rfl
      unfold idOf at hit heq hhas
      rw [← hhas] at heq
      have hil := hash_info (hash_len hit)
      have hil2 := hash_info (hash_len HI.out)
      clear hhas hit
      have HFT := Lib.hid hft
      clear hft
      generalize (x.drop 2).take 32 = ic at *
      obtain ⟨bb, hbb'⟩ : ∃ bb, hasId ids x = bb := ⟨_, rfl⟩
      rw [hbb'] at HFT heq
      clear hbb'
      cases bb with
      | false =>
        go_wp2_with (first
          | refine wpList_load_mid rfl 26 _ rfl wr.heap.size 2 rfl ic _ hid Try.underlying26 rfl hil ?_
          | refine wpList_load_mid rfl 26 _ rfl w.heap.size 0 rfl ids _ hri2 Try.underlying26 rfl hil2 ?_)
        go_roundw
        case rel => exact ⟨k + 1, rfl, by omega, hri2, hz2, by have := HFT.out; simp only [Bool.false_eq_true, if_false] at this; rw [this]; exact hx2, hbb⟩
        case measure => simp [RowKit.intOf]; omega
      | true =>
        have hF : exOf (l.take (k + 1)) ids = (exOf (l.take k) ids).take x := by have := HFT.out; simpa using this
        have hok := HOK.out k
        have hsum : (exOf (l.take k) ids).sum ≤ 1000000 := Nat.le_trans hok.2 (by rw [List.length_take]; omega)
        have HTk := Lib.hid (take_calls (w.heap.size + 1 + 1) (exOf (l.take k) ids) x W2 hx2 ht hsum hok.1.2.1 hok.1.2.2)
        have HF := Lib.hid hF
        have hei := ev_info ht
        clear hF hok hsum HFT
        go_wp2_with (first
          | refine wpList_load_mid rfl 26 _ rfl wr.heap.size 2 rfl ic _ hid Try.underlying26 rfl hil ?_
          | refine wpList_load_mid rfl 26 _ rfl w.heap.size 0 rfl ids _ hri2 Try.underlying26 rfl hil2 ?_
          | refine wpList_load_mid rfl 31 _ rfl wr.heap.size 0 rfl x _ hL Try.underlying31 rfl hei ?_)
        refine HTk.out.mono ?_
        rintro e w9 ⟨rfl, hx9, hb9⟩
        have hri9 := range_below hri2 hb9 (by omega)
        have hz9 : ExAt w9 (w.heap.size + 1) Ex.zero := World.rowIs.of_block hz2 (hb9.block _ (by omega))
        have hbb9 := hbb.trans (hb9.mono (by omega))
        rw [← HF.out] at hx9
        clear HTk hri2 hz2 hx2 hbb hb9 hL hid
        go_wp2_with fail
        go_roundw
        case rel => exact ⟨k + 1, rfl, by omega, hri9, hz9, hx9, hbb9⟩
        case measure => simp [RowKit.intOf]; omega
    · have hkn : k = n := by omega
      subst hkn
      rw [List.take_of_length_le (by rw [HN.out]; exact Nat.le_refl _)] at hx
      have hok := (HOK.out k).1
      rw [List.take_of_length_le (by rw [HN.out]; exact Nat.le_refl _)] at hok
      have hxr := row_range hx
      have hzt := row_there hz
      have hone := all_oneCell_toArray (Ex.list_one hok)
      generalize hX : exOf l ids = X at *
      have HXe := Lib.hid hX
      clear hX
      have hxr' : wr.rangeAt (w.heap.size + 1 + 1) 0 X.list := hxr
      have hin := ex_info X
      have hin' := ex_info' X
      have hzt' : wr.there (w.heap.size + 1) 0 X.list.toArray.size := by rw [show X.list.toArray.size = 46 by rw [List.size_toArray, X.list_len]]; exact hzt
      have hret : (wr.setCells (w.heap.size + 1) 0 X.list).rangeAt (w.heap.size + 1) 0 X.list := World.rangeAt_setCells_same _ _ _ _ (by rw [X.list_len]; exact row_there hz)
      have hbr : Below w.heap.size w (wr.setCells (w.heap.size + 1) 0 X.list) := below_range (by omega) _ _ _ hb
      clear hx hz hri hxr hzt hok
      go_wp2_with (first
        | refine wpList_load_mid rfl 35 _ rfl (w.heap.size + 1 + 1) 0 rfl X.list _ hxr' Try.underlying35 rfl hin ?_
        | refine wpList_store_mid rfl 35 _ _ rfl (w.heap.size + 1) 0 X.list.toArray rfl rfl hzt' hin' hone ?_)
      exact bodyPost_ret (v := .agg X.list.toArray) (results_mid rfl _ _ (w.heap.size + 1) X.list _ rfl hret Try.underlying35 rfl hin) rfl ⟨congrArg (fun x : Ex => Ending.returned (.agg x.list.toArray)) HXe.out.symm, hbr⟩
end Go.Proofs.Ytchjjbklkmfelaa
