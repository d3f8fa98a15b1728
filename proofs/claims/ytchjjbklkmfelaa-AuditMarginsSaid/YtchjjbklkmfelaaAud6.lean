/- The document's form of a picture (sponsionlaw28's ref). -/
import Derived.Test.YtchjjbklkmfelaaAud5
namespace Go.Proofs.Ytchjjbklkmfelaa
open Go.RowKit Go.Lib Go.Deep
set_option linter.unusedVariables false
set_option linter.unusedSimpArgs false

theorem At.join {w : World} {g o : Nat} {a b : List Value} (ha : At w g o a) (hb : At w g (o + a.length) b) : At w g o (a ++ b) := by
  refine ⟨fun j v hv => ?_, fun j hj => ?_⟩
  · rw [List.getElem?_append] at hv
    split at hv
    · exact ha.1 j v hv
    · next hj =>
      have := hb.1 _ v hv
      rwa [Nat.add_assoc, Nat.add_sub_cancel' (Nat.le_of_not_lt hj)] at this
  · rw [List.length_append] at hj
    by_cases h : j < a.length
    · exact ha.2 j h
    · have := hb.2 (j - a.length) (by omega)
      rwa [Nat.add_assoc, Nat.add_sub_cancel' (Nat.le_of_not_lt h)] at this
theorem At.paste {w : World} {g : Nat} {L : List Value} (h : At w g 0 L) (a : Nat) (xs : List Value) (hl : a + xs.length ≤ L.length) : At (w.setCells g a xs) g 0 (L.take a ++ (xs ++ L.drop (a + xs.length))) := by
  have h1 := h.part 0 a (by omega)
  have h2 := h.part a xs.length hl
  have h3 := h.part (a + xs.length) (L.length - (a + xs.length)) (by omega)
  rw [Nat.zero_add] at h1 h2 h3
  rw [List.drop_zero] at h1
  rw [List.take_of_length_le (by rw [List.length_drop]; exact Nat.le_refl _)] at h3
  have e1 : (L.take a).length = a := by rw [List.length_take]; omega
  refine (h1.apart _ _ _ (.inr (.inl (by rw [e1]; omega)))).join ?_
  rw [e1, Nat.zero_add]
  refine (h2.cells xs (by rw [List.length_take, List.length_drop]; omega)).join ?_
  exact h3.apart _ _ _ (.inr (.inr (Nat.le_refl _)))

abbrev z64 : Value := .int .u64 0
def mid (cs : List Value) (i : Nat) : List Value := cs.take (96 + i * 16) ++ (List.replicate (64 - i * 16) z64 ++ cs.drop 160)
theorem mid_at (cs : List Value) (i : Nat) (h : cs.length = 164) (hi : i ≤ 4) (j : Nat) : (mid cs i)[j]? = if j < 96 + i * 16 then cs[j]? else if j < 160 then some z64 else cs[j]? := by
  unfold mid
  rw [List.getElem?_append, List.length_take, Nat.min_eq_left (by omega)]
  by_cases h1 : j < 96 + i * 16
  · rw [if_pos h1, if_pos h1, List.getElem?_take, if_pos h1]
  · rw [if_neg h1, if_neg h1, List.getElem?_append, List.length_replicate]
    by_cases h2 : j < 160
    · rw [if_pos h2, if_pos (by omega), List.getElem?_replicate, if_pos (by omega)]
    · rw [if_neg h2, if_neg (by omega), List.getElem?_drop]
      congr 1
      omega
theorem mid_len (cs : List Value) (i : Nat) (h : cs.length = 164) (hi : i ≤ 4) : (mid cs i).length = 164 := by
  unfold mid
  rw [List.length_append, List.length_append, List.length_take, List.length_replicate, List.length_drop]
  omega
theorem mid_four (cs : List Value) (h : cs.length = 164) : mid cs 4 = cs := by
  apply List.ext_getElem?
  intro j
  rw [mid_at cs 4 h (by omega)]
  split <;> rfl
theorem mid_next (cs : List Value) (i : Nat) (h : cs.length = 164) (hi : i < 4) :
    (mid cs i).take (96 + i * 16) ++ ((cs.drop (96 + i * 16)).take 16 ++ (mid cs i).drop (96 + i * 16 + ((cs.drop (96 + i * 16)).take 16).length)) = mid cs (i + 1) := by
  have e : ((cs.drop (96 + i * 16)).take 16).length = 16 := by rw [List.length_take, List.length_drop]; omega
  apply List.ext_getElem?
  intro j
  rw [mid_at cs (i + 1) h (by omega), List.getElem?_append, List.length_take, mid_len cs i h (by omega), Nat.min_eq_left (by omega)]
  by_cases h1 : j < 96 + i * 16
  · rw [if_pos h1, if_pos (by omega), List.getElem?_take, if_pos h1, mid_at cs i h (by omega), if_pos h1]
  · rw [if_neg h1, List.getElem?_append, e]
    by_cases h2 : j - (96 + i * 16) < 16
    · rw [if_pos h2, if_pos (by omega), List.getElem?_take, if_pos h2, List.getElem?_drop]
      congr 1
      omega
    · rw [if_neg h2, if_neg (by omega), List.getElem?_drop, show 96 + i * 16 + 16 + (j - (96 + i * 16) - 16) = j by omega, mid_at cs i h (by omega), if_neg h1]

theorem len16 {l : List Value} (h : l.length = 16) : ∃ a0 a1 a2 a3 a4 a5 a6 a7 a8 a9 b0 b1 b2 b3 b4 b5, l = [a0, a1, a2, a3, a4, a5, a6, a7, a8, a9, b0, b1, b2, b3, b4, b5] := by
  match l, h with
  | [a0, a1, a2, a3, a4, a5, a6, a7, a8, a9, b0, b1, b2, b3, b4, b5], _ => exact ⟨a0, a1, a2, a3, a4, a5, a6, a7, a8, a9, b0, b1, b2, b3, b4, b5, rfl⟩
theorem len4 {l : List Value} (h : l.length = 4) : ∃ a0 a1 a2 a3, l = [a0, a1, a2, a3] := by
  match l, h with
  | [a0, a1, a2, a3], _ => exact ⟨a0, a1, a2, a3, rfl⟩
set_option maxHeartbeats 4000000 in
set_option maxRecDepth 100000 in
theorem built_pic0 {a b c d e f g : List Value} (ha : a.length = 16) (hb : b.length = 16) (hc : c.length = 16) (hd : d.length = 16) (he : e.length = 16) (hf : f.length = 16) (hg : g.length = 4) :
    Try.prog.built 55 [(0, .agg a.toArray), (1, .agg b.toArray), (2, .agg c.toArray), (3, .agg d.toArray), (4, .agg e.toArray), (5, .agg f.toArray), (7, .agg g.toArray)] = some (a ++ (b ++ (c ++ (d ++ (e ++ (f ++ (List.replicate 64 z64 ++ g))))))).toArray := by
  obtain ⟨a0, a1, a2, a3, a4, a5, a6, a7, a8, a9, a10, a11, a12, a13, a14, a15, rfl⟩ := len16 ha
  obtain ⟨b0, b1, b2, b3, b4, b5, b6, b7, b8, b9, b10, b11, b12, b13, b14, b15, rfl⟩ := len16 hb
  obtain ⟨c0, c1, c2, c3, c4, c5, c6, c7, c8, c9, c10, c11, c12, c13, c14, c15, rfl⟩ := len16 hc
  obtain ⟨d0, d1, d2, d3, d4, d5, d6, d7, d8, d9, d10, d11, d12, d13, d14, d15, rfl⟩ := len16 hd
  obtain ⟨e0, e1, e2, e3, e4, e5, e6, e7, e8, e9, e10, e11, e12, e13, e14, e15, rfl⟩ := len16 he
  obtain ⟨f0, f1, f2, f3, f4, f5, f6, f7, f8, f9, f10, f11, f12, f13, f14, f15, rfl⟩ := len16 hf
  obtain ⟨g0, g1, g2, g3, rfl⟩ := len4 hg
  clear ha hb hc hd he hf hg
  kernel_rfl
theorem take_add' (cs : List Value) (a n : Nat) : cs.take (a + n) = cs.take a ++ (cs.drop a).take n := List.take_add
theorem built_pic (cs : List Value) (h : cs.length = 164) :
    Try.prog.built 55 [(0, .agg ((cs.drop 0).take 16).toArray), (1, .agg ((cs.drop 16).take 16).toArray), (2, .agg ((cs.drop 32).take 16).toArray), (3, .agg ((cs.drop 48).take 16).toArray), (4, .agg ((cs.drop 64).take 16).toArray), (5, .agg ((cs.drop 80).take 16).toArray), (7, .agg ((cs.drop 160).take 4).toArray)] = some (mid cs 0).toArray := by
  have hl : ∀ k n, k + n ≤ 164 → ((cs.drop k).take n).length = n := fun k n hk => by rw [List.length_take, List.length_drop]; omega
  rw [built_pic0 (hl 0 16 (by omega)) (hl 16 16 (by omega)) (hl 32 16 (by omega)) (hl 48 16 (by omega)) (hl 64 16 (by omega)) (hl 80 16 (by omega)) (hl 160 4 (by omega))]
  unfold mid
  rw [List.take_of_length_le (i := 4) (by rw [List.length_drop]; omega), show 96 + 0 * 16 = 80 + 16 from rfl, take_add' cs 80 16, show 80 = 64 + 16 from rfl, take_add' cs 64 16, show 64 = 48 + 16 from rfl, take_add' cs 48 16, show 48 = 32 + 16 from rfl, take_add' cs 32 16, show 32 = 16 + 16 from rfl, take_add' cs 16 16]
  simp only [List.append_assoc, List.drop_zero]
set_option maxRecDepth 100000 in
theorem state_part (X : Array Value) (k : Nat) (w : World) : (part 43 X k).run Try.prog w = .ok (.agg (X.extract k (k + 16))) w := by kernel_rfl
set_option maxRecDepth 100000 in
theorem state_idx0 (X : Array Value) (w : World) : (Instr.index 44 (.agg X) (.int .i64 0)).run Try.prog w = .ok (.agg (X.extract 0 16)) w := by kernel_rfl
set_option maxRecDepth 100000 in
theorem state_idx1 (X : Array Value) (w : World) : (Instr.index 44 (.agg X) (.int .i64 1)).run Try.prog w = .ok (.agg (X.extract 16 32)) w := by kernel_rfl
set_option maxRecDepth 100000 in
theorem state_idx2 (X : Array Value) (w : World) : (Instr.index 44 (.agg X) (.int .i64 2)).run Try.prog w = .ok (.agg (X.extract 32 48)) w := by kernel_rfl
set_option maxRecDepth 100000 in
theorem state_idx3 (X : Array Value) (w : World) : (Instr.index 44 (.agg X) (.int .i64 3)).run Try.prog w = .ok (.agg (X.extract 48 64)) w := by kernel_rfl
theorem state_idx (X : List Value) (i : Nat) (hi : i < 4) (w : World) : (Instr.index 44 (.agg X.toArray) (.int .i64 (i : Int))).run Try.prog w = .ok (.agg ((X.drop (i * 16)).take 16).toArray) w := by
  have e : X.toArray.extract (i * 16) (i * 16 + 16) = ((X.drop (i * 16)).take 16).toArray := by
    simp [List.extract_eq_take_drop]
  rw [← e]
  match i, hi with
  | 0, _ => exact state_idx0 _ w
  | 1, _ => exact state_idx1 _ w
  | 2, _ => exact state_idx2 _ w
  | 3, _ => exact state_idx3 _ w

theorem results_cell_row {P : Program} {fn : Func} {p : Tmp} {ty : TypeId} (h : fn.results = #[.cell p ty]) (tmps : Array Value) (w : World) (g : Nat) (cs : List Value) (d : TypeDesc)
    (hp : tmps.getD p undef = .pointer (some ⟨g, 0, none⟩)) (hc : w.rangeAt g 0 cs)
    (hu : P.underlying ty = some d) (hd : d.isRow = true) (hi : (P.info? ty).map (·.size) = some cs.length) :
    (results fn tmps).run P w = .ok (.agg cs.toArray) w := by
  have hp' : tmps[p]?.getD undef = .pointer (some ⟨g, 0, none⟩) := by simpa using hp
  simp [results, h, hp', asAddr, run_loadVar_mid w g 0 ty cs d hc hu hd hi]

theorem wpList_build7 {P : Program} {ops : Array Oper} {rest : List Oper} {o : Oper} {a : Act} {w : World} {Q : Exit → Act → World → Prop} (hg : o.guard = none) (t : TypeId) (y0 y1 y2 y3 y4 y5 y6 : Operand)
    (ho : o.op = .build t #[(0, y0), (1, y1), (2, y2), (3, y3), (4, y4), (5, y5), (7, y6)]) (v0 v1 v2 v3 v4 v5 v6 : Value) (h0 : a.eval y0 = v0) (h1 : a.eval y1 = v1) (h2 : a.eval y2 = v2) (h3 : a.eval y3 = v3) (h4 : a.eval y4 = v4) (h5 : a.eval y5 = v5) (h6 : a.eval y6 = v6)
    (cells : Array Value) (hf : P.built t [(0, v0), (1, v1), (2, v2), (3, v3), (4, v4), (5, v5), (7, v6)] = some cells)
    (h : wpList P ops Q rest (a.put o.dst (.agg cells)) w) : wpList P ops Q (o :: rest) a w := by
  subst h0 h1 h2 h3 h4 h5 h6
  exact wpList_buildTo hg t _ ho _ rfl cells (by simpa using hf) h

set_option maxHeartbeats 4000000 in
set_option maxRecDepth 100000 in
theorem ref_calls (cs : List Value) (w : World) (hcs : Typed picK cs) :
    Calls Try.prog 19 #[.agg cs.toArray] w fun e w' => e = .returned (.agg cs.toArray) ∧ Below w.heap.size w w' := by
  have HLn := Lib.hid (show cs.length = 164 by rw [hcs.length]; rfl)
  have HON := Lib.hid (show ∀ v ∈ cs, v.oneCell' = true from hcs.one)
  have A0 := At.new w cs.toArray 46
  have hq0 : Below w.heap.size w (w.alloc (.cells cs.toArray 46)) := (Below.refl _ _).alloc (Nat.le_refl _) _
  have hs0 : (w.alloc (.cells cs.toArray 46)).heap.size = w.heap.size + 1 := by simp
  clear hcs
  go_enter Try.func19, Try.ntmps19
  go_upto_region 1 with fail
  obtain ⟨W0, hW0⟩ : ∃ W, w.alloc (.cells cs.toArray 46) = W := ⟨_, rfl⟩
  rw [hW0] at A0 hq0 hs0
  rw [hW0]
  clear hW0
  have At1 := At.new W0 Try.zeroCells55 55
  rw [hs0] at At1
  have hq1 : Below w.heap.size w (W0.alloc (.cells Try.zeroCells55 55)) := hq0.alloc (by omega) _
  have Ap := A0.alloc (.cells Try.zeroCells55 55)
  have hs1 : (W0.alloc (.cells Try.zeroCells55 55)).heap.size = w.heap.size + 2 := by simp; omega
  obtain ⟨W1, hW⟩ : ∃ W, W0.alloc (.cells Try.zeroCells55 55) = W := ⟨_, rfl⟩
  rw [hW] at At1 hq1 Ap hs1
  rw [hW]
  clear hW A0 hs0 hq0
  have At2 := At.new W1 Try.zeroCells55 55
  rw [hs1] at At2
  have hq2 : Below w.heap.size w (W1.alloc (.cells Try.zeroCells55 55)) := hq1.alloc (by omega) _
  have Ap2 := Ap.alloc (.cells Try.zeroCells55 55)
  have At12 := At1.alloc (.cells Try.zeroCells55 55)
  have hs2 : (W1.alloc (.cells Try.zeroCells55 55)).heap.size = w.heap.size + 3 := by simp; omega
  have R : ∀ k n, k + n ≤ 164 → W1.rangeAt w.heap.size k ((cs.drop k).take n) := fun k n hk => by
    have h := Ap.part k n (by rw [List.toList_toArray, HLn.out]; exact hk)
    rw [Nat.zero_add] at h
    exact h.1
  have hl : ∀ k n, k + n ≤ 164 → ((cs.drop k).take n).length = n := fun k n hk => by rw [List.length_take, List.length_drop, HLn.out]; omega
  have I16 : ∀ k, k + 16 ≤ 164 → (Try.prog.info? 41).map (·.size) = some ((cs.drop k).take 16).length := fun k hk => by rw [hl k 16 hk]; kernel_rfl
  have I4 : (Try.prog.info? 28).map (·.size) = some ((cs.drop 160).take 4).length := by rw [hl 160 4 (by omega)]; kernel_rfl
  have HBp := Lib.hid (built_pic cs HLn.out)
  have hzl : Try.zeroCells55.toList.length = 164 := by kernel_rfl
  have HTh := Lib.hid (show (W1.alloc (.cells Try.zeroCells55 55)).there (w.heap.size + 2) 0 (mid cs 0).toArray.size by
    have := At2.2
    rw [hzl] at this
    have e : (mid cs 0).toArray.size = 164 := by rw [List.size_toArray]; exact mid_len cs 0 HLn.out (by omega)
    rw [e]
    exact this)
  clear hzl
  have HIm : ∀ i, i ≤ 4 → (Try.prog.info? 55).map (·.size) = some (mid cs i).length := fun i hi => by
    rw [mid_len cs i HLn.out hi]
    kernel_rfl
  have HOm : ∀ i, i ≤ 4 → ∀ v ∈ mid cs i, v.oneCell' = true := fun i hi v hv => by
    unfold mid at hv
    rw [List.mem_append, List.mem_append] at hv
    rcases hv with hv | hv | hv
    · exact HON.out v (List.mem_of_mem_take hv)
    · rw [List.eq_of_mem_replicate hv]; rfl
    · exact HON.out v (List.mem_of_mem_drop hv)
  have HIs := Lib.hid (show (Try.prog.info? 55).map (·.size) = some (mid cs 0).toArray.size by rw [List.size_toArray]; exact HIm 0 (by omega))
  have HOs := Lib.hid (all_oneCell_toArray (HOm 0 (by omega)))
  have HR := Lib.hid R
  have HI16 := Lib.hid I16
  have HI4 := Lib.hid I4
  have HIM := Lib.hid HIm
  have HOM := Lib.hid HOm
  clear R I16 I4 HIm HOm hl
  go_upto_region 2 with (first
    | refine wpList_load_mid rfl 41 _ rfl w.heap.size 0 rfl ((cs.drop 0).take 16) _ (HR.out 0 16 (by omega)) Try.underlying41 rfl (HI16.out 0 (by omega)) ?_
    | refine wpList_load_mid rfl 41 _ rfl w.heap.size 16 rfl ((cs.drop 16).take 16) _ (HR.out 16 16 (by omega)) Try.underlying41 rfl (HI16.out 16 (by omega)) ?_
    | refine wpList_load_mid rfl 41 _ rfl w.heap.size 32 rfl ((cs.drop 32).take 16) _ (HR.out 32 16 (by omega)) Try.underlying41 rfl (HI16.out 32 (by omega)) ?_
    | refine wpList_load_mid rfl 41 _ rfl w.heap.size 48 rfl ((cs.drop 48).take 16) _ (HR.out 48 16 (by omega)) Try.underlying41 rfl (HI16.out 48 (by omega)) ?_
    | refine wpList_load_mid rfl 41 _ rfl w.heap.size 64 rfl ((cs.drop 64).take 16) _ (HR.out 64 16 (by omega)) Try.underlying41 rfl (HI16.out 64 (by omega)) ?_
    | refine wpList_load_mid rfl 41 _ rfl w.heap.size 80 rfl ((cs.drop 80).take 16) _ (HR.out 80 16 (by omega)) Try.underlying41 rfl (HI16.out 80 (by omega)) ?_
    | refine wpList_load_mid rfl 28 _ rfl w.heap.size 160 rfl ((cs.drop 160).take 4) _ (HR.out 160 4 (by omega)) Try.underlying28 rfl HI4.out ?_
    | refine wpList_build7 rfl 55 _ _ _ _ _ _ _ rfl (.agg ((cs.drop 0).take 16).toArray) (.agg ((cs.drop 16).take 16).toArray) (.agg ((cs.drop 32).take 16).toArray) (.agg ((cs.drop 48).take 16).toArray) (.agg ((cs.drop 64).take 16).toArray) (.agg ((cs.drop 80).take 16).toArray) (.agg ((cs.drop 160).take 4).toArray) rfl rfl rfl rfl rfl rfl rfl (mid cs 0).toArray HBp.out ?_
    | refine wpList_store_mid rfl 55 _ _ rfl (w.heap.size + 2) 0 (mid cs 0).toArray rfl rfl HTh.out HIs.out HOs.out ?_)
  obtain ⟨W, hW⟩ : ∃ W, (W1.alloc (.cells Try.zeroCells55 55)).setCells (w.heap.size + 2) 0 (mid cs 0) = W := ⟨_, rfl⟩
  have B0 : At W w.heap.size 0 cs := by rw [← hW]; exact Ap2.apart _ _ _ (.inl (by omega))
  have B1 : At W (w.heap.size + 1) 0 Try.zeroCells55.toList := by rw [← hW]; exact At12.apart _ _ _ (.inl (by omega))
  have B2 : At W (w.heap.size + 2) 0 (mid cs 0) := by
    rw [← hW]
    have h := HTh.out
    rw [List.size_toArray] at h
    exact ⟨World.rangeAt_setCells_same _ _ _ _ h, World.there_setCells h _ _ _⟩
  have hsW : W.heap.size = w.heap.size + 3 := by rw [← hW, cells_size]; exact hs2
  have hqW : Below w.heap.size w W := by rw [← hW]; exact below_range (by omega) _ 0 _ hq2
  rw [hW]
  clear hW At1 At2 hq1 hq2 Ap Ap2 At12 hs1 hs2 HTh HBp HIs HOs HR HI16 HI4
  have HR := Lib.hid (show W.rangeAt w.heap.size 96 ((cs.drop 96).take 64) by
    have h := B0.part 96 64 (by rw [HLn.out]; omega)
    rw [Nat.zero_add] at h
    exact h.1)
  have HI64 := Lib.hid (show (Try.prog.info? 44).map (·.size) = some ((cs.drop 96).take 64).length by rw [List.length_take, List.length_drop, HLn.out]; kernel_rfl)
  have HB0 := Lib.hid B0
  have HB1 := Lib.hid B1
  have HB2 := Lib.hid B2
  clear B0 B1 B2
  go_upto_region 3 with (first
    | refine wpList_load_mid rfl 44 _ rfl w.heap.size 96 rfl ((cs.drop 96).take 64) _ HR.out Try.underlying44 rfl HI64.out ?_)
  obtain ⟨X, hX⟩ : ∃ X, (cs.drop 96).take 64 = X := ⟨_, rfl⟩
  rw [hX]
  have HIX := Lib.hid (state_idx X)
  have HX := Lib.hid (show ∀ i, i < 4 → (X.drop (i * 16)).take 16 = (cs.drop (96 + i * 16)).take 16 from fun i hi => by
    rw [← hX, List.drop_take, List.take_take, List.drop_drop, Nat.min_eq_left (by omega)])
  clear hX HR HI64
  go_loopw [4, 5, 23] (fun _ _ i wx => ∃ k : Nat, i = .int .i64 (k : Int) ∧ k ≤ 4 ∧ Hid (At wx (w.heap.size + 1) 0 Try.zeroCells55.toList) ∧ Hid (At wx (w.heap.size + 2) 0 (mid cs k)) ∧ w.heap.size + 3 ≤ wx.heap.size ∧ Below w.heap.size w wx) (fun _ _ i _ => 4 - (intOf i).toNat)
  case atStart => exact ⟨0, rfl, by omega, HB1, HB2, by omega, hqW⟩
  case round =>
    obtain ⟨k, rfl, hk, H1, H2, hsz, hb⟩ := hrel
    clear HB0 HB1 HB2 hsW hqW
    by_cases hk4 : k < 4
    · have hk4' : (k : Int) < 4 := by omega
      have hk0 : (0 : Int) ≤ (k : Int) := by omega
      have hidx := HIX.out k hk4
      rw [HX.out k hk4] at hidx
      have hsl : ((cs.drop (96 + k * 16)).take 16).length = 16 := by rw [List.length_take, List.length_drop, HLn.out]; omega
      have HSO := Lib.hid (show ∀ v ∈ (cs.drop (96 + k * 16)).take 16, v.oneCell' = true from fun v hv => HON.out v (List.mem_of_mem_drop (List.mem_of_mem_take hv)))
      have HMn := Lib.hid (mid_next cs k HLn.out hk4)
      have HML := Lib.hid (mid_len cs k HLn.out hk)
      obtain ⟨sc, hsc⟩ : ∃ sc, (cs.drop (96 + k * 16)).take 16 = sc := ⟨_, rfl⟩
      rw [hsc] at hidx hsl HSO HMn
      clear hsc
      have HSL := Lib.hid hsl
      have HI1 := Lib.hid (show (Try.prog.info? 43).map (·.size) = some sc.length by rw [hsl]; kernel_rfl)
      have HI2 := Lib.hid (show (Try.prog.info? 43).map (·.size) = some sc.toArray.size by rw [List.size_toArray, hsl]; kernel_rfl)
      have HI3 := Lib.hid (show (Try.prog.info? 52).map (·.size) = some sc.toArray.size by rw [List.size_toArray, hsl]; kernel_rfl)
      have HO := Lib.hid (all_oneCell_toArray HSO.out)
      have HT1 : Hid ((wr.alloc (.cells #[.int .u64 0, .int .u64 0, .int .u64 0, .int .u64 0, .int .u64 0, .int .u64 0, .int .u64 0, .int .u64 0, .int .u64 0, .int .u64 0, .int .u64 0, .int .u64 0, .int .u64 0, .int .u64 0, .int .u64 0, .int .u64 0] 43)).there wr.heap.size 0 sc.toArray.size) := Lib.hid (by
        have := there_alloc wr #[.int .u64 0, .int .u64 0, .int .u64 0, .int .u64 0, .int .u64 0, .int .u64 0, .int .u64 0, .int .u64 0, .int .u64 0, .int .u64 0, .int .u64 0, .int .u64 0, .int .u64 0, .int .u64 0, .int .u64 0, .int .u64 0] 43
        rw [show sc.toArray.size = 16 by simp [HSL.out]]
        exact this)
      have HR1 : Hid (((wr.alloc (.cells #[.int .u64 0, .int .u64 0, .int .u64 0, .int .u64 0, .int .u64 0, .int .u64 0, .int .u64 0, .int .u64 0, .int .u64 0, .int .u64 0, .int .u64 0, .int .u64 0, .int .u64 0, .int .u64 0, .int .u64 0, .int .u64 0] 43)).setCells wr.heap.size 0 sc).rangeAt wr.heap.size 0 sc) := Lib.hid (World.rangeAt_setCells_same _ _ _ _ (by have := HT1.out; rwa [List.size_toArray] at this))
      have A2 : At ((wr.alloc (.cells #[.int .u64 0, .int .u64 0, .int .u64 0, .int .u64 0, .int .u64 0, .int .u64 0, .int .u64 0, .int .u64 0, .int .u64 0, .int .u64 0, .int .u64 0, .int .u64 0, .int .u64 0, .int .u64 0, .int .u64 0, .int .u64 0] 43)).setCells wr.heap.size 0 sc) (w.heap.size + 2) 0 (mid cs k) := (H2.out.alloc _).apart _ _ _ (.inl (by omega))
      have A1 : At ((wr.alloc (.cells #[.int .u64 0, .int .u64 0, .int .u64 0, .int .u64 0, .int .u64 0, .int .u64 0, .int .u64 0, .int .u64 0, .int .u64 0, .int .u64 0, .int .u64 0, .int .u64 0, .int .u64 0, .int .u64 0, .int .u64 0, .int .u64 0] 43)).setCells wr.heap.size 0 sc) (w.heap.size + 1) 0 Try.zeroCells55.toList := (H1.out.alloc _).apart _ _ _ (.inl (by omega))
      have HT2 : Hid (((wr.alloc (.cells #[.int .u64 0, .int .u64 0, .int .u64 0, .int .u64 0, .int .u64 0, .int .u64 0, .int .u64 0, .int .u64 0, .int .u64 0, .int .u64 0, .int .u64 0, .int .u64 0, .int .u64 0, .int .u64 0, .int .u64 0, .int .u64 0] 43)).setCells wr.heap.size 0 sc).there (w.heap.size + 2) (96 + k * 16) sc.toArray.size) := Lib.hid (by
        have := (A2.part (96 + k * 16) 16 (by rw [HML.out]; omega)).2
        rw [Nat.zero_add, List.length_take, List.length_drop, HML.out, Nat.min_eq_left (by omega)] at this
        rw [show sc.toArray.size = 16 by simp [HSL.out]]
        exact this)
      have P1 : Hid (At (((wr.alloc (.cells #[.int .u64 0, .int .u64 0, .int .u64 0, .int .u64 0, .int .u64 0, .int .u64 0, .int .u64 0, .int .u64 0, .int .u64 0, .int .u64 0, .int .u64 0, .int .u64 0, .int .u64 0, .int .u64 0, .int .u64 0, .int .u64 0] 43)).setCells wr.heap.size 0 sc).setCells (w.heap.size + 2) (96 + k * 16) sc) (w.heap.size + 1) 0 Try.zeroCells55.toList) := Lib.hid (A1.apart _ _ _ (.inl (by omega)))
      have P2 : Hid (At (((wr.alloc (.cells #[.int .u64 0, .int .u64 0, .int .u64 0, .int .u64 0, .int .u64 0, .int .u64 0, .int .u64 0, .int .u64 0, .int .u64 0, .int .u64 0, .int .u64 0, .int .u64 0, .int .u64 0, .int .u64 0, .int .u64 0, .int .u64 0] 43)).setCells wr.heap.size 0 sc).setCells (w.heap.size + 2) (96 + k * 16) sc) (w.heap.size + 2) 0 (mid cs (k + 1))) := Lib.hid (by
        have := A2.paste (96 + k * 16) sc (by rw [HML.out, HSL.out]; omega)
        rwa [HMn.out] at this)
      have P3 : w.heap.size + 3 ≤ (((wr.alloc (.cells #[.int .u64 0, .int .u64 0, .int .u64 0, .int .u64 0, .int .u64 0, .int .u64 0, .int .u64 0, .int .u64 0, .int .u64 0, .int .u64 0, .int .u64 0, .int .u64 0, .int .u64 0, .int .u64 0, .int .u64 0, .int .u64 0] 43)).setCells wr.heap.size 0 sc).setCells (w.heap.size + 2) (96 + k * 16) sc).heap.size := by
        rw [cells_size, cells_size]
        simp
        omega
      have P4 : Below w.heap.size w (((wr.alloc (.cells #[.int .u64 0, .int .u64 0, .int .u64 0, .int .u64 0, .int .u64 0, .int .u64 0, .int .u64 0, .int .u64 0, .int .u64 0, .int .u64 0, .int .u64 0, .int .u64 0, .int .u64 0, .int .u64 0, .int .u64 0, .int .u64 0] 43)).setCells wr.heap.size 0 sc).setCells (w.heap.size + 2) (96 + k * 16) sc) := below_range (by omega) _ _ _ (below_range (by omega) _ 0 _ (hb.alloc (by omega) _))
      clear hsl A1 A2 H1 H2
      go_wp2_with (first
        | refine wpList_load_mid rfl 43 _ rfl wr.heap.size 0 rfl sc _ HR1.out Try.underlying43 rfl HI1.out ?_
        | refine wpList_store_mid rfl 43 _ _ rfl wr.heap.size 0 sc.toArray rfl rfl HT1.out HI2.out HO.out ?_
        | refine wpList_store_mid rfl 52 _ _ rfl (w.heap.size + 2) (96 + k * 16) sc.toArray rfl rfl HT2.out HI3.out HO.out ?_)
      go_roundw
      case rel => exact ⟨k + 1, by simp, by omega, P1, P2, P3, P4⟩
      case measure => simp [intOf]; omega
    · have hk5 : k = 4 := by omega
      subst hk5
      have HM := HIM.out 4 (by omega)
      have HO4 := HOM.out 4 (by omega)
      rw [mid_four cs HLn.out] at H2 HM HO4
      have HR2 := Lib.hid H2.out.1
      have HT1 : Hid (wr.there (w.heap.size + 1) 0 cs.toArray.size) := Lib.hid (by
        have := H1.out.2
        rw [show Try.zeroCells55.toList.length = 164 by kernel_rfl] at this
        rw [show cs.toArray.size = 164 by simp [HLn.out]]
        exact this)
      have HR1 : Hid ((wr.setCells (w.heap.size + 1) 0 cs).rangeAt (w.heap.size + 1) 0 cs) := Lib.hid (World.rangeAt_setCells_same _ _ _ _ (by have := HT1.out; rwa [List.size_toArray] at this))
      have HI2 := Lib.hid (show (Try.prog.info? 55).map (·.size) = some cs.toArray.size by rw [List.size_toArray]; exact HM)
      have HO := Lib.hid (all_oneCell_toArray HO4)
      have HI1 := Lib.hid HM
      clear HM HO4 H1 H2
      go_wp2_with (first
        | refine wpList_load_mid rfl 55 _ rfl (w.heap.size + 2) 0 rfl cs _ HR2.out Try.underlying55 rfl HI1.out ?_
        | refine wpList_store_mid rfl 55 _ _ rfl (w.heap.size + 1) 0 cs.toArray rfl rfl HT1.out HI2.out HO.out ?_)
      exact bodyPost_ret (v := .agg cs.toArray) (results_cell_row rfl _ _ (w.heap.size + 1) cs _ rfl HR1.out Try.underlying55 rfl HI1.out) rfl ⟨rfl, below_range (by omega) _ 0 _ hb⟩
end Go.Proofs.Ytchjjbklkmfelaa
