/- wide.MulDiv: a product's quotient, rounded down. -/
import Derived.Test.YtchjjbklkmfelaaWide9
import Derived.Lib.MinMax
import Derived.Test.YtchjjbklkmfelaaAud3
import Derived.Test.YtchjjbklkmfelaaAud5
import Derived.Test.YtchjjbklkmfelaaRef3
namespace Go.Proofs.Ytchjjbklkmfelaa
open Go.RowKit Go.Lib Go.Deep
set_option linter.unusedVariables false
set_option linter.unusedSimpArgs false

theorem results_row_tmp {P : Program} {fn : Func} {p r : Tmp} {ty : TypeId} (h : fn.results = #[.cell p ty, .tmp r]) (tmps : Array Value) (w : World) (g : Nat) (cs : List Value) (d : TypeDesc) (v : Value)
    (hp : tmps.getD p undef = .pointer (some ⟨g, 0, none⟩)) (hr : tmps.getD r undef = v) (hc : w.rangeAt g 0 cs)
    (hu : P.underlying ty = some d) (hd : d.isRow = true) (hi : (P.info? ty).map (·.size) = some cs.length) :
    (results fn tmps).run P w = .ok (.tuple #[.agg cs.toArray, v]) w := by
  have hp' : tmps[p]?.getD undef = .pointer (some ⟨g, 0, none⟩) := by simpa using hp
  have hr' : tmps[r]?.getD undef = v := by simpa using hr
  simp [results, h, hp', hr', asAddr, run_loadVar_mid w g 0 ty cs d hc hu hd hi]
def mdW (w : World) (a b d : Nat) : World := (((w.alloc (row4 (limb a))).alloc (row4 (limb b))).alloc (row4 (limb d))).alloc (obj4 0 0 0 0)
theorem mdW_facts (w : World) (a b d : Nat) : Box (mdW w a b d) w.heap.size a ∧ Box (mdW w a b d) (w.heap.size + 1) b ∧ Box (mdW w a b d) (w.heap.size + 1 + 1) d ∧ Box (mdW w a b d) (w.heap.size + 1 + 1 + 1) 0 ∧ Below w.heap.size w (mdW w a b d) ∧ (mdW w a b d).heap.size = w.heap.size + 4 := by
  have h2 := Box.new (w.alloc (row4 (limb a))) b
  have h3 := Box.new ((w.alloc (row4 (limb a))).alloc (row4 (limb b))) d
  have h4 := Box.zero (((w.alloc (row4 (limb a))).alloc (row4 (limb b))).alloc (row4 (limb d)))
  simp only [World.size_alloc] at h2 h3 h4
  refine ⟨(((Box.new w a).alloc _).alloc _).alloc _, (h2.alloc _).alloc _, h3.alloc _, h4, ?_, by unfold mdW; simp⟩
  exact (((((Below.refl _ _).alloc (Nat.le_refl _) _).alloc (by simp) _).alloc (by simp; omega) _).alloc (by simp; omega) _)
theorem box_at {w : World} {g n : Nat} (h : Box w g n) : At w g 0 (cells4L n) := At.of_row h

set_option maxHeartbeats 4000000 in
set_option maxRecDepth 100000 in
theorem muldiv_calls (a b d : Nat) (w : World) (ha : a < 18446744073709551616 ^ 4) (hb : b < 18446744073709551616 ^ 4) (hd : d < 18446744073709551616 ^ 4) (hd0 : d ≠ 0) :
    Calls Try.prog 61 #[bigN a, bigN b, bigN d] w fun e w' => e = .returned (.tuple #[bigN (kept (a * b / d)), .int .i64 (okE (a * b / d))]) ∧ Below w.heap.size w w' := by
  obtain ⟨F1, F2, F3, F4, hq, hsz⟩ := mdW_facts w a b d
  go_enter Try.func61, Try.ntmps61
  obtain ⟨W, hW⟩ : ∃ W, W = mdW w a b d := ⟨_, rfl⟩
  rw [← hW] at F1 F2 F3 F4 hq hsz
  unfold mdW row4 at hW
  have HA := Lib.hid (box_at F1)
  have HB := Lib.hid (box_at F2)
  have HD := Lib.hid (box_at F3)
  have HR := Lib.hid (box_at F4)
  have hl1 := F1.lt
  have hl2 := F2.lt
  have hl3 := F3.lt
  have hl4 := F4.lt
  clear F1 F2 F3 F4
  go_upto_region 1 with fail
  rw [← hW]
  clear hW
  have HProd := Lib.hid (fun w => product_calls a b w ha hb)
  have hP8 : a * b < 18446744073709551616 ^ 8 := by
    rw [show 18446744073709551616 ^ 8 = 18446744073709551616 ^ 4 * 18446744073709551616 ^ 4 by rw [← Nat.pow_add]]
    exact Nat.mul_lt_mul'' ha hb
  have HDiv := Lib.hid (fun w => divide_calls (a * b) d w hP8 hd hd0)
  have hQ8 : a * b / d < 18446744073709551616 ^ 8 := Nat.lt_of_le_of_lt (Nat.div_le_self _ _) hP8
  have HNar := Lib.hid (fun w => narrow_calls (a * b / d) w hQ8)
  have HBe := Lib.hid hq
  have HSz := Lib.hid hsz
  clear ha hb hd hd0 hP8 hQ8 hq hsz
  obtain ⟨P, hP⟩ : ∃ P, a * b = P := ⟨_, rfl⟩
  rw [hP] at HProd HDiv HNar
  obtain ⟨Q, hQ⟩ : ∃ Q, P / d = Q := ⟨_, rfl⟩
  obtain ⟨R, hR⟩ : ∃ R, P % d = R := ⟨_, rfl⟩
  rw [hQ] at HDiv HNar
  rw [hR] at HDiv
  have HQe : Hid (a * b / d = Q) := Lib.hid (by rw [hP, hQ])
  clear hQ hR hP
  obtain ⟨T, hT⟩ : ∃ T : Sched, T = ⟨[.main, .main, .main, .main, .main, .main, .main, .main, .main, .new, .new, .put 9, .put 10, .main], [bigN a, bigN b, wideN P, bigN d, .tuple #[wideN Q, bigN R, .int .i64 0], .tuple #[wideN Q, bigN R, .int .i64 0], wideN Q, bigN R, .int .i64 0, undef, undef, undef, undef, .int .i64 0], (fun k p => match k with | 9 => .pointer (some ⟨p, 0, none⟩) | 10 => .pointer (some ⟨p, 0, none⟩) | _ => undef), (fun k => match k with | 9 => cells8 0 | 10 => cells4L 0 | _ => []), (fun k => match k with | 9 => cells8 Q | 10 => cells4L R | _ => []), (fun _ _ _ => True)⟩ := ⟨_, rfl⟩
  have hng : ghosty T.tags = false := by rw [hT]; rfl
  refine region_plan (by kernel_rfl) T (Cls W) (by rw [hT]; kernel_rfl) (puts_len (by rw [hT]; exact ⟨by rfl, by rfl, trivial⟩)) Cls.alloc Cls.put (no_ghost hng) (Cls.start W) ?steps ?fin
  case steps =>
    refine Steps.cons ?s0 (Steps.cons ?s1 (Steps.cons ?s2 (Steps.cons ?s3 (Steps.cons ?s4 (Steps.cons ?s5 (Steps.cons ?s6 (Steps.cons ?s7 (Steps.cons ?s8 (Steps.cons ?s9 (Steps.cons ?s10 (Steps.cons ?s11 (Steps.cons ?s12 (Steps.cons ?s13 (Steps.nil))))))))))))))
    case s0 => exact pm_load (by rw [hT]; rfl) rfl _ _ rfl (w.heap.size) (0) (fun cc AA hh => (rd0 (t := 3) hh rfl).trans (by rw [hT]; rfl)) (cells4L a) (by rw [hT]; rfl) (fun mm NN ww hh => range_below HA.out.1 hh.1 hl1) Try.underlying28 rfl int_info
    case s1 => exact pm_load (by rw [hT]; rfl) rfl _ _ rfl (w.heap.size + 1) (0) (fun cc AA hh => (rd0 (t := 4) hh rfl).trans (by rw [hT]; rfl)) (cells4L b) (by rw [hT]; rfl) (fun mm NN ww hh => range_below HB.out.1 hh.1 hl2) Try.underlying28 rfl int_info
    case s2 => exact pm_callB (by rw [hT]; rfl) rfl 70 _ _ rfl Try.call70 (fun cc => #[bigN a, bigN b]) (fun cc AA hh => map2 ((rd0 (t := 12) hh rfl).trans (by rw [hT]; rfl)) ((rd1 (t := 13) hh rfl).trans (by rw [hT]; rfl))) (fun cc NN ww hb hF => by rw [hT]; exact HProd.out ww)
    case s3 => exact pm_load (by rw [hT]; rfl) rfl _ _ rfl (w.heap.size + 1 + 1) (0) (fun cc AA hh => (rd0 (t := 5) hh rfl).trans (by rw [hT]; rfl)) (cells4L d) (by rw [hT]; rfl) (fun mm NN ww hh => range_below HD.out.1 hh.1 hl3) Try.underlying28 rfl int_info
    case s4 => exact pm_callB (by rw [hT]; rfl) rfl 69 _ _ rfl Try.call69 (fun cc => #[wideN P, bigN d]) (fun cc AA hh => map2 ((rd0 (t := 14) hh rfl).trans (by rw [hT]; rfl)) ((rd1 (t := 15) hh rfl).trans (by rw [hT]; rfl))) (fun cc NN ww hb hF => by rw [hT]; exact HDiv.out ww)
    case s5 => exact pm_move (by rw [hT]; rfl) rfl _ rfl (fun cc AA hh => (rd0 (t := 16) hh rfl).trans (by rw [hT]; rfl))
    case s6 => exact pm_extract (by rw [hT]; rfl) rfl _ _ rfl #[wideN Q, bigN R, .int .i64 0] (fun cc AA hh => (rd0 (t := 11) hh rfl).trans (by rw [hT]; rfl)) (by rw [hT]; rfl)
    case s7 => exact pm_extract (by rw [hT]; rfl) rfl _ _ rfl #[wideN Q, bigN R, .int .i64 0] (fun cc AA hh => (rd0 (t := 11) hh rfl).trans (by rw [hT]; rfl)) (by rw [hT]; rfl)
    case s8 => exact pm_extract (by rw [hT]; rfl) rfl _ _ rfl #[wideN Q, bigN R, .int .i64 0] (fun cc AA hh => (rd0 (t := 11) hh rfl).trans (by rw [hT]; rfl)) (by rw [hT]; rfl)
    case s9 => exact pn_alloc (by rw [hT]; rfl) _ rfl _ (fun ww => Try.zeroValue111 ww) (by rw [hT]; intro p; rfl) (by rw [hT]; rfl)
    case s10 => exact pn_alloc (by rw [hT]; rfl) _ rfl _ (fun ww => Try.zeroValue28 ww) (by rw [hT]; intro p; rfl) (by rw [hT]; rfl)
    case s11 => exact pp_store (by rw [hT]; rfl) _ _ _ rfl rfl (fun cc AA hh => (rd0 (t := 8) hh rfl).trans (by rw [hT]; rfl)) (fun cc AA hh => (rd1 (t := 17) hh rfl).trans (by rw [hT]; rfl)) (by rw [hT]; exact info8 _) (by rw [hT]; exact cells8_one _)
    case s12 => exact pp_store (by rw [hT]; rfl) _ _ _ rfl rfl (fun cc AA hh => (rd0 (t := 9) hh rfl).trans (by rw [hT]; rfl)) (fun cc AA hh => (rd1 (t := 18) hh rfl).trans (by rw [hT]; rfl)) (by rw [hT]; exact int_info) (by rw [hT]; exact cells4_one _)
    case s13 => exact pm_assign (by rw [hT]; rfl) rfl _ rfl (fun cc AA hh => (rd0 (t := 19) hh rfl).trans (by rw [hT]; rfl))
  case fin =>
    intro cc NN w2 hC hN hap hgs
    obtain ⟨hn9, hz9, hth9, hr9, hp9⟩ := hN 9 (by rw [hT]; rfl)
    have hx9 : At w2 (cc 9).p 0 (cells8 Q) := by
      have h := hp9 11 (by rw [hT]; rfl)
      rw [hT] at h hth9
      exact ⟨h, hth9⟩
    have hne9_10 : (cc 9).p ≠ (cc 10).p := hap 9 10 (by rw [hT]; rfl) (by rw [hT]; rfl) (by decide)
    obtain ⟨hn10, hz10, hth10, hr10, hp10⟩ := hN 10 (by rw [hT]; rfl)
    have hx10 : At w2 (cc 10).p 0 (cells4L R) := by
      have h := hp10 12 (by rw [hT]; rfl)
      rw [hT] at h hth10
      exact ⟨h, hth10⟩
    rw [show putsAll T cc _ 0 _ = List.foldl (fun a x => Act.put a x.1 x.2) _ [(some 12, bigN a), (some 13, bigN b), (some 14, wideN P), (some 15, bigN d), (some 16, .tuple #[wideN Q, bigN R, .int .i64 0]), (some 11, .tuple #[wideN Q, bigN R, .int .i64 0]), (some 17, wideN Q), (some 18, bigN R), (some 19, .int .i64 0), (some 8, .pointer (some ⟨(cc 9).p, 0, none⟩)), (some 9, .pointer (some ⟨(cc 10).p, 0, none⟩)), (none, undef), (none, undef), (some 10, .int .i64 0)] from by rw [hT]; rfl]
    simp only [List.foldl_cons, List.foldl_nil, Act.put, List.setIfInBounds_toArray, List.set_cons_succ, List.set_cons_zero]
    clear hN hap hgs hng hT
    obtain ⟨p8, hp8⟩ : ∃ p, (cc 9).p = p := ⟨_, rfl⟩
    obtain ⟨p9, hp9⟩ : ∃ p, (cc 10).p = p := ⟨_, rfl⟩
    rw [hp8] at hx9 ⊢
    rw [hp9] at hx10 ⊢
    have hb2 := hC.1
    have HX9 := Lib.hid hx9.1
    have HRt := HR.out.2
    have hth := Lib.hid (At.below HR.out hb2 hl4)
    have HBb := Lib.hid (HBe.out.trans (hb2.mono (by have := HBe.out.size; omega)))
    have HI8 := Lib.hid (info8 Q)
    have hsz2 := hb2.size
    have HSz2 : Hid (w.heap.size + 1 + 1 + 1 < w2.heap.size) := Lib.hid (by omega)
    have HBl : Hid (w.heap.size ≤ w2.heap.size) := Lib.hid (by omega)
    clear hx9 hx10 hb2 HRt hsz2 hC
    have hE : wideN Q = .agg (cells8 Q).toArray := rfl
    rw [hE] at HNar
    clear hE
    generalize cells8 Q = c8 at *
    go_wp2_with (first | refine wpList_load_mid rfl 111 _ rfl p8 0 rfl c8 _ HX9.out Try.underlying111 rfl HI8.out ?_)
    refine (HNar.out w2).mono ?_
    rintro e w3 ⟨rfl, hb3⟩
    have A3 := At.below hth.out hb3 HSz2.out
    have HT3 := Lib.hid (show w3.there (w.heap.size + 1 + 1 + 1) 0 (cells4L (kept Q)).toArray.size from A3.2)
    have HR3 := Lib.hid (At.cells A3 (cells4L (kept Q)) rfl).1
    have HB3 := Lib.hid (below_range (show w.heap.size ≤ w.heap.size + 1 + 1 + 1 by omega) (cells4L (kept Q)) 0 _ (HBb.out.trans (hb3.mono HBl.out)))
    have HI4 : Hid ((Try.prog.info? 28).map (·.size) = some (cells4L (kept Q)).length) := Lib.hid int_info
    have HI4a : Hid ((Try.prog.info? 28).map (·.size) = some (cells4L (kept Q)).toArray.size) := Lib.hid int_info
    have HO4 := Lib.hid (all_oneCell_toArray (cells4_one (kept Q)))
    have hE : bigN (kept Q) = .agg (cells4L (kept Q)).toArray := rfl
    rw [hE]
    have HE := Lib.hid hE
    clear hE A3 hb3 hth
    generalize cells4L (kept Q) = c4 at *
    go_wp2_with (first | refine wpList_store_mid rfl 28 _ _ rfl (w.heap.size + 1 + 1 + 1) 0 c4.toArray rfl rfl HT3.out HI4a.out HO4.out ?_)
    exact bodyPost_ret (v := .tuple #[.agg c4.toArray, .int .i64 (okE Q)]) (results_row_tmp rfl _ _ (w.heap.size + 1 + 1 + 1) c4 _ _ rfl rfl HR3.out Try.underlying28 rfl HI4.out) rfl ⟨by rw [HQe.out, HE.out], HB3.out⟩
end Go.Proofs.Ytchjjbklkmfelaa

/- share.more: two numbers, each one more. -/
namespace Go.Proofs.Ytchjjbklkmfelaa
open Go.RowKit Go.Lib Go.Deep
set_option linter.unusedVariables false
set_option linter.unusedSimpArgs false

def moreW (w : World) (a b : Nat) : World := (((w.alloc (row4 (limb a))).alloc (row4 (limb b))).alloc (obj4 0 0 0 0)).alloc (obj4 0 0 0 0)
theorem moreW_facts (w : World) (a b : Nat) : Box (moreW w a b) w.heap.size a ∧ Box (moreW w a b) (w.heap.size + 1) b ∧ Box (moreW w a b) (w.heap.size + 1 + 1) 0 ∧ Box (moreW w a b) (w.heap.size + 1 + 1 + 1) 0 ∧ Below w.heap.size w (moreW w a b) ∧ (moreW w a b).heap.size = w.heap.size + 4 := by
  have h2 := Box.new (w.alloc (row4 (limb a))) b
  have h3 := Box.zero ((w.alloc (row4 (limb a))).alloc (row4 (limb b)))
  have h4 := Box.zero (((w.alloc (row4 (limb a))).alloc (row4 (limb b))).alloc (obj4 0 0 0 0))
  simp only [World.size_alloc] at h2 h3 h4
  refine ⟨(((Box.new w a).alloc _).alloc _).alloc _, (h2.alloc _).alloc _, h3.alloc _, h4, ?_, by unfold moreW; simp⟩
  exact (((((Below.refl _ _).alloc (Nat.le_refl _) _).alloc (by simp) _).alloc (by simp; omega) _).alloc (by simp; omega) _)
theorem big4 (n : Nat) : bigN n = .agg (cells4L n).toArray := rfl
theorem all4 (n : Nat) : (cells4L n).toArray.all (·.oneCell') = true := all_oneCell_toArray (cells4_one n)

def newC (w : World) (c : List Value) : World := (w.alloc (obj4 0 0 0 0)).setCells w.heap.size 0 c
theorem newC_facts (w : World) {c : List Value} (hc : c.length = 4) : At (newC w c) w.heap.size 0 c ∧ Below w.heap.size w (newC w c) ∧ (newC w c).heap.size = w.heap.size + 1 := by
  refine ⟨At.cells (box_at (Box.zero w)) c hc, below_range (Nat.le_refl _) _ 0 _ ((Below.refl _ _).alloc (Nat.le_refl _) _), ?_⟩
  unfold newC
  rw [cells_size]
  simp
theorem there_newC (w : World) {c : List Value} (hc : c.length = 4) : (w.alloc (obj4 0 0 0 0)).there w.heap.size 0 c.toArray.size := by
  show (w.alloc (obj4 0 0 0 0)).there w.heap.size 0 c.length
  rw [hc]
  exact (box_at (Box.zero w)).2
theorem int_info4 (n : Nat) : (Try.prog.info? 28).map (·.size) = some (cells4L n).length := int_info
theorem int_info4a (n : Nat) : (Try.prog.info? 28).map (·.size) = some (cells4L n).toArray.size := int_info

set_option maxHeartbeats 4000000 in
set_option maxRecDepth 100000 in
theorem more2_calls (a b : Nat) (w : World) (ha : a < 18446744073709551616 ^ 4) (hb : b < 18446744073709551616 ^ 4) :
    Calls Try.prog 60 #[bigN a, bigN b] w fun e w' => e = .returned (.tuple #[bigN (kept (a + 1)), bigN (kept (b + 1)), .int .i64 (max (okE (a + 1)) (okE (b + 1)))]) ∧ Below w.heap.size w w' := by
  obtain ⟨F1, F2, F3, F4, hq, hsz⟩ := moreW_facts w a b
  obtain ⟨x, hx⟩ : ∃ x, kept (a + 1) = x := ⟨_, rfl⟩
  obtain ⟨y, hy⟩ : ∃ y, kept (b + 1) = y := ⟨_, rfl⟩
  have HXe := Lib.hid hx
  have HYe := Lib.hid hy
  have h1 := fun w => hadd_calls a 1 w ha (by decide)
  have h2 := fun w => hadd_calls b 1 w hb (by decide)
  have h3 := hof_one
  simp only [sumV_kept, hx, hy] at h1 h2
  clear ha hb hx hy
  go_enter Try.func60, Try.ntmps60
  obtain ⟨W, hW⟩ : ∃ W, W = moreW w a b := ⟨_, rfl⟩
  rw [← hW] at F1 F2 F3 F4 hq hsz
  unfold moreW row4 at hW
  have HA := Lib.hid (box_at F1)
  have HB := Lib.hid (box_at F2)
  have HX := Lib.hid (box_at F3)
  have HY := Lib.hid (box_at F4)
  have LA := Lib.hid F1.lt
  have LB := Lib.hid F2.lt
  have LX := Lib.hid F3.lt
  have LY := Lib.hid F4.lt
  have HBel := Lib.hid hq
  have HBs := Lib.hid hq.size
  clear F1 F2 F3 F4 hq hsz
  go_upto_region 1 with fail
  rw [← hW]
  clear hW
  obtain ⟨ca, hc⟩ : ∃ c, cells4L (a) = c := ⟨_, rfl⟩
  have BNa : Hid (bigN (a) = .agg ca.toArray) := Lib.hid (by rw [← hc]; rfl)
  have IIa : Hid ((Try.prog.info? 28).map (·.size) = some ca.length) := Lib.hid (by rw [← hc]; exact int_info)
  have IAa : Hid ((Try.prog.info? 28).map (·.size) = some ca.toArray.size) := Lib.hid (by rw [← hc]; exact int_info)
  have OOa : Hid (ca.toArray.all (·.oneCell') = true) := Lib.hid (by rw [← hc]; exact all4 _)
  have LNa : Hid (ca.length = 4) := Lib.hid (by rw [← hc]; rfl)
  rw [hc] at HA
  clear hc
  obtain ⟨cb, hc⟩ : ∃ c, cells4L (b) = c := ⟨_, rfl⟩
  have BNb : Hid (bigN (b) = .agg cb.toArray) := Lib.hid (by rw [← hc]; rfl)
  have IIb : Hid ((Try.prog.info? 28).map (·.size) = some cb.length) := Lib.hid (by rw [← hc]; exact int_info)
  have IAb : Hid ((Try.prog.info? 28).map (·.size) = some cb.toArray.size) := Lib.hid (by rw [← hc]; exact int_info)
  have OOb : Hid (cb.toArray.all (·.oneCell') = true) := Lib.hid (by rw [← hc]; exact all4 _)
  have LNb : Hid (cb.length = 4) := Lib.hid (by rw [← hc]; rfl)
  rw [hc] at HB
  clear hc
  obtain ⟨c0, hc⟩ : ∃ c, cells4L (0) = c := ⟨_, rfl⟩
  have BN0 : Hid (bigN (0) = .agg c0.toArray) := Lib.hid (by rw [← hc]; rfl)
  have II0 : Hid ((Try.prog.info? 28).map (·.size) = some c0.length) := Lib.hid (by rw [← hc]; exact int_info)
  have IA0 : Hid ((Try.prog.info? 28).map (·.size) = some c0.toArray.size) := Lib.hid (by rw [← hc]; exact int_info)
  have OO0 : Hid (c0.toArray.all (·.oneCell') = true) := Lib.hid (by rw [← hc]; exact all4 _)
  have LN0 : Hid (c0.length = 4) := Lib.hid (by rw [← hc]; rfl)
  rw [hc] at HX
  rw [hc] at HY
  clear hc
  obtain ⟨c1, hc⟩ : ∃ c, cells4L (1) = c := ⟨_, rfl⟩
  have BN1 : Hid (bigN (1) = .agg c1.toArray) := Lib.hid (by rw [← hc]; rfl)
  have II1 : Hid ((Try.prog.info? 28).map (·.size) = some c1.length) := Lib.hid (by rw [← hc]; exact int_info)
  have IA1 : Hid ((Try.prog.info? 28).map (·.size) = some c1.toArray.size) := Lib.hid (by rw [← hc]; exact int_info)
  have OO1 : Hid (c1.toArray.all (·.oneCell') = true) := Lib.hid (by rw [← hc]; exact all4 _)
  have LN1 : Hid (c1.length = 4) := Lib.hid (by rw [← hc]; rfl)
  clear hc
  obtain ⟨cx, hc⟩ : ∃ c, cells4L (x) = c := ⟨_, rfl⟩
  have BNx : Hid (bigN (x) = .agg cx.toArray) := Lib.hid (by rw [← hc]; rfl)
  have IIx : Hid ((Try.prog.info? 28).map (·.size) = some cx.length) := Lib.hid (by rw [← hc]; exact int_info)
  have IAx : Hid ((Try.prog.info? 28).map (·.size) = some cx.toArray.size) := Lib.hid (by rw [← hc]; exact int_info)
  have OOx : Hid (cx.toArray.all (·.oneCell') = true) := Lib.hid (by rw [← hc]; exact all4 _)
  have LNx : Hid (cx.length = 4) := Lib.hid (by rw [← hc]; rfl)
  clear hc
  obtain ⟨cy, hc⟩ : ∃ c, cells4L (y) = c := ⟨_, rfl⟩
  have BNy : Hid (bigN (y) = .agg cy.toArray) := Lib.hid (by rw [← hc]; rfl)
  have IIy : Hid ((Try.prog.info? 28).map (·.size) = some cy.length) := Lib.hid (by rw [← hc]; exact int_info)
  have IAy : Hid ((Try.prog.info? 28).map (·.size) = some cy.toArray.size) := Lib.hid (by rw [← hc]; exact int_info)
  have OOy : Hid (cy.toArray.all (·.oneCell') = true) := Lib.hid (by rw [← hc]; exact all4 _)
  have LNy : Hid (cy.length = 4) := Lib.hid (by rw [← hc]; rfl)
  clear hc
  simp only [BNa.out, BNb.out, BN1.out, BNx.out, BNy.out] at h1 h2 h3
  have HAdd1 := Lib.hid h1
  have HAdd2 := Lib.hid h2
  have HOf := Lib.hid h3
  clear h1 h2 h3
  go_wp2_with fail
  refine (HOf.out _).mono ?_
  rintro e wq1 ⟨rfl, hb1⟩
  replace HA := Lib.hid (HA.out.below hb1 LA.out)
  replace LA := Lib.hid (Nat.lt_of_lt_of_le LA.out hb1.size)
  replace HB := Lib.hid (HB.out.below hb1 LB.out)
  replace LB := Lib.hid (Nat.lt_of_lt_of_le LB.out hb1.size)
  replace HX := Lib.hid (HX.out.below hb1 LX.out)
  replace LX := Lib.hid (Nat.lt_of_lt_of_le LX.out hb1.size)
  replace HY := Lib.hid (HY.out.below hb1 LY.out)
  replace LY := Lib.hid (Nat.lt_of_lt_of_le LY.out hb1.size)
  replace HBel := Lib.hid (HBel.out.trans (hb1.mono HBs.out))
  replace HBs := Lib.hid (Nat.le_trans HBs.out hb1.size)
  clear hb1
  have HT : Hid ((wq1.alloc (obj4 0 0 0 0)).there wq1.heap.size 0 c1.toArray.size) := Lib.hid (there_newC wq1 LN1.out)
  go_upto_region 2 with (first | refine wpList_store_mid rfl 28 _ _ rfl wq1.heap.size 0 c1.toArray rfl rfl HT.out IA1.out OO1.out ?_)
  have EA_O := Lib.hid (Nat.ne_of_lt LA.out)
  have EB_O := Lib.hid (Nat.ne_of_lt LB.out)
  have EX_O := Lib.hid (Nat.ne_of_lt LX.out)
  have EY_O := Lib.hid (Nat.ne_of_lt LY.out)
  have GO := Lib.hid HBs.out
  obtain ⟨N1, N2, N3⟩ := newC_facts wq1 LN1.out
  obtain ⟨wq2, hW⟩ : ∃ W2, W2 = newC wq1 c1 := ⟨_, rfl⟩
  rw [← hW] at N1 N2 N3
  replace HA := Lib.hid (HA.out.below N2 LA.out)
  replace LA := Lib.hid (Nat.lt_of_lt_of_le LA.out N2.size)
  replace HB := Lib.hid (HB.out.below N2 LB.out)
  replace LB := Lib.hid (Nat.lt_of_lt_of_le LB.out N2.size)
  replace HX := Lib.hid (HX.out.below N2 LX.out)
  replace LX := Lib.hid (Nat.lt_of_lt_of_le LX.out N2.size)
  replace HY := Lib.hid (HY.out.below N2 LY.out)
  replace LY := Lib.hid (Nat.lt_of_lt_of_le LY.out N2.size)
  replace HBel := Lib.hid (HBel.out.trans (N2.mono HBs.out))
  replace HBs := Lib.hid (Nat.le_trans HBs.out N2.size)
  have LO : Hid (wq1.heap.size < wq2.heap.size) := Lib.hid (by rw [N3]; omega)
  have HO := Lib.hid N1
  unfold newC at hW
  rw [← hW]
  clear hW N1 N2 N3 HT
  go_wp2_with (first | refine wpList_load_mid rfl 28 _ rfl (w.heap.size) 0 rfl ca _ HA.out.1 Try.underlying28 rfl IIa.out ?_ | refine wpList_load_mid rfl 28 _ rfl (wq1.heap.size) 0 rfl c1 _ HO.out.1 Try.underlying28 rfl II1.out ?_)
  refine (HAdd1.out _).mono ?_
  rintro e wq3 ⟨rfl, hb3⟩
  replace HA := Lib.hid (HA.out.below hb3 LA.out)
  replace LA := Lib.hid (Nat.lt_of_lt_of_le LA.out hb3.size)
  replace HB := Lib.hid (HB.out.below hb3 LB.out)
  replace LB := Lib.hid (Nat.lt_of_lt_of_le LB.out hb3.size)
  replace HX := Lib.hid (HX.out.below hb3 LX.out)
  replace LX := Lib.hid (Nat.lt_of_lt_of_le LX.out hb3.size)
  replace HY := Lib.hid (HY.out.below hb3 LY.out)
  replace LY := Lib.hid (Nat.lt_of_lt_of_le LY.out hb3.size)
  replace HO := Lib.hid (HO.out.below hb3 LO.out)
  replace LO := Lib.hid (Nat.lt_of_lt_of_le LO.out hb3.size)
  replace HBel := Lib.hid (HBel.out.trans (hb3.mono HBs.out))
  replace HBs := Lib.hid (Nat.le_trans HBs.out hb3.size)
  clear hb3
  have HT : Hid (wq3.there (w.heap.size + 1 + 1) 0 cx.toArray.size) := Lib.hid (show wq3.there (w.heap.size + 1 + 1) 0 cx.length by rw [LNx.out, ← LN0.out]; exact HX.out.2)
  go_upto_region 3 with (first | refine wpList_store_mid rfl 28 _ _ rfl (w.heap.size + 1 + 1) 0 cx.toArray rfl rfl HT.out IAx.out OOx.out ?_)
  obtain ⟨wq4, hW⟩ : ∃ W2, wq3.setCells (w.heap.size + 1 + 1) 0 cx = W2 := ⟨_, rfl⟩
  rw [hW]
  have hWs : wq4.heap.size = wq3.heap.size := by rw [← hW, cells_size]
  replace HA := Lib.hid (HA.out.apart (w.heap.size + 1 + 1) 0 cx (.inl (by omega)))
  rw [hW] at HA
  replace LA := Lib.hid (hWs ▸ LA.out)
  replace HB := Lib.hid (HB.out.apart (w.heap.size + 1 + 1) 0 cx (.inl (by omega)))
  rw [hW] at HB
  replace LB := Lib.hid (hWs ▸ LB.out)
  replace HX := Lib.hid (HX.out.cells cx (LNx.out.trans LN0.out.symm))
  rw [hW] at HX
  replace LX := Lib.hid (hWs ▸ LX.out)
  replace HY := Lib.hid (HY.out.apart (w.heap.size + 1 + 1) 0 cx (.inl (by omega)))
  rw [hW] at HY
  replace LY := Lib.hid (hWs ▸ LY.out)
  replace HO := Lib.hid (HO.out.apart (w.heap.size + 1 + 1) 0 cx (.inl (Ne.symm EX_O.out)))
  rw [hW] at HO
  replace LO := Lib.hid (hWs ▸ LO.out)
  replace HBel := Lib.hid (below_range (show w.heap.size ≤ w.heap.size + 1 + 1 by omega) cx 0 _ HBel.out)
  rw [hW] at HBel
  replace HBs := Lib.hid (hWs ▸ HBs.out)
  clear hW hWs HT
  go_wp2_with (first | refine wpList_load_mid rfl 28 _ rfl (w.heap.size + 1) 0 rfl cb _ HB.out.1 Try.underlying28 rfl IIb.out ?_ | refine wpList_load_mid rfl 28 _ rfl (wq1.heap.size) 0 rfl c1 _ HO.out.1 Try.underlying28 rfl II1.out ?_)
  refine (HAdd2.out _).mono ?_
  rintro e wq5 ⟨rfl, hb5⟩
  replace HA := Lib.hid (HA.out.below hb5 LA.out)
  replace LA := Lib.hid (Nat.lt_of_lt_of_le LA.out hb5.size)
  replace HB := Lib.hid (HB.out.below hb5 LB.out)
  replace LB := Lib.hid (Nat.lt_of_lt_of_le LB.out hb5.size)
  replace HX := Lib.hid (HX.out.below hb5 LX.out)
  replace LX := Lib.hid (Nat.lt_of_lt_of_le LX.out hb5.size)
  replace HY := Lib.hid (HY.out.below hb5 LY.out)
  replace LY := Lib.hid (Nat.lt_of_lt_of_le LY.out hb5.size)
  replace HO := Lib.hid (HO.out.below hb5 LO.out)
  replace LO := Lib.hid (Nat.lt_of_lt_of_le LO.out hb5.size)
  replace HBel := Lib.hid (HBel.out.trans (hb5.mono HBs.out))
  replace HBs := Lib.hid (Nat.le_trans HBs.out hb5.size)
  clear hb5
  have HT : Hid (wq5.there (w.heap.size + 1 + 1 + 1) 0 cy.toArray.size) := Lib.hid (show wq5.there (w.heap.size + 1 + 1 + 1) 0 cy.length by rw [LNy.out, ← LN0.out]; exact HY.out.2)
  go_upto_region 4 with (first | refine wpList_store_mid rfl 28 _ _ rfl (w.heap.size + 1 + 1 + 1) 0 cy.toArray rfl rfl HT.out IAy.out OOy.out ?_)
  obtain ⟨wq6, hW⟩ : ∃ W2, wq5.setCells (w.heap.size + 1 + 1 + 1) 0 cy = W2 := ⟨_, rfl⟩
  rw [hW]
  have hWs : wq6.heap.size = wq5.heap.size := by rw [← hW, cells_size]
  replace HA := Lib.hid (HA.out.apart (w.heap.size + 1 + 1 + 1) 0 cy (.inl (by omega)))
  rw [hW] at HA
  replace LA := Lib.hid (hWs ▸ LA.out)
  replace HB := Lib.hid (HB.out.apart (w.heap.size + 1 + 1 + 1) 0 cy (.inl (by omega)))
  rw [hW] at HB
  replace LB := Lib.hid (hWs ▸ LB.out)
  replace HX := Lib.hid (HX.out.apart (w.heap.size + 1 + 1 + 1) 0 cy (.inl (by omega)))
  rw [hW] at HX
  replace LX := Lib.hid (hWs ▸ LX.out)
  replace HY := Lib.hid (HY.out.cells cy (LNy.out.trans LN0.out.symm))
  rw [hW] at HY
  replace LY := Lib.hid (hWs ▸ LY.out)
  replace HO := Lib.hid (HO.out.apart (w.heap.size + 1 + 1 + 1) 0 cy (.inl (Ne.symm EY_O.out)))
  rw [hW] at HO
  replace LO := Lib.hid (hWs ▸ LO.out)
  replace HBel := Lib.hid (below_range (show w.heap.size ≤ w.heap.size + 1 + 1 + 1 by omega) cy 0 _ HBel.out)
  rw [hW] at HBel
  replace HBs := Lib.hid (hWs ▸ HBs.out)
  clear hW hWs HT
  have hlx := LX.out
  have hly := LY.out
  have HY2 := Lib.hid (HY.out.apart (w.heap.size + 1 + 1) 0 cx (.inl (by omega)))
  have HY3 := Lib.hid (HY2.out.cells cy rfl)
  have HX3 := Lib.hid ((HX.out.cells cx rfl).apart (w.heap.size + 1 + 1 + 1) 0 cy (.inl (by omega)))
  have OX : Hid (∀ v ∈ cx, v.oneCell' = true) := Lib.hid (fun v hv => by have h := OOx.out; rw [Array.all_eq_true_iff_forall_mem] at h; exact h v (by simpa using hv))
  have OY : Hid (∀ v ∈ cy, v.oneCell' = true) := Lib.hid (fun v hv => by have h := OOy.out; rw [Array.all_eq_true_iff_forall_mem] at h; exact h v (by simpa using hv))
  obtain ⟨T, hT⟩ : ∃ T : Sched, T = ⟨[.early, .main, .main, .main, .main, .late, .late, .main], [.agg (List.toArray (cx)), .agg (List.toArray (cy)), .int .i64 (okE (a + 1)), .int .i64 (okE (b + 1)), .int .i64 (max (okE (a + 1)) (okE (b + 1))), undef, undef, .int .i64 (max (okE (a + 1)) (okE (b + 1)))], (fun _ _ => undef), (fun _ => []), (fun _ => []), (fun _ _ _ => True)⟩ := ⟨_, rfl⟩
  have hng : ghosty T.tags = false := by rw [hT]; rfl
  obtain ⟨F, hF0, hF1, hF2, hFa, hFs⟩ := stage3 wq6 (wq6.setCells (w.heap.size + 1 + 1) (0) (cx)) ((wq6.setCells (w.heap.size + 1 + 1) (0) (cx)).setCells (w.heap.size + 1 + 1 + 1) (0) (cy)) (cells_size _ _ _ _) ((cells_size _ _ _ _).trans (cells_size _ _ _ _))
  have hF2 : F 2 = (F 1).setCells (w.heap.size + 1 + 1 + 1) (0) (cy) := by rw [hF2, hF1]
  have hF1 : F 1 = (F 0).setCells (w.heap.size + 1 + 1) (0) (cx) := by rw [hF1, hF0]
  have hg01 : (w.heap.size + 1 + 1 + 1) < (F 0).heap.size := by rw [hF0]; exact hly
  have hth1 : (F 1).there (w.heap.size + 1 + 1 + 1) (0) (cy).length := by rw [hF1, hF0]; exact HY2.out.2
  have hg00 : (w.heap.size + 1 + 1) < (F 0).heap.size := by rw [hF0]; exact hlx
  have hth0 : (F 0).there (w.heap.size + 1 + 1) (0) (cx).length := by rw [hF0]; exact HX.out.2
  refine region_plan (by kernel_rfl) T (ClsF F) (by rw [hT]; kernel_rfl) (puts_len (by rw [hT]; exact trivial)) (ClsF.alloc hFs) ClsF.put (no_ghost hng) (by rw [← hF0]; exact ClsF.start F) ?steps ?fin
  case steps =>
    refine Steps.cons ?s0 (Steps.cons ?s1 (Steps.cons ?s2 (Steps.cons ?s3 (Steps.cons ?s4 (Steps.cons ?s5 (Steps.cons ?s6 (Steps.cons ?s7 (Steps.nil))))))))
    case s0 => exact pe_load (by rw [hT]; rfl) rfl _ _ rfl (w.heap.size + 1 + 1) (0) (fun cc AA hh => (rd0 (t := 4) hh rfl).trans (by rw [hT]; rfl)) (cx) (by rw [hT]; rfl) (fun NN ww hh => range_below (hF0 ▸ HX.out.1) hh.1 (hF0 ▸ hlx)) Try.underlying28 rfl IIx.out
    case s1 => exact pm_load (by rw [hT]; rfl) rfl _ _ rfl (w.heap.size + 1 + 1 + 1) (0) (fun cc AA hh => (rd0 (t := 5) hh rfl).trans (by rw [hT]; rfl)) (cy) (by rw [hT]; rfl) (fun mm NN ww hh => range_below (show (F mm).rangeAt (w.heap.size + 1 + 1 + 1) 0 cy by rcases hFa mm with e | e | e <;> rw [e] <;> first | exact HY.out.1 | exact HY2.out.1 | exact HY3.out.1) hh.1 (hF0 ▸ hly)) Try.underlying28 rfl IIy.out
    case s2 => exact pm_move (by rw [hT]; rfl) rfl _ rfl (fun cc AA hh => (rd0 (t := 6) hh rfl).trans (by rw [hT]; rfl))
    case s3 => exact pm_move (by rw [hT]; rfl) rfl _ rfl (fun cc AA hh => (rd0 (t := 8) hh rfl).trans (by rw [hT]; rfl))
    case s4 => exact pm_pure (by rw [hT]; rfl) rfl (fun cc AA ww hh => by
        have e24 : AA.eval (.tmp 24) = .int .i64 (okE (a + 1)) := (rd0 (t := 24) hh rfl).trans (by rw [hT]; rfl)
        have e25 : AA.eval (.tmp 25) = .int .i64 (okE (b + 1)) := (rd1 (t := 25) hh rfl).trans (by rw [hT]; rfl)
        have ev : T.nth 4 = .int .i64 (max (okE (a + 1)) (okE (b + 1))) := by rw [hT]; rfl
        rw [ev]
        have ek : ∀ v, AA.eval (.const v) = v := fun _ => rfl
        generalize AA.eval = ρ at *
        simp [go_sem, ek, e24, e25])
    case s5 => exact pl_store hng (by rw [hT]; rfl) hF1 hg00 (by rw [hT]; rfl) hth0 _ _ _ rfl rfl (fun cc AA hh => (rd0 (t := 4) hh rfl).trans (by rw [hT]; rfl)) (fun cc AA hh => (rd1 (t := 22) hh rfl).trans (by rw [hT]; rfl)) (IIx.out) (OX.out)
    case s6 => exact pl_store hng (by rw [hT]; rfl) hF2 hg01 (by rw [hT]; rfl) hth1 _ _ _ rfl rfl (fun cc AA hh => (rd0 (t := 5) hh rfl).trans (by rw [hT]; rfl)) (fun cc AA hh => (rd1 (t := 23) hh rfl).trans (by rw [hT]; rfl)) (IIy.out) (OY.out)
    case s7 => exact pm_assign (by rw [hT]; rfl) rfl _ rfl (fun cc AA hh => (rd0 (t := 26) hh rfl).trans (by rw [hT]; rfl))
  case fin =>
    intro cc NN w4 hC hN hap hgs
    have hB : Below wq6.heap.size ((wq6.setCells (w.heap.size + 1 + 1) (0) (cx)).setCells (w.heap.size + 1 + 1 + 1) (0) (cy)) w4 := by
      have h := hC.1
      rw [show lates T.tags = 2 from by rw [hT]; rfl, hF2, hF1, hF0] at h
      exact h
    rw [show putsAll T cc _ 0 _ = List.foldl (fun a x => Act.put a x.1 x.2) _ [(some 22, .agg (List.toArray (cx))), (some 23, .agg (List.toArray (cy))), (some 24, .int .i64 (okE (a + 1))), (some 25, .int .i64 (okE (b + 1))), (some 26, .int .i64 (max (okE (a + 1)) (okE (b + 1)))), (none, undef), (none, undef), (some 6, .int .i64 (max (okE (a + 1)) (okE (b + 1))))] from by rw [hT]; rfl]
    simp only [List.foldl_cons, List.foldl_nil, Act.put, List.setIfInBounds_toArray, List.set_cons_succ, List.set_cons_zero]
    clear hN hap hgs hng hT
    have A2 := HX3.out.below hB hlx
    have A3 := HY3.out.below hB hly
    have HBn := HBel.out.trans ((below_range (show w.heap.size ≤ w.heap.size + 1 + 1 + 1 by omega) cy 0 _ (below_range (show w.heap.size ≤ w.heap.size + 1 + 1 by omega) cx 0 _ (Below.refl w.heap.size wq6))).trans (hB.mono HBs.out))
    have HA2 := Lib.hid A2.1
    have HA3 := Lib.hid A3.1
    have HBf := Lib.hid HBn
    clear A2 A3 HBn hB hC
    go_wp2_with fail
    exact bodyPost_ret (v := .tuple #[.agg cx.toArray, .agg cy.toArray, .int .i64 (max (okE (a + 1)) (okE (b + 1)))]) (results_two_rows rfl _ _ (w.heap.size + 1 + 1) (w.heap.size + 1 + 1 + 1) cx cy _ _ _ rfl rfl rfl HA2.out HA3.out Try.underlying28 rfl IIx.out Try.underlying28 rfl IIy.out) rfl ⟨by rw [HXe.out, HYe.out, BNx.out, BNy.out], HBf.out⟩
end Go.Proofs.Ytchjjbklkmfelaa

/- share.Out: what all shares pay. -/
namespace Go.Proofs.Ytchjjbklkmfelaa
open Go.RowKit Go.Lib Go.Deep
set_option linter.unusedVariables false
set_option linter.unusedSimpArgs false

def newC2 (w : World) (c d : List Value) : World := (((w.alloc (obj4 0 0 0 0)).alloc (obj4 0 0 0 0)).setCells w.heap.size 0 c).setCells (w.heap.size + 1) 0 d
theorem new2_at (w : World) : At ((w.alloc (obj4 0 0 0 0)).alloc (obj4 0 0 0 0)) w.heap.size 0 (cells4L 0) ∧ At ((w.alloc (obj4 0 0 0 0)).alloc (obj4 0 0 0 0)) (w.heap.size + 1) 0 (cells4L 0) := by
  have h2 := Box.zero (w.alloc (obj4 0 0 0 0))
  rw [World.size_alloc] at h2
  exact ⟨box_at ((Box.zero w).alloc _), box_at h2⟩
theorem newC2_facts (w : World) {c d : List Value} (hc : c.length = 4) (hd : d.length = 4) : At (newC2 w c d) w.heap.size 0 c ∧ At (newC2 w c d) (w.heap.size + 1) 0 d ∧ Below w.heap.size w (newC2 w c d) ∧ (newC2 w c d).heap.size = w.heap.size + 2 := by
  obtain ⟨h1, h2⟩ := new2_at w
  refine ⟨(h1.cells c hc).apart (w.heap.size + 1) 0 d (.inl (by omega)), (h2.apart w.heap.size 0 c (.inl (by omega))).cells d hd, below_range (show w.heap.size ≤ w.heap.size + 1 by omega) d 0 _ (below_range (Nat.le_refl _) c 0 _ (((Below.refl _ _).alloc (Nat.le_refl _) _).alloc (by simp) _)), ?_⟩
  unfold newC2
  rw [cells_size, cells_size]
  simp
theorem there_new2a (w : World) {c : List Value} (hc : c.length = 4) : ((w.alloc (obj4 0 0 0 0)).alloc (obj4 0 0 0 0)).there w.heap.size 0 c.toArray.size := by
  show ((w.alloc (obj4 0 0 0 0)).alloc (obj4 0 0 0 0)).there w.heap.size 0 c.length
  rw [hc]
  exact (new2_at w).1.2
theorem there_new2b (w : World) {c d : List Value} (hc : c.length = 4) (hd : d.length = 4) : (((w.alloc (obj4 0 0 0 0)).alloc (obj4 0 0 0 0)).setCells w.heap.size 0 c).there (w.heap.size + 1) 0 d.toArray.size := by
  show (((w.alloc (obj4 0 0 0 0)).alloc (obj4 0 0 0 0)).setCells w.heap.size 0 c).there (w.heap.size + 1) 0 d.length
  rw [hd]
  exact ((new2_at w).2.apart w.heap.size 0 c (.inl (by omega))).2
theorem at_cells {w : World} {g o n : Nat} (h : At w g o (cells4L n)) : w.cell? ⟨g, o, none⟩ = some (.int .u64 (limb n 0)) ∧ w.cell? ⟨g, o + 1, none⟩ = some (.int .u64 (limb n 1)) ∧ w.cell? ⟨g, o + 2, none⟩ = some (.int .u64 (limb n 2)) ∧ w.cell? ⟨g, o + 3, none⟩ = some (.int .u64 (limb n 3)) :=
  ⟨h.1 0 _ rfl, h.1 1 _ rfl, h.1 2 _ rfl, h.1 3 _ rfl⟩
theorem at_free {w : World} {g o : Nat} {cs : List Value} (h : At w g o cs) (hl : cs.length = 4) : w.frozen? ⟨g, o, none⟩ = false ∧ w.frozen? ⟨g, o + 1, none⟩ = false ∧ w.frozen? ⟨g, o + 2, none⟩ = false ∧ w.frozen? ⟨g, o + 3, none⟩ = false :=
  ⟨(h.2 0 (by omega)).2, (h.2 1 (by omega)).2, (h.2 2 (by omega)).2, (h.2 3 (by omega)).2⟩
def outOk (A S : Nat) : Prop := A + 1 < 18446744073709551616 ^ 4 ∧ S + 1 < 18446744073709551616 ^ 4
theorem more_ok {A S : Nat} (h : outOk A S) : max (okE (A + 1)) (okE (S + 1)) = 0 ∧ kept (A + 1) = A + 1 ∧ kept (S + 1) = S + 1 := by
  obtain ⟨h1, h2⟩ := h
  unfold okE kept
  rw [if_pos h1, if_pos h2, if_pos h1, if_pos h2]
  exact ⟨rfl, rfl, rfl⟩
theorem more_bad {A S : Nat} (h : ¬ outOk A S) : max (okE (A + 1)) (okE (S + 1)) = 2 := by
  unfold outOk at h
  unfold okE
  split
  · rw [if_neg (by omega)]; rfl
  · split <;> rfl
theorem worth_le {A S : Nat} : S * (A + 1) / (S + 1) ≤ A := by
  have h : S * (A + 1) / (S + 1) < A + 1 := by
    apply Nat.div_lt_of_lt_mul
    exact Nat.mul_lt_mul_of_pos_right (by omega) (by omega)
  omega
theorem limbs_some {S : Nat} (hS : S < 18446744073709551616 ^ 4) (h : S ≠ 0) : ¬ (limb S 0 = 0 ∧ limb S 1 = 0 ∧ limb S 2 = 0 ∧ limb S 3 = 0) := fun ⟨h0, h1, h2, h3⟩ => h (limbs_zero hS h0 h1 h2 h3)
def outW (w : World) (a b d : Nat) : World := mdW w a b d

set_option maxHeartbeats 4000000 in
set_option maxRecDepth 100000 in
theorem out_calls (A S : Nat) (w : World) (hA : A < 18446744073709551616 ^ 4) (hS : S < 18446744073709551616 ^ 4) (hS0 : S ≠ 0) :
    Calls Try.prog 45 #[bigN A, bigN S, bigN S] w fun e w' => ((outOk A S → e = .returned (.tuple #[bigN (S * (A + 1) / (S + 1)), .int .i64 0])) ∧ (¬ outOk A S → e = .returned (.tuple #[bigN 0, .int .i64 2]))) ∧ Below w.heap.size w w' := by
  obtain ⟨F1, F2, F3, F4, hq, hsz⟩ := mdW_facts w A S S
  have hlz := limbs_some hS hS0
  obtain ⟨x, hx⟩ : ∃ x, kept (A + 1) = x := ⟨_, rfl⟩
  obtain ⟨y, hy⟩ : ∃ y, kept (S + 1) = y := ⟨_, rfl⟩
  have HXe := Lib.hid hx
  have HYe := Lib.hid hy
  have h1 := fun w => more2_calls A S w hA hS
  obtain ⟨E, hE⟩ : ∃ E, max (okE (A + 1)) (okE (S + 1)) = E := ⟨_, rfl⟩
  simp only [hx, hy, hE] at h1
  have HEe := Lib.hid hE
  have h2 := fun w => hcmp_calls S S w hS hS
  have hcs : cmpI S S = 0 := by unfold cmpI; simp
  rw [hcs] at h2
  obtain ⟨q, hqq⟩ : ∃ q, S * (A + 1) / (S + 1) = q := ⟨_, rfl⟩
  have h3 : outOk A S → ∀ w, Calls Try.prog 61 #[bigN S, bigN x, bigN y] w fun e w' => e = .returned (.tuple #[bigN q, .int .i64 0]) ∧ Below w.heap.size w w' := by
    intro ho w
    obtain ⟨-, e1, e2⟩ := more_ok ho
    rw [← hx, ← hy, e1, e2]
    have hm := muldiv_calls S (A + 1) (S + 1) w hS ho.1 ho.2 (by omega)
    have hle := worth_le (A := A) (S := S)
    rw [hqq] at hm hle
    rw [show kept q = q from if_pos (by omega), show okE q = 0 from if_pos (by omega)] at hm
    exact hm
  have hqA : q ≤ A := by rw [← hqq]; exact worth_le
  have h4 := fun w => hcmp_calls q A w (by omega) hA
  have hcq : decide (0 < cmpI q A) = false := by rw [cmpI_pos]; simp; omega
  have HCmq := Lib.hid hcq
  have HQe := Lib.hid hqq
  clear hx hy hE hcs hqA hcq hqq
  go_enter Try.func45, Try.ntmps45
  obtain ⟨W, hW⟩ : ∃ W, W = mdW w A S S := ⟨_, rfl⟩
  rw [← hW] at F1 F2 F3 F4 hq hsz
  unfold mdW row4 at hW
  have HA := Lib.hid (box_at F1)
  have HB := Lib.hid (box_at F2)
  have HS := Lib.hid (box_at F3)
  have HR := Lib.hid (box_at F4)
  have LA := Lib.hid F1.lt
  have LB := Lib.hid F2.lt
  have LS := Lib.hid F3.lt
  have LR := Lib.hid F4.lt
  have HBel := Lib.hid hq
  have HBs := Lib.hid hq.size
  clear F1 F2 F3 F4 hq hsz
  go_upto_region 1 with fail
  rw [← hW]
  clear hW
  obtain ⟨s0, s1, s2, s3⟩ := at_cells HS.out
  obtain ⟨cA, hc⟩ : ∃ c, cells4L (A) = c := ⟨_, rfl⟩
  have BNA : Hid (bigN (A) = .agg cA.toArray) := Lib.hid (by rw [← hc]; rfl)
  have IIA : Hid ((Try.prog.info? 28).map (·.size) = some cA.length) := Lib.hid (by rw [← hc]; exact int_info)
  have IAA : Hid ((Try.prog.info? 28).map (·.size) = some cA.toArray.size) := Lib.hid (by rw [← hc]; exact int_info)
  have OOA : Hid (cA.toArray.all (·.oneCell') = true) := Lib.hid (by rw [← hc]; exact all4 _)
  have LNA : Hid (cA.length = 4) := Lib.hid (by rw [← hc]; rfl)
  rw [hc] at HA
  have HCA := Lib.hid hc
  clear hc
  obtain ⟨cS, hc⟩ : ∃ c, cells4L (S) = c := ⟨_, rfl⟩
  have BNS : Hid (bigN (S) = .agg cS.toArray) := Lib.hid (by rw [← hc]; rfl)
  have IIS : Hid ((Try.prog.info? 28).map (·.size) = some cS.length) := Lib.hid (by rw [← hc]; exact int_info)
  have IAS : Hid ((Try.prog.info? 28).map (·.size) = some cS.toArray.size) := Lib.hid (by rw [← hc]; exact int_info)
  have OOS : Hid (cS.toArray.all (·.oneCell') = true) := Lib.hid (by rw [← hc]; exact all4 _)
  have LNS : Hid (cS.length = 4) := Lib.hid (by rw [← hc]; rfl)
  rw [hc] at HB
  rw [hc] at HS
  have HCS := Lib.hid hc
  clear hc
  obtain ⟨c0, hc⟩ : ∃ c, cells4L (0) = c := ⟨_, rfl⟩
  have BN0 : Hid (bigN (0) = .agg c0.toArray) := Lib.hid (by rw [← hc]; rfl)
  have II0 : Hid ((Try.prog.info? 28).map (·.size) = some c0.length) := Lib.hid (by rw [← hc]; exact int_info)
  have IA0 : Hid ((Try.prog.info? 28).map (·.size) = some c0.toArray.size) := Lib.hid (by rw [← hc]; exact int_info)
  have OO0 : Hid (c0.toArray.all (·.oneCell') = true) := Lib.hid (by rw [← hc]; exact all4 _)
  have LN0 : Hid (c0.length = 4) := Lib.hid (by rw [← hc]; rfl)
  rw [hc] at HR
  have HC0 := Lib.hid hc
  clear hc
  obtain ⟨cx, hc⟩ : ∃ c, cells4L (x) = c := ⟨_, rfl⟩
  have BNx : Hid (bigN (x) = .agg cx.toArray) := Lib.hid (by rw [← hc]; rfl)
  have IIx : Hid ((Try.prog.info? 28).map (·.size) = some cx.length) := Lib.hid (by rw [← hc]; exact int_info)
  have IAx : Hid ((Try.prog.info? 28).map (·.size) = some cx.toArray.size) := Lib.hid (by rw [← hc]; exact int_info)
  have OOx : Hid (cx.toArray.all (·.oneCell') = true) := Lib.hid (by rw [← hc]; exact all4 _)
  have LNx : Hid (cx.length = 4) := Lib.hid (by rw [← hc]; rfl)
  have HCx := Lib.hid hc
  clear hc
  obtain ⟨cy, hc⟩ : ∃ c, cells4L (y) = c := ⟨_, rfl⟩
  have BNy : Hid (bigN (y) = .agg cy.toArray) := Lib.hid (by rw [← hc]; rfl)
  have IIy : Hid ((Try.prog.info? 28).map (·.size) = some cy.length) := Lib.hid (by rw [← hc]; exact int_info)
  have IAy : Hid ((Try.prog.info? 28).map (·.size) = some cy.toArray.size) := Lib.hid (by rw [← hc]; exact int_info)
  have OOy : Hid (cy.toArray.all (·.oneCell') = true) := Lib.hid (by rw [← hc]; exact all4 _)
  have LNy : Hid (cy.length = 4) := Lib.hid (by rw [← hc]; rfl)
  have HCy := Lib.hid hc
  clear hc
  obtain ⟨cq, hc⟩ : ∃ c, cells4L (q) = c := ⟨_, rfl⟩
  have BNq : Hid (bigN (q) = .agg cq.toArray) := Lib.hid (by rw [← hc]; rfl)
  have IIq : Hid ((Try.prog.info? 28).map (·.size) = some cq.length) := Lib.hid (by rw [← hc]; exact int_info)
  have IAq : Hid ((Try.prog.info? 28).map (·.size) = some cq.toArray.size) := Lib.hid (by rw [← hc]; exact int_info)
  have OOq : Hid (cq.toArray.all (·.oneCell') = true) := Lib.hid (by rw [← hc]; exact all4 _)
  have LNq : Hid (cq.length = 4) := Lib.hid (by rw [← hc]; rfl)
  have HCq := Lib.hid hc
  clear hc
  simp only [BNA.out, BNS.out, BNx.out, BNy.out, BNq.out] at h1 h2 h3 h4
  have HMore := Lib.hid h1
  have HCmp := Lib.hid h2
  have HMul := Lib.hid h3
  have HCmp2 := Lib.hid h4
  clear h1 h2 h3 h4
  go_upto_region 3 with fail
  clear hlz s0 s1 s2 s3
  go_wp2_with (first | refine wpList_load_mid rfl 28 _ rfl (w.heap.size + 1 + 1) 0 rfl cS _ HS.out.1 Try.underlying28 rfl IIS.out ?_ | refine wpList_load_mid rfl 28 _ rfl (w.heap.size + 1) 0 rfl cS _ HB.out.1 Try.underlying28 rfl IIS.out ?_)
  refine (HCmp.out _).mono ?_
  rintro e wq1 ⟨rfl, hb1⟩
  replace HA := Lib.hid (HA.out.below hb1 LA.out)
  replace LA := Lib.hid (Nat.lt_of_lt_of_le LA.out hb1.size)
  replace HB := Lib.hid (HB.out.below hb1 LB.out)
  replace LB := Lib.hid (Nat.lt_of_lt_of_le LB.out hb1.size)
  replace HS := Lib.hid (HS.out.below hb1 LS.out)
  replace LS := Lib.hid (Nat.lt_of_lt_of_le LS.out hb1.size)
  replace HR := Lib.hid (HR.out.below hb1 LR.out)
  replace LR := Lib.hid (Nat.lt_of_lt_of_le LR.out hb1.size)
  replace HBel := Lib.hid (HBel.out.trans (hb1.mono HBs.out))
  replace HBs := Lib.hid (Nat.le_trans HBs.out hb1.size)
  clear hb1
  go_upto_region 5 with fail
  go_wp2_with (first | refine wpList_load_mid rfl 28 _ rfl (w.heap.size) 0 rfl cA _ HA.out.1 Try.underlying28 rfl IIA.out ?_ | refine wpList_load_mid rfl 28 _ rfl (w.heap.size + 1) 0 rfl cS _ HB.out.1 Try.underlying28 rfl IIS.out ?_)
  refine (HMore.out _).mono ?_
  rintro e wq2 ⟨rfl, hb2⟩
  replace HA := Lib.hid (HA.out.below hb2 LA.out)
  replace LA := Lib.hid (Nat.lt_of_lt_of_le LA.out hb2.size)
  replace HB := Lib.hid (HB.out.below hb2 LB.out)
  replace LB := Lib.hid (Nat.lt_of_lt_of_le LB.out hb2.size)
  replace HS := Lib.hid (HS.out.below hb2 LS.out)
  replace LS := Lib.hid (Nat.lt_of_lt_of_le LS.out hb2.size)
  replace HR := Lib.hid (HR.out.below hb2 LR.out)
  replace LR := Lib.hid (Nat.lt_of_lt_of_le LR.out hb2.size)
  replace HBel := Lib.hid (HBel.out.trans (hb2.mono HBs.out))
  replace HBs := Lib.hid (Nat.le_trans HBs.out hb2.size)
  clear hb2
  have HT : Hid (((wq2.alloc (obj4 0 0 0 0)).alloc (obj4 0 0 0 0)).there wq2.heap.size 0 cx.toArray.size) := Lib.hid (there_new2a wq2 LNx.out)
  have HT2 : Hid ((((wq2.alloc (obj4 0 0 0 0)).alloc (obj4 0 0 0 0)).setCells wq2.heap.size 0 cx).there (wq2.heap.size + 1) 0 cy.toArray.size) := Lib.hid (there_new2b wq2 LNx.out LNy.out)
  go_upto_region 6 with (first | refine wpList_store_mid rfl 28 _ _ rfl wq2.heap.size 0 cx.toArray rfl rfl HT.out IAx.out OOx.out ?_ | refine wpList_store_mid rfl 28 _ _ rfl (wq2.heap.size + 1) 0 cy.toArray rfl rfl HT2.out IAy.out OOy.out ?_)
  have EA_X := Lib.hid (Nat.ne_of_lt LA.out)
  have EA_Y := Lib.hid (Nat.ne_of_lt (Nat.lt_succ_of_lt LA.out))
  have EB_X := Lib.hid (Nat.ne_of_lt LB.out)
  have EB_Y := Lib.hid (Nat.ne_of_lt (Nat.lt_succ_of_lt LB.out))
  have ES_X := Lib.hid (Nat.ne_of_lt LS.out)
  have ES_Y := Lib.hid (Nat.ne_of_lt (Nat.lt_succ_of_lt LS.out))
  have ER_X := Lib.hid (Nat.ne_of_lt LR.out)
  have ER_Y := Lib.hid (Nat.ne_of_lt (Nat.lt_succ_of_lt LR.out))
  have EX_Y : Hid (wq2.heap.size ≠ wq2.heap.size + 1) := Lib.hid (by omega)
  have GX := Lib.hid HBs.out
  have GY := Lib.hid (Nat.le_succ_of_le HBs.out)
  obtain ⟨N1, N1b, N2, N3⟩ := newC2_facts wq2 LNx.out LNy.out
  obtain ⟨wq3, hW⟩ : ∃ W2, W2 = newC2 wq2 cx cy := ⟨_, rfl⟩
  rw [← hW] at N1 N1b N2 N3
  replace HA := Lib.hid (HA.out.below N2 LA.out)
  replace LA := Lib.hid (Nat.lt_of_lt_of_le LA.out N2.size)
  replace HB := Lib.hid (HB.out.below N2 LB.out)
  replace LB := Lib.hid (Nat.lt_of_lt_of_le LB.out N2.size)
  replace HS := Lib.hid (HS.out.below N2 LS.out)
  replace LS := Lib.hid (Nat.lt_of_lt_of_le LS.out N2.size)
  replace HR := Lib.hid (HR.out.below N2 LR.out)
  replace LR := Lib.hid (Nat.lt_of_lt_of_le LR.out N2.size)
  replace HBel := Lib.hid (HBel.out.trans (N2.mono HBs.out))
  replace HBs := Lib.hid (Nat.le_trans HBs.out N2.size)
  have LX : Hid (wq2.heap.size < wq3.heap.size) := Lib.hid (by rw [N3]; omega)
  have HX := Lib.hid N1
  have LY : Hid (wq2.heap.size + 1 < wq3.heap.size) := Lib.hid (by rw [N3]; omega)
  have HY := Lib.hid N1b
  unfold newC2 at hW
  rw [← hW]
  clear hW N1 N1b N2 N3 HT HT2
  by_cases ho : outOk A S
  · have hE0 : E = 0 := HEe.out ▸ (more_ok ho).1
    subst hE0
    have HM2 := Lib.hid (HMul.out ho)
    have HO := Lib.hid ho
    clear ho
    go_upto_region 8 with fail
    go_wp2_with (first | refine wpList_load_mid rfl 28 _ rfl (w.heap.size + 1 + 1) 0 rfl cS _ HS.out.1 Try.underlying28 rfl IIS.out ?_ | refine wpList_load_mid rfl 28 _ rfl (wq2.heap.size) 0 rfl cx _ HX.out.1 Try.underlying28 rfl IIx.out ?_ | refine wpList_load_mid rfl 28 _ rfl (wq2.heap.size + 1) 0 rfl cy _ HY.out.1 Try.underlying28 rfl IIy.out ?_)
    refine (HM2.out _).mono ?_
    rintro e wq4 ⟨rfl, hb4⟩
    replace HA := Lib.hid (HA.out.below hb4 LA.out)
    replace LA := Lib.hid (Nat.lt_of_lt_of_le LA.out hb4.size)
    replace HB := Lib.hid (HB.out.below hb4 LB.out)
    replace LB := Lib.hid (Nat.lt_of_lt_of_le LB.out hb4.size)
    replace HS := Lib.hid (HS.out.below hb4 LS.out)
    replace LS := Lib.hid (Nat.lt_of_lt_of_le LS.out hb4.size)
    replace HR := Lib.hid (HR.out.below hb4 LR.out)
    replace LR := Lib.hid (Nat.lt_of_lt_of_le LR.out hb4.size)
    replace HX := Lib.hid (HX.out.below hb4 LX.out)
    replace LX := Lib.hid (Nat.lt_of_lt_of_le LX.out hb4.size)
    replace HY := Lib.hid (HY.out.below hb4 LY.out)
    replace LY := Lib.hid (Nat.lt_of_lt_of_le LY.out hb4.size)
    replace HBel := Lib.hid (HBel.out.trans (hb4.mono HBs.out))
    replace HBs := Lib.hid (Nat.le_trans HBs.out hb4.size)
    clear hb4
    have HT : Hid ((wq4.alloc (obj4 0 0 0 0)).there wq4.heap.size 0 cq.toArray.size) := Lib.hid (there_newC wq4 LNq.out)
    go_upto_region 11 with (first | refine wpList_store_mid rfl 28 _ _ rfl wq4.heap.size 0 cq.toArray rfl rfl HT.out IAq.out OOq.out ?_)
    have EA_Q := Lib.hid (Nat.ne_of_lt LA.out)
    have EB_Q := Lib.hid (Nat.ne_of_lt LB.out)
    have ES_Q := Lib.hid (Nat.ne_of_lt LS.out)
    have ER_Q := Lib.hid (Nat.ne_of_lt LR.out)
    have EX_Q := Lib.hid (Nat.ne_of_lt LX.out)
    have EY_Q := Lib.hid (Nat.ne_of_lt LY.out)
    have GQ := Lib.hid HBs.out
    obtain ⟨N1, N2, N3⟩ := newC_facts wq4 LNq.out
    obtain ⟨wq5, hW⟩ : ∃ W2, W2 = newC wq4 cq := ⟨_, rfl⟩
    rw [← hW] at N1 N2 N3
    replace HA := Lib.hid (HA.out.below N2 LA.out)
    replace LA := Lib.hid (Nat.lt_of_lt_of_le LA.out N2.size)
    replace HB := Lib.hid (HB.out.below N2 LB.out)
    replace LB := Lib.hid (Nat.lt_of_lt_of_le LB.out N2.size)
    replace HS := Lib.hid (HS.out.below N2 LS.out)
    replace LS := Lib.hid (Nat.lt_of_lt_of_le LS.out N2.size)
    replace HR := Lib.hid (HR.out.below N2 LR.out)
    replace LR := Lib.hid (Nat.lt_of_lt_of_le LR.out N2.size)
    replace HX := Lib.hid (HX.out.below N2 LX.out)
    replace LX := Lib.hid (Nat.lt_of_lt_of_le LX.out N2.size)
    replace HY := Lib.hid (HY.out.below N2 LY.out)
    replace LY := Lib.hid (Nat.lt_of_lt_of_le LY.out N2.size)
    replace HBel := Lib.hid (HBel.out.trans (N2.mono HBs.out))
    replace HBs := Lib.hid (Nat.le_trans HBs.out N2.size)
    have LQ : Hid (wq4.heap.size < wq5.heap.size) := Lib.hid (by rw [N3]; omega)
    have HQ := Lib.hid N1
    unfold newC at hW
    rw [← hW]
    clear hW N1 N2 N3 HT
    go_wp2_with (first | refine wpList_load_mid rfl 28 _ rfl (wq4.heap.size) 0 rfl cq _ HQ.out.1 Try.underlying28 rfl IIq.out ?_ | refine wpList_load_mid rfl 28 _ rfl (w.heap.size) 0 rfl cA _ HA.out.1 Try.underlying28 rfl IIA.out ?_)
    refine (HCmp2.out _).mono ?_
    rintro e wq6 ⟨rfl, hb6⟩
    replace HA := Lib.hid (HA.out.below hb6 LA.out)
    replace LA := Lib.hid (Nat.lt_of_lt_of_le LA.out hb6.size)
    replace HB := Lib.hid (HB.out.below hb6 LB.out)
    replace LB := Lib.hid (Nat.lt_of_lt_of_le LB.out hb6.size)
    replace HS := Lib.hid (HS.out.below hb6 LS.out)
    replace LS := Lib.hid (Nat.lt_of_lt_of_le LS.out hb6.size)
    replace HR := Lib.hid (HR.out.below hb6 LR.out)
    replace LR := Lib.hid (Nat.lt_of_lt_of_le LR.out hb6.size)
    replace HX := Lib.hid (HX.out.below hb6 LX.out)
    replace LX := Lib.hid (Nat.lt_of_lt_of_le LX.out hb6.size)
    replace HY := Lib.hid (HY.out.below hb6 LY.out)
    replace LY := Lib.hid (Nat.lt_of_lt_of_le LY.out hb6.size)
    replace HQ := Lib.hid (HQ.out.below hb6 LQ.out)
    replace LQ := Lib.hid (Nat.lt_of_lt_of_le LQ.out hb6.size)
    replace HBel := Lib.hid (HBel.out.trans (hb6.mono HBs.out))
    replace HBs := Lib.hid (Nat.le_trans HBs.out hb6.size)
    clear hb6
    have hgt : ¬ (0 < cmpI q A) := of_decide_eq_false HCmq.out
    have HT : Hid (wq6.there (w.heap.size + 1 + 1 + 1) 0 cq.toArray.size) := Lib.hid (show wq6.there (w.heap.size + 1 + 1 + 1) 0 cq.length by rw [LNq.out, ← LN0.out]; exact HR.out.2)
    have HRq := Lib.hid (HR.out.cells cq (LNq.out.trans LN0.out.symm)).1
    have HBf := Lib.hid (below_range (show w.heap.size ≤ w.heap.size + 1 + 1 + 1 by omega) cq 0 _ HBel.out)
    go_wp2_with (first | refine wpList_load_mid rfl 28 _ rfl (wq4.heap.size) 0 rfl cq _ HQ.out.1 Try.underlying28 rfl IIq.out ?_ | refine wpList_store_mid rfl 28 _ _ rfl (w.heap.size + 1 + 1 + 1) 0 cq.toArray rfl rfl HT.out IAq.out OOq.out ?_)
    exact bodyPost_ret (v := .tuple #[.agg cq.toArray, .int .i64 0]) (results_row_tmp rfl _ _ (w.heap.size + 1 + 1 + 1) cq _ _ rfl rfl HRq.out Try.underlying28 rfl IIq.out) rfl ⟨⟨fun _ => by rw [HQe.out, BNq.out], fun h => absurd HO.out h⟩, HBf.out⟩
  · have hE0 : E = 2 := HEe.out ▸ more_bad ho
    subst hE0
    have HO := Lib.hid ho
    clear ho
    have hfr := at_free HR.out LN0.out
    obtain ⟨f0, f1, f2, f3⟩ := hfr
    have hc0 := HC0.out
    have hcr := HR.out
    rw [← hc0] at hcr
    obtain ⟨r0, r1, r2, r3⟩ := at_cells hcr
    clear hc0 hcr
    simp only [limb_zero] at r0 r1 r2 r3
    have lt1 := LR.out
    go_wp2_with fail
    exact bodyPost_ret (v := .tuple #[big 0 0 0 0, .int .i64 2]) (by simp [results, Try.results45, go_sem, r0, r1, r2, r3, lt1, big]) rfl ⟨⟨fun h => absurd h HO.out, fun _ => by rw [bigN_zero]⟩, below_store HBel.out (show w.heap.size ≤ w.heap.size + 1 + 1 + 1 by omega) 0 0 0 0⟩
end Go.Proofs.Ytchjjbklkmfelaa

/- audit.Margin: what there is beyond what all shares would pay. -/
namespace Go.Proofs.Ytchjjbklkmfelaa
open Go.RowKit Go.Lib Go.Deep
set_option linter.unusedVariables false
set_option linter.unusedSimpArgs false

instance (A S : Nat) : Decidable (outOk A S) := inferInstanceAs (Decidable (_ ∧ _))
def margB (T S : Nat) : Bool := decide (T < 18446744073709551616 ^ 4) && (decide (S = 0) || decide (outOk T S))
def margN (T S : Nat) : Nat := if T < 18446744073709551616 ^ 4 then if S = 0 then T else if outOk T S then T - S * (T + 1) / (S + 1) else 0 else 0
abbrev stK : Kinds := List.replicate 16 (some .u64)
theorem diff_of {a b : Nat} (h : b ≤ a) : diffV a b = .tuple #[bigN (a - b), .int .i64 0] := if_pos h
theorem sum_ok {n : Nat} (h : n < 18446744073709551616 ^ 4) : sumV n = .tuple #[bigN n, .int .i64 0] := if_pos h
theorem sum_bad {n : Nat} (h : ¬ n < 18446744073709551616 ^ 4) : sumV n = .tuple #[bigN 0, .int .i64 2] := if_neg h
theorem below_zero4 {B : Nat} {a w : World} (h : Below B a w) {g : Nat} (hg : B ≤ g) : Below B a (store4 w g 0 0 0 0) := below_store h hg 0 0 0 0

set_option maxHeartbeats 4000000 in
set_option maxRecDepth 100000 in
theorem margin_calls (cs : List Value) (w : World) (hcs : Typed stK cs) :
    Calls Try.prog 28 #[.agg cs.toArray] w fun e w' => e = .returned (.tuple #[bigN (margN (numAt cs 0 + numAt cs 4) (numAt cs 12)), .bool (margB (numAt cs 0 + numAt cs 4) (numAt cs 12))]) ∧ Below w.heap.size w w' := by
  have hlen : cs.length = 16 := by rw [hcs.length]; rfl
  obtain ⟨hC, hCl⟩ := pic_cells hcs 0 (by omega)
  obtain ⟨hD, hDl⟩ := pic_cells hcs 4 (by omega)
  obtain ⟨hS, hSl⟩ := pic_cells hcs 12 (by omega)
  have A0 := At.new w cs.toArray 43
  have P0 := A0.part 0 4 (by simp; omega)
  have P4 := A0.part 4 4 (by simp; omega)
  have P12 := A0.part 12 4 (by simp; omega)
  simp only [List.toList_toArray, Nat.zero_add] at P0 P4 P12
  rw [hC] at P0
  rw [hD] at P4
  rw [hS] at P12
  obtain ⟨C, hCe⟩ : ∃ C, numAt cs 0 = C := ⟨_, rfl⟩
  obtain ⟨D, hDe⟩ : ∃ D, numAt cs 4 = D := ⟨_, rfl⟩
  obtain ⟨S, hSe⟩ : ∃ S, numAt cs 12 = S := ⟨_, rfl⟩
  rw [hCe] at hCl P0
  rw [hDe] at hDl P4
  rw [hSe] at hSl P12
  rw [hCe, hDe, hSe]
  clear A0 hC hD hS hcs hlen hCe hDe hSe
  have h1 := fun w => hadd_calls C D w hCl hDl
  obtain ⟨T, hT⟩ : ∃ T, C + D = T := ⟨_, rfl⟩
  rw [hT] at h1 ⊢
  clear hT
  obtain ⟨q, hqq⟩ : ∃ q, S * (T + 1) / (S + 1) = q := ⟨_, rfl⟩
  have hqT : q ≤ T := by rw [← hqq]; exact worth_le
  have hlz := fun (h : S ≠ 0) => limbs_some hSl h
  have HLz := Lib.hid hlz
  have h2 : T < 18446744073709551616 ^ 4 → S ≠ 0 → outOk T S → ∀ w, Calls Try.prog 45 #[bigN T, bigN S, bigN S] w fun e w' => e = .returned (.tuple #[bigN q, .int .i64 0]) ∧ Below w.heap.size w w' := fun hT hS ho w => by
    refine (out_calls T S w hT hSl hS).mono ?_
    rintro e w' ⟨⟨h, -⟩, hb⟩
    exact ⟨by rw [h ho, hqq], hb⟩
  have h3 : T < 18446744073709551616 ^ 4 → S ≠ 0 → ¬ outOk T S → ∀ w, Calls Try.prog 45 #[bigN T, bigN S, bigN S] w fun e w' => e = .returned (.tuple #[bigN 0, .int .i64 2]) ∧ Below w.heap.size w w' := fun hT hS ho w => by
    refine (out_calls T S w hT hSl hS).mono ?_
    rintro e w' ⟨⟨-, h⟩, hb⟩
    exact ⟨h ho, hb⟩
  have h4 : T < 18446744073709551616 ^ 4 → ∀ w, Calls Try.prog 24 #[bigN T, bigN q] w fun e w' => e = .returned (.tuple #[bigN (T - q), .int .i64 0]) ∧ Below w.heap.size w w' := fun hT w => by
    have h := hsub_calls T q w hT (by omega)
    rw [diff_of hqT] at h
    exact h
  obtain ⟨r, hr⟩ : ∃ r, T - q = r := ⟨_, rfl⟩
  rw [hr] at h4
  have HQe := Lib.hid hqq
  have HRe := Lib.hid hr
  clear hqq hqT hr hlz hCl hDl hSl
  go_enter Try.func28, Try.ntmps28
  have B0 := Box.zero (w.alloc (.cells cs.toArray 43))
  have hq : Below w.heap.size w ((w.alloc (.cells cs.toArray 43)).alloc (obj4 0 0 0 0)) := ((Below.refl _ _).alloc (Nat.le_refl _) _).alloc (by simp) _
  have P0' := P0.alloc (obj4 0 0 0 0)
  have P4' := P4.alloc (obj4 0 0 0 0)
  have P12' := P12.alloc (obj4 0 0 0 0)
  simp only [World.size_alloc] at B0
  obtain ⟨W, hW⟩ : ∃ W, W = (w.alloc (.cells cs.toArray 43)).alloc (obj4 0 0 0 0) := ⟨_, rfl⟩
  have hsz : W.heap.size = w.heap.size + 2 := by rw [hW]; simp
  rw [← hW] at B0 hq P0' P4' P12'
  clear P0 P4 P12
  have HC := Lib.hid P0'
  have HD := Lib.hid P4'
  have HS := Lib.hid P12'
  have HR := Lib.hid (box_at B0)
  have LC : Hid (w.heap.size < W.heap.size) := Lib.hid (by omega)
  have LD := LC
  have LS := LC
  have LR := Lib.hid B0.lt
  have HBel := Lib.hid hq
  have HBs := Lib.hid hq.size
  clear B0 hq P0' P4' P12' hsz
  go_upto_region 1 with fail
  rw [← hW]
  clear hW
  obtain ⟨cC, hc⟩ : ∃ c, cells4L (C) = c := ⟨_, rfl⟩
  have BNC : Hid (bigN (C) = .agg cC.toArray) := Lib.hid (by rw [← hc]; rfl)
  have IIC : Hid ((Try.prog.info? 28).map (·.size) = some cC.length) := Lib.hid (by rw [← hc]; exact int_info)
  have IAC : Hid ((Try.prog.info? 28).map (·.size) = some cC.toArray.size) := Lib.hid (by rw [← hc]; exact int_info)
  have OOC : Hid (cC.toArray.all (·.oneCell') = true) := Lib.hid (by rw [← hc]; exact all4 _)
  have LNC : Hid (cC.length = 4) := Lib.hid (by rw [← hc]; rfl)
  rw [hc] at HC
  have HCC := Lib.hid hc
  clear hc
  obtain ⟨cD, hc⟩ : ∃ c, cells4L (D) = c := ⟨_, rfl⟩
  have BND : Hid (bigN (D) = .agg cD.toArray) := Lib.hid (by rw [← hc]; rfl)
  have IID : Hid ((Try.prog.info? 28).map (·.size) = some cD.length) := Lib.hid (by rw [← hc]; exact int_info)
  have IAD : Hid ((Try.prog.info? 28).map (·.size) = some cD.toArray.size) := Lib.hid (by rw [← hc]; exact int_info)
  have OOD : Hid (cD.toArray.all (·.oneCell') = true) := Lib.hid (by rw [← hc]; exact all4 _)
  have LND : Hid (cD.length = 4) := Lib.hid (by rw [← hc]; rfl)
  rw [hc] at HD
  have HCD := Lib.hid hc
  clear hc
  obtain ⟨cS, hc⟩ : ∃ c, cells4L (S) = c := ⟨_, rfl⟩
  have BNS : Hid (bigN (S) = .agg cS.toArray) := Lib.hid (by rw [← hc]; rfl)
  have IIS : Hid ((Try.prog.info? 28).map (·.size) = some cS.length) := Lib.hid (by rw [← hc]; exact int_info)
  have IAS : Hid ((Try.prog.info? 28).map (·.size) = some cS.toArray.size) := Lib.hid (by rw [← hc]; exact int_info)
  have OOS : Hid (cS.toArray.all (·.oneCell') = true) := Lib.hid (by rw [← hc]; exact all4 _)
  have LNS : Hid (cS.length = 4) := Lib.hid (by rw [← hc]; rfl)
  rw [hc] at HS
  have HCS := Lib.hid hc
  clear hc
  obtain ⟨c0, hc⟩ : ∃ c, cells4L (0) = c := ⟨_, rfl⟩
  have BN0 : Hid (bigN (0) = .agg c0.toArray) := Lib.hid (by rw [← hc]; rfl)
  have II0 : Hid ((Try.prog.info? 28).map (·.size) = some c0.length) := Lib.hid (by rw [← hc]; exact int_info)
  have IA0 : Hid ((Try.prog.info? 28).map (·.size) = some c0.toArray.size) := Lib.hid (by rw [← hc]; exact int_info)
  have OO0 : Hid (c0.toArray.all (·.oneCell') = true) := Lib.hid (by rw [← hc]; exact all4 _)
  have LN0 : Hid (c0.length = 4) := Lib.hid (by rw [← hc]; rfl)
  rw [hc] at HR
  have HC0 := Lib.hid hc
  clear hc
  obtain ⟨cT, hc⟩ : ∃ c, cells4L (T) = c := ⟨_, rfl⟩
  have BNT : Hid (bigN (T) = .agg cT.toArray) := Lib.hid (by rw [← hc]; rfl)
  have IIT : Hid ((Try.prog.info? 28).map (·.size) = some cT.length) := Lib.hid (by rw [← hc]; exact int_info)
  have IAT : Hid ((Try.prog.info? 28).map (·.size) = some cT.toArray.size) := Lib.hid (by rw [← hc]; exact int_info)
  have OOT : Hid (cT.toArray.all (·.oneCell') = true) := Lib.hid (by rw [← hc]; exact all4 _)
  have LNT : Hid (cT.length = 4) := Lib.hid (by rw [← hc]; rfl)
  have HCT := Lib.hid hc
  clear hc
  obtain ⟨cq, hc⟩ : ∃ c, cells4L (q) = c := ⟨_, rfl⟩
  have BNq : Hid (bigN (q) = .agg cq.toArray) := Lib.hid (by rw [← hc]; rfl)
  have IIq : Hid ((Try.prog.info? 28).map (·.size) = some cq.length) := Lib.hid (by rw [← hc]; exact int_info)
  have IAq : Hid ((Try.prog.info? 28).map (·.size) = some cq.toArray.size) := Lib.hid (by rw [← hc]; exact int_info)
  have OOq : Hid (cq.toArray.all (·.oneCell') = true) := Lib.hid (by rw [← hc]; exact all4 _)
  have LNq : Hid (cq.length = 4) := Lib.hid (by rw [← hc]; rfl)
  have HCq := Lib.hid hc
  clear hc
  obtain ⟨cr, hc⟩ : ∃ c, cells4L (r) = c := ⟨_, rfl⟩
  have BNr : Hid (bigN (r) = .agg cr.toArray) := Lib.hid (by rw [← hc]; rfl)
  have IIr : Hid ((Try.prog.info? 28).map (·.size) = some cr.length) := Lib.hid (by rw [← hc]; exact int_info)
  have IAr : Hid ((Try.prog.info? 28).map (·.size) = some cr.toArray.size) := Lib.hid (by rw [← hc]; exact int_info)
  have OOr : Hid (cr.toArray.all (·.oneCell') = true) := Lib.hid (by rw [← hc]; exact all4 _)
  have LNr : Hid (cr.length = 4) := Lib.hid (by rw [← hc]; rfl)
  have HCr := Lib.hid hc
  clear hc
  simp only [BNC.out, BND.out] at h1
  simp only [BNT.out, BNS.out, BNq.out, BNr.out, BN0.out] at h2 h3 h4
  have HOut := Lib.hid h2
  have HOut2 := Lib.hid h3
  have HSub := Lib.hid h4
  clear h2 h3 h4
  by_cases hT : T < 18446744073709551616 ^ 4
  · simp only [sum_ok hT, BNT.out] at h1
    have HAdd := Lib.hid h1
    clear h1
    have HT4 := Lib.hid hT
    clear hT
    go_wp2_with (first | refine wpList_load_mid rfl 28 _ rfl (w.heap.size) 0 rfl cC _ HC.out.1 Try.underlying28 rfl IIC.out ?_ | refine wpList_load_mid rfl 28 _ rfl (w.heap.size) 4 rfl cD _ HD.out.1 Try.underlying28 rfl IID.out ?_)
    refine (HAdd.out _).mono ?_
    rintro e wq1 ⟨rfl, hb1⟩
    replace HC := Lib.hid (HC.out.below hb1 LC.out)
    replace LC := Lib.hid (Nat.lt_of_lt_of_le LC.out hb1.size)
    replace HD := Lib.hid (HD.out.below hb1 LD.out)
    replace LD := Lib.hid (Nat.lt_of_lt_of_le LD.out hb1.size)
    replace HS := Lib.hid (HS.out.below hb1 LS.out)
    replace LS := Lib.hid (Nat.lt_of_lt_of_le LS.out hb1.size)
    replace HR := Lib.hid (HR.out.below hb1 LR.out)
    replace LR := Lib.hid (Nat.lt_of_lt_of_le LR.out hb1.size)
    replace HBel := Lib.hid (HBel.out.trans (hb1.mono HBs.out))
    replace HBs := Lib.hid (Nat.le_trans HBs.out hb1.size)
    clear hb1
    have HT : Hid ((wq1.alloc (obj4 0 0 0 0)).there wq1.heap.size 0 cT.toArray.size) := Lib.hid (there_newC wq1 LNT.out)
    go_upto_region 4 with (first | refine wpList_store_mid rfl 28 _ _ rfl wq1.heap.size 0 cT.toArray rfl rfl HT.out IAT.out OOT.out ?_)
    have EC_U := Lib.hid (Nat.ne_of_lt LC.out)
    have ED_U := Lib.hid (Nat.ne_of_lt LD.out)
    have ES_U := Lib.hid (Nat.ne_of_lt LS.out)
    have ER_U := Lib.hid (Nat.ne_of_lt LR.out)
    have GU := Lib.hid HBs.out
    obtain ⟨N1, N2, N3⟩ := newC_facts wq1 LNT.out
    obtain ⟨wq2, hW⟩ : ∃ W2, W2 = newC wq1 cT := ⟨_, rfl⟩
    rw [← hW] at N1 N2 N3
    replace HC := Lib.hid (HC.out.below N2 LC.out)
    replace LC := Lib.hid (Nat.lt_of_lt_of_le LC.out N2.size)
    replace HD := Lib.hid (HD.out.below N2 LD.out)
    replace LD := Lib.hid (Nat.lt_of_lt_of_le LD.out N2.size)
    replace HS := Lib.hid (HS.out.below N2 LS.out)
    replace LS := Lib.hid (Nat.lt_of_lt_of_le LS.out N2.size)
    replace HR := Lib.hid (HR.out.below N2 LR.out)
    replace LR := Lib.hid (Nat.lt_of_lt_of_le LR.out N2.size)
    replace HBel := Lib.hid (HBel.out.trans (N2.mono HBs.out))
    replace HBs := Lib.hid (Nat.le_trans HBs.out N2.size)
    have LU : Hid (wq1.heap.size < wq2.heap.size) := Lib.hid (by rw [N3]; omega)
    have HU := Lib.hid N1
    unfold newC at hW
    rw [← hW]
    clear hW N1 N2 N3 HT
    have hcs := HS.out
    rw [← HCS.out] at hcs
    obtain ⟨s0, s1, s2, s3⟩ := at_cells hcs
    clear hcs
    simp only [Nat.reduceAdd] at s1 s2 s3
    by_cases hS : S = 0
    · have HSe := Lib.hid hS
      rw [hS] at s0 s1 s2 s3
      clear hS
      simp only [limb_zero] at s0 s1 s2 s3
      go_upto_region 5 with fail
      clear s0 s1 s2 s3
      have HT : Hid (wq2.there (w.heap.size + 1) 0 cT.toArray.size) := Lib.hid (show wq2.there (w.heap.size + 1) 0 cT.length by rw [LNT.out, ← LN0.out]; exact HR.out.2)
      have HRq := Lib.hid (HR.out.cells cT (LNT.out.trans LN0.out.symm)).1
      have HBf := Lib.hid (below_range (show w.heap.size ≤ w.heap.size + 1 by omega) cT 0 _ HBel.out)
      go_wp2_with (first | refine wpList_load_mid rfl 28 _ rfl (wq1.heap.size) 0 rfl cT _ HU.out.1 Try.underlying28 rfl IIT.out ?_ | refine wpList_store_mid rfl 28 _ _ rfl (w.heap.size + 1) 0 cT.toArray rfl rfl HT.out IAT.out OOT.out ?_)
      exact bodyPost_ret (v := .tuple #[.agg cT.toArray, .bool true]) (results_row_tmp rfl _ _ (w.heap.size + 1) cT _ _ rfl rfl HRq.out Try.underlying28 rfl IIT.out) rfl ⟨by unfold margN margB; rw [if_pos HT4.out, if_pos HSe.out, BNT.out]; simp [HT4.out, HSe.out], HBf.out⟩
    · have hlz := HLz.out hS
      have HSn := Lib.hid hS
      clear hS
      go_upto_region 6 with fail
      clear s0 s1 s2 s3 hlz
      by_cases ho : outOk T S
      · have HO := Lib.hid ho
        clear ho
        have HM2 := Lib.hid (HOut.out HT4.out HSn.out HO.out)
        go_wp2_with (first | refine wpList_load_mid rfl 28 _ rfl (wq1.heap.size) 0 rfl cT _ HU.out.1 Try.underlying28 rfl IIT.out ?_ | refine wpList_load_mid rfl 28 _ rfl (w.heap.size) 12 rfl cS _ HS.out.1 Try.underlying28 rfl IIS.out ?_)
        refine (HM2.out _).mono ?_
        rintro e wq3 ⟨rfl, hb3⟩
        replace HC := Lib.hid (HC.out.below hb3 LC.out)
        replace LC := Lib.hid (Nat.lt_of_lt_of_le LC.out hb3.size)
        replace HD := Lib.hid (HD.out.below hb3 LD.out)
        replace LD := Lib.hid (Nat.lt_of_lt_of_le LD.out hb3.size)
        replace HS := Lib.hid (HS.out.below hb3 LS.out)
        replace LS := Lib.hid (Nat.lt_of_lt_of_le LS.out hb3.size)
        replace HR := Lib.hid (HR.out.below hb3 LR.out)
        replace LR := Lib.hid (Nat.lt_of_lt_of_le LR.out hb3.size)
        replace HU := Lib.hid (HU.out.below hb3 LU.out)
        replace LU := Lib.hid (Nat.lt_of_lt_of_le LU.out hb3.size)
        replace HBel := Lib.hid (HBel.out.trans (hb3.mono HBs.out))
        replace HBs := Lib.hid (Nat.le_trans HBs.out hb3.size)
        clear hb3
        have HT : Hid ((wq3.alloc (obj4 0 0 0 0)).there wq3.heap.size 0 cq.toArray.size) := Lib.hid (there_newC wq3 LNq.out)
        go_upto_region 9 with (first | refine wpList_store_mid rfl 28 _ _ rfl wq3.heap.size 0 cq.toArray rfl rfl HT.out IAq.out OOq.out ?_)
        have EC_Q := Lib.hid (Nat.ne_of_lt LC.out)
        have ED_Q := Lib.hid (Nat.ne_of_lt LD.out)
        have ES_Q := Lib.hid (Nat.ne_of_lt LS.out)
        have ER_Q := Lib.hid (Nat.ne_of_lt LR.out)
        have EU_Q := Lib.hid (Nat.ne_of_lt LU.out)
        have GQ := Lib.hid HBs.out
        obtain ⟨N1, N2, N3⟩ := newC_facts wq3 LNq.out
        obtain ⟨wq4, hW⟩ : ∃ W2, W2 = newC wq3 cq := ⟨_, rfl⟩
        rw [← hW] at N1 N2 N3
        replace HC := Lib.hid (HC.out.below N2 LC.out)
        replace LC := Lib.hid (Nat.lt_of_lt_of_le LC.out N2.size)
        replace HD := Lib.hid (HD.out.below N2 LD.out)
        replace LD := Lib.hid (Nat.lt_of_lt_of_le LD.out N2.size)
        replace HS := Lib.hid (HS.out.below N2 LS.out)
        replace LS := Lib.hid (Nat.lt_of_lt_of_le LS.out N2.size)
        replace HR := Lib.hid (HR.out.below N2 LR.out)
        replace LR := Lib.hid (Nat.lt_of_lt_of_le LR.out N2.size)
        replace HU := Lib.hid (HU.out.below N2 LU.out)
        replace LU := Lib.hid (Nat.lt_of_lt_of_le LU.out N2.size)
        replace HBel := Lib.hid (HBel.out.trans (N2.mono HBs.out))
        replace HBs := Lib.hid (Nat.le_trans HBs.out N2.size)
        have LQ : Hid (wq3.heap.size < wq4.heap.size) := Lib.hid (by rw [N3]; omega)
        have HQ := Lib.hid N1
        unfold newC at hW
        rw [← hW]
        clear hW N1 N2 N3 HT
        have HSb := Lib.hid (HSub.out HT4.out)
        go_wp2_with (first | refine wpList_load_mid rfl 28 _ rfl (wq1.heap.size) 0 rfl cT _ HU.out.1 Try.underlying28 rfl IIT.out ?_ | refine wpList_load_mid rfl 28 _ rfl (wq3.heap.size) 0 rfl cq _ HQ.out.1 Try.underlying28 rfl IIq.out ?_)
        refine (HSb.out _).mono ?_
        rintro e wq5 ⟨rfl, hb5⟩
        replace HC := Lib.hid (HC.out.below hb5 LC.out)
        replace LC := Lib.hid (Nat.lt_of_lt_of_le LC.out hb5.size)
        replace HD := Lib.hid (HD.out.below hb5 LD.out)
        replace LD := Lib.hid (Nat.lt_of_lt_of_le LD.out hb5.size)
        replace HS := Lib.hid (HS.out.below hb5 LS.out)
        replace LS := Lib.hid (Nat.lt_of_lt_of_le LS.out hb5.size)
        replace HR := Lib.hid (HR.out.below hb5 LR.out)
        replace LR := Lib.hid (Nat.lt_of_lt_of_le LR.out hb5.size)
        replace HU := Lib.hid (HU.out.below hb5 LU.out)
        replace LU := Lib.hid (Nat.lt_of_lt_of_le LU.out hb5.size)
        replace HQ := Lib.hid (HQ.out.below hb5 LQ.out)
        replace LQ := Lib.hid (Nat.lt_of_lt_of_le LQ.out hb5.size)
        replace HBel := Lib.hid (HBel.out.trans (hb5.mono HBs.out))
        replace HBs := Lib.hid (Nat.le_trans HBs.out hb5.size)
        clear hb5
        have HT : Hid ((wq5.alloc (obj4 0 0 0 0)).there wq5.heap.size 0 cr.toArray.size) := Lib.hid (there_newC wq5 LNr.out)
        go_upto_region 10 with (first | refine wpList_store_mid rfl 28 _ _ rfl wq5.heap.size 0 cr.toArray rfl rfl HT.out IAr.out OOr.out ?_)
        have EC_D2 := Lib.hid (Nat.ne_of_lt LC.out)
        have ED_D2 := Lib.hid (Nat.ne_of_lt LD.out)
        have ES_D2 := Lib.hid (Nat.ne_of_lt LS.out)
        have ER_D2 := Lib.hid (Nat.ne_of_lt LR.out)
        have EU_D2 := Lib.hid (Nat.ne_of_lt LU.out)
        have EQ_D2 := Lib.hid (Nat.ne_of_lt LQ.out)
        have GD2 := Lib.hid HBs.out
        obtain ⟨N1, N2, N3⟩ := newC_facts wq5 LNr.out
        obtain ⟨wq6, hW⟩ : ∃ W2, W2 = newC wq5 cr := ⟨_, rfl⟩
        rw [← hW] at N1 N2 N3
        replace HC := Lib.hid (HC.out.below N2 LC.out)
        replace LC := Lib.hid (Nat.lt_of_lt_of_le LC.out N2.size)
        replace HD := Lib.hid (HD.out.below N2 LD.out)
        replace LD := Lib.hid (Nat.lt_of_lt_of_le LD.out N2.size)
        replace HS := Lib.hid (HS.out.below N2 LS.out)
        replace LS := Lib.hid (Nat.lt_of_lt_of_le LS.out N2.size)
        replace HR := Lib.hid (HR.out.below N2 LR.out)
        replace LR := Lib.hid (Nat.lt_of_lt_of_le LR.out N2.size)
        replace HU := Lib.hid (HU.out.below N2 LU.out)
        replace LU := Lib.hid (Nat.lt_of_lt_of_le LU.out N2.size)
        replace HQ := Lib.hid (HQ.out.below N2 LQ.out)
        replace LQ := Lib.hid (Nat.lt_of_lt_of_le LQ.out N2.size)
        replace HBel := Lib.hid (HBel.out.trans (N2.mono HBs.out))
        replace HBs := Lib.hid (Nat.le_trans HBs.out N2.size)
        have LD2 : Hid (wq5.heap.size < wq6.heap.size) := Lib.hid (by rw [N3]; omega)
        have HD2 := Lib.hid N1
        unfold newC at hW
        rw [← hW]
        clear hW N1 N2 N3 HT
        have HT : Hid (wq6.there (w.heap.size + 1) 0 cr.toArray.size) := Lib.hid (show wq6.there (w.heap.size + 1) 0 cr.length by rw [LNr.out, ← LN0.out]; exact HR.out.2)
        have HRq := Lib.hid (HR.out.cells cr (LNr.out.trans LN0.out.symm)).1
        have HBf := Lib.hid (below_range (show w.heap.size ≤ w.heap.size + 1 by omega) cr 0 _ HBel.out)
        go_wp2_with (first | refine wpList_load_mid rfl 28 _ rfl (wq5.heap.size) 0 rfl cr _ HD2.out.1 Try.underlying28 rfl IIr.out ?_ | refine wpList_store_mid rfl 28 _ _ rfl (w.heap.size + 1) 0 cr.toArray rfl rfl HT.out IAr.out OOr.out ?_)
        exact bodyPost_ret (v := .tuple #[.agg cr.toArray, .bool true]) (results_row_tmp rfl _ _ (w.heap.size + 1) cr _ _ rfl rfl HRq.out Try.underlying28 rfl IIr.out) rfl ⟨by unfold margN margB; rw [if_pos HT4.out, if_neg HSn.out, if_pos HO.out, HQe.out, HRe.out, BNr.out]; simp [HT4.out, HO.out], HBf.out⟩
      · have HO := Lib.hid ho
        clear ho
        have HM2 := Lib.hid (HOut2.out HT4.out HSn.out HO.out)
        go_wp2_with (first | refine wpList_load_mid rfl 28 _ rfl (wq1.heap.size) 0 rfl cT _ HU.out.1 Try.underlying28 rfl IIT.out ?_ | refine wpList_load_mid rfl 28 _ rfl (w.heap.size) 12 rfl cS _ HS.out.1 Try.underlying28 rfl IIS.out ?_)
        refine (HM2.out _).mono ?_
        rintro e wq3 ⟨rfl, hb3⟩
        replace HC := Lib.hid (HC.out.below hb3 LC.out)
        replace LC := Lib.hid (Nat.lt_of_lt_of_le LC.out hb3.size)
        replace HD := Lib.hid (HD.out.below hb3 LD.out)
        replace LD := Lib.hid (Nat.lt_of_lt_of_le LD.out hb3.size)
        replace HS := Lib.hid (HS.out.below hb3 LS.out)
        replace LS := Lib.hid (Nat.lt_of_lt_of_le LS.out hb3.size)
        replace HR := Lib.hid (HR.out.below hb3 LR.out)
        replace LR := Lib.hid (Nat.lt_of_lt_of_le LR.out hb3.size)
        replace HU := Lib.hid (HU.out.below hb3 LU.out)
        replace LU := Lib.hid (Nat.lt_of_lt_of_le LU.out hb3.size)
        replace HBel := Lib.hid (HBel.out.trans (hb3.mono HBs.out))
        replace HBs := Lib.hid (Nat.le_trans HBs.out hb3.size)
        clear hb3
        have HT : Hid ((wq3.alloc (obj4 0 0 0 0)).there wq3.heap.size 0 c0.toArray.size) := Lib.hid (there_newC wq3 LN0.out)
        go_upto_region 7 with (first | refine wpList_store_mid rfl 28 _ _ rfl wq3.heap.size 0 c0.toArray rfl rfl HT.out IA0.out OO0.out ?_)
        have EC_Q := Lib.hid (Nat.ne_of_lt LC.out)
        have ED_Q := Lib.hid (Nat.ne_of_lt LD.out)
        have ES_Q := Lib.hid (Nat.ne_of_lt LS.out)
        have ER_Q := Lib.hid (Nat.ne_of_lt LR.out)
        have EU_Q := Lib.hid (Nat.ne_of_lt LU.out)
        have GQ := Lib.hid HBs.out
        obtain ⟨N1, N2, N3⟩ := newC_facts wq3 LN0.out
        obtain ⟨wq4, hW⟩ : ∃ W2, W2 = newC wq3 c0 := ⟨_, rfl⟩
        rw [← hW] at N1 N2 N3
        replace HC := Lib.hid (HC.out.below N2 LC.out)
        replace LC := Lib.hid (Nat.lt_of_lt_of_le LC.out N2.size)
        replace HD := Lib.hid (HD.out.below N2 LD.out)
        replace LD := Lib.hid (Nat.lt_of_lt_of_le LD.out N2.size)
        replace HS := Lib.hid (HS.out.below N2 LS.out)
        replace LS := Lib.hid (Nat.lt_of_lt_of_le LS.out N2.size)
        replace HR := Lib.hid (HR.out.below N2 LR.out)
        replace LR := Lib.hid (Nat.lt_of_lt_of_le LR.out N2.size)
        replace HU := Lib.hid (HU.out.below N2 LU.out)
        replace LU := Lib.hid (Nat.lt_of_lt_of_le LU.out N2.size)
        replace HBel := Lib.hid (HBel.out.trans (N2.mono HBs.out))
        replace HBs := Lib.hid (Nat.le_trans HBs.out N2.size)
        have LQ : Hid (wq3.heap.size < wq4.heap.size) := Lib.hid (by rw [N3]; omega)
        have HQ := Lib.hid N1
        unfold newC at hW
        rw [← hW]
        clear hW N1 N2 N3 HT
        obtain ⟨f0, f1, f2, f3⟩ := at_free HR.out LN0.out
        have hc0 := HC0.out
        have hcr := HR.out
        rw [← hc0] at hcr
        obtain ⟨r0, r1, r2, r3⟩ := at_cells hcr
        clear hc0 hcr
        simp only [limb_zero] at r0 r1 r2 r3
        have lt1 := LR.out
        go_wp2_with fail
        exact bodyPost_ret (v := .tuple #[big 0 0 0 0, .bool false]) (by simp [results, Try.results28, go_sem, r0, r1, r2, r3, lt1, big]) rfl ⟨by unfold margN margB; rw [if_pos HT4.out, if_neg HSn.out, if_neg HO.out, bigN_zero]; simp [HSn.out, HO.out], below_zero4 HBel.out (show w.heap.size ≤ w.heap.size + 1 by omega)⟩
  · simp only [sum_bad hT, BN0.out] at h1
    have HAdd := Lib.hid h1
    clear h1
    have HT4 := Lib.hid hT
    clear hT
    go_wp2_with (first | refine wpList_load_mid rfl 28 _ rfl (w.heap.size) 0 rfl cC _ HC.out.1 Try.underlying28 rfl IIC.out ?_ | refine wpList_load_mid rfl 28 _ rfl (w.heap.size) 4 rfl cD _ HD.out.1 Try.underlying28 rfl IID.out ?_)
    refine (HAdd.out _).mono ?_
    rintro e wq1 ⟨rfl, hb1⟩
    replace HC := Lib.hid (HC.out.below hb1 LC.out)
    replace LC := Lib.hid (Nat.lt_of_lt_of_le LC.out hb1.size)
    replace HD := Lib.hid (HD.out.below hb1 LD.out)
    replace LD := Lib.hid (Nat.lt_of_lt_of_le LD.out hb1.size)
    replace HS := Lib.hid (HS.out.below hb1 LS.out)
    replace LS := Lib.hid (Nat.lt_of_lt_of_le LS.out hb1.size)
    replace HR := Lib.hid (HR.out.below hb1 LR.out)
    replace LR := Lib.hid (Nat.lt_of_lt_of_le LR.out hb1.size)
    replace HBel := Lib.hid (HBel.out.trans (hb1.mono HBs.out))
    replace HBs := Lib.hid (Nat.le_trans HBs.out hb1.size)
    clear hb1
    have HT : Hid ((wq1.alloc (obj4 0 0 0 0)).there wq1.heap.size 0 c0.toArray.size) := Lib.hid (there_newC wq1 LN0.out)
    go_upto_region 2 with (first | refine wpList_store_mid rfl 28 _ _ rfl wq1.heap.size 0 c0.toArray rfl rfl HT.out IA0.out OO0.out ?_)
    have EC_U := Lib.hid (Nat.ne_of_lt LC.out)
    have ED_U := Lib.hid (Nat.ne_of_lt LD.out)
    have ES_U := Lib.hid (Nat.ne_of_lt LS.out)
    have ER_U := Lib.hid (Nat.ne_of_lt LR.out)
    have GU := Lib.hid HBs.out
    obtain ⟨N1, N2, N3⟩ := newC_facts wq1 LN0.out
    obtain ⟨wq2, hW⟩ : ∃ W2, W2 = newC wq1 c0 := ⟨_, rfl⟩
    rw [← hW] at N1 N2 N3
    replace HC := Lib.hid (HC.out.below N2 LC.out)
    replace LC := Lib.hid (Nat.lt_of_lt_of_le LC.out N2.size)
    replace HD := Lib.hid (HD.out.below N2 LD.out)
    replace LD := Lib.hid (Nat.lt_of_lt_of_le LD.out N2.size)
    replace HS := Lib.hid (HS.out.below N2 LS.out)
    replace LS := Lib.hid (Nat.lt_of_lt_of_le LS.out N2.size)
    replace HR := Lib.hid (HR.out.below N2 LR.out)
    replace LR := Lib.hid (Nat.lt_of_lt_of_le LR.out N2.size)
    replace HBel := Lib.hid (HBel.out.trans (N2.mono HBs.out))
    replace HBs := Lib.hid (Nat.le_trans HBs.out N2.size)
    have LU : Hid (wq1.heap.size < wq2.heap.size) := Lib.hid (by rw [N3]; omega)
    have HU := Lib.hid N1
    unfold newC at hW
    rw [← hW]
    clear hW N1 N2 N3 HT
    obtain ⟨f0, f1, f2, f3⟩ := at_free HR.out LN0.out
    have hc0 := HC0.out
    have hcr := HR.out
    rw [← hc0] at hcr
    obtain ⟨r0, r1, r2, r3⟩ := at_cells hcr
    clear hc0 hcr
    simp only [limb_zero] at r0 r1 r2 r3
    have lt1 := LR.out
    go_wp2_with fail
    exact bodyPost_ret (v := .tuple #[big 0 0 0 0, .bool false]) (by simp [results, Try.results28, go_sem, r0, r1, r2, r3, lt1, big]) rfl ⟨by unfold margN margB; rw [if_neg HT4.out, bigN_zero]; simp [HT4.out], below_zero4 HBel.out (show w.heap.size ≤ w.heap.size + 1 by omega)⟩
end Go.Proofs.Ytchjjbklkmfelaa

/- The document's sums, differences and one more, by rows of digits. -/
namespace Go.Proofs.Ytchjjbklkmfelaa
open Go.RowKit Go.Lib Go.Deep
set_option linter.unusedVariables false
set_option linter.unusedSimpArgs false

theorem dig_small {n : Nat} (h : n < 18446744073709551616 ^ 4) : (dig n).length ≤ 1000000 := Nat.le_trans (dig_len_le (k := 16) h) (by decide)
theorem dig_small5 {n : Nat} (h : n < 18446744073709551616 ^ 8) : (dig n).length ≤ 100000 := Nat.le_trans (dig_len_le (k := 32) h) (by decide)
def okB (n : Nat) : Bool := decide (n < 18446744073709551616 ^ 4)
theorem intV_kept (n : Nat) : intV n = .tuple #[bigN (kept n), .bool (okB n)] := by
  unfold intV kept okB
  split
  · next h => simp [h]
  · next h => simp [h]

set_option maxHeartbeats 1000000 in
set_option maxRecDepth 100000 in
theorem one_calls (a : Nat) (w : World) (ha : a < 18446744073709551616 ^ 4) :
    Calls Try.prog 62 #[bigN a] w fun e w' => ∃ v, e = .returned v ∧ Row w' v (dig (a + 1)) ∧ Below w.heap.size w w' := by
  have B0 := Box.new w a
  have hq : Below w.heap.size w (w.alloc (row4 (limb a))) := (Below.refl _ _).alloc (Nat.le_refl _) _
  have la := dig_small ha
  have l1 : (dig 1).length ≤ 1000000 := by rw [dig_one]; decide
  have HL := Lib.hid la
  have HL1 := Lib.hid l1
  obtain ⟨c0, c1, c2, c3⟩ := B0.cells
  clear B0 la l1
  have HA := Lib.hid ha
  clear ha
  go_enter Try.func62, Try.ntmps62
  go_wp2_with fail
  refine (rowof_calls a _ HA.out).mono ?_
  rintro e w1 ⟨v, rfl, hr, -, hb⟩
  have hb' := hq.trans (hb.mono (by simp))
  have hr2 := Row.below hr ((Below.refl w1.heap.size w1).alloc (Nat.le_refl _) (.cells #[.int .i64 1] 3))
  have hq3 := hb'.alloc (show w.heap.size ≤ w1.heap.size from hb'.size) (.cells #[.int .i64 1] 3)
  have HR2 := Lib.hid hr2
  have HQ3 := Lib.hid hq3
  have HR1 := Lib.hid (row_one w1)
  clear hb hb' hr hr2 hq hq3
  go_wp2_with fail
  refine (add_calls v _ a 1 _ HR2.out HR1.out HL.out HL1.out).mono ?_
  rintro e w2 ⟨v2, rfl, hr3, -, hb3⟩
  have HR3 := Lib.hid hr3
  have HQ4 := Lib.hid (HQ3.out.trans (hb3.mono HQ3.out.size))
  clear hr3 hb3
  go_wp2_with fail
  go_ret
  exact ⟨v2, rfl, HR3.out, HQ4.out⟩

def addW (w : World) (a b : Nat) : World := ((w.alloc (row4 (limb a))).alloc (row4 (limb b))).alloc (obj4 0 0 0 0)
theorem addW_facts (w : World) (a b : Nat) : Box (addW w a b) w.heap.size a ∧ Box (addW w a b) (w.heap.size + 1) b ∧ Box (addW w a b) (w.heap.size + 1 + 1) 0 ∧ Below w.heap.size w (addW w a b) := by
  have h2 := Box.new (w.alloc (row4 (limb a))) b
  have h3 := Box.zero ((w.alloc (row4 (limb a))).alloc (row4 (limb b)))
  simp only [World.size_alloc] at h2 h3
  exact ⟨((Box.new w a).alloc _).alloc _, h2.alloc _, h3, (((Below.refl _ _).alloc (Nat.le_refl _) _).alloc (by simp) _).alloc (by simp; omega) _⟩

set_option maxHeartbeats 4000000 in
set_option maxRecDepth 100000 in
theorem radd_calls (a b : Nat) (w : World) (ha : a < 18446744073709551616 ^ 4) (hb0 : b < 18446744073709551616 ^ 4) :
    Calls Try.prog 46 #[bigN a, bigN b] w fun e w' => e = .returned (.tuple #[bigN (kept (a + b)), .bool (okB (a + b))]) ∧ Below w.heap.size w w' := by
  have la := dig_small ha
  have lb := dig_small hb0
  obtain ⟨B0, B1, B2, hq⟩ := addW_facts w a b
  have hRa := fun X => gives_of (rowof_calls a X ha)
  have hRb := fun X => gives_of (rowof_calls b X hb0)
  have lab : (dig (a + b)).length ≤ 1000000 := by
    have : a + b < 65536 ^ 17 := by
      have h1 : a < 65536 ^ 16 := ha
      have h2 : b < 65536 ^ 16 := hb0
      have h3 : 65536 ^ 17 = 65536 * 65536 ^ 16 := by rw [← Nat.pow_succ']
      omega
    exact Nat.le_trans (dig_len_le this) (by decide)
  have hInt := fun v X (h : Row X v (dig (a + b))) => int_calls v (a + b) X h lab
  simp only [intV_kept] at hInt
  obtain ⟨z, hz⟩ : ∃ z, kept (a + b) = z := ⟨_, rfl⟩
  obtain ⟨o, ho⟩ : ∃ o, okB (a + b) = o := ⟨_, rfl⟩
  simp only [hz, ho] at hInt
  have HZ := Lib.hid hz
  have HO := Lib.hid ho
  have HLa := Lib.hid la
  have HLb := Lib.hid lb
  clear hz ho la lb lab ha hb0
  go_enter Try.func46, Try.ntmps46
  obtain ⟨W, hW⟩ : ∃ W, W = addW w a b := ⟨_, rfl⟩
  rw [← hW] at B0 B1 B2 hq
  unfold addW row4 at hW
  go_upto_region 1 with fail
  rw [← hW]
  clear hW
  have hS : ∀ X, Below W.heap.size W X → ((X.cell? ⟨w.heap.size, 0, none⟩ = some (.int .u64 (limb a 0)) ∧ X.cell? ⟨w.heap.size, 1, none⟩ = some (.int .u64 (limb a 1)) ∧ X.cell? ⟨w.heap.size, 2, none⟩ = some (.int .u64 (limb a 2)) ∧ X.cell? ⟨w.heap.size, 3, none⟩ = some (.int .u64 (limb a 3))) ∧
      (X.cell? ⟨w.heap.size + 1, 0, none⟩ = some (.int .u64 (limb b 0)) ∧ X.cell? ⟨w.heap.size + 1, 1, none⟩ = some (.int .u64 (limb b 1)) ∧ X.cell? ⟨w.heap.size + 1, 2, none⟩ = some (.int .u64 (limb b 2)) ∧ X.cell? ⟨w.heap.size + 1, 3, none⟩ = some (.int .u64 (limb b 3)))) :=
    fun X h => ⟨(B0.below h B0.lt).cells, (B1.below h B1.lt).cells⟩
  have HS := Lib.hid hS
  have hS5 := fun X (h : Below W.heap.size W X) => And.intro ((B0.below h B0.lt).store_other (show w.heap.size ≠ w.heap.size + 1 + 1 by omega) (limb z 0) (limb z 1) (limb z 2) (limb z 3)).cells ((B1.below h B1.lt).store_other (show w.heap.size + 1 ≠ w.heap.size + 1 + 1 by omega) (limb z 0) (limb z 1) (limb z 2) (limb z 3)).cells
  unfold store4 at hS5
  have HS5 := Lib.hid hS5
  clear hS5
  have HB2 := Lib.hid B2
  have HQ := Lib.hid hq
  clear hS B0 B1 B2 hq
  unfold bigN big at hRa hRb hInt
  have HRa := Lib.hid hRa
  have HRb := Lib.hid hRb
  have HInt := Lib.hid hInt
  clear hRa hRb hInt
  have hB0 := (Below.refl W.heap.size W).drew
  have HT0 : Hid (∀ X, Below W.drew.heap.size W.drew X → Below W.heap.size W X) := Lib.hid (fun X h => hB0.trans h)
  go_region_held3 (fun X => ((X.cell? ⟨w.heap.size, 0, none⟩ = some (.int .u64 (limb a 0)) ∧ X.cell? ⟨w.heap.size, 1, none⟩ = some (.int .u64 (limb a 1)) ∧ X.cell? ⟨w.heap.size, 2, none⟩ = some (.int .u64 (limb a 2)) ∧ X.cell? ⟨w.heap.size, 3, none⟩ = some (.int .u64 (limb a 3))) ∧
      (X.cell? ⟨w.heap.size + 1, 0, none⟩ = some (.int .u64 (limb b 0)) ∧ X.cell? ⟨w.heap.size + 1, 1, none⟩ = some (.int .u64 (limb b 1)) ∧ X.cell? ⟨w.heap.size + 1, 2, none⟩ = some (.int .u64 (limb b 2)) ∧ X.cell? ⟨w.heap.size + 1, 3, none⟩ = some (.int .u64 (limb b 3)))))
    (first | with_reducible exact HS5.out _ hBi | with_reducible exact HS.out _ hBi | with_reducible exact HS.out _ hBs | with_reducible exact HS.out _ hBb | with_reducible exact HS.out _ hBa | with_reducible exact HS.out _ hB0)
    (first
      | (go_at_call 37; with_reducible refine (HRa.out _).mono ?_; rintro e wa ⟨va, rfl, ra, hba⟩; have hBa := HT0.out _ hba)
      | (go_at_call 37; with_reducible refine (HRb.out _).mono ?_; rintro e wb ⟨vb, rfl, rb, hbb⟩; have hBb := hBa.trans (hbb.mono hBa.size); have ra2 := Row.below ra hbb)
      | (go_at_call 36; refine (gives_of (add_calls va vb a b _ ra2 rb HLa.out HLb.out)).mono ?_; rintro e ws ⟨vs, rfl, rs, hbs⟩; have hBs := hBb.trans (hbs.mono hBb.size))
      | (go_at_call 44; refine (HInt.out vs _ rs).mono ?_; rintro e wi ⟨rfl, hbi⟩; have hBi := hBs.trans (hbi.mono hBs.size); have Bi := HB2.out.below hBi HB2.out.lt; obtain ⟨f0, f1, f2, f3⟩ := Bi.free; obtain ⟨z0, z1, z2, z3⟩ := Bi.cells))
  have lt1 := Bi.lt
  have HBi := Lib.hid hBi
  clear Bi hBi ra ra2 rb rs hba hbb hbs hbi hBa hBb hBs hB0
  go_wp2_with fail
  refine bodyPost_ret (v := .tuple #[big (limb z 0) (limb z 1) (limb z 2) (limb z 3), .bool o]) (by simp [results, Try.results46, go_sem, z0, z1, z2, z3, lt1, big]) rfl ⟨by rw [HZ.out, HO.out], below_store (HQ.out.trans (HBi.out.mono HQ.out.size)) (show w.heap.size ≤ w.heap.size + 1 + 1 by omega) _ _ _ _⟩

set_option maxHeartbeats 4000000 in
set_option maxRecDepth 100000 in
theorem rsub_calls (a b : Nat) (w : World) (ha : a < 18446744073709551616 ^ 4) (hab : b ≤ a) :
    Calls Try.prog 48 #[bigN a, bigN b] w fun e w' => e = .returned (.tuple #[bigN (a - b), .bool true]) ∧ Below w.heap.size w w' := by
  have hb0 : b < 18446744073709551616 ^ 4 := Nat.lt_of_le_of_lt hab ha
  have la := dig_small ha
  have ld := dig_small (Nat.lt_of_le_of_lt (Nat.sub_le a b) ha)
  obtain ⟨B0, B1, B2, hq⟩ := addW_facts w a b
  have HRa := Lib.hid (fun X => gives_of (rowof_calls a X ha))
  have HRb := Lib.hid (fun X => gives_of (rowof_calls b X hb0))
  have hInt := fun v X (h : Row X v (dig (a - b))) => int_calls v (a - b) X h ld
  have e1 : kept (a - b) = a - b := if_pos (Nat.lt_of_le_of_lt (Nat.sub_le a b) ha)
  have e2 : okB (a - b) = true := decide_eq_true (Nat.lt_of_le_of_lt (Nat.sub_le a b) ha)
  simp only [intV_kept, e1, e2] at hInt
  have hc : ¬ (cmpI a b < 0) := by
    have := cmpI_neg a b
    intro h
    rw [decide_eq_true h] at this
    have := of_decide_eq_true this.symm
    omega
  have HLa := Lib.hid la
  have HAB := Lib.hid hab
  obtain ⟨z, hz⟩ : ∃ z, a - b = z := ⟨_, rfl⟩
  rw [hz] at hInt
  have HZ := Lib.hid hz
  have HI := Lib.hid hInt
  clear la ld ha hb0 hab e1 e2 hInt hz
  go_enter Try.func48, Try.ntmps48
  obtain ⟨W, hW⟩ : ∃ W, W = addW w a b := ⟨_, rfl⟩
  rw [← hW] at B0 B1 B2 hq
  unfold addW row4 at hW
  go_upto_region 1 with fail
  rw [← hW]
  clear hW
  have HB1 := Lib.hid B1
  have HB2 := Lib.hid B2
  have HQ := Lib.hid hq
  obtain ⟨a0, a1, a2, a3⟩ := B0.cells
  clear B0 B1 B2 hq
  go_wp2_with fail
  refine (HRa.out _).mono ?_
  rintro e w1 ⟨va, rfl, ra, hb1⟩
  have HB1' := Lib.hid (HB1.out.later hb1)
  have HB2' := Lib.hid (HB2.out.later hb1)
  have HQ1 := Lib.hid (HQ.out.trans (hb1.mono HQ.out.size))
  have Ra := Lib.hid ra
  obtain ⟨b0, b1, b2, b3⟩ := HB1'.out.cells
  clear a0 a1 a2 a3 hb1 ra HB1 HB2 HQ
  go_wp2_with fail
  refine (HRb.out _).mono ?_
  rintro e w2 ⟨vb, rfl, rb, hb2⟩
  have HB2 := Lib.hid (HB2'.out.later hb2)
  have HQ2 := Lib.hid (HQ1.out.trans (hb2.mono HQ1.out.size))
  have Ra2 := Lib.hid (Row.below Ra.out hb2)
  have Rb := Lib.hid rb
  clear b0 b1 b2 b3 hb2 rb Ra HB1' HB2' HQ1
  go_wp2_with fail
  refine (cmp_calls va vb a b _ Ra2.out Rb.out).mono ?_
  rintro e w3 ⟨rfl, rfl⟩
  go_wp2_with fail
  refine (gives_of (sub_calls va vb a b _ Ra2.out Rb.out HLa.out HAB.out)).mono ?_
  rintro e w3 ⟨vd, rfl, rd, hb3⟩
  have HB3 := Lib.hid (HB2.out.later hb3)
  have HQ3 := Lib.hid (HQ2.out.trans (hb3.mono HQ2.out.size))
  rw [HZ.out] at rd
  have Rd := Lib.hid rd
  clear hb3 rd Ra2 Rb HB2 HQ2
  go_wp2_with fail
  refine (HI.out vd _ Rd.out).mono ?_
  rintro e w4 ⟨rfl, hb4⟩
  have B4 := HB3.out.later hb4
  have HQ4 := Lib.hid (HQ3.out.trans (hb4.mono HQ3.out.size))
  obtain ⟨f0, f1, f2, f3⟩ := B4.free
  obtain ⟨z0, z1, z2, z3⟩ := B4.cells
  have lt1 := B4.lt
  clear hb4 B4 Rd HB3 HQ3 HI hc
  unfold bigN big
  go_wp2_with fail
  refine bodyPost_ret (v := .tuple #[big (limb z 0) (limb z 1) (limb z 2) (limb z 3), .bool true]) (by simp [results, Try.results48, go_sem, z0, z1, z2, z3, lt1, big]) rfl ⟨by rw [HZ.out], below_store HQ4.out (show w.heap.size ≤ w.heap.size + 1 + 1 by omega) _ _ _ _⟩
end Go.Proofs.Ytchjjbklkmfelaa

/- What all shares pay, by the document. -/
namespace Go.Proofs.Ytchjjbklkmfelaa
open Go.RowKit Go.Lib Go.Deep
set_option linter.unusedVariables false
set_option linter.unusedSimpArgs false

theorem dig_over {n : Nat} : (16 < (dig n).length) ↔ ¬ n < 18446744073709551616 ^ 4 := by
  constructor
  · intro h h2
    have := dig_len_le (k := 16) h2
    omega
  · intro h
    by_cases hl : (dig n).length ≤ 16
    · exact absurd (Nat.lt_of_lt_of_le (dig_lt n) (Nat.pow_le_pow_right (by decide) hl)) h
    · omega
theorem at_num {w : World} {g o n : Nat} {c : List Value} (h : At w g o c) (hc : cells4L n = c) : w.cell? ⟨g, o, none⟩ = some (.int .u64 (limb n 0)) ∧ w.cell? ⟨g, o + 1, none⟩ = some (.int .u64 (limb n 1)) ∧ w.cell? ⟨g, o + 2, none⟩ = some (.int .u64 (limb n 2)) ∧ w.cell? ⟨g, o + 3, none⟩ = some (.int .u64 (limb n 3)) :=
  at_cells (hc ▸ h)

set_option maxHeartbeats 4000000 in
set_option maxRecDepth 100000 in
theorem rout_calls (A S : Nat) (w : World) (hA : A < 18446744073709551616 ^ 4) (hS : S < 18446744073709551616 ^ 4) (hS0 : S ≠ 0) :
    Calls Try.prog 47 #[bigN A, bigN S, bigN S] w fun e w' => ((outOk A S → e = .returned (.tuple #[bigN (S * (A + 1) / (S + 1)), .int .i64 0])) ∧ (¬ outOk A S → e = .returned (.tuple #[bigN 0, .int .i64 2]))) ∧ Below w.heap.size w w' := by
  obtain ⟨F1, F2, F3, F4, hq, hsz⟩ := mdW_facts w A S S
  have hlz := limbs_some hS hS0
  obtain ⟨q, hqq⟩ : ∃ q, S * (A + 1) / (S + 1) = q := ⟨_, rfl⟩
  have hqA : q ≤ A := by rw [← hqq]; exact worth_le
  have HQe := Lib.hid hqq
  have HQA := Lib.hid hqA
  have HAl := Lib.hid hA
  have HSl := Lib.hid hS
  clear hqq hqA hA hS
  go_enter Try.func47, Try.ntmps47
  obtain ⟨W, hW⟩ : ∃ W, W = mdW w A S S := ⟨_, rfl⟩
  rw [← hW] at F1 F2 F3 F4 hq hsz
  unfold mdW row4 at hW
  have HA := Lib.hid (box_at F1)
  have HB := Lib.hid (box_at F2)
  have HS := Lib.hid (box_at F3)
  have HR := Lib.hid (box_at F4)
  have LA := Lib.hid F1.lt
  have LB := Lib.hid F2.lt
  have LS := Lib.hid F3.lt
  have LR := Lib.hid F4.lt
  have HBel := Lib.hid hq
  have HBs := Lib.hid hq.size
  clear F1 F2 F3 F4 hq hsz
  go_upto_region 1 with fail
  rw [← hW]
  clear hW
  obtain ⟨cA, hc⟩ : ∃ c, cells4L (A) = c := ⟨_, rfl⟩
  have BNA : Hid (bigN (A) = .agg cA.toArray) := Lib.hid (by rw [← hc]; rfl)
  have IIA : Hid ((Try.prog.info? 28).map (·.size) = some cA.length) := Lib.hid (by rw [← hc]; exact int_info)
  have IAA : Hid ((Try.prog.info? 28).map (·.size) = some cA.toArray.size) := Lib.hid (by rw [← hc]; exact int_info)
  have OOA : Hid (cA.toArray.all (·.oneCell') = true) := Lib.hid (by rw [← hc]; exact all4 _)
  have LNA : Hid (cA.length = 4) := Lib.hid (by rw [← hc]; rfl)
  rw [hc] at HA
  have HCA := Lib.hid hc
  clear hc
  obtain ⟨cS, hc⟩ : ∃ c, cells4L (S) = c := ⟨_, rfl⟩
  have BNS : Hid (bigN (S) = .agg cS.toArray) := Lib.hid (by rw [← hc]; rfl)
  have IIS : Hid ((Try.prog.info? 28).map (·.size) = some cS.length) := Lib.hid (by rw [← hc]; exact int_info)
  have IAS : Hid ((Try.prog.info? 28).map (·.size) = some cS.toArray.size) := Lib.hid (by rw [← hc]; exact int_info)
  have OOS : Hid (cS.toArray.all (·.oneCell') = true) := Lib.hid (by rw [← hc]; exact all4 _)
  have LNS : Hid (cS.length = 4) := Lib.hid (by rw [← hc]; rfl)
  rw [hc] at HB
  rw [hc] at HS
  have HCS := Lib.hid hc
  clear hc
  obtain ⟨c0, hc⟩ : ∃ c, cells4L (0) = c := ⟨_, rfl⟩
  have BN0 : Hid (bigN (0) = .agg c0.toArray) := Lib.hid (by rw [← hc]; rfl)
  have II0 : Hid ((Try.prog.info? 28).map (·.size) = some c0.length) := Lib.hid (by rw [← hc]; exact int_info)
  have IA0 : Hid ((Try.prog.info? 28).map (·.size) = some c0.toArray.size) := Lib.hid (by rw [← hc]; exact int_info)
  have OO0 : Hid (c0.toArray.all (·.oneCell') = true) := Lib.hid (by rw [← hc]; exact all4 _)
  have LN0 : Hid (c0.length = 4) := Lib.hid (by rw [← hc]; rfl)
  rw [hc] at HR
  have HC0 := Lib.hid hc
  clear hc
  obtain ⟨cq, hc⟩ : ∃ c, cells4L (q) = c := ⟨_, rfl⟩
  have BNq : Hid (bigN (q) = .agg cq.toArray) := Lib.hid (by rw [← hc]; rfl)
  have IIq : Hid ((Try.prog.info? 28).map (·.size) = some cq.length) := Lib.hid (by rw [← hc]; exact int_info)
  have IAq : Hid ((Try.prog.info? 28).map (·.size) = some cq.toArray.size) := Lib.hid (by rw [← hc]; exact int_info)
  have OOq : Hid (cq.toArray.all (·.oneCell') = true) := Lib.hid (by rw [← hc]; exact all4 _)
  have LNq : Hid (cq.length = 4) := Lib.hid (by rw [← hc]; rfl)
  have HCq := Lib.hid hc
  clear hc
  go_upto_region 2 with fail
  have EA_Z := Lib.hid (Nat.ne_of_lt LA.out)
  have EB_Z := Lib.hid (Nat.ne_of_lt LB.out)
  have ES_Z := Lib.hid (Nat.ne_of_lt LS.out)
  have ER_Z := Lib.hid (Nat.ne_of_lt LR.out)
  have GZ := Lib.hid HBs.out
  have N1 := box_at (Box.zero W)
  have N2 := (Below.refl W.heap.size W).alloc (Nat.le_refl _) (obj4 0 0 0 0)
  have N3 : (W.alloc (obj4 0 0 0 0)).heap.size = W.heap.size + 1 := by simp
  obtain ⟨wq1, hW⟩ : ∃ W2, W.alloc (obj4 0 0 0 0) = W2 := ⟨_, rfl⟩
  rw [hW] at N1 N2 N3
  replace HA := Lib.hid (HA.out.below N2 LA.out)
  replace LA := Lib.hid (Nat.lt_of_lt_of_le LA.out N2.size)
  replace HB := Lib.hid (HB.out.below N2 LB.out)
  replace LB := Lib.hid (Nat.lt_of_lt_of_le LB.out N2.size)
  replace HS := Lib.hid (HS.out.below N2 LS.out)
  replace LS := Lib.hid (Nat.lt_of_lt_of_le LS.out N2.size)
  replace HR := Lib.hid (HR.out.below N2 LR.out)
  replace LR := Lib.hid (Nat.lt_of_lt_of_le LR.out N2.size)
  replace HBel := Lib.hid (HBel.out.trans (N2.mono HBs.out))
  replace HBs := Lib.hid (Nat.le_trans HBs.out N2.size)
  have LZ : Hid (W.heap.size < wq1.heap.size) := Lib.hid (by rw [N3]; omega)
  rw [HC0.out] at N1
  have HZ := Lib.hid N1
  dsimp only [obj4] at hW
  rw [hW]
  clear hW N1 N2 N3
  obtain ⟨s0, s1, s2, s3⟩ := at_num HS.out HCS.out
  obtain ⟨z0, z1, z2, z3⟩ := at_num HZ.out HC0.out
  simp only [limb_zero] at z0 z1 z2 z3
  simp only [Nat.zero_add] at s1 s2 s3 z1 z2 z3
  go_upto_region 4 with fail
  clear s0 s1 s2 s3 z0 z1 z2 z3 hlz
  obtain ⟨T, hT⟩ : ∃ T : Sched, T = ⟨[.main, .ghost, .main, .ghost, .main, .main], [.agg (List.toArray (cS)), undef, .agg (List.toArray (cS)), undef, .int .i64 0, .bool false], (fun _ _ => undef), (fun _ => []), (fun _ => []), (fun k => match k with | 1 => fun v w => Row w v (dig (S)) | 3 => fun v w => Row w v (dig (S)) | _ => fun _ _ => True)⟩ := ⟨_, rfl⟩
  have hng : ghosty T.tags = true := by rw [hT]; rfl
  have hE : ∀ k v w w', T.tag k = .ghost → T.E k v w → Go.RowKit.Below w.heap.size w w' → T.E k v w' := by
    rw [hT]; intro k v w w' hk hv hb
    rcases k with _ | _ | _ | _ | _ | _ | _ <;> first | (cases hk; done) | trivial | exact Row.below hv hb
  refine region_plan (by kernel_rfl) T (Cls wq1) (by rw [hT]; kernel_rfl) (puts_len (by rw [hT]; exact trivial)) Cls.alloc Cls.put hE (Cls.start wq1) ?steps ?fin
  case steps =>
    refine Steps.cons ?s0 (Steps.cons ?s1 (Steps.cons ?s2 (Steps.cons ?s3 (Steps.cons ?s4 (Steps.cons ?s5 (Steps.nil))))))
    case s0 => exact pm_load (by rw [hT]; rfl) rfl _ _ rfl (w.heap.size + 1 + 1) (0) (fun cc AA hh => (rd0 (t := 5) hh rfl).trans (by rw [hT]; rfl)) (cS) (by rw [hT]; rfl) (fun mm NN ww hh => range_below HS.out.1 hh.1 LS.out) Try.underlying28 rfl IIS.out
    case s1 => exact pg_callB (by rw [hT]; rfl) 37 _ _ rfl Try.call37 (fun cc => #[.agg (List.toArray (cS))]) (fun cc AA hh => map1 ((rd0 (t := 18) hh rfl).trans (by rw [hT]; rfl))) (fun cc NN ww hb hF => by rw [hT]; have h := gives_of (rowof_calls S ww HSl.out); rw [BNS.out] at h; exact h)
    case s2 => exact pm_load (by rw [hT]; rfl) rfl _ _ rfl (w.heap.size + 1) (0) (fun cc AA hh => (rd0 (t := 4) hh rfl).trans (by rw [hT]; rfl)) (cS) (by rw [hT]; rfl) (fun mm NN ww hh => range_below HB.out.1 hh.1 LB.out) Try.underlying28 rfl IIS.out
    case s3 => exact pg_callB (by rw [hT]; rfl) 37 _ _ rfl Try.call37 (fun cc => #[.agg (List.toArray (cS))]) (fun cc AA hh => map1 ((rd0 (t := 20) hh rfl).trans (by rw [hT]; rfl))) (fun cc NN ww hb hF => by rw [hT]; have h := gives_of (rowof_calls S ww HSl.out); rw [BNS.out] at h; exact h)
    case s4 => exact pm_callB (by rw [hT]; rfl) rfl 38 _ _ rfl Try.call38 (fun cc => #[(cc 1).v, (cc 3).v]) (fun cc AA hh => map2 ((rd0 (t := 19) hh rfl).trans (by rw [hT]; rfl)) ((rd1 (t := 21) hh rfl).trans (by rw [hT]; rfl))) (fun cc NN ww hb hF => by rw [hT]; have h := cmp_calls _ _ S S ww (by have h := (hF 1 rfl).2 (by rw [hT]; rfl); rw [hT] at h; exact h) (by have h := (hF 3 rfl).2 (by rw [hT]; rfl); rw [hT] at h; exact h); rw [show cmpI S S = 0 by unfold cmpI; simp] at h; exact same_of h)
    case s5 => exact pm_pure (by rw [hT]; rfl) rfl (fun cc AA ww hh => by
        have e22 : AA.eval (.tmp 22) = .int .i64 0 := (rd0 (t := 22) hh rfl).trans (by rw [hT]; rfl)
        have ev : T.nth 5 = .bool false := by rw [hT]; rfl
        rw [ev]
        have ek : ∀ v, AA.eval (.const v) = v := fun _ => rfl
        generalize AA.eval = ρ at *
        simp [go_sem, ek, e22])
  case fin =>
    intro cc NN w4 hC hN hap hgs
    have hg1 : (fun v w => Row w v (dig (S))) (cc 1).v w4 := by
      have h := hgs 1 (by rw [hT]; rfl)
      rw [hT] at h
      exact h
    have hg3 : (fun v w => Row w v (dig (S))) (cc 3).v w4 := by
      have h := hgs 3 (by rw [hT]; rfl)
      rw [hT] at h
      exact h
    rw [show putsAll T cc _ 0 _ = List.foldl (fun a x => Act.put a x.1 x.2) _ [(some 18, .agg (List.toArray (cS))), (some 19, (cc 1).v), (some 20, .agg (List.toArray (cS))), (some 21, (cc 3).v), (some 22, .int .i64 0), (some 23, .bool false)] from by rw [hT]; rfl]
    simp only [List.foldl_cons, List.foldl_nil, Act.put, List.setIfInBounds_toArray, List.set_cons_succ, List.set_cons_zero]
    clear hN hap hgs hng hT
    replace HA := Lib.hid (HA.out.below hC.1 LA.out)
    replace LA := Lib.hid (Nat.lt_of_lt_of_le LA.out hC.1.size)
    replace HB := Lib.hid (HB.out.below hC.1 LB.out)
    replace LB := Lib.hid (Nat.lt_of_lt_of_le LB.out hC.1.size)
    replace HS := Lib.hid (HS.out.below hC.1 LS.out)
    replace LS := Lib.hid (Nat.lt_of_lt_of_le LS.out hC.1.size)
    replace HR := Lib.hid (HR.out.below hC.1 LR.out)
    replace LR := Lib.hid (Nat.lt_of_lt_of_le LR.out hC.1.size)
    replace HZ := Lib.hid (HZ.out.below hC.1 LZ.out)
    replace LZ := Lib.hid (Nat.lt_of_lt_of_le LZ.out hC.1.size)
    replace HBel := Lib.hid (HBel.out.trans (hC.1.mono HBs.out))
    replace HBs := Lib.hid (Nat.le_trans HBs.out hC.1.size)
    clear hC hg1 hg3
    have h1 := fun X => one_calls A X HAl.out
    have h2 := fun X => one_calls S X HSl.out
    rw [BNA.out] at h1
    rw [BNS.out] at h2
    have HOne := Lib.hid h1
    have HOne2 := Lib.hid h2
    clear h1 h2
    go_upto_region 6 with fail
    go_wp2_with (first | refine wpList_load_mid rfl 28 _ rfl (w.heap.size) 0 rfl cA _ HA.out.1 Try.underlying28 rfl IIA.out ?_)
    refine (HOne.out _).mono ?_
    rintro e wa ⟨v, rfl, hr, hba⟩
    obtain ⟨A1, c1, rfl, -, -, -⟩ := hr
    replace HA := Lib.hid (HA.out.below hba LA.out)
    replace LA := Lib.hid (Nat.lt_of_lt_of_le LA.out hba.size)
    replace HB := Lib.hid (HB.out.below hba LB.out)
    replace LB := Lib.hid (Nat.lt_of_lt_of_le LB.out hba.size)
    replace HS := Lib.hid (HS.out.below hba LS.out)
    replace LS := Lib.hid (Nat.lt_of_lt_of_le LS.out hba.size)
    replace HR := Lib.hid (HR.out.below hba LR.out)
    replace LR := Lib.hid (Nat.lt_of_lt_of_le LR.out hba.size)
    replace HZ := Lib.hid (HZ.out.below hba LZ.out)
    replace LZ := Lib.hid (Nat.lt_of_lt_of_le LZ.out hba.size)
    replace HBel := Lib.hid (HBel.out.trans (hba.mono HBs.out))
    replace HBs := Lib.hid (Nat.le_trans HBs.out hba.size)
    clear hba
    obtain ⟨n1, hn1⟩ : ∃ n1, (dig (A + 1)).length = n1 := ⟨_, rfl⟩
    have hov := dig_over (n := A + 1)
    rw [hn1] at hov ⊢
    clear hn1
    by_cases hoA : A + 1 < 18446744073709551616 ^ 4
    · have hn : ¬ (16 : Int) < (n1 : Int) := by have : ¬ 16 < n1 := fun h => hov.1 h hoA; omega
      have HoA := Lib.hid hoA
      clear hov hoA
      obtain ⟨t0, t1, t2, t3⟩ := at_num HB.out HCS.out
      simp only [Nat.zero_add] at t1 t2 t3
      go_wp2_with fail
      clear t0 t1 t2 t3
      refine (one_calls S _ HSl.out).mono ?_
      rintro e wb ⟨v2, rfl, hr2, hbb⟩
      obtain ⟨A2, c2, rfl, -, -, -⟩ := hr2
      replace HA := Lib.hid (HA.out.below hbb LA.out)
      replace LA := Lib.hid (Nat.lt_of_lt_of_le LA.out hbb.size)
      replace HB := Lib.hid (HB.out.below hbb LB.out)
      replace LB := Lib.hid (Nat.lt_of_lt_of_le LB.out hbb.size)
      replace HS := Lib.hid (HS.out.below hbb LS.out)
      replace LS := Lib.hid (Nat.lt_of_lt_of_le LS.out hbb.size)
      replace HR := Lib.hid (HR.out.below hbb LR.out)
      replace LR := Lib.hid (Nat.lt_of_lt_of_le LR.out hbb.size)
      replace HZ := Lib.hid (HZ.out.below hbb LZ.out)
      replace LZ := Lib.hid (Nat.lt_of_lt_of_le LZ.out hbb.size)
      replace HBel := Lib.hid (HBel.out.trans (hbb.mono HBs.out))
      replace HBs := Lib.hid (Nat.le_trans HBs.out hbb.size)
      clear hbb
      obtain ⟨n2, hn2⟩ : ∃ n2, (dig (S + 1)).length = n2 := ⟨_, rfl⟩
      have hov := dig_over (n := S + 1)
      rw [hn2] at hov ⊢
      clear hn2
      by_cases hoS : S + 1 < 18446744073709551616 ^ 4
      · have hn2 : ¬ (16 : Int) < (n2 : Int) := by have : ¬ 16 < n2 := fun h => hov.1 h hoS; omega
        have HoS := Lib.hid hoS
        clear hov hoS
        go_upto_region 8 with fail
        have hS : ∀ X, Below wb.heap.size wb X → ((X.cell? ⟨w.heap.size + 1 + 1, 0, none⟩ = some (.int .u64 (limb S 0)) ∧ X.cell? ⟨w.heap.size + 1 + 1, 1, none⟩ = some (.int .u64 (limb S 1)) ∧ X.cell? ⟨w.heap.size + 1 + 1, 2, none⟩ = some (.int .u64 (limb S 2)) ∧ X.cell? ⟨w.heap.size + 1 + 1, 3, none⟩ = some (.int .u64 (limb S 3))) ∧ (X.cell? ⟨w.heap.size, 0, none⟩ = some (.int .u64 (limb A 0)) ∧ X.cell? ⟨w.heap.size, 1, none⟩ = some (.int .u64 (limb A 1)) ∧ X.cell? ⟨w.heap.size, 2, none⟩ = some (.int .u64 (limb A 2)) ∧ X.cell? ⟨w.heap.size, 3, none⟩ = some (.int .u64 (limb A 3))) ∧ (X.cell? ⟨w.heap.size + 1, 0, none⟩ = some (.int .u64 (limb S 0)) ∧ X.cell? ⟨w.heap.size + 1, 1, none⟩ = some (.int .u64 (limb S 1)) ∧ X.cell? ⟨w.heap.size + 1, 2, none⟩ = some (.int .u64 (limb S 2)) ∧ X.cell? ⟨w.heap.size + 1, 3, none⟩ = some (.int .u64 (limb S 3)))) := fun X h => ⟨by simpa only [Nat.zero_add] using at_num (HS.out.below h LS.out) HCS.out, by simpa only [Nat.zero_add] using at_num (HA.out.below h LA.out) HCA.out, by simpa only [Nat.zero_add] using at_num (HB.out.below h LB.out) HCS.out⟩
        have HSx := Lib.hid hS
        clear hS
        have h1 := fun X => gives_of (rowof_calls S X HSl.out)
        have h2 := fun X => one_calls A X HAl.out
        have h3 := fun X => one_calls S X HSl.out
        unfold bigN big at h1 h2 h3
        have HRs := Lib.hid h1
        have HOa := Lib.hid h2
        have HOs := Lib.hid h3
        clear h1 h2 h3
        have hB0 := (Below.refl wb.heap.size wb).drew
        have HT0 : Hid (∀ X, Below wb.drew.heap.size wb.drew X → Below wb.heap.size wb X) := Lib.hid (fun X h => hB0.trans h)
        have hll : A + 1 < 18446744073709551616 ^ 8 := Nat.lt_trans HoA.out (by decide)
        have hls : S + 1 < 18446744073709551616 ^ 8 := Nat.lt_trans HoS.out (by decide)
        have hlm : S * (A + 1) < 18446744073709551616 ^ 8 := by
          rw [show 18446744073709551616 ^ 8 = 18446744073709551616 ^ 4 * 18446744073709551616 ^ 4 by rw [← Nat.pow_add]]
          exact Nat.mul_lt_mul'' HSl.out HoA.out
        have HM := Lib.hid (fun v v' X (h : Row X v (dig S)) (h' : Row X v' (dig (A + 1))) => gives_of (mul_calls v v' S (A + 1) X h h' (dig_small HSl.out) (dig_small HoA.out)))
        have hDv := fun v v' X (h : Row X v (dig (S * (A + 1)))) (h' : Row X v' (dig (S + 1))) => refdiv_calls v v' (S * (A + 1)) (S + 1) X h h' (dig_small5 hlm) (dig_small5 hls) (Nat.succ_pos S)
        rw [HQe.out] at hDv
        have HDv := Lib.hid hDv
        clear hDv hll hls hlm
        go_region_held3 (fun X => ((X.cell? ⟨w.heap.size + 1 + 1, 0, none⟩ = some (.int .u64 (limb S 0)) ∧ X.cell? ⟨w.heap.size + 1 + 1, 1, none⟩ = some (.int .u64 (limb S 1)) ∧ X.cell? ⟨w.heap.size + 1 + 1, 2, none⟩ = some (.int .u64 (limb S 2)) ∧ X.cell? ⟨w.heap.size + 1 + 1, 3, none⟩ = some (.int .u64 (limb S 3))) ∧ (X.cell? ⟨w.heap.size, 0, none⟩ = some (.int .u64 (limb A 0)) ∧ X.cell? ⟨w.heap.size, 1, none⟩ = some (.int .u64 (limb A 1)) ∧ X.cell? ⟨w.heap.size, 2, none⟩ = some (.int .u64 (limb A 2)) ∧ X.cell? ⟨w.heap.size, 3, none⟩ = some (.int .u64 (limb A 3))) ∧ (X.cell? ⟨w.heap.size + 1, 0, none⟩ = some (.int .u64 (limb S 0)) ∧ X.cell? ⟨w.heap.size + 1, 1, none⟩ = some (.int .u64 (limb S 1)) ∧ X.cell? ⟨w.heap.size + 1, 2, none⟩ = some (.int .u64 (limb S 2)) ∧ X.cell? ⟨w.heap.size + 1, 3, none⟩ = some (.int .u64 (limb S 3)))))
          (first | with_reducible exact HSx.out _ hB5 | with_reducible exact HSx.out _ hB4 | with_reducible exact HSx.out _ hB3 | with_reducible exact HSx.out _ hB2 | with_reducible exact HSx.out _ hB1 | with_reducible exact HSx.out _ hB0)
          (first
            | (go_at_call 37; with_reducible refine (HRs.out _).mono ?_; rintro e x1 ⟨v1, rfl, r1, hc1⟩; have hB1 := HT0.out _ hc1)
            | (go_at_call 62; with_reducible refine (HOa.out _).mono ?_; rintro e x2 ⟨v2, rfl, r2, hc2⟩; have hB2 := hB1.trans (hc2.mono hB1.size); have r1b := Row.below r1 hc2)
            | (go_at_call 64; refine (HM.out v1 v2 _ r1b r2).mono ?_; rintro e x3 ⟨v3, rfl, r3, hc3⟩; have hB3 := hB2.trans (hc3.mono hB2.size))
            | (go_at_call 62; with_reducible refine (HOs.out _).mono ?_; rintro e x4 ⟨v4, rfl, r4, hc4⟩; have hB4 := hB3.trans (hc4.mono hB3.size); have r3b := Row.below r3 hc4)
            | (go_at_call 63; refine (HDv.out v3 v4 _ r3b r4).mono ?_; rintro e x5 ⟨vq, vr, rfl, rq, rr, hc5⟩; have hB5 := hB4.trans (hc5.mono hB4.size)))
        clear hc1 hc2 hc3 hc4 hc5 r1 r1b r2 r3 r3b r4 rr hB0 hB1 hB2 hB3 hB4
        replace HA := Lib.hid (HA.out.below hB5 LA.out)
        replace LA := Lib.hid (Nat.lt_of_lt_of_le LA.out hB5.size)
        replace HB := Lib.hid (HB.out.below hB5 LB.out)
        replace LB := Lib.hid (Nat.lt_of_lt_of_le LB.out hB5.size)
        replace HS := Lib.hid (HS.out.below hB5 LS.out)
        replace LS := Lib.hid (Nat.lt_of_lt_of_le LS.out hB5.size)
        replace HR := Lib.hid (HR.out.below hB5 LR.out)
        replace LR := Lib.hid (Nat.lt_of_lt_of_le LR.out hB5.size)
        replace HZ := Lib.hid (HZ.out.below hB5 LZ.out)
        replace LZ := Lib.hid (Nat.lt_of_lt_of_le LZ.out hB5.size)
        replace HBel := Lib.hid (HBel.out.trans (hB5.mono HBs.out))
        replace HBs := Lib.hid (Nat.le_trans HBs.out hB5.size)
        clear hB5
        have Rq := Lib.hid rq
        clear rq
        have hqf := Nat.lt_of_le_of_lt HQA.out HAl.out
        have hI := fun v X (h : Row X v (dig q)) => int_calls v q X h (dig_small hqf)
        have e1 : kept q = q := if_pos hqf
        have e2 : okB q = true := decide_eq_true hqf
        simp only [intV_kept, e1, e2, BNq.out] at hI
        have HI := Lib.hid hI
        clear hI e1 e2 hqf
        go_wp2_with fail
        refine (HI.out vq _ Rq.out).mono ?_
        rintro e wq3 ⟨rfl, hb3⟩
        replace HA := Lib.hid (HA.out.below hb3 LA.out)
        replace LA := Lib.hid (Nat.lt_of_lt_of_le LA.out hb3.size)
        replace HB := Lib.hid (HB.out.below hb3 LB.out)
        replace LB := Lib.hid (Nat.lt_of_lt_of_le LB.out hb3.size)
        replace HS := Lib.hid (HS.out.below hb3 LS.out)
        replace LS := Lib.hid (Nat.lt_of_lt_of_le LS.out hb3.size)
        replace HR := Lib.hid (HR.out.below hb3 LR.out)
        replace LR := Lib.hid (Nat.lt_of_lt_of_le LR.out hb3.size)
        replace HZ := Lib.hid (HZ.out.below hb3 LZ.out)
        replace LZ := Lib.hid (Nat.lt_of_lt_of_le LZ.out hb3.size)
        replace Rq := Lib.hid (Row.below Rq.out hb3)
        replace HBel := Lib.hid (HBel.out.trans (hb3.mono HBs.out))
        replace HBs := Lib.hid (Nat.le_trans HBs.out hb3.size)
        clear hb3
        have HT : Hid ((wq3.alloc (obj4 0 0 0 0)).there wq3.heap.size 0 cq.toArray.size) := Lib.hid (there_newC wq3 LNq.out)
        go_upto_region 10 with (first | refine wpList_store_mid rfl 28 _ _ rfl wq3.heap.size 0 cq.toArray rfl rfl HT.out IAq.out OOq.out ?_)
        have EA_I := Lib.hid (Nat.ne_of_lt LA.out)
        have EB_I := Lib.hid (Nat.ne_of_lt LB.out)
        have ES_I := Lib.hid (Nat.ne_of_lt LS.out)
        have ER_I := Lib.hid (Nat.ne_of_lt LR.out)
        have EZ_I := Lib.hid (Nat.ne_of_lt LZ.out)
        have GI := Lib.hid HBs.out
        obtain ⟨N1, N2, N3⟩ := newC_facts wq3 LNq.out
        obtain ⟨wq4, hW⟩ : ∃ W2, W2 = newC wq3 cq := ⟨_, rfl⟩
        rw [← hW] at N1 N2 N3
        replace HA := Lib.hid (HA.out.below N2 LA.out)
        replace LA := Lib.hid (Nat.lt_of_lt_of_le LA.out N2.size)
        replace HB := Lib.hid (HB.out.below N2 LB.out)
        replace LB := Lib.hid (Nat.lt_of_lt_of_le LB.out N2.size)
        replace HS := Lib.hid (HS.out.below N2 LS.out)
        replace LS := Lib.hid (Nat.lt_of_lt_of_le LS.out N2.size)
        replace HR := Lib.hid (HR.out.below N2 LR.out)
        replace LR := Lib.hid (Nat.lt_of_lt_of_le LR.out N2.size)
        replace HZ := Lib.hid (HZ.out.below N2 LZ.out)
        replace LZ := Lib.hid (Nat.lt_of_lt_of_le LZ.out N2.size)
        replace Rq := Lib.hid (Row.below Rq.out N2)
        replace HBel := Lib.hid (HBel.out.trans (N2.mono HBs.out))
        replace HBs := Lib.hid (Nat.le_trans HBs.out N2.size)
        have LI : Hid (wq3.heap.size < wq4.heap.size) := Lib.hid (by rw [N3]; omega)
        have HI := Lib.hid N1
        unfold newC at hW
        rw [← hW]
        clear hW N1 N2 N3 HT
        go_upto_region 12 with fail
        have h1 := fun X => gives_of (rowof_calls A X HAl.out)
        rw [BNA.out] at h1
        have HRa := Lib.hid h1
        clear h1
        go_wp2_with (first | refine wpList_load_mid rfl 28 _ rfl (w.heap.size) 0 rfl cA _ HA.out.1 Try.underlying28 rfl IIA.out ?_)
        refine (HRa.out _).mono ?_
        rintro e y1 ⟨v6, rfl, r6, hd1⟩
        replace HA := Lib.hid (HA.out.below hd1 LA.out)
        replace LA := Lib.hid (Nat.lt_of_lt_of_le LA.out hd1.size)
        replace HB := Lib.hid (HB.out.below hd1 LB.out)
        replace LB := Lib.hid (Nat.lt_of_lt_of_le LB.out hd1.size)
        replace HS := Lib.hid (HS.out.below hd1 LS.out)
        replace LS := Lib.hid (Nat.lt_of_lt_of_le LS.out hd1.size)
        replace HR := Lib.hid (HR.out.below hd1 LR.out)
        replace LR := Lib.hid (Nat.lt_of_lt_of_le LR.out hd1.size)
        replace HZ := Lib.hid (HZ.out.below hd1 LZ.out)
        replace LZ := Lib.hid (Nat.lt_of_lt_of_le LZ.out hd1.size)
        replace HI := Lib.hid (HI.out.below hd1 LI.out)
        replace LI := Lib.hid (Nat.lt_of_lt_of_le LI.out hd1.size)
        replace Rq := Lib.hid (Row.below Rq.out hd1)
        replace HBel := Lib.hid (HBel.out.trans (hd1.mono HBs.out))
        replace HBs := Lib.hid (Nat.le_trans HBs.out hd1.size)
        clear hd1
        have hgt : ¬ (0 < cmpI q A) := of_decide_eq_false (by rw [cmpI_pos]; have := HQA.out; simp; omega)
        have R6 := Lib.hid r6
        clear r6
        go_wp2_with fail
        refine (cmp_calls vq v6 q A _ Rq.out R6.out).mono ?_
        rintro e y2 ⟨rfl, rfl⟩
        have HT : Hid (y1.there (w.heap.size + 1 + 1 + 1) 0 cq.toArray.size) := Lib.hid (show y1.there (w.heap.size + 1 + 1 + 1) 0 cq.length by rw [LNq.out, ← LN0.out]; exact HR.out.2)
        have HRq := Lib.hid (HR.out.cells cq (LNq.out.trans LN0.out.symm)).1
        have HBf := Lib.hid (below_range (show w.heap.size ≤ w.heap.size + 1 + 1 + 1 by omega) cq 0 _ HBel.out)
        go_wp2_with (first | refine wpList_load_mid rfl 28 _ rfl (wq3.heap.size) 0 rfl cq _ HI.out.1 Try.underlying28 rfl IIq.out ?_ | refine wpList_store_mid rfl 28 _ _ rfl (w.heap.size + 1 + 1 + 1) 0 cq.toArray rfl rfl HT.out IAq.out OOq.out ?_)
        exact bodyPost_ret (v := .tuple #[.agg cq.toArray, .int .i64 0]) (results_row_tmp rfl _ _ (w.heap.size + 1 + 1 + 1) cq _ _ rfl rfl HRq.out Try.underlying28 rfl IIq.out) rfl ⟨⟨fun _ => by rw [HQe.out, BNq.out], fun h => absurd ⟨HoA.out, HoS.out⟩ h⟩, HBf.out⟩
      · have hn2 : (16 : Int) < (n2 : Int) := by have := hov.2 hoS; omega
        have HoS := Lib.hid (show ¬ outOk A S from fun h => hoS h.2)
        clear hov hoS
        have HT : Hid (wb.there (w.heap.size + 1 + 1 + 1) 0 c0.toArray.size) := Lib.hid (show wb.there (w.heap.size + 1 + 1 + 1) 0 c0.length by rw [LN0.out, ← LN0.out]; exact HR.out.2)
        have HRq := Lib.hid (HR.out.cells c0 rfl).1
        have HBf := Lib.hid (below_range (show w.heap.size ≤ w.heap.size + 1 + 1 + 1 by omega) c0 0 _ HBel.out)
        go_wp2_with (first | refine wpList_load_mid rfl 28 _ rfl (W.heap.size) 0 rfl c0 _ HZ.out.1 Try.underlying28 rfl II0.out ?_ | refine wpList_store_mid rfl 28 _ _ rfl (w.heap.size + 1 + 1 + 1) 0 c0.toArray rfl rfl HT.out IA0.out OO0.out ?_)
        exact bodyPost_ret (v := .tuple #[.agg c0.toArray, .int .i64 2]) (results_row_tmp rfl _ _ (w.heap.size + 1 + 1 + 1) c0 _ _ rfl rfl HRq.out Try.underlying28 rfl II0.out) rfl ⟨⟨fun h => absurd h HoS.out, fun _ => by rw [BN0.out]⟩, HBf.out⟩
    · have hn : (16 : Int) < (n1 : Int) := by have := hov.2 hoA; omega
      have HoA := Lib.hid (show ¬ outOk A S from fun h => hoA h.1)
      clear hov hoA
      have HT : Hid (wa.there (w.heap.size + 1 + 1 + 1) 0 c0.toArray.size) := Lib.hid (show wa.there (w.heap.size + 1 + 1 + 1) 0 c0.length by rw [LN0.out, ← LN0.out]; exact HR.out.2)
      have HRq := Lib.hid (HR.out.cells c0 rfl).1
      have HBf := Lib.hid (below_range (show w.heap.size ≤ w.heap.size + 1 + 1 + 1 by omega) c0 0 _ HBel.out)
      go_wp2_with (first | refine wpList_load_mid rfl 28 _ rfl (W.heap.size) 0 rfl c0 _ HZ.out.1 Try.underlying28 rfl II0.out ?_ | refine wpList_store_mid rfl 28 _ _ rfl (w.heap.size + 1 + 1 + 1) 0 c0.toArray rfl rfl HT.out IA0.out OO0.out ?_)
      exact bodyPost_ret (v := .tuple #[.agg c0.toArray, .int .i64 2]) (results_row_tmp rfl _ _ (w.heap.size + 1 + 1 + 1) c0 _ _ rfl rfl HRq.out Try.underlying28 rfl II0.out) rfl ⟨⟨fun h => absurd h HoA.out, fun _ => by rw [BN0.out]⟩, HBf.out⟩
end Go.Proofs.Ytchjjbklkmfelaa

/- What there is beyond what all shares would pay, by the document. -/
namespace Go.Proofs.Ytchjjbklkmfelaa
open Go.RowKit Go.Lib Go.Deep
set_option linter.unusedVariables false
set_option linter.unusedSimpArgs false

set_option maxHeartbeats 4000000 in
set_option maxRecDepth 100000 in
theorem rmargin_calls (cs : List Value) (w : World) (hcs : Typed stK cs) :
    Calls Try.prog 29 #[.agg cs.toArray] w fun e w' => e = .returned (.tuple #[bigN (margN (numAt cs 0 + numAt cs 4) (numAt cs 12)), .bool (margB (numAt cs 0 + numAt cs 4) (numAt cs 12))]) ∧ Below w.heap.size w w' := by
  have hlen : cs.length = 16 := by rw [hcs.length]; rfl
  obtain ⟨hC, hCl⟩ := pic_cells hcs 0 (by omega)
  obtain ⟨hD, hDl⟩ := pic_cells hcs 4 (by omega)
  obtain ⟨hS, hSl⟩ := pic_cells hcs 12 (by omega)
  have A0 := At.new w cs.toArray 52
  have P0 := A0.part 0 4 (by simp; omega)
  have P4 := A0.part 4 4 (by simp; omega)
  have P12 := A0.part 12 4 (by simp; omega)
  simp only [List.toList_toArray, Nat.zero_add] at P0 P4 P12
  rw [hC] at P0
  rw [hD] at P4
  rw [hS] at P12
  obtain ⟨C, hCe⟩ : ∃ C, numAt cs 0 = C := ⟨_, rfl⟩
  obtain ⟨D, hDe⟩ : ∃ D, numAt cs 4 = D := ⟨_, rfl⟩
  obtain ⟨S, hSe⟩ : ∃ S, numAt cs 12 = S := ⟨_, rfl⟩
  rw [hCe] at hCl P0
  rw [hDe] at hDl P4
  rw [hSe] at hSl P12
  rw [hCe, hDe, hSe]
  clear A0 hC hD hS hcs hlen hCe hDe hSe
  have h1 := fun w => radd_calls C D w hCl hDl
  obtain ⟨T, hT⟩ : ∃ T, C + D = T := ⟨_, rfl⟩
  rw [hT] at h1 ⊢
  clear hT
  obtain ⟨q, hqq⟩ : ∃ q, S * (T + 1) / (S + 1) = q := ⟨_, rfl⟩
  have hqT : q ≤ T := by rw [← hqq]; exact worth_le
  have hlz := fun (h : S ≠ 0) => limbs_some hSl h
  have HLz := Lib.hid hlz
  have h2 : T < 18446744073709551616 ^ 4 → S ≠ 0 → outOk T S → ∀ w, Calls Try.prog 47 #[bigN T, bigN S, bigN S] w fun e w' => e = .returned (.tuple #[bigN q, .int .i64 0]) ∧ Below w.heap.size w w' := fun hT hS ho w => by
    refine (rout_calls T S w hT hSl hS).mono ?_
    rintro e w' ⟨⟨h, -⟩, hb⟩
    exact ⟨by rw [h ho, hqq], hb⟩
  have h3 : T < 18446744073709551616 ^ 4 → S ≠ 0 → ¬ outOk T S → ∀ w, Calls Try.prog 47 #[bigN T, bigN S, bigN S] w fun e w' => e = .returned (.tuple #[bigN 0, .int .i64 2]) ∧ Below w.heap.size w w' := fun hT hS ho w => by
    refine (rout_calls T S w hT hSl hS).mono ?_
    rintro e w' ⟨⟨-, h⟩, hb⟩
    exact ⟨h ho, hb⟩
  have h4 : T < 18446744073709551616 ^ 4 → ∀ w, Calls Try.prog 48 #[bigN T, bigN q] w fun e w' => e = .returned (.tuple #[bigN (T - q), .bool true]) ∧ Below w.heap.size w w' := fun hT w => rsub_calls T q w hT hqT
  obtain ⟨r, hr⟩ : ∃ r, T - q = r := ⟨_, rfl⟩
  rw [hr] at h4
  have HQe := Lib.hid hqq
  have HRe := Lib.hid hr
  clear hqq hqT hr hlz hCl hDl hSl
  go_enter Try.func29, Try.ntmps29
  have B0 := Box.zero (w.alloc (.cells cs.toArray 52))
  have hq : Below w.heap.size w ((w.alloc (.cells cs.toArray 52)).alloc (obj4 0 0 0 0)) := ((Below.refl _ _).alloc (Nat.le_refl _) _).alloc (by simp) _
  have P0' := P0.alloc (obj4 0 0 0 0)
  have P4' := P4.alloc (obj4 0 0 0 0)
  have P12' := P12.alloc (obj4 0 0 0 0)
  simp only [World.size_alloc] at B0
  obtain ⟨W, hW⟩ : ∃ W, W = (w.alloc (.cells cs.toArray 52)).alloc (obj4 0 0 0 0) := ⟨_, rfl⟩
  have hsz : W.heap.size = w.heap.size + 2 := by rw [hW]; simp
  rw [← hW] at B0 hq P0' P4' P12'
  clear P0 P4 P12
  have HC := Lib.hid P0'
  have HD := Lib.hid P4'
  have HS := Lib.hid P12'
  have HR := Lib.hid (box_at B0)
  have LC : Hid (w.heap.size < W.heap.size) := Lib.hid (by omega)
  have LD := LC
  have LS := LC
  have LR := Lib.hid B0.lt
  have HBel := Lib.hid hq
  have HBs := Lib.hid hq.size
  clear B0 hq P0' P4' P12' hsz
  go_upto_region 1 with fail
  rw [← hW]
  clear hW
  obtain ⟨cC, hc⟩ : ∃ c, cells4L (C) = c := ⟨_, rfl⟩
  have BNC : Hid (bigN (C) = .agg cC.toArray) := Lib.hid (by rw [← hc]; rfl)
  have IIC : Hid ((Try.prog.info? 28).map (·.size) = some cC.length) := Lib.hid (by rw [← hc]; exact int_info)
  have IAC : Hid ((Try.prog.info? 28).map (·.size) = some cC.toArray.size) := Lib.hid (by rw [← hc]; exact int_info)
  have OOC : Hid (cC.toArray.all (·.oneCell') = true) := Lib.hid (by rw [← hc]; exact all4 _)
  have LNC : Hid (cC.length = 4) := Lib.hid (by rw [← hc]; rfl)
  rw [hc] at HC
  have HCC := Lib.hid hc
  clear hc
  obtain ⟨cD, hc⟩ : ∃ c, cells4L (D) = c := ⟨_, rfl⟩
  have BND : Hid (bigN (D) = .agg cD.toArray) := Lib.hid (by rw [← hc]; rfl)
  have IID : Hid ((Try.prog.info? 28).map (·.size) = some cD.length) := Lib.hid (by rw [← hc]; exact int_info)
  have IAD : Hid ((Try.prog.info? 28).map (·.size) = some cD.toArray.size) := Lib.hid (by rw [← hc]; exact int_info)
  have OOD : Hid (cD.toArray.all (·.oneCell') = true) := Lib.hid (by rw [← hc]; exact all4 _)
  have LND : Hid (cD.length = 4) := Lib.hid (by rw [← hc]; rfl)
  rw [hc] at HD
  have HCD := Lib.hid hc
  clear hc
  obtain ⟨cS, hc⟩ : ∃ c, cells4L (S) = c := ⟨_, rfl⟩
  have BNS : Hid (bigN (S) = .agg cS.toArray) := Lib.hid (by rw [← hc]; rfl)
  have IIS : Hid ((Try.prog.info? 28).map (·.size) = some cS.length) := Lib.hid (by rw [← hc]; exact int_info)
  have IAS : Hid ((Try.prog.info? 28).map (·.size) = some cS.toArray.size) := Lib.hid (by rw [← hc]; exact int_info)
  have OOS : Hid (cS.toArray.all (·.oneCell') = true) := Lib.hid (by rw [← hc]; exact all4 _)
  have LNS : Hid (cS.length = 4) := Lib.hid (by rw [← hc]; rfl)
  rw [hc] at HS
  have HCS := Lib.hid hc
  clear hc
  obtain ⟨c0, hc⟩ : ∃ c, cells4L (0) = c := ⟨_, rfl⟩
  have BN0 : Hid (bigN (0) = .agg c0.toArray) := Lib.hid (by rw [← hc]; rfl)
  have II0 : Hid ((Try.prog.info? 28).map (·.size) = some c0.length) := Lib.hid (by rw [← hc]; exact int_info)
  have IA0 : Hid ((Try.prog.info? 28).map (·.size) = some c0.toArray.size) := Lib.hid (by rw [← hc]; exact int_info)
  have OO0 : Hid (c0.toArray.all (·.oneCell') = true) := Lib.hid (by rw [← hc]; exact all4 _)
  have LN0 : Hid (c0.length = 4) := Lib.hid (by rw [← hc]; rfl)
  rw [hc] at HR
  have HC0 := Lib.hid hc
  clear hc
  obtain ⟨cT, hc⟩ : ∃ c, cells4L (T) = c := ⟨_, rfl⟩
  have BNT : Hid (bigN (T) = .agg cT.toArray) := Lib.hid (by rw [← hc]; rfl)
  have IIT : Hid ((Try.prog.info? 28).map (·.size) = some cT.length) := Lib.hid (by rw [← hc]; exact int_info)
  have IAT : Hid ((Try.prog.info? 28).map (·.size) = some cT.toArray.size) := Lib.hid (by rw [← hc]; exact int_info)
  have OOT : Hid (cT.toArray.all (·.oneCell') = true) := Lib.hid (by rw [← hc]; exact all4 _)
  have LNT : Hid (cT.length = 4) := Lib.hid (by rw [← hc]; rfl)
  have HCT := Lib.hid hc
  clear hc
  obtain ⟨cq, hc⟩ : ∃ c, cells4L (q) = c := ⟨_, rfl⟩
  have BNq : Hid (bigN (q) = .agg cq.toArray) := Lib.hid (by rw [← hc]; rfl)
  have IIq : Hid ((Try.prog.info? 28).map (·.size) = some cq.length) := Lib.hid (by rw [← hc]; exact int_info)
  have IAq : Hid ((Try.prog.info? 28).map (·.size) = some cq.toArray.size) := Lib.hid (by rw [← hc]; exact int_info)
  have OOq : Hid (cq.toArray.all (·.oneCell') = true) := Lib.hid (by rw [← hc]; exact all4 _)
  have LNq : Hid (cq.length = 4) := Lib.hid (by rw [← hc]; rfl)
  have HCq := Lib.hid hc
  clear hc
  obtain ⟨cr, hc⟩ : ∃ c, cells4L (r) = c := ⟨_, rfl⟩
  have BNr : Hid (bigN (r) = .agg cr.toArray) := Lib.hid (by rw [← hc]; rfl)
  have IIr : Hid ((Try.prog.info? 28).map (·.size) = some cr.length) := Lib.hid (by rw [← hc]; exact int_info)
  have IAr : Hid ((Try.prog.info? 28).map (·.size) = some cr.toArray.size) := Lib.hid (by rw [← hc]; exact int_info)
  have OOr : Hid (cr.toArray.all (·.oneCell') = true) := Lib.hid (by rw [← hc]; exact all4 _)
  have LNr : Hid (cr.length = 4) := Lib.hid (by rw [← hc]; rfl)
  have HCr := Lib.hid hc
  clear hc
  simp only [BNC.out, BND.out] at h1
  simp only [BNT.out, BNS.out, BNq.out, BNr.out, BN0.out] at h2 h3 h4
  have HOut := Lib.hid h2
  have HOut2 := Lib.hid h3
  have HSub := Lib.hid h4
  clear h2 h3 h4
  go_upto_region 2 with fail
  have EC_Z := Lib.hid (Nat.ne_of_lt LC.out)
  have ED_Z := Lib.hid (Nat.ne_of_lt LD.out)
  have ES_Z := Lib.hid (Nat.ne_of_lt LS.out)
  have ER_Z := Lib.hid (Nat.ne_of_lt LR.out)
  have GZ := Lib.hid HBs.out
  have N1 := box_at (Box.zero W)
  have N2 := (Below.refl W.heap.size W).alloc (Nat.le_refl _) (obj4 0 0 0 0)
  have N3 : (W.alloc (obj4 0 0 0 0)).heap.size = W.heap.size + 1 := by simp
  obtain ⟨wq1, hW⟩ : ∃ W2, W.alloc (obj4 0 0 0 0) = W2 := ⟨_, rfl⟩
  rw [hW] at N1 N2 N3
  replace HC := Lib.hid (HC.out.below N2 LC.out)
  replace LC := Lib.hid (Nat.lt_of_lt_of_le LC.out N2.size)
  replace HD := Lib.hid (HD.out.below N2 LD.out)
  replace LD := Lib.hid (Nat.lt_of_lt_of_le LD.out N2.size)
  replace HS := Lib.hid (HS.out.below N2 LS.out)
  replace LS := Lib.hid (Nat.lt_of_lt_of_le LS.out N2.size)
  replace HR := Lib.hid (HR.out.below N2 LR.out)
  replace LR := Lib.hid (Nat.lt_of_lt_of_le LR.out N2.size)
  replace HBel := Lib.hid (HBel.out.trans (N2.mono HBs.out))
  replace HBs := Lib.hid (Nat.le_trans HBs.out N2.size)
  have LZ : Hid (W.heap.size < wq1.heap.size) := Lib.hid (by rw [N3]; omega)
  rw [HC0.out] at N1
  have HZ := Lib.hid N1
  dsimp only [obj4] at hW
  rw [hW]
  clear hW N1 N2 N3
  by_cases hT : T < 18446744073709551616 ^ 4
  · have ek : kept T = T := if_pos hT
    have eo : okB T = true := decide_eq_true hT
    simp only [ek, eo, BNT.out] at h1
    clear ek eo
    have HAdd := Lib.hid h1
    clear h1
    have HT4 := Lib.hid hT
    clear hT
    go_wp2_with (first | refine wpList_load_mid rfl 28 _ rfl (w.heap.size) 0 rfl cC _ HC.out.1 Try.underlying28 rfl IIC.out ?_ | refine wpList_load_mid rfl 28 _ rfl (w.heap.size) 4 rfl cD _ HD.out.1 Try.underlying28 rfl IID.out ?_)
    refine (HAdd.out _).mono ?_
    rintro e wq2 ⟨rfl, hb2⟩
    replace HC := Lib.hid (HC.out.below hb2 LC.out)
    replace LC := Lib.hid (Nat.lt_of_lt_of_le LC.out hb2.size)
    replace HD := Lib.hid (HD.out.below hb2 LD.out)
    replace LD := Lib.hid (Nat.lt_of_lt_of_le LD.out hb2.size)
    replace HS := Lib.hid (HS.out.below hb2 LS.out)
    replace LS := Lib.hid (Nat.lt_of_lt_of_le LS.out hb2.size)
    replace HR := Lib.hid (HR.out.below hb2 LR.out)
    replace LR := Lib.hid (Nat.lt_of_lt_of_le LR.out hb2.size)
    replace HZ := Lib.hid (HZ.out.below hb2 LZ.out)
    replace LZ := Lib.hid (Nat.lt_of_lt_of_le LZ.out hb2.size)
    replace HBel := Lib.hid (HBel.out.trans (hb2.mono HBs.out))
    replace HBs := Lib.hid (Nat.le_trans HBs.out hb2.size)
    clear hb2
    have HT : Hid ((wq2.alloc (obj4 0 0 0 0)).there wq2.heap.size 0 cT.toArray.size) := Lib.hid (there_newC wq2 LNT.out)
    go_upto_region 5 with (first | refine wpList_store_mid rfl 28 _ _ rfl wq2.heap.size 0 cT.toArray rfl rfl HT.out IAT.out OOT.out ?_)
    have EC_U := Lib.hid (Nat.ne_of_lt LC.out)
    have ED_U := Lib.hid (Nat.ne_of_lt LD.out)
    have ES_U := Lib.hid (Nat.ne_of_lt LS.out)
    have ER_U := Lib.hid (Nat.ne_of_lt LR.out)
    have EZ_U := Lib.hid (Nat.ne_of_lt LZ.out)
    have GU := Lib.hid HBs.out
    obtain ⟨N1, N2, N3⟩ := newC_facts wq2 LNT.out
    obtain ⟨wq3, hW⟩ : ∃ W2, W2 = newC wq2 cT := ⟨_, rfl⟩
    rw [← hW] at N1 N2 N3
    replace HC := Lib.hid (HC.out.below N2 LC.out)
    replace LC := Lib.hid (Nat.lt_of_lt_of_le LC.out N2.size)
    replace HD := Lib.hid (HD.out.below N2 LD.out)
    replace LD := Lib.hid (Nat.lt_of_lt_of_le LD.out N2.size)
    replace HS := Lib.hid (HS.out.below N2 LS.out)
    replace LS := Lib.hid (Nat.lt_of_lt_of_le LS.out N2.size)
    replace HR := Lib.hid (HR.out.below N2 LR.out)
    replace LR := Lib.hid (Nat.lt_of_lt_of_le LR.out N2.size)
    replace HZ := Lib.hid (HZ.out.below N2 LZ.out)
    replace LZ := Lib.hid (Nat.lt_of_lt_of_le LZ.out N2.size)
    replace HBel := Lib.hid (HBel.out.trans (N2.mono HBs.out))
    replace HBs := Lib.hid (Nat.le_trans HBs.out N2.size)
    have LU : Hid (wq2.heap.size < wq3.heap.size) := Lib.hid (by rw [N3]; omega)
    have HU := Lib.hid N1
    unfold newC at hW
    rw [← hW]
    clear hW N1 N2 N3 HT
    have hcs := HS.out
    rw [← HCS.out] at hcs
    obtain ⟨s0, s1, s2, s3⟩ := at_cells hcs
    clear hcs
    simp only [Nat.reduceAdd] at s1 s2 s3
    obtain ⟨z0, z1, z2, z3⟩ := at_num HZ.out HC0.out
    simp only [limb_zero, Nat.zero_add] at z0 z1 z2 z3
    by_cases hS : S = 0
    · have HSe := Lib.hid hS
      rw [hS] at s0 s1 s2 s3
      clear hS
      simp only [limb_zero] at s0 s1 s2 s3
      go_upto_region 6 with fail
      clear s0 s1 s2 s3 z0 z1 z2 z3
      have HT : Hid (wq3.there (w.heap.size + 1) 0 cT.toArray.size) := Lib.hid (show wq3.there (w.heap.size + 1) 0 cT.length by rw [LNT.out, ← LN0.out]; exact HR.out.2)
      have HRq := Lib.hid (HR.out.cells cT (LNT.out.trans LN0.out.symm)).1
      have HBf := Lib.hid (below_range (show w.heap.size ≤ w.heap.size + 1 by omega) cT 0 _ HBel.out)
      go_wp2_with (first | refine wpList_load_mid rfl 28 _ rfl (wq2.heap.size) 0 rfl cT _ HU.out.1 Try.underlying28 rfl IIT.out ?_ | refine wpList_store_mid rfl 28 _ _ rfl (w.heap.size + 1) 0 cT.toArray rfl rfl HT.out IAT.out OOT.out ?_)
      exact bodyPost_ret (v := .tuple #[.agg cT.toArray, .bool true]) (results_row_tmp rfl _ _ (w.heap.size + 1) cT _ _ rfl rfl HRq.out Try.underlying28 rfl IIT.out) rfl ⟨by unfold margN margB; rw [if_pos HT4.out, if_pos HSe.out, BNT.out]; simp [HT4.out, HSe.out], HBf.out⟩
    · have hlz := HLz.out hS
      have HSn := Lib.hid hS
      clear hS
      go_upto_region 7 with fail
      clear s0 s1 s2 s3 z0 z1 z2 z3 hlz
      by_cases ho : outOk T S
      · have HO := Lib.hid ho
        clear ho
        have HM2 := Lib.hid (HOut.out HT4.out HSn.out HO.out)
        go_wp2_with (first | refine wpList_load_mid rfl 28 _ rfl (wq2.heap.size) 0 rfl cT _ HU.out.1 Try.underlying28 rfl IIT.out ?_ | refine wpList_load_mid rfl 28 _ rfl (w.heap.size) 12 rfl cS _ HS.out.1 Try.underlying28 rfl IIS.out ?_)
        refine (HM2.out _).mono ?_
        rintro e wq4 ⟨rfl, hb4⟩
        replace HC := Lib.hid (HC.out.below hb4 LC.out)
        replace LC := Lib.hid (Nat.lt_of_lt_of_le LC.out hb4.size)
        replace HD := Lib.hid (HD.out.below hb4 LD.out)
        replace LD := Lib.hid (Nat.lt_of_lt_of_le LD.out hb4.size)
        replace HS := Lib.hid (HS.out.below hb4 LS.out)
        replace LS := Lib.hid (Nat.lt_of_lt_of_le LS.out hb4.size)
        replace HR := Lib.hid (HR.out.below hb4 LR.out)
        replace LR := Lib.hid (Nat.lt_of_lt_of_le LR.out hb4.size)
        replace HZ := Lib.hid (HZ.out.below hb4 LZ.out)
        replace LZ := Lib.hid (Nat.lt_of_lt_of_le LZ.out hb4.size)
        replace HU := Lib.hid (HU.out.below hb4 LU.out)
        replace LU := Lib.hid (Nat.lt_of_lt_of_le LU.out hb4.size)
        replace HBel := Lib.hid (HBel.out.trans (hb4.mono HBs.out))
        replace HBs := Lib.hid (Nat.le_trans HBs.out hb4.size)
        clear hb4
        have HT : Hid ((wq4.alloc (obj4 0 0 0 0)).there wq4.heap.size 0 cq.toArray.size) := Lib.hid (there_newC wq4 LNq.out)
        go_upto_region 10 with (first | refine wpList_store_mid rfl 28 _ _ rfl wq4.heap.size 0 cq.toArray rfl rfl HT.out IAq.out OOq.out ?_)
        have EC_Q := Lib.hid (Nat.ne_of_lt LC.out)
        have ED_Q := Lib.hid (Nat.ne_of_lt LD.out)
        have ES_Q := Lib.hid (Nat.ne_of_lt LS.out)
        have ER_Q := Lib.hid (Nat.ne_of_lt LR.out)
        have EZ_Q := Lib.hid (Nat.ne_of_lt LZ.out)
        have EU_Q := Lib.hid (Nat.ne_of_lt LU.out)
        have GQ := Lib.hid HBs.out
        obtain ⟨N1, N2, N3⟩ := newC_facts wq4 LNq.out
        obtain ⟨wq5, hW⟩ : ∃ W2, W2 = newC wq4 cq := ⟨_, rfl⟩
        rw [← hW] at N1 N2 N3
        replace HC := Lib.hid (HC.out.below N2 LC.out)
        replace LC := Lib.hid (Nat.lt_of_lt_of_le LC.out N2.size)
        replace HD := Lib.hid (HD.out.below N2 LD.out)
        replace LD := Lib.hid (Nat.lt_of_lt_of_le LD.out N2.size)
        replace HS := Lib.hid (HS.out.below N2 LS.out)
        replace LS := Lib.hid (Nat.lt_of_lt_of_le LS.out N2.size)
        replace HR := Lib.hid (HR.out.below N2 LR.out)
        replace LR := Lib.hid (Nat.lt_of_lt_of_le LR.out N2.size)
        replace HZ := Lib.hid (HZ.out.below N2 LZ.out)
        replace LZ := Lib.hid (Nat.lt_of_lt_of_le LZ.out N2.size)
        replace HU := Lib.hid (HU.out.below N2 LU.out)
        replace LU := Lib.hid (Nat.lt_of_lt_of_le LU.out N2.size)
        replace HBel := Lib.hid (HBel.out.trans (N2.mono HBs.out))
        replace HBs := Lib.hid (Nat.le_trans HBs.out N2.size)
        have LQ : Hid (wq4.heap.size < wq5.heap.size) := Lib.hid (by rw [N3]; omega)
        have HQ := Lib.hid N1
        unfold newC at hW
        rw [← hW]
        clear hW N1 N2 N3 HT
        have HSb := Lib.hid (HSub.out HT4.out)
        go_wp2_with (first | refine wpList_load_mid rfl 28 _ rfl (wq2.heap.size) 0 rfl cT _ HU.out.1 Try.underlying28 rfl IIT.out ?_ | refine wpList_load_mid rfl 28 _ rfl (wq4.heap.size) 0 rfl cq _ HQ.out.1 Try.underlying28 rfl IIq.out ?_)
        refine (HSb.out _).mono ?_
        rintro e wq6 ⟨rfl, hb6⟩
        replace HC := Lib.hid (HC.out.below hb6 LC.out)
        replace LC := Lib.hid (Nat.lt_of_lt_of_le LC.out hb6.size)
        replace HD := Lib.hid (HD.out.below hb6 LD.out)
        replace LD := Lib.hid (Nat.lt_of_lt_of_le LD.out hb6.size)
        replace HS := Lib.hid (HS.out.below hb6 LS.out)
        replace LS := Lib.hid (Nat.lt_of_lt_of_le LS.out hb6.size)
        replace HR := Lib.hid (HR.out.below hb6 LR.out)
        replace LR := Lib.hid (Nat.lt_of_lt_of_le LR.out hb6.size)
        replace HZ := Lib.hid (HZ.out.below hb6 LZ.out)
        replace LZ := Lib.hid (Nat.lt_of_lt_of_le LZ.out hb6.size)
        replace HU := Lib.hid (HU.out.below hb6 LU.out)
        replace LU := Lib.hid (Nat.lt_of_lt_of_le LU.out hb6.size)
        replace HQ := Lib.hid (HQ.out.below hb6 LQ.out)
        replace LQ := Lib.hid (Nat.lt_of_lt_of_le LQ.out hb6.size)
        replace HBel := Lib.hid (HBel.out.trans (hb6.mono HBs.out))
        replace HBs := Lib.hid (Nat.le_trans HBs.out hb6.size)
        clear hb6
        have HT : Hid (wq6.there (w.heap.size + 1) 0 cr.toArray.size) := Lib.hid (show wq6.there (w.heap.size + 1) 0 cr.length by rw [LNr.out, ← LN0.out]; exact HR.out.2)
        have HRq := Lib.hid (HR.out.cells cr (LNr.out.trans LN0.out.symm)).1
        have HBf := Lib.hid (below_range (show w.heap.size ≤ w.heap.size + 1 by omega) cr 0 _ HBel.out)
        go_wp2_with (first | refine wpList_store_mid rfl 28 _ _ rfl (w.heap.size + 1) 0 cr.toArray rfl rfl HT.out IAr.out OOr.out ?_)
        exact bodyPost_ret (v := .tuple #[.agg cr.toArray, .bool true]) (results_row_tmp rfl _ _ (w.heap.size + 1) cr _ _ rfl rfl HRq.out Try.underlying28 rfl IIr.out) rfl ⟨by unfold margN margB; rw [if_pos HT4.out, if_neg HSn.out, if_pos HO.out, HQe.out, HRe.out, BNr.out]; simp [HT4.out, HO.out], HBf.out⟩
      · have HO := Lib.hid ho
        clear ho
        have HM2 := Lib.hid (HOut2.out HT4.out HSn.out HO.out)
        go_wp2_with (first | refine wpList_load_mid rfl 28 _ rfl (wq2.heap.size) 0 rfl cT _ HU.out.1 Try.underlying28 rfl IIT.out ?_ | refine wpList_load_mid rfl 28 _ rfl (w.heap.size) 12 rfl cS _ HS.out.1 Try.underlying28 rfl IIS.out ?_)
        refine (HM2.out _).mono ?_
        rintro e wq4 ⟨rfl, hb4⟩
        replace HC := Lib.hid (HC.out.below hb4 LC.out)
        replace LC := Lib.hid (Nat.lt_of_lt_of_le LC.out hb4.size)
        replace HD := Lib.hid (HD.out.below hb4 LD.out)
        replace LD := Lib.hid (Nat.lt_of_lt_of_le LD.out hb4.size)
        replace HS := Lib.hid (HS.out.below hb4 LS.out)
        replace LS := Lib.hid (Nat.lt_of_lt_of_le LS.out hb4.size)
        replace HR := Lib.hid (HR.out.below hb4 LR.out)
        replace LR := Lib.hid (Nat.lt_of_lt_of_le LR.out hb4.size)
        replace HZ := Lib.hid (HZ.out.below hb4 LZ.out)
        replace LZ := Lib.hid (Nat.lt_of_lt_of_le LZ.out hb4.size)
        replace HU := Lib.hid (HU.out.below hb4 LU.out)
        replace LU := Lib.hid (Nat.lt_of_lt_of_le LU.out hb4.size)
        replace HBel := Lib.hid (HBel.out.trans (hb4.mono HBs.out))
        replace HBs := Lib.hid (Nat.le_trans HBs.out hb4.size)
        clear hb4
        have HT : Hid ((wq4.alloc (obj4 0 0 0 0)).there wq4.heap.size 0 c0.toArray.size) := Lib.hid (there_newC wq4 LN0.out)
        go_upto_region 8 with (first | refine wpList_store_mid rfl 28 _ _ rfl wq4.heap.size 0 c0.toArray rfl rfl HT.out IA0.out OO0.out ?_)
        have EC_Q := Lib.hid (Nat.ne_of_lt LC.out)
        have ED_Q := Lib.hid (Nat.ne_of_lt LD.out)
        have ES_Q := Lib.hid (Nat.ne_of_lt LS.out)
        have ER_Q := Lib.hid (Nat.ne_of_lt LR.out)
        have EZ_Q := Lib.hid (Nat.ne_of_lt LZ.out)
        have EU_Q := Lib.hid (Nat.ne_of_lt LU.out)
        have GQ := Lib.hid HBs.out
        obtain ⟨N1, N2, N3⟩ := newC_facts wq4 LN0.out
        obtain ⟨wq5, hW⟩ : ∃ W2, W2 = newC wq4 c0 := ⟨_, rfl⟩
        rw [← hW] at N1 N2 N3
        replace HC := Lib.hid (HC.out.below N2 LC.out)
        replace LC := Lib.hid (Nat.lt_of_lt_of_le LC.out N2.size)
        replace HD := Lib.hid (HD.out.below N2 LD.out)
        replace LD := Lib.hid (Nat.lt_of_lt_of_le LD.out N2.size)
        replace HS := Lib.hid (HS.out.below N2 LS.out)
        replace LS := Lib.hid (Nat.lt_of_lt_of_le LS.out N2.size)
        replace HR := Lib.hid (HR.out.below N2 LR.out)
        replace LR := Lib.hid (Nat.lt_of_lt_of_le LR.out N2.size)
        replace HZ := Lib.hid (HZ.out.below N2 LZ.out)
        replace LZ := Lib.hid (Nat.lt_of_lt_of_le LZ.out N2.size)
        replace HU := Lib.hid (HU.out.below N2 LU.out)
        replace LU := Lib.hid (Nat.lt_of_lt_of_le LU.out N2.size)
        replace HBel := Lib.hid (HBel.out.trans (N2.mono HBs.out))
        replace HBs := Lib.hid (Nat.le_trans HBs.out N2.size)
        have LQ : Hid (wq4.heap.size < wq5.heap.size) := Lib.hid (by rw [N3]; omega)
        have HQ := Lib.hid N1
        unfold newC at hW
        rw [← hW]
        clear hW N1 N2 N3 HT
        have HT : Hid (wq5.there (w.heap.size + 1) 0 c0.toArray.size) := Lib.hid (show wq5.there (w.heap.size + 1) 0 c0.length by rw [LN0.out, ← LN0.out]; exact HR.out.2)
        have HRq := Lib.hid (HR.out.cells c0 rfl).1
        have HBf := Lib.hid (below_range (show w.heap.size ≤ w.heap.size + 1 by omega) c0 0 _ HBel.out)
        go_wp2_with (first | refine wpList_load_mid rfl 28 _ rfl (W.heap.size) 0 rfl c0 _ HZ.out.1 Try.underlying28 rfl II0.out ?_ | refine wpList_store_mid rfl 28 _ _ rfl (w.heap.size + 1) 0 c0.toArray rfl rfl HT.out IA0.out OO0.out ?_)
        exact bodyPost_ret (v := .tuple #[.agg c0.toArray, .bool false]) (results_row_tmp rfl _ _ (w.heap.size + 1) c0 _ _ rfl rfl HRq.out Try.underlying28 rfl II0.out) rfl ⟨by unfold margN margB; rw [if_pos HT4.out, if_neg HSn.out, if_neg HO.out, BN0.out]; simp [HSn.out, HO.out], HBf.out⟩
  · have ek : kept T = 0 := if_neg hT
    have eo : okB T = false := decide_eq_false hT
    simp only [ek, eo, BN0.out] at h1
    clear ek eo
    have HAdd := Lib.hid h1
    clear h1
    have HT4 := Lib.hid hT
    clear hT
    go_wp2_with (first | refine wpList_load_mid rfl 28 _ rfl (w.heap.size) 0 rfl cC _ HC.out.1 Try.underlying28 rfl IIC.out ?_ | refine wpList_load_mid rfl 28 _ rfl (w.heap.size) 4 rfl cD _ HD.out.1 Try.underlying28 rfl IID.out ?_)
    refine (HAdd.out _).mono ?_
    rintro e wq2 ⟨rfl, hb2⟩
    replace HC := Lib.hid (HC.out.below hb2 LC.out)
    replace LC := Lib.hid (Nat.lt_of_lt_of_le LC.out hb2.size)
    replace HD := Lib.hid (HD.out.below hb2 LD.out)
    replace LD := Lib.hid (Nat.lt_of_lt_of_le LD.out hb2.size)
    replace HS := Lib.hid (HS.out.below hb2 LS.out)
    replace LS := Lib.hid (Nat.lt_of_lt_of_le LS.out hb2.size)
    replace HR := Lib.hid (HR.out.below hb2 LR.out)
    replace LR := Lib.hid (Nat.lt_of_lt_of_le LR.out hb2.size)
    replace HZ := Lib.hid (HZ.out.below hb2 LZ.out)
    replace LZ := Lib.hid (Nat.lt_of_lt_of_le LZ.out hb2.size)
    replace HBel := Lib.hid (HBel.out.trans (hb2.mono HBs.out))
    replace HBs := Lib.hid (Nat.le_trans HBs.out hb2.size)
    clear hb2
    have HT : Hid ((wq2.alloc (obj4 0 0 0 0)).there wq2.heap.size 0 c0.toArray.size) := Lib.hid (there_newC wq2 LN0.out)
    go_upto_region 3 with (first | refine wpList_store_mid rfl 28 _ _ rfl wq2.heap.size 0 c0.toArray rfl rfl HT.out IA0.out OO0.out ?_)
    have EC_U := Lib.hid (Nat.ne_of_lt LC.out)
    have ED_U := Lib.hid (Nat.ne_of_lt LD.out)
    have ES_U := Lib.hid (Nat.ne_of_lt LS.out)
    have ER_U := Lib.hid (Nat.ne_of_lt LR.out)
    have EZ_U := Lib.hid (Nat.ne_of_lt LZ.out)
    have GU := Lib.hid HBs.out
    obtain ⟨N1, N2, N3⟩ := newC_facts wq2 LN0.out
    obtain ⟨wq3, hW⟩ : ∃ W2, W2 = newC wq2 c0 := ⟨_, rfl⟩
    rw [← hW] at N1 N2 N3
    replace HC := Lib.hid (HC.out.below N2 LC.out)
    replace LC := Lib.hid (Nat.lt_of_lt_of_le LC.out N2.size)
    replace HD := Lib.hid (HD.out.below N2 LD.out)
    replace LD := Lib.hid (Nat.lt_of_lt_of_le LD.out N2.size)
    replace HS := Lib.hid (HS.out.below N2 LS.out)
    replace LS := Lib.hid (Nat.lt_of_lt_of_le LS.out N2.size)
    replace HR := Lib.hid (HR.out.below N2 LR.out)
    replace LR := Lib.hid (Nat.lt_of_lt_of_le LR.out N2.size)
    replace HZ := Lib.hid (HZ.out.below N2 LZ.out)
    replace LZ := Lib.hid (Nat.lt_of_lt_of_le LZ.out N2.size)
    replace HBel := Lib.hid (HBel.out.trans (N2.mono HBs.out))
    replace HBs := Lib.hid (Nat.le_trans HBs.out N2.size)
    have LU : Hid (wq2.heap.size < wq3.heap.size) := Lib.hid (by rw [N3]; omega)
    have HU := Lib.hid N1
    unfold newC at hW
    rw [← hW]
    clear hW N1 N2 N3 HT
    have HT : Hid (wq3.there (w.heap.size + 1) 0 c0.toArray.size) := Lib.hid (show wq3.there (w.heap.size + 1) 0 c0.length by rw [LN0.out, ← LN0.out]; exact HR.out.2)
    have HRq := Lib.hid (HR.out.cells c0 rfl).1
    have HBf := Lib.hid (below_range (show w.heap.size ≤ w.heap.size + 1 by omega) c0 0 _ HBel.out)
    go_wp2_with (first | refine wpList_load_mid rfl 28 _ rfl (W.heap.size) 0 rfl c0 _ HZ.out.1 Try.underlying28 rfl II0.out ?_ | refine wpList_store_mid rfl 28 _ _ rfl (w.heap.size + 1) 0 c0.toArray rfl rfl HT.out IA0.out OO0.out ?_)
    exact bodyPost_ret (v := .tuple #[.agg c0.toArray, .bool false]) (results_row_tmp rfl _ _ (w.heap.size + 1) c0 _ _ rfl rfl HRq.out Try.underlying28 rfl II0.out) rfl ⟨by unfold margN margB; rw [if_neg HT4.out, BN0.out]; simp [HT4.out], HBf.out⟩
end Go.Proofs.Ytchjjbklkmfelaa
