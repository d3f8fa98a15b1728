/- The chapter's example (sponsionlaw28's lives); what doesn't fit, of any picture, is the document's (its AuditChecks). -/
import Derived.Test.YtchjjbklkmfelaaAud6
import Derived.Test.YtchjjbklkmfelaaAud7
namespace Go.Proofs.Ytchjjbklkmfelaa
open Go.RowKit Go.Lib Go.Deep
set_option linter.unusedVariables false
set_option linter.unusedSimpArgs false

theorem typed_u64s (l : List Nat) (h : ∀ x ∈ l, x < 18446744073709551616) : Typed (List.replicate l.length (some IntKind.u64)) (List.map (fun x : Nat => Value.int .u64 (x : Int)) l) := by
  induction l with
  | nil => rfl
  | cons a l ih =>
    refine ⟨_, _, rfl, ⟨_, rfl, ?_⟩, ih fun x hx => h x (by simp [hx])⟩
    have := h a (by simp)
    simp [Lit.wf, IntKind.min, IntKind.max, IntKind.signed, IntKind.bits]
    omega
def picZ : List Value := (List.replicate 164 0).map fun x : Nat => Value.int .u64 (x : Int)
def picO : List Value := (List.replicate 24 0 ++ (1 :: List.replicate 139 0)).map fun x : Nat => Value.int .u64 (x : Int)
set_option maxRecDepth 100000 in
theorem picZ_typed : Typed picK picZ := typed_u64s (List.replicate 164 0) (fun x hx => by rw [List.eq_of_mem_replicate hx]; decide)
set_option maxRecDepth 100000 in
theorem picO_typed : Typed picK picO := by
  have h := typed_u64s (List.replicate 24 0 ++ (1 :: List.replicate 139 0)) (fun x hx => by
    rw [List.mem_append, List.mem_cons] at hx
    rcases hx with hx | rfl | hx
    · rw [List.eq_of_mem_replicate hx]; decide
    · decide
    · rw [List.eq_of_mem_replicate hx]; decide)
  have e : (List.replicate 24 0 ++ (1 :: List.replicate 139 0) : List Nat).length = 164 := by simp
  rw [e] at h
  exact h
theorem picZ_zero : Try.zeroCells46.toList = picZ := by kernel_rfl
theorem picZ_arr : Try.zeroCells46 = picZ.toArray := by kernel_rfl
theorem picZ_put : picZ.take 24 ++ ([.int .u64 1, .int .u64 0, .int .u64 0, .int .u64 0] ++ picZ.drop 28) = picO := by kernel_rfl
theorem finds_zero : finds picZ 20 = [] := by kernel_rfl
theorem finds_one : finds picO 20 = [finRec 6, finRec 18] := by kernel_rfl

set_option maxHeartbeats 4000000 in
set_option maxRecDepth 100000 in
theorem alives_calls (w : World) :
    Calls Try.prog 15 #[] w fun e w' => e = .returned (.bool true) ∧ Below w.heap.size w w' := by
  have A0 := At.new w Try.zeroCells46 46
  have hq0 : Below w.heap.size w (w.alloc (.cells Try.zeroCells46 46)) := (Below.refl _ _).alloc (Nat.le_refl _) _
  have hs0 : (w.alloc (.cells Try.zeroCells46 46)).heap.size = w.heap.size + 1 := by simp
  rw [picZ_zero] at A0
  go_enter Try.func15, Try.ntmps15
  go_upto_region 2 with fail
  obtain ⟨W, hW⟩ : ∃ W, w.alloc (.cells Try.zeroCells46 46) = W := ⟨_, rfl⟩
  rw [hW] at A0 hq0 hs0
  rw [hW]
  clear hW
  have HI := Lib.hid (pic_info picZ_typed)
  have HIO := Lib.hid (pic_info picO_typed)
  have HA := Lib.hid A0
  have hlp : picZ.length = 164 := by kernel_rfl
  have HLp := Lib.hid hlp
  clear A0 hlp
  go_wp2_with (first
    | refine wpList_load_mid rfl 46 _ rfl w.heap.size 0 rfl picZ _ HA.out.1 Try.underlying46 rfl HI.out ?_)
  refine (check_calls picZ _ picZ_typed).mono ?_
  rintro _ w1 ⟨v1, rfl, hr1, hb1⟩
  rw [finds_zero] at hr1
  obtain ⟨A1, c1, rfl, -, -, -, -⟩ := hr1
  have X1 := HA.out.below hb1 (by omega)
  have hs1 := hb1.size
  have hq1 := hq0.trans (hb1.mono (by omega))
  rw [hs0] at hs1
  have X2 := X1.paste 24 [.int .u64 1, .int .u64 0, .int .u64 0, .int .u64 0] (by rw [HLp.out]; decide)
  rw [show (24 + [Value.int .u64 1, Value.int .u64 0, Value.int .u64 0, Value.int .u64 0].length) = 28 from rfl, picZ_put] at X2
  have HX2 := Lib.hid X2
  have hth := (X1.part 24 4 (by rw [HLp.out]; decide)).2
  rw [List.length_take, List.length_drop, HLp.out, Nat.zero_add] at hth
  have HTh := Lib.hid (show w1.there w.heap.size 24 (#[.int .u64 1, .int .u64 0, .int .u64 0, .int .u64 0] : Array Value).size from hth)
  have hq2 : Below w.heap.size w (w1.setCells w.heap.size 24 [.int .u64 1, .int .u64 0, .int .u64 0, .int .u64 0]) := below_range (Nat.le_refl _) _ _ _ hq1
  have hs2 : (w1.setCells w.heap.size 24 [.int .u64 1, .int .u64 0, .int .u64 0, .int .u64 0]).heap.size = w1.heap.size := cells_size _ _ _ _
  clear X1 X2 hth HA
  go_upto_region 4 with (first
    | refine wpList_store_mid rfl 28 _ _ rfl w.heap.size 24 #[.int .u64 1, .int .u64 0, .int .u64 0, .int .u64 0] rfl rfl HTh.out (by kernel_rfl) (by kernel_rfl) ?_)
  obtain ⟨W2, hW⟩ : ∃ W, w1.setCells w.heap.size 24 [.int .u64 1, .int .u64 0, .int .u64 0, .int .u64 0] = W := ⟨_, rfl⟩
  rw [hW] at HX2 hq2 hs2
  rw [hW]
  clear hW
  go_wp2_with (first
    | refine wpList_load_mid rfl 46 _ rfl w.heap.size 0 rfl picO _ HX2.out.1 Try.underlying46 rfl HIO.out ?_)
  refine (check_calls picO _ picO_typed).mono ?_
  rintro _ w3 ⟨v3, rfl, hr3, hb3⟩
  rw [finds_one] at hr3
  obtain ⟨A3, c3, rfl, h3a, h3b, -, h3⟩ := hr3
  rcases h3 with h3 | ⟨g, o, rfl, hc⟩
  · cases h3
  have h0 := hc 0 (by decide)
  have k0 : w3.cell? ⟨g, o, none⟩ = some (.int .u8 1) := h0 0 _ rfl
  have k1 : w3.cell? ⟨g, o + 1, none⟩ = some (.int .u8 2) := h0 1 _ rfl
  have hq3 := hq2.trans (hb3.mono (by omega))
  clear h0 hc
  go_wp2_with fail
  go_ret
  exact ⟨rfl, hq3⟩
set_option maxHeartbeats 4000000 in
set_option maxRecDepth 100000 in
theorem auditChecks_calls (cs : List Value) (w : World) (hcs : Typed picK cs) :
    Calls Try.prog 5 #[.agg cs.toArray] w (Yes w) := by
  have A0 := At.new w cs.toArray 46
  have hq0 : Below w.heap.size w (w.alloc (.cells cs.toArray 46)) := (Below.refl _ _).alloc (Nat.le_refl _) _
  have hs0 : (w.alloc (.cells cs.toArray 46)).heap.size = w.heap.size + 1 := by simp
  have HI := Lib.hid (pic_info hcs)
  have HC := Lib.hid (fun w => check_calls cs w hcs)
  have HF := Lib.hid (fun w => ref_calls cs w hcs)
  have HK := Lib.hid (fun w => rcheck_calls cs w hcs)
  have HS := Lib.hid (fun v v' w h h' => same_calls v v' (finds cs 20) w h h' fun x hx => finds_mem cs hx)
  clear hcs
  go_enter Try.func5, Try.ntmps5
  go_upto_region 1 with fail
  obtain ⟨W0, hW⟩ : ∃ W, w.alloc (.cells cs.toArray 46) = W := ⟨_, rfl⟩
  rw [hW] at A0 hq0 hs0
  rw [hW]
  clear hW
  go_wp2_with fail
  refine (alives_calls _).mono ?_
  rintro _ W ⟨rfl, hb1⟩
  have A1 : At W w.heap.size 0 cs := A0.below hb1 (by omega)
  have hq1 := hq0.trans (hb1.mono (by omega))
  have hls : w.heap.size < W.heap.size := by have := hb1.size; omega
  clear A0 hq0 hs0 hb1
  go_upto_region 3 with fail
  obtain ⟨T, hT⟩ : ∃ T : Sched, T = ⟨[.main, .ghost, .main, .main, .ghost, .main, .main], [.agg (List.toArray cs), undef, .agg (List.toArray cs), .agg (List.toArray cs), undef, .bool true, .bool true], (fun _ _ => undef), (fun _ => []), (fun _ => []), (fun k => match k with | 1 => fun v w => Recs finK w v (finds cs 20) | 4 => fun v w => Recs finK w v (finds cs 20) | _ => fun _ _ => True)⟩ := ⟨_, rfl⟩
  have hng : ghosty T.tags = true := by rw [hT]; rfl
  have hE : ∀ k v w w', T.tag k = .ghost → T.E k v w → Go.RowKit.Below w.heap.size w w' → T.E k v w' := by
    rw [hT]; intro k v w w' hk hv hb
    rcases k with _ | _ | _ | _ | _ | _ | _ | _ <;> first | (cases hk; done) | trivial | exact Recs.below (by decide) hv hb
  refine region_plan (by kernel_rfl) T (Cls W) (by rw [hT]; kernel_rfl) (puts_len (by rw [hT]; exact trivial)) Cls.alloc Cls.put hE (Cls.start W) ?steps ?fin
  case steps =>
    refine Steps.cons ?s0 (Steps.cons ?s1 (Steps.cons ?s2 (Steps.cons ?s3 (Steps.cons ?s4 (Steps.cons ?s5 (Steps.cons ?s6 (Steps.nil)))))))
    case s0 => exact pm_load (by rw [hT]; rfl) rfl _ _ rfl (w.heap.size) (0) (fun cc AA hh => (rd0 (t := 1) hh rfl).trans (by rw [hT]; rfl)) (cs) (by rw [hT]; rfl) (fun mm NN ww hh => range_below A1.1 hh.1 hls) Try.underlying46 rfl HI.out
    case s1 => exact pg_callB (by rw [hT]; rfl) 17 _ _ rfl Try.call17 (fun cc => #[.agg (List.toArray cs)]) (fun cc AA hh => map1 ((rd0 (t := 5) hh rfl).trans (by rw [hT]; rfl))) (fun cc NN ww hb hF => by rw [hT]; exact HC.out ww)
    case s2 => exact pm_load (by rw [hT]; rfl) rfl _ _ rfl (w.heap.size) (0) (fun cc AA hh => (rd0 (t := 1) hh rfl).trans (by rw [hT]; rfl)) (cs) (by rw [hT]; rfl) (fun mm NN ww hh => range_below A1.1 hh.1 hls) Try.underlying46 rfl HI.out
    case s3 => exact pm_callB (by rw [hT]; rfl) rfl 19 _ _ rfl Try.call19 (fun cc => #[.agg (List.toArray cs)]) (fun cc AA hh => map1 ((rd0 (t := 7) hh rfl).trans (by rw [hT]; rfl))) (fun cc NN ww hb hF => by rw [hT]; exact HF.out ww)
    case s4 => exact pg_callB (by rw [hT]; rfl) 18 _ _ rfl Try.call18 (fun cc => #[.agg (List.toArray cs)]) (fun cc AA hh => map1 ((rd0 (t := 8) hh rfl).trans (by rw [hT]; rfl))) (fun cc NN ww hb hF => by rw [hT]; exact HK.out ww)
    case s5 => exact pm_callB (by rw [hT]; rfl) rfl 16 _ _ rfl Try.call16 (fun cc => #[(cc 1).v, (cc 4).v]) (fun cc AA hh => map2 ((rd0 (t := 6) hh rfl).trans (by rw [hT]; rfl)) ((rd1 (t := 9) hh rfl).trans (by rw [hT]; rfl))) (fun cc NN ww hb hF => by rw [hT]; exact HS.out _ _ ww (by have h := (hF 1 rfl).2 (by rw [hT]; rfl); rw [hT] at h; exact h) (by have h := (hF 4 rfl).2 (by rw [hT]; rfl); rw [hT] at h; exact h))
    case s6 => exact pm_assign (by rw [hT]; rfl) rfl _ rfl (fun cc AA hh => (rd0 (t := 10) hh rfl).trans (by rw [hT]; rfl))
  case fin =>
    intro cc NN w4 hC hN hap hgs
    have hg1 : (fun v w => Recs finK w v (finds cs 20)) (cc 1).v w4 := by
      have h := hgs 1 (by rw [hT]; rfl)
      rw [hT] at h
      exact h
    have hg4 : (fun v w => Recs finK w v (finds cs 20)) (cc 4).v w4 := by
      have h := hgs 4 (by rw [hT]; rfl)
      rw [hT] at h
      exact h
    rw [show putsAll T cc _ 0 _ = List.foldl (fun a x => Act.put a x.1 x.2) _ [(some 5, .agg (List.toArray cs)), (some 6, (cc 1).v), (some 7, .agg (List.toArray cs)), (some 8, .agg (List.toArray cs)), (some 9, (cc 4).v), (some 10, .bool true), (some 2, .bool true)] from by rw [hT]; rfl]
    simp only [List.foldl_cons, List.foldl_nil, Act.put, List.setIfInBounds_toArray, List.set_cons_succ, List.set_cons_zero]
    clear hN hap hgs hng hT
    go_wp2_with fail
    go_ret
    exact ⟨rfl, hq1.trans (hC.1.mono (Nat.le_of_lt hls))⟩
end Go.Proofs.Ytchjjbklkmfelaa
