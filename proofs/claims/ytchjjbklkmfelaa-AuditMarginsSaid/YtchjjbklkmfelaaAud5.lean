/- The document's look at a picture. -/
import Derived.Test.YtchjjbklkmfelaaAud4
import Derived.Test.YtchjjbklkmfelaaRef5
namespace Go.Proofs.Ytchjjbklkmfelaa
open Go.RowKit Go.Lib Go.Deep
set_option linter.unusedVariables false
set_option linter.unusedSimpArgs false

theorem infoFin2 : (Try.prog.info? 82).map (fun i => (i.zero, i.size, i.bytes)) = some (some (.agg #[.int .u8 0, .int .u8 0]), 2, 2) := by kernel_rfl
theorem below_lift {W w : World} (h : Below W.heap.size W w) {n : Nat} (_ : n < W.heap.size) : Below W.heap.size W w := h
theorem gives_of {P : Program} {f : FuncId} {args : Array Value} {w : World} {n : Nat} (h : Calls P f args w (Gives w n)) : Calls P f args w fun e w' => ∃ v, e = .returned v ∧ Row w' v (dig n) ∧ Below w.heap.size w w' :=
  h.mono fun e w' ⟨v, h1, h2, _, h4⟩ => ⟨v, h1, h2, h4⟩
theorem same_of {P : Program} {f : FuncId} {args : Array Value} {w : World} {v : Value} (h : Calls P f args w fun e w' => e = .returned v ∧ w = w') : Calls P f args w fun e w' => e = .returned v ∧ Below w.heap.size w w' :=
  h.mono fun e w' ⟨h1, h2⟩ => ⟨h1, by subst h2; exact Below.refl _ _⟩
theorem cmpI_ne (a b : Nat) : (cmpI a b != 0) = decide (a ≠ b) := by
  unfold cmpI
  rw [Bool.eq_iff_iff, decide_eq_true_eq, bne_iff_ne]
  split
  · constructor <;> intro h <;> omega
  · split
    · constructor <;> intro h <;> omega
    · constructor <;> intro h <;> omega
theorem cmpI_neg (a b : Nat) : decide (cmpI a b < 0) = decide (a < b) := by
  unfold cmpI
  rw [Bool.eq_iff_iff, decide_eq_true_eq, decide_eq_true_eq]
  split
  · constructor <;> intro h <;> omega
  · split
    · constructor <;> intro h <;> omega
    · constructor <;> intro h <;> omega

set_option maxHeartbeats 1000000 in
set_option maxRecDepth 100000 in
theorem two_calls (a b : Nat) (w : World) (ha : a < 18446744073709551616 ^ 4) (hb0 : b < 18446744073709551616 ^ 4) :
    Calls Try.prog 35 #[bigN a, bigN b] w fun e w' => ∃ v, e = .returned v ∧ Row w' v (dig (a + b)) ∧ Below w.heap.size w w' := by
  have la : (dig a).length ≤ 1000000 := Nat.le_trans (dig_len_le (k := 16) ha) (by decide)
  have lb : (dig b).length ≤ 1000000 := Nat.le_trans (dig_len_le (k := 16) hb0) (by decide)
  have RA := (NAt.new w a)
  have RB := NAt.new (w.alloc (row4 (limb a))) b
  rw [World.size_alloc] at RB
  have RA := At.alloc RA (row4 (limb b))
  obtain ⟨W, hW⟩ : ∃ W, (w.alloc (row4 (limb a))).alloc (row4 (limb b)) = W := ⟨_, rfl⟩
  have hq : Below w.heap.size w W := by rw [← hW]; exact ((Below.refl _ _).alloc (Nat.le_refl _) _).alloc (by simp) _
  have hl1 : w.heap.size < W.heap.size := by rw [← hW]; simp; omega
  have hl2 : w.heap.size + 1 < W.heap.size := by rw [← hW]; simp
  have RA : NAt W w.heap.size 0 a := hW ▸ RA
  have RB : NAt W (w.heap.size + 1) 0 b := hW ▸ RB
  dsimp only [row4] at hW
  unfold bigN big
  go_enter Try.func35, Try.ntmps35
  go_upto_region 1 with fail
  clear hW
  obtain ⟨T, hT⟩ : ∃ T : Sched, T = ⟨[.main, .ghost, .main, .ghost, .ghost, .alias 4], [bigN a, undef, bigN b, undef, undef, undef], (fun _ _ => undef), (fun _ => []), (fun _ => []), (fun k => match k with | 1 => fun v w => Row w v (dig (a)) | 3 => fun v w => Row w v (dig (b)) | 4 => fun v w => Row w v (dig (a + b)) | _ => fun _ _ => True)⟩ := ⟨_, rfl⟩
  have hng : ghosty T.tags = true := by rw [hT]; rfl
  have hE : ∀ k v w w', T.tag k = .ghost → T.E k v w → Go.RowKit.Below w.heap.size w w' → T.E k v w' := by
    rw [hT]; intro k v w w' hk hv hb
    rcases k with _ | _ | _ | _ | _ | _ | _ <;> first | (cases hk; done) | trivial | exact Row.below hv hb
  refine region_plan (by kernel_rfl) T (Cls W) (by rw [hT]; kernel_rfl) (puts_len (by rw [hT]; exact trivial)) Cls.alloc Cls.put hE (Cls.start W) ?steps ?fin
  case steps =>
    refine Steps.cons ?s0 (Steps.cons ?s1 (Steps.cons ?s2 (Steps.cons ?s3 (Steps.cons ?s4 (Steps.cons ?s5 (Steps.nil))))))
    case s0 => exact pm_load (by rw [hT]; rfl) rfl _ _ rfl (w.heap.size) (0) (fun cc AA hh => (rd0 (t := 2) hh rfl).trans (by rw [hT]; rfl)) (cells4L a) (by rw [hT]; rfl) (fun mm NN ww hh => range_below RA.1 hh.1 hl1) Try.underlying28 rfl int_info
    case s1 => exact pg_callB (by rw [hT]; rfl) 37 _ _ rfl Try.call37 (fun cc => #[bigN a]) (fun cc AA hh => map1 ((rd0 (t := 5) hh rfl).trans (by rw [hT]; rfl))) (fun cc NN ww hb hF => by rw [hT]; exact gives_of (rowof_calls a ww ha))
    case s2 => exact pm_load (by rw [hT]; rfl) rfl _ _ rfl (w.heap.size + 1) (0) (fun cc AA hh => (rd0 (t := 3) hh rfl).trans (by rw [hT]; rfl)) (cells4L b) (by rw [hT]; rfl) (fun mm NN ww hh => range_below RB.1 hh.1 hl2) Try.underlying28 rfl int_info
    case s3 => exact pg_callB (by rw [hT]; rfl) 37 _ _ rfl Try.call37 (fun cc => #[bigN b]) (fun cc AA hh => map1 ((rd0 (t := 7) hh rfl).trans (by rw [hT]; rfl))) (fun cc NN ww hb hF => by rw [hT]; exact gives_of (rowof_calls b ww hb0))
    case s4 => exact pg_callB (by rw [hT]; rfl) 36 _ _ rfl Try.call36 (fun cc => #[(cc 1).v, (cc 3).v]) (fun cc AA hh => map2 ((rd0 (t := 6) hh rfl).trans (by rw [hT]; rfl)) ((rd1 (t := 8) hh rfl).trans (by rw [hT]; rfl))) (fun cc NN ww hb hF => by rw [hT]; exact gives_of (add_calls _ _ _ _ ww (by have h := (hF 1 rfl).2 (by rw [hT]; rfl); rw [hT] at h; exact h) (by have h := (hF 3 rfl).2 (by rw [hT]; rfl); rw [hT] at h; exact h) la lb))
    case s5 => exact pa_copy _ (by rw [hT]; rfl) _ (.inr rfl) (fun cc AA hh => (rd0 (t := 9) hh rfl).trans (by rw [hT]; rfl))
  case fin =>
    intro cc NN w4 hC hN hap hgs
    have hg1 : (fun v w => Row w v (dig (a))) (cc 1).v w4 := by
      have h := hgs 1 (by rw [hT]; rfl)
      rw [hT] at h
      exact h
    have hg3 : (fun v w => Row w v (dig (b))) (cc 3).v w4 := by
      have h := hgs 3 (by rw [hT]; rfl)
      rw [hT] at h
      exact h
    have hg4 : (fun v w => Row w v (dig (a + b))) (cc 4).v w4 := by
      have h := hgs 4 (by rw [hT]; rfl)
      rw [hT] at h
      exact h
    rw [show putsAll T cc _ 0 _ = List.foldl (fun a x => Act.put a x.1 x.2) _ [(some 5, bigN a), (some 6, (cc 1).v), (some 7, bigN b), (some 8, (cc 3).v), (some 9, (cc 4).v), (some 4, (cc 4).v)] from by rw [hT]; rfl]
    simp only [List.foldl_cons, List.foldl_nil, Act.put, List.setIfInBounds_toArray, List.set_cons_succ, List.set_cons_zero]
    clear hN hap hgs hng hT
    go_wp2_with fail
    go_ret
    exact ⟨_, rfl, hg4, hq.trans (hC.1.mono (Nat.le_of_lt hl1))⟩

set_option maxHeartbeats 8000000 in
set_option maxRecDepth 100000 in
theorem rcheck_calls (cs : List Value) (w : World) (hcs : Typed picK cs) :
    Calls Try.prog 18 #[.agg cs.toArray] w fun e w' => ∃ v, e = .returned v ∧ Recs finK w' v (finds cs 20) ∧ Below w.heap.size w w' := by
  have A0 := At.new w cs.toArray 55
  have hq0 : Below w.heap.size w (w.alloc (.cells cs.toArray 55)) := (Below.refl _ _).alloc (Nat.le_refl _) _
  have hs0 : w.heap.size < (w.alloc (.cells cs.toArray 55)).heap.size := by simp
  have HC := Lib.hid hcs
  have HL' := Lib.hid (fun k hk => (pic_cells hcs k hk).2)
  have HP := Lib.hid (fun k hk => (pic_cells hcs k hk).1)
  have HLn := Lib.hid (show cs.length = 164 by rw [hcs.length]; rfl)
  clear hcs
  go_enter Try.func18, Try.ntmps18
  go_wp2_with fail
  obtain ⟨W0, hW⟩ : ∃ W, w.alloc (.cells cs.toArray 55) = W := ⟨_, rfl⟩
  rw [hW] at A0 hq0 hs0
  rw [hW]
  clear hW
  go_loopw [3, 9] (fun v i wr => ∃ k : Nat, i = .int .i64 (k : Int) ∧ k ≤ 5 ∧ Hid (OwnR 82 finK wr (w.heap.size + 1) v (finds cs (4 * k))) ∧ Hid (At wr w.heap.size 0 cs) ∧ w.heap.size < wr.heap.size ∧ Below w.heap.size w wr) (fun _ i _ => 5 - (intOf i).toNat)
  case atStart => exact ⟨0, rfl, by omega, Lib.hid (OwnR.nil _ _ _ _), Lib.hid A0, hs0, hq0⟩
  case round =>
    obtain ⟨k, rfl, hk, HO, HA, hsz, hb⟩ := hrel
    clear A0 hq0 hs0
    by_cases hk4 : k ≤ 4
    · have hk4' : (k : Int) < 5 := by omega
      go_wp2_with fail
      obtain ⟨wo, rfl⟩ : ∃ wo : World, wo = wr := ⟨_, rfl⟩
      go_loopw [3, 5, 6, 7, 8, 12] (fun v v5 v6 v7 v8 i wx => ∃ t : Nat, i = .int .i64 (t : Int) ∧ t ≤ 4 ∧ Hid (OwnR 82 finK wx (w.heap.size + 1) v (finds cs (4 * k + t))) ∧ Hid (At wx w.heap.size 0 cs) ∧ w.heap.size < wx.heap.size ∧ Below w.heap.size w wx) (fun _ _ _ _ _ i _ => 4 - (intOf i).toNat)
      case atStart => exact ⟨0, rfl, by omega, HO, HA, hsz, hb⟩
      case round =>
        obtain ⟨t, rfl, ht, HO1, HA1, hsz1, hb1⟩ := hrel
        clear HO HA hsz hb
        by_cases ht4' : t < 4
        · have ht0 : (0 : Int) ≤ (t : Int) := by omega
          have ht4 : (t : Int) < 4 := by omega
          have HS := Lib.hid (finds_snoc cs (4 * k + t))
          rw [show (4 * k + t) / 4 = k by omega, show (4 * k + t) % 4 = t by omega, show finRec (4 * k + t) = [.int .u8 ((k : Nat) : Int), .int .u8 ((t : Nat) : Int)] by unfold finRec; rw [show (4 * k + t) / 4 = k by omega, show (4 * k + t) % 4 = t by omega]] at HS
          have HTy := Lib.hid (finRec_typed (i := 4 * k + t) (by omega))
          rw [show finRec (4 * k + t) = [.int .u8 ((k : Nat) : Int), .int .u8 ((t : Nat) : Int)] by unfold finRec; rw [show (4 * k + t) / 4 = k by omega, show (4 * k + t) % 4 = t by omega]] at HTy
          have hln := finds_len cs (4 * k + t)
          have R0 := HA1.out.part (96 + t * 16) 16 (by rw [HLn.out]; omega)
          rw [Nat.zero_add] at R0
          have hsc : ((cs.drop (96 + t * 16)).take 16).length = 16 := by rw [List.length_take, List.length_drop, HLn.out]; omega
          have hso : ∀ v ∈ (cs.drop (96 + t * 16)).take 16, v.oneCell' = true := fun v hv => HC.out.one v (List.mem_of_mem_drop (List.mem_of_mem_take hv))
          have hsi : (Try.prog.info? 52).map (·.size) = some ((cs.drop (96 + t * 16)).take 16).length := by rw [hsc]; kernel_rfl
          obtain ⟨sc, hscd⟩ : ∃ sc, (cs.drop (96 + t * 16)).take 16 = sc := ⟨_, rfl⟩
          rw [hscd] at R0 hso hsi hsc
          have HSD := Lib.hid hscd
          have HSC := Lib.hid hsc
          have HTh : Hid ((wr.alloc (.cells #[.int .u64 0, .int .u64 0, .int .u64 0, .int .u64 0, .int .u64 0, .int .u64 0, .int .u64 0, .int .u64 0, .int .u64 0, .int .u64 0, .int .u64 0, .int .u64 0, .int .u64 0, .int .u64 0, .int .u64 0, .int .u64 0] 52)).there wr.heap.size 0 sc.toArray.size) := Lib.hid (by
            have := there_alloc wr #[.int .u64 0, .int .u64 0, .int .u64 0, .int .u64 0, .int .u64 0, .int .u64 0, .int .u64 0, .int .u64 0, .int .u64 0, .int .u64 0, .int .u64 0, .int .u64 0, .int .u64 0, .int .u64 0, .int .u64 0, .int .u64 0] 52
            rw [show sc.toArray.size = 16 by simp [HSC.out]]
            exact this)
          have HSI : Hid ((Try.prog.info? 52).map (·.size) = some sc.toArray.size) := Lib.hid (by rw [List.size_toArray]; exact hsi)
          clear hscd hsc
          go_upto_region 10 with (first
            | refine wpList_load_mid rfl 52 _ rfl w.heap.size (96 + t * 16) rfl sc _ R0.1 Try.underlying52 rfl hsi ?_
            | refine wpList_store_mid rfl 52 _ _ rfl wr.heap.size 0 sc.toArray rfl rfl HTh.out HSI.out (all_oneCell_toArray hso) ?_)
          obtain ⟨W, hW⟩ : ∃ W, (wr.alloc (.cells #[.int .u64 0, .int .u64 0, .int .u64 0, .int .u64 0, .int .u64 0, .int .u64 0, .int .u64 0, .int .u64 0, .int .u64 0, .int .u64 0, .int .u64 0, .int .u64 0, .int .u64 0, .int .u64 0, .int .u64 0, .int .u64 0] 52)).setCells wr.heap.size 0 sc = W := ⟨_, rfl⟩
          have A1 : At W w.heap.size 0 cs := by
            rw [← hW]
            exact (At.alloc HA1.out _).apart _ _ _ (.inl (by omega))
          have A2 : At W wr.heap.size 0 sc := by
            rw [← hW]
            have h := HTh.out
            rw [List.size_toArray] at h
            exact ⟨World.rangeAt_setCells_same _ _ _ _ h, World.there_setCells h _ _ _⟩
          have hqW : Below wr.heap.size wr W := by
            rw [← hW]
            exact below_range (Nat.le_refl _) _ 0 _ ((Below.refl _ _).alloc (Nat.le_refl _) _)
          have hls1 : wr.heap.size < W.heap.size := by rw [← hW, cells_size]; simp
          have hls : w.heap.size < W.heap.size := by omega
          have HN : ∀ k, k + 4 ≤ 164 → NAt W w.heap.size k (numAt cs k) := fun k hk => by
            have h := A1.part k 4 (by rw [HLn.out]; exact hk)
            rwa [HP.out k hk, Nat.zero_add] at h
          have HM : ∀ j, j + 4 ≤ 16 → NAt W wr.heap.size j (numAt cs (96 + t * 16 + j)) := fun j hj => by
            have h := A2.part j 4 (by rw [HSC.out]; exact hj)
            have e : (sc.drop j).take 4 = (cs.drop (96 + t * 16 + j)).take 4 := by
              rw [← HSD.out, List.drop_take, List.take_take, List.drop_drop, Nat.min_eq_left (by omega)]
            rwa [e, HP.out _ (by omega), Nat.zero_add] at h
          have HOW := Lib.hid (HO1.out.later hqW)
          have HAW := Lib.hid A1
          have HqW := Lib.hid (hb1.trans (hqW.mono (Nat.le_of_lt hsz1)))
          clear R0 hsi HTh HSI hso A1 A2 HO1 HA1 hsz1 hb1 hqW
          rw [hW]
          clear hW
          obtain ⟨sp, hsp⟩ : ∃ sp, wr.heap.size = sp := ⟨_, rfl⟩
          rw [hsp] at hls1 HM
          rw [hsp]
          clear hsp
          go_upto_block 4 with fail
          go_cut [7, 8] from 20 to 101 (fun v7 v8 wx => v7 = .bool (badP cs k t) ∧ Below W.heap.size W wx)
          case first =>
            have HL := HL'.out
            clear HS HTy HOW HAW HqW hln
            rcases (by omega : k = 0 ∨ k = 1 ∨ k = 2 ∨ k = 3 ∨ k = 4) with rfl | rfl | rfl | rfl | rfl
            · go_upto_region 13 with fail
              obtain ⟨T, hT⟩ : ∃ T : Sched, T = ⟨[.main, .main, .main, .main, .main, .main, .ghost, .alias 6], [.pointer (some ⟨sp, 0, none⟩), bigN (numAt cs (96 + t * 16 + 0)), .int .i64 (t : Int), .pointer (some ⟨w.heap.size, 64, none⟩), .pointer (some ⟨w.heap.size, 64 + t * 4, none⟩), bigN (numAt cs (64 + t * 4)), undef, undef], (fun _ _ => undef), (fun _ => []), (fun _ => []), (fun k => match k with | 6 => fun v w => Row w v (dig (numAt cs (96 + t * 16 + 0) + numAt cs (64 + t * 4))) | _ => fun _ _ => True)⟩ := ⟨_, rfl⟩
              have hng : ghosty T.tags = true := by rw [hT]; rfl
              have hE : ∀ k v w w', T.tag k = .ghost → T.E k v w → Go.RowKit.Below w.heap.size w w' → T.E k v w' := by
                rw [hT]; intro k v w w' hk hv hb
                rcases k with _ | _ | _ | _ | _ | _ | _ | _ | _ <;> first | (cases hk; done) | trivial | exact Row.below hv hb
              refine region_plan (by kernel_rfl) T (Cls W) (by rw [hT]; kernel_rfl) (puts_len (by rw [hT]; exact trivial)) Cls.alloc Cls.put hE (Cls.start W) ?steps ?fin
              case steps =>
                refine Steps.cons ?s0 (Steps.cons ?s1 (Steps.cons ?s2 (Steps.cons ?s3 (Steps.cons ?s4 (Steps.cons ?s5 (Steps.cons ?s6 (Steps.cons ?s7 (Steps.nil))))))))
                case s0 => exact pm_pure (by rw [hT]; rfl) rfl (fun cc AA ww hh => by
                    have e6 : AA.eval (.tmp 6) = .pointer (some ⟨sp, 0, none⟩) := (rd0 (t := 6) hh rfl).trans (by rw [hT]; rfl)
                    have ev : T.nth 0 = .pointer (some ⟨sp, 0, none⟩) := by rw [hT]; rfl
                    rw [ev]
                    have ek : ∀ v, AA.eval (.const v) = v := fun _ => rfl
                    generalize AA.eval = ρ at *
                    simp [go_sem, ek, e6, ht4, ht0])
                case s1 => exact pm_load (by rw [hT]; rfl) rfl _ _ rfl (sp) (0) (fun cc AA hh => (rd0 (t := 38) hh rfl).trans (by rw [hT]; rfl)) (cells4L (numAt cs (96 + t * 16 + 0))) (by rw [hT]; rfl) (fun mm NN ww hh => range_below (HM 0 (by omega)).1 hh.1 hls1) Try.underlying28 rfl int_info
                case s2 => exact pm_move (by rw [hT]; rfl) rfl _ rfl (fun cc AA hh => (rd0 (t := 5) hh rfl).trans (by rw [hT]; rfl))
                case s3 => exact pm_pure (by rw [hT]; rfl) rfl (fun cc AA ww hh => by
                    have e1 : AA.eval (.tmp 1) = .pointer (some ⟨w.heap.size, 0, none⟩) := (rd0 (t := 1) hh rfl).trans (by rw [hT]; rfl)
                    have ev : T.nth 3 = .pointer (some ⟨w.heap.size, 64, none⟩) := by rw [hT]; rfl
                    rw [ev]
                    have ek : ∀ v, AA.eval (.const v) = v := fun _ => rfl
                    generalize AA.eval = ρ at *
                    simp [go_sem, ek, e1, ht4, ht0])
                case s4 => exact pm_pure (by rw [hT]; rfl) rfl (fun cc AA ww hh => by
                    have e41 : AA.eval (.tmp 41) = .pointer (some ⟨w.heap.size, 64, none⟩) := (rd0 (t := 41) hh rfl).trans (by rw [hT]; rfl)
                    have e40 : AA.eval (.tmp 40) = .int .i64 (t : Int) := (rd1 (t := 40) hh rfl).trans (by rw [hT]; rfl)
                    have ev : T.nth 4 = .pointer (some ⟨w.heap.size, 64 + t * 4, none⟩) := by rw [hT]; rfl
                    rw [ev]
                    have ek : ∀ v, AA.eval (.const v) = v := fun _ => rfl
                    generalize AA.eval = ρ at *
                    simp [go_sem, ek, e41, e40, ht4, ht0])
                case s5 => exact pm_load (by rw [hT]; rfl) rfl _ _ rfl (w.heap.size) (64 + t * 4) (fun cc AA hh => (rd0 (t := 42) hh rfl).trans (by rw [hT]; rfl)) (cells4L (numAt cs (64 + t * 4))) (by rw [hT]; rfl) (fun mm NN ww hh => range_below (HN (64 + t * 4) (by omega)).1 hh.1 hls) Try.underlying28 rfl int_info
                case s6 => exact pg_callB (by rw [hT]; rfl) 35 _ _ rfl Try.call35 (fun cc => #[bigN (numAt cs (96 + t * 16 + 0)), bigN (numAt cs (64 + t * 4))]) (fun cc AA hh => map2 ((rd0 (t := 39) hh rfl).trans (by rw [hT]; rfl)) ((rd1 (t := 43) hh rfl).trans (by rw [hT]; rfl))) (fun cc NN ww hb hF => by rw [hT]; exact two_calls _ _ ww (HL (96 + t * 16 + 0) (by omega)) (HL (64 + t * 4) (by omega)))
                case s7 => exact pa_copy _ (by rw [hT]; rfl) _ (.inr rfl) (fun cc AA hh => (rd0 (t := 44) hh rfl).trans (by rw [hT]; rfl))
              case fin =>
                intro cc NN w4 hC hN hap hgs
                have hg6 : (fun v w => Row w v (dig (numAt cs (96 + t * 16 + 0) + numAt cs (64 + t * 4)))) (cc 6).v w4 := by
                  have h := hgs 6 (by rw [hT]; rfl)
                  rw [hT] at h
                  exact h
                rw [show putsAll T cc _ 0 _ = List.foldl (fun a x => Act.put a x.1 x.2) _ [(some 38, .pointer (some ⟨sp, 0, none⟩)), (some 39, bigN (numAt cs (96 + t * 16 + 0))), (some 40, .int .i64 (t : Int)), (some 41, .pointer (some ⟨w.heap.size, 64, none⟩)), (some 42, .pointer (some ⟨w.heap.size, 64 + t * 4, none⟩)), (some 43, bigN (numAt cs (64 + t * 4))), (some 44, (cc 6).v), (some 8, (cc 6).v)] from by rw [hT]; rfl]
                simp only [List.foldl_cons, List.foldl_nil, Act.put, List.setIfInBounds_toArray, List.set_cons_succ, List.set_cons_zero]
                clear hN hap hgs hng hT
                have hsz4 := hC.1.size
                have HB4 := Lib.hid hC.1
                have H160 := At.below (HN 160 (by omega)) hC.1 hls
                have HE4 := At.below (HN (t * 4) (by omega)) hC.1 hls
                have hls4 : w.heap.size < w4.heap.size := by omega
                have lx := HL (96 + t * 16 + 0) (by omega)
                have ly := HL (64 + t * 4) (by omega)
                have lz := HL 160 (by omega)
                have le := HL (t * 4) (by omega)
                clear hC HN HM HL
                go_upto_if 46 with fail
                obtain ⟨b0, hb0⟩ : ∃ b, ((t : Int) == 0) = b := ⟨_, rfl⟩
                have HB0 := Lib.hid hb0
                rw [hb0]
                clear hb0
                obtain ⟨v0, hv0⟩ : ∃ v, (cc 6).v = v := ⟨_, rfl⟩
                rw [hv0] at hg6
                rw [hv0]
                clear hv0
                obtain ⟨x, hx⟩ : ∃ x, numAt cs (96 + t * 16 + 0) = x := ⟨_, rfl⟩
                obtain ⟨y, hy⟩ : ∃ y, numAt cs (64 + t * 4) = y := ⟨_, rfl⟩
                obtain ⟨z, hz⟩ : ∃ z, numAt cs 160 = z := ⟨_, rfl⟩
                obtain ⟨e, he⟩ : ∃ e, numAt cs (t * 4) = e := ⟨_, rfl⟩
                have HBAD : Hid (badP cs 0 t = decide (e ≠ x + y + if t = 0 then z else 0)) := Lib.hid (by rw [← hx, ← hy, ← hz, ← he]; rfl)
                rw [hx, hy] at hg6
                rw [hz] at H160 lz
                rw [he] at HE4 le
                rw [hx] at lx
                rw [hy] at ly
                have HLS := Lib.hid (And.intro lx (And.intro ly (And.intro lz le)))
                have h17 : (18446744073709551616 : Nat) ^ 4 + 18446744073709551616 ^ 4 ≤ 65536 ^ 17 := by decide
                have hxy : x + y < 65536 ^ 17 := Nat.lt_of_lt_of_le (Nat.add_lt_add lx ly) h17
                have lxy : (dig (x + y)).length ≤ 1000000 := Nat.le_trans (dig_len_le (k := 17) hxy) (by decide)
                clear h17 hxy
                have lz1 : (dig z).length ≤ 1000000 := Nat.le_trans (dig_len_le (k := 16) lz) (by decide)
                have HG := Lib.hid hg6
                clear hx hy hz he lx ly lz le hg6
                go_cut [8] from 47 to 51 (fun v8 wx => Row wx v8 (dig (x + y + if t = 0 then z else 0)) ∧ Below w4.heap.size w4 wx)
                case first =>
                  cases b0 with
                  | true =>
                    have t0 := Lib.hid (show t = 0 by have := HB0.out; simp at this; exact this)
                    obtain ⟨⟨n0, n1, n2, n3⟩, -⟩ := NAt.cells H160
                    go_wp2_with fail
                    refine (rowof_calls z _ HLS.out.2.2.1).mono ?_
                    rintro _ w5 ⟨v5, rfl, hr5, -, hb5⟩
                    have HG5 := HG.out.below hb5
                    have HAd := Lib.hid (add_calls v0 v5 (x + y) z w5 HG5 hr5 lxy lz1)
                    clear HG5 hr5 n0 n1 n2 n3
                    go_wp2_with fail
                    refine HAd.out.mono ?_
                    rintro _ w6 ⟨v6, rfl, hr6, -, hb6⟩
                    have HR6 := Lib.hid hr6
                    have hb46 := hb5.trans (hb6.mono hb5.size)
                    clear hr6 hb5 hb6 HAd
                    go_wp2_with fail
                    go_meet
                    exact ⟨by rw [if_pos t0.out]; exact HR6.out, hb46⟩
                  | false =>
                    have t0 := Lib.hid (show ¬ t = 0 by have := HB0.out; simp at this; exact this)
                    go_wp2_with fail
                    go_meet
                    exact ⟨by rw [if_neg t0.out]; exact HG.out, Below.refl _ _⟩
                case rest =>
                obtain ⟨HRx, hbx⟩ := hcut
                have HE5 := At.below HE4 hbx hls4
                obtain ⟨⟨n0, n1, n2, n3⟩, -⟩ := NAt.cells HE5
                obtain ⟨sm, hsm⟩ : ∃ s, (x + y + if t = 0 then z else 0) = s := ⟨_, rfl⟩
                rw [hsm] at HRx HBAD
                have HRX := Lib.hid HRx
                have hq5 := Lib.hid (HB4.out.trans (hbx.mono (Nat.le_trans HB4.out.size (Nat.le_refl _))))
                have hbx5 := hbx.size
                clear HRx hsm HE4 HE5 H160 HG hbx HB4
                go_wp2_with fail
                refine (rowof_calls e _ HLS.out.2.2.2).mono ?_
                rintro _ w5 ⟨v5, rfl, hr5, -, hb5⟩
                have HCm := Lib.hid (cmp_calls v5 u8 e sm w5 hr5 (HRX.out.below hb5))
                have hq6 := Lib.hid (hq5.out.trans (hb5.mono (by omega)))
                clear hr5 n0 n1 n2 n3 hb5
                go_wp2_with fail
                refine HCm.out.mono ?_
                rintro _ w6 ⟨rfl, rfl⟩
                clear HCm
                go_wp2_with fail
                go_meet
                exact ⟨by rw [HBAD.out]; exact congrArg Value.bool (cmpI_ne _ _), hq6.out⟩
            · go_upto_region 18 with fail
              obtain ⟨T, hT⟩ : ∃ T : Sched, T = ⟨[.main, .main, .main, .main, .ghost, .main, .main, .main, .main, .main, .main, .main, .main, .ghost, .main, .main, .main], [.int .i64 (t : Int), .pointer (some ⟨w.heap.size, 16, none⟩), .pointer (some ⟨w.heap.size, 16 + t * 4, none⟩), bigN (numAt cs (16 + t * 4)), undef, .int .i64 (t : Int), .pointer (some ⟨w.heap.size, 48, none⟩), .pointer (some ⟨w.heap.size, 48 + t * 4, none⟩), bigN (numAt cs (48 + t * 4)), .int .i64 (t : Int), .pointer (some ⟨w.heap.size, 80, none⟩), .pointer (some ⟨w.heap.size, 80 + t * 4, none⟩), bigN (numAt cs (80 + t * 4)), undef, .int .i64 (cmpI (numAt cs (16 + t * 4)) (numAt cs (48 + t * 4) + numAt cs (80 + t * 4))), .bool (cmpI (numAt cs (16 + t * 4)) (numAt cs (48 + t * 4) + numAt cs (80 + t * 4)) != 0), .bool (cmpI (numAt cs (16 + t * 4)) (numAt cs (48 + t * 4) + numAt cs (80 + t * 4)) != 0)], (fun _ _ => undef), (fun _ => []), (fun _ => []), (fun k => match k with | 4 => fun v w => Row w v (dig (numAt cs (16 + t * 4))) | 13 => fun v w => Row w v (dig (numAt cs (48 + t * 4) + numAt cs (80 + t * 4))) | _ => fun _ _ => True)⟩ := ⟨_, rfl⟩
              have hng : ghosty T.tags = true := by rw [hT]; rfl
              have hE : ∀ k v w w', T.tag k = .ghost → T.E k v w → Go.RowKit.Below w.heap.size w w' → T.E k v w' := by
                rw [hT]; intro k v w w' hk hv hb
                rcases k with _ | _ | _ | _ | _ | _ | _ | _ | _ | _ | _ | _ | _ | _ | _ | _ | _ | _ <;> first | (cases hk; done) | trivial | exact Row.below hv hb
              refine region_plan (by kernel_rfl) T (Cls W) (by rw [hT]; kernel_rfl) (puts_len (by rw [hT]; exact trivial)) Cls.alloc Cls.put hE (Cls.start W) ?steps ?fin
              case steps =>
                refine Steps.cons ?s0 (Steps.cons ?s1 (Steps.cons ?s2 (Steps.cons ?s3 (Steps.cons ?s4 (Steps.cons ?s5 (Steps.cons ?s6 (Steps.cons ?s7 (Steps.cons ?s8 (Steps.cons ?s9 (Steps.cons ?s10 (Steps.cons ?s11 (Steps.cons ?s12 (Steps.cons ?s13 (Steps.cons ?s14 (Steps.cons ?s15 (Steps.cons ?s16 (Steps.nil)))))))))))))))))
                case s0 => exact pm_move (by rw [hT]; rfl) rfl _ rfl (fun cc AA hh => (rd0 (t := 5) hh rfl).trans (by rw [hT]; rfl))
                case s1 => exact pm_pure (by rw [hT]; rfl) rfl (fun cc AA ww hh => by
                    have e1 : AA.eval (.tmp 1) = .pointer (some ⟨w.heap.size, 0, none⟩) := (rd0 (t := 1) hh rfl).trans (by rw [hT]; rfl)
                    have ev : T.nth 1 = .pointer (some ⟨w.heap.size, 16, none⟩) := by rw [hT]; rfl
                    rw [ev]
                    have ek : ∀ v, AA.eval (.const v) = v := fun _ => rfl
                    generalize AA.eval = ρ at *
                    simp [go_sem, ek, e1, ht4, ht0])
                case s2 => exact pm_pure (by rw [hT]; rfl) rfl (fun cc AA ww hh => by
                    have e63 : AA.eval (.tmp 63) = .pointer (some ⟨w.heap.size, 16, none⟩) := (rd0 (t := 63) hh rfl).trans (by rw [hT]; rfl)
                    have e62 : AA.eval (.tmp 62) = .int .i64 (t : Int) := (rd1 (t := 62) hh rfl).trans (by rw [hT]; rfl)
                    have ev : T.nth 2 = .pointer (some ⟨w.heap.size, 16 + t * 4, none⟩) := by rw [hT]; rfl
                    rw [ev]
                    have ek : ∀ v, AA.eval (.const v) = v := fun _ => rfl
                    generalize AA.eval = ρ at *
                    simp [go_sem, ek, e63, e62, ht4, ht0])
                case s3 => exact pm_load (by rw [hT]; rfl) rfl _ _ rfl (w.heap.size) (16 + t * 4) (fun cc AA hh => (rd0 (t := 64) hh rfl).trans (by rw [hT]; rfl)) (cells4L (numAt cs (16 + t * 4))) (by rw [hT]; rfl) (fun mm NN ww hh => range_below (HN (16 + t * 4) (by omega)).1 hh.1 hls) Try.underlying28 rfl int_info
                case s4 => exact pg_callB (by rw [hT]; rfl) 37 _ _ rfl Try.call37 (fun cc => #[bigN (numAt cs (16 + t * 4))]) (fun cc AA hh => map1 ((rd0 (t := 65) hh rfl).trans (by rw [hT]; rfl))) (fun cc NN ww hb hF => by rw [hT]; exact gives_of (rowof_calls _ ww (HL (16 + t * 4) (by omega))))
                case s5 => exact pm_move (by rw [hT]; rfl) rfl _ rfl (fun cc AA hh => (rd0 (t := 5) hh rfl).trans (by rw [hT]; rfl))
                case s6 => exact pm_pure (by rw [hT]; rfl) rfl (fun cc AA ww hh => by
                    have e1 : AA.eval (.tmp 1) = .pointer (some ⟨w.heap.size, 0, none⟩) := (rd0 (t := 1) hh rfl).trans (by rw [hT]; rfl)
                    have ev : T.nth 6 = .pointer (some ⟨w.heap.size, 48, none⟩) := by rw [hT]; rfl
                    rw [ev]
                    have ek : ∀ v, AA.eval (.const v) = v := fun _ => rfl
                    generalize AA.eval = ρ at *
                    simp [go_sem, ek, e1, ht4, ht0])
                case s7 => exact pm_pure (by rw [hT]; rfl) rfl (fun cc AA ww hh => by
                    have e68 : AA.eval (.tmp 68) = .pointer (some ⟨w.heap.size, 48, none⟩) := (rd0 (t := 68) hh rfl).trans (by rw [hT]; rfl)
                    have e67 : AA.eval (.tmp 67) = .int .i64 (t : Int) := (rd1 (t := 67) hh rfl).trans (by rw [hT]; rfl)
                    have ev : T.nth 7 = .pointer (some ⟨w.heap.size, 48 + t * 4, none⟩) := by rw [hT]; rfl
                    rw [ev]
                    have ek : ∀ v, AA.eval (.const v) = v := fun _ => rfl
                    generalize AA.eval = ρ at *
                    simp [go_sem, ek, e68, e67, ht4, ht0])
                case s8 => exact pm_load (by rw [hT]; rfl) rfl _ _ rfl (w.heap.size) (48 + t * 4) (fun cc AA hh => (rd0 (t := 69) hh rfl).trans (by rw [hT]; rfl)) (cells4L (numAt cs (48 + t * 4))) (by rw [hT]; rfl) (fun mm NN ww hh => range_below (HN (48 + t * 4) (by omega)).1 hh.1 hls) Try.underlying28 rfl int_info
                case s9 => exact pm_move (by rw [hT]; rfl) rfl _ rfl (fun cc AA hh => (rd0 (t := 5) hh rfl).trans (by rw [hT]; rfl))
                case s10 => exact pm_pure (by rw [hT]; rfl) rfl (fun cc AA ww hh => by
                    have e1 : AA.eval (.tmp 1) = .pointer (some ⟨w.heap.size, 0, none⟩) := (rd0 (t := 1) hh rfl).trans (by rw [hT]; rfl)
                    have ev : T.nth 10 = .pointer (some ⟨w.heap.size, 80, none⟩) := by rw [hT]; rfl
                    rw [ev]
                    have ek : ∀ v, AA.eval (.const v) = v := fun _ => rfl
                    generalize AA.eval = ρ at *
                    simp [go_sem, ek, e1, ht4, ht0])
                case s11 => exact pm_pure (by rw [hT]; rfl) rfl (fun cc AA ww hh => by
                    have e72 : AA.eval (.tmp 72) = .pointer (some ⟨w.heap.size, 80, none⟩) := (rd0 (t := 72) hh rfl).trans (by rw [hT]; rfl)
                    have e71 : AA.eval (.tmp 71) = .int .i64 (t : Int) := (rd1 (t := 71) hh rfl).trans (by rw [hT]; rfl)
                    have ev : T.nth 11 = .pointer (some ⟨w.heap.size, 80 + t * 4, none⟩) := by rw [hT]; rfl
                    rw [ev]
                    have ek : ∀ v, AA.eval (.const v) = v := fun _ => rfl
                    generalize AA.eval = ρ at *
                    simp [go_sem, ek, e72, e71, ht4, ht0])
                case s12 => exact pm_load (by rw [hT]; rfl) rfl _ _ rfl (w.heap.size) (80 + t * 4) (fun cc AA hh => (rd0 (t := 73) hh rfl).trans (by rw [hT]; rfl)) (cells4L (numAt cs (80 + t * 4))) (by rw [hT]; rfl) (fun mm NN ww hh => range_below (HN (80 + t * 4) (by omega)).1 hh.1 hls) Try.underlying28 rfl int_info
                case s13 => exact pg_callB (by rw [hT]; rfl) 35 _ _ rfl Try.call35 (fun cc => #[bigN (numAt cs (48 + t * 4)), bigN (numAt cs (80 + t * 4))]) (fun cc AA hh => map2 ((rd0 (t := 70) hh rfl).trans (by rw [hT]; rfl)) ((rd1 (t := 74) hh rfl).trans (by rw [hT]; rfl))) (fun cc NN ww hb hF => by rw [hT]; exact two_calls _ _ ww (HL (48 + t * 4) (by omega)) (HL (80 + t * 4) (by omega)))
                case s14 => exact pm_callB (by rw [hT]; rfl) rfl 38 _ _ rfl Try.call38 (fun cc => #[(cc 4).v, (cc 13).v]) (fun cc AA hh => map2 ((rd0 (t := 66) hh rfl).trans (by rw [hT]; rfl)) ((rd1 (t := 75) hh rfl).trans (by rw [hT]; rfl))) (fun cc NN ww hb hF => by rw [hT]; exact same_of (cmp_calls _ _ _ _ ww (by have h := (hF 4 rfl).2 (by rw [hT]; rfl); rw [hT] at h; exact h) (by have h := (hF 13 rfl).2 (by rw [hT]; rfl); rw [hT] at h; exact h)))
                case s15 => exact pm_pure (by rw [hT]; rfl) rfl (fun cc AA ww hh => by
                    have e76 : AA.eval (.tmp 76) = .int .i64 (cmpI (numAt cs (16 + t * 4)) (numAt cs (48 + t * 4) + numAt cs (80 + t * 4))) := (rd0 (t := 76) hh rfl).trans (by rw [hT]; rfl)
                    have ev : T.nth 15 = .bool (cmpI (numAt cs (16 + t * 4)) (numAt cs (48 + t * 4) + numAt cs (80 + t * 4)) != 0) := by rw [hT]; rfl
                    rw [ev]
                    have ek : ∀ v, AA.eval (.const v) = v := fun _ => rfl
                    generalize AA.eval = ρ at *
                    simp [go_sem, ek, e76, ht4, ht0])
                case s16 => exact pm_assign (by rw [hT]; rfl) rfl _ rfl (fun cc AA hh => (rd0 (t := 77) hh rfl).trans (by rw [hT]; rfl))
              case fin =>
                intro cc NN w9 hC hN hap hgs
                have hg4 : (fun v w => Row w v (dig (numAt cs (16 + t * 4)))) (cc 4).v w9 := by
                  have h := hgs 4 (by rw [hT]; rfl)
                  rw [hT] at h
                  exact h
                have hg13 : (fun v w => Row w v (dig (numAt cs (48 + t * 4) + numAt cs (80 + t * 4)))) (cc 13).v w9 := by
                  have h := hgs 13 (by rw [hT]; rfl)
                  rw [hT] at h
                  exact h
                rw [show putsAll T cc _ 0 _ = List.foldl (fun a x => Act.put a x.1 x.2) _ [(some 62, .int .i64 (t : Int)), (some 63, .pointer (some ⟨w.heap.size, 16, none⟩)), (some 64, .pointer (some ⟨w.heap.size, 16 + t * 4, none⟩)), (some 65, bigN (numAt cs (16 + t * 4))), (some 66, (cc 4).v), (some 67, .int .i64 (t : Int)), (some 68, .pointer (some ⟨w.heap.size, 48, none⟩)), (some 69, .pointer (some ⟨w.heap.size, 48 + t * 4, none⟩)), (some 70, bigN (numAt cs (48 + t * 4))), (some 71, .int .i64 (t : Int)), (some 72, .pointer (some ⟨w.heap.size, 80, none⟩)), (some 73, .pointer (some ⟨w.heap.size, 80 + t * 4, none⟩)), (some 74, bigN (numAt cs (80 + t * 4))), (some 75, (cc 13).v), (some 76, .int .i64 (cmpI (numAt cs (16 + t * 4)) (numAt cs (48 + t * 4) + numAt cs (80 + t * 4)))), (some 77, .bool (cmpI (numAt cs (16 + t * 4)) (numAt cs (48 + t * 4) + numAt cs (80 + t * 4)) != 0)), (some 7, .bool (cmpI (numAt cs (16 + t * 4)) (numAt cs (48 + t * 4) + numAt cs (80 + t * 4)) != 0))] from by rw [hT]; rfl]
                simp only [List.foldl_cons, List.foldl_nil, Act.put, List.setIfInBounds_toArray, List.set_cons_succ, List.set_cons_zero]
                clear hN hap hgs hng hT
                go_wp2_with fail
                go_meet
                exact ⟨congrArg Value.bool (cmpI_ne _ _), hC.1⟩
            · go_upto_region 20 with fail
              obtain ⟨T, hT⟩ : ∃ T : Sched, T = ⟨[.main, .main, .ghost, .main, .main, .main, .main, .ghost, .main, .main, .main], [.pointer (some ⟨sp, 12, none⟩), bigN (numAt cs (96 + t * 16 + 12)), undef, .pointer (some ⟨sp, 0, none⟩), bigN (numAt cs (96 + t * 16 + 0)), .pointer (some ⟨sp, 4, none⟩), bigN (numAt cs (96 + t * 16 + 4)), undef, .int .i64 (cmpI (numAt cs (96 + t * 16 + 12)) (numAt cs (96 + t * 16 + 0) + numAt cs (96 + t * 16 + 4))), .bool (decide (0 < cmpI (numAt cs (96 + t * 16 + 12)) (numAt cs (96 + t * 16 + 0) + numAt cs (96 + t * 16 + 4)))), .bool (decide (0 < cmpI (numAt cs (96 + t * 16 + 12)) (numAt cs (96 + t * 16 + 0) + numAt cs (96 + t * 16 + 4))))], (fun _ _ => undef), (fun _ => []), (fun _ => []), (fun k => match k with | 2 => fun v w => Row w v (dig (numAt cs (96 + t * 16 + 12))) | 7 => fun v w => Row w v (dig (numAt cs (96 + t * 16 + 0) + numAt cs (96 + t * 16 + 4))) | _ => fun _ _ => True)⟩ := ⟨_, rfl⟩
              have hng : ghosty T.tags = true := by rw [hT]; rfl
              have hE : ∀ k v w w', T.tag k = .ghost → T.E k v w → Go.RowKit.Below w.heap.size w w' → T.E k v w' := by
                rw [hT]; intro k v w w' hk hv hb
                rcases k with _ | _ | _ | _ | _ | _ | _ | _ | _ | _ | _ | _ <;> first | (cases hk; done) | trivial | exact Row.below hv hb
              refine region_plan (by kernel_rfl) T (Cls W) (by rw [hT]; kernel_rfl) (puts_len (by rw [hT]; exact trivial)) Cls.alloc Cls.put hE (Cls.start W) ?steps ?fin
              case steps =>
                refine Steps.cons ?s0 (Steps.cons ?s1 (Steps.cons ?s2 (Steps.cons ?s3 (Steps.cons ?s4 (Steps.cons ?s5 (Steps.cons ?s6 (Steps.cons ?s7 (Steps.cons ?s8 (Steps.cons ?s9 (Steps.cons ?s10 (Steps.nil)))))))))))
                case s0 => exact pm_pure (by rw [hT]; rfl) rfl (fun cc AA ww hh => by
                    have e6 : AA.eval (.tmp 6) = .pointer (some ⟨sp, 0, none⟩) := (rd0 (t := 6) hh rfl).trans (by rw [hT]; rfl)
                    have ev : T.nth 0 = .pointer (some ⟨sp, 12, none⟩) := by rw [hT]; rfl
                    rw [ev]
                    have ek : ∀ v, AA.eval (.const v) = v := fun _ => rfl
                    generalize AA.eval = ρ at *
                    simp [go_sem, ek, e6, ht4, ht0])
                case s1 => exact pm_load (by rw [hT]; rfl) rfl _ _ rfl (sp) (12) (fun cc AA hh => (rd0 (t := 80) hh rfl).trans (by rw [hT]; rfl)) (cells4L (numAt cs (96 + t * 16 + 12))) (by rw [hT]; rfl) (fun mm NN ww hh => range_below (HM 12 (by omega)).1 hh.1 hls1) Try.underlying28 rfl int_info
                case s2 => exact pg_callB (by rw [hT]; rfl) 37 _ _ rfl Try.call37 (fun cc => #[bigN (numAt cs (96 + t * 16 + 12))]) (fun cc AA hh => map1 ((rd0 (t := 81) hh rfl).trans (by rw [hT]; rfl))) (fun cc NN ww hb hF => by rw [hT]; exact gives_of (rowof_calls _ ww (HL (96 + t * 16 + 12) (by omega))))
                case s3 => exact pm_pure (by rw [hT]; rfl) rfl (fun cc AA ww hh => by
                    have e6 : AA.eval (.tmp 6) = .pointer (some ⟨sp, 0, none⟩) := (rd0 (t := 6) hh rfl).trans (by rw [hT]; rfl)
                    have ev : T.nth 3 = .pointer (some ⟨sp, 0, none⟩) := by rw [hT]; rfl
                    rw [ev]
                    have ek : ∀ v, AA.eval (.const v) = v := fun _ => rfl
                    generalize AA.eval = ρ at *
                    simp [go_sem, ek, e6, ht4, ht0])
                case s4 => exact pm_load (by rw [hT]; rfl) rfl _ _ rfl (sp) (0) (fun cc AA hh => (rd0 (t := 83) hh rfl).trans (by rw [hT]; rfl)) (cells4L (numAt cs (96 + t * 16 + 0))) (by rw [hT]; rfl) (fun mm NN ww hh => range_below (HM 0 (by omega)).1 hh.1 hls1) Try.underlying28 rfl int_info
                case s5 => exact pm_pure (by rw [hT]; rfl) rfl (fun cc AA ww hh => by
                    have e6 : AA.eval (.tmp 6) = .pointer (some ⟨sp, 0, none⟩) := (rd0 (t := 6) hh rfl).trans (by rw [hT]; rfl)
                    have ev : T.nth 5 = .pointer (some ⟨sp, 4, none⟩) := by rw [hT]; rfl
                    rw [ev]
                    have ek : ∀ v, AA.eval (.const v) = v := fun _ => rfl
                    generalize AA.eval = ρ at *
                    simp [go_sem, ek, e6, ht4, ht0])
                case s6 => exact pm_load (by rw [hT]; rfl) rfl _ _ rfl (sp) (4) (fun cc AA hh => (rd0 (t := 85) hh rfl).trans (by rw [hT]; rfl)) (cells4L (numAt cs (96 + t * 16 + 4))) (by rw [hT]; rfl) (fun mm NN ww hh => range_below (HM 4 (by omega)).1 hh.1 hls1) Try.underlying28 rfl int_info
                case s7 => exact pg_callB (by rw [hT]; rfl) 35 _ _ rfl Try.call35 (fun cc => #[bigN (numAt cs (96 + t * 16 + 0)), bigN (numAt cs (96 + t * 16 + 4))]) (fun cc AA hh => map2 ((rd0 (t := 84) hh rfl).trans (by rw [hT]; rfl)) ((rd1 (t := 86) hh rfl).trans (by rw [hT]; rfl))) (fun cc NN ww hb hF => by rw [hT]; exact two_calls _ _ ww (HL (96 + t * 16 + 0) (by omega)) (HL (96 + t * 16 + 4) (by omega)))
                case s8 => exact pm_callB (by rw [hT]; rfl) rfl 38 _ _ rfl Try.call38 (fun cc => #[(cc 2).v, (cc 7).v]) (fun cc AA hh => map2 ((rd0 (t := 82) hh rfl).trans (by rw [hT]; rfl)) ((rd1 (t := 87) hh rfl).trans (by rw [hT]; rfl))) (fun cc NN ww hb hF => by rw [hT]; exact same_of (cmp_calls _ _ _ _ ww (by have h := (hF 2 rfl).2 (by rw [hT]; rfl); rw [hT] at h; exact h) (by have h := (hF 7 rfl).2 (by rw [hT]; rfl); rw [hT] at h; exact h)))
                case s9 => exact pm_pure (by rw [hT]; rfl) rfl (fun cc AA ww hh => by
                    have e88 : AA.eval (.tmp 88) = .int .i64 (cmpI (numAt cs (96 + t * 16 + 12)) (numAt cs (96 + t * 16 + 0) + numAt cs (96 + t * 16 + 4))) := (rd0 (t := 88) hh rfl).trans (by rw [hT]; rfl)
                    have ev : T.nth 9 = .bool (decide (0 < cmpI (numAt cs (96 + t * 16 + 12)) (numAt cs (96 + t * 16 + 0) + numAt cs (96 + t * 16 + 4)))) := by rw [hT]; rfl
                    rw [ev]
                    have ek : ∀ v, AA.eval (.const v) = v := fun _ => rfl
                    generalize AA.eval = ρ at *
                    simp [go_sem, ek, e88, ht4, ht0])
                case s10 => exact pm_assign (by rw [hT]; rfl) rfl _ rfl (fun cc AA hh => (rd0 (t := 89) hh rfl).trans (by rw [hT]; rfl))
              case fin =>
                intro cc NN w9 hC hN hap hgs
                have hg2 : (fun v w => Row w v (dig (numAt cs (96 + t * 16 + 12)))) (cc 2).v w9 := by
                  have h := hgs 2 (by rw [hT]; rfl)
                  rw [hT] at h
                  exact h
                have hg7 : (fun v w => Row w v (dig (numAt cs (96 + t * 16 + 0) + numAt cs (96 + t * 16 + 4)))) (cc 7).v w9 := by
                  have h := hgs 7 (by rw [hT]; rfl)
                  rw [hT] at h
                  exact h
                rw [show putsAll T cc _ 0 _ = List.foldl (fun a x => Act.put a x.1 x.2) _ [(some 80, .pointer (some ⟨sp, 12, none⟩)), (some 81, bigN (numAt cs (96 + t * 16 + 12))), (some 82, (cc 2).v), (some 83, .pointer (some ⟨sp, 0, none⟩)), (some 84, bigN (numAt cs (96 + t * 16 + 0))), (some 85, .pointer (some ⟨sp, 4, none⟩)), (some 86, bigN (numAt cs (96 + t * 16 + 4))), (some 87, (cc 7).v), (some 88, .int .i64 (cmpI (numAt cs (96 + t * 16 + 12)) (numAt cs (96 + t * 16 + 0) + numAt cs (96 + t * 16 + 4)))), (some 89, .bool (decide (0 < cmpI (numAt cs (96 + t * 16 + 12)) (numAt cs (96 + t * 16 + 0) + numAt cs (96 + t * 16 + 4))))), (some 7, .bool (decide (0 < cmpI (numAt cs (96 + t * 16 + 12)) (numAt cs (96 + t * 16 + 0) + numAt cs (96 + t * 16 + 4)))))] from by rw [hT]; rfl]
                simp only [List.foldl_cons, List.foldl_nil, Act.put, List.setIfInBounds_toArray, List.set_cons_succ, List.set_cons_zero]
                clear hN hap hgs hng hT
                go_wp2_with fail
                go_meet
                exact ⟨congrArg Value.bool (cmpI_pos _ _), hC.1⟩
            · go_upto_region 22 with fail
              obtain ⟨T, hT⟩ : ∃ T : Sched, T = ⟨[.main, .main, .ghost, .main, .main, .main, .main, .ghost, .main, .main, .main], [.pointer (some ⟨sp, 4, none⟩), bigN (numAt cs (96 + t * 16 + 4)), undef, .int .i64 (t : Int), .pointer (some ⟨w.heap.size, 80, none⟩), .pointer (some ⟨w.heap.size, 80 + t * 4, none⟩), bigN (numAt cs (80 + t * 4)), undef, .int .i64 (cmpI (numAt cs (96 + t * 16 + 4)) (numAt cs (80 + t * 4))), .bool (decide (0 < cmpI (numAt cs (96 + t * 16 + 4)) (numAt cs (80 + t * 4)))), .bool (decide (0 < cmpI (numAt cs (96 + t * 16 + 4)) (numAt cs (80 + t * 4))))], (fun _ _ => undef), (fun _ => []), (fun _ => []), (fun k => match k with | 2 => fun v w => Row w v (dig (numAt cs (96 + t * 16 + 4))) | 7 => fun v w => Row w v (dig (numAt cs (80 + t * 4))) | _ => fun _ _ => True)⟩ := ⟨_, rfl⟩
              have hng : ghosty T.tags = true := by rw [hT]; rfl
              have hE : ∀ k v w w', T.tag k = .ghost → T.E k v w → Go.RowKit.Below w.heap.size w w' → T.E k v w' := by
                rw [hT]; intro k v w w' hk hv hb
                rcases k with _ | _ | _ | _ | _ | _ | _ | _ | _ | _ | _ | _ <;> first | (cases hk; done) | trivial | exact Row.below hv hb
              refine region_plan (by kernel_rfl) T (Cls W) (by rw [hT]; kernel_rfl) (puts_len (by rw [hT]; exact trivial)) Cls.alloc Cls.put hE (Cls.start W) ?steps ?fin
              case steps =>
                refine Steps.cons ?s0 (Steps.cons ?s1 (Steps.cons ?s2 (Steps.cons ?s3 (Steps.cons ?s4 (Steps.cons ?s5 (Steps.cons ?s6 (Steps.cons ?s7 (Steps.cons ?s8 (Steps.cons ?s9 (Steps.cons ?s10 (Steps.nil)))))))))))
                case s0 => exact pm_pure (by rw [hT]; rfl) rfl (fun cc AA ww hh => by
                    have e6 : AA.eval (.tmp 6) = .pointer (some ⟨sp, 0, none⟩) := (rd0 (t := 6) hh rfl).trans (by rw [hT]; rfl)
                    have ev : T.nth 0 = .pointer (some ⟨sp, 4, none⟩) := by rw [hT]; rfl
                    rw [ev]
                    have ek : ∀ v, AA.eval (.const v) = v := fun _ => rfl
                    generalize AA.eval = ρ at *
                    simp [go_sem, ek, e6, ht4, ht0])
                case s1 => exact pm_load (by rw [hT]; rfl) rfl _ _ rfl (sp) (4) (fun cc AA hh => (rd0 (t := 92) hh rfl).trans (by rw [hT]; rfl)) (cells4L (numAt cs (96 + t * 16 + 4))) (by rw [hT]; rfl) (fun mm NN ww hh => range_below (HM 4 (by omega)).1 hh.1 hls1) Try.underlying28 rfl int_info
                case s2 => exact pg_callB (by rw [hT]; rfl) 37 _ _ rfl Try.call37 (fun cc => #[bigN (numAt cs (96 + t * 16 + 4))]) (fun cc AA hh => map1 ((rd0 (t := 93) hh rfl).trans (by rw [hT]; rfl))) (fun cc NN ww hb hF => by rw [hT]; exact gives_of (rowof_calls _ ww (HL (96 + t * 16 + 4) (by omega))))
                case s3 => exact pm_move (by rw [hT]; rfl) rfl _ rfl (fun cc AA hh => (rd0 (t := 5) hh rfl).trans (by rw [hT]; rfl))
                case s4 => exact pm_pure (by rw [hT]; rfl) rfl (fun cc AA ww hh => by
                    have e1 : AA.eval (.tmp 1) = .pointer (some ⟨w.heap.size, 0, none⟩) := (rd0 (t := 1) hh rfl).trans (by rw [hT]; rfl)
                    have ev : T.nth 4 = .pointer (some ⟨w.heap.size, 80, none⟩) := by rw [hT]; rfl
                    rw [ev]
                    have ek : ∀ v, AA.eval (.const v) = v := fun _ => rfl
                    generalize AA.eval = ρ at *
                    simp [go_sem, ek, e1, ht4, ht0])
                case s5 => exact pm_pure (by rw [hT]; rfl) rfl (fun cc AA ww hh => by
                    have e96 : AA.eval (.tmp 96) = .pointer (some ⟨w.heap.size, 80, none⟩) := (rd0 (t := 96) hh rfl).trans (by rw [hT]; rfl)
                    have e95 : AA.eval (.tmp 95) = .int .i64 (t : Int) := (rd1 (t := 95) hh rfl).trans (by rw [hT]; rfl)
                    have ev : T.nth 5 = .pointer (some ⟨w.heap.size, 80 + t * 4, none⟩) := by rw [hT]; rfl
                    rw [ev]
                    have ek : ∀ v, AA.eval (.const v) = v := fun _ => rfl
                    generalize AA.eval = ρ at *
                    simp [go_sem, ek, e96, e95, ht4, ht0])
                case s6 => exact pm_load (by rw [hT]; rfl) rfl _ _ rfl (w.heap.size) (80 + t * 4) (fun cc AA hh => (rd0 (t := 97) hh rfl).trans (by rw [hT]; rfl)) (cells4L (numAt cs (80 + t * 4))) (by rw [hT]; rfl) (fun mm NN ww hh => range_below (HN (80 + t * 4) (by omega)).1 hh.1 hls) Try.underlying28 rfl int_info
                case s7 => exact pg_callB (by rw [hT]; rfl) 37 _ _ rfl Try.call37 (fun cc => #[bigN (numAt cs (80 + t * 4))]) (fun cc AA hh => map1 ((rd0 (t := 98) hh rfl).trans (by rw [hT]; rfl))) (fun cc NN ww hb hF => by rw [hT]; exact gives_of (rowof_calls _ ww (HL (80 + t * 4) (by omega))))
                case s8 => exact pm_callB (by rw [hT]; rfl) rfl 38 _ _ rfl Try.call38 (fun cc => #[(cc 2).v, (cc 7).v]) (fun cc AA hh => map2 ((rd0 (t := 94) hh rfl).trans (by rw [hT]; rfl)) ((rd1 (t := 99) hh rfl).trans (by rw [hT]; rfl))) (fun cc NN ww hb hF => by rw [hT]; exact same_of (cmp_calls _ _ _ _ ww (by have h := (hF 2 rfl).2 (by rw [hT]; rfl); rw [hT] at h; exact h) (by have h := (hF 7 rfl).2 (by rw [hT]; rfl); rw [hT] at h; exact h)))
                case s9 => exact pm_pure (by rw [hT]; rfl) rfl (fun cc AA ww hh => by
                    have e100 : AA.eval (.tmp 100) = .int .i64 (cmpI (numAt cs (96 + t * 16 + 4)) (numAt cs (80 + t * 4))) := (rd0 (t := 100) hh rfl).trans (by rw [hT]; rfl)
                    have ev : T.nth 9 = .bool (decide (0 < cmpI (numAt cs (96 + t * 16 + 4)) (numAt cs (80 + t * 4)))) := by rw [hT]; rfl
                    rw [ev]
                    have ek : ∀ v, AA.eval (.const v) = v := fun _ => rfl
                    generalize AA.eval = ρ at *
                    simp [go_sem, ek, e100, ht4, ht0])
                case s10 => exact pm_assign (by rw [hT]; rfl) rfl _ rfl (fun cc AA hh => (rd0 (t := 101) hh rfl).trans (by rw [hT]; rfl))
              case fin =>
                intro cc NN w9 hC hN hap hgs
                have hg2 : (fun v w => Row w v (dig (numAt cs (96 + t * 16 + 4)))) (cc 2).v w9 := by
                  have h := hgs 2 (by rw [hT]; rfl)
                  rw [hT] at h
                  exact h
                have hg7 : (fun v w => Row w v (dig (numAt cs (80 + t * 4)))) (cc 7).v w9 := by
                  have h := hgs 7 (by rw [hT]; rfl)
                  rw [hT] at h
                  exact h
                rw [show putsAll T cc _ 0 _ = List.foldl (fun a x => Act.put a x.1 x.2) _ [(some 92, .pointer (some ⟨sp, 4, none⟩)), (some 93, bigN (numAt cs (96 + t * 16 + 4))), (some 94, (cc 2).v), (some 95, .int .i64 (t : Int)), (some 96, .pointer (some ⟨w.heap.size, 80, none⟩)), (some 97, .pointer (some ⟨w.heap.size, 80 + t * 4, none⟩)), (some 98, bigN (numAt cs (80 + t * 4))), (some 99, (cc 7).v), (some 100, .int .i64 (cmpI (numAt cs (96 + t * 16 + 4)) (numAt cs (80 + t * 4)))), (some 101, .bool (decide (0 < cmpI (numAt cs (96 + t * 16 + 4)) (numAt cs (80 + t * 4))))), (some 7, .bool (decide (0 < cmpI (numAt cs (96 + t * 16 + 4)) (numAt cs (80 + t * 4)))))] from by rw [hT]; rfl]
                simp only [List.foldl_cons, List.foldl_nil, Act.put, List.setIfInBounds_toArray, List.set_cons_succ, List.set_cons_zero]
                clear hN hap hgs hng hT
                go_wp2_with fail
                go_meet
                exact ⟨congrArg Value.bool (cmpI_pos _ _), hC.1⟩
            · go_upto_region 11 with fail
              obtain ⟨T, hT⟩ : ∃ T : Sched, T = ⟨[.main, .main, .main, .main, .ghost, .main, .main, .main, .main, .main, .main, .main, .main, .ghost, .main, .main, .main], [.int .i64 (t : Int), .pointer (some ⟨w.heap.size, 32, none⟩), .pointer (some ⟨w.heap.size, 32 + t * 4, none⟩), bigN (numAt cs (32 + t * 4)), undef, .int .i64 (t : Int), .pointer (some ⟨w.heap.size, 0, none⟩), .pointer (some ⟨w.heap.size, t * 4, none⟩), bigN (numAt cs (t * 4)), .int .i64 (t : Int), .pointer (some ⟨w.heap.size, 16, none⟩), .pointer (some ⟨w.heap.size, 16 + t * 4, none⟩), bigN (numAt cs (16 + t * 4)), undef, .int .i64 (cmpI (numAt cs (32 + t * 4)) (numAt cs (t * 4) + numAt cs (16 + t * 4))), .bool (decide (cmpI (numAt cs (32 + t * 4)) (numAt cs (t * 4) + numAt cs (16 + t * 4)) < 0)), .bool (decide (cmpI (numAt cs (32 + t * 4)) (numAt cs (t * 4) + numAt cs (16 + t * 4)) < 0))], (fun _ _ => undef), (fun _ => []), (fun _ => []), (fun k => match k with | 4 => fun v w => Row w v (dig (numAt cs (32 + t * 4))) | 13 => fun v w => Row w v (dig (numAt cs (t * 4) + numAt cs (16 + t * 4))) | _ => fun _ _ => True)⟩ := ⟨_, rfl⟩
              have hng : ghosty T.tags = true := by rw [hT]; rfl
              have hE : ∀ k v w w', T.tag k = .ghost → T.E k v w → Go.RowKit.Below w.heap.size w w' → T.E k v w' := by
                rw [hT]; intro k v w w' hk hv hb
                rcases k with _ | _ | _ | _ | _ | _ | _ | _ | _ | _ | _ | _ | _ | _ | _ | _ | _ | _ <;> first | (cases hk; done) | trivial | exact Row.below hv hb
              refine region_plan (by kernel_rfl) T (Cls W) (by rw [hT]; kernel_rfl) (puts_len (by rw [hT]; exact trivial)) Cls.alloc Cls.put hE (Cls.start W) ?steps ?fin
              case steps =>
                refine Steps.cons ?s0 (Steps.cons ?s1 (Steps.cons ?s2 (Steps.cons ?s3 (Steps.cons ?s4 (Steps.cons ?s5 (Steps.cons ?s6 (Steps.cons ?s7 (Steps.cons ?s8 (Steps.cons ?s9 (Steps.cons ?s10 (Steps.cons ?s11 (Steps.cons ?s12 (Steps.cons ?s13 (Steps.cons ?s14 (Steps.cons ?s15 (Steps.cons ?s16 (Steps.nil)))))))))))))))))
                case s0 => exact pm_move (by rw [hT]; rfl) rfl _ rfl (fun cc AA hh => (rd0 (t := 5) hh rfl).trans (by rw [hT]; rfl))
                case s1 => exact pm_pure (by rw [hT]; rfl) rfl (fun cc AA ww hh => by
                    have e1 : AA.eval (.tmp 1) = .pointer (some ⟨w.heap.size, 0, none⟩) := (rd0 (t := 1) hh rfl).trans (by rw [hT]; rfl)
                    have ev : T.nth 1 = .pointer (some ⟨w.heap.size, 32, none⟩) := by rw [hT]; rfl
                    rw [ev]
                    have ek : ∀ v, AA.eval (.const v) = v := fun _ => rfl
                    generalize AA.eval = ρ at *
                    simp [go_sem, ek, e1, ht4, ht0])
                case s2 => exact pm_pure (by rw [hT]; rfl) rfl (fun cc AA ww hh => by
                    have e21 : AA.eval (.tmp 21) = .pointer (some ⟨w.heap.size, 32, none⟩) := (rd0 (t := 21) hh rfl).trans (by rw [hT]; rfl)
                    have e20 : AA.eval (.tmp 20) = .int .i64 (t : Int) := (rd1 (t := 20) hh rfl).trans (by rw [hT]; rfl)
                    have ev : T.nth 2 = .pointer (some ⟨w.heap.size, 32 + t * 4, none⟩) := by rw [hT]; rfl
                    rw [ev]
                    have ek : ∀ v, AA.eval (.const v) = v := fun _ => rfl
                    generalize AA.eval = ρ at *
                    simp [go_sem, ek, e21, e20, ht4, ht0])
                case s3 => exact pm_load (by rw [hT]; rfl) rfl _ _ rfl (w.heap.size) (32 + t * 4) (fun cc AA hh => (rd0 (t := 22) hh rfl).trans (by rw [hT]; rfl)) (cells4L (numAt cs (32 + t * 4))) (by rw [hT]; rfl) (fun mm NN ww hh => range_below (HN (32 + t * 4) (by omega)).1 hh.1 hls) Try.underlying28 rfl int_info
                case s4 => exact pg_callB (by rw [hT]; rfl) 37 _ _ rfl Try.call37 (fun cc => #[bigN (numAt cs (32 + t * 4))]) (fun cc AA hh => map1 ((rd0 (t := 23) hh rfl).trans (by rw [hT]; rfl))) (fun cc NN ww hb hF => by rw [hT]; exact gives_of (rowof_calls _ ww (HL (32 + t * 4) (by omega))))
                case s5 => exact pm_move (by rw [hT]; rfl) rfl _ rfl (fun cc AA hh => (rd0 (t := 5) hh rfl).trans (by rw [hT]; rfl))
                case s6 => exact pm_pure (by rw [hT]; rfl) rfl (fun cc AA ww hh => by
                    have e1 : AA.eval (.tmp 1) = .pointer (some ⟨w.heap.size, 0, none⟩) := (rd0 (t := 1) hh rfl).trans (by rw [hT]; rfl)
                    have ev : T.nth 6 = .pointer (some ⟨w.heap.size, 0, none⟩) := by rw [hT]; rfl
                    rw [ev]
                    have ek : ∀ v, AA.eval (.const v) = v := fun _ => rfl
                    generalize AA.eval = ρ at *
                    simp [go_sem, ek, e1, ht4, ht0])
                case s7 => exact pm_pure (by rw [hT]; rfl) rfl (fun cc AA ww hh => by
                    have e26 : AA.eval (.tmp 26) = .pointer (some ⟨w.heap.size, 0, none⟩) := (rd0 (t := 26) hh rfl).trans (by rw [hT]; rfl)
                    have e25 : AA.eval (.tmp 25) = .int .i64 (t : Int) := (rd1 (t := 25) hh rfl).trans (by rw [hT]; rfl)
                    have ev : T.nth 7 = .pointer (some ⟨w.heap.size, t * 4, none⟩) := by rw [hT]; rfl
                    rw [ev]
                    have ek : ∀ v, AA.eval (.const v) = v := fun _ => rfl
                    generalize AA.eval = ρ at *
                    simp [go_sem, ek, e26, e25, ht4, ht0])
                case s8 => exact pm_load (by rw [hT]; rfl) rfl _ _ rfl (w.heap.size) (t * 4) (fun cc AA hh => (rd0 (t := 27) hh rfl).trans (by rw [hT]; rfl)) (cells4L (numAt cs (t * 4))) (by rw [hT]; rfl) (fun mm NN ww hh => range_below (HN (t * 4) (by omega)).1 hh.1 hls) Try.underlying28 rfl int_info
                case s9 => exact pm_move (by rw [hT]; rfl) rfl _ rfl (fun cc AA hh => (rd0 (t := 5) hh rfl).trans (by rw [hT]; rfl))
                case s10 => exact pm_pure (by rw [hT]; rfl) rfl (fun cc AA ww hh => by
                    have e1 : AA.eval (.tmp 1) = .pointer (some ⟨w.heap.size, 0, none⟩) := (rd0 (t := 1) hh rfl).trans (by rw [hT]; rfl)
                    have ev : T.nth 10 = .pointer (some ⟨w.heap.size, 16, none⟩) := by rw [hT]; rfl
                    rw [ev]
                    have ek : ∀ v, AA.eval (.const v) = v := fun _ => rfl
                    generalize AA.eval = ρ at *
                    simp [go_sem, ek, e1, ht4, ht0])
                case s11 => exact pm_pure (by rw [hT]; rfl) rfl (fun cc AA ww hh => by
                    have e30 : AA.eval (.tmp 30) = .pointer (some ⟨w.heap.size, 16, none⟩) := (rd0 (t := 30) hh rfl).trans (by rw [hT]; rfl)
                    have e29 : AA.eval (.tmp 29) = .int .i64 (t : Int) := (rd1 (t := 29) hh rfl).trans (by rw [hT]; rfl)
                    have ev : T.nth 11 = .pointer (some ⟨w.heap.size, 16 + t * 4, none⟩) := by rw [hT]; rfl
                    rw [ev]
                    have ek : ∀ v, AA.eval (.const v) = v := fun _ => rfl
                    generalize AA.eval = ρ at *
                    simp [go_sem, ek, e30, e29, ht4, ht0])
                case s12 => exact pm_load (by rw [hT]; rfl) rfl _ _ rfl (w.heap.size) (16 + t * 4) (fun cc AA hh => (rd0 (t := 31) hh rfl).trans (by rw [hT]; rfl)) (cells4L (numAt cs (16 + t * 4))) (by rw [hT]; rfl) (fun mm NN ww hh => range_below (HN (16 + t * 4) (by omega)).1 hh.1 hls) Try.underlying28 rfl int_info
                case s13 => exact pg_callB (by rw [hT]; rfl) 35 _ _ rfl Try.call35 (fun cc => #[bigN (numAt cs (t * 4)), bigN (numAt cs (16 + t * 4))]) (fun cc AA hh => map2 ((rd0 (t := 28) hh rfl).trans (by rw [hT]; rfl)) ((rd1 (t := 32) hh rfl).trans (by rw [hT]; rfl))) (fun cc NN ww hb hF => by rw [hT]; exact two_calls _ _ ww (HL (t * 4) (by omega)) (HL (16 + t * 4) (by omega)))
                case s14 => exact pm_callB (by rw [hT]; rfl) rfl 38 _ _ rfl Try.call38 (fun cc => #[(cc 4).v, (cc 13).v]) (fun cc AA hh => map2 ((rd0 (t := 24) hh rfl).trans (by rw [hT]; rfl)) ((rd1 (t := 33) hh rfl).trans (by rw [hT]; rfl))) (fun cc NN ww hb hF => by rw [hT]; exact same_of (cmp_calls _ _ _ _ ww (by have h := (hF 4 rfl).2 (by rw [hT]; rfl); rw [hT] at h; exact h) (by have h := (hF 13 rfl).2 (by rw [hT]; rfl); rw [hT] at h; exact h)))
                case s15 => exact pm_pure (by rw [hT]; rfl) rfl (fun cc AA ww hh => by
                    have e34 : AA.eval (.tmp 34) = .int .i64 (cmpI (numAt cs (32 + t * 4)) (numAt cs (t * 4) + numAt cs (16 + t * 4))) := (rd0 (t := 34) hh rfl).trans (by rw [hT]; rfl)
                    have ev : T.nth 15 = .bool (decide (cmpI (numAt cs (32 + t * 4)) (numAt cs (t * 4) + numAt cs (16 + t * 4)) < 0)) := by rw [hT]; rfl
                    rw [ev]
                    have ek : ∀ v, AA.eval (.const v) = v := fun _ => rfl
                    generalize AA.eval = ρ at *
                    simp [go_sem, ek, e34, ht4, ht0])
                case s16 => exact pm_assign (by rw [hT]; rfl) rfl _ rfl (fun cc AA hh => (rd0 (t := 35) hh rfl).trans (by rw [hT]; rfl))
              case fin =>
                intro cc NN w9 hC hN hap hgs
                have hg4 : (fun v w => Row w v (dig (numAt cs (32 + t * 4)))) (cc 4).v w9 := by
                  have h := hgs 4 (by rw [hT]; rfl)
                  rw [hT] at h
                  exact h
                have hg13 : (fun v w => Row w v (dig (numAt cs (t * 4) + numAt cs (16 + t * 4)))) (cc 13).v w9 := by
                  have h := hgs 13 (by rw [hT]; rfl)
                  rw [hT] at h
                  exact h
                rw [show putsAll T cc _ 0 _ = List.foldl (fun a x => Act.put a x.1 x.2) _ [(some 20, .int .i64 (t : Int)), (some 21, .pointer (some ⟨w.heap.size, 32, none⟩)), (some 22, .pointer (some ⟨w.heap.size, 32 + t * 4, none⟩)), (some 23, bigN (numAt cs (32 + t * 4))), (some 24, (cc 4).v), (some 25, .int .i64 (t : Int)), (some 26, .pointer (some ⟨w.heap.size, 0, none⟩)), (some 27, .pointer (some ⟨w.heap.size, t * 4, none⟩)), (some 28, bigN (numAt cs (t * 4))), (some 29, .int .i64 (t : Int)), (some 30, .pointer (some ⟨w.heap.size, 16, none⟩)), (some 31, .pointer (some ⟨w.heap.size, 16 + t * 4, none⟩)), (some 32, bigN (numAt cs (16 + t * 4))), (some 33, (cc 13).v), (some 34, .int .i64 (cmpI (numAt cs (32 + t * 4)) (numAt cs (t * 4) + numAt cs (16 + t * 4)))), (some 35, .bool (decide (cmpI (numAt cs (32 + t * 4)) (numAt cs (t * 4) + numAt cs (16 + t * 4)) < 0))), (some 7, .bool (decide (cmpI (numAt cs (32 + t * 4)) (numAt cs (t * 4) + numAt cs (16 + t * 4)) < 0)))] from by rw [hT]; rfl]
                simp only [List.foldl_cons, List.foldl_nil, Act.put, List.setIfInBounds_toArray, List.set_cons_succ, List.set_cons_zero]
                clear hN hap hgs hng hT
                go_wp2_with fail
                go_meet
                exact ⟨congrArg Value.bool (cmpI_neg _ _), hC.1⟩
          case rest =>
          obtain ⟨rfl, hbx⟩ := hcut
          have HOx := Lib.hid (HOW.out.later (below_lift hbx hls))
          have HAx := Lib.hid (At.below HAW.out hbx hls)
          have hqx := HqW.out.trans (hbx.mono (Nat.le_of_lt hls))
          have hsx := Nat.lt_of_lt_of_le hls hbx.size
          obtain ⟨l0, hl0⟩ : ∃ l, finds cs (4 * k + t) = l := ⟨_, rfl⟩
          rw [hl0] at HS HOx hln
          clear hl0 hbx HOW HAW HqW HN HM hls hls1
          cases hbad : badP cs k t with
          | true =>
            rw [hbad, if_pos rfl] at HS
            clear hbad
            go_wp2_with (first
              | (at_builtin; refine wpList_app_rec rfl _ _ 50 82 finK _ 2 rfl Try.underlying50 infoFin2 rfl (by decide) (by decide) (w.heap.size + 1) _ l0 rfl HOx.out [.int .u8 ((k : Nat) : Int), .int .u8 ((t : Nat) : Int)] HTy.out rfl (by omega) (by omega) ?_))
            intro v' w6 ho6 hg6 hb6 hz6 hr6
            have HO6 := Lib.hid ho6
            have HA6 := Lib.hid (At.below HAx.out hb6 (Nat.lt_succ_self _))
            have hq6 : Below w.heap.size w w6 := hqx.trans (hb6.mono (Nat.le_succ _))
            clear ho6 hg6 hr6 HOx HAx
            go_wp2_with fail
            go_roundw
            case rel => exact ⟨t + 1, by simp, by omega, by rw [show 4 * k + (t + 1) = 4 * k + t + 1 by omega, HS.out]; exact HO6, HA6, by omega, hq6⟩
            case measure => simp [intOf]; omega
          | false =>
            rw [hbad] at HS
            clear hbad
            go_wp2_with fail
            go_roundw
            case rel => exact ⟨t + 1, by simp, by omega, by rw [show 4 * k + (t + 1) = 4 * k + t + 1 by omega, HS.out]; simpa using HOx, HAx, hsx, hqx⟩
            case measure => simp [intOf]; omega
        · have ht5 : t = 4 := by omega
          subst ht5
          go_wp2_with fail
          go_roundw
          case rel => exact ⟨k + 1, by simp, by omega, by rw [show 4 * (k + 1) = 4 * k + 4 by omega]; exact HO1, HA1, hsz1, hb1⟩
          case measure => simp [intOf]; omega
    · have hk5 : k = 5 := by omega
      subst hk5
      go_wp2_with fail
      go_ret
      exact ⟨_, rfl, HO.out.recs, hb⟩
end Go.Proofs.Ytchjjbklkmfelaa
