/- audit.Picture's wrong. -/
import Derived.Test.YtchjjbklkmfelaaAud2
import Derived.Test.YtchjjbklkmfelaaPlan7
import Derived.Test.YtchjjbklkmfelaaTake2
import Derived.Test.YtchjjbklkmfelaaRecOwn
import Derived.ArgAppend
namespace Go.Proofs.Ytchjjbklkmfelaa
open Go.RowKit Go.Lib Go.Deep
set_option linter.unusedVariables false
set_option linter.unusedSimpArgs false

/-- The cells of a picture: escrow, vault, first, second, live, owed, the pools' states, the bonds. -/
abbrev picK : Kinds := List.replicate 164 (some .u64)
/-- Does a kind not fit, of a token? -/
def badP (cs : List Value) (kind t : Nat) : Bool :=
  if kind = 0 then decide (numAt cs (t * 4) ≠ numAt cs (96 + t * 16) + numAt cs (64 + t * 4) + if t = 0 then numAt cs 160 else 0)
  else if kind = 1 then decide (numAt cs (16 + t * 4) ≠ numAt cs (48 + t * 4) + numAt cs (80 + t * 4))
  else if kind = 2 then decide (numAt cs (96 + t * 16) + numAt cs (96 + t * 16 + 4) < numAt cs (96 + t * 16 + 12))
  else if kind = 3 then decide (numAt cs (80 + t * 4) < numAt cs (96 + t * 16 + 4))
  else decide (numAt cs (32 + t * 4) < numAt cs (t * 4) + numAt cs (16 + t * 4))

theorem sum_two {a b : Nat} (ha : a < 18446744073709551616 ^ 4) (hb : b < 18446744073709551616 ^ 4) : a + b < 18446744073709551616 ^ 8 := by
  have : (18446744073709551616 : Nat) ^ 8 = 18446744073709551616 ^ 4 * 18446744073709551616 ^ 4 := by rw [← Nat.pow_add]
  rw [this]
  generalize 18446744073709551616 ^ 4 = M at *
  rcases Nat.lt_or_ge M 2 with h | h
  · have : M = 1 ∨ M = 0 := by omega
    rcases this with e | e
    · subst e; omega
    · subst e; omega
  · have := Nat.mul_le_mul_right M h
    omega
theorem sum1 {n : Nat} (w : World) {g : Nat} (hn : n < 18446744073709551616 ^ 4) (h : w.rangeAt g 0 (cells4L n)) :
    Calls Try.prog 54 #[.slice (some ⟨g, 0, none⟩) 1 1] w fun e w' => e = .returned (wideN n) ∧ Below w.heap.size w w' := by
  have := asum_calls _ [n] w (nums_of_at (l := [n]) (by simpa using h) (by simp)) (by simp) (by intro x hx; simp at hx; subst hx; exact hn)
  simpa using this
theorem sum2 {n m : Nat} (w : World) {g : Nat} (hn : n < 18446744073709551616 ^ 4) (hm : m < 18446744073709551616 ^ 4) (h : w.rangeAt g 0 (cells4L n ++ cells4L m)) :
    Calls Try.prog 54 #[.slice (some ⟨g, 0, none⟩) 2 2] w fun e w' => e = .returned (wideN (n + m)) ∧ Below w.heap.size w w' := by
  have := asum_calls _ [n, m] w (nums_of_at (l := [n, m]) (by simpa using h) (by simp)) (by simp) (by intro x hx; simp at hx; rcases hx with rfl | rfl <;> assumption)
  simpa using this

theorem cmpI_pos (a b : Nat) : decide (0 < cmpI a b) = decide (b < a) := by
  unfold cmpI
  rw [Bool.eq_iff_iff, decide_eq_true_eq, decide_eq_true_eq]
  split
  · constructor <;> intro h <;> omega
  · split
    · constructor <;> intro h <;> omega
    · constructor <;> intro h <;> omega
theorem run_neq_wideN (a b : Nat) (w : World) (ha : a < 18446744073709551616 ^ 8) (hb : b < 18446744073709551616 ^ 8) : (binOp .neq 111 (wideN a) (wideN b)).run Try.prog w = .ok (.bool (decide (a ≠ b))) w := run_neq_wide a b w ha hb
theorem wide_of {a : Nat} (ha : a < 18446744073709551616 ^ 4) : a < 18446744073709551616 ^ 8 := by
  have := sum_two ha (b := 0) (by decide)
  simpa using this
theorem pic_cells {n : Nat} {cs : List Value} (hcs : Typed (List.replicate n (some .u64)) cs) (k : Nat) (hk : k + 4 ≤ n) : (cs.drop k).take 4 = cells4L (numAt cs k) ∧ numAt cs k < 18446744073709551616 ^ 4 := by
  have hK : ∀ j, j < n → (List.replicate n (some IntKind.u64))[j]? = some (some .u64) := fun j hj => by rw [List.getElem?_replicate, if_pos hj]
  obtain ⟨f0, f1, f2, f3, f4⟩ := numAt_facts hcs k (hK _ (by omega)) (hK _ (by omega)) (hK _ (by omega)) (hK _ (by omega))
  refine ⟨List.ext_getElem? fun i => ?_, f0⟩
  rw [List.getElem?_take]
  have hl : (cells4L (numAt cs k)).length = 4 := rfl
  split
  · next hi =>
    rw [List.getElem?_drop]
    match i, hi with
    | 0, _ => rw [Nat.add_zero, (hcs.at k .u64 (hK _ (by omega))).1, ← f1]; rfl
    | 1, _ => rw [(hcs.at (k + 1) .u64 (hK _ (by omega))).1, ← f2]; rfl
    | 2, _ => rw [(hcs.at (k + 2) .u64 (hK _ (by omega))).1, ← f3]; rfl
    | 3, _ => rw [(hcs.at (k + 3) .u64 (hK _ (by omega))).1, ← f4]; rfl
  · next hi => rw [List.getElem?_eq_none (by omega)]

theorem numsOf_owns {w : World} {base : Nat} {v : Value} {a b c : Nat} (h : w.ownsRow base 28 4 v 3 (cells4L a ++ cells4L b ++ cells4L c)) : Nums w v [a, b, c] :=
  Go.Proofs.Ytchjjbklkmfelaa.OwnR.numsOf (l := [a, b, c]) (base := base) ⟨by simpa using h, fun x hx => by
    simp at hx
    rcases hx with rfl | rfl | rfl <;> exact cells4_typed _⟩

set_option maxHeartbeats 4000000 in
set_option maxRecDepth 100000 in
theorem wrong_calls (cs : List Value) (kind t : Nat) (w : World) (hcs : Typed picK cs) (hk : kind ≤ 4) (ht : t < 4) :
    Calls Try.prog 34 #[.agg cs.toArray, .int .u8 (kind : Int), .int .u8 (t : Int)] w fun e w' => e = .returned (.bool (badP cs kind t)) ∧ Below w.heap.size w w' := by
  have ht0 : (0 : Int) ≤ (t : Int) := by omega
  have ht4 : (t : Int) < 4 := by omega
  have HL : ∀ k, k + 4 ≤ 164 → numAt cs k < 18446744073709551616 ^ 4 := fun k hk => (pic_cells hcs k hk).2
  have hlen : cs.length = 164 := by rw [hcs.length]; rfl
  have A0 := At.new w cs.toArray 46
  have R0 : At (w.alloc (.cells cs.toArray 46)) w.heap.size (96 + t * 16) ((cs.drop (96 + t * 16)).take 16) := by
    have := A0.part (96 + t * 16) 16 (by simp; omega)
    rwa [Nat.zero_add] at this
  have hsc : ((cs.drop (96 + t * 16)).take 16).length = 16 := by simp; omega
  have hso : ∀ v ∈ (cs.drop (96 + t * 16)).take 16, v.oneCell' = true := fun v hv => hcs.one v (List.mem_of_mem_drop (List.mem_of_mem_take hv))
  have hsi : (Try.prog.info? 43).map (·.size) = some ((cs.drop (96 + t * 16)).take 16).length := by rw [hsc]; kernel_rfl
  have HP := Lib.hid (fun k hk => (pic_cells hcs k hk).1)
  have HL' := Lib.hid HL
  have HSC := Lib.hid hsc
  have HLn := Lib.hid hlen
  clear hcs HL hsc hlen
  obtain ⟨sc, hscd⟩ : ∃ sc, (cs.drop (96 + t * 16)).take 16 = sc := ⟨_, rfl⟩
  rw [hscd] at R0 hso hsi HSC
  have HSD := Lib.hid hscd
  clear hscd
  have HTh : Hid (((w.alloc (.cells cs.toArray 46)).alloc (.cells #[.int .u64 0, .int .u64 0, .int .u64 0, .int .u64 0, .int .u64 0, .int .u64 0, .int .u64 0, .int .u64 0, .int .u64 0, .int .u64 0, .int .u64 0, .int .u64 0, .int .u64 0, .int .u64 0, .int .u64 0, .int .u64 0] 43)).there (w.heap.size + 1) 0 sc.toArray.size) := Lib.hid (by
    have := there_alloc (w.alloc (.cells cs.toArray 46)) #[.int .u64 0, .int .u64 0, .int .u64 0, .int .u64 0, .int .u64 0, .int .u64 0, .int .u64 0, .int .u64 0, .int .u64 0, .int .u64 0, .int .u64 0, .int .u64 0, .int .u64 0, .int .u64 0, .int .u64 0, .int .u64 0] 43
    rw [World.size_alloc] at this
    rw [show sc.toArray.size = 16 by simp [HSC.out]]
    exact this)
  have HSI : Hid ((Try.prog.info? 43).map (·.size) = some sc.toArray.size) := Lib.hid (by rw [List.size_toArray]; exact hsi)
  go_enter Try.func34, Try.ntmps34
  go_upto_region 2 with (first
    | refine wpList_load_mid rfl 43 _ rfl w.heap.size (96 + t * 16) rfl sc _ R0.1 Try.underlying43 rfl hsi ?_
    | refine wpList_store_mid rfl 43 _ _ rfl (w.heap.size + 1) 0 sc.toArray rfl rfl HTh.out HSI.out (all_oneCell_toArray hso) ?_)
  obtain ⟨W, hW⟩ : ∃ W, ((w.alloc (.cells cs.toArray 46)).alloc (.cells #[.int .u64 0, .int .u64 0, .int .u64 0, .int .u64 0, .int .u64 0, .int .u64 0, .int .u64 0, .int .u64 0, .int .u64 0, .int .u64 0, .int .u64 0, .int .u64 0, .int .u64 0, .int .u64 0, .int .u64 0, .int .u64 0] 43)).setCells (w.heap.size + 1) 0 sc = W := ⟨_, rfl⟩
  have A1 : At W w.heap.size 0 cs := by
    rw [← hW]
    exact (A0.alloc _).apart _ _ _ (.inl (by omega))
  have A2 : At W (w.heap.size + 1) 0 sc := by
    rw [← hW]
    have h := HTh.out
    rw [List.size_toArray] at h
    exact ⟨World.rangeAt_setCells_same _ _ _ _ h, World.there_setCells h _ _ _⟩
  have hq : Below w.heap.size w W := by
    rw [← hW]
    exact below_range (by omega) _ 0 _ (((Below.refl _ _).alloc (Nat.le_refl _) _).alloc (by simp) _)
  have hls : w.heap.size < W.heap.size := by rw [← hW, cells_size]; simp; omega
  have hls1 : w.heap.size + 1 < W.heap.size := by rw [← hW, cells_size]; simp
  have HN : ∀ k, k + 4 ≤ 164 → NAt W w.heap.size k (numAt cs k) := fun k hk => by
    have h := A1.part k 4 (by rw [HLn.out]; exact hk)
    rwa [HP.out k hk, Nat.zero_add] at h
  have HM : ∀ j, j + 4 ≤ 16 → NAt W (w.heap.size + 1) j (numAt cs (96 + t * 16 + j)) := fun j hj => by
    have h := A2.part j 4 (by rw [HSC.out]; exact hj)
    have e : (sc.drop j).take 4 = (cs.drop (96 + t * 16 + j)).take 4 := by
      rw [← HSD.out, List.drop_take, List.take_take, List.drop_drop, Nat.min_eq_left (by omega)]
    rwa [e, HP.out _ (by omega), Nat.zero_add] at h
  have HL := HL'.out
  clear A0 R0 hsi HTh HSI hso A1 A2
  rw [hW]
  clear hW
  rcases (by omega : kind = 0 ∨ kind = 1 ∨ kind = 2 ∨ kind = 3 ∨ kind = 4) with rfl | rfl | rfl | rfl | rfl
  · go_upto_region 4 with fail
    obtain ⟨T, hT⟩ : ∃ T : Sched, T = ⟨[.main, .main, .main, .main, .main, .main, .new, .alias 6], [.pointer (some ⟨w.heap.size + 1, 0, none⟩), bigN (numAt cs (96 + t * 16 + 0)), .int .u8 (t : Int), .pointer (some ⟨w.heap.size, 64, none⟩), .pointer (some ⟨w.heap.size, 64 + t * 4, none⟩), bigN (numAt cs (64 + t * 4)), undef, undef], (fun k p => match k with | 6 => .slice (some ⟨p, 0, none⟩) 2 2 | _ => undef), (fun k => match k with | 6 => cells4L (numAt cs (96 + t * 16 + 0)) ++ cells4L (numAt cs (64 + t * 4)) | _ => []), (fun _ => []), (fun _ _ _ => True)⟩ := ⟨_, rfl⟩
    have hng : ghosty T.tags = false := by rw [hT]; rfl
    refine region_plan (by kernel_rfl) T (Cls W) (by rw [hT]; kernel_rfl) (puts_len (by rw [hT]; exact trivial)) Cls.alloc Cls.put (no_ghost hng) (Cls.start W) ?steps ?fin
    case steps =>
      refine Steps.cons ?s0 (Steps.cons ?s1 (Steps.cons ?s2 (Steps.cons ?s3 (Steps.cons ?s4 (Steps.cons ?s5 (Steps.cons ?s6 (Steps.cons ?s7 (Steps.nil))))))))
      case s0 => exact pm_pure (by rw [hT]; rfl) rfl (fun cc AA ww hh => by
          have e7 : AA.eval (.tmp 7) = .pointer (some ⟨w.heap.size + 1, 0, none⟩) := (rd0 (t := 7) hh rfl).trans (by rw [hT]; rfl)
          have ev : T.nth 0 = .pointer (some ⟨w.heap.size + 1, 0, none⟩) := by rw [hT]; rfl
          rw [ev]
          have ek : ∀ v, AA.eval (.const v) = v := fun _ => rfl
          generalize AA.eval = ρ at *
          simp [go_sem, ek, e7, ht4, ht0])
      case s1 => exact pm_load (by rw [hT]; rfl) rfl _ _ rfl (w.heap.size + 1) (0) (fun cc AA hh => (rd0 (t := 16) hh rfl).trans (by rw [hT]; rfl)) (cells4L (numAt cs (96 + t * 16 + 0))) (by rw [hT]; rfl) (fun mm NN ww hh => range_below (HM 0 (by omega)).1 hh.1 hls1) Try.underlying28 rfl int_info
      case s2 => exact pm_move (by rw [hT]; rfl) rfl _ rfl (fun cc AA hh => (rd0 (t := 2) hh rfl).trans (by rw [hT]; rfl))
      case s3 => exact pm_pure (by rw [hT]; rfl) rfl (fun cc AA ww hh => by
          have e3 : AA.eval (.tmp 3) = .pointer (some ⟨w.heap.size, 0, none⟩) := (rd0 (t := 3) hh rfl).trans (by rw [hT]; rfl)
          have ev : T.nth 3 = .pointer (some ⟨w.heap.size, 64, none⟩) := by rw [hT]; rfl
          rw [ev]
          have ek : ∀ v, AA.eval (.const v) = v := fun _ => rfl
          generalize AA.eval = ρ at *
          simp [go_sem, ek, e3, ht4, ht0])
      case s4 => exact pm_pure (by rw [hT]; rfl) rfl (fun cc AA ww hh => by
          have e19 : AA.eval (.tmp 19) = .pointer (some ⟨w.heap.size, 64, none⟩) := (rd0 (t := 19) hh rfl).trans (by rw [hT]; rfl)
          have e18 : AA.eval (.tmp 18) = .int .u8 (t : Int) := (rd1 (t := 18) hh rfl).trans (by rw [hT]; rfl)
          have ev : T.nth 4 = .pointer (some ⟨w.heap.size, 64 + t * 4, none⟩) := by rw [hT]; rfl
          rw [ev]
          have ek : ∀ v, AA.eval (.const v) = v := fun _ => rfl
          generalize AA.eval = ρ at *
          simp [go_sem, ek, e19, e18, ht4, ht0])
      case s5 => exact pm_load (by rw [hT]; rfl) rfl _ _ rfl (w.heap.size) (64 + t * 4) (fun cc AA hh => (rd0 (t := 20) hh rfl).trans (by rw [hT]; rfl)) (cells4L (numAt cs (64 + t * 4))) (by rw [hT]; rfl) (fun mm NN ww hh => range_below (HN (64 + t * 4) (by omega)).1 hh.1 hls) Try.underlying28 rfl int_info
      case s6 => exact pn_ints2 (by rw [hT]; rfl) _ _ rfl (by rw [hT]; intro p; rfl) (numAt cs (96 + t * 16 + 0)) (numAt cs (64 + t * 4)) (fun cc AA hh => (rd0 (t := 17) hh rfl).trans (by rw [hT]; rfl)) (fun cc AA hh => (rd1 (t := 21) hh rfl).trans (by rw [hT]; rfl)) (by rw [hT]; rfl)
      case s7 => exact pa_copy _ (by rw [hT]; rfl) _ (.inr rfl) (fun cc AA hh => (rd0 (t := 22) hh rfl).trans (by rw [hT]; rfl))
    case fin =>
      intro cc NN w4 hC hN hap hgs
      obtain ⟨hn6, hz6, hth6, hr6, hp6⟩ := hN 6 (by rw [hT]; rfl)
      have hx6 : At w4 (cc 6).p 0 (cells4L (numAt cs (96 + t * 16 + 0)) ++ cells4L (numAt cs (64 + t * 4))) := by
        have h := hr6 (fun j hj => by rw [hT] at hj; revert hj; rcases j with _ | _ | _ | _ | _ | _ | _ | _ | _ <;> simp [Sched.tag])
        rw [hT] at h hth6
        exact ⟨h, hth6⟩
      rw [show putsAll T cc _ 0 _ = List.foldl (fun a x => Act.put a x.1 x.2) _ [(some 16, .pointer (some ⟨w.heap.size + 1, 0, none⟩)), (some 17, bigN (numAt cs (96 + t * 16 + 0))), (some 18, .int .u8 (t : Int)), (some 19, .pointer (some ⟨w.heap.size, 64, none⟩)), (some 20, .pointer (some ⟨w.heap.size, 64 + t * 4, none⟩)), (some 21, bigN (numAt cs (64 + t * 4))), (some 22, .slice (some ⟨(cc 6).p, 0, none⟩) 2 2), (some 8, .slice (some ⟨(cc 6).p, 0, none⟩) 2 2)] from by rw [hT]; rfl]
      simp only [List.foldl_cons, List.foldl_nil, Act.put, List.setIfInBounds_toArray, List.set_cons_succ, List.set_cons_zero]
      clear hN hap hgs hng hT
      have hq4 := hq.trans (hC.1.mono (Nat.le_of_lt hls))
      have hsz4 := hC.1.size
      have HN4 := Lib.hid (fun k hk => At.below (HN k hk) hC.1 hls)
      have HHL := Lib.hid HL
      clear HL HN HM
      go_upto_if 24 with fail
      obtain ⟨b0, hb0⟩ : ∃ b, ((t : Int) == 0) = b := ⟨_, rfl⟩
      have HB0 := Lib.hid hb0
      rw [hb0]
      clear hb0 hn6 hth6 hr6 hp6 hC
      obtain ⟨g, hg⟩ : ∃ g, (cc 6).p = g := ⟨_, rfl⟩
      rw [hg] at hx6 hz6
      rw [hg]
      clear hg
      obtain ⟨x, hx⟩ : ∃ x, numAt cs (96 + t * 16 + 0) = x := ⟨_, rfl⟩
      obtain ⟨y, hy⟩ : ∃ y, numAt cs (64 + t * 4) = y := ⟨_, rfl⟩
      obtain ⟨z, hz⟩ : ∃ z, numAt cs 160 = z := ⟨_, rfl⟩
      obtain ⟨e, he⟩ : ∃ e, numAt cs (t * 4) = e := ⟨_, rfl⟩
      rw [hx, hy] at hx6
      have H160 := HN4.out 160 (by omega)
      have HE4 := HN4.out (t * 4) (by omega)
      rw [hz] at H160
      rw [he] at HE4
      have lx : x < 18446744073709551616 ^ 4 := hx ▸ HHL.out _ (by omega)
      have ly : y < 18446744073709551616 ^ 4 := hy ▸ HHL.out _ (by omega)
      have lz : z < 18446744073709551616 ^ 4 := hz ▸ HHL.out _ (by omega)
      have le : e < 18446744073709551616 ^ 4 := he ▸ HHL.out _ (by omega)
      have HBAD : Hid (badP cs 0 t = decide (e ≠ x + y + if t = 0 then z else 0)) := Lib.hid (by rw [← hx, ← hy, ← hz, ← he]; rfl)
      have HLS := Lib.hid (And.intro lx (And.intro ly (And.intro lz le)))
      have hls4 := Nat.lt_of_lt_of_le hls (show W.heap.size ≤ w4.heap.size from hsz4)
      clear hx hy hz he lx ly lz le HN4 HHL
      go_cut [8] from 25 to 29 (fun v8 wx => Nums wx v8 (if t = 0 then [x, y, z] else [x, y]) ∧ Below w4.heap.size w4 wx)
      case first =>
        cases b0 with
        | true =>
          have t0 := Lib.hid (show t = 0 by have := HB0.out; simp at this; exact this)
          obtain ⟨i0, hi, hz0, hz1, hz2⟩ := info_parts infoInt4
          obtain ⟨⟨n0, n1, n2, n3⟩, -⟩ := NAt.cells H160
          have HX := Lib.hid hx6
          have HI := Lib.hid (And.intro hi (And.intro hz0 (And.intro hz1 hz2)))
          clear hx6 hi hz0 hz1 hz2
          go_wp2_with (first | (at_builtin; refine wpList_append_grows _ rfl _ _ 93 rfl 28 i0 _ 4 32 Try.underlying93 HI.out.1 HI.out.2.1 HI.out.2.2.1 HI.out.2.2.2 rfl (by decide) (some ⟨g, 0, none⟩) 2 2 (cells4L x ++ cells4L y) rfl (fun h => by cases h) rfl ?h1 ⟨w4.heap.size, 0, none⟩ 1 1 (cells4L z) rfl rfl ?h2 (cells4_one z) (by decide) (by unfold maxLen; omega) (by omega) ?_))
          case h1 =>
            intro b hb j u hu
            cases hb
            rw [Addr.add_lit]
            exact World.rangeAt_alloc HX.out.1 _ j u hu
          case h2 =>
            intro j u hu
            rw [Addr.add_lit]
            exact range_alloc w4 _ _ j u hu
          intro v' w5 hown hgrow
          have hb5 : Below w4.heap.size w4 w5 := ((Below.refl _ _).alloc (Nat.le_refl _) _).grown hgrow (by simp) (by simp)
          have HN5 := Lib.hid (numsOf_owns (by simpa using hown))
          clear hown hgrow
          go_wp2_with fail
          go_meet
          exact ⟨by rw [if_pos t0.out]; exact HN5.out, hb5⟩
        | false =>
          have t0 := Lib.hid (show ¬ t = 0 by have := HB0.out; simp at this; exact this)
          go_wp2_with fail
          go_meet
          exact ⟨by rw [if_neg t0.out]; exact nums_of_at (l := [x, y]) (by simpa using hx6.1) (by simp), Below.refl _ _⟩
      case rest =>
      obtain ⟨HNu, hbx⟩ := hcut
      have HE5 := At.below HE4 hbx hls4
      obtain ⟨⟨n0, n1, n2, n3⟩, -⟩ := NAt.cells HE5
      have HNU := Lib.hid HNu
      have hq5 := hq4.trans (hbx.mono hq4.size)
      have RA := range_alloc wc #[.int .u64 (limb e 0), .int .u64 (limb e 1), .int .u64 (limb e 2), .int .u64 (limb e 3)] 28
      have HS1 := Lib.hid (sum1 (n := e) (wc.alloc (.cells #[.int .u64 (limb e 0), .int .u64 (limb e 1), .int .u64 (limb e 2), .int .u64 (limb e 3)] 28)) HLS.out.2.2.2 RA)
      clear RA HNu H160 HE4 hx6 HE5
      go_wp2_with fail
      refine HS1.out.mono ?_
      rintro _ w5 ⟨rfl, hb5⟩
      have hb5' : Below wc.heap.size wc w5 := ((Below.refl _ _).alloc (Nat.le_refl _) _).trans (hb5.mono (by simp))
      have HN5 := HNU.out.below hb5'
      obtain ⟨l, hl⟩ : ∃ l, (if t = 0 then [x, y, z] else [x, y]) = l := ⟨_, rfl⟩
      have hl1 : l.length ≤ 1000000 ∧ (∀ v ∈ l, v < 18446744073709551616 ^ 4) ∧ l.sum = x + y + (if t = 0 then z else 0) := by
        obtain ⟨q1, q2, q3, q4⟩ := HLS.out
        rw [← hl]
        split
        · refine ⟨by simp, fun v hv => ?_, by simp [Nat.add_assoc]⟩
          simp at hv
          rcases hv with rfl | rfl | rfl <;> assumption
        · refine ⟨by simp, fun v hv => ?_, by simp⟩
          simp at hv
          rcases hv with rfl | rfl <;> assumption
      rw [hl] at HN5
      have HAS := Lib.hid (asum_calls _ l w5 HN5 hl1.1 hl1.2.1)
      have hsum : l.sum < 18446744073709551616 ^ 8 := by
        obtain ⟨q1, q2, q3, q4⟩ := HLS.out
        rw [hl1.2.2]
        have e8 : (18446744073709551616 : Nat) ^ 8 = 18446744073709551616 ^ 4 * 18446744073709551616 ^ 4 := by rw [← Nat.pow_add]
        rw [e8]
        have hM : (3 : Nat) ≤ 18446744073709551616 ^ 4 := by decide
        generalize 18446744073709551616 ^ 4 = M at *
        have := Nat.mul_le_mul_right M hM
        split <;> omega
      have HSM := Lib.hid hl1.2.2
      have HNE := Lib.hid (fun w => run_neq_wideN e l.sum w (wide_of HLS.out.2.2.2) hsum)
      have hq6 := hq5.trans (hb5'.mono hq5.size)
      clear hl1 hl hsum HN5 HNU hb5 hb5' HS1 n0 n1 n2 n3
      go_wp2_with fail
      refine HAS.out.mono ?_
      rintro _ w6 ⟨rfl, hb6⟩
      have hne := HNE.out
      have HEnd : Hid (badP cs 0 t = decide (e ≠ l.sum)) := Lib.hid (by rw [HSM.out]; exact HBAD.out)
      generalize l.sum = sm at *
      clear HNE HSM HAS HBAD
      unfold wideN at hne ⊢
      go_wp2_with fail
      go_ret
      exact ⟨congrArg (fun b => Ending.returned (.bool b)) (by rw [HEnd.out, decide_not]), hq6.trans (hb6.mono hq6.size)⟩
  · go_upto_region 9 with fail
    obtain ⟨T, hT⟩ : ∃ T : Sched, T = ⟨[.main, .main, .main, .main, .new, .main, .main, .main, .main, .main, .main, .main, .main, .main, .new, .main, .main, .main], [.int .u8 (t : Int), .pointer (some ⟨w.heap.size, 16, none⟩), .pointer (some ⟨w.heap.size, 16 + t * 4, none⟩), bigN (numAt cs (16 + t * 4)), undef, wideN (numAt cs (16 + t * 4)), .int .u8 (t : Int), .pointer (some ⟨w.heap.size, 48, none⟩), .pointer (some ⟨w.heap.size, 48 + t * 4, none⟩), bigN (numAt cs (48 + t * 4)), .int .u8 (t : Int), .pointer (some ⟨w.heap.size, 80, none⟩), .pointer (some ⟨w.heap.size, 80 + t * 4, none⟩), bigN (numAt cs (80 + t * 4)), undef, wideN (numAt cs (48 + t * 4) + numAt cs (80 + t * 4)), .bool (decide (numAt cs (16 + t * 4) ≠ numAt cs (48 + t * 4) + numAt cs (80 + t * 4))), .bool (decide (numAt cs (16 + t * 4) ≠ numAt cs (48 + t * 4) + numAt cs (80 + t * 4)))], (fun k p => match k with | 4 => .slice (some ⟨p, 0, none⟩) 1 1 | 14 => .slice (some ⟨p, 0, none⟩) 2 2 | _ => undef), (fun k => match k with | 4 => cells4L (numAt cs (16 + t * 4)) | 14 => cells4L (numAt cs (48 + t * 4)) ++ cells4L (numAt cs (80 + t * 4)) | _ => []), (fun _ => []), (fun _ _ _ => True)⟩ := ⟨_, rfl⟩
    have hng : ghosty T.tags = false := by rw [hT]; rfl
    refine region_plan (by kernel_rfl) T (Cls W) (by rw [hT]; kernel_rfl) (puts_len (by rw [hT]; exact trivial)) Cls.alloc Cls.put (no_ghost hng) (Cls.start W) ?steps ?fin
    case steps =>
      refine Steps.cons ?s0 (Steps.cons ?s1 (Steps.cons ?s2 (Steps.cons ?s3 (Steps.cons ?s4 (Steps.cons ?s5 (Steps.cons ?s6 (Steps.cons ?s7 (Steps.cons ?s8 (Steps.cons ?s9 (Steps.cons ?s10 (Steps.cons ?s11 (Steps.cons ?s12 (Steps.cons ?s13 (Steps.cons ?s14 (Steps.cons ?s15 (Steps.cons ?s16 (Steps.cons ?s17 (Steps.nil))))))))))))))))))
      case s0 => exact pm_move (by rw [hT]; rfl) rfl _ rfl (fun cc AA hh => (rd0 (t := 2) hh rfl).trans (by rw [hT]; rfl))
      case s1 => exact pm_pure (by rw [hT]; rfl) rfl (fun cc AA ww hh => by
          have e3 : AA.eval (.tmp 3) = .pointer (some ⟨w.heap.size, 0, none⟩) := (rd0 (t := 3) hh rfl).trans (by rw [hT]; rfl)
          have ev : T.nth 1 = .pointer (some ⟨w.heap.size, 16, none⟩) := by rw [hT]; rfl
          rw [ev]
          have ek : ∀ v, AA.eval (.const v) = v := fun _ => rfl
          generalize AA.eval = ρ at *
          simp [go_sem, ek, e3, ht4, ht0])
      case s2 => exact pm_pure (by rw [hT]; rfl) rfl (fun cc AA ww hh => by
          have e42 : AA.eval (.tmp 42) = .pointer (some ⟨w.heap.size, 16, none⟩) := (rd0 (t := 42) hh rfl).trans (by rw [hT]; rfl)
          have e41 : AA.eval (.tmp 41) = .int .u8 (t : Int) := (rd1 (t := 41) hh rfl).trans (by rw [hT]; rfl)
          have ev : T.nth 2 = .pointer (some ⟨w.heap.size, 16 + t * 4, none⟩) := by rw [hT]; rfl
          rw [ev]
          have ek : ∀ v, AA.eval (.const v) = v := fun _ => rfl
          generalize AA.eval = ρ at *
          simp [go_sem, ek, e42, e41, ht4, ht0])
      case s3 => exact pm_load (by rw [hT]; rfl) rfl _ _ rfl (w.heap.size) (16 + t * 4) (fun cc AA hh => (rd0 (t := 43) hh rfl).trans (by rw [hT]; rfl)) (cells4L (numAt cs (16 + t * 4))) (by rw [hT]; rfl) (fun mm NN ww hh => range_below (HN (16 + t * 4) (by omega)).1 hh.1 hls) Try.underlying28 rfl int_info
      case s4 => exact pn_ints1 (by rw [hT]; rfl) _ rfl (by rw [hT]; intro p; rfl) (numAt cs (16 + t * 4)) (fun cc AA hh => (rd0 (t := 44) hh rfl).trans (by rw [hT]; rfl)) (by rw [hT]; rfl)
      case s5 => exact pm_callB (by rw [hT]; rfl) rfl 54 _ _ rfl Try.call54 (fun cc => #[.slice (some ⟨(cc 4).p, 0, none⟩) 1 1]) (fun cc AA hh => map1 ((rd0 (t := 45) hh rfl).trans (by rw [hT]; rfl))) (fun cc NN ww hb hF => by rw [hT]; exact sum1 ww (HL (16 + t * 4) (by omega)) (by have h := ((hF 4 rfl).1 (by rw [hT]; rfl)).2.2; rw [hT] at h; exact h))
      case s6 => exact pm_move (by rw [hT]; rfl) rfl _ rfl (fun cc AA hh => (rd0 (t := 2) hh rfl).trans (by rw [hT]; rfl))
      case s7 => exact pm_pure (by rw [hT]; rfl) rfl (fun cc AA ww hh => by
          have e3 : AA.eval (.tmp 3) = .pointer (some ⟨w.heap.size, 0, none⟩) := (rd0 (t := 3) hh rfl).trans (by rw [hT]; rfl)
          have ev : T.nth 7 = .pointer (some ⟨w.heap.size, 48, none⟩) := by rw [hT]; rfl
          rw [ev]
          have ek : ∀ v, AA.eval (.const v) = v := fun _ => rfl
          generalize AA.eval = ρ at *
          simp [go_sem, ek, e3, ht4, ht0])
      case s8 => exact pm_pure (by rw [hT]; rfl) rfl (fun cc AA ww hh => by
          have e48 : AA.eval (.tmp 48) = .pointer (some ⟨w.heap.size, 48, none⟩) := (rd0 (t := 48) hh rfl).trans (by rw [hT]; rfl)
          have e47 : AA.eval (.tmp 47) = .int .u8 (t : Int) := (rd1 (t := 47) hh rfl).trans (by rw [hT]; rfl)
          have ev : T.nth 8 = .pointer (some ⟨w.heap.size, 48 + t * 4, none⟩) := by rw [hT]; rfl
          rw [ev]
          have ek : ∀ v, AA.eval (.const v) = v := fun _ => rfl
          generalize AA.eval = ρ at *
          simp [go_sem, ek, e48, e47, ht4, ht0])
      case s9 => exact pm_load (by rw [hT]; rfl) rfl _ _ rfl (w.heap.size) (48 + t * 4) (fun cc AA hh => (rd0 (t := 49) hh rfl).trans (by rw [hT]; rfl)) (cells4L (numAt cs (48 + t * 4))) (by rw [hT]; rfl) (fun mm NN ww hh => range_below (HN (48 + t * 4) (by omega)).1 hh.1 hls) Try.underlying28 rfl int_info
      case s10 => exact pm_move (by rw [hT]; rfl) rfl _ rfl (fun cc AA hh => (rd0 (t := 2) hh rfl).trans (by rw [hT]; rfl))
      case s11 => exact pm_pure (by rw [hT]; rfl) rfl (fun cc AA ww hh => by
          have e3 : AA.eval (.tmp 3) = .pointer (some ⟨w.heap.size, 0, none⟩) := (rd0 (t := 3) hh rfl).trans (by rw [hT]; rfl)
          have ev : T.nth 11 = .pointer (some ⟨w.heap.size, 80, none⟩) := by rw [hT]; rfl
          rw [ev]
          have ek : ∀ v, AA.eval (.const v) = v := fun _ => rfl
          generalize AA.eval = ρ at *
          simp [go_sem, ek, e3, ht4, ht0])
      case s12 => exact pm_pure (by rw [hT]; rfl) rfl (fun cc AA ww hh => by
          have e52 : AA.eval (.tmp 52) = .pointer (some ⟨w.heap.size, 80, none⟩) := (rd0 (t := 52) hh rfl).trans (by rw [hT]; rfl)
          have e51 : AA.eval (.tmp 51) = .int .u8 (t : Int) := (rd1 (t := 51) hh rfl).trans (by rw [hT]; rfl)
          have ev : T.nth 12 = .pointer (some ⟨w.heap.size, 80 + t * 4, none⟩) := by rw [hT]; rfl
          rw [ev]
          have ek : ∀ v, AA.eval (.const v) = v := fun _ => rfl
          generalize AA.eval = ρ at *
          simp [go_sem, ek, e52, e51, ht4, ht0])
      case s13 => exact pm_load (by rw [hT]; rfl) rfl _ _ rfl (w.heap.size) (80 + t * 4) (fun cc AA hh => (rd0 (t := 53) hh rfl).trans (by rw [hT]; rfl)) (cells4L (numAt cs (80 + t * 4))) (by rw [hT]; rfl) (fun mm NN ww hh => range_below (HN (80 + t * 4) (by omega)).1 hh.1 hls) Try.underlying28 rfl int_info
      case s14 => exact pn_ints2 (by rw [hT]; rfl) _ _ rfl (by rw [hT]; intro p; rfl) (numAt cs (48 + t * 4)) (numAt cs (80 + t * 4)) (fun cc AA hh => (rd0 (t := 50) hh rfl).trans (by rw [hT]; rfl)) (fun cc AA hh => (rd1 (t := 54) hh rfl).trans (by rw [hT]; rfl)) (by rw [hT]; rfl)
      case s15 => exact pm_callB (by rw [hT]; rfl) rfl 54 _ _ rfl Try.call54 (fun cc => #[.slice (some ⟨(cc 14).p, 0, none⟩) 2 2]) (fun cc AA hh => map1 ((rd0 (t := 55) hh rfl).trans (by rw [hT]; rfl))) (fun cc NN ww hb hF => by rw [hT]; exact sum2 ww (HL (48 + t * 4) (by omega)) (HL (80 + t * 4) (by omega)) (by have h := ((hF 14 rfl).1 (by rw [hT]; rfl)).2.2; rw [hT] at h; exact h))
      case s16 => exact pm_pure (by rw [hT]; rfl) rfl (fun cc AA ww hh => by
          have e46 : AA.eval (.tmp 46) = wideN (numAt cs (16 + t * 4)) := (rd0 (t := 46) hh rfl).trans (by rw [hT]; rfl)
          have e56 : AA.eval (.tmp 56) = wideN (numAt cs (48 + t * 4) + numAt cs (80 + t * 4)) := (rd1 (t := 56) hh rfl).trans (by rw [hT]; rfl)
          have ev : T.nth 16 = .bool (decide (numAt cs (16 + t * 4) ≠ numAt cs (48 + t * 4) + numAt cs (80 + t * 4))) := by rw [hT]; rfl
          rw [ev]
          have ek : ∀ v, AA.eval (.const v) = v := fun _ => rfl
          generalize AA.eval = ρ at *
          simp [go_sem, ek, e46, e56, wideN, run_neq_wide _ _ _ (wide_of (HL (16 + t * 4) (by omega))) (sum_two (HL (48 + t * 4) (by omega)) (HL (80 + t * 4) (by omega)))])
      case s17 => exact pm_assign (by rw [hT]; rfl) rfl _ rfl (fun cc AA hh => (rd0 (t := 57) hh rfl).trans (by rw [hT]; rfl))
    case fin =>
      intro cc NN w9 hC hN hap hgs
      obtain ⟨hn4, hz4, hth4, hr4, hp4⟩ := hN 4 (by rw [hT]; rfl)
      have hx4 : At w9 (cc 4).p 0 (cells4L (numAt cs (16 + t * 4))) := by
        have h := hr4 (fun j hj => by rw [hT] at hj; revert hj; rcases j with _ | _ | _ | _ | _ | _ | _ | _ | _ | _ | _ | _ | _ | _ | _ | _ | _ | _ | _ <;> simp [Sched.tag])
        rw [hT] at h hth4
        exact ⟨h, hth4⟩
      have hne4_14 : (cc 4).p ≠ (cc 14).p := hap 4 14 (by rw [hT]; rfl) (by rw [hT]; rfl) (by decide)
      obtain ⟨hn14, hz14, hth14, hr14, hp14⟩ := hN 14 (by rw [hT]; rfl)
      have hx14 : At w9 (cc 14).p 0 (cells4L (numAt cs (48 + t * 4)) ++ cells4L (numAt cs (80 + t * 4))) := by
        have h := hr14 (fun j hj => by rw [hT] at hj; revert hj; rcases j with _ | _ | _ | _ | _ | _ | _ | _ | _ | _ | _ | _ | _ | _ | _ | _ | _ | _ | _ <;> simp [Sched.tag])
        rw [hT] at h hth14
        exact ⟨h, hth14⟩
      rw [show putsAll T cc _ 0 _ = List.foldl (fun a x => Act.put a x.1 x.2) _ [(some 41, .int .u8 (t : Int)), (some 42, .pointer (some ⟨w.heap.size, 16, none⟩)), (some 43, .pointer (some ⟨w.heap.size, 16 + t * 4, none⟩)), (some 44, bigN (numAt cs (16 + t * 4))), (some 45, .slice (some ⟨(cc 4).p, 0, none⟩) 1 1), (some 46, wideN (numAt cs (16 + t * 4))), (some 47, .int .u8 (t : Int)), (some 48, .pointer (some ⟨w.heap.size, 48, none⟩)), (some 49, .pointer (some ⟨w.heap.size, 48 + t * 4, none⟩)), (some 50, bigN (numAt cs (48 + t * 4))), (some 51, .int .u8 (t : Int)), (some 52, .pointer (some ⟨w.heap.size, 80, none⟩)), (some 53, .pointer (some ⟨w.heap.size, 80 + t * 4, none⟩)), (some 54, bigN (numAt cs (80 + t * 4))), (some 55, .slice (some ⟨(cc 14).p, 0, none⟩) 2 2), (some 56, wideN (numAt cs (48 + t * 4) + numAt cs (80 + t * 4))), (some 57, .bool (decide (numAt cs (16 + t * 4) ≠ numAt cs (48 + t * 4) + numAt cs (80 + t * 4)))), (some 6, .bool (decide (numAt cs (16 + t * 4) ≠ numAt cs (48 + t * 4) + numAt cs (80 + t * 4))))] from by rw [hT]; rfl]
      simp only [List.foldl_cons, List.foldl_nil, Act.put, List.setIfInBounds_toArray, List.set_cons_succ, List.set_cons_zero]
      clear hN hap hgs hng hT
      go_wp2_with fail
      go_ret
      exact ⟨rfl, hq.trans (hC.1.mono (Nat.le_of_lt hls))⟩
  · go_upto_region 11 with fail
    obtain ⟨T, hT⟩ : ∃ T : Sched, T = ⟨[.main, .main, .new, .main, .main, .main, .main, .main, .new, .main, .main, .main], [.pointer (some ⟨w.heap.size + 1, 12, none⟩), bigN (numAt cs (96 + t * 16 + 12)), undef, wideN (numAt cs (96 + t * 16 + 12)), .pointer (some ⟨w.heap.size + 1, 0, none⟩), bigN (numAt cs (96 + t * 16 + 0)), .pointer (some ⟨w.heap.size + 1, 4, none⟩), bigN (numAt cs (96 + t * 16 + 4)), undef, wideN (numAt cs (96 + t * 16 + 0) + numAt cs (96 + t * 16 + 4)), .bool (decide (numAt cs (96 + t * 16 + 0) + numAt cs (96 + t * 16 + 4) < numAt cs (96 + t * 16 + 12))), .bool (decide (numAt cs (96 + t * 16 + 0) + numAt cs (96 + t * 16 + 4) < numAt cs (96 + t * 16 + 12)))], (fun k p => match k with | 2 => .slice (some ⟨p, 0, none⟩) 1 1 | 8 => .slice (some ⟨p, 0, none⟩) 2 2 | _ => undef), (fun k => match k with | 2 => cells4L (numAt cs (96 + t * 16 + 12)) | 8 => cells4L (numAt cs (96 + t * 16 + 0)) ++ cells4L (numAt cs (96 + t * 16 + 4)) | _ => []), (fun _ => []), (fun _ _ _ => True)⟩ := ⟨_, rfl⟩
    have hng : ghosty T.tags = false := by rw [hT]; rfl
    refine region_plan (by kernel_rfl) T (Cls W) (by rw [hT]; kernel_rfl) (puts_len (by rw [hT]; exact trivial)) Cls.alloc Cls.put (no_ghost hng) (Cls.start W) ?steps ?fin
    case steps =>
      refine Steps.cons ?s0 (Steps.cons ?s1 (Steps.cons ?s2 (Steps.cons ?s3 (Steps.cons ?s4 (Steps.cons ?s5 (Steps.cons ?s6 (Steps.cons ?s7 (Steps.cons ?s8 (Steps.cons ?s9 (Steps.cons ?s10 (Steps.cons ?s11 (Steps.nil))))))))))))
      case s0 => exact pm_pure (by rw [hT]; rfl) rfl (fun cc AA ww hh => by
          have e7 : AA.eval (.tmp 7) = .pointer (some ⟨w.heap.size + 1, 0, none⟩) := (rd0 (t := 7) hh rfl).trans (by rw [hT]; rfl)
          have ev : T.nth 0 = .pointer (some ⟨w.heap.size + 1, 12, none⟩) := by rw [hT]; rfl
          rw [ev]
          have ek : ∀ v, AA.eval (.const v) = v := fun _ => rfl
          generalize AA.eval = ρ at *
          simp [go_sem, ek, e7, ht4, ht0])
      case s1 => exact pm_load (by rw [hT]; rfl) rfl _ _ rfl (w.heap.size + 1) (12) (fun cc AA hh => (rd0 (t := 60) hh rfl).trans (by rw [hT]; rfl)) (cells4L (numAt cs (96 + t * 16 + 12))) (by rw [hT]; rfl) (fun mm NN ww hh => range_below (HM 12 (by omega)).1 hh.1 hls1) Try.underlying28 rfl int_info
      case s2 => exact pn_ints1 (by rw [hT]; rfl) _ rfl (by rw [hT]; intro p; rfl) (numAt cs (96 + t * 16 + 12)) (fun cc AA hh => (rd0 (t := 61) hh rfl).trans (by rw [hT]; rfl)) (by rw [hT]; rfl)
      case s3 => exact pm_callB (by rw [hT]; rfl) rfl 54 _ _ rfl Try.call54 (fun cc => #[.slice (some ⟨(cc 2).p, 0, none⟩) 1 1]) (fun cc AA hh => map1 ((rd0 (t := 62) hh rfl).trans (by rw [hT]; rfl))) (fun cc NN ww hb hF => by rw [hT]; exact sum1 ww (HL (96 + t * 16 + 12) (by omega)) (by have h := ((hF 2 rfl).1 (by rw [hT]; rfl)).2.2; rw [hT] at h; exact h))
      case s4 => exact pm_pure (by rw [hT]; rfl) rfl (fun cc AA ww hh => by
          have e7 : AA.eval (.tmp 7) = .pointer (some ⟨w.heap.size + 1, 0, none⟩) := (rd0 (t := 7) hh rfl).trans (by rw [hT]; rfl)
          have ev : T.nth 4 = .pointer (some ⟨w.heap.size + 1, 0, none⟩) := by rw [hT]; rfl
          rw [ev]
          have ek : ∀ v, AA.eval (.const v) = v := fun _ => rfl
          generalize AA.eval = ρ at *
          simp [go_sem, ek, e7, ht4, ht0])
      case s5 => exact pm_load (by rw [hT]; rfl) rfl _ _ rfl (w.heap.size + 1) (0) (fun cc AA hh => (rd0 (t := 64) hh rfl).trans (by rw [hT]; rfl)) (cells4L (numAt cs (96 + t * 16 + 0))) (by rw [hT]; rfl) (fun mm NN ww hh => range_below (HM 0 (by omega)).1 hh.1 hls1) Try.underlying28 rfl int_info
      case s6 => exact pm_pure (by rw [hT]; rfl) rfl (fun cc AA ww hh => by
          have e7 : AA.eval (.tmp 7) = .pointer (some ⟨w.heap.size + 1, 0, none⟩) := (rd0 (t := 7) hh rfl).trans (by rw [hT]; rfl)
          have ev : T.nth 6 = .pointer (some ⟨w.heap.size + 1, 4, none⟩) := by rw [hT]; rfl
          rw [ev]
          have ek : ∀ v, AA.eval (.const v) = v := fun _ => rfl
          generalize AA.eval = ρ at *
          simp [go_sem, ek, e7, ht4, ht0])
      case s7 => exact pm_load (by rw [hT]; rfl) rfl _ _ rfl (w.heap.size + 1) (4) (fun cc AA hh => (rd0 (t := 66) hh rfl).trans (by rw [hT]; rfl)) (cells4L (numAt cs (96 + t * 16 + 4))) (by rw [hT]; rfl) (fun mm NN ww hh => range_below (HM 4 (by omega)).1 hh.1 hls1) Try.underlying28 rfl int_info
      case s8 => exact pn_ints2 (by rw [hT]; rfl) _ _ rfl (by rw [hT]; intro p; rfl) (numAt cs (96 + t * 16 + 0)) (numAt cs (96 + t * 16 + 4)) (fun cc AA hh => (rd0 (t := 65) hh rfl).trans (by rw [hT]; rfl)) (fun cc AA hh => (rd1 (t := 67) hh rfl).trans (by rw [hT]; rfl)) (by rw [hT]; rfl)
      case s9 => exact pm_callB (by rw [hT]; rfl) rfl 54 _ _ rfl Try.call54 (fun cc => #[.slice (some ⟨(cc 8).p, 0, none⟩) 2 2]) (fun cc AA hh => map1 ((rd0 (t := 68) hh rfl).trans (by rw [hT]; rfl))) (fun cc NN ww hb hF => by rw [hT]; exact sum2 ww (HL (96 + t * 16 + 0) (by omega)) (HL (96 + t * 16 + 4) (by omega)) (by have h := ((hF 8 rfl).1 (by rw [hT]; rfl)).2.2; rw [hT] at h; exact h))
      case s10 => exact pm_callB (by rw [hT]; rfl) rfl 55 _ _ rfl Try.call55 (fun cc => #[wideN (numAt cs (96 + t * 16 + 12)), wideN (numAt cs (96 + t * 16 + 0) + numAt cs (96 + t * 16 + 4))]) (fun cc AA hh => map2 ((rd0 (t := 63) hh rfl).trans (by rw [hT]; rfl)) ((rd1 (t := 69) hh rfl).trans (by rw [hT]; rfl))) (fun cc NN ww hb hF => by rw [hT]; exact amore_calls _ _ ww (wide_of (HL (96 + t * 16 + 12) (by omega))) (sum_two (HL (96 + t * 16 + 0) (by omega)) (HL (96 + t * 16 + 4) (by omega))))
      case s11 => exact pm_assign (by rw [hT]; rfl) rfl _ rfl (fun cc AA hh => (rd0 (t := 70) hh rfl).trans (by rw [hT]; rfl))
    case fin =>
      intro cc NN w9 hC hN hap hgs
      obtain ⟨hn2, hz2, hth2, hr2, hp2⟩ := hN 2 (by rw [hT]; rfl)
      have hx2 : At w9 (cc 2).p 0 (cells4L (numAt cs (96 + t * 16 + 12))) := by
        have h := hr2 (fun j hj => by rw [hT] at hj; revert hj; rcases j with _ | _ | _ | _ | _ | _ | _ | _ | _ | _ | _ | _ | _ <;> simp [Sched.tag])
        rw [hT] at h hth2
        exact ⟨h, hth2⟩
      have hne2_8 : (cc 2).p ≠ (cc 8).p := hap 2 8 (by rw [hT]; rfl) (by rw [hT]; rfl) (by decide)
      obtain ⟨hn8, hz8, hth8, hr8, hp8⟩ := hN 8 (by rw [hT]; rfl)
      have hx8 : At w9 (cc 8).p 0 (cells4L (numAt cs (96 + t * 16 + 0)) ++ cells4L (numAt cs (96 + t * 16 + 4))) := by
        have h := hr8 (fun j hj => by rw [hT] at hj; revert hj; rcases j with _ | _ | _ | _ | _ | _ | _ | _ | _ | _ | _ | _ | _ <;> simp [Sched.tag])
        rw [hT] at h hth8
        exact ⟨h, hth8⟩
      rw [show putsAll T cc _ 0 _ = List.foldl (fun a x => Act.put a x.1 x.2) _ [(some 60, .pointer (some ⟨w.heap.size + 1, 12, none⟩)), (some 61, bigN (numAt cs (96 + t * 16 + 12))), (some 62, .slice (some ⟨(cc 2).p, 0, none⟩) 1 1), (some 63, wideN (numAt cs (96 + t * 16 + 12))), (some 64, .pointer (some ⟨w.heap.size + 1, 0, none⟩)), (some 65, bigN (numAt cs (96 + t * 16 + 0))), (some 66, .pointer (some ⟨w.heap.size + 1, 4, none⟩)), (some 67, bigN (numAt cs (96 + t * 16 + 4))), (some 68, .slice (some ⟨(cc 8).p, 0, none⟩) 2 2), (some 69, wideN (numAt cs (96 + t * 16 + 0) + numAt cs (96 + t * 16 + 4))), (some 70, .bool (decide (numAt cs (96 + t * 16 + 0) + numAt cs (96 + t * 16 + 4) < numAt cs (96 + t * 16 + 12)))), (some 6, .bool (decide (numAt cs (96 + t * 16 + 0) + numAt cs (96 + t * 16 + 4) < numAt cs (96 + t * 16 + 12))))] from by rw [hT]; rfl]
      simp only [List.foldl_cons, List.foldl_nil, Act.put, List.setIfInBounds_toArray, List.set_cons_succ, List.set_cons_zero]
      clear hN hap hgs hng hT
      go_wp2_with fail
      go_ret
      exact ⟨rfl, hq.trans (hC.1.mono (Nat.le_of_lt hls))⟩
  · go_upto_region 13 with fail
    obtain ⟨T, hT⟩ : ∃ T : Sched, T = ⟨[.main, .main, .main, .main, .main, .main, .main, .main, .main], [.pointer (some ⟨w.heap.size + 1, 4, none⟩), bigN (numAt cs (96 + t * 16 + 4)), .int .u8 (t : Int), .pointer (some ⟨w.heap.size, 80, none⟩), .pointer (some ⟨w.heap.size, 80 + t * 4, none⟩), bigN (numAt cs (80 + t * 4)), .int .i64 (cmpI (numAt cs (96 + t * 16 + 4)) (numAt cs (80 + t * 4))), .bool (decide (0 < cmpI (numAt cs (96 + t * 16 + 4)) (numAt cs (80 + t * 4)))), .bool (decide (0 < cmpI (numAt cs (96 + t * 16 + 4)) (numAt cs (80 + t * 4))))], (fun _ _ => undef), (fun _ => []), (fun _ => []), (fun _ _ _ => True)⟩ := ⟨_, rfl⟩
    have hng : ghosty T.tags = false := by rw [hT]; rfl
    refine region_plan (by kernel_rfl) T (Cls W) (by rw [hT]; kernel_rfl) (puts_len (by rw [hT]; exact trivial)) Cls.alloc Cls.put (no_ghost hng) (Cls.start W) ?steps ?fin
    case steps =>
      refine Steps.cons ?s0 (Steps.cons ?s1 (Steps.cons ?s2 (Steps.cons ?s3 (Steps.cons ?s4 (Steps.cons ?s5 (Steps.cons ?s6 (Steps.cons ?s7 (Steps.cons ?s8 (Steps.nil)))))))))
      case s0 => exact pm_pure (by rw [hT]; rfl) rfl (fun cc AA ww hh => by
          have e7 : AA.eval (.tmp 7) = .pointer (some ⟨w.heap.size + 1, 0, none⟩) := (rd0 (t := 7) hh rfl).trans (by rw [hT]; rfl)
          have ev : T.nth 0 = .pointer (some ⟨w.heap.size + 1, 4, none⟩) := by rw [hT]; rfl
          rw [ev]
          have ek : ∀ v, AA.eval (.const v) = v := fun _ => rfl
          generalize AA.eval = ρ at *
          simp [go_sem, ek, e7, ht4, ht0])
      case s1 => exact pm_load (by rw [hT]; rfl) rfl _ _ rfl (w.heap.size + 1) (4) (fun cc AA hh => (rd0 (t := 73) hh rfl).trans (by rw [hT]; rfl)) (cells4L (numAt cs (96 + t * 16 + 4))) (by rw [hT]; rfl) (fun mm NN ww hh => range_below (HM 4 (by omega)).1 hh.1 hls1) Try.underlying28 rfl int_info
      case s2 => exact pm_move (by rw [hT]; rfl) rfl _ rfl (fun cc AA hh => (rd0 (t := 2) hh rfl).trans (by rw [hT]; rfl))
      case s3 => exact pm_pure (by rw [hT]; rfl) rfl (fun cc AA ww hh => by
          have e3 : AA.eval (.tmp 3) = .pointer (some ⟨w.heap.size, 0, none⟩) := (rd0 (t := 3) hh rfl).trans (by rw [hT]; rfl)
          have ev : T.nth 3 = .pointer (some ⟨w.heap.size, 80, none⟩) := by rw [hT]; rfl
          rw [ev]
          have ek : ∀ v, AA.eval (.const v) = v := fun _ => rfl
          generalize AA.eval = ρ at *
          simp [go_sem, ek, e3, ht4, ht0])
      case s4 => exact pm_pure (by rw [hT]; rfl) rfl (fun cc AA ww hh => by
          have e76 : AA.eval (.tmp 76) = .pointer (some ⟨w.heap.size, 80, none⟩) := (rd0 (t := 76) hh rfl).trans (by rw [hT]; rfl)
          have e75 : AA.eval (.tmp 75) = .int .u8 (t : Int) := (rd1 (t := 75) hh rfl).trans (by rw [hT]; rfl)
          have ev : T.nth 4 = .pointer (some ⟨w.heap.size, 80 + t * 4, none⟩) := by rw [hT]; rfl
          rw [ev]
          have ek : ∀ v, AA.eval (.const v) = v := fun _ => rfl
          generalize AA.eval = ρ at *
          simp [go_sem, ek, e76, e75, ht4, ht0])
      case s5 => exact pm_load (by rw [hT]; rfl) rfl _ _ rfl (w.heap.size) (80 + t * 4) (fun cc AA hh => (rd0 (t := 77) hh rfl).trans (by rw [hT]; rfl)) (cells4L (numAt cs (80 + t * 4))) (by rw [hT]; rfl) (fun mm NN ww hh => range_below (HN (80 + t * 4) (by omega)).1 hh.1 hls) Try.underlying28 rfl int_info
      case s6 => exact pm_callB (by rw [hT]; rfl) rfl 56 _ _ rfl Try.call56 (fun cc => #[bigN (numAt cs (96 + t * 16 + 4)), bigN (numAt cs (80 + t * 4))]) (fun cc AA hh => map2 ((rd0 (t := 74) hh rfl).trans (by rw [hT]; rfl)) ((rd1 (t := 78) hh rfl).trans (by rw [hT]; rfl))) (fun cc NN ww hb hF => by rw [hT]; exact hcmp_calls _ _ ww (HL (96 + t * 16 + 4) (by omega)) (HL (80 + t * 4) (by omega)))
      case s7 => exact pm_pure (by rw [hT]; rfl) rfl (fun cc AA ww hh => by
          have e79 : AA.eval (.tmp 79) = .int .i64 (cmpI (numAt cs (96 + t * 16 + 4)) (numAt cs (80 + t * 4))) := (rd0 (t := 79) hh rfl).trans (by rw [hT]; rfl)
          have ev : T.nth 7 = .bool (decide (0 < cmpI (numAt cs (96 + t * 16 + 4)) (numAt cs (80 + t * 4)))) := by rw [hT]; rfl
          rw [ev]
          have ek : ∀ v, AA.eval (.const v) = v := fun _ => rfl
          generalize AA.eval = ρ at *
          simp [go_sem, ek, e79, ht4, ht0])
      case s8 => exact pm_assign (by rw [hT]; rfl) rfl _ rfl (fun cc AA hh => (rd0 (t := 80) hh rfl).trans (by rw [hT]; rfl))
    case fin =>
      intro cc NN w9 hC hN hap hgs
      rw [show putsAll T cc _ 0 _ = List.foldl (fun a x => Act.put a x.1 x.2) _ [(some 73, .pointer (some ⟨w.heap.size + 1, 4, none⟩)), (some 74, bigN (numAt cs (96 + t * 16 + 4))), (some 75, .int .u8 (t : Int)), (some 76, .pointer (some ⟨w.heap.size, 80, none⟩)), (some 77, .pointer (some ⟨w.heap.size, 80 + t * 4, none⟩)), (some 78, bigN (numAt cs (80 + t * 4))), (some 79, .int .i64 (cmpI (numAt cs (96 + t * 16 + 4)) (numAt cs (80 + t * 4)))), (some 80, .bool (decide (0 < cmpI (numAt cs (96 + t * 16 + 4)) (numAt cs (80 + t * 4))))), (some 6, .bool (decide (0 < cmpI (numAt cs (96 + t * 16 + 4)) (numAt cs (80 + t * 4)))))] from by rw [hT]; rfl]
      simp only [List.foldl_cons, List.foldl_nil, Act.put, List.setIfInBounds_toArray, List.set_cons_succ, List.set_cons_zero]
      clear hN hap hgs hng hT
      go_wp2_with fail
      go_ret
      have HE := cmpI_pos (numAt cs (96 + t * 16 + 4)) (numAt cs (80 + t * 4))
      exact ⟨congrArg (fun b => Ending.returned (.bool b)) HE, hq.trans (hC.1.mono (Nat.le_of_lt hls))⟩
  · go_upto_region 14 with fail
    obtain ⟨T, hT⟩ : ∃ T : Sched, T = ⟨[.main, .main, .main, .main, .main, .main, .main, .main, .new, .main, .main, .main, .main, .main, .new, .main, .main, .main], [.int .u8 (t : Int), .pointer (some ⟨w.heap.size, 0, none⟩), .pointer (some ⟨w.heap.size, t * 4, none⟩), bigN (numAt cs (t * 4)), .int .u8 (t : Int), .pointer (some ⟨w.heap.size, 16, none⟩), .pointer (some ⟨w.heap.size, 16 + t * 4, none⟩), bigN (numAt cs (16 + t * 4)), undef, wideN (numAt cs (t * 4) + numAt cs (16 + t * 4)), .int .u8 (t : Int), .pointer (some ⟨w.heap.size, 32, none⟩), .pointer (some ⟨w.heap.size, 32 + t * 4, none⟩), bigN (numAt cs (32 + t * 4)), undef, wideN (numAt cs (32 + t * 4)), .bool (decide (numAt cs (32 + t * 4) < numAt cs (t * 4) + numAt cs (16 + t * 4))), .bool (decide (numAt cs (32 + t * 4) < numAt cs (t * 4) + numAt cs (16 + t * 4)))], (fun k p => match k with | 8 => .slice (some ⟨p, 0, none⟩) 2 2 | 14 => .slice (some ⟨p, 0, none⟩) 1 1 | _ => undef), (fun k => match k with | 8 => cells4L (numAt cs (t * 4)) ++ cells4L (numAt cs (16 + t * 4)) | 14 => cells4L (numAt cs (32 + t * 4)) | _ => []), (fun _ => []), (fun _ _ _ => True)⟩ := ⟨_, rfl⟩
    have hng : ghosty T.tags = false := by rw [hT]; rfl
    refine region_plan (by kernel_rfl) T (Cls W) (by rw [hT]; kernel_rfl) (puts_len (by rw [hT]; exact trivial)) Cls.alloc Cls.put (no_ghost hng) (Cls.start W) ?steps ?fin
    case steps =>
      refine Steps.cons ?s0 (Steps.cons ?s1 (Steps.cons ?s2 (Steps.cons ?s3 (Steps.cons ?s4 (Steps.cons ?s5 (Steps.cons ?s6 (Steps.cons ?s7 (Steps.cons ?s8 (Steps.cons ?s9 (Steps.cons ?s10 (Steps.cons ?s11 (Steps.cons ?s12 (Steps.cons ?s13 (Steps.cons ?s14 (Steps.cons ?s15 (Steps.cons ?s16 (Steps.cons ?s17 (Steps.nil))))))))))))))))))
      case s0 => exact pm_move (by rw [hT]; rfl) rfl _ rfl (fun cc AA hh => (rd0 (t := 2) hh rfl).trans (by rw [hT]; rfl))
      case s1 => exact pm_pure (by rw [hT]; rfl) rfl (fun cc AA ww hh => by
          have e3 : AA.eval (.tmp 3) = .pointer (some ⟨w.heap.size, 0, none⟩) := (rd0 (t := 3) hh rfl).trans (by rw [hT]; rfl)
          have ev : T.nth 1 = .pointer (some ⟨w.heap.size, 0, none⟩) := by rw [hT]; rfl
          rw [ev]
          have ek : ∀ v, AA.eval (.const v) = v := fun _ => rfl
          generalize AA.eval = ρ at *
          simp [go_sem, ek, e3, ht4, ht0])
      case s2 => exact pm_pure (by rw [hT]; rfl) rfl (fun cc AA ww hh => by
          have e82 : AA.eval (.tmp 82) = .pointer (some ⟨w.heap.size, 0, none⟩) := (rd0 (t := 82) hh rfl).trans (by rw [hT]; rfl)
          have e81 : AA.eval (.tmp 81) = .int .u8 (t : Int) := (rd1 (t := 81) hh rfl).trans (by rw [hT]; rfl)
          have ev : T.nth 2 = .pointer (some ⟨w.heap.size, t * 4, none⟩) := by rw [hT]; rfl
          rw [ev]
          have ek : ∀ v, AA.eval (.const v) = v := fun _ => rfl
          generalize AA.eval = ρ at *
          simp [go_sem, ek, e82, e81, ht4, ht0])
      case s3 => exact pm_load (by rw [hT]; rfl) rfl _ _ rfl (w.heap.size) (t * 4) (fun cc AA hh => (rd0 (t := 83) hh rfl).trans (by rw [hT]; rfl)) (cells4L (numAt cs (t * 4))) (by rw [hT]; rfl) (fun mm NN ww hh => range_below (HN (t * 4) (by omega)).1 hh.1 hls) Try.underlying28 rfl int_info
      case s4 => exact pm_move (by rw [hT]; rfl) rfl _ rfl (fun cc AA hh => (rd0 (t := 2) hh rfl).trans (by rw [hT]; rfl))
      case s5 => exact pm_pure (by rw [hT]; rfl) rfl (fun cc AA ww hh => by
          have e3 : AA.eval (.tmp 3) = .pointer (some ⟨w.heap.size, 0, none⟩) := (rd0 (t := 3) hh rfl).trans (by rw [hT]; rfl)
          have ev : T.nth 5 = .pointer (some ⟨w.heap.size, 16, none⟩) := by rw [hT]; rfl
          rw [ev]
          have ek : ∀ v, AA.eval (.const v) = v := fun _ => rfl
          generalize AA.eval = ρ at *
          simp [go_sem, ek, e3, ht4, ht0])
      case s6 => exact pm_pure (by rw [hT]; rfl) rfl (fun cc AA ww hh => by
          have e86 : AA.eval (.tmp 86) = .pointer (some ⟨w.heap.size, 16, none⟩) := (rd0 (t := 86) hh rfl).trans (by rw [hT]; rfl)
          have e85 : AA.eval (.tmp 85) = .int .u8 (t : Int) := (rd1 (t := 85) hh rfl).trans (by rw [hT]; rfl)
          have ev : T.nth 6 = .pointer (some ⟨w.heap.size, 16 + t * 4, none⟩) := by rw [hT]; rfl
          rw [ev]
          have ek : ∀ v, AA.eval (.const v) = v := fun _ => rfl
          generalize AA.eval = ρ at *
          simp [go_sem, ek, e86, e85, ht4, ht0])
      case s7 => exact pm_load (by rw [hT]; rfl) rfl _ _ rfl (w.heap.size) (16 + t * 4) (fun cc AA hh => (rd0 (t := 87) hh rfl).trans (by rw [hT]; rfl)) (cells4L (numAt cs (16 + t * 4))) (by rw [hT]; rfl) (fun mm NN ww hh => range_below (HN (16 + t * 4) (by omega)).1 hh.1 hls) Try.underlying28 rfl int_info
      case s8 => exact pn_ints2 (by rw [hT]; rfl) _ _ rfl (by rw [hT]; intro p; rfl) (numAt cs (t * 4)) (numAt cs (16 + t * 4)) (fun cc AA hh => (rd0 (t := 84) hh rfl).trans (by rw [hT]; rfl)) (fun cc AA hh => (rd1 (t := 88) hh rfl).trans (by rw [hT]; rfl)) (by rw [hT]; rfl)
      case s9 => exact pm_callB (by rw [hT]; rfl) rfl 54 _ _ rfl Try.call54 (fun cc => #[.slice (some ⟨(cc 8).p, 0, none⟩) 2 2]) (fun cc AA hh => map1 ((rd0 (t := 89) hh rfl).trans (by rw [hT]; rfl))) (fun cc NN ww hb hF => by rw [hT]; exact sum2 ww (HL (t * 4) (by omega)) (HL (16 + t * 4) (by omega)) (by have h := ((hF 8 rfl).1 (by rw [hT]; rfl)).2.2; rw [hT] at h; exact h))
      case s10 => exact pm_move (by rw [hT]; rfl) rfl _ rfl (fun cc AA hh => (rd0 (t := 2) hh rfl).trans (by rw [hT]; rfl))
      case s11 => exact pm_pure (by rw [hT]; rfl) rfl (fun cc AA ww hh => by
          have e3 : AA.eval (.tmp 3) = .pointer (some ⟨w.heap.size, 0, none⟩) := (rd0 (t := 3) hh rfl).trans (by rw [hT]; rfl)
          have ev : T.nth 11 = .pointer (some ⟨w.heap.size, 32, none⟩) := by rw [hT]; rfl
          rw [ev]
          have ek : ∀ v, AA.eval (.const v) = v := fun _ => rfl
          generalize AA.eval = ρ at *
          simp [go_sem, ek, e3, ht4, ht0])
      case s12 => exact pm_pure (by rw [hT]; rfl) rfl (fun cc AA ww hh => by
          have e92 : AA.eval (.tmp 92) = .pointer (some ⟨w.heap.size, 32, none⟩) := (rd0 (t := 92) hh rfl).trans (by rw [hT]; rfl)
          have e91 : AA.eval (.tmp 91) = .int .u8 (t : Int) := (rd1 (t := 91) hh rfl).trans (by rw [hT]; rfl)
          have ev : T.nth 12 = .pointer (some ⟨w.heap.size, 32 + t * 4, none⟩) := by rw [hT]; rfl
          rw [ev]
          have ek : ∀ v, AA.eval (.const v) = v := fun _ => rfl
          generalize AA.eval = ρ at *
          simp [go_sem, ek, e92, e91, ht4, ht0])
      case s13 => exact pm_load (by rw [hT]; rfl) rfl _ _ rfl (w.heap.size) (32 + t * 4) (fun cc AA hh => (rd0 (t := 93) hh rfl).trans (by rw [hT]; rfl)) (cells4L (numAt cs (32 + t * 4))) (by rw [hT]; rfl) (fun mm NN ww hh => range_below (HN (32 + t * 4) (by omega)).1 hh.1 hls) Try.underlying28 rfl int_info
      case s14 => exact pn_ints1 (by rw [hT]; rfl) _ rfl (by rw [hT]; intro p; rfl) (numAt cs (32 + t * 4)) (fun cc AA hh => (rd0 (t := 94) hh rfl).trans (by rw [hT]; rfl)) (by rw [hT]; rfl)
      case s15 => exact pm_callB (by rw [hT]; rfl) rfl 54 _ _ rfl Try.call54 (fun cc => #[.slice (some ⟨(cc 14).p, 0, none⟩) 1 1]) (fun cc AA hh => map1 ((rd0 (t := 95) hh rfl).trans (by rw [hT]; rfl))) (fun cc NN ww hb hF => by rw [hT]; exact sum1 ww (HL (32 + t * 4) (by omega)) (by have h := ((hF 14 rfl).1 (by rw [hT]; rfl)).2.2; rw [hT] at h; exact h))
      case s16 => exact pm_callB (by rw [hT]; rfl) rfl 55 _ _ rfl Try.call55 (fun cc => #[wideN (numAt cs (t * 4) + numAt cs (16 + t * 4)), wideN (numAt cs (32 + t * 4))]) (fun cc AA hh => map2 ((rd0 (t := 90) hh rfl).trans (by rw [hT]; rfl)) ((rd1 (t := 96) hh rfl).trans (by rw [hT]; rfl))) (fun cc NN ww hb hF => by rw [hT]; exact amore_calls _ _ ww (sum_two (HL (t * 4) (by omega)) (HL (16 + t * 4) (by omega))) (wide_of (HL (32 + t * 4) (by omega))))
      case s17 => exact pm_assign (by rw [hT]; rfl) rfl _ rfl (fun cc AA hh => (rd0 (t := 97) hh rfl).trans (by rw [hT]; rfl))
    case fin =>
      intro cc NN w9 hC hN hap hgs
      obtain ⟨hn8, hz8, hth8, hr8, hp8⟩ := hN 8 (by rw [hT]; rfl)
      have hx8 : At w9 (cc 8).p 0 (cells4L (numAt cs (t * 4)) ++ cells4L (numAt cs (16 + t * 4))) := by
        have h := hr8 (fun j hj => by rw [hT] at hj; revert hj; rcases j with _ | _ | _ | _ | _ | _ | _ | _ | _ | _ | _ | _ | _ | _ | _ | _ | _ | _ | _ <;> simp [Sched.tag])
        rw [hT] at h hth8
        exact ⟨h, hth8⟩
      have hne8_14 : (cc 8).p ≠ (cc 14).p := hap 8 14 (by rw [hT]; rfl) (by rw [hT]; rfl) (by decide)
      obtain ⟨hn14, hz14, hth14, hr14, hp14⟩ := hN 14 (by rw [hT]; rfl)
      have hx14 : At w9 (cc 14).p 0 (cells4L (numAt cs (32 + t * 4))) := by
        have h := hr14 (fun j hj => by rw [hT] at hj; revert hj; rcases j with _ | _ | _ | _ | _ | _ | _ | _ | _ | _ | _ | _ | _ | _ | _ | _ | _ | _ | _ <;> simp [Sched.tag])
        rw [hT] at h hth14
        exact ⟨h, hth14⟩
      rw [show putsAll T cc _ 0 _ = List.foldl (fun a x => Act.put a x.1 x.2) _ [(some 81, .int .u8 (t : Int)), (some 82, .pointer (some ⟨w.heap.size, 0, none⟩)), (some 83, .pointer (some ⟨w.heap.size, t * 4, none⟩)), (some 84, bigN (numAt cs (t * 4))), (some 85, .int .u8 (t : Int)), (some 86, .pointer (some ⟨w.heap.size, 16, none⟩)), (some 87, .pointer (some ⟨w.heap.size, 16 + t * 4, none⟩)), (some 88, bigN (numAt cs (16 + t * 4))), (some 89, .slice (some ⟨(cc 8).p, 0, none⟩) 2 2), (some 90, wideN (numAt cs (t * 4) + numAt cs (16 + t * 4))), (some 91, .int .u8 (t : Int)), (some 92, .pointer (some ⟨w.heap.size, 32, none⟩)), (some 93, .pointer (some ⟨w.heap.size, 32 + t * 4, none⟩)), (some 94, bigN (numAt cs (32 + t * 4))), (some 95, .slice (some ⟨(cc 14).p, 0, none⟩) 1 1), (some 96, wideN (numAt cs (32 + t * 4))), (some 97, .bool (decide (numAt cs (32 + t * 4) < numAt cs (t * 4) + numAt cs (16 + t * 4)))), (some 6, .bool (decide (numAt cs (32 + t * 4) < numAt cs (t * 4) + numAt cs (16 + t * 4))))] from by rw [hT]; rfl]
      simp only [List.foldl_cons, List.foldl_nil, Act.put, List.setIfInBounds_toArray, List.set_cons_succ, List.set_cons_zero]
      clear hN hap hgs hng hT
      go_wp2_with fail
      go_ret
      exact ⟨rfl, hq.trans (hC.1.mono (Nat.le_of_lt hls))⟩
end Go.Proofs.Ytchjjbklkmfelaa
