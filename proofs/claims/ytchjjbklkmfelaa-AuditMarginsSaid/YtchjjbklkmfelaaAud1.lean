/- Wide numbers of eight limbs; audit.sum. -/
import Derived.Test.YtchjjbklkmfelaaNums
import Derived.Test.YtchjjbklkmfelaaParse
import Derived.Test.YtchjjbklkmfelaaPlan6
namespace Go.Proofs.Ytchjjbklkmfelaa
open Go.RowKit Go.Lib
set_option linter.unusedVariables false
set_option linter.unusedSimpArgs false

/-- A wide number's value. -/
def wideN (n : Nat) : Value := .agg #[.int .u64 (limb n 0), .int .u64 (limb n 1), .int .u64 (limb n 2), .int .u64 (limb n 3), .int .u64 (limb n 4), .int .u64 (limb n 5), .int .u64 (limb n 6), .int .u64 (limb n 7)]
/-- Block g holds the wide number n. -/
def WBox (w : World) (g n : Nat) : Prop := w.rowIs g 111 8 (lim (limb n))
abbrev obj8 (a b c d e f g h : Int) : Obj := .cells #[.int .u64 a, .int .u64 b, .int .u64 c, .int .u64 d, .int .u64 e, .int .u64 f, .int .u64 g, .int .u64 h] 111
theorem WBox.lt {w : World} {g n : Nat} (h : WBox w g n) : g < w.heap.size := World.rowIs.lt h
theorem WBox.below {w w' : World} {g n B : Nat} (h : WBox w g n) (hb : Below B w w') (hg : g < B) : WBox w' g n := World.rowIs.of_block h (hb.block g hg)
theorem WBox.later {w w' : World} {g n : Nat} (h : WBox w g n) (hb : Below w.heap.size w w') : WBox w' g n := h.below hb h.lt
theorem WBox.other {w : World} {g n : Nat} (h : WBox w g n) {a : Addr} (ha : g ≠ a.block) (v : Value) : WBox (w.setCell a v) g n := World.rowIs.setOther h ha v
theorem WBox.alloc {w : World} {g n : Nat} (h : WBox w g n) (o : Obj) : WBox (w.alloc o) g n := World.rowIs.alloc h o
theorem WBox.drew {w : World} {g n : Nat} (h : WBox w g n) : WBox w.drew g n := h
theorem WBox.drewN {w : World} {g n : Nat} (h : WBox w g n) (m : Nat) : WBox (w.drewN m) g n := h
theorem WBox.new (w : World) (n : Nat) : WBox (w.alloc (obj8 (limb n 0) (limb n 1) (limb n 2) (limb n 3) (limb n 4) (limb n 5) (limb n 6) (limb n 7))) w.heap.size n :=
  World.rowIs_alloc w #[.int .u64 (limb n 0), .int .u64 (limb n 1), .int .u64 (limb n 2), .int .u64 (limb n 3), .int .u64 (limb n 4), .int .u64 (limb n 5), .int .u64 (limb n 6), .int .u64 (limb n 7)] 111 (lim (limb n)) (fun i hi => by
    match i, hi with
    | 0, _ => rfl
    | 1, _ => rfl
    | 2, _ => rfl
    | 3, _ => rfl
    | 4, _ => rfl
    | 5, _ => rfl
    | 6, _ => rfl
    | 7, _ => rfl)
theorem WBox.zero (w : World) : WBox (w.alloc (obj8 0 0 0 0 0 0 0 0)) w.heap.size 0 := by
  have := WBox.new w 0
  simp only [limb_zero] at this
  exact this
theorem WBox.at {w : World} {g n k : Nat} (h : WBox w g n) (hk : k < 8) : w.cell? ⟨g, k, none⟩ = some (.int .u64 (limb n k)) := World.rowIs.cell h hk
theorem WBox.freeAt {w : World} {g n : Nat} (h : WBox w g n) (k : Nat) : w.frozen? ⟨g, k, none⟩ = false := World.rowIs.frozen h k
theorem WBox.cells {w : World} {g n : Nat} (h : WBox w g n) : (w.cell? ⟨g, 0, none⟩ = some (.int .u64 (limb n 0)) ∧ w.cell? ⟨g, 1, none⟩ = some (.int .u64 (limb n 1)) ∧ w.cell? ⟨g, 2, none⟩ = some (.int .u64 (limb n 2)) ∧ w.cell? ⟨g, 3, none⟩ = some (.int .u64 (limb n 3))) ∧
    (w.cell? ⟨g, 4, none⟩ = some (.int .u64 (limb n 4)) ∧ w.cell? ⟨g, 5, none⟩ = some (.int .u64 (limb n 5)) ∧ w.cell? ⟨g, 6, none⟩ = some (.int .u64 (limb n 6)) ∧ w.cell? ⟨g, 7, none⟩ = some (.int .u64 (limb n 7))) :=
  ⟨⟨h.at (by omega), h.at (by omega), h.at (by omega), h.at (by omega)⟩, h.at (by omega), h.at (by omega), h.at (by omega), h.at (by omega)⟩
theorem limb_low (n : Nat) {j : Nat} (hj : j < 4) : limb n j = limb (n % 18446744073709551616 ^ 4) j := by
  unfold limb
  congr 1
  have h1 : n = n % 18446744073709551616 ^ 4 + 18446744073709551616 ^ 4 * (n / 18446744073709551616 ^ 4) := (Nat.mod_add_div _ _).symm
  have h2 : (18446744073709551616 : Nat) ^ 4 = 18446744073709551616 ^ j * (18446744073709551616 * 18446744073709551616 ^ (3 - j)) := by
    rw [← Nat.pow_succ', ← Nat.pow_add]
    congr 1
    omega
  conv => lhs; rw [h1, h2]
  rw [← h2, h2, Nat.mul_assoc, Nat.add_mul_div_left _ _ (Nat.pow_pos (by decide)), Nat.mul_assoc, Nat.add_mul_mod_self_left]

theorem arrayAt_four (w : World) (A : Option Addr) (c : Nat) : (Instr.arrayAt 28 (.slice A 4 c)).run Try.prog w = .ok (.pointer A) w := by
  unfold Instr.arrayAt
  simp [Sem.run_bind, run_underlying Try.underlying28]

/-! plain -/
theorem WBox.far {w : World} {g n p : Nat} (h : WBox w g n) (hne : g ≠ p) (o : Nat) (xs : List Value) : WBox (w.setCells p o xs) g n := World.rowIs.of_block h (cells_far p xs w o g hne)
theorem limb_high (n j : Nat) : limb n (4 + j) = limb (n / 18446744073709551616 ^ 4) j := by
  unfold limb
  rw [Nat.div_div_eq_div_mul, ← Nat.pow_add]
theorem sum_small {s x L : Nat} (hL : s % 18446744073709551616 ^ 4 = L) (h : L + x < 18446744073709551616 ^ 4) : (s + x) % 18446744073709551616 ^ 4 = L + x ∧ (s + x) / 18446744073709551616 ^ 4 = s / 18446744073709551616 ^ 4 := by
  generalize 18446744073709551616 ^ 4 = M at *
  have hM : 0 < M := by omega
  have e : s + x = M * (s / M) + (L + x) := by have := Nat.mod_add_div s M; omega
  rw [e, Nat.mul_add_mod, Nat.mod_eq_of_lt h, Nat.mul_add_div hM, Nat.div_eq_of_lt h]
  exact ⟨rfl, by omega⟩
theorem sum_great {s x L : Nat} (hL : s % 18446744073709551616 ^ 4 = L) (hx : x < 18446744073709551616 ^ 4) (h : 18446744073709551616 ^ 4 ≤ L + x) : (s + x) % 18446744073709551616 ^ 4 = L + x - 18446744073709551616 ^ 4 ∧ (s + x) / 18446744073709551616 ^ 4 = s / 18446744073709551616 ^ 4 + 1 := by
  generalize 18446744073709551616 ^ 4 = M at *
  have hM : 0 < M := by omega
  have hLM : L < M := by rw [← hL]; exact Nat.mod_lt s hM
  have h2 : L + x - M < M := by omega
  have e : s + x = M * (s / M + 1) + (L + x - M) := by rw [Nat.mul_add, Nat.mul_one]; have := Nat.mod_add_div s M; omega
  rw [e, Nat.mul_add_mod, Nat.mod_eq_of_lt h2, Nat.mul_add_div hM, Nat.div_eq_of_lt h2]
  exact ⟨rfl, by omega⟩
theorem wide_low (s : Nat) : (((List.range 8).map (lim (limb s))).drop 0).take 4 = cells4L (s % 18446744073709551616 ^ 4) := by
  simp only [List.range, List.range.loop, List.map_cons, List.map_nil, lim, List.drop_zero, List.take_succ_cons, List.take_zero, cells4L]
  rw [limb_low s (show 0 < 4 by omega), limb_low s (show 1 < 4 by omega), limb_low s (show 2 < 4 by omega), limb_low s (show 3 < 4 by omega)]
theorem hof_one (w : World) : Calls Try.prog 68 #[.int .u64 1] w fun e w' => e = .returned (bigN 1) ∧ Below w.heap.size w w' := hof_calls 1 w
theorem most_sub (x : Nat) (w : World) (hx : x < 18446744073709551616 ^ 4) : Calls Try.prog 24 #[.agg #[.int .u64 18446744073709551615, .int .u64 18446744073709551615, .int .u64 18446744073709551615, .int .u64 18446744073709551615], bigN x] w fun e w' => e = .returned (.tuple #[bigN (18446744073709551616 ^ 4 - 1 - x), .int .i64 0]) ∧ Below w.heap.size w w' := by
  have h := hsub_calls (18446744073709551616 ^ 4 - 1) x w (by omega) hx
  rw [show diffV (18446744073709551616 ^ 4 - 1) x = .tuple #[bigN (18446744073709551616 ^ 4 - 1 - x), .int .i64 0] from if_pos (by omega)] at h
  exact h

set_option maxHeartbeats 1000000 in
set_option maxRecDepth 100000 in
theorem asum_calls (v : Value) (l : List Nat) (w : World) (h : Nums w v l) (hl : l.length ≤ 1000000) (hlt : ∀ x ∈ l, x < 18446744073709551616 ^ 4) :
    Calls Try.prog 54 #[v] w fun e w' => e = .returned (wideN l.sum) ∧ Below w.heap.size w w' := by
  obtain ⟨A, c, rfl, a1, a2, -⟩ := id h
  have HN := Lib.hid h
  clear h
  unfold maxLen at a2
  have B0 : WBox ((w.alloc (obj8 0 0 0 0 0 0 0 0)).alloc (obj8 0 0 0 0 0 0 0 0)) w.heap.size 0 := (WBox.zero w).alloc _
  have T0 := WBox.zero (w.alloc (obj8 0 0 0 0 0 0 0 0))
  rw [World.size_alloc] at T0
  have Q0 : Below w.heap.size w ((w.alloc (obj8 0 0 0 0 0 0 0 0)).alloc (obj8 0 0 0 0 0 0 0 0)) := ((Below.refl _ _).alloc (Nat.le_refl _) _).alloc (by simp) _
  have HLt := Lib.hid hlt
  have HLn := Lib.hid (show l.length = l.length from rfl)
  generalize hln : l.length = n at *
  have HL := Lib.hid hln
  clear hln HLn hlt
  go_enter Try.func54, Try.ntmps54
  go_wp2_with fail
  obtain ⟨W, hW⟩ : ∃ W, (w.alloc (obj8 0 0 0 0 0 0 0 0)).alloc (obj8 0 0 0 0 0 0 0 0) = W := ⟨_, rfl⟩
  dsimp only [obj8] at hW
  rw [hW]
  dsimp only [obj8] at B0 T0 Q0
  rw [hW] at B0 T0 Q0
  clear hW
  go_loopw [13] (fun i wr => ∃ k : Nat, i = .int .i64 k ∧ k ≤ n ∧ WBox wr w.heap.size 0 ∧ Hid (WBox wr (w.heap.size + 1) (l.take k).sum) ∧ Hid ((l.take k).sum ≤ k * 18446744073709551616 ^ 4) ∧ Below w.heap.size w wr) (fun i _ => n - (intOf i).toNat)
  case atStart => exact ⟨0, rfl, by omega, B0, Lib.hid T0, Lib.hid (by simp), Q0⟩
  case round =>
    obtain ⟨k, rfl, hk, X, HY, HS, hb⟩ := hrel
    clear B0 T0 Q0
    by_cases hk1 : k < n
    · have hk1' : (k : Int) < (n : Int) := by omega
      obtain ⟨g, o, rfl, hg, hc⟩ := HN.out.at k hk1
      have HT := Lib.hid (sum_take l k (by rw [HL.out]; exact hk1))
      have HM := Lib.hid (HLt.out (l.getD k 0) (by
        rw [List.getD_eq_getElem?_getD, List.getElem?_eq_getElem (by rw [HL.out]; exact hk1)]
        exact List.getElem_mem _))
      have c0 := (hb.cell (p := ⟨g, o + k * 4 + 0, none⟩) hg).trans (hc 0 (by omega))
      have c1 := (hb.cell (p := ⟨g, o + k * 4 + 1, none⟩) hg).trans (hc 1 (by omega))
      have c2 := (hb.cell (p := ⟨g, o + k * 4 + 2, none⟩) hg).trans (hc 2 (by omega))
      have c3 := (hb.cell (p := ⟨g, o + k * 4 + 3, none⟩) hg).trans (hc 3 (by omega))
      rw [Nat.add_zero] at c0
      clear hc
      generalize l.getD k 0 = x at *
      generalize (l.take k).sum = s at *
      have lx := X.lt
      have ly := HY.out.lt
      have HLw := Lib.hid (Nat.mod_lt s (show 0 < 18446744073709551616 ^ 4 by decide))
      obtain ⟨⟨y0, y1, y2, y3⟩, y4, -⟩ := HY.out.cells
      rw [limb_low s (by omega)] at y0 y1 y2 y3
      obtain ⟨L, hL⟩ : ∃ L, s % 18446744073709551616 ^ 4 = L := ⟨_, rfl⟩
      rw [hL] at y0 y1 y2 y3 HLw
      have HLd := Lib.hid hL
      clear hL
      go_upto_region 5 with fail
      go_cut [6, 7] from 17 to 24 (fun v6 v7 wx => ∃ p : Nat, v6 = .pointer (some ⟨p, 0, none⟩) ∧ v7 = .int .i64 (okE (L + x)) ∧ NAt wx p 0 (kept (L + x)) ∧ wr.heap.size < p ∧ p < wx.heap.size ∧ NAt wx wr.heap.size 0 x ∧ Below wr.heap.size wr wx)
      case first =>
        obtain ⟨W1, hW1⟩ : ∃ W1, wr.alloc (obj4 (limb x 0) (limb x 1) (limb x 2) (limb x 3)) = W1 := ⟨_, rfl⟩
        have RL : At W1 (w.heap.size + 1) 0 (cells4L L) := by
          have h1 := (At.of_row (HY.out.alloc (obj4 (limb x 0) (limb x 1) (limb x 2) (limb x 3)))).part 0 4 (by simp)
          rw [hW1] at h1
          have e : (((List.range 8).map (lim (limb s))).drop 0).take 4 = cells4L L := by
            simp only [List.range, List.range.loop, List.map_cons, List.map_nil, lim, List.drop_zero, List.take_succ_cons, List.take_zero, cells4L]
            rw [limb_low s (show 0 < 4 by omega), limb_low s (show 1 < 4 by omega), limb_low s (show 2 < 4 by omega), limb_low s (show 3 < 4 by omega), HLd.out]
          rw [e] at h1
          exact h1
        have RX : NAt W1 wr.heap.size 0 x := hW1 ▸ NAt.new wr x
        have hl1 : w.heap.size + 1 < W1.heap.size := by rw [← hW1]; simp; omega
        have hl2 : wr.heap.size < W1.heap.size := by rw [← hW1]; simp
        have hb1 : Below wr.heap.size wr W1 := hW1 ▸ (Below.refl _ _).alloc (Nat.le_refl _) _
        dsimp only [obj4] at hW1
        rw [hW1]
        clear hW1
        have hadd := fun w => hadd_calls L x w HLw.out HM.out
        simp only [sumV_kept] at hadd
        have HAdd := Lib.hid hadd
        clear hadd y0 y1 y2 y3 y4 c0 c1 c2 c3
        obtain ⟨T, hT⟩ : ∃ T : Sched, T = ⟨[.main, .main, .main, .main, .main, .main, .main, .main, .new, .put 8, .main], [.slice (some ⟨w.heap.size + 1, 0, none⟩) 4 8, .pointer (some ⟨w.heap.size + 1, 0, none⟩), bigN L, bigN x, .tuple #[bigN (kept (L + x)), .int .i64 (okE (L + x))], .tuple #[bigN (kept (L + x)), .int .i64 (okE (L + x))], bigN (kept (L + x)), .int .i64 (okE (L + x)), undef, undef, .int .i64 (okE (L + x))], (fun k p => match k with | 8 => .pointer (some ⟨p, 0, none⟩) | _ => undef), (fun k => match k with | 8 => cells4L 0 | _ => []), (fun k => match k with | 8 => cells4L (kept (L + x)) | _ => []), (fun _ _ _ => True)⟩ := ⟨_, rfl⟩
        have hng : ghosty T.tags = false := by rw [hT]; rfl
        refine region_plan (by kernel_rfl) T (Cls W1) (by rw [hT]; kernel_rfl) (puts_len (by rw [hT]; exact ⟨by rfl, trivial⟩)) Cls.alloc Cls.put (no_ghost hng) (Cls.start W1) ?steps ?fin
        case steps =>
          refine Steps.cons ?s0 (Steps.cons ?s1 (Steps.cons ?s2 (Steps.cons ?s3 (Steps.cons ?s4 (Steps.cons ?s5 (Steps.cons ?s6 (Steps.cons ?s7 (Steps.cons ?s8 (Steps.cons ?s9 (Steps.cons ?s10 (Steps.nil)))))))))))
          case s0 => exact pm_pure (by rw [hT]; rfl) rfl (fun cc AA ww hh => by
              have e3 : AA.eval (.tmp 3) = .pointer (some ⟨w.heap.size + 1, 0, none⟩) := (rd0 (t := 3) hh rfl).trans (by rw [hT]; rfl)
              have ev : T.nth 0 = .slice (some ⟨w.heap.size + 1, 0, none⟩) 4 8 := by rw [hT]; rfl
              rw [ev]
              have ek : ∀ v, AA.eval (.const v) = v := fun _ => rfl
              generalize AA.eval = ρ at *
              simp [go_sem, ek, e3])
          case s1 => exact pm_pure (by rw [hT]; rfl) rfl (fun cc AA ww hh => by
              have e18 : AA.eval (.tmp 18) = .slice (some ⟨w.heap.size + 1, 0, none⟩) 4 8 := (rd0 (t := 18) hh rfl).trans (by rw [hT]; rfl)
              have ev : T.nth 1 = .pointer (some ⟨w.heap.size + 1, 0, none⟩) := by rw [hT]; rfl
              rw [ev]
              have ek : ∀ v, AA.eval (.const v) = v := fun _ => rfl
              generalize AA.eval = ρ at *
              simp [go_sem, ek, e18, arrayAt_four])
          case s2 => exact pm_load (by rw [hT]; rfl) rfl _ _ rfl (w.heap.size + 1) (0) (fun cc AA hh => (rd0 (t := 19) hh rfl).trans (by rw [hT]; rfl)) (cells4L L) (by rw [hT]; rfl) (fun mm NN ww hh => range_below RL.1 hh.1 hl1) Try.underlying28 rfl int_info
          case s3 => exact pm_load (by rw [hT]; rfl) rfl _ _ rfl (wr.heap.size) (0) (fun cc AA hh => (rd0 (t := 5) hh rfl).trans (by rw [hT]; rfl)) (cells4L x) (by rw [hT]; rfl) (fun mm NN ww hh => range_below RX.1 hh.1 hl2) Try.underlying28 rfl int_info
          case s4 => exact pm_callB (by rw [hT]; rfl) rfl 13 _ _ rfl Try.call13 (fun cc => #[bigN L, bigN x]) (fun cc AA hh => map2 ((rd0 (t := 20) hh rfl).trans (by rw [hT]; rfl)) ((rd1 (t := 21) hh rfl).trans (by rw [hT]; rfl))) (fun cc NN ww hb hF => by rw [hT]; exact HAdd.out ww)
          case s5 => exact pm_move (by rw [hT]; rfl) rfl _ rfl (fun cc AA hh => (rd0 (t := 22) hh rfl).trans (by rw [hT]; rfl))
          case s6 => exact pm_extract (by rw [hT]; rfl) rfl _ _ rfl #[bigN (kept (L + x)), .int .i64 (okE (L + x))] (fun cc AA hh => (rd0 (t := 17) hh rfl).trans (by rw [hT]; rfl)) (by rw [hT]; rfl)
          case s7 => exact pm_extract (by rw [hT]; rfl) rfl _ _ rfl #[bigN (kept (L + x)), .int .i64 (okE (L + x))] (fun cc AA hh => (rd0 (t := 17) hh rfl).trans (by rw [hT]; rfl)) (by rw [hT]; rfl)
          case s8 => exact pn_alloc (by rw [hT]; rfl) _ rfl _ (fun ww => Try.zeroValue28 ww) (by rw [hT]; intro p; rfl) (by rw [hT]; rfl)
          case s9 => exact pp_store (by rw [hT]; rfl) _ _ _ rfl rfl (fun cc AA hh => (rd0 (t := 6) hh rfl).trans (by rw [hT]; rfl)) (fun cc AA hh => (rd1 (t := 23) hh rfl).trans (by rw [hT]; rfl)) (by rw [hT]; exact int_info) (by rw [hT]; exact cells4_one _)
          case s10 => exact pm_assign (by rw [hT]; rfl) rfl _ rfl (fun cc AA hh => (rd0 (t := 24) hh rfl).trans (by rw [hT]; rfl))
        case fin =>
          intro cc NN w2 hC hN hap hgs
          obtain ⟨hn8, hz8, hth8, hr8, hp8⟩ := hN 8 (by rw [hT]; rfl)
          have hx8 : At w2 (cc 8).p 0 (cells4L (kept (L + x))) := by
            have h := hp8 9 (by rw [hT]; rfl)
            rw [hT] at h hth8
            exact ⟨h, hth8⟩
          rw [show putsAll T cc _ 0 _ = List.foldl (fun a x => Act.put a x.1 x.2) _ [(some 18, .slice (some ⟨w.heap.size + 1, 0, none⟩) 4 8), (some 19, .pointer (some ⟨w.heap.size + 1, 0, none⟩)), (some 20, bigN L), (some 21, bigN x), (some 22, .tuple #[bigN (kept (L + x)), .int .i64 (okE (L + x))]), (some 17, .tuple #[bigN (kept (L + x)), .int .i64 (okE (L + x))]), (some 23, bigN (kept (L + x))), (some 24, .int .i64 (okE (L + x))), (some 6, .pointer (some ⟨(cc 8).p, 0, none⟩)), (none, undef), (some 7, .int .i64 (okE (L + x)))] from by rw [hT]; rfl]
          simp only [List.foldl_cons, List.foldl_nil, Act.put, List.setIfInBounds_toArray, List.set_cons_succ, List.set_cons_zero]
          clear hN hap hgs hng hT
          go_wp2_with fail
          go_meet
          exact ⟨(cc 8).p, rfl, rfl, hx8, Nat.lt_of_lt_of_le hl2 (hC.2 _ hn8), hz8, At.below RX hC.1 hl2, hb1.trans (hC.1.mono (Nat.le_of_lt hl2))⟩
      case rest =>
      obtain ⟨p, rfl, rfl, HPn, hp1, hp2, HX, hbw⟩ := hcut
      have Y2 : WBox wc (w.heap.size + 1) s := HY.out.below hbw ly
      have X2 : WBox wc w.heap.size 0 := X.below hbw lx
      have hq : Below w.heap.size w wc := hb.trans (hbw.mono (by omega))
      have hl1 : w.heap.size + 1 < wc.heap.size := Y2.lt
      clear X HY hb hbw y0 y1 y2 y3 y4 c0 c1 c2 c3
      go_upto_if 26 with fail
      obtain ⟨b0, hb0⟩ : ∃ b, (okE (L + x) != 0) = b := ⟨_, rfl⟩
      have HB0 := Lib.hid hb0
      rw [hb0]
      clear hb0
      go_cut [8, 9, 10] from 27 to 51 (fun v8 v9 v10 wx => NAt wx p 0 ((s + x) % 18446744073709551616 ^ 4) ∧ p < wx.heap.size ∧ WBox wx w.heap.size 0 ∧ wx.rowIs (w.heap.size + 1) 111 8 (lim fun j => if j = 4 then limb (s + x) 4 else limb s j) ∧ Below w.heap.size w wx)
      case first =>
        by_cases hov : L + x < 18446744073709551616 ^ 4
        · have e1 : b0 = false := by rw [← HB0.out, show okE (L + x) = 0 from if_pos hov]; rfl
          subst e1
          have HK := Lib.hid (show kept (L + x) = L + x from if_pos hov)
          have HM2 := Lib.hid (sum_small HLd.out hov)
          clear hov
          go_wp2_with fail
          go_meet
          refine ⟨?_, hp2, X2, Y2.congr fun j hj => ?_, hq⟩
          · rw [HM2.out.1, ← HK.out]; exact HPn
          · by_cases e : j = 4
            · subst e
              show lim (limb s) 4 = .int .u64 (limb (s + x) 4)
              rw [show limb (s + x) 4 = limb s 4 by rw [limb_high (s + x) 0, limb_high s 0, HM2.out.2]]
              rfl
            · show _ = Value.int .u64 (if j = 4 then limb (s + x) 4 else limb s j)
              rw [if_neg e]; rfl
        · have e1 : b0 = true := by rw [← HB0.out, show okE (L + x) = 2 from if_neg hov]; rfl
          subst e1
          have HM2 := Lib.hid (sum_great HLd.out HM.out (by omega))
          have HO := Lib.hid (show 18446744073709551616 ^ 4 ≤ L + x by omega)
          clear hov
          obtain ⟨⟨x0, x1, x2, x3⟩, -⟩ := HX.cells0
          have hwx := At.lt HX (by simp [cells4L])
          have HSub0 := Lib.hid (fun w => most_sub x w HM.out)
          go_wp2_with fail
          refine (HSub0.out _).mono ?_
          rintro e w5 ⟨rfl, hb5⟩
          obtain ⟨lk, hlk⟩ : ∃ lk, 18446744073709551616 ^ 4 - 1 - x = lk := ⟨_, rfl⟩
          rw [hlk]
          have HLK := Lib.hid hlk
          clear hlk
          have RL : At wc (w.heap.size + 1) 0 (cells4L L) := by
            have h1 := (At.of_row Y2).part 0 4 (by simp)
            rw [wide_low, HLd.out] at h1
            exact h1
          have qa : Below wc.heap.size wc (w5.alloc (obj4 (limb lk 0) (limb lk 1) (limb lk 2) (limb lk 3))) := (((Below.refl _ _).alloc (Nat.le_refl _) _).trans (hb5.mono (by simp))).alloc (Nat.le_trans (by simp) hb5.size) _
          have hz5 : wc.heap.size < w5.heap.size := Nat.lt_of_lt_of_le (by simp) hb5.size
          go_upto_region 9 with fail
          obtain ⟨q, hqq⟩ : ∃ q, w5.heap.size = q := ⟨_, rfl⟩
          obtain ⟨W2, hW2⟩ : ∃ W2, w5.alloc (obj4 (limb lk 0) (limb lk 1) (limb lk 2) (limb lk 3)) = W2 := ⟨_, rfl⟩
          have RK : NAt W2 q 0 lk := hW2 ▸ hqq ▸ NAt.new w5 lk
          have hl2 : q < W2.heap.size := by rw [← hW2, ← hqq]; simp
          rw [hW2] at qa
          dsimp only [obj4] at hW2
          rw [hW2, hqq]
          rw [hqq] at hz5
          clear hW2 hqq hb5 HSub0 x0 x1 x2 x3
          have RL := RL.below qa hl1
          have HP2 : NAt W2 p 0 (kept (L + x)) := At.below HPn qa hp2
          have hl1 := Nat.lt_of_lt_of_le hl1 qa.size
          have hl3 := Nat.lt_of_lt_of_le hp2 qa.size
          have hsub := fun w => hsub_calls L lk w HLw.out (by have := HLK.out; have := HM.out; omega)
          rw [show diffV L lk = .tuple #[bigN (L - lk), .int .i64 0] from if_pos (by have := HLK.out; have := HM.out; have := HO.out; omega)] at hsub
          have HSub := Lib.hid hsub
          clear hsub
          obtain ⟨T, hT⟩ : ∃ T : Sched, T = ⟨[.main, .main, .early, .early, .main, .main, .main, .main, .late], [.slice (some ⟨w.heap.size + 1, 0, none⟩) 4 8, .pointer (some ⟨w.heap.size + 1, 0, none⟩), bigN L, bigN lk, .tuple #[bigN (L - lk), .int .i64 0], .tuple #[bigN (L - lk), .int .i64 0], bigN (L - lk), .int .i64 0, undef], (fun _ _ => undef), (fun _ => []), (fun _ => []), (fun _ _ _ => True)⟩ := ⟨_, rfl⟩
          have hng : ghosty T.tags = false := by rw [hT]; rfl
          obtain ⟨F, hF0, hF1, hFs⟩ := stage2 W2 (W2.setCells (p) (0) (cells4L (L - lk))) (cells_size _ _ _ _)
          have hF1 : F 1 = (F 0).setCells (p) (0) (cells4L (L - lk)) := by rw [hF1, hF0]
          have hg00 : (p) < (F 0).heap.size := by rw [hF0]; exact hl3
          have hth0 : (F 0).there (p) (0) (cells4L (L - lk)).length := by rw [hF0]; exact HP2.2
          refine region_plan (by kernel_rfl) T (ClsF F) (by rw [hT]; kernel_rfl) (puts_len (by rw [hT]; exact trivial)) (ClsF.alloc hFs) ClsF.put (no_ghost hng) (by rw [← hF0]; exact ClsF.start F) ?steps ?fin
          case steps =>
            refine Steps.cons ?s0 (Steps.cons ?s1 (Steps.cons ?s2 (Steps.cons ?s3 (Steps.cons ?s4 (Steps.cons ?s5 (Steps.cons ?s6 (Steps.cons ?s7 (Steps.cons ?s8 (Steps.nil)))))))))
            case s0 => exact pm_pure (by rw [hT]; rfl) rfl (fun cc AA ww hh => by
                have e3 : AA.eval (.tmp 3) = .pointer (some ⟨w.heap.size + 1, 0, none⟩) := (rd0 (t := 3) hh rfl).trans (by rw [hT]; rfl)
                have ev : T.nth 0 = .slice (some ⟨w.heap.size + 1, 0, none⟩) 4 8 := by rw [hT]; rfl
                rw [ev]
                have ek : ∀ v, AA.eval (.const v) = v := fun _ => rfl
                generalize AA.eval = ρ at *
                simp [go_sem, ek, e3])
            case s1 => exact pm_pure (by rw [hT]; rfl) rfl (fun cc AA ww hh => by
                have e35 : AA.eval (.tmp 35) = .slice (some ⟨w.heap.size + 1, 0, none⟩) 4 8 := (rd0 (t := 35) hh rfl).trans (by rw [hT]; rfl)
                have ev : T.nth 1 = .pointer (some ⟨w.heap.size + 1, 0, none⟩) := by rw [hT]; rfl
                rw [ev]
                have ek : ∀ v, AA.eval (.const v) = v := fun _ => rfl
                generalize AA.eval = ρ at *
                simp [go_sem, ek, e35, arrayAt_four])
            case s2 => exact pe_load (by rw [hT]; rfl) rfl _ _ rfl (w.heap.size + 1) (0) (fun cc AA hh => (rd0 (t := 36) hh rfl).trans (by rw [hT]; rfl)) (cells4L L) (by rw [hT]; rfl) (fun NN ww hh => range_below (hF0 ▸ RL.1) hh.1 (hF0 ▸ hl1)) Try.underlying28 rfl int_info
            case s3 => exact pe_load (by rw [hT]; rfl) rfl _ _ rfl (q) (0) (fun cc AA hh => (rd0 (t := 9) hh rfl).trans (by rw [hT]; rfl)) (cells4L lk) (by rw [hT]; rfl) (fun NN ww hh => range_below (hF0 ▸ RK.1) hh.1 (hF0 ▸ hl2)) Try.underlying28 rfl int_info
            case s4 => exact pm_callF hFs (by rw [hT]; rfl) rfl 24 _ _ rfl Try.call24 (fun cc => #[bigN L, bigN lk]) (fun cc AA hh => map2 ((rd0 (t := 37) hh rfl).trans (by rw [hT]; rfl)) ((rd1 (t := 38) hh rfl).trans (by rw [hT]; rfl))) (fun cc NN ww hb hF => by rw [hT]; exact HSub.out ww)
            case s5 => exact pm_move (by rw [hT]; rfl) rfl _ rfl (fun cc AA hh => (rd0 (t := 39) hh rfl).trans (by rw [hT]; rfl))
            case s6 => exact pm_extract (by rw [hT]; rfl) rfl _ _ rfl #[bigN (L - lk), .int .i64 0] (fun cc AA hh => (rd0 (t := 34) hh rfl).trans (by rw [hT]; rfl)) (by rw [hT]; rfl)
            case s7 => exact pm_extract (by rw [hT]; rfl) rfl _ _ rfl #[bigN (L - lk), .int .i64 0] (fun cc AA hh => (rd0 (t := 34) hh rfl).trans (by rw [hT]; rfl)) (by rw [hT]; rfl)
            case s8 => exact pl_store hng (by rw [hT]; rfl) hF1 hg00 (by rw [hT]; rfl) hth0 _ _ _ rfl rfl (fun cc AA hh => (rd0 (t := 6) hh rfl).trans (by rw [hT]; rfl)) (fun cc AA hh => (rd1 (t := 40) hh rfl).trans (by rw [hT]; rfl)) (int_info) (cells4_one _)
          case fin =>
            intro cc NN w3 hC hN hap hgs
            have hB : Below W2.heap.size (W2.setCells (p) (0) (cells4L (L - lk))) w3 := by
              have h := hC.1
              rw [show lates T.tags = 1 from by rw [hT]; rfl, hF1, hF0] at h
              exact h
            rw [show putsAll T cc _ 0 _ = List.foldl (fun a x => Act.put a x.1 x.2) _ [(some 35, .slice (some ⟨w.heap.size + 1, 0, none⟩) 4 8), (some 36, .pointer (some ⟨w.heap.size + 1, 0, none⟩)), (some 37, bigN L), (some 38, bigN lk), (some 39, .tuple #[bigN (L - lk), .int .i64 0]), (some 34, .tuple #[bigN (L - lk), .int .i64 0]), (some 40, bigN (L - lk)), (some 41, .int .i64 0), (none, undef)] from by rw [hT]; rfl]
            simp only [List.foldl_cons, List.foldl_nil, Act.put, List.setIfInBounds_toArray, List.set_cons_succ, List.set_cons_zero]
            clear hN hap hgs hng hT
            go_upto_region 10 with fail
            have HP3 : NAt w3 p 0 (L - lk) := At.below (At.cells HP2 (cells4L (L - lk)) rfl) hB hl3
            have hpw : w.heap.size ≤ p := by omega
            have hpw1 : w.heap.size + 1 < p := by omega
            have hq2 : Below w.heap.size w W2 := hq.trans (qa.mono (by omega))
            have hq3 : Below w.heap.size w w3 := (below_range hpw _ 0 _ hq2).trans (hB.mono hq2.size)
            have X3 : WBox w3 w.heap.size 0 := ((X2.below qa (by omega)).far (p := p) (by omega) 0 _).below hB (by have := hq2.size; have := qa.size; omega)
            have Y3 : WBox w3 (w.heap.size + 1) s := ((Y2.below qa (by omega)).far (p := p) (by omega) 0 _).below hB (by have := qa.size; omega)
            have hl3 : p < w3.heap.size := Nat.lt_of_lt_of_le hl3 (by have := hB.size; rw [cells_size] at this; exact this)
            obtain ⟨d, hd⟩ : ∃ d, L - lk = d := ⟨_, rfl⟩
            have HD := Lib.hid hd
            rw [hd] at HP3 ⊢
            have hsub := fun w => hsub_calls d 1 w (by have := HLw.out; omega) (by decide)
            have hd1 : 1 ≤ d := by have := HLK.out; have := HM.out; have := HO.out; omega
            rw [show diffV d 1 = .tuple #[bigN (d - 1), .int .i64 0] from if_pos hd1] at hsub
            have HSub := Lib.hid hsub
            clear hsub hd hB HP2 RL RK qa HPn X2 Y2 hq hq2 hp2 hp1 hl2 hwx HX hz5
            go_upto_region 10 with fail
            obtain ⟨T, hT⟩ : ∃ T : Sched, T = ⟨[.early, .main, .main, .main, .main, .main, .late], [bigN d, bigN 1, .tuple #[bigN (d - 1), .int .i64 0], .tuple #[bigN (d - 1), .int .i64 0], bigN (d - 1), .int .i64 0, undef], (fun _ _ => undef), (fun _ => []), (fun _ => []), (fun _ _ _ => True)⟩ := ⟨_, rfl⟩
            have hng : ghosty T.tags = false := by rw [hT]; rfl
            obtain ⟨F, hF0, hF1, hFs⟩ := stage2 w3 (w3.setCells (p) (0) (cells4L (d - 1))) (cells_size _ _ _ _)
            have hF1 : F 1 = (F 0).setCells (p) (0) (cells4L (d - 1)) := by rw [hF1, hF0]
            have hg00 : (p) < (F 0).heap.size := by rw [hF0]; exact hl3
            have hth0 : (F 0).there (p) (0) (cells4L (d - 1)).length := by rw [hF0]; exact HP3.2
            refine region_plan (by kernel_rfl) T (ClsF F) (by rw [hT]; kernel_rfl) (puts_len (by rw [hT]; exact trivial)) (ClsF.alloc hFs) ClsF.put (no_ghost hng) (by rw [← hF0]; exact ClsF.start F) ?steps ?fin
            case steps =>
              refine Steps.cons ?s0 (Steps.cons ?s1 (Steps.cons ?s2 (Steps.cons ?s3 (Steps.cons ?s4 (Steps.cons ?s5 (Steps.cons ?s6 (Steps.nil)))))))
              case s0 => exact pe_load (by rw [hT]; rfl) rfl _ _ rfl (p) (0) (fun cc AA hh => (rd0 (t := 6) hh rfl).trans (by rw [hT]; rfl)) (cells4L d) (by rw [hT]; rfl) (fun NN ww hh => range_below (hF0 ▸ HP3.1) hh.1 (hF0 ▸ hl3)) Try.underlying28 rfl int_info
              case s1 => exact pm_callF hFs (by rw [hT]; rfl) rfl 68 _ _ rfl Try.call68 (fun cc => #[.int .u64 1]) (fun cc AA hh => map1 (rfl)) (fun cc NN ww hb hF => by rw [hT]; exact hof_one ww)
              case s2 => exact pm_callF hFs (by rw [hT]; rfl) rfl 24 _ _ rfl Try.call24 (fun cc => #[bigN d, bigN 1]) (fun cc AA hh => map2 ((rd0 (t := 43) hh rfl).trans (by rw [hT]; rfl)) ((rd1 (t := 44) hh rfl).trans (by rw [hT]; rfl))) (fun cc NN ww hb hF => by rw [hT]; exact HSub.out ww)
              case s3 => exact pm_move (by rw [hT]; rfl) rfl _ rfl (fun cc AA hh => (rd0 (t := 45) hh rfl).trans (by rw [hT]; rfl))
              case s4 => exact pm_extract (by rw [hT]; rfl) rfl _ _ rfl #[bigN (d - 1), .int .i64 0] (fun cc AA hh => (rd0 (t := 42) hh rfl).trans (by rw [hT]; rfl)) (by rw [hT]; rfl)
              case s5 => exact pm_extract (by rw [hT]; rfl) rfl _ _ rfl #[bigN (d - 1), .int .i64 0] (fun cc AA hh => (rd0 (t := 42) hh rfl).trans (by rw [hT]; rfl)) (by rw [hT]; rfl)
              case s6 => exact pl_store hng (by rw [hT]; rfl) hF1 hg00 (by rw [hT]; rfl) hth0 _ _ _ rfl rfl (fun cc AA hh => (rd0 (t := 6) hh rfl).trans (by rw [hT]; rfl)) (fun cc AA hh => (rd1 (t := 46) hh rfl).trans (by rw [hT]; rfl)) (int_info) (cells4_one _)
            case fin =>
              intro cc NN w4 hC hN hap hgs
              have hB : Below w3.heap.size (w3.setCells (p) (0) (cells4L (d - 1))) w4 := by
                have h := hC.1
                rw [show lates T.tags = 1 from by rw [hT]; rfl, hF1, hF0] at h
                exact h
              rw [show putsAll T cc _ 0 _ = List.foldl (fun a x => Act.put a x.1 x.2) _ [(some 43, bigN d), (some 44, bigN 1), (some 45, .tuple #[bigN (d - 1), .int .i64 0]), (some 42, .tuple #[bigN (d - 1), .int .i64 0]), (some 46, bigN (d - 1)), (some 47, .int .i64 0), (none, undef)] from by rw [hT]; rfl]
              simp only [List.foldl_cons, List.foldl_nil, Act.put, List.setIfInBounds_toArray, List.set_cons_succ, List.set_cons_zero]
              clear hN hap hgs hng hT
              have HP4 : NAt w4 p 0 (d - 1) := At.below (At.cells HP3 (cells4L (d - 1)) rfl) hB hl3
              have hq4 : Below w.heap.size w w4 := (below_range hpw _ 0 _ hq3).trans (hB.mono hq3.size)
              have X4 : WBox w4 w.heap.size 0 := (X3.far (p := p) (by omega) 0 _).below hB X3.lt
              have Y4 : WBox w4 (w.heap.size + 1) s := (Y3.far (p := p) (by omega) 0 _).below hB Y3.lt
              have hl4 : p < w4.heap.size := Nat.lt_of_lt_of_le hl3 (by have := hB.size; rw [cells_size] at this; exact this)
              clear hB HP3 X3 Y3 hq3 hl3 HSub hd1
              have hc4 := Y4.at (k := 4) (by decide)
              have hf4 := Y4.freeAt 4
              have hb4 : 0 ≤ limb s 4 ∧ limb s 4 < 18446744073709551615 ∧ limb (s + x) 4 = limb s 4 + 1 := by
                rw [limb_high (s + x) 0, limb_high s 0, HM2.out.2]
                have h1 : s / 18446744073709551616 ^ 4 ≤ k := Nat.div_le_of_le_mul (by rw [Nat.mul_comm]; exact HS.out)
                unfold limb
                generalize s / 18446744073709551616 ^ 4 = z at *
                rw [Nat.pow_zero, Nat.div_one, Nat.div_one, Nat.mod_eq_of_lt (by omega), Nat.mod_eq_of_lt (by omega)]
                omega
              obtain ⟨b1, b2, b3⟩ := hb4
              have HB3 := Lib.hid b3
              clear b3
              obtain ⟨c4, hcc⟩ : ∃ c4, limb s 4 = c4 := ⟨_, rfl⟩
              rw [hcc] at hc4 b1 b2 HB3
              clear hcc
              go_wp2_with fail
              go_meet
              have hpn : p ≠ w.heap.size + 1 := by omega
              refine ⟨?_, by simpa using hl4, X4.other (by show w.heap.size ≠ w.heap.size + 1; omega) _, ((World.rowIs.set Y4 4 (.int .u64 (c4 + 1))).congr fun j hj => ?_), hq4.setCell (by show w.heap.size ≤ w.heap.size + 1; omega) _⟩
              · rw [HM2.out.1]
                have e : L + x - 18446744073709551616 ^ 4 = d - 1 := by have := HLK.out; have := HM.out; have := HO.out; have := HD.out; omega
                rw [e]
                exact At.other HP4 hpn _
              · show (if j = 4 then Value.int .u64 (c4 + 1) else lim (limb s) j) = Value.int .u64 (if j = 4 then limb (s + x) 4 else limb s j)
                by_cases e : j = 4
                · rw [if_pos e, if_pos e, HB3.out]
                · rw [if_neg e, if_neg e]; rfl
      case rest =>
      obtain ⟨HP, hl3, X, HR, hq⟩ := hcut
      obtain ⟨low, hlow⟩ : ∃ low, (s + x) % 18446744073709551616 ^ 4 = low := ⟨_, rfl⟩
      rw [hlow] at HP
      have HLo := Lib.hid hlow
      have hl1 : w.heap.size + 1 < wc.heap.size := World.rowIs.lt HR
      have hth : wc.there (w.heap.size + 1) 0 (cells4L low).length := ((At.of_row HR).part 0 4 (by simp)).2
      clear hlow HLw HLd HPn HX
      go_upto_region 12 with fail
      obtain ⟨T, hT⟩ : ∃ T : Sched, T = ⟨[.main, .main, .late], [.slice (some ⟨w.heap.size + 1, 0, none⟩) 8 8, .slice (some ⟨p, 0, none⟩) 4 4, goInt 4], (fun _ _ => undef), (fun _ => []), (fun _ => []), (fun _ _ _ => True)⟩ := ⟨_, rfl⟩
      have hng : ghosty T.tags = false := by rw [hT]; rfl
      obtain ⟨F, hF0, hF1, hFs⟩ := stage2 wc (wc.setCells (w.heap.size + 1) (0) (cells4L low)) (cells_size _ _ _ _)
      have hF1 : F 1 = (F 0).setCells (w.heap.size + 1) (0) (cells4L low) := by rw [hF1, hF0]
      have hg00 : (w.heap.size + 1) < (F 0).heap.size := by rw [hF0]; exact hl1
      have hth0 : (F 0).there (w.heap.size + 1) (0) (cells4L low).length := by rw [hF0]; exact hth
      refine region_plan (by kernel_rfl) T (ClsF F) (by rw [hT]; kernel_rfl) (puts_len (by rw [hT]; exact trivial)) (ClsF.alloc hFs) ClsF.put (no_ghost hng) (by rw [← hF0]; exact ClsF.start F) ?steps ?fin
      case steps =>
        refine Steps.cons ?s0 (Steps.cons ?s1 (Steps.cons ?s2 (Steps.nil)))
        case s0 => exact pm_pure (by rw [hT]; rfl) rfl (fun cc AA ww hh => by
            have e3 : AA.eval (.tmp 3) = .pointer (some ⟨w.heap.size + 1, 0, none⟩) := (rd0 (t := 3) hh rfl).trans (by rw [hT]; rfl)
            have ev : T.nth 0 = .slice (some ⟨w.heap.size + 1, 0, none⟩) 8 8 := by rw [hT]; rfl
            rw [ev]
            have ek : ∀ v, AA.eval (.const v) = v := fun _ => rfl
            generalize AA.eval = ρ at *
            simp [go_sem, ek, e3])
        case s1 => exact pm_pure (by rw [hT]; rfl) rfl (fun cc AA ww hh => by
            have e6 : AA.eval (.tmp 6) = .pointer (some ⟨p, 0, none⟩) := (rd0 (t := 6) hh rfl).trans (by rw [hT]; rfl)
            have ev : T.nth 1 = .slice (some ⟨p, 0, none⟩) 4 4 := by rw [hT]; rfl
            rw [ev]
            have ek : ∀ v, AA.eval (.const v) = v := fun _ => rfl
            generalize AA.eval = ρ at *
            simp [go_sem, ek, e6])
        case s2 => exact pl_copy hng (by rw [hT]; rfl) hF1 hg00 (by rw [hT]; rfl) hth0 _ _ _ _ _ rfl Try.underlying125 (by kernel_rfl) _ _ _ _ _ _ (fun cc AA hh => (rd0 (t := 52) hh rfl).trans (by rw [hT]; rfl)) (fun cc AA hh => (rd1 (t := 53) hh rfl).trans (by rw [hT]; rfl)) (by rfl) (fun ww hh => range_below (hF0 ▸ HP.1) hh (hF0 ▸ hl3)) (cells4_one _) (by rw [hT]; rfl)
      case fin =>
        intro cc NN w2 hC hN hap hgs
        have hB : Below wc.heap.size (wc.setCells (w.heap.size + 1) (0) (cells4L low)) w2 := by
          have h := hC.1
          rw [show lates T.tags = 1 from by rw [hT]; rfl, hF1, hF0] at h
          exact h
        rw [show putsAll T cc _ 0 _ = List.foldl (fun a x => Act.put a x.1 x.2) _ [(some 52, .slice (some ⟨w.heap.size + 1, 0, none⟩) 8 8), (some 53, .slice (some ⟨p, 0, none⟩) 4 4), (some 54, goInt 4)] from by rw [hT]; rfl]
        simp only [List.foldl_cons, List.foldl_nil, Act.put, List.setIfInBounds_toArray, List.set_cons_succ, List.set_cons_zero]
        clear hN hap hgs hng hT
        have hq2 : Below w.heap.size w w2 := (below_range (by omega) _ 0 _ hq).trans (hB.mono hq.size)
        have X2 : WBox w2 w.heap.size 0 := (X.far (p := w.heap.size + 1) (by omega) 0 _).below hB X.lt
        have Y2 : WBox w2 (w.heap.size + 1) (s + x) := by
          have h1 := (((World.rowIs.set HR 0 (.int .u64 (limb low 0))).set 1 (.int .u64 (limb low 1))).set 2 (.int .u64 (limb low 2))).set 3 (.int .u64 (limb low 3))
          have h2 : WBox (wc.setCells (w.heap.size + 1) 0 (cells4L low)) (w.heap.size + 1) (s + x) := h1.congr fun i hi => by
            have hz : (s + x) / 18446744073709551616 ^ 4 < 18446744073709551616 ∧ s / 18446744073709551616 ^ 4 < 18446744073709551616 := by
              have := HS.out
              have := HM.out
              refine ⟨Nat.div_lt_of_lt_mul ?_, Nat.div_lt_of_lt_mul ?_⟩ <;> omega
            have hh : ∀ j, 1 ≤ j → limb (s + x) (4 + j) = limb s (4 + j) := fun j hj => by
              rw [limb_high, limb_high]
              have hp : 18446744073709551616 ≤ 18446744073709551616 ^ j := by
                have := Nat.pow_le_pow_right (show 0 < 18446744073709551616 by decide) hj
                simpa using this
              unfold limb
              rw [Nat.div_eq_of_lt (by omega), Nat.div_eq_of_lt (by omega)]
            match i, hi with
            | 0, _ => show Value.int .u64 (limb low 0) = .int .u64 (limb (s + x) 0); rw [limb_low (s + x) (by omega), HLo.out]
            | 1, _ => show Value.int .u64 (limb low 1) = .int .u64 (limb (s + x) 1); rw [limb_low (s + x) (by omega), HLo.out]
            | 2, _ => show Value.int .u64 (limb low 2) = .int .u64 (limb (s + x) 2); rw [limb_low (s + x) (by omega), HLo.out]
            | 3, _ => show Value.int .u64 (limb low 3) = .int .u64 (limb (s + x) 3); rw [limb_low (s + x) (by omega), HLo.out]
            | 4, _ => rfl
            | 5, _ => show Value.int .u64 (limb s 5) = .int .u64 (limb (s + x) 5); rw [hh 1 (by omega)]
            | 6, _ => show Value.int .u64 (limb s 6) = .int .u64 (limb (s + x) 6); rw [hh 2 (by omega)]
            | 7, _ => show Value.int .u64 (limb s 7) = .int .u64 (limb (s + x) 7); rw [hh 3 (by omega)]
          exact h2.below hB hl1
        go_wp2_with fail
        go_roundw
        case rel => exact ⟨k + 1, by simp, by omega, X2, by rw [HT.out]; exact Lib.hid Y2, by rw [HT.out]; exact Lib.hid (by have := HS.out; have := HM.out; rw [Nat.add_mul]; omega), hq2⟩
        case measure => simp [intOf]; omega
    · have hk2 : k = n := by omega
      subst hk2
      have HE := Lib.hid (show l.take k = l by rw [← HL.out]; exact List.take_length)
      rw [HE.out] at HY
      obtain ⟨⟨y0, y1, y2, y3⟩, y4, y5, y6, y7⟩ := HY.out.cells
      obtain ⟨⟨x0, x1, x2, x3⟩, x4, x5, x6, x7⟩ := X.cells
      have g0 := X.freeAt 0
      have g1 := X.freeAt 1
      have g2 := X.freeAt 2
      have g3 := X.freeAt 3
      have g4 := X.freeAt 4
      have g5 := X.freeAt 5
      have g6 := X.freeAt 6
      have g7 := X.freeAt 7
      have hlx := X.lt
      generalize hs : l.sum = s at *
      have HSm := Lib.hid hs
      clear hs
      go_wp2_with fail
      refine bodyPost_ret (v := wideN s) (by simp [results, Try.results54, go_sem, y0, y1, y2, y3, y4, y5, y6, y7, x0, x1, x2, x3, x4, x5, x6, x7, hlx, wideN]) rfl ⟨by rw [HSm.out], ?_⟩
      (repeat' first | (with_reducible exact hb) | (with_reducible refine Below.setCell ?_ ?_ _)) <;> exact Nat.le_refl _
end Go.Proofs.Ytchjjbklkmfelaa
