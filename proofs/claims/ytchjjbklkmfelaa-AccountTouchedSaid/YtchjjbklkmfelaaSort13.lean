/- The library's sort at uint8: what lies in the row, and the order. -/
import Derived.Test.YtchjjbklkmfelaaOwn
import Derived.Test.YtchjjbklkmfelaaInv6
import Derived.Test.YtchjjbklkmfelaaDig
import Derived.Sort.AssemblyPlain
import Derived.Sort.WalkA
import Derived.Sort.WalkC4
import Derived.Laws.BitsAllLaws
import Derived.Lib.BitFns
import Derived.Lib.Tables
import Derived.Sort.Walk13a
import Derived.Deep.LoopGhost
import Derived.Lib.SlicesCompact
import Derived.Lib.SliceRun
namespace Go.Proofs.Ytchjjbklkmfelaa
open Go.RowKit Go.Lib Go.Deep
open Go.Sort (swp ltInt SWO insInner insOuter)
set_option linter.unusedVariables false
set_option linter.unusedSimpArgs false

/-- The row's first cells hold d. -/
def Arr (w : World) (g : Nat) (d : Array Int) : Prop := ∀ j, j < d.size → w.cell? ⟨g, j, none⟩ = some (.int .u8 d[j]!) ∧ w.frozen? ⟨g, j, none⟩ = false
abbrev OnlyAt (g : Nat) (w w' : World) : Prop := w.grownBy w' (some g)
theorem OnlyAt.set {g : Nat} {w w' : World} (h : OnlyAt g w w') (i : Nat) (v : Value) : OnlyAt g w (w'.setCell ⟨g, i, none⟩ v) :=
  ⟨h.os, h.tape, h.output, by simpa [World.setCell] using h.size, fun k hk hne => (Below.heap_setCell w' ⟨g, i, none⟩ v k (fun e => hne (by rw [e]))).trans (h.block k hk hne)⟩
theorem OnlyAt.drewN {g : Nat} {w w' : World} (h : OnlyAt g w w') (n : Nat) : OnlyAt g w (w'.drewN n) := ⟨h.os, h.tape, h.output, h.size, h.block⟩
theorem OnlyAt.refl (g : Nat) (w : World) : OnlyAt g w w := World.grownBy.refl _ _
theorem Arr.drewN {w : World} {g : Nat} {d : Array Int} (h : Arr w g d) (n : Nat) : Arr (w.drewN n) g d := h
theorem cell_set_same {w : World} {g i : Nat} {u v : Value} (c : w.cell? ⟨g, i, none⟩ = some u) : (w.setCell ⟨g, i, none⟩ v).cell? ⟨g, i, none⟩ = some v := by
  rw [Go.Sort.setCell_eq]
  obtain ⟨cs, e, fr, hb, hc⟩ := Go.Sort.cells_of_cell? c
  rw [Go.Sort.cell?_mapBlock w g i _ hb, Array.getElem?_setIfInBounds, if_pos rfl, if_pos (by
    by_cases h : i < cs.size
    · exact h
    · rw [Array.getElem?_eq_none (by omega)] at hc; cases hc)]
theorem Arr.set {w : World} {g : Nat} {d : Array Int} (h : Arr w g d) (i : Nat) (x : Int) (hi : i < d.size) : Arr (w.setCell ⟨g, i, none⟩ (.int .u8 x)) g (d.setIfInBounds i x) := by
  intro j hj
  rw [Array.size_setIfInBounds] at hj
  obtain ⟨c, f⟩ := h j hj
  refine ⟨?_, by rw [World.frozen?_setCell]; exact f⟩
  by_cases e : j = i
  · subst e
    rw [Go.Sort.getElem!_set_same d j x hi]
    exact cell_set_same c
  · rw [Go.Sort.getElem!_set_other d i j x e, World.cell?_setCell_other _ _ _ _ (by intro h; injection h with _ h; omega)]
    exact c
theorem Arr.swap {w : World} {g : Nat} {d : Array Int} (h : Arr w g d) (i j : Nat) (hi : i < d.size) (hj : j < d.size) :
    Arr ((w.setCell ⟨g, i, none⟩ (.int .u8 d[j]!)).setCell ⟨g, j, none⟩ (.int .u8 d[i]!)) g (swp d i j) :=
  (h.set i d[j]! hi).set j d[i]! (by simpa using hj)
theorem swp_size (d : Array Int) (i j : Nat) : (swp d i j).size = d.size := by simp [swp]

theorem isnan_calls (x : Int) (w : World) : Calls Try.prog 92 #[.int .u8 x] w fun e w' => e = .returned (.bool false) ∧ w' = w := by
  go_enter Try.func92, Try.ntmps92
  go_wp2
  go_ret
  exact ⟨by simp, rfl⟩
theorem less_calls (x y : Int) (w : World) : Calls Try.prog 78 #[.int .u8 x, .int .u8 y] w fun e w' => e = .returned (.bool (ltInt x y)) ∧ w' = w := by
  go_enter Try.func78, Try.ntmps78
  go_wp2_with (go_at_call 92; refine (isnan_calls _ _).mono ?_; rintro e w' ⟨rfl, rfl⟩)
  go_ret
  exact ⟨rfl, rfl⟩

theorem less_is {x y : Int} {B : Bool} (h : ltInt x y = B) (w : World) : Calls Try.prog 78 #[.int .u8 x, .int .u8 y] w fun e w' => e = .returned (.bool B) ∧ w' = w := h ▸ less_calls x y w

set_option maxHeartbeats 1000000 in
set_option maxRecDepth 100000 in
theorem insertion_calls (g cap a b : Nat) (d : Array Int) (w : World) (hA : Arr w g d) (hab : a ≤ b) (hb : b ≤ d.size) (hsz : d.size ≤ 1000000) :
    Calls Try.prog 72 #[.slice (some ⟨g, 0, none⟩) d.size cap, .int .i64 (a : Int), .int .i64 (b : Int)] w fun e w' => e = .returned (.tuple #[]) ∧ Arr w' g (Go.Sort.insertionSort ltInt d a b) ∧ OnlyAt g w w' := by
  obtain ⟨n, hn⟩ : ∃ n, d.size = n := ⟨_, rfl⟩
  rw [hn] at hb hsz ⊢
  have HN := Lib.hid hn
  have HA := Lib.hid hA
  clear hn hA
  have ha0 : (0 : Int) ≤ (a : Int) := by omega
  have hb0 : (b : Int) ≤ (n : Int) := by omega
  have hn6 : (n : Int) ≤ 1000000 := by omega
  have ha6 : (a : Int) ≤ 1000000 := by omega
  go_enter Try.func72, Try.ntmps72
  go_wp2_with fail
  go_loopw [6] (fun vi wr => ∃ (i : Nat) (dk : Array Int), vi = .int .i64 (i : Int) ∧ a < i ∧ i ≤ b + 1 ∧ Hid (dk.size = n) ∧ Hid (Arr wr g dk) ∧ Hid (insOuter ltInt a b i dk = Go.Sort.insertionSort ltInt d a b) ∧ OnlyAt g w wr) (fun vi _ => b + 1 - (RowKit.intOf vi).toNat)
  case atStart => exact ⟨a + 1, d, by go_num, by omega, by omega, HN, HA, Lib.hid rfl, OnlyAt.refl _ _⟩
  case round =>
    obtain ⟨i, dk, rfl, hai, hib, HS, HR, HO, hw⟩ := hrel
    by_cases hi : i < b
    · have hi2 : (i : Int) < (b : Int) := by omega
      go_wp2_with fail
      go_loopw [7] (fun vj wl => ∃ (j : Nat) (dj : Array Int), vj = .int .i64 (j : Int) ∧ a ≤ j ∧ j ≤ i ∧ Hid (dj.size = n) ∧ Hid (Arr wl g dj) ∧ Hid (insInner ltInt a j dj = insInner ltInt a i dk) ∧ OnlyAt g w wl) (fun vj _ => (RowKit.intOf vj).toNat)
      case atStart => exact ⟨i, dk, rfl, by omega, Nat.le_refl _, HS, HR, Lib.hid rfl, hw⟩
      case round =>
        obtain ⟨j, dj, rfl, haj, hji, HSj, HRj, HI, hwj⟩ := hrel
        clear HR hw
        by_cases hja : a < j
        · obtain ⟨p, rfl⟩ : ∃ p, j = p + 1 := ⟨j - 1, by omega⟩
          have hp0 : (0 : Int) ≤ (p : Int) := by omega
          have hp1 : (p : Int) < (n : Int) := by omega
          have hp2 : (p : Int) + 1 < (n : Int) := by omega
          have hp3 : (a : Int) < (p : Int) + 1 := by omega
          have hp4 : ((p : Int) + 1).toNat = p + 1 := by omega
          have hp5 : (0 : Int) ≤ (p : Int) + 1 := by omega
          have hwp : IntKind.i64.wrap (p : Int) = (p : Int) := by rw [IntKind.wrap_i64]; omega
          obtain ⟨c1, f1⟩ := HRj.out (p + 1) (by rw [HSj.out]; omega)
          obtain ⟨c2, f2⟩ := HRj.out p (by rw [HSj.out]; omega)
          have HSw := Lib.hid (fun m => (HRj.out.drewN m).swap (p + 1) p (by rw [HSj.out]; omega) (by rw [HSj.out]; omega))
          have HIn := Lib.hid (fun (h : ltInt dj[p + 1]! dj[p]! = true) => insInner_go ltInt a (p + 1) dj hja (by rw [Nat.add_sub_cancel]; exact h))
          have HSt := Lib.hid (fun (h : ltInt dj[p + 1]! dj[p]! = false) => insInner_stop ltInt a (p + 1) dj (Or.inr (by rw [Nat.add_sub_cancel]; exact h)))
          obtain ⟨X, hX⟩ : ∃ X, dj[p + 1]! = X := ⟨_, rfl⟩
          obtain ⟨Y, hY⟩ : ∃ Y, dj[p]! = Y := ⟨_, rfl⟩
          rw [hX] at c1 HSw HIn HSt
          rw [hY] at c2 HSw HIn HSt
          clear hX hY
          cases hl : ltInt X Y
          · go_upto_region 4 with fail
            go_quiet (first | (go_at_call 78; refine Calls.quiet_of_same (less_calls _ _ _)))
            go_wp2_with fail
            go_roundw
            case rel =>
              exact ⟨i + 1, dj, by go_num, by omega, by omega, HSj, Lib.hid (HRj.out.drewN _), Lib.hid (by rw [← HO.out, insOuter_go _ _ _ _ _ hi, ← HI.out, HSt.out hl]), hwj.drewN _⟩
            case measure => simp [RowKit.intOf]; omega
          · go_upto_region 4 with fail
            go_quiet (first | (go_at_call 78; refine Calls.quiet_of_same (less_calls _ _ _)))
            go_upto_region 6 with fail
            go_region
            all_goals go_wp2_with fail
            go_roundw
            case rel =>
              exact ⟨p, _, rfl, by omega, by omega, Lib.hid (by rw [swp_size]; exact HSj.out), Lib.hid (HSw.out _), Lib.hid (by rw [← HI.out, HIn.out hl, Nat.add_sub_cancel]), ((hwj.drewN _).set _ _).set _ _⟩
            case measure => simp [RowKit.intOf]
        · have hja2 : ¬ (a : Int) < (j : Int) := by omega
          go_upto_region 4 with fail
          go_quiet (first | (go_at_call 78; refine Calls.quiet_of_same (less_calls _ _ _)))
          go_wp2_with fail
          go_roundw
          case rel =>
            exact ⟨i + 1, dj, by go_num, by omega, by omega, HSj, Lib.hid (HRj.out.drewN _), Lib.hid (by rw [← HO.out, insOuter_go _ _ _ _ _ hi, ← HI.out, insInner_stop _ _ _ _ (Or.inl (by omega))]), hwj.drewN _⟩
          case measure => simp [RowKit.intOf]; omega
    · have hi2 : ¬ (i : Int) < (b : Int) := by omega
      go_wp2_with fail
      go_end0
      exact ⟨rfl, by rw [← HO.out, insOuter_stop _ _ _ _ _ hi]; exact HR.out, hw⟩
end Go.Proofs.Ytchjjbklkmfelaa

/- The library's sort at uint8: a row turned round; the heap. -/
namespace Go.Proofs.Ytchjjbklkmfelaa
open Go.RowKit Go.Lib Go.Deep
open Go.Sort (swp ltInt SWO siftDown heapSort reverseRange reverseLoop heapBuild heapPop)
set_option linter.unusedVariables false
set_option linter.unusedSimpArgs false

theorem rev_go {i j : Nat} (d : Array Int) (h : i < j) : reverseLoop i j d = reverseLoop (i + 1) (j - 1) (swp d i j) := by rw [reverseLoop, if_pos h]
theorem rev_stop {i j : Nat} (d : Array Int) (h : ¬ i < j) : reverseLoop i j d = d := by rw [reverseLoop, if_neg h]

set_option maxHeartbeats 1000000 in
set_option maxRecDepth 100000 in
theorem reverse_calls (g cap a b : Nat) (d : Array Int) (w : World) (hA : Arr w g d) (hab : a < b) (hb : b ≤ d.size) (hsz : d.size ≤ 1000000) :
    Calls Try.prog 76 #[.slice (some ⟨g, 0, none⟩) d.size cap, .int .i64 (a : Int), .int .i64 (b : Int)] w fun e w' => e = .returned (.tuple #[]) ∧ Arr w' g (reverseRange d a b) ∧ OnlyAt g w w' := by
  obtain ⟨n, hn⟩ : ∃ n, d.size = n := ⟨_, rfl⟩
  rw [hn] at hb hsz ⊢
  have HN := Lib.hid hn
  have HA := Lib.hid hA
  clear hn hA
  obtain ⟨k, rfl⟩ : ∃ k, b = k + 1 := ⟨b - 1, by omega⟩
  have hk0 : (0 : Int) ≤ (k : Int) := by omega
  have hk6 : (k : Int) ≤ 1000000 := by omega
  have hwk : IntKind.i64.wrap (k : Int) = (k : Int) := by rw [IntKind.wrap_i64]; omega
  go_enter Try.func76, Try.ntmps76
  go_wp2_with fail
  go_loopw [6, 7] (fun vi vj wr => ∃ (i j : Nat) (dk : Array Int), vi = .int .i64 (i : Int) ∧ vj = .int .i64 (j : Int) ∧ a ≤ i ∧ j ≤ k ∧ i ≤ k ∧ Hid (dk.size = n) ∧ Hid (Arr wr g dk) ∧ Hid (reverseLoop i j dk = reverseRange d a (k + 1)) ∧ OnlyAt g w wr) (fun _ vj _ => (RowKit.intOf vj).toNat)
  case atStart => exact ⟨a, k, d, rfl, by go_num, Nat.le_refl _, Nat.le_refl _, by omega, HN, HA, Lib.hid rfl, OnlyAt.refl _ _⟩
  case round =>
    obtain ⟨i, j, dk, rfl, rfl, hai, hjk, hik, HS, HR, HI, hw⟩ := hrel
    by_cases hij : i < j
    · have h1 : (i : Int) < (j : Int) := by omega
      have h2 : (0 : Int) ≤ (i : Int) := by omega
      have h3 : (i : Int) < (n : Int) := by omega
      have h4 : (j : Int) < (n : Int) := by omega
      have h5 : (0 : Int) ≤ (j : Int) := by omega
      have hw1 : IntKind.i64.wrap ((j : Int) - 1) = (j : Int) - 1 := by rw [IntKind.wrap_i64]; omega
      obtain ⟨c1, f1⟩ := HR.out i (by rw [HS.out]; omega)
      obtain ⟨c2, f2⟩ := HR.out j (by rw [HS.out]; omega)
      have HSw := Lib.hid (fun m => (HR.out.drewN m).swap i j (by rw [HS.out]; omega) (by rw [HS.out]; omega))
      obtain ⟨X, hX⟩ : ∃ X, dk[i]! = X := ⟨_, rfl⟩
      obtain ⟨Y, hY⟩ : ∃ Y, dk[j]! = Y := ⟨_, rfl⟩
      rw [hX] at c1 HSw
      rw [hY] at c2 HSw
      clear hX hY
      go_upto_region 3 with fail
      go_region
      all_goals go_wp2_with fail
      go_roundw
      case rel => exact ⟨i + 1, j - 1, _, by go_num, by congr 1; omega, by omega, by omega, by omega, Lib.hid (by rw [swp_size]; exact HS.out), Lib.hid (HSw.out _), Lib.hid (by rw [← HI.out, rev_go _ hij]), ((hw.drewN _).set _ _).set _ _⟩
      case measure => simp [RowKit.intOf]; omega
    · have h1 : ¬ (i : Int) < (j : Int) := by omega
      go_wp2_with fail
      go_end0
      exact ⟨rfl, by rw [← HI.out, rev_stop _ hij]; exact HR.out, hw⟩

/-- The greater child is the right one. -/
def sdB (hi F r : Nat) (d : Array Int) : Bool := decide (2 * r + 2 < hi) && ltInt d[F + (2 * r + 1)]! d[F + (2 * r + 1) + 1]!
def sdC (hi F r : Nat) (d : Array Int) : Nat := if sdB hi F r d then 2 * r + 2 else 2 * r + 1
theorem sd_end {hi F r : Nat} (d : Array Int) (h : hi ≤ 2 * r + 1) : siftDown ltInt hi F r d = d := by rw [siftDown, dif_pos h]
theorem sdC_lt {hi F r : Nat} (d : Array Int) (h : 2 * r + 1 < hi) : sdC hi F r d < hi ∧ r < sdC hi F r d := by
  unfold sdC
  split
  · next hb =>
    unfold sdB at hb
    rw [Bool.and_eq_true, decide_eq_true_eq] at hb
    omega
  · omega
theorem sd_go {hi F r : Nat} (d : Array Int) (h : 2 * r + 1 < hi) (hl : ltInt d[F + r]! d[F + sdC hi F r d]! = true) : siftDown ltInt hi F r d = siftDown ltInt hi F (sdC hi F r d) (swp d (F + r) (F + sdC hi F r d)) := by
  rw [siftDown, dif_neg (by omega)]
  unfold sdC at *
  by_cases hb : sdB hi F r d = true
  · rw [if_pos hb] at hl ⊢
    unfold sdB at hb
    rw [Bool.and_eq_true, decide_eq_true_eq] at hb
    obtain ⟨h1, h2⟩ := hb
    simp [show 2 * r + 1 + 1 < hi by omega, h2, hl, h1]
  · rw [if_neg hb] at hl ⊢
    unfold sdB at hb
    by_cases h1 : 2 * r + 2 < hi
    · simp only [h1, decide_true, Bool.true_and, Bool.not_eq_true] at hb
      simp [show 2 * r + 1 + 1 < hi by omega, hb, hl]
    · simp [show ¬ 2 * r + 1 + 1 < hi by omega, hl]
theorem sd_stop {hi F r : Nat} (d : Array Int) (h : 2 * r + 1 < hi) (hl : ltInt d[F + r]! d[F + sdC hi F r d]! = false) : siftDown ltInt hi F r d = d := by
  rw [siftDown, dif_neg (by omega)]
  unfold sdC at *
  by_cases hb : sdB hi F r d = true
  · rw [if_pos hb] at hl
    unfold sdB at hb
    rw [Bool.and_eq_true, decide_eq_true_eq] at hb
    obtain ⟨h1, h2⟩ := hb
    simp [show 2 * r + 1 + 1 < hi by omega, h2, hl]
  · rw [if_neg hb] at hl
    unfold sdB at hb
    by_cases h1 : 2 * r + 2 < hi
    · simp only [h1, decide_true, Bool.true_and, Bool.not_eq_true] at hb
      simp [show 2 * r + 1 + 1 < hi by omega, hb, hl]
    · simp [show ¬ 2 * r + 1 + 1 < hi by omega, hl]

set_option maxHeartbeats 2000000 in
set_option maxRecDepth 100000 in
theorem sift_calls (g cap lo hi F : Nat) (d : Array Int) (w : World) (hA : Arr w g d) (hlo : lo ≤ hi) (hb : F + hi ≤ d.size) (hsz : d.size ≤ 1000000) :
    Calls Try.prog 87 #[.slice (some ⟨g, 0, none⟩) d.size cap, .int .i64 (lo : Int), .int .i64 (hi : Int), .int .i64 (F : Int)] w fun e w' => e = .returned (.tuple #[]) ∧ Arr w' g (siftDown ltInt hi F lo d) ∧ OnlyAt g w w' := by
  obtain ⟨n, hn⟩ : ∃ n, d.size = n := ⟨_, rfl⟩
  rw [hn] at hb hsz ⊢
  have HN := Lib.hid hn
  have HA := Lib.hid hA
  clear hn hA
  go_enter Try.func87, Try.ntmps87
  go_wp2_with fail
  go_loopw [8] (fun vr wr => ∃ (r : Nat) (dk : Array Int), vr = .int .i64 (r : Int) ∧ r ≤ hi ∧ Hid (dk.size = n) ∧ Hid (Arr wr g dk) ∧ Hid (siftDown ltInt hi F r dk = siftDown ltInt hi F lo d) ∧ OnlyAt g w wr) (fun vr _ => hi - (RowKit.intOf vr).toNat)
  case atStart => exact ⟨lo, d, rfl, hlo, HN, HA, Lib.hid rfl, OnlyAt.refl _ _⟩
  case round =>
    obtain ⟨r, dk, rfl, hr, HS, HR, HI, hw⟩ := hrel
    have hr0 : (0 : Int) ≤ (r : Int) := by omega
    have hF0 : (0 : Int) ≤ (F : Int) := by omega
    have hw1 : IntKind.i64.wrap (2 * (r : Int)) = 2 * (r : Int) := by rw [IntKind.wrap_i64]; omega
    have hw2 : IntKind.i64.wrap (2 * (r : Int) + 1) = 2 * (r : Int) + 1 := by rw [IntKind.wrap_i64]; omega
    by_cases hc : 2 * r + 1 < hi
    · have hc1 : ¬ (hi : Int) ≤ 2 * (r : Int) + 1 := by omega
      have hw3 : IntKind.i64.wrap (2 * (r : Int) + 1 + 1) = 2 * (r : Int) + 1 + 1 := by rw [IntKind.wrap_i64]; omega
      have hw4 : IntKind.i64.wrap ((F : Int) + (2 * (r : Int) + 1)) = (F : Int) + (2 * (r : Int) + 1) := by rw [IntKind.wrap_i64]; omega
      have hw5 : IntKind.i64.wrap ((F : Int) + (2 * (r : Int) + 1) + 1) = (F : Int) + (2 * (r : Int) + 1) + 1 := by rw [IntKind.wrap_i64]; omega
      have hw6 : IntKind.i64.wrap ((F : Int) + (r : Int)) = (F : Int) + (r : Int) := by rw [IntKind.wrap_i64]; omega
      go_upto_region 3 with fail
      obtain ⟨B, hB⟩ : ∃ B, sdB hi F r dk = B := ⟨_, rfl⟩
      go_cut [36] from 17 to 36 (fun v wx => v = .bool B ∧ Hid (Arr wx g dk) ∧ OnlyAt g w wx)
      case first =>
        have g1 : (0 : Int) ≤ (F : Int) + (2 * (r : Int) + 1) := by omega
        have g2 : (F : Int) + (2 * (r : Int) + 1) < (n : Int) := by omega
        have g3 : ((F : Int) + (2 * (r : Int) + 1)).toNat = F + (2 * r + 1) := by omega
        obtain ⟨c1, f1⟩ := HR.out (F + (2 * r + 1)) (by rw [HS.out]; omega)
        by_cases hc2 : 2 * r + 2 < hi
        · have hc3 : 2 * (r : Int) + 1 + 1 < (hi : Int) := by omega
          have g4 : (0 : Int) ≤ (F : Int) + (2 * (r : Int) + 1) + 1 := by omega
          have g5 : (F : Int) + (2 * (r : Int) + 1) + 1 < (n : Int) := by omega
          have g6 : ((F : Int) + (2 * (r : Int) + 1) + 1).toNat = F + (2 * r + 1) + 1 := by omega
          obtain ⟨c2, f2⟩ := HR.out (F + (2 * r + 1) + 1) (by rw [HS.out]; omega)
          unfold sdB at hB
          simp only [hc2, decide_true, Bool.true_and] at hB
          obtain ⟨X, hX⟩ : ∃ X, dk[F + (2 * r + 1)]! = X := ⟨_, rfl⟩
          obtain ⟨Y, hY⟩ : ∃ Y, dk[F + (2 * r + 1) + 1]! = Y := ⟨_, rfl⟩
          rw [hX] at c1 hB
          rw [hY] at c2 hB
          clear hX hY
          go_quiet (first | (go_at_call 78; refine Calls.quiet_of_same (less_calls _ _ _)))
          go_wp2_with fail
          go_meet
          case rel => exact ⟨rfl, Lib.hid (HR.out.drewN _), hw.drewN _⟩
        · have hc3 : ¬ 2 * (r : Int) + 1 + 1 < (hi : Int) := by omega
          unfold sdB at hB
          simp only [hc2, decide_false, Bool.false_and] at hB
          subst hB
          go_quiet (first | (go_at_call 78; refine Calls.quiet_of_same (less_calls _ _ _)))
          go_wp2_with fail
          go_meet
          case rel => exact ⟨rfl, Lib.hid (HR.out.drewN _), hw.drewN _⟩
      case rest =>
        obtain ⟨rfl, HR1, hw1⟩ := hcut
        clear HR hw
        have hsC : sdC hi F r dk = if B then 2 * r + 2 else 2 * r + 1 := by unfold sdC; rw [hB]
        obtain ⟨hc4, hc5⟩ := sdC_lt (F := F) dk hc
        have HGo := Lib.hid (sd_go (F := F) dk hc)
        have HSp := Lib.hid (sd_stop (F := F) dk hc)
        obtain ⟨c, hcc⟩ : ∃ c, sdC hi F r dk = c := ⟨_, rfl⟩
        rw [hcc] at hsC hc4 hc5 HGo HSp
        have HB := Lib.hid hB
        clear hB hcc
        go_upto_if 36 with fail
        go_cut [9] (fun v wx => v = .int .i64 (c : Int) ∧ Hid (Arr wx g dk) ∧ OnlyAt g w wx)
        case first =>
          cases B
          · have hsc : c = 2 * r + 1 := hsC
            clear hsC
            go_wp2_with fail
            go_meet
            case rel => exact ⟨by rw [hsc]; congr 1, HR1, hw1⟩
          · have hsc : c = 2 * r + 2 := hsC
            clear hsC
            go_upto_region 4 with fail
            go_wp2_with fail
            go_meet
            case rel => exact ⟨by rw [hsc]; congr 1, HR1, hw1⟩
        case rest =>
          obtain ⟨rfl, HR, hw⟩ := hcut
          clear hsC HR1 hw1
          have g1 : (0 : Int) ≤ (F : Int) + (r : Int) := by omega
          have g2 : (F : Int) + (r : Int) < (n : Int) := by omega
          have g3 : ((F : Int) + (r : Int)).toNat = F + r := by omega
          have g4 : (0 : Int) ≤ (F : Int) + (c : Int) := by omega
          have g5 : (F : Int) + (c : Int) < (n : Int) := by omega
          have g6 : ((F : Int) + (c : Int)).toNat = F + c := by omega
          have hw7 : IntKind.i64.wrap ((F : Int) + (c : Int)) = (F : Int) + (c : Int) := by rw [IntKind.wrap_i64]; omega
          obtain ⟨c1, f1⟩ := HR.out (F + r) (by rw [HS.out]; omega)
          obtain ⟨c2, f2⟩ := HR.out (F + c) (by rw [HS.out]; omega)
          have HSw := Lib.hid (fun q => (HR.out.drewN q).swap (F + r) (F + c) (by rw [HS.out]; omega) (by rw [HS.out]; omega))
          obtain ⟨X, hX⟩ : ∃ X, dk[F + r]! = X := ⟨_, rfl⟩
          obtain ⟨Y, hY⟩ : ∃ Y, dk[F + c]! = Y := ⟨_, rfl⟩
          rw [hX] at c1 HSw HGo HSp
          rw [hY] at c2 HSw HGo HSp
          clear hX hY
          cases hl : ltInt X Y
          · go_upto_region 5 with fail
            go_quiet (first | (go_at_call 78; refine Calls.quiet_of_same (less_calls _ _ _)))
            go_wp2_with fail
            exact bodyPost_ret (v := .tuple #[]) (results_none rfl _ _ _) rfl ⟨rfl, by rw [← HI.out, HSp.out hl]; exact HR.out, hw.drewN _⟩
          · go_upto_region 5 with fail
            go_quiet (first | (go_at_call 78; refine Calls.quiet_of_same (less_calls _ _ _)))
            go_upto_region 6 with fail
            go_region
            all_goals go_wp2_with fail
            go_roundw
            case rel => exact ⟨c, _, rfl, by omega, Lib.hid (by rw [swp_size]; exact HS.out), Lib.hid (HSw.out _), Lib.hid (by rw [← HI.out, HGo.out hl]), ((hw.drewN _).set _ _).set _ _⟩
            case measure => simp [RowKit.intOf]; omega
    · have hc1 : (hi : Int) ≤ 2 * (r : Int) + 1 := by omega
      go_wp2_with fail
      go_end0
      exact ⟨rfl, by rw [← HI.out, sd_end _ (by omega)]; exact HR.out, hw⟩
end Go.Proofs.Ytchjjbklkmfelaa

/- The library's sort at uint8: by a heap. -/
namespace Go.Proofs.Ytchjjbklkmfelaa
open Go.RowKit Go.Lib Go.Deep
open Go.Sort (swp ltInt SWO siftDown heapSort reverseRange reverseLoop heapBuild heapPop)
set_option linter.unusedVariables false
set_option linter.unusedSimpArgs false

theorem sift_size_aux (hi F : Nat) : ∀ (m r : Nat) (d : Array Int), hi - r ≤ m → (siftDown ltInt hi F r d).size = d.size := by
  intro m
  induction m with
  | zero => intro r d h; rw [sd_end d (by omega)]
  | succ m ih =>
    intro r d h
    by_cases hc : 2 * r + 1 < hi
    · obtain ⟨h1, h2⟩ := sdC_lt (F := F) d hc
      cases hl : ltInt d[F + r]! d[F + sdC hi F r d]! with
      | true => rw [sd_go d hc hl, ih _ _ (by omega), swp_size]
      | false => rw [sd_stop d hc hl]
    · rw [sd_end d (by omega)]
theorem sift_size (hi F r : Nat) (d : Array Int) : (siftDown ltInt hi F r d).size = d.size := sift_size_aux hi F (hi - r) r d (Nat.le_refl _)

set_option maxHeartbeats 1000000 in
set_option maxRecDepth 100000 in
theorem heap_calls (g cap a b : Nat) (d : Array Int) (w : World) (hA : Arr w g d) (hab : a < b) (hb : b ≤ d.size) (hsz : d.size ≤ 1000000) :
    Calls Try.prog 73 #[.slice (some ⟨g, 0, none⟩) d.size cap, .int .i64 (a : Int), .int .i64 (b : Int)] w fun e w' => e = .returned (.tuple #[]) ∧ Arr w' g (heapSort ltInt d a b) ∧ OnlyAt g w w' := by
  obtain ⟨n, hn⟩ : ∃ n, d.size = n := ⟨_, rfl⟩
  rw [hn] at hb hsz ⊢
  have HN := Lib.hid hn
  have HA := Lib.hid hA
  clear hn hA
  obtain ⟨h, rfl⟩ : ∃ h, b = a + (h + 1) := ⟨b - a - 1, by omega⟩
  have HSift : Hid (∀ (lo k : Nat) (dd : Array Int) (X : World), Arr X g dd → dd.size = n → lo ≤ k → a + k ≤ n → Calls Try.prog 87 #[.slice (some ⟨g, 0, none⟩) n cap, .int .i64 (lo : Int), .int .i64 (k : Int), .int .i64 (a : Int)] X fun e w' => e = .returned (.tuple #[]) ∧ Arr w' g (siftDown ltInt k a lo dd) ∧ OnlyAt g X w') := Lib.hid (fun lo k dd X h1 h2 h3 h4 => by
    have hs := sift_calls g cap lo k a dd X h1 h3 (by rw [h2]; exact h4) (by rw [h2]; exact hsz)
    rw [h2] at hs
    exact hs)
  have hbI : ((a + (h + 1) : Nat) : Int) - (a : Int) = (h : Int) + 1 := by omega
  have hw0 : IntKind.i64.wrap ((h : Int) + 1) = (h : Int) + 1 := by rw [IntKind.wrap_i64]; omega
  have hw1 : IntKind.i64.wrap (h : Int) = (h : Int) := by rw [IntKind.wrap_i64]; omega
  have hq : (h : Int).tdiv 2 = ((h / 2 : Nat) : Int) := by rw [Int.tdiv_eq_ediv_of_nonneg (by omega)]; omega
  have hw2 : IntKind.i64.wrap ((h / 2 : Nat) : Int) = ((h / 2 : Nat) : Int) := by rw [IntKind.wrap_i64]; omega
  obtain ⟨B, hB⟩ : ∃ B, ((a + (h + 1) : Nat) : Int) = B := ⟨_, rfl⟩
  rw [hB] at hbI ⊢
  have HBe := Lib.hid hB
  obtain ⟨k0, hk0⟩ : ∃ k0, h / 2 = k0 := ⟨_, rfl⟩
  rw [hk0] at hq hw2
  have hkh : k0 ≤ h := by omega
  have HK := Lib.hid hk0
  clear hB hk0
  go_enter Try.func73, Try.ntmps73
  go_wp2_with fail
  go_loopw [9] (fun vi wr => ∃ (k : Nat) (dk : Array Int), vi = .int .i64 ((k : Int) - 1) ∧ k ≤ k0 + 1 ∧ Hid (dk.size = n) ∧ Hid (Arr wr g dk) ∧ Hid (heapBuild ltInt (h + 1) a k dk = heapBuild ltInt (h + 1) a (h / 2 + 1) d) ∧ OnlyAt g w wr) (fun vi _ => ((RowKit.intOf vi) + 1).toNat)
  case atStart => exact ⟨k0 + 1, d, by congr 1; omega, Nat.le_refl _, HN, HA, Lib.hid (by rw [HK.out]), OnlyAt.refl _ _⟩
  case round =>
    obtain ⟨k, dk, rfl, hk, HS, HR, HI, hw⟩ := hrel
    cases k with
    | zero =>
      clear HA
      rw [show ((0 : Nat) : Int) - 1 = -1 by rfl]
      go_wp2_with fail
      go_loopw [10] (fun vi wl => ∃ (k : Nat) (dl : Array Int), vi = .int .i64 ((k : Int) - 1) ∧ k ≤ h + 1 ∧ Hid (dl.size = n) ∧ Hid (Arr wl g dl) ∧ Hid (heapPop ltInt a k dl = heapPop ltInt a (h + 1) dk) ∧ OnlyAt g w wl) (fun vi _ => ((RowKit.intOf vi) + 1).toNat)
      case atStart => exact ⟨h + 1, dk, by congr 1; omega, Nat.le_refl _, HS, HR, Lib.hid rfl, hw⟩
      case round =>
        obtain ⟨k, dl, rfl, hk, HSl, HRl, HIl, hwl⟩ := hrel
        cases k with
        | zero =>
          go_wp2_with fail
          go_end0
          refine ⟨rfl, ?_, hwl⟩
          have e : heapSort ltInt d a (a + (h + 1)) = dl := by
            unfold heapSort
            rw [Nat.add_sub_cancel_left, Nat.add_sub_cancel, ← HI.out]
            show heapPop ltInt a (h + 1) dk = dl
            rw [← HIl.out]
            rfl
          rw [e]
          exact HRl.out
        | succ k =>
          rw [show ((k + 1 : Nat) : Int) - 1 = (k : Int) by omega]
          have hk1 : (0 : Int) ≤ (k : Int) := by omega
          have ha1 : (0 : Int) ≤ (a : Int) := by omega
          have ha2 : (a : Int) < (n : Int) := by omega
          have ha3 : (a : Int) + (k : Int) < (n : Int) := by omega
          have ha4 : (0 : Int) ≤ (a : Int) + (k : Int) := by omega
          have ha5 : ((a : Int) + (k : Int)).toNat = a + k := by omega
          have hw3 : IntKind.i64.wrap ((a : Int) + (k : Int)) = (a : Int) + (k : Int) := by rw [IntKind.wrap_i64]; omega
          have hw4 : IntKind.i64.wrap ((k : Int) - 1) = (k : Int) - 1 := by rw [IntKind.wrap_i64]; omega
          obtain ⟨c1, f1⟩ := HRl.out a (by rw [HSl.out]; omega)
          obtain ⟨c2, f2⟩ := HRl.out (a + k) (by rw [HSl.out]; omega)
          have HSw := Lib.hid (fun m => (HRl.out.drewN m).swap a (a + k) (by rw [HSl.out]; omega) (by rw [HSl.out]; omega))
          obtain ⟨c3, f3⟩ := (HRl.out.set a dl[a + k]! (by rw [HSl.out]; omega)) (a + k) (by rw [Array.size_setIfInBounds, HSl.out]; omega)
          obtain ⟨X, hX⟩ : ∃ X, dl[a]! = X := ⟨_, rfl⟩
          obtain ⟨Y, hY⟩ : ∃ Y, dl[a + k]! = Y := ⟨_, rfl⟩
          rw [hY] at c3 f3
          obtain ⟨Z, hZ⟩ : ∃ Z, (dl.setIfInBounds a Y)[a + k]! = Z := ⟨_, rfl⟩
          rw [hZ] at c3
          clear hZ
          rw [hX] at c1 HSw
          rw [hY] at c2 HSw
          clear hX hY
          go_upto_region 10 with fail
          go_region
          all_goals go_wp2_with fail
          refine (HSift.out 0 k _ _ (HSw.out 1) (by rw [swp_size, HSl.out]) (Nat.zero_le _) (by omega)).mono ?_
          rintro e w1 ⟨rfl, hA1, ho1⟩
          have hw5 := (((hwl.drewN 1).set a (.int .u8 Y)).set (a + k) (.int .u8 X)).trans ho1
          have HA2 := Lib.hid hA1
          clear hA1 ho1 c1 f1 c2 f2 c3 f3 HSw
          go_wp2_with fail
          go_roundw
          case rel => exact ⟨k, _, rfl, by omega, Lib.hid (by rw [sift_size, swp_size]; exact HSl.out), HA2, Lib.hid (by rw [← HIl.out]; rfl), hw5⟩
          case measure => simp [RowKit.intOf]
    | succ k =>
      rw [show ((k + 1 : Nat) : Int) - 1 = (k : Int) by omega]
      have hk1 : (0 : Int) ≤ (k : Int) := by omega
      have hw4 : IntKind.i64.wrap ((k : Int) - 1) = (k : Int) - 1 := by rw [IntKind.wrap_i64]; omega
      go_wp2_with fail
      refine (HSift.out k (h + 1) dk _ HR.out HS.out (by omega) (by omega)).mono ?_
      rintro e w1 ⟨rfl, hA1, ho1⟩
      have hw5 := hw.trans ho1
      have HA2 := Lib.hid hA1
      clear hA1 ho1
      go_wp2_with fail
      go_roundw
      case rel => exact ⟨k, _, rfl, by omega, Lib.hid (by rw [sift_size]; exact HS.out), HA2, Lib.hid (by rw [← HI.out]; rfl), hw5⟩
      case measure => simp [RowKit.intOf]
end Go.Proofs.Ytchjjbklkmfelaa

/- The library's sort at uint8: the pivot of fewer than 50. -/
namespace Go.Proofs.Ytchjjbklkmfelaa
open Go.RowKit Go.Lib Go.Deep
open Go.Sort (swp ltInt SWO order2 median choosePivot Hint)
set_option linter.unusedVariables false
set_option linter.unusedSimpArgs false

def SBox (w : World) (sb : Nat) (s : Nat) : Prop := w.cell? ⟨sb, 0, none⟩ = some (.int .i64 (s : Int)) ∧ w.frozen? ⟨sb, 0, none⟩ = false
theorem Arr.only {w w' : World} {g sb : Nat} {d : Array Int} (h : Arr w g d) (ho : OnlyAt sb w w') (hne : g ≠ sb) (hg : g < w.heap.size) : Arr w' g d := fun j hj => by
  have hb := ho.block g hg (fun e => hne (by injection e))
  exact ⟨(World.cell?_of_block (w := w) (a := ⟨g, j, none⟩) hb).trans (h j hj).1, (World.frozen?_of_block (w := w) (a := ⟨g, j, none⟩) hb).trans (h j hj).2⟩
theorem Arr.below {w w' : World} {g B : Nat} {d : Array Int} (h : Arr w g d) (hb : Go.RowKit.Below B w w') (hg : g < B) : Arr w' g d := fun j hj =>
  ⟨(hb.cell (p := ⟨g, j, none⟩) hg).trans (h j hj).1, (hb.frozen (p := ⟨g, j, none⟩) hg).trans (h j hj).2⟩
theorem order2_bd {d : Array Int} {a b s : Nat} {P : Nat → Prop} (ha : P a) (hb : P b) : P (order2 ltInt d a b s).1 ∧ P (order2 ltInt d a b s).2.1 ∧ (order2 ltInt d a b s).2.2 ≤ s + 1 := by
  unfold order2
  split
  · exact ⟨hb, ha, Nat.le_refl _⟩
  · exact ⟨ha, hb, Nat.le_succ _⟩

set_option maxHeartbeats 1000000 in
set_option maxRecDepth 100000 in
theorem order2_calls (g cap a b sb s : Nat) (d : Array Int) (w : World) (hA : Arr w g d) (ha : a < d.size) (hb : b < d.size) (hs : SBox w sb s) (hs2 : s ≤ 1000) :
    Calls Try.prog 95 #[.slice (some ⟨g, 0, none⟩) d.size cap, .int .i64 (a : Int), .int .i64 (b : Int), .pointer (some ⟨sb, 0, none⟩)] w fun e w' => e = .returned (.tuple #[.int .i64 ((order2 ltInt d a b s).1 : Int), .int .i64 ((order2 ltInt d a b s).2.1 : Int)]) ∧ SBox w' sb (order2 ltInt d a b s).2.2 ∧ OnlyAt sb w w' := by
  obtain ⟨n, hn⟩ : ∃ n, d.size = n := ⟨_, rfl⟩
  obtain ⟨c1, f1⟩ := hA a ha
  obtain ⟨c2, f2⟩ := hA b hb
  obtain ⟨c3, f3⟩ := hs
  rw [hn] at ha hb ⊢
  have hw1 : IntKind.i64.wrap ((s : Int) + 1) = (s : Int) + 1 := by rw [IntKind.wrap_i64]; omega
  have ha1 : (a : Int) < (n : Int) := by omega
  have hb1 : (b : Int) < (n : Int) := by omega
  have ha0 : (0 : Int) ≤ (a : Int) := by omega
  have hb0 : (0 : Int) ≤ (b : Int) := by omega
  have hO : ∀ B, ltInt d[b]! d[a]! = B → order2 ltInt d a b s = if B then (b, a, s + 1) else (a, b, s) := fun B h => by unfold order2; rw [h]
  obtain ⟨X, hX⟩ : ∃ X, d[a]! = X := ⟨_, rfl⟩
  obtain ⟨Y, hY⟩ : ∃ Y, d[b]! = Y := ⟨_, rfl⟩
  rw [hX] at c1 hO
  rw [hY] at c2 hO
  have HO := Lib.hid hO
  clear hX hY hn hA hO
  obtain ⟨r, hr⟩ : ∃ r, order2 ltInt d a b s = r := ⟨_, rfl⟩
  rw [hr] at HO ⊢
  clear hr
  go_enter Try.func95, Try.ntmps95
  go_upto_region 1 with fail
  cases hl : ltInt Y X
  · have hr := HO.out false hl
    simp only [Bool.false_eq_true, if_false] at hr
    subst hr
    have HL := Lib.hid hl
    clear hl
    go_quiet (first | (go_at_call 78; refine Calls.quiet_of_same (less_is HL.out _)))
    go_wp2_with fail
    go_ret2
    exact ⟨rfl, ⟨c3, f3⟩, (OnlyAt.refl _ _).drewN _⟩
  · have hr := HO.out true hl
    simp only [if_true] at hr
    subst hr
    have HL := Lib.hid hl
    clear hl
    go_quiet (first | (go_at_call 78; refine Calls.quiet_of_same (less_is HL.out _)))
    go_wp2_with fail
    go_ret2
    exact ⟨rfl, ⟨by rw [cell_set_same (u := .int .i64 (s : Int)) (show (w.drewN _).cell? ⟨sb, 0, none⟩ = _ from c3)]; congr 1, by rw [World.frozen?_setCell]; exact f3⟩, ((OnlyAt.refl _ _).drewN _).set _ _⟩

set_option maxHeartbeats 1000000 in
set_option maxRecDepth 100000 in
theorem median_calls (g cap a b c sb s : Nat) (d : Array Int) (w : World) (hA : Arr w g d) (hg : g < w.heap.size) (hne : g ≠ sb) (ha : a < d.size) (hb : b < d.size) (hc : c < d.size) (hs : SBox w sb s) (hs2 : s ≤ 100) :
    Calls Try.prog 91 #[.slice (some ⟨g, 0, none⟩) d.size cap, .int .i64 (a : Int), .int .i64 (b : Int), .int .i64 (c : Int), .pointer (some ⟨sb, 0, none⟩)] w fun e w' => e = .returned (.int .i64 ((median ltInt d a b c s).1 : Int)) ∧ SBox w' sb (median ltInt d a b c s).2 ∧ OnlyAt sb w w' := by
  have o1 := order2_calls g cap a b sb s d w hA ha hb hs (by omega)
  obtain ⟨p1, p2, p3⟩ := order2_bd (d := d) (s := s) (P := fun x => x < d.size) ha hb
  unfold median
  generalize order2 ltInt d a b s = r1 at *
  obtain ⟨p4, p5, p6⟩ := order2_bd (d := d) (s := r1.2.2) (P := fun x => x < d.size) p2 hc
  have o2 := fun X h1 h2 => order2_calls g cap r1.2.1 c sb r1.2.2 d X h1 p2 hc h2 (by omega)
  simp only
  generalize order2 ltInt d r1.2.1 c r1.2.2 = r2 at *
  obtain ⟨p7, p8, p9⟩ := order2_bd (d := d) (s := r2.2.2) (P := fun x => x < d.size) p1 p4
  have o3 := fun X h1 h2 => order2_calls g cap r1.1 r2.1 sb r2.2.2 d X h1 p1 p4 h2 (by omega)
  generalize order2 ltInt d r1.1 r2.1 r2.2.2 = r3 at *
  obtain ⟨a1, b1, s1⟩ := r1
  obtain ⟨a2, b2, s2⟩ := r2
  obtain ⟨a3, b3, s3⟩ := r3
  simp only at o1 o2 o3 ⊢
  have O1 := Lib.hid o1
  have O2 := Lib.hid o2
  have O3 := Lib.hid o3
  have HA := Lib.hid hA
  clear o1 o2 o3 hA hs
  go_enter Try.func91, Try.ntmps91
  go_wp2_with fail
  refine O1.out.mono ?_
  rintro e w1 ⟨rfl, hs1, ho1⟩
  have hA1 := HA.out.only ho1 hne hg
  have H1 := Lib.hid (And.intro hs1 (And.intro hA1 ho1))
  clear hs1 hA1 ho1
  go_wp2_with fail
  refine (O2.out w1 H1.out.2.1 H1.out.1).mono ?_
  rintro e w2 ⟨rfl, hs1, ho1⟩
  have hA1 := H1.out.2.1.only ho1 hne (Nat.lt_of_lt_of_le hg H1.out.2.2.size)
  have H2 := Lib.hid (And.intro hs1 (And.intro hA1 (H1.out.2.2.trans ho1)))
  clear hs1 hA1 ho1
  go_wp2_with fail
  refine (O3.out w2 H2.out.2.1 H2.out.1).mono ?_
  rintro e w3 ⟨rfl, hs1, ho1⟩
  have H3 := Lib.hid (And.intro hs1 (H2.out.2.2.trans ho1))
  clear hs1 ho1
  go_wp2_with fail
  go_ret
  exact ⟨rfl, H3.out.1, H3.out.2⟩
theorem median_bd {d : Array Int} {a b c s : Nat} {P : Nat → Prop} (ha : P a) (hb : P b) (hc : P c) : P (median ltInt d a b c s).1 ∧ (median ltInt d a b c s).2 ≤ s + 3 := by
  unfold median
  obtain ⟨p1, p2, p3⟩ := order2_bd (d := d) (s := s) ha hb
  generalize order2 ltInt d a b s = r1 at *
  obtain ⟨p4, p5, p6⟩ := order2_bd (d := d) (s := r1.2.2) p2 hc
  simp only
  generalize order2 ltInt d r1.2.1 c r1.2.2 = r2 at *
  obtain ⟨p7, p8, p9⟩ := order2_bd (d := d) (s := r2.2.2) p1 p4
  generalize order2 ltInt d r1.1 r2.1 r2.2.2 = r3 at *
  exact ⟨p8, by omega⟩
def hintI : Hint → Int | .unknown => 0 | .increasing => 1 | .decreasing => 2

theorem below_of_only {g B : Nat} {w w' : World} (h : OnlyAt g w w') (hB : B ≤ g) (hs : B ≤ w.heap.size) : Go.RowKit.Below B w w' :=
  ⟨h.os, h.tape, h.output, h.size, fun k hk => h.block k (by omega) (fun e => by injection e with e; omega)⟩
/-- The pivot when there are fewer than 50. -/
def piv (d : Array Int) (a L : Nat) : Nat × Nat := if 8 ≤ L then median ltInt d (a + L / 4) (a + L / 4 * 2) (a + L / 4 * 3) 0 else (a + L / 4 * 2, 0)
theorem choose_piv (d : Array Int) (a L : Nat) (hL : L < 50) : choosePivot ltInt d a (a + L) = ((piv d a L).1, if (piv d a L).2 = 0 then .increasing else if (piv d a L).2 = 12 then .decreasing else .unknown) := by
  unfold choosePivot piv
  simp only [Nat.add_sub_cancel_left, Nat.mul_one]
  by_cases h : 8 ≤ L
  · rw [if_pos h, if_pos (show L ≥ 8 from h), if_neg (by omega)]
  · rw [if_neg h, if_neg (show ¬ L ≥ 8 from h)]
theorem piv_bd (d : Array Int) {a L : Nat} (hL0 : 0 < L) : a ≤ (piv d a L).1 ∧ (piv d a L).1 < a + L ∧ (piv d a L).2 ≤ 3 := by
  unfold piv
  by_cases h : 8 ≤ L
  · rw [if_pos h]
    have := median_bd (d := d) (a := a + L / 4) (b := a + L / 4 * 2) (c := a + L / 4 * 3) (s := 0) (P := fun x => a ≤ x ∧ x < a + L) ⟨by omega, by omega⟩ ⟨by omega, by omega⟩ ⟨by omega, by omega⟩
    exact ⟨this.1.1, this.1.2, by omega⟩
  · rw [if_neg h]
    exact ⟨by omega, by omega, by omega⟩

set_option maxHeartbeats 1000000 in
set_option maxRecDepth 100000 in
theorem choose_calls (g cap a L : Nat) (d : Array Int) (w : World) (hA : Arr w g d) (hg : g < w.heap.size) (hL0 : 0 < L) (hL : L < 50) (hb : a + L ≤ d.size) (hsz : d.size ≤ 1000000) :
    Calls Try.prog 75 #[.slice (some ⟨g, 0, none⟩) d.size cap, .int .i64 (a : Int), .int .i64 ((a + L : Nat) : Int)] w fun e w' => e = .returned (.tuple #[.int .i64 ((piv d a L).1 : Int), .int .i64 (if (piv d a L).2 = 0 then 1 else 0)]) ∧ Go.RowKit.Below w.heap.size w w' := by
  obtain ⟨n, hn⟩ : ∃ n, d.size = n := ⟨_, rfl⟩
  have HMed : Hid (8 ≤ L → ∀ X, Arr X g d → g < X.heap.size → g ≠ w.heap.size → SBox X w.heap.size 0 → Calls Try.prog 91 #[.slice (some ⟨g, 0, none⟩) n cap, .int .i64 ((a + L / 4 : Nat) : Int), .int .i64 ((a + L / 4 * 2 : Nat) : Int), .int .i64 ((a + L / 4 * 3 : Nat) : Int), .pointer (some ⟨w.heap.size, 0, none⟩)] X fun e w' => e = .returned (.int .i64 ((piv d a L).1 : Int)) ∧ SBox w' w.heap.size (piv d a L).2 ∧ OnlyAt w.heap.size X w') := Lib.hid (fun h8 X h1 h2 h3 h4 => by
    have := median_calls g cap (a + L / 4) (a + L / 4 * 2) (a + L / 4 * 3) w.heap.size 0 d X h1 h2 h3 (by omega) (by omega) (by omega) h4 (by omega)
    rw [hn] at this
    unfold piv
    rw [if_pos h8]
    exact this)
  have hpb := piv_bd d (a := a) hL0
  have hpl : ¬ 8 ≤ L → piv d a L = (a + L / 4 * 2, 0) := fun h => by unfold piv; rw [if_neg h]
  rw [hn] at hb hsz ⊢
  obtain ⟨p, hp⟩ : ∃ p, piv d a L = p := ⟨_, rfl⟩
  rw [hp] at HMed hpb hpl ⊢
  obtain ⟨pv, ps⟩ := p
  simp only at HMed hpb ⊢
  obtain ⟨-, -, hps⟩ := hpb
  have HA := Lib.hid hA
  have HPl := Lib.hid hpl
  obtain ⟨Q, hQ⟩ : ∃ Q, L / 4 = Q := ⟨_, rfl⟩
  rw [hQ] at HMed HPl
  have hbI : ((a + L : Nat) : Int) - (a : Int) = (L : Int) := by omega
  have hwL : IntKind.i64.wrap (L : Int) = (L : Int) := by rw [IntKind.wrap_i64]; omega
  have hq : (L : Int).tdiv 4 = (Q : Int) := by rw [Int.tdiv_eq_ediv_of_nonneg (by omega)]; omega
  have hwQ : IntKind.i64.wrap (Q : Int) = (Q : Int) := by rw [IntKind.wrap_i64]; omega
  have hwQ2 : IntKind.i64.wrap ((Q : Int) * 2) = (Q : Int) * 2 := by rw [IntKind.wrap_i64]; omega
  have hwQ3 : IntKind.i64.wrap ((Q : Int) * 3) = (Q : Int) * 3 := by rw [IntKind.wrap_i64]; omega
  have hwa1 : IntKind.i64.wrap ((a : Int) + (Q : Int)) = (a : Int) + (Q : Int) := by rw [IntKind.wrap_i64]; omega
  have hwa2 : IntKind.i64.wrap ((a : Int) + (Q : Int) * 2) = (a : Int) + (Q : Int) * 2 := by rw [IntKind.wrap_i64]; omega
  have hwa3 : IntKind.i64.wrap ((a : Int) + (Q : Int) * 3) = (a : Int) + (Q : Int) * 3 := by rw [IntKind.wrap_i64]; omega
  obtain ⟨B, hB⟩ : ∃ B, ((a + L : Nat) : Int) = B := ⟨_, rfl⟩
  rw [hB] at hbI ⊢
  have hL50 : ¬ (50 : Int) ≤ (L : Int) := by omega
  have hb1 := (Go.RowKit.Below.refl w.heap.size w).alloc (Nat.le_refl _) (.cells #[.int .i64 0] 3)
  have HB1 := Lib.hid hb1
  have hsb : SBox (w.alloc (.cells #[.int .i64 0] 3)) w.heap.size 0 := ⟨by simp, by simp⟩
  have HSB := Lib.hid hsb
  have HA1 := Lib.hid (hA.below hb1 hg)
  have HGl : Hid (g < (w.alloc (.cells #[.int .i64 0] 3)).heap.size) := Lib.hid (by simp; omega)
  have HNe : Hid (g ≠ w.heap.size) := Lib.hid (by omega)
  have HWs : Hid (w.heap.size ≤ (w.alloc (.cells #[.int .i64 0] 3)).heap.size) := Lib.hid (by simp)
  clear hA hn hp hQ hB hpl hb1 hsb
  by_cases h8 : 8 ≤ L
  · have h8I : (8 : Int) ≤ (L : Int) := by omega
    have HM := Lib.hid (HMed.out h8)
    clear HMed HPl
    go_enter Try.func75, Try.ntmps75
    go_upto_region 11 with fail
    obtain ⟨W, hW⟩ : ∃ W, w.alloc (.cells #[.int .i64 0] 3) = W := ⟨_, rfl⟩
    rw [hW] at HSB HA1 HGl HB1 HWs ⊢
    clear hW
    go_wp2_with fail
    have hm := HM.out W HA1.out HGl.out HNe.out HSB.out
    rw [show ((a + Q : Nat) : Int) = (a : Int) + (Q : Int) by omega, show ((a + Q * 2 : Nat) : Int) = (a : Int) + (Q : Int) * 2 by omega, show ((a + Q * 3 : Nat) : Int) = (a : Int) + (Q : Int) * 3 by omega] at hm
    refine hm.mono ?_
    clear hm
    rintro e w1 ⟨rfl, ⟨s1, s2⟩, ho⟩
    have HBl := Lib.hid (HB1.out.trans (below_of_only ho (Nat.le_refl _) HWs.out))
    clear ho
    by_cases hz : ps = 0
    · subst hz
      go_wp2_with fail
      go_ret2
      exact ⟨rfl, HBl.out⟩
    · have hz1 : ¬ (ps : Int) = 0 := by omega
      have hz2 : ¬ (ps : Int) = 12 := by omega
      have hz3 : ((ps : Int) == 0) = false := by simp; omega
      have hz4 : ((ps : Int) == 12) = false := by simp; omega
      go_wp2_with fail
      go_ret2
      exact ⟨by first | rfl | (rw [if_neg hz]; rfl), HBl.out⟩
  · have h8I : ¬ (8 : Int) ≤ (L : Int) := by omega
    have hp := HPl.out h8
    injection hp with hp1 hp2
    subst hp1 hp2
    clear HMed HPl
    go_enter Try.func75, Try.ntmps75
    obtain ⟨s1, s2⟩ := HSB.out
    go_wp2_with fail
    go_ret2
    exact ⟨by congr 3, HB1.out⟩
end Go.Proofs.Ytchjjbklkmfelaa

/- The library's sort at uint8: is it sorted already? (of fewer than 50) -/
namespace Go.Proofs.Ytchjjbklkmfelaa
open Go.RowKit Go.Lib Go.Deep
open Go.Sort (swp ltInt SWO scanSorted partialIns partialInsertionSort)
set_option linter.unusedVariables false
set_option linter.unusedSimpArgs false

theorem ss_go {d : Array Int} {b i : Nat} (h : i < b) (hl : ltInt d[i]! d[i - 1]! = false) : scanSorted ltInt d b i = scanSorted ltInt d b (i + 1) := by
  rw [scanSorted, if_pos (by simp [h, hl])]
theorem ss_stop {d : Array Int} {b i : Nat} (h : ¬ i < b ∨ ltInt d[i]! d[i - 1]! = true) : scanSorted ltInt d b i = i := by
  rw [scanSorted, if_neg]
  rcases h with h | h
  · simp [h]
  · simp [h]
theorem pis_small {d : Array Int} {a b : Nat} (h : b - a < 50) : partialInsertionSort ltInt d a b = (d, decide (scanSorted ltInt d b (a + 1) = b)) := by
  unfold partialInsertionSort partialIns
  by_cases e : scanSorted ltInt d b (a + 1) = b
  · simp [e]
  · simp [e, h]

set_option maxHeartbeats 1000000 in
set_option maxRecDepth 100000 in
theorem partial_calls (g cap a b : Nat) (d : Array Int) (w : World) (hA : Arr w g d) (hab : a < b) (hb : b ≤ d.size) (hL : b - a < 50) (hsz : d.size ≤ 1000000) :
    Calls Try.prog 77 #[.slice (some ⟨g, 0, none⟩) d.size cap, .int .i64 (a : Int), .int .i64 (b : Int)] w fun e w' => e = .returned (.bool (decide (scanSorted ltInt d b (a + 1) = b))) ∧ ∃ m, w' = w.drewN m := by
  obtain ⟨n, hn⟩ : ∃ n, d.size = n := ⟨_, rfl⟩
  rw [hn] at hb hsz ⊢
  have HN := Lib.hid hn
  have HA := Lib.hid hA
  clear hn hA
  have hb0 : (b : Int) ≤ (n : Int) := by omega
  have hn6 : (n : Int) ≤ 1000000 := by omega
  have ha6 : (a : Int) ≤ 1000000 := by omega
  have hwab : IntKind.i64.wrap ((b : Int) - (a : Int)) = (b : Int) - (a : Int) := by rw [IntKind.wrap_i64]; omega
  have hab5 : (b : Int) - (a : Int) < 50 := by omega
  obtain ⟨z, hz⟩ : ∃ z, scanSorted ltInt d b (a + 1) = z := ⟨_, rfl⟩
  rw [hz]
  have HZ := Lib.hid hz
  clear hz
  go_enter Try.func77, Try.ntmps77
  go_wp2_with fail
  go_loopw [7, 8] (fun vi vj wr => vi = .int .i64 ((a : Int) + 1) ∧ vj = .int .i64 0 ∧ wr = w) (fun _ _ _ => 0)
  case atStart => exact ⟨by go_num, rfl, rfl⟩
  case round =>
    obtain ⟨rfl, rfl, rfl⟩ := hrel
    go_wp2_with fail
    go_loopw [7] (fun vi wl => ∃ (i m : Nat), vi = .int .i64 ((i : Int) + 1) ∧ a ≤ i ∧ i + 1 ≤ b ∧ Hid (scanSorted ltInt d b (i + 1) = z) ∧ Hid (Arr wl g d) ∧ Hid (wl = wr.drewN m)) (fun vi _ => b - (RowKit.intOf vi).toNat)
    case atStart => exact ⟨a, 0, rfl, Nat.le_refl _, by omega, HZ, HA, Lib.hid rfl⟩
    case round =>
      obtain ⟨i, m, rfl, hai, hib, HI, HR, HW⟩ := hrel
      have hi0 : (0 : Int) ≤ (i : Int) := by omega
      have hi1 : (0 : Int) ≤ (i : Int) + 1 := by omega
      have hwi : IntKind.i64.wrap (i : Int) = (i : Int) := by rw [IntKind.wrap_i64]; omega
      by_cases hlt : i + 1 < b
      · have h1 : (i : Int) + 1 < (b : Int) := by omega
        have h2 : (i : Int) + 1 < (n : Int) := by omega
        have h3 : (i : Int) < (n : Int) := by omega
        have h4 : ((i : Int) + 1).toNat = i + 1 := by omega
        have hwi2 : IntKind.i64.wrap ((i : Int) + 1 + 1) = (i : Int) + 1 + 1 := by rw [IntKind.wrap_i64]; omega
        obtain ⟨c1, f1⟩ := HR.out (i + 1) (by rw [HN.out]; omega)
        obtain ⟨c2, f2⟩ := HR.out i (by rw [HN.out]; omega)
        have HGo := Lib.hid (fun (h : ltInt d[i + 1]! d[i]! = false) => ss_go (d := d) hlt h)
        have HSp := Lib.hid (fun (h : ltInt d[i + 1]! d[i]! = true) => ss_stop (d := d) (b := b) (i := i + 1) (Or.inr h))
        obtain ⟨X, hX⟩ : ∃ X, d[i + 1]! = X := ⟨_, rfl⟩
        obtain ⟨Y, hY⟩ : ∃ Y, d[i]! = Y := ⟨_, rfl⟩
        rw [hX] at c1 HGo HSp
        rw [hY] at c2 HGo HSp
        clear hX hY
        go_upto_region 5 with fail
        cases hl : ltInt X Y
        · have HL := Lib.hid hl
          clear hl
          go_quiet (first | (go_at_call 78; refine Calls.quiet_of_same (less_is HL.out _)))
          go_wp2_with fail
          go_roundw
          case rel => exact ⟨i + 1, m + _, by go_num, by omega, by omega, Lib.hid (by rw [← HI.out, HGo.out HL.out]), Lib.hid (HR.out.drewN _), Lib.hid (by rw [HW.out, World.drewN_drewN])⟩
          case measure => simp [RowKit.intOf]; omega
        · have HL := Lib.hid hl
          clear hl
          have hzi : z = i + 1 := by rw [← HI.out, HSp.out HL.out]
          have hne : ((i : Int) + 1 == (b : Int)) = false := by simp; omega
          have hne2 : ¬ (i : Int) + 1 = (b : Int) := by omega
          have HD := Lib.hid (show decide (z = b) = false by simp; omega)
          go_quiet (first | (go_at_call 78; refine Calls.quiet_of_same (less_is HL.out _)))
          go_wp2_with fail
          go_ret
          exact ⟨by first | rfl | (rw [HD.out]; rfl), m + _, by rw [HW.out, World.drewN_drewN]⟩
      · have hib2 : i + 1 = b := by omega
        have h1 : ¬ (i : Int) + 1 < (b : Int) := by omega
        have hzi : z = b := by rw [← HI.out, ss_stop (Or.inl hlt), hib2]
        have heq : ((i : Int) + 1 == (b : Int)) = true := by simp; omega
        have heq2 : (i : Int) + 1 = (b : Int) := by omega
        have HD := Lib.hid (show decide (z = b) = true by simp [hzi])
        rw [heq2]
        have hnb : ¬ (b : Int) < (b : Int) := by omega
        clear h1 heq2 heq
        go_upto_region 5 with fail
        go_quiet (first | (go_at_call 78; refine Calls.quiet_of_same (less_calls _ _ _)))
        go_wp2_with fail
        go_ret
        exact ⟨by first | rfl | (rw [HD.out]; rfl), m + _, by rw [HW.out, World.drewN_drewN]⟩
end Go.Proofs.Ytchjjbklkmfelaa

/- The library's sort at uint8: the equals of a pivot. -/
namespace Go.Proofs.Ytchjjbklkmfelaa
open Go.RowKit Go.Lib Go.Deep
open Go.Sort (swp ltInt SWO scanUp scanDown partEqLoop partitionEqual partLoop partition)
set_option linter.unusedVariables false
set_option linter.unusedSimpArgs false

set_option maxHeartbeats 2000000 in
set_option maxRecDepth 100000 in
theorem partEq_calls (g cap a b pivot : Nat) (d : Array Int) (w : World) (hA : Arr w g d) (hap : a ≤ pivot) (hpb : pivot < b) (hb : b ≤ d.size) (hsz : d.size ≤ 1000000) :
    Calls Try.prog 79 #[.slice (some ⟨g, 0, none⟩) d.size cap, .int .i64 (a : Int), .int .i64 (b : Int), .int .i64 (pivot : Int)] w fun e w' => e = .returned (.int .i64 ((partitionEqual ltInt d a b pivot).1 : Int)) ∧ Arr w' g (partitionEqual ltInt d a b pivot).2 ∧ OnlyAt g w w' := by
  obtain ⟨n, hn⟩ : ∃ n, d.size = n := ⟨_, rfl⟩
  rw [hn] at hb hsz ⊢
  have HN := Lib.hid hn
  have HR := Lib.hid hA
  clear hn hA
  obtain ⟨b1, rfl⟩ : ∃ b1, b = b1 + 1 := ⟨b - 1, by omega⟩
  have ha0 : (0 : Int) ≤ (a : Int) := by omega
  have ha1 : (a : Int) < (n : Int) := by omega
  have hp0 : (0 : Int) ≤ (pivot : Int) := by omega
  have hp1 : (pivot : Int) < (n : Int) := by omega
  have hb0 : (0 : Int) ≤ (b1 : Int) := by omega
  have hb1 : (b1 : Int) < (n : Int) := by omega
  have hwa : IntKind.i64.wrap ((a : Int) + 1) = (a : Int) + 1 := by rw [IntKind.wrap_i64]; omega
  have hwb : IntKind.i64.wrap (b1 : Int) = (b1 : Int) := by rw [IntKind.wrap_i64]; omega
  go_enter Try.func79, Try.ntmps79
  obtain ⟨c1, f1⟩ := HR.out a (by rw [HN.out]; omega)
  obtain ⟨c2, f2⟩ := HR.out pivot (by rw [HN.out]; omega)
  obtain ⟨c3, f3⟩ := (HR.out.set a d[pivot]! (by rw [HN.out]; omega)) pivot (by rw [Array.size_setIfInBounds, HN.out]; omega)
  have HSw := Lib.hid (fun m => (HR.out.drewN m).swap a pivot (by rw [HN.out]; omega) (by rw [HN.out]; omega))
  obtain ⟨X, hX⟩ : ∃ X, d[a]! = X := ⟨_, rfl⟩
  obtain ⟨Y, hY⟩ : ∃ Y, d[pivot]! = Y := ⟨_, rfl⟩
  rw [hY] at c3 f3
  obtain ⟨Z, hZ⟩ : ∃ Z, (d.setIfInBounds a Y)[pivot]! = Z := ⟨_, rfl⟩
  rw [hZ] at c3
  clear hZ
  rw [hX] at c1 HSw
  rw [hY] at c2 HSw
  clear hX hY
  go_upto_region 1 with fail
  go_region
  all_goals go_wp2_with fail
  have HR1 := Lib.hid (HSw.out 1)
  have hw1 : OnlyAt g w _ := (((OnlyAt.refl g w).drewN 1).set a (.int .u8 Y)).set pivot (.int .u8 X)
  have hds : Hid ((swp d a pivot).size = n) := Lib.hid (by rw [swp_size]; exact HN.out)
  obtain ⟨d1, hd1⟩ : ∃ d1, swp d a pivot = d1 := ⟨_, rfl⟩
  rw [hd1] at HR1 hds
  have HPE : Hid (partitionEqual ltInt d a (b1 + 1) pivot = partEqLoop ltInt a (a + 1) b1 d1) := Lib.hid (by unfold partitionEqual; rw [hd1, Nat.add_sub_cancel])
  clear hd1 HSw c1 c2 c3 f1 f2 f3 HR
  go_loopw [9, 10] (fun vi vj wr => ∃ (i j : Nat) (dk : Array Int), vi = .int .i64 (i : Int) ∧ vj = .int .i64 (j : Int) ∧ a < i ∧ i ≤ j + 1 ∧ j ≤ b1 ∧ Hid (dk.size = n) ∧ Hid (Arr wr g dk) ∧ Hid (partEqLoop ltInt a i j dk = partEqLoop ltInt a (a + 1) b1 d1) ∧ OnlyAt g w wr) (fun vi vj _ => (RowKit.intOf vj).toNat + 1 - (RowKit.intOf vi).toNat)
  case atStart => exact ⟨a + 1, b1, d1, by go_num, rfl, by omega, by omega, Nat.le_refl _, hds, HR1, Lib.hid rfl, hw1⟩
  case round =>
    obtain ⟨i, j, dk, rfl, rfl, hai, hij, hjb, HS, HR, HP, hw⟩ := hrel
    clear HR1 hw1 hds HN
    obtain ⟨i2, hi2⟩ : ∃ z, scanUp (fun x => !ltInt dk[a]! x) dk j i = z := ⟨_, rfl⟩
    have Hi2 := Lib.hid hi2
    have hbi2 : i ≤ i2 := by rw [← hi2]; exact Go.Sort.scanUp_ge _ _ _ _
    clear hi2
    go_upto_block 2 with fail
    go_cut [9] from 29 to 45 (fun v wx => v = .int .i64 (i2 : Int) ∧ (i ≤ i2 ∧ i2 ≤ j + 1) ∧ Hid (Arr wx g dk) ∧ OnlyAt g w wx)
    case first =>
      go_wp2_with fail
      go_loopw [9] (fun vi wl => ∃ k : Nat, vi = .int .i64 (k : Int) ∧ (i ≤ k ∧ k ≤ j + 1) ∧ Hid (scanUp (fun x => !ltInt dk[a]! x) dk j k = i2) ∧ Hid (Arr wl g dk) ∧ OnlyAt g w wl) (fun vi _ => j + 1 - (RowKit.intOf vi).toNat)
      case atStart => exact ⟨i, rfl, ⟨by omega, by omega⟩, Hi2, HR, hw⟩
      case round =>
        obtain ⟨k, rfl, ⟨hk1, hk2⟩, HI, HRk, hwk⟩ := hrel
        clear HR hw
        have hk0 : (0 : Int) ≤ (k : Int) := by omega
        by_cases hle : k ≤ j
        · have hleI : (k : Int) ≤ (j : Int) := by omega
          have hkn : (k : Int) < (n : Int) := by omega
          have hst : IntKind.i64.wrap ((k : Int) + 1) = (k : Int) + 1 := by rw [IntKind.wrap_i64]; omega
          obtain ⟨c1, f1⟩ := HRk.out k (by rw [HS.out]; omega)
          obtain ⟨c2, f2⟩ := HRk.out a (by rw [HS.out]; omega)
          have HGo := Lib.hid (fun (h : ltInt dk[a]! dk[k]! = false) => scanUp_go (fun x => !ltInt dk[a]! x) dk j k hle (show (!ltInt dk[a]! dk[k]!) = true by rw [h]; rfl))
          have HEn := Lib.hid (fun (h : ltInt dk[a]! dk[k]! = true) => scanUp_end (fun x => !ltInt dk[a]! x) dk j k (Or.inr (show (!ltInt dk[a]! dk[k]!) = false by rw [h]; rfl)))
          obtain ⟨X, hX⟩ : ∃ X, dk[k]! = X := ⟨_, rfl⟩
          obtain ⟨Y, hY⟩ : ∃ Y, dk[a]! = Y := ⟨_, rfl⟩
          rw [hX] at c1
          rw [hY] at c2
          have HGo2 : Hid (ltInt Y X = false → _) := Lib.hid (fun h => HGo.out (by rw [hX, hY]; exact h))
          have HEn2 : Hid (ltInt Y X = true → _) := Lib.hid (fun h => HEn.out (by rw [hX, hY]; exact h))
          clear hX hY HGo HEn
          go_upto_region 3 with fail
          cases hl : ltInt Y X
          · have HL := Lib.hid hl
            clear hl
            go_quiet (first | (go_at_call 78; refine Calls.quiet_of_same (less_is HL.out _)))
            go_wp2_with fail
            go_roundw
            case rel => exact ⟨k + 1, by go_num, ⟨by omega, by omega⟩, Lib.hid (by rw [← HI.out]; exact (HGo2.out HL.out).symm), Lib.hid (HRk.out.drewN _), hwk.drewN _⟩
            case measure => simp [RowKit.intOf]; omega
          · have HL := Lib.hid hl
            clear hl
            go_quiet (first | (go_at_call 78; refine Calls.quiet_of_same (less_is HL.out _)))
            go_wp2_with fail
            have hkz : k = i2 := by rw [← HI.out]; exact (HEn2.out HL.out).symm
            go_meet
            case rel => exact ⟨by rw [hkz], ⟨by omega, by omega⟩, Lib.hid (HRk.out.drewN _), hwk.drewN _⟩
        · have hleI : decide ((k : Int) ≤ (j : Int)) = false := by simp; omega
          have hleI2 : ¬ (k : Int) ≤ (j : Int) := by omega
          have HKz : Hid (k = i2) := Lib.hid (by rw [← HI.out, scanUp_end _ _ _ _ (Or.inl hle)])
          go_upto_region 3 with fail
          go_quiet (first | (go_at_call 78; refine Calls.quiet_of_same (less_calls _ _ _)))
          go_wp2_with fail
          have hkz := HKz.out
          go_meet
          case rel => exact ⟨by rw [hkz], ⟨by omega, by omega⟩, Lib.hid (HRk.out.drewN _), hwk.drewN _⟩
    case rest =>
      obtain ⟨rfl, ⟨hri21, hri22⟩, HR1, hw1⟩ := hcut
      clear HR hw
      have HR := HR1
      have hw := hw1
      clear HR1 hw1
      obtain ⟨j2, hj2⟩ : ∃ z, scanDown (fun x => ltInt dk[a]! x) dk i2 j = z := ⟨_, rfl⟩
      have Hj2 := Lib.hid hj2
      have hbj2 : j2 ≤ j := by rw [← hj2]; exact Go.Sort.scanDown_le _ _ _ _
      clear hj2
      go_upto_block 4 with fail
      go_cut [10] from 46 to 61 (fun v wx => v = .int .i64 (j2 : Int) ∧ (i2 ≤ j2 + 1 ∧ j2 ≤ j) ∧ Hid (Arr wx g dk) ∧ OnlyAt g w wx)
      case first =>
        go_wp2_with fail
        go_loopw [10] (fun vi wl => ∃ k : Nat, vi = .int .i64 (k : Int) ∧ (i2 ≤ k + 1 ∧ k ≤ j) ∧ Hid (scanDown (fun x => ltInt dk[a]! x) dk i2 k = j2) ∧ Hid (Arr wl g dk) ∧ OnlyAt g w wl) (fun vi _ => (RowKit.intOf vi).toNat)
        case atStart => exact ⟨j, rfl, ⟨by omega, by omega⟩, Hj2, HR, hw⟩
        case round =>
          obtain ⟨k, rfl, ⟨hk1, hk2⟩, HI, HRk, hwk⟩ := hrel
          clear HR hw
          have hk0 : (0 : Int) ≤ (k : Int) := by omega
          by_cases hle : i2 ≤ k
          · have hleI : (i2 : Int) ≤ (k : Int) := by omega
            have hkn : (k : Int) < (n : Int) := by omega
            have hst : IntKind.i64.wrap ((k : Int) - 1) = (k : Int) - 1 := by rw [IntKind.wrap_i64]; omega
            obtain ⟨c1, f1⟩ := HRk.out k (by rw [HS.out]; omega)
            obtain ⟨c2, f2⟩ := HRk.out a (by rw [HS.out]; omega)
            have HGo := Lib.hid (fun (h : ltInt dk[a]! dk[k]! = true) => scanDown_go (fun x => ltInt dk[a]! x) dk i2 k hle (by omega) (show (ltInt dk[a]! dk[k]!) = true by rw [h]))
            have HEn := Lib.hid (fun (h : ltInt dk[a]! dk[k]! = false) => scanDown_end (fun x => ltInt dk[a]! x) dk i2 k (Or.inr (show (ltInt dk[a]! dk[k]!) = false by rw [h])))
            obtain ⟨X, hX⟩ : ∃ X, dk[k]! = X := ⟨_, rfl⟩
            obtain ⟨Y, hY⟩ : ∃ Y, dk[a]! = Y := ⟨_, rfl⟩
            rw [hX] at c1
            rw [hY] at c2
            have HGo2 : Hid (ltInt Y X = true → _) := Lib.hid (fun h => HGo.out (by rw [hX, hY]; exact h))
            have HEn2 : Hid (ltInt Y X = false → _) := Lib.hid (fun h => HEn.out (by rw [hX, hY]; exact h))
            clear hX hY HGo HEn
            go_upto_region 5 with fail
            cases hl : ltInt Y X
            · have HL := Lib.hid hl
              clear hl
              go_quiet (first | (go_at_call 78; refine Calls.quiet_of_same (less_is HL.out _)))
              go_wp2_with fail
              have hkz : k = j2 := by rw [← HI.out]; exact (HEn2.out HL.out).symm
              go_meet
              case rel => exact ⟨by rw [hkz], ⟨by omega, by omega⟩, Lib.hid (HRk.out.drewN _), hwk.drewN _⟩
            · have HL := Lib.hid hl
              clear hl
              go_quiet (first | (go_at_call 78; refine Calls.quiet_of_same (less_is HL.out _)))
              go_wp2_with fail
              go_roundw
              case rel => exact ⟨k - 1, by congr 1; omega, ⟨by omega, by omega⟩, Lib.hid (by rw [← HI.out]; exact (HGo2.out HL.out).symm), Lib.hid (HRk.out.drewN _), hwk.drewN _⟩
              case measure => simp [RowKit.intOf]; omega
          · have hleI : decide ((i2 : Int) ≤ (k : Int)) = false := by simp; omega
            have hleI2 : ¬ (i2 : Int) ≤ (k : Int) := by omega
            have HKz : Hid (k = j2) := Lib.hid (by rw [← HI.out, scanDown_end _ _ _ _ (Or.inl hle)])
            go_upto_region 5 with fail
            go_quiet (first | (go_at_call 78; refine Calls.quiet_of_same (less_calls _ _ _)))
            go_wp2_with fail
            have hkz := HKz.out
            go_meet
            case rel => exact ⟨by rw [hkz], ⟨by omega, by omega⟩, Lib.hid (HRk.out.drewN _), hwk.drewN _⟩
      case rest =>
        obtain ⟨rfl, ⟨hrj21, hrj22⟩, HR1, hw1⟩ := hcut
        clear HR hw
        have HR := HR1
        have hw := hw1
        clear HR1 hw1
        by_cases hgt : j2 < i2
        · have hgI : (j2 : Int) < (i2 : Int) := by omega
          have HE := Lib.hid (partEq_break ltInt a i j dk Hi2.out.symm Hj2.out.symm hgt)
          go_wp2_with fail
          go_ret
          have he : partitionEqual ltInt d a (b1 + 1) pivot = (i2, dk) := by rw [HPE.out, ← HP.out, HE.out]
          rw [he]
          exact ⟨rfl, HR.out, hw⟩
        · have hgI : ¬ (j2 : Int) < (i2 : Int) := by omega
          have hlt := scans_lt ltInt a i j dk (by omega) Hi2.out.symm Hj2.out.symm (by omega)
          have HG := Lib.hid (partEq_go ltInt a i j dk Hi2.out.symm Hj2.out.symm (by omega))
          have q1 : (0 : Int) ≤ (i2 : Int) := by omega
          have q2 : (i2 : Int) < (n : Int) := by omega
          have q3 : (0 : Int) ≤ (j2 : Int) := by omega
          have q4 : (j2 : Int) < (n : Int) := by omega
          have q5 : IntKind.i64.wrap ((i2 : Int) + 1) = (i2 : Int) + 1 := by rw [IntKind.wrap_i64]; omega
          have q6 : IntKind.i64.wrap ((j2 : Int) - 1) = (j2 : Int) - 1 := by rw [IntKind.wrap_i64]; omega
          obtain ⟨c1, f1⟩ := HR.out i2 (by rw [HS.out]; omega)
          obtain ⟨c2, f2⟩ := HR.out j2 (by rw [HS.out]; omega)
          obtain ⟨c3, f3⟩ := (HR.out.set i2 dk[j2]! (by rw [HS.out]; omega)) j2 (by rw [Array.size_setIfInBounds, HS.out]; omega)
          have HSw := Lib.hid (fun m => (HR.out.drewN m).swap i2 j2 (by rw [HS.out]; omega) (by rw [HS.out]; omega))
          obtain ⟨X, hX⟩ : ∃ X, dk[i2]! = X := ⟨_, rfl⟩
          obtain ⟨Y, hY⟩ : ∃ Y, dk[j2]! = Y := ⟨_, rfl⟩
          rw [hY] at c3 f3
          obtain ⟨Z, hZ⟩ : ∃ Z, (dk.setIfInBounds i2 Y)[j2]! = Z := ⟨_, rfl⟩
          rw [hZ] at c3
          clear hZ
          rw [hX] at c1 HSw
          rw [hY] at c2 HSw
          clear hX hY
          go_upto_region 8 with fail
          go_region
          all_goals go_wp2_with fail
          go_roundw
          case rel => exact ⟨i2 + 1, j2 - 1, _, by go_num, by congr 1; omega, by omega, by omega, by omega, Lib.hid (by rw [swp_size]; exact HS.out), Lib.hid (HSw.out _), Lib.hid (by rw [← HP.out, HG.out]), ((hw.drewN _).set _ _).set _ _⟩
          case measure => simp [RowKit.intOf]; omega
end Go.Proofs.Ytchjjbklkmfelaa

/- The library's sort at uint8: parted by a pivot. -/
namespace Go.Proofs.Ytchjjbklkmfelaa
open Go.RowKit Go.Lib Go.Deep
open Go.Sort (swp ltInt SWO scanUp scanDown partEqLoop partitionEqual partLoop partition)
set_option linter.unusedVariables false
set_option linter.unusedSimpArgs false

set_option maxHeartbeats 4000000 in
set_option maxRecDepth 100000 in
theorem partition_calls (g cap a b pivot : Nat) (d : Array Int) (w : World) (hA : Arr w g d) (hap : a ≤ pivot) (hpb : pivot < b) (hb : b ≤ d.size) (hsz : d.size ≤ 1000000) :
    Calls Try.prog 80 #[.slice (some ⟨g, 0, none⟩) d.size cap, .int .i64 (a : Int), .int .i64 (b : Int), .int .i64 (pivot : Int)] w fun e w' => e = .returned (.tuple #[.int .i64 ((partition ltInt d a b pivot).1 : Int), .bool (partition ltInt d a b pivot).2.1]) ∧ Arr w' g (partition ltInt d a b pivot).2.2 ∧ OnlyAt g w w' := by
  obtain ⟨n, hn⟩ : ∃ n, d.size = n := ⟨_, rfl⟩
  rw [hn] at hb hsz ⊢
  have HN := Lib.hid hn
  have HR := Lib.hid hA
  clear hn hA
  obtain ⟨b1, rfl⟩ : ∃ b1, b = b1 + 1 := ⟨b - 1, by omega⟩
  have ha0 : (0 : Int) ≤ (a : Int) := by omega
  have ha1 : (a : Int) < (n : Int) := by omega
  have hp0 : (0 : Int) ≤ (pivot : Int) := by omega
  have hp1 : (pivot : Int) < (n : Int) := by omega
  have hb0 : (0 : Int) ≤ (b1 : Int) := by omega
  have hb1 : (b1 : Int) < (n : Int) := by omega
  have hwa : IntKind.i64.wrap ((a : Int) + 1) = (a : Int) + 1 := by rw [IntKind.wrap_i64]; omega
  have hwb : IntKind.i64.wrap (b1 : Int) = (b1 : Int) := by rw [IntKind.wrap_i64]; omega
  go_enter Try.func80, Try.ntmps80
  obtain ⟨c1, f1⟩ := HR.out a (by rw [HN.out]; omega)
  obtain ⟨c2, f2⟩ := HR.out pivot (by rw [HN.out]; omega)
  obtain ⟨c3, f3⟩ := (HR.out.set a d[pivot]! (by rw [HN.out]; omega)) pivot (by rw [Array.size_setIfInBounds, HN.out]; omega)
  have HSw := Lib.hid (fun m => (HR.out.drewN m).swap a pivot (by rw [HN.out]; omega) (by rw [HN.out]; omega))
  obtain ⟨X, hX⟩ : ∃ X, d[a]! = X := ⟨_, rfl⟩
  obtain ⟨Y, hY⟩ : ∃ Y, d[pivot]! = Y := ⟨_, rfl⟩
  rw [hY] at c3 f3
  obtain ⟨Z, hZ⟩ : ∃ Z, (d.setIfInBounds a Y)[pivot]! = Z := ⟨_, rfl⟩
  rw [hZ] at c3
  clear hZ
  rw [hX] at c1 HSw
  rw [hY] at c2 HSw
  clear hX hY
  go_upto_region 1 with fail
  go_region
  all_goals go_upto_block 0 with fail
  have HR1 := Lib.hid (HSw.out 1)
  have hw : OnlyAt g w _ := (((OnlyAt.refl g w).drewN 1).set a (.int .u8 Y)).set pivot (.int .u8 X)
  have HS : Hid ((swp d a pivot).size = n) := Lib.hid (by rw [swp_size]; exact HN.out)
  obtain ⟨dk, hd1⟩ : ∃ d1, swp d a pivot = d1 := ⟨_, rfl⟩
  rw [hd1] at HR1 HS
  have HD1 := Lib.hid hd1
  clear HR
  have HR := HR1
  clear hd1 HSw c1 c2 c3 f1 f2 f3 HN HR1
  have hab1 : a + 1 ≤ b1 + 1 := by omega
  obtain ⟨i, hi⟩ : ∃ i, a + 1 = i := ⟨_, rfl⟩
  have hiI : (a : Int) + 1 = (i : Int) := by omega
  rw [hiI]
  have HIe := Lib.hid hi
  rw [hi] at hab1
  have hai : a < i := by omega
  clear hi hiI hwa
  obtain ⟨i2, hi2⟩ : ∃ z, scanUp (fun x => ltInt x dk[a]!) dk b1 i = z := ⟨_, rfl⟩
  have Hi2 := Lib.hid hi2
  have hbi2 : i ≤ i2 := by rw [← hi2]; exact Go.Sort.scanUp_ge _ _ _ _
  clear hi2
  go_upto_block 0 with fail
  go_cut [10] from 30 to 45 (fun v wx => v = .int .i64 (i2 : Int) ∧ (i ≤ i2 ∧ i2 ≤ b1 + 1) ∧ Hid (Arr wx g dk) ∧ OnlyAt g w wx)
  case first =>
    go_wp2_with fail
    go_loopw [10] (fun vi wl => ∃ k : Nat, vi = .int .i64 (k : Int) ∧ (i ≤ k ∧ k ≤ b1 + 1) ∧ Hid (scanUp (fun x => ltInt x dk[a]!) dk b1 k = i2) ∧ Hid (Arr wl g dk) ∧ OnlyAt g w wl) (fun vi _ => b1 + 1 - (RowKit.intOf vi).toNat)
    case atStart => exact ⟨i, rfl, ⟨by omega, by omega⟩, Hi2, HR, hw⟩
    case round =>
      obtain ⟨k, rfl, ⟨hk1, hk2⟩, HI, HRk, hwk⟩ := hrel
      clear HR hw
      have hk0 : (0 : Int) ≤ (k : Int) := by omega
      by_cases hle : k ≤ b1
      · have hleI : (k : Int) ≤ (b1 : Int) := by omega
        have hkn : (k : Int) < (n : Int) := by omega
        have hst : IntKind.i64.wrap ((k : Int) + 1) = (k : Int) + 1 := by rw [IntKind.wrap_i64]; omega
        obtain ⟨c1, f1⟩ := HRk.out k (by rw [HS.out]; omega)
        obtain ⟨c2, f2⟩ := HRk.out a (by rw [HS.out]; omega)
        have HGo := Lib.hid (fun (h : ltInt dk[k]! dk[a]! = true) => scanUp_go (fun x => ltInt x dk[a]!) dk b1 k hle (show (ltInt dk[k]! dk[a]!) = true by rw [h]))
        have HEn := Lib.hid (fun (h : ltInt dk[k]! dk[a]! = false) => scanUp_end (fun x => ltInt x dk[a]!) dk b1 k (Or.inr (show (ltInt dk[k]! dk[a]!) = false by rw [h])))
        obtain ⟨X, hX⟩ : ∃ X, dk[k]! = X := ⟨_, rfl⟩
        obtain ⟨Y, hY⟩ : ∃ Y, dk[a]! = Y := ⟨_, rfl⟩
        rw [hX] at c1
        rw [hY] at c2
        have HGo2 : Hid (ltInt X Y = true → _) := Lib.hid (fun h => HGo.out (by rw [hX, hY]; exact h))
        have HEn2 : Hid (ltInt X Y = false → _) := Lib.hid (fun h => HEn.out (by rw [hX, hY]; exact h))
        clear hX hY HGo HEn
        go_upto_region 3 with fail
        cases hl : ltInt X Y
        · have HL := Lib.hid hl
          clear hl
          go_quiet (first | (go_at_call 78; refine Calls.quiet_of_same (less_is HL.out _)))
          go_wp2_with fail
          have hkz : k = i2 := by rw [← HI.out]; exact (HEn2.out HL.out).symm
          go_meet
          case rel => exact ⟨by rw [hkz], ⟨by omega, by omega⟩, Lib.hid (HRk.out.drewN _), hwk.drewN _⟩
        · have HL := Lib.hid hl
          clear hl
          go_quiet (first | (go_at_call 78; refine Calls.quiet_of_same (less_is HL.out _)))
          go_wp2_with fail
          go_roundw
          case rel => exact ⟨k + 1, by go_num, ⟨by omega, by omega⟩, Lib.hid (by rw [← HI.out]; exact (HGo2.out HL.out).symm), Lib.hid (HRk.out.drewN _), hwk.drewN _⟩
          case measure => simp [RowKit.intOf]; omega
      · have hleI : decide ((k : Int) ≤ (b1 : Int)) = false := by simp; omega
        have hleI2 : ¬ (k : Int) ≤ (b1 : Int) := by omega
        have HKz : Hid (k = i2) := Lib.hid (by rw [← HI.out, scanUp_end _ _ _ _ (Or.inl hle)])
        go_upto_region 3 with fail
        go_quiet (first | (go_at_call 78; refine Calls.quiet_of_same (less_calls _ _ _)))
        go_wp2_with fail
        have hkz := HKz.out
        go_meet
        case rel => exact ⟨by rw [hkz], ⟨by omega, by omega⟩, Lib.hid (HRk.out.drewN _), hwk.drewN _⟩
  case rest =>
    obtain ⟨rfl, ⟨hri21, hri22⟩, HR1, hw1⟩ := hcut
    clear HR hw
    have HR := HR1
    have hw := hw1
    clear HR1 hw1
    obtain ⟨j2, hj2⟩ : ∃ z, scanDown (fun x => !ltInt x dk[a]!) dk i2 b1 = z := ⟨_, rfl⟩
    have Hj2 := Lib.hid hj2
    have hbj2 : j2 ≤ b1 := by rw [← hj2]; exact Go.Sort.scanDown_le _ _ _ _
    clear hj2
    go_upto_block 2 with fail
    go_cut [11] from 46 to 62 (fun v wx => v = .int .i64 (j2 : Int) ∧ (i2 ≤ j2 + 1 ∧ j2 ≤ b1) ∧ Hid (Arr wx g dk) ∧ OnlyAt g w wx)
    case first =>
      go_wp2_with fail
      go_loopw [11] (fun vi wl => ∃ k : Nat, vi = .int .i64 (k : Int) ∧ (i2 ≤ k + 1 ∧ k ≤ b1) ∧ Hid (scanDown (fun x => !ltInt x dk[a]!) dk i2 k = j2) ∧ Hid (Arr wl g dk) ∧ OnlyAt g w wl) (fun vi _ => (RowKit.intOf vi).toNat)
      case atStart => exact ⟨b1, rfl, ⟨by omega, by omega⟩, Hj2, HR, hw⟩
      case round =>
        obtain ⟨k, rfl, ⟨hk1, hk2⟩, HI, HRk, hwk⟩ := hrel
        clear HR hw
        have hk0 : (0 : Int) ≤ (k : Int) := by omega
        by_cases hle : i2 ≤ k
        · have hleI : (i2 : Int) ≤ (k : Int) := by omega
          have hkn : (k : Int) < (n : Int) := by omega
          have hst : IntKind.i64.wrap ((k : Int) - 1) = (k : Int) - 1 := by rw [IntKind.wrap_i64]; omega
          obtain ⟨c1, f1⟩ := HRk.out k (by rw [HS.out]; omega)
          obtain ⟨c2, f2⟩ := HRk.out a (by rw [HS.out]; omega)
          have HGo := Lib.hid (fun (h : ltInt dk[k]! dk[a]! = false) => scanDown_go (fun x => !ltInt x dk[a]!) dk i2 k hle (by omega) (show (!ltInt dk[k]! dk[a]!) = true by rw [h]; rfl))
          have HEn := Lib.hid (fun (h : ltInt dk[k]! dk[a]! = true) => scanDown_end (fun x => !ltInt x dk[a]!) dk i2 k (Or.inr (show (!ltInt dk[k]! dk[a]!) = false by rw [h]; rfl)))
          obtain ⟨X, hX⟩ : ∃ X, dk[k]! = X := ⟨_, rfl⟩
          obtain ⟨Y, hY⟩ : ∃ Y, dk[a]! = Y := ⟨_, rfl⟩
          rw [hX] at c1
          rw [hY] at c2
          have HGo2 : Hid (ltInt X Y = false → _) := Lib.hid (fun h => HGo.out (by rw [hX, hY]; exact h))
          have HEn2 : Hid (ltInt X Y = true → _) := Lib.hid (fun h => HEn.out (by rw [hX, hY]; exact h))
          clear hX hY HGo HEn
          go_upto_region 5 with fail
          cases hl : ltInt X Y
          · have HL := Lib.hid hl
            clear hl
            go_quiet (first | (go_at_call 78; refine Calls.quiet_of_same (less_is HL.out _)))
            go_wp2_with fail
            go_roundw
            case rel => exact ⟨k - 1, by congr 1; omega, ⟨by omega, by omega⟩, Lib.hid (by rw [← HI.out]; exact (HGo2.out HL.out).symm), Lib.hid (HRk.out.drewN _), hwk.drewN _⟩
            case measure => simp [RowKit.intOf]; omega
          · have HL := Lib.hid hl
            clear hl
            go_quiet (first | (go_at_call 78; refine Calls.quiet_of_same (less_is HL.out _)))
            go_wp2_with fail
            have hkz : k = j2 := by rw [← HI.out]; exact (HEn2.out HL.out).symm
            go_meet
            case rel => exact ⟨by rw [hkz], ⟨by omega, by omega⟩, Lib.hid (HRk.out.drewN _), hwk.drewN _⟩
        · have hleI : decide ((i2 : Int) ≤ (k : Int)) = false := by simp; omega
          have hleI2 : ¬ (i2 : Int) ≤ (k : Int) := by omega
          have HKz : Hid (k = j2) := Lib.hid (by rw [← HI.out, scanDown_end _ _ _ _ (Or.inl hle)])
          go_upto_region 5 with fail
          go_quiet (first | (go_at_call 78; refine Calls.quiet_of_same (less_calls _ _ _)))
          go_wp2_with fail
          have hkz := HKz.out
          go_meet
          case rel => exact ⟨by rw [hkz], ⟨by omega, by omega⟩, Lib.hid (HRk.out.drewN _), hwk.drewN _⟩
    case rest =>
      obtain ⟨rfl, ⟨hrj21, hrj22⟩, HR1, hw1⟩ := hcut
      clear HR hw
      have HR := HR1
      have hw := hw1
      clear HR1 hw1
      have hp9 : ∀ (r : Nat × Bool × Array Int), partition ltInt d a (b1 + 1) pivot = r → Hid (partition ltInt d a (b1 + 1) pivot = r) := fun r h => h
      by_cases hgt : j2 < i2
      · have hgI : (j2 : Int) < (i2 : Int) := by omega
        have hP := part_first_break ltInt d a (b1 + 1) pivot (i := i) (j := b1) HIe.out.symm (by omega) HD1.out.symm Hi2.out.symm Hj2.out.symm hgt
        have HP := hp9 _ hP
        clear hP hp9
        have q3 : (0 : Int) ≤ (j2 : Int) := by omega
        have q4 : (j2 : Int) < (n : Int) := by omega
        obtain ⟨c1, f1⟩ := HR.out j2 (by rw [HS.out]; omega)
        obtain ⟨c2, f2⟩ := HR.out a (by rw [HS.out]; omega)
        obtain ⟨c3, f3⟩ := (HR.out.set j2 dk[a]! (by rw [HS.out]; omega)) a (by rw [Array.size_setIfInBounds, HS.out]; omega)
        have HSw := Lib.hid (fun m => (HR.out.drewN m).swap j2 a (by rw [HS.out]; omega) (by rw [HS.out]; omega))
        obtain ⟨X, hX⟩ : ∃ X, dk[j2]! = X := ⟨_, rfl⟩
        obtain ⟨Y, hY⟩ : ∃ Y, dk[a]! = Y := ⟨_, rfl⟩
        rw [hY] at c3 f3
        obtain ⟨Z, hZ⟩ : ∃ Z, (dk.setIfInBounds j2 Y)[a]! = Z := ⟨_, rfl⟩
        rw [hZ] at c3
        clear hZ
        rw [hX] at c1 HSw
        rw [hY] at c2 HSw
        clear hX hY
        go_upto_region 8 with fail
        go_region
        all_goals go_wp2_with fail
        go_ret2
        rw [HP.out]
        exact ⟨rfl, HSw.out _, ((hw.drewN _).set _ _).set _ _⟩
      · have hgI : ¬ (j2 : Int) < (i2 : Int) := by omega
        have hlt := part_scans_lt ltInt a i b1 dk (by omega) Hi2.out.symm Hj2.out.symm (by omega)
        have hP := part_first_go ltInt d a (b1 + 1) pivot (i := i) (j := b1) HIe.out.symm (by omega) HD1.out.symm Hi2.out.symm Hj2.out.symm (by omega)
        have HP := hp9 _ hP
        clear hP hp9
        have q1 : (0 : Int) ≤ (i2 : Int) := by omega
        have q2 : (i2 : Int) < (n : Int) := by omega
        have q3 : (0 : Int) ≤ (j2 : Int) := by omega
        have q4 : (j2 : Int) < (n : Int) := by omega
        have q5 : IntKind.i64.wrap ((i2 : Int) + 1) = (i2 : Int) + 1 := by rw [IntKind.wrap_i64]; omega
        have q6 : IntKind.i64.wrap ((j2 : Int) - 1) = (j2 : Int) - 1 := by rw [IntKind.wrap_i64]; omega
        obtain ⟨c1, f1⟩ := HR.out i2 (by rw [HS.out]; omega)
        obtain ⟨c2, f2⟩ := HR.out j2 (by rw [HS.out]; omega)
        obtain ⟨c3, f3⟩ := (HR.out.set i2 dk[j2]! (by rw [HS.out]; omega)) j2 (by rw [Array.size_setIfInBounds, HS.out]; omega)
        have HSw := Lib.hid (fun m => (HR.out.drewN m).swap i2 j2 (by rw [HS.out]; omega) (by rw [HS.out]; omega))
        obtain ⟨X, hX⟩ : ∃ X, dk[i2]! = X := ⟨_, rfl⟩
        obtain ⟨Y, hY⟩ : ∃ Y, dk[j2]! = Y := ⟨_, rfl⟩
        rw [hY] at c3 f3
        obtain ⟨Z, hZ⟩ : ∃ Z, (dk.setIfInBounds i2 Y)[j2]! = Z := ⟨_, rfl⟩
        rw [hZ] at c3
        clear hZ
        rw [hX] at c1 HSw
        rw [hY] at c2 HSw
        clear hX hY
        go_upto_region 10 with fail
        go_region
        all_goals go_wp2_with fail
        have HR2 := Lib.hid (HSw.out 1)
        have HS2 : Hid ((swp dk i2 j2).size = n) := Lib.hid (by rw [swp_size]; exact HS.out)
        obtain ⟨d2, hd2⟩ : ∃ d2, swp dk i2 j2 = d2 := ⟨_, rfl⟩
        rw [hd2] at HR2 HS2 HP
        obtain ⟨z, hz⟩ : ∃ z, partLoop ltInt a (i2 + 1) (j2 - 1) d2 = z := ⟨_, rfl⟩
        rw [hz] at HP
        have HZ := Lib.hid hz
        have hw2 := ((hw.drewN 1).set i2 (.int .u8 Y)).set j2 (.int .u8 X)
        clear hd2 hz HSw c1 c2 c3 f1 f2 f3 HR HS hw Hi2 Hj2 HD1
        go_loopw [10, 11] (fun vi vj wr => ∃ (i j : Nat) (dk : Array Int), vi = .int .i64 (i : Int) ∧ vj = .int .i64 (j : Int) ∧ a < i ∧ i ≤ j + 1 ∧ j ≤ b1 ∧ Hid (dk.size = n) ∧ Hid (Arr wr g dk) ∧ Hid (partLoop ltInt a i j dk = z) ∧ OnlyAt g w wr) (fun vi vj _ => (RowKit.intOf vj).toNat + 1 - (RowKit.intOf vi).toNat)
        case atStart => exact ⟨i2 + 1, j2 - 1, d2, by go_num, by congr 1; omega, by omega, by omega, by omega, HS2, HR2, HZ, hw2⟩
        case round =>
          clear hgt hgI hlt q1 q2 q3 q4 q5 q6 hai hab1 HIe hri21 hri22 hrj21 hrj22 hbi2 hbj2
          obtain ⟨i, j, dk, rfl, rfl, hai, hij, hjb, HS, HR, HQ, hw⟩ := hrel
          clear HR2 hw2 HS2 HZ
          obtain ⟨i3, hi3⟩ : ∃ z, scanUp (fun x => ltInt x dk[a]!) dk j i = z := ⟨_, rfl⟩
          have Hi3 := Lib.hid hi3
          have hbi3 : i ≤ i3 := by rw [← hi3]; exact Go.Sort.scanUp_ge _ _ _ _
          clear hi3
          go_upto_block 6 with fail
          go_cut [10] from 99 to 114 (fun v wx => v = .int .i64 (i3 : Int) ∧ (i ≤ i3 ∧ i3 ≤ j + 1) ∧ Hid (Arr wx g dk) ∧ OnlyAt g w wx)
          case first =>
            go_wp2_with fail
            go_loopw [10] (fun vi wl => ∃ k : Nat, vi = .int .i64 (k : Int) ∧ (i ≤ k ∧ k ≤ j + 1) ∧ Hid (scanUp (fun x => ltInt x dk[a]!) dk j k = i3) ∧ Hid (Arr wl g dk) ∧ OnlyAt g w wl) (fun vi _ => j + 1 - (RowKit.intOf vi).toNat)
            case atStart => exact ⟨i, rfl, ⟨by omega, by omega⟩, Hi3, HR, hw⟩
            case round =>
              obtain ⟨k, rfl, ⟨hk1, hk2⟩, HI, HRk, hwk⟩ := hrel
              clear HR hw
              have hk0 : (0 : Int) ≤ (k : Int) := by omega
              by_cases hle : k ≤ j
              · have hleI : (k : Int) ≤ (j : Int) := by omega
                have hkn : (k : Int) < (n : Int) := by omega
                have hst : IntKind.i64.wrap ((k : Int) + 1) = (k : Int) + 1 := by rw [IntKind.wrap_i64]; omega
                obtain ⟨c1, f1⟩ := HRk.out k (by rw [HS.out]; omega)
                obtain ⟨c2, f2⟩ := HRk.out a (by rw [HS.out]; omega)
                have HGo := Lib.hid (fun (h : ltInt dk[k]! dk[a]! = true) => scanUp_go (fun x => ltInt x dk[a]!) dk j k hle (show (ltInt dk[k]! dk[a]!) = true by rw [h]))
                have HEn := Lib.hid (fun (h : ltInt dk[k]! dk[a]! = false) => scanUp_end (fun x => ltInt x dk[a]!) dk j k (Or.inr (show (ltInt dk[k]! dk[a]!) = false by rw [h])))
                obtain ⟨X, hX⟩ : ∃ X, dk[k]! = X := ⟨_, rfl⟩
                obtain ⟨Y, hY⟩ : ∃ Y, dk[a]! = Y := ⟨_, rfl⟩
                rw [hX] at c1
                rw [hY] at c2
                have HGo2 : Hid (ltInt X Y = true → _) := Lib.hid (fun h => HGo.out (by rw [hX, hY]; exact h))
                have HEn2 : Hid (ltInt X Y = false → _) := Lib.hid (fun h => HEn.out (by rw [hX, hY]; exact h))
                clear hX hY HGo HEn
                go_upto_region 13 with fail
                cases hl : ltInt X Y
                · have HL := Lib.hid hl
                  clear hl
                  go_quiet (first | (go_at_call 78; refine Calls.quiet_of_same (less_is HL.out _)))
                  go_wp2_with fail
                  have hkz : k = i3 := by rw [← HI.out]; exact (HEn2.out HL.out).symm
                  go_meet
                  case rel => exact ⟨by rw [hkz], ⟨by omega, by omega⟩, Lib.hid (HRk.out.drewN _), hwk.drewN _⟩
                · have HL := Lib.hid hl
                  clear hl
                  go_quiet (first | (go_at_call 78; refine Calls.quiet_of_same (less_is HL.out _)))
                  go_wp2_with fail
                  go_roundw
                  case rel => exact ⟨k + 1, by go_num, ⟨by omega, by omega⟩, Lib.hid (by rw [← HI.out]; exact (HGo2.out HL.out).symm), Lib.hid (HRk.out.drewN _), hwk.drewN _⟩
                  case measure => simp [RowKit.intOf]; omega
              · have hleI : decide ((k : Int) ≤ (j : Int)) = false := by simp; omega
                have hleI2 : ¬ (k : Int) ≤ (j : Int) := by omega
                have HKz : Hid (k = i3) := Lib.hid (by rw [← HI.out, scanUp_end _ _ _ _ (Or.inl hle)])
                go_upto_region 13 with fail
                go_quiet (first | (go_at_call 78; refine Calls.quiet_of_same (less_calls _ _ _)))
                go_wp2_with fail
                have hkz := HKz.out
                go_meet
                case rel => exact ⟨by rw [hkz], ⟨by omega, by omega⟩, Lib.hid (HRk.out.drewN _), hwk.drewN _⟩
          case rest =>
            obtain ⟨rfl, ⟨hri31, hri32⟩, HR1, hw1⟩ := hcut
            clear HR hw
            have HR := HR1
            have hw := hw1
            clear HR1 hw1
            obtain ⟨j3, hj3⟩ : ∃ z, scanDown (fun x => !ltInt x dk[a]!) dk i3 j = z := ⟨_, rfl⟩
            have Hj3 := Lib.hid hj3
            have hbj3 : j3 ≤ j := by rw [← hj3]; exact Go.Sort.scanDown_le _ _ _ _
            clear hj3
            go_upto_block 8 with fail
            go_cut [11] from 115 to 131 (fun v wx => v = .int .i64 (j3 : Int) ∧ (i3 ≤ j3 + 1 ∧ j3 ≤ j) ∧ Hid (Arr wx g dk) ∧ OnlyAt g w wx)
            case first =>
              go_wp2_with fail
              go_loopw [11] (fun vi wl => ∃ k : Nat, vi = .int .i64 (k : Int) ∧ (i3 ≤ k + 1 ∧ k ≤ j) ∧ Hid (scanDown (fun x => !ltInt x dk[a]!) dk i3 k = j3) ∧ Hid (Arr wl g dk) ∧ OnlyAt g w wl) (fun vi _ => (RowKit.intOf vi).toNat)
              case atStart => exact ⟨j, rfl, ⟨by omega, by omega⟩, Hj3, HR, hw⟩
              case round =>
                obtain ⟨k, rfl, ⟨hk1, hk2⟩, HI, HRk, hwk⟩ := hrel
                clear HR hw
                have hk0 : (0 : Int) ≤ (k : Int) := by omega
                by_cases hle : i3 ≤ k
                · have hleI : (i3 : Int) ≤ (k : Int) := by omega
                  have hkn : (k : Int) < (n : Int) := by omega
                  have hst : IntKind.i64.wrap ((k : Int) - 1) = (k : Int) - 1 := by rw [IntKind.wrap_i64]; omega
                  obtain ⟨c1, f1⟩ := HRk.out k (by rw [HS.out]; omega)
                  obtain ⟨c2, f2⟩ := HRk.out a (by rw [HS.out]; omega)
                  have HGo := Lib.hid (fun (h : ltInt dk[k]! dk[a]! = false) => scanDown_go (fun x => !ltInt x dk[a]!) dk i3 k hle (by omega) (show (!ltInt dk[k]! dk[a]!) = true by rw [h]; rfl))
                  have HEn := Lib.hid (fun (h : ltInt dk[k]! dk[a]! = true) => scanDown_end (fun x => !ltInt x dk[a]!) dk i3 k (Or.inr (show (!ltInt dk[k]! dk[a]!) = false by rw [h]; rfl)))
                  obtain ⟨X, hX⟩ : ∃ X, dk[k]! = X := ⟨_, rfl⟩
                  obtain ⟨Y, hY⟩ : ∃ Y, dk[a]! = Y := ⟨_, rfl⟩
                  rw [hX] at c1
                  rw [hY] at c2
                  have HGo2 : Hid (ltInt X Y = false → _) := Lib.hid (fun h => HGo.out (by rw [hX, hY]; exact h))
                  have HEn2 : Hid (ltInt X Y = true → _) := Lib.hid (fun h => HEn.out (by rw [hX, hY]; exact h))
                  clear hX hY HGo HEn
                  go_upto_region 15 with fail
                  cases hl : ltInt X Y
                  · have HL := Lib.hid hl
                    clear hl
                    go_quiet (first | (go_at_call 78; refine Calls.quiet_of_same (less_is HL.out _)))
                    go_wp2_with fail
                    go_roundw
                    case rel => exact ⟨k - 1, by congr 1; omega, ⟨by omega, by omega⟩, Lib.hid (by rw [← HI.out]; exact (HGo2.out HL.out).symm), Lib.hid (HRk.out.drewN _), hwk.drewN _⟩
                    case measure => simp [RowKit.intOf]; omega
                  · have HL := Lib.hid hl
                    clear hl
                    go_quiet (first | (go_at_call 78; refine Calls.quiet_of_same (less_is HL.out _)))
                    go_wp2_with fail
                    have hkz : k = j3 := by rw [← HI.out]; exact (HEn2.out HL.out).symm
                    go_meet
                    case rel => exact ⟨by rw [hkz], ⟨by omega, by omega⟩, Lib.hid (HRk.out.drewN _), hwk.drewN _⟩
                · have hleI : decide ((i3 : Int) ≤ (k : Int)) = false := by simp; omega
                  have hleI2 : ¬ (i3 : Int) ≤ (k : Int) := by omega
                  have HKz : Hid (k = j3) := Lib.hid (by rw [← HI.out, scanDown_end _ _ _ _ (Or.inl hle)])
                  go_upto_region 15 with fail
                  go_quiet (first | (go_at_call 78; refine Calls.quiet_of_same (less_calls _ _ _)))
                  go_wp2_with fail
                  have hkz := HKz.out
                  go_meet
                  case rel => exact ⟨by rw [hkz], ⟨by omega, by omega⟩, Lib.hid (HRk.out.drewN _), hwk.drewN _⟩
            case rest =>
              obtain ⟨rfl, ⟨hrj31, hrj32⟩, HR1, hw1⟩ := hcut
              clear HR hw
              have HR := HR1
              have hw := hw1
              clear HR1 hw1
              by_cases hgt : j3 < i3
              · have hgI : (j3 : Int) < (i3 : Int) := by omega
                have hzz : z = (j3, dk) := by rw [← HQ.out]; exact part_break ltInt a i j dk Hi3.out.symm Hj3.out.symm hgt
                have q3 : (0 : Int) ≤ (j3 : Int) := by omega
                have q4 : (j3 : Int) < (n : Int) := by omega
                have HP2 : Hid (partition ltInt d a (b1 + 1) pivot = (j3, false, swp dk j3 a)) := Lib.hid (by rw [HP.out, hzz])
                clear hzz
                obtain ⟨c1, f1⟩ := HR.out j3 (by rw [HS.out]; omega)
                obtain ⟨c2, f2⟩ := HR.out a (by rw [HS.out]; omega)
                obtain ⟨c3, f3⟩ := (HR.out.set j3 dk[a]! (by rw [HS.out]; omega)) a (by rw [Array.size_setIfInBounds, HS.out]; omega)
                have HSw := Lib.hid (fun m => (HR.out.drewN m).swap j3 a (by rw [HS.out]; omega) (by rw [HS.out]; omega))
                obtain ⟨X, hX⟩ : ∃ X, dk[j3]! = X := ⟨_, rfl⟩
                obtain ⟨Y, hY⟩ : ∃ Y, dk[a]! = Y := ⟨_, rfl⟩
                rw [hY] at c3 f3
                obtain ⟨Z, hZ⟩ : ∃ Z, (dk.setIfInBounds j3 Y)[a]! = Z := ⟨_, rfl⟩
                rw [hZ] at c3
                clear hZ
                rw [hX] at c1 HSw
                rw [hY] at c2 HSw
                clear hX hY
                go_upto_region 21 with fail
                go_region
                all_goals go_wp2_with fail
                go_ret2
                rw [HP2.out]
                exact ⟨rfl, HSw.out _, ((hw.drewN _).set _ _).set _ _⟩
              · have hgI : ¬ (j3 : Int) < (i3 : Int) := by omega
                have hlt := part_scans_lt ltInt a i j dk (by omega) Hi3.out.symm Hj3.out.symm (by omega)
                have HG := Lib.hid (part_go ltInt a i j dk Hi3.out.symm Hj3.out.symm (by omega))
                have q1 : (0 : Int) ≤ (i3 : Int) := by omega
                have q2 : (i3 : Int) < (n : Int) := by omega
                have q3 : (0 : Int) ≤ (j3 : Int) := by omega
                have q4 : (j3 : Int) < (n : Int) := by omega
                have q5 : IntKind.i64.wrap ((i3 : Int) + 1) = (i3 : Int) + 1 := by rw [IntKind.wrap_i64]; omega
                have q6 : IntKind.i64.wrap ((j3 : Int) - 1) = (j3 : Int) - 1 := by rw [IntKind.wrap_i64]; omega
                obtain ⟨c1, f1⟩ := HR.out i3 (by rw [HS.out]; omega)
                obtain ⟨c2, f2⟩ := HR.out j3 (by rw [HS.out]; omega)
                obtain ⟨c3, f3⟩ := (HR.out.set i3 dk[j3]! (by rw [HS.out]; omega)) j3 (by rw [Array.size_setIfInBounds, HS.out]; omega)
                have HSw := Lib.hid (fun m => (HR.out.drewN m).swap i3 j3 (by rw [HS.out]; omega) (by rw [HS.out]; omega))
                obtain ⟨X, hX⟩ : ∃ X, dk[i3]! = X := ⟨_, rfl⟩
                obtain ⟨Y, hY⟩ : ∃ Y, dk[j3]! = Y := ⟨_, rfl⟩
                rw [hY] at c3 f3
                obtain ⟨Z, hZ⟩ : ∃ Z, (dk.setIfInBounds i3 Y)[j3]! = Z := ⟨_, rfl⟩
                rw [hZ] at c3
                clear hZ
                rw [hX] at c1 HSw
                rw [hY] at c2 HSw
                clear hX hY
                go_upto_region 18 with fail
                go_region
                all_goals go_wp2_with fail
                go_roundw
                case rel => exact ⟨i3 + 1, j3 - 1, _, by go_num, by congr 1; omega, by omega, by omega, by omega, Lib.hid (by rw [swp_size]; exact HS.out), Lib.hid (HSw.out _), Lib.hid (by rw [← HQ.out, HG.out]), ((hw.drewN _).set _ _).set _ _⟩
                case measure => simp [RowKit.intOf]; omega
end Go.Proofs.Ytchjjbklkmfelaa

/- The library's sort at uint8: patterns broken. -/
namespace Go.Proofs.Ytchjjbklkmfelaa
open Go.RowKit Go.Lib Go.Deep
open Go.Sort (swp ltInt SWO bitsLen xorNext breakStep breakPatterns)
set_option linter.unusedVariables false
set_option linter.unusedSimpArgs false

theorem bitsLen_le {x : Nat} (h : x < 50) : bitsLen x ≤ 6 := by
  unfold bitsLen
  split
  · omega
  · have : Nat.log2 x < 6 := (Nat.log2_lt (by omega)).2 (by omega)
    omega
theorem len8_at (y : Int) (h : y.toNat < Lib.len8tab.size) : ((Lib.len8tab[y.toNat]'h).toNat : Int) = Lib.len8 y := by
  unfold Lib.len8
  rw [getElem?_pos Lib.len8tab y.toNat h]
  rfl
theorem len8_small : ∀ n : Fin 50, Lib.len8 (n.val : Int) = (bitsLen n.val : Int) := by decide +kernel
set_option maxHeartbeats 1000000 in
set_option maxRecDepth 100000 in
theorem len64_calls (x : Nat) (w : World) (hx : x < 50) : Calls Try.prog 82 #[.int .u64 (x : Int)] w fun e w' => e = .returned (.int .i64 (bitsLen x : Int)) ∧ w' = w := by
  obtain ⟨X, hX⟩ : ∃ X : Int, (x : Int) = X := ⟨_, rfl⟩
  have hz : (bitsLen x : Int) = Lib.len8 X := by rw [← hX]; exact (len8_small ⟨x, hx⟩).symm
  have h4 : X < 50 := by omega
  have h5 : (0 : Int) ≤ X := by omega
  have h6 : IntKind.u8.wrap X = X := by rw [IntKind.wrap_u8]; omega
  have h7 : X % 256 = X := by omega
  have h8 : wrap64 (wrap64 (Lib.len8 X)) = Lib.len8 X := by
    have := bitsLen_le hx
    rw [← hz]
    unfold wrap64
    omega
  have H8 := Lib.hid h8
  have H7 := Lib.hid h7
  rw [hX, hz]
  clear hz hX h7 h8 hx
  go_enter Try.func82, Try.ntmps82
  go_wp2_with fail
  go_ret
  refine ⟨?_, rfl⟩
  show Ending.returned (Value.int .i64 (wrap64 (wrap64 _))) = _
  rw [len8_at, H8.out]

set_option maxHeartbeats 1000000 in
set_option maxRecDepth 100000 in
theorem len_calls8 (x : Nat) (w : World) (hx : x < 50) : Calls Try.prog 67 #[.int .u64 (x : Int)] w fun e w' => e = .returned (.int .i64 (bitsLen x : Int)) ∧ w' = w := by
  have HL := Lib.hid (len64_calls x w hx)
  go_enter Try.func67, Try.ntmps67
  go_wp2_with fail
  refine HL.out.mono ?_
  rintro e w' ⟨rfl, rfl⟩
  go_wp2_with fail
  go_ret
  exact ⟨rfl, rfl⟩
set_option maxHeartbeats 1000000 in
set_option maxRecDepth 100000 in
theorem npow_calls (x : Nat) (w : World) (hx : x < 50) : Calls Try.prog 88 #[.int .i64 (x : Int)] w fun e w' => e = .returned (.int .u64 ((1 <<< bitsLen x : Nat) : Int)) ∧ w' = w := by
  have HL := Lib.hid (len_calls8 x w hx)
  have hw : IntKind.u64.wrap (x : Int) = (x : Int) := by rw [u64_wrap]; omega
  have hb := bitsLen_le hx
  obtain ⟨k, hk⟩ : ∃ k, bitsLen x = k := ⟨_, rfl⟩
  rw [hk] at HL hb ⊢
  clear hk
  have hp : (1 <<< k : Nat) = 2 ^ k := by rw [Nat.shiftLeft_eq, Nat.one_mul]
  have hpl : 2 ^ k ≤ 64 := by
    have := Nat.pow_le_pow_right (n := 2) (by decide) hb
    exact this
  have hpI : ((2 ^ k : Nat) : Int) = (2 : Int) ^ k := by rw [Int.natCast_pow]; rfl
  have hw2 : IntKind.u64.wrap ((2 : Int) ^ k) = (2 : Int) ^ k := by
    rw [u64_wrap, ← hpI]
    generalize 2 ^ k = p at hpl
    omega
  have hk1 : (k : Int) < 64 := by omega
  have hk0 : (0 : Int) ≤ (k : Int) := by omega
  rw [hp, hpI]
  go_enter Try.func88, Try.ntmps88
  go_wp2_with fail
  refine HL.out.mono ?_
  rintro e w' ⟨rfl, rfl⟩
  go_wp2_with fail
  go_ret
  exact ⟨by first | rfl | (congr 2), rfl⟩

def RBox (w : World) (rb : Nat) (r : UInt64) : Prop := w.cell? ⟨rb, 0, none⟩ = some (.int .u64 (r.toNat : Int)) ∧ w.frozen? ⟨rb, 0, none⟩ = false

theorem xs_left (r : UInt64) (k : UInt64) (m : Nat) (hk : k.toNat < 64) (hm : 2 ^ k.toNat = m) : bits .xor .u64 (r.toNat : Int) (IntKind.u64.wrap ((r.toNat : Int) * (m : Int))) = ((r ^^^ (r <<< k)).toNat : Int) := by
  have hr := r.toNat_lt
  have e : IntKind.u64.wrap ((r.toNat : Int) * (m : Int)) = ((r.toNat * m % 18446744073709551616 : Nat) : Int) := by rw [u64_wrap, Int.natCast_emod, Int.natCast_mul]; rfl
  rw [e, u64_xor_nat _ _ hr (Nat.mod_lt _ (by decide)), UInt64.toNat_xor, UInt64.toNat_shiftLeft, Nat.mod_eq_of_lt hk, Nat.shiftLeft_eq, hm]
theorem xs_right (r : UInt64) (k : UInt64) (m : Nat) (hk : k.toNat < 64) (hm : 2 ^ k.toNat = m) : bits .xor .u64 (r.toNat : Int) ((r.toNat : Int) / (m : Int)) = ((r ^^^ (r >>> k)).toNat : Int) := by
  have hr := r.toNat_lt
  rw [← Int.natCast_ediv, u64_xor_nat _ _ hr (Nat.lt_of_le_of_lt (Nat.div_le_self _ _) hr), UInt64.toNat_xor, UInt64.toNat_shiftRight, Nat.mod_eq_of_lt hk, Nat.shiftRight_eq_div_pow, hm]

set_option maxHeartbeats 1000000 in
set_option maxRecDepth 100000 in
theorem xor_calls (rb : Nat) (r : UInt64) (w : World) (h : RBox w rb r) : Calls Try.prog 89 #[.pointer (some ⟨rb, 0, none⟩)] w fun e w' => e = .returned (.int .u64 ((xorNext r).toNat : Int)) ∧ RBox w' rb (xorNext r) ∧ OnlyAt rb w w' := by
  obtain ⟨c1, f1⟩ := h
  obtain ⟨ra, hra⟩ : ∃ x, r ^^^ (r <<< 13) = x := ⟨_, rfl⟩
  obtain ⟨rc, hrc⟩ : ∃ x, ra ^^^ (ra >>> 7) = x := ⟨_, rfl⟩
  obtain ⟨re, hre⟩ : ∃ x, rc ^^^ (rc <<< 17) = x := ⟨_, rfl⟩
  have hx1 := xs_left r 13 8192 (by decide) (by decide)
  have hx2 := xs_right ra 7 128 (by decide) (by decide)
  have hx3 := xs_left rc 17 131072 (by decide) (by decide)
  have hn : xorNext r = re := by unfold xorNext; simp only; rw [hra, hrc, hre]
  rw [hra] at hx1
  rw [hrc] at hx2
  rw [hre] at hx3
  rw [hn]
  have l1 := r.toNat_lt
  have l2 := ra.toNat_lt
  have l3 := rc.toNat_lt
  obtain ⟨R, hR⟩ : ∃ R : Int, (r.toNat : Int) = R := ⟨_, rfl⟩
  obtain ⟨A, hA⟩ : ∃ R : Int, (ra.toNat : Int) = R := ⟨_, rfl⟩
  obtain ⟨C, hC⟩ : ∃ R : Int, (rc.toNat : Int) = R := ⟨_, rfl⟩
  obtain ⟨E, hE⟩ : ∃ R : Int, (re.toNat : Int) = R := ⟨_, rfl⟩
  rw [hR] at c1
  have r0 : 0 ≤ R := by omega
  have r1 : R < 18446744073709551616 := by omega
  have a0 : 0 ≤ A := by omega
  have a1 : A < 18446744073709551616 := by omega
  have e0 : 0 ≤ C := by omega
  have e1 : C < 18446744073709551616 := by omega
  rw [hR, hA] at hx1
  rw [hA, hC] at hx2
  rw [hC, hE] at hx3
  have HX1 : Hid (bits .xor .u64 R (IntKind.u64.wrap (R * 8192)) = A) := hx1
  have HX2 : Hid (bits .xor .u64 A (A / 128) = C) := hx2
  have HX3 : Hid (bits .xor .u64 C (IntKind.u64.wrap (C * 131072)) = E) := hx3
  have HE := Lib.hid hE
  rw [hE]
  clear hx1 hx2 hx3 l1 l2 l3 hR hA hC hE hra hrc hre hn
  go_enter Try.func89, Try.ntmps89
  go_upto_region 1 with fail
  go_region
  rw [HX1.out]
  have d1 : OnlyAt rb w (w.setCell ⟨rb, 0, none⟩ (.int .u64 A)).drew := ((OnlyAt.refl rb w).set 0 (.int .u64 A)).drewN 1
  have D1 := Lib.hid d1
  have c2 : (w.setCell ⟨rb, 0, none⟩ (.int .u64 A)).drew.cell? ⟨rb, 0, none⟩ = some (.int .u64 A) := cell_set_same c1
  have f2 : (w.setCell ⟨rb, 0, none⟩ (.int .u64 A)).drew.frozen? ⟨rb, 0, none⟩ = false := by show (w.setCell ⟨rb, 0, none⟩ (.int .u64 A)).frozen? ⟨rb, 0, none⟩ = false; rw [World.frozen?_setCell]; exact f1
  obtain ⟨W1, hW⟩ : ∃ W, (w.setCell ⟨rb, 0, none⟩ (.int .u64 A)).drew = W := ⟨_, rfl⟩
  rw [hW] at D1 c2 f2 ⊢
  clear hW d1 c1 f1
  go_upto_region 2 with fail
  go_region
  rw [HX2.out]
  have d1 := (D1.out.set 0 (.int .u64 C)).drewN 1
  have D2 : Hid (OnlyAt rb w (W1.setCell ⟨rb, 0, none⟩ (.int .u64 C)).drew) := d1
  have c1 : (W1.setCell ⟨rb, 0, none⟩ (.int .u64 C)).drew.cell? ⟨rb, 0, none⟩ = some (.int .u64 C) := cell_set_same c2
  have f1 : (W1.setCell ⟨rb, 0, none⟩ (.int .u64 C)).drew.frozen? ⟨rb, 0, none⟩ = false := by show (W1.setCell ⟨rb, 0, none⟩ (.int .u64 C)).frozen? ⟨rb, 0, none⟩ = false; rw [World.frozen?_setCell]; exact f2
  obtain ⟨W2, hW⟩ : ∃ W, (W1.setCell ⟨rb, 0, none⟩ (.int .u64 C)).drew = W := ⟨_, rfl⟩
  rw [hW] at D2 c1 f1 ⊢
  clear hW d1 c2 f2 D1
  go_upto_region 3 with fail
  go_region
  rw [HX3.out]
  have d1 := (D2.out.set 0 (.int .u64 E)).drewN 1
  have D3 : Hid (OnlyAt rb w (W2.setCell ⟨rb, 0, none⟩ (.int .u64 E)).drew) := d1
  have c2 : (W2.setCell ⟨rb, 0, none⟩ (.int .u64 E)).drew.cell? ⟨rb, 0, none⟩ = some (.int .u64 E) := cell_set_same c1
  have f2 : (W2.setCell ⟨rb, 0, none⟩ (.int .u64 E)).drew.frozen? ⟨rb, 0, none⟩ = false := by show (W2.setCell ⟨rb, 0, none⟩ (.int .u64 E)).frozen? ⟨rb, 0, none⟩ = false; rw [World.frozen?_setCell]; exact f1
  obtain ⟨W3, hW⟩ : ∃ W, (W2.setCell ⟨rb, 0, none⟩ (.int .u64 E)).drew = W := ⟨_, rfl⟩
  rw [hW] at D3 c2 f2 ⊢
  clear hW d1 c1 f1 D2
  go_wp2_with fail
  go_ret
  exact ⟨rfl, ⟨by rw [HE.out]; exact c2, f2⟩, D3.out⟩
end Go.Proofs.Ytchjjbklkmfelaa

/- The library's sort at uint8: patterns broken. -/
namespace Go.Proofs.Ytchjjbklkmfelaa
open Go.RowKit Go.Lib Go.Deep
open Go.Sort (swp ltInt SWO bitsLen xorNext breakStep breakPatterns)
set_option linter.unusedVariables false
set_option linter.unusedSimpArgs false

theorem OnlyAt.new {g rb : Nat} {a b c : World} (h : OnlyAt g a b) (h2 : OnlyAt rb b c) (hr : a.heap.size ≤ rb) : OnlyAt g a c :=
  ⟨h2.os.trans h.os, h2.tape.trans h.tape, h2.output.trans h.output, Nat.le_trans h.size h2.size, fun k hk hne => (h2.block k (Nat.lt_of_lt_of_le hk h.size) (fun e => by injection e with e; omega)).trans (h.block k hk hne)⟩
def bpr (a L M p : Nat) (d : Array Int) : Nat → UInt64 × Array Int
  | 0 => (UInt64.ofNat L, d)
  | t + 1 => breakStep a L M (bpr a L M p d t) (p + t)
theorem bpr_end {a L : Nat} {d : Array Int} (hL : 8 ≤ L) : breakPatterns d a (a + L) = (bpr a L (1 <<< bitsLen L) (a + L / 4 * 2 - 1) d 3).2 := by
  unfold breakPatterns
  simp only [Nat.add_sub_cancel_left]
  rw [if_pos (show L ≥ 8 from hL)]
  rfl
theorem modulus_le {L : Nat} (hL : 0 < L) : 1 <<< bitsLen L ≤ 2 * L ∧ 1 ≤ 1 <<< bitsLen L := by
  rw [Nat.shiftLeft_eq, Nat.one_mul]
  unfold bitsLen
  rw [if_neg (by omega), Nat.pow_succ]
  have := Nat.log2_self_le (show L ≠ 0 by omega)
  have h2 : 0 < 2 ^ Nat.log2 L := Nat.pow_pos (by decide)
  omega
theorem RBox.stay {w : World} {g rb : Nat} {r : UInt64} {i j : Nat} {u v : Value} (h : RBox w rb r) (hne : g ≠ rb) : RBox ((w.setCell ⟨g, i, none⟩ u).setCell ⟨g, j, none⟩ v) rb r :=
  ⟨by rw [World.cell?_setCell_other _ _ _ _ (by intro h; injection h with h; omega), World.cell?_setCell_other _ _ _ _ (by intro h; injection h with h; omega)]; exact h.1, by rw [World.frozen?_setCell, World.frozen?_setCell]; exact h.2⟩
theorem lt_cut {L M o : Nat} (hm : M ≤ 2 * L) (ho : o ≤ M - 1) (hL : 0 < L) : (if L ≤ o then o - L else o) < L := by
  by_cases h : L ≤ o
  · rw [if_pos h]; omega
  · rw [if_neg h]; omega
theorem bpr_size (a L M p : Nat) (d : Array Int) (t : Nat) : (bpr a L M p d t).2.size = d.size := by
  induction t with
  | zero => rfl
  | succ t ih =>
    unfold bpr breakStep
    rw [swp_size, ih]

set_option maxHeartbeats 2000000 in
set_option maxRecDepth 100000 in
theorem break_calls (g cap a L : Nat) (d : Array Int) (w : World) (hA : Arr w g d) (hg : g < w.heap.size) (hL8 : 8 ≤ L) (hL : L < 50) (hb : a + L ≤ d.size) (hsz : d.size ≤ 1000000) :
    Calls Try.prog 74 #[.slice (some ⟨g, 0, none⟩) d.size cap, .int .i64 (a : Int), .int .i64 ((a + L : Nat) : Int)] w fun e w' => e = .returned (.tuple #[]) ∧ Arr w' g (breakPatterns d a (a + L)) ∧ OnlyAt g w w' := by
  rw [bpr_end hL8]
  obtain ⟨n, hn⟩ : ∃ n, d.size = n := ⟨_, rfl⟩
  have hbs := bpr_size a L (1 <<< bitsLen L) (a + L / 4 * 2 - 1) d
  rw [hn] at hb hsz hbs ⊢
  obtain ⟨hm1, hm2⟩ := modulus_le (show 0 < L by omega)
  have HNp := Lib.hid (fun X => npow_calls L X hL)
  obtain ⟨M, hM⟩ : ∃ M, 1 <<< bitsLen L = M := ⟨_, rfl⟩
  rw [hM] at hm1 hm2 hbs HNp ⊢
  obtain ⟨p, hp⟩ : ∃ p, a + L / 4 * 2 - 1 = p := ⟨_, rfl⟩
  rw [hp] at hbs ⊢
  obtain ⟨Q, hQ⟩ : ∃ Q, L / 4 = Q := ⟨_, rfl⟩
  have hp1 : (a : Int) + (Q : Int) * 2 - 1 = (p : Int) := by omega
  have hp2 : (a : Int) + (Q : Int) * 2 + 1 = (p : Int) + 2 := by omega
  have hpa : a ≤ p ∧ p + 3 ≤ a + L := by omega
  have hbI : ((a + L : Nat) : Int) - (a : Int) = (L : Int) := by omega
  have hwL : IntKind.i64.wrap (L : Int) = (L : Int) := by rw [IntKind.wrap_i64]; omega
  have hwL2 : IntKind.u64.wrap (L : Int) = (L : Int) := by rw [u64_wrap]; omega
  have hq : (L : Int).tdiv 4 = (Q : Int) := by rw [Int.tdiv_eq_ediv_of_nonneg (by omega)]; omega
  have hwQ : IntKind.i64.wrap (Q : Int) = (Q : Int) := by rw [IntKind.wrap_i64]; omega
  have hwQ2 : IntKind.i64.wrap ((Q : Int) * 2) = (Q : Int) * 2 := by rw [IntKind.wrap_i64]; omega
  have hwQ3 : IntKind.i64.wrap ((a : Int) + (Q : Int) * 2) = (a : Int) + (Q : Int) * 2 := by rw [IntKind.wrap_i64]; omega
  have hwp1 : IntKind.i64.wrap (p : Int) = (p : Int) := by rw [IntKind.wrap_i64]; omega
  have hwp2 : IntKind.i64.wrap ((p : Int) + 2) = (p : Int) + 2 := by rw [IntKind.wrap_i64]; omega
  have hL8I : (8 : Int) ≤ (L : Int) := by omega
  have hM1 : IntKind.u64.wrap ((M : Int) - 1) = (M : Int) - 1 := by rw [u64_wrap]; omega
  obtain ⟨B, hB⟩ : ∃ B, ((a + L : Nat) : Int) = B := ⟨_, rfl⟩
  rw [hB] at hbI ⊢
  have HN := Lib.hid hn
  have HBs := Lib.hid hbs
  obtain ⟨rb, hrb⟩ : ∃ rb, w.heap.size = rb := ⟨_, rfl⟩
  have hb1 := (Go.RowKit.Below.refl w.heap.size w).alloc (Nat.le_refl _) (.cells #[.int .u64 (L : Int)] 145)
  have HA1 := Lib.hid (hA.below hb1 hg)
  have HR1 : Hid (RBox (w.alloc (.cells #[.int .u64 (L : Int)] 145)) rb (UInt64.ofNat L)) := Lib.hid ⟨by
    have e : ((UInt64.ofNat L).toNat : Int) = (L : Int) := by
      rw [UInt64.toNat_ofNat', Nat.mod_eq_of_lt (by omega)]
    rw [e, ← hrb]; simp, by rw [← hrb]; simp⟩
  have HO1 : Hid (OnlyAt g w (w.alloc (.cells #[.int .u64 (L : Int)] 145))) := Lib.hid (World.grownBy_alloc w _ _)
  have HRb := Lib.hid hrb
  have hgr : g ≠ rb := by omega
  clear hn hbs hM hp hQ hB hA hb1
  go_enter Try.func74, Try.ntmps74
  go_upto_region 3 with fail
  obtain ⟨W, hW⟩ : ∃ W, w.alloc (.cells #[.int .u64 (L : Int)] 145) = W := ⟨_, rfl⟩
  rw [hW] at HA1 HR1 HO1 ⊢
  clear hW hrb
  go_wp2_with fail
  refine (HNp.out W).mono ?_
  rintro e w1 ⟨rfl, rfl⟩
  go_wp2_with fail
  have HGl : Hid (g < w1.heap.size) := Lib.hid (Nat.lt_of_lt_of_le hg HO1.out.size)
  go_loopw [9] (fun vi wr => ∃ t : Nat, vi = .int .i64 ((p + t : Nat) : Int) ∧ t ≤ 3 ∧ Hid (Arr wr g (bpr a L M p d t).2) ∧ Hid (RBox wr rb (bpr a L M p d t).1) ∧ OnlyAt g w wr) (fun vi _ => p + 3 - (RowKit.intOf vi).toNat)
  case atStart => exact ⟨0, rfl, by omega, HA1, HR1, HO1.out⟩
  case round =>
    obtain ⟨t, rfl, ht, HA, HR, hw⟩ := hrel
    clear HA1 HR1 HO1 HGl HNp
    have HS0 := HBs.out t
    obtain ⟨x, hx⟩ : ∃ x, p + t = x := ⟨_, rfl⟩
    rw [hx]
    by_cases ht3 : t < 3
    · have HNext : Hid (bpr a L M p d (t + 1) = breakStep a L M (bpr a L M p d t) x) := Lib.hid (by rw [← hx]; rfl)
      obtain ⟨⟨r, dk⟩, hst⟩ : ∃ z, bpr a L M p d t = z := ⟨_, rfl⟩
      rw [hst] at HA HR HNext HS0
      simp only at HA HR HS0
      have HS := Lib.hid HS0
      have hx1 : (x : Int) ≤ (p : Int) + 2 := by omega
      have hx0 : (0 : Int) ≤ (x : Int) := by omega
      have hxn : (x : Int) < (n : Int) := by omega
      have hwx : IntKind.i64.wrap ((x : Int) + 1) = (x : Int) + 1 := by rw [IntKind.wrap_i64]; omega
      have hX := Lib.hid hx
      have HXor := Lib.hid (xor_calls rb r wr HR.out)
      have hrl := (xorNext r).toNat_lt
      obtain ⟨o1, ho1⟩ : ∃ o1, (xorNext r).toNat &&& (M - 1) = o1 := ⟨_, rfl⟩
      have hol : o1 ≤ M - 1 := by rw [← ho1]; exact Nat.and_le_right
      have hand : bits .and .u64 ((xorNext r).toNat : Int) ((M : Int) - 1) = (o1 : Int) := by
        rw [show (M : Int) - 1 = ((M - 1 : Nat) : Int) by omega, u64_and_nat _ _ hrl (by omega), ho1]
      obtain ⟨R, hR⟩ : ∃ R : Int, ((xorNext r).toNat : Int) = R := ⟨_, rfl⟩
      rw [hR] at HXor hand
      have HRe := Lib.hid hR
      have hR0 : 0 ≤ R := by omega
      have HAnd := Lib.hid hand
      have HWo : Hid (wrap64 (o1 : Int) = (o1 : Int)) := Lib.hid (by unfold wrap64; omega)
      have HSt : Hid (breakStep a L M (r, dk) x = (xorNext r, swp dk x (a + if L ≤ o1 then o1 - L else o1))) := Lib.hid (by unfold breakStep; simp only; rw [ho1])
      have HO1 := Lib.hid ho1
      obtain ⟨O, hO⟩ : ∃ O, (if L ≤ o1 then o1 - L else o1) = O := ⟨_, rfl⟩
      rw [hO] at HSt
      have hOl : O < L := hO ▸ lt_cut hm1 hol (by omega)
      have HO2 := Lib.hid hO
      clear hst hx hand hR hrl ho1 HS0 hO
      go_wp2_with fail
      refine HXor.out.mono ?_
      rintro e w2 ⟨rfl, hr2, ho2⟩
      have hw3 := hw.new ho2 (by rw [HRb.out]; exact Nat.le_refl _)
      have HA3 := Lib.hid (HA.out.only ho2 hgr (Nat.lt_of_lt_of_le hg hw.size))
      have HR3 := Lib.hid hr2
      clear HXor hr2 ho2 HA HR hw
      go_upto_region 8 with fail
      rw [HAnd.out, HWo.out]
      go_upto_if 43 with fail
      go_cut [10] (fun v wx => v = .int .i64 (O : Int) ∧ wx = w2)
      case first =>
        have hO := HO2.out
        by_cases hl : L ≤ o1
        · have hlI : (L : Int) ≤ (o1 : Int) := by omega
          rw [if_pos hl] at hO
          have hOI : (o1 : Int) - (L : Int) = (O : Int) := by omega
          have hwO : IntKind.i64.wrap (O : Int) = (O : Int) := by rw [IntKind.wrap_i64]; omega
          have HO := Lib.hid hO
          clear hO
          go_wp2_with fail
          go_meet
          case rel => exact ⟨rfl, rfl⟩
        · have hlI : ¬ (L : Int) ≤ (o1 : Int) := by omega
          rw [if_neg hl] at hO
          subst hO
          go_wp2_with fail
          go_meet
          case rel => exact ⟨rfl, rfl⟩
      case rest =>
        obtain ⟨rfl, rfl⟩ := hcut
        have q1 : (0 : Int) ≤ (a : Int) + (O : Int) := by omega
        have q2 : (a : Int) + (O : Int) < (n : Int) := by omega
        have q3 : ((a : Int) + (O : Int)).toNat = a + O := by omega
        have q4 : IntKind.i64.wrap ((a : Int) + (O : Int)) = (a : Int) + (O : Int) := by rw [IntKind.wrap_i64]; omega
        have HR := HA3
        have hgw := HR3
        obtain ⟨c1, f1⟩ := HR.out x (by rw [HS.out]; omega)
        obtain ⟨c2, f2⟩ := HR.out (a + O) (by rw [HS.out]; omega)
        obtain ⟨c3, f3⟩ := (HR.out.set x dk[(a + O)]! (by rw [HS.out]; omega)) (a + O) (by rw [Array.size_setIfInBounds, HS.out]; omega)
        have HSw := Lib.hid (fun m => (HR.out.drewN m).swap x (a + O) (by rw [HS.out]; omega) (by rw [HS.out]; omega))
        obtain ⟨X, hX⟩ : ∃ X, dk[x]! = X := ⟨_, rfl⟩
        obtain ⟨Y, hY⟩ : ∃ Y, dk[(a + O)]! = Y := ⟨_, rfl⟩
        rw [hY] at c3 f3
        obtain ⟨Z, hZ⟩ : ∃ Z, (dk.setIfInBounds x Y)[(a + O)]! = Z := ⟨_, rfl⟩
        rw [hZ] at c3
        clear hZ
        rw [hX] at c1 HSw
        rw [hY] at c2 HSw
        clear hX hY
        go_upto_region 10 with fail
        go_region
        all_goals go_wp2_with fail
        go_roundw
        case rel =>
          refine ⟨t + 1, ?_, by omega, Lib.hid (by rw [HNext.out, HSt.out]; exact HSw.out _), Lib.hid ?_, ((hw3.drewN _).set _ _).set _ _⟩
          · have := hX.out
            congr 1
            omega
          · rw [HNext.out, HSt.out]
            exact HR3.out.stay (by omega)
        case measure => simp [RowKit.intOf]; have := hX.out; omega
    · have ht4 : t = 3 := by omega
      subst ht4
      have hx1 : ¬ (x : Int) ≤ (p : Int) + 2 := by omega
      go_wp2_with fail
      go_end0
      exact ⟨rfl, HA.out, hw⟩
end Go.Proofs.Ytchjjbklkmfelaa

/- The library's sort at uint8: one round of pdqsort, in plain Lean. -/
namespace Go.Proofs.Ytchjjbklkmfelaa
open Go.RowKit Go.Lib Go.Deep
open Go.Sort (swp ltInt bitsLen breakPatterns pdq partition partitionEqual scanSorted partialInsertionSort rd)
set_option linter.unusedVariables false
set_option linter.unusedSimpArgs false

/-- What one round of the loop does, where fewer than 50 are left. -/
structure Round (d : Array Int) (a b lim : Nat) (wb wp : Bool) (D1 : Array Int) (l1 P SW : Nat) : Prop where
  size : D1.size = d.size
  lo : a ≤ P
  hi : P < b
  le : l1 ≤ lim
  pv : piv D1 a (b - a) = (P, SW)
  sw : SW ≤ 3
  yes : wb = true → D1 = d ∧ l1 = lim
  no : wb = false → D1 = breakPatterns d a b ∧ l1 = lim - 1
  done : (wb && wp && decide (SW = 0) && decide (scanSorted ltInt D1 b (a + 1) = b)) = true → pdq ltInt d a b lim wb wp = D1
  eq : (wb && wp && decide (SW = 0) && decide (scanSorted ltInt D1 b (a + 1) = b)) = false → (decide (a > 0) && !ltInt D1[a - 1]! D1[P]!) = true → ∀ mid d4, partitionEqual ltInt D1 a b P = (mid, d4) → a < mid ∧ mid ≤ b ∧ d4.size = d.size ∧ Go.Sort.Below ltInt mid b d4 ∧ pdq ltInt d a b lim wb wp = pdq ltInt d4 mid b l1 wb wp
  part : (wb && wp && decide (SW = 0) && decide (scanSorted ltInt D1 b (a + 1) = b)) = false → (decide (a > 0) && !ltInt D1[a - 1]! D1[P]!) = false → ∀ mid ap d4, partition ltInt D1 a b P = (mid, ap, d4) → a ≤ mid ∧ mid < b ∧ d4.size = d.size ∧ Go.Sort.Below ltInt a mid d4 ∧ Go.Sort.Below ltInt (mid + 1) b d4 ∧
    (mid - a < b - mid → (pdq ltInt d4 a mid l1 true true).size = d.size ∧ Go.Sort.Below ltInt (mid + 1) b (pdq ltInt d4 a mid l1 true true) ∧ pdq ltInt d a b lim wb wp = pdq ltInt (pdq ltInt d4 a mid l1 true true) (mid + 1) b l1 (decide (mid - a ≥ (b - a) / 8)) ap) ∧
    (¬ mid - a < b - mid → (pdq ltInt d4 (mid + 1) b l1 true true).size = d.size ∧ Go.Sort.Below ltInt a mid (pdq ltInt d4 (mid + 1) b l1 true true) ∧ pdq ltInt d a b lim wb wp = pdq ltInt (pdq ltInt d4 (mid + 1) b l1 true true) a mid l1 (decide (b - mid ≥ (b - a) / 8)) ap)

theorem round_law (d : Array Int) (a b lim : Nat) (wb wp : Bool) (hL : b - a < 50) (h12 : ¬ b - a ≤ 12) (h0 : ¬ lim = 0) (hb : b ≤ d.size) (hB : Go.Sort.Below ltInt a b d) :
    ∃ D1 l1 P SW, Round d a b lim wb wp D1 l1 P SW := by
  have hab : a < b := by omega
  obtain ⟨s1, B1, hc1, s2, B2, hpv, s3, B3⟩ := Go.Sort.rd_facts (limit := lim) (wb := wb) (wp := wp) Go.Sort.swo_ltInt Go.Sort.partialInsertionSort_holds Go.Sort.reverseRange_holds hab hb hB
  have hle : (rd ltInt d a b lim wb wp).lim ≤ lim := Go.Sort.rd_lim_le
  have hy : wb = true → (rd ltInt d a b lim wb wp).d1 = d ∧ (rd ltInt d a b lim wb wp).lim = lim := fun e => by subst e; exact Go.Sort.rd_true
  have hn : wb = false → (rd ltInt d a b lim wb wp).d1 = breakPatterns d a b ∧ (rd ltInt d a b lim wb wp).lim = lim - 1 := fun e => by subst e; exact Go.Sort.rd_false
  have hc : (rd ltInt d a b lim wb wp).c = Go.Sort.choosePivot ltInt (rd ltInt d a b lim wb wp).d1 a b := Go.Sort.rd_c
  have hch := choose_piv (rd ltInt d a b lim wb wp).d1 a (b - a) hL
  rw [show a + (b - a) = b by omega, ← hc] at hch
  obtain ⟨_, _, hsw⟩ := piv_bd (rd ltInt d a b lim wb wp).d1 (a := a) (L := b - a) (by omega)
  have hnd : (rd ltInt d a b lim wb wp).c.2 ≠ .decreasing := by
    rw [hch]
    simp only
    by_cases e : (piv (rd ltInt d a b lim wb wp).d1 a (b - a)).2 = 0
    · rw [if_pos e]; decide
    · rw [if_neg e, if_neg (by omega)]; decide
  obtain ⟨e2, ep, eh⟩ := Go.Sort.rd_not hnd
  have hhint : decide ((rd ltInt d a b lim wb wp).hint = .increasing) = decide ((piv (rd ltInt d a b lim wb wp).d1 a (b - a)).2 = 0) := by
    rw [eh, hch]
    simp only
    by_cases e : (piv (rd ltInt d a b lim wb wp).d1 a (b - a)).2 = 0
    · rw [if_pos e, e]; simp
    · rw [if_neg e, if_neg (by omega), decide_eq_false e]; simp
  have hpi : (rd ltInt d a b lim wb wp).pi = ((rd ltInt d a b lim wb wp).d1, wb && wp && decide ((piv (rd ltInt d a b lim wb wp).d1 a (b - a)).2 = 0) && decide (scanSorted ltInt (rd ltInt d a b lim wb wp).d1 b (a + 1) = b)) := by
    cases hq : (wb && wp && decide ((rd ltInt d a b lim wb wp).hint = .increasing))
    · rw [Go.Sort.rd_pi_no hq, ← hhint, hq, e2]; rfl
    · rw [Go.Sort.rd_pi_yes hq, ← hhint, hq, e2, pis_small hL]; rfl
  have hp : piv (rd ltInt d a b lim wb wp).d1 a (b - a) = ((rd ltInt d a b lim wb wp).pivot, (piv (rd ltInt d a b lim wb wp).d1 a (b - a)).2) := by
    rw [ep, hch]
  have hpi1 : (rd ltInt d a b lim wb wp).pi.1 = (rd ltInt d a b lim wb wp).d1 := by rw [hpi]
  rw [hpi1] at B3
  have Hq : ∀ {h2 : Bool}, (wb && wp && decide ((piv (rd ltInt d a b lim wb wp).d1 a (b - a)).2 = 0) && decide (scanSorted ltInt (rd ltInt d a b lim wb wp).d1 b (a + 1) = b)) = h2 → (rd ltInt d a b lim wb wp).pi.2 = h2 := fun h => by rw [hpi]; exact h
  refine ⟨(rd ltInt d a b lim wb wp).d1, (rd ltInt d a b lim wb wp).lim, (rd ltInt d a b lim wb wp).pivot, (piv (rd ltInt d a b lim wb wp).d1 a (b - a)).2, s1, hpv.1, hpv.2, hle, hp, by omega, hy, hn, ?_, ?_, ?_⟩
  · intro hq
    rw [Go.Sort.pdq_done h12 h0 (Hq hq), hpi1]
  · intro hq h87 mid d4 hx
    have h87' := h87
    simp only [Bool.and_eq_true, decide_eq_true_eq, Bool.not_eq_true'] at h87'
    obtain ⟨r1, r2, r3, r4, _⟩ := Go.Sort.round_eq Go.Sort.swo_ltInt (Go.Sort.partitionEqual_holds ltInt) h87'.1 hpv.1 hpv.2 (by omega) B3 h87'.2 hx
    refine ⟨r1, r2, r3.trans s1, r4, ?_⟩
    have := Go.Sort.pdq_eq h12 h0 (Hq hq) (by rw [hpi1]; exact h87) (by rw [hpi1, hx]; exact ⟨r1, r2⟩)
    rw [hpi1, hx] at this
    exact this
  · intro hq h87 mid ap d4 hx
    obtain ⟨r1, r2, r3, r4, r5, r6, r7⟩ := Go.Sort.round_part Go.Sort.swo_ltInt (Go.Sort.partition_holds ltInt) hpv.1 hpv.2 (by omega) B3 hx
    refine ⟨r1, r2, r3.trans s1, r4, r5, fun h4 => ?_, fun h4 => ?_⟩
    · obtain ⟨pL, sL⟩ := Go.Sort.pdq_sorts ltInt Go.Sort.swo_ltInt d4 a mid (rd ltInt d a b lim wb wp).lim true true (by omega) (by omega) r4
      refine ⟨by rw [pL.1, r3, s1], (r6 _ pL sL).1, ?_⟩
      have := Go.Sort.pdq_left h12 h0 (Hq hq) (by rw [hpi1]; exact h87) (by rw [hpi1, hx]; exact ⟨r1, r2⟩) (by rw [hpi1, hx]; exact h4)
      rw [hpi1, hx] at this
      exact this
    · obtain ⟨pL, sL⟩ := Go.Sort.pdq_sorts ltInt Go.Sort.swo_ltInt d4 (mid + 1) b (rd ltInt d a b lim wb wp).lim true true (by omega) (by omega) r5
      refine ⟨by rw [pL.1, r3, s1], (r7 _ pL sL).1, ?_⟩
      have := Go.Sort.pdq_right h12 h0 (Hq hq) (by rw [hpi1]; exact h87) (by rw [hpi1, hx]; exact ⟨r1, r2⟩) (by rw [hpi1, hx]; exact h4)
      rw [hpi1, hx] at this
      exact this
theorem round_small {d : Array Int} {a b lim : Nat} {wb wp : Bool} (h : b - a ≤ 12) : pdq ltInt d a b lim wb wp = Go.Sort.insertionSort ltInt d a b := Go.Sort.pdq_small h
theorem round_heap {d : Array Int} {a b lim : Nat} {wb wp : Bool} (h : ¬ b - a ≤ 12) (h0 : lim = 0) : pdq ltInt d a b lim wb wp = Go.Sort.heapSort ltInt d a b := Go.Sort.pdq_heap h h0
end Go.Proofs.Ytchjjbklkmfelaa

/- The library's sort at uint8: pdqsort walked. -/
namespace Go.Proofs.Ytchjjbklkmfelaa
open Go.RowKit Go.Lib Go.Deep
open Go.Sort (swp ltInt bitsLen breakPatterns pdq partition partitionEqual scanSorted)
set_option linter.unusedVariables false
set_option linter.unusedSimpArgs false

set_option maxHeartbeats 6400000 in
set_option maxRecDepth 1000000 in
theorem pdq_calls : ∀ (N g cap a b limit : Nat) (d : Array Int) (w : World), b - a < N → Arr w g d → g < w.heap.size → a ≤ b → b ≤ d.size → d.size < 50 → limit ≤ 64 → Go.Sort.Below ltInt a b d →
    Calls Try.prog 66 #[.slice (some ⟨g, 0, none⟩) d.size cap, .int .i64 (a : Int), .int .i64 (b : Int), .int .i64 (limit : Int)] w fun e w' => e = .returned (.tuple #[]) ∧ Arr w' g (pdq ltInt d a b limit true true) ∧ OnlyAt g w w' := by
  intro N
  induction N with
  | zero => intro _ _ _ _ _ _ _ h; exact absurd h (Nat.not_lt_zero _)
  | succ N ih =>
    intro g cap a b limit d w hN hA hg hab hb hsz hlimit hBel0
    obtain ⟨n, hn⟩ : ∃ n, d.size = n := ⟨_, rfl⟩
    have IH := Lib.hid (fun a b lim (dk : Array Int) w (e : dk.size = n) h1 h2 h3 h4 h5 h6 h7 => by
      have := ih g cap a b lim dk w h1 h2 h3 h4 h5 (by omega) h6 h7
      rw [e] at this
      exact this)
    have HD0 : Hid (d.size = n ∧ Go.Sort.Below ltInt a b d) := Lib.hid ⟨hn, hBel0⟩
    have HA0 := Lib.hid hA
    obtain ⟨R, hR⟩ : ∃ R, pdq ltInt d a b limit true true = R := ⟨_, rfl⟩
    have HR := Lib.hid hR
    rw [hn] at hb hsz ⊢
    rw [hR]
    clear hR hn hBel0 hA ih
    go_enter Try.func66, Try.ntmps66
    go_wp2_with fail
    go_loopg [1, 2, 3, 8, 9] (b - a) (fun k s1 s2 s3 s8 s9 wr => ∃ (a' b' lim : Nat) (wb wp : Bool) (dk : Array Int), s1 = .int .i64 (a' : Int) ∧ s2 = .int .i64 (b' : Int) ∧ s3 = .int .i64 (lim : Int) ∧ s8 = .bool wb ∧ s9 = .bool wp ∧
      a' ≤ b' ∧ b' ≤ n ∧ b' - a' ≤ k ∧ k ≤ b - a ∧ lim ≤ 64 ∧ Hid (dk.size = n ∧ Go.Sort.Below ltInt a' b' dk) ∧ Hid (Arr wr g dk) ∧ OnlyAt g w wr ∧ Hid (pdq ltInt dk a' b' lim wb wp = R))
    case atStart => exact ⟨a, b, limit, true, true, d, rfl, rfl, rfl, rfl, rfl, hab, hb, Nat.le_refl _, Nat.le_refl _, hlimit, HD0, HA0, OnlyAt.refl _ _, HR⟩
    case round =>
      obtain ⟨a', b', lim, wb, wp, dk, rfl, rfl, rfl, rfl, rfl, hab', hb', hk, hkN, hlim, HD, HA, hw, HE⟩ := hrel
      clear HD0 HA0 HR
      have hgr : g < wr.heap.size := Nat.lt_of_lt_of_le hg hw.size
      obtain ⟨L, hL⟩ : ∃ L, b' - a' = L := ⟨_, rfl⟩
      have hLI : (b' : Int) - (a' : Int) = (L : Int) := by omega
      have hwL : IntKind.i64.wrap (L : Int) = (L : Int) := by rw [IntKind.wrap_i64]; omega
      by_cases h12 : L ≤ 12
      · have h12z : (L : Int) ≤ 12 := by omega
        have hc := insertion_calls g cap a' b' dk wr HA.out hab' (by rw [HD.out.1]; exact hb') (by rw [HD.out.1]; omega)
        rw [HD.out.1] at hc
        have HC := Lib.hid hc
        clear hc
        go_wp2_with fail
        refine HC.out.mono ?_
        rintro e w1 ⟨rfl, h1, h2⟩
        have H1 := Lib.hid h1
        clear h1
        go_wp2_with fail
        exact bodyPost_ret (v := .tuple #[]) (results_none rfl _ _ _) rfl ⟨rfl, by rw [← HE.out, round_small (by omega)]; exact H1.out, hw.trans h2⟩
      · have h12z : ¬ (L : Int) ≤ 12 := by omega
        by_cases hl0 : lim = 0
        · subst hl0
          have hc := heap_calls g cap a' b' dk wr HA.out (by omega) (by rw [HD.out.1]; exact hb') (by rw [HD.out.1]; omega)
          rw [HD.out.1] at hc
          have HC := Lib.hid hc
          clear hc
          go_wp2_with fail
          refine HC.out.mono ?_
          rintro e w1 ⟨rfl, h1, h2⟩
          have H1 := Lib.hid h1
          clear h1
          go_wp2_with fail
          exact bodyPost_ret (v := .tuple #[]) (results_none rfl _ _ _) rfl ⟨rfl, by rw [← HE.out, round_heap (by omega) rfl]; exact H1.out, hw.trans h2⟩
        · have hl0z : ¬ (lim : Int) = 0 := by omega
          obtain ⟨D1, l1, P, SW, hRd⟩ := round_law dk a' b' lim wb wp (by omega) (by omega) hl0 (by rw [HD.out.1]; exact hb') HD.out.2
          have HRd := Lib.hid hRd
          have hPl := hRd.lo
          have hPh := hRd.hi
          have hl1 := hRd.le
          have hS1 : D1.size = n := hRd.size.trans HD.out.1
          have HS1 := Lib.hid hS1
          clear hRd hS1
          go_upto_if 35 with fail
          go_cut [3] (fun v3 wx => v3 = .int .i64 (l1 : Int) ∧ Hid (Arr wx g D1) ∧ OnlyAt g w wx)
          case first =>
            cases wb
            · have hc := break_calls g cap a' L dk wr HA.out hgr (by omega) (by omega) (by rw [HD.out.1]; omega) (by rw [HD.out.1]; omega)
              rw [HD.out.1, show a' + L = b' by omega, ← (HRd.out.no rfl).1] at hc
              have HC := Lib.hid hc
              have hl := (HRd.out.no rfl).2
              have hlI : (lim : Int) - 1 = (l1 : Int) := by omega
              have hwl : IntKind.i64.wrap (l1 : Int) = (l1 : Int) := by rw [IntKind.wrap_i64]; omega
              clear hc hl
              go_wp2_with fail
              refine HC.out.mono ?_
              rintro e w1 ⟨rfl, h1, h2⟩
              have H1 := Lib.hid h1
              have h3 := hw.trans h2
              clear h1 h2
              go_wp2_with fail
              go_meet
              case rel => exact ⟨rfl, H1, h3⟩
            · have hd := (HRd.out.yes rfl).1
              have hl := (HRd.out.yes rfl).2
              subst hd
              subst hl
              go_wp2_with fail
              go_meet
              case rel => exact ⟨rfl, HA, hw⟩
          case rest =>
            obtain ⟨rfl, HA1, hw1⟩ := hcut
            have hg1 : g < wc.heap.size := Nat.lt_of_lt_of_le hg hw1.size
            have hc := choose_calls g cap a' L D1 wc HA1.out hg1 (by omega) (by omega) (by rw [HS1.out]; omega) (by rw [HS1.out]; omega)
            have hpv := HRd.out.pv
            rw [hL] at hpv
            rw [HS1.out, show a' + L = b' by omega, hpv] at hc
            simp only at hc
            obtain ⟨h, hh⟩ : ∃ h : Int, (if SW = 0 then (1 : Int) else 0) = h := ⟨_, rfl⟩
            rw [hh] at hc
            have hh2 : ¬ h = 2 := by rw [← hh]; split <;> omega
            have HC := Lib.hid hc
            have HH := Lib.hid hh
            clear hc hpv hh HA hw
            go_wp2_with fail
            refine HC.out.mono ?_
            rintro e w1 ⟨rfl, hbl⟩
            have HA2 := Lib.hid (HA1.out.below hbl hg1)
            have hw2 : OnlyAt g w w1 := hw1.trans ⟨hbl.os, hbl.tape, hbl.output, hbl.size, fun k hk hne => hbl.block k hk⟩
            clear HC hbl HA1 hw1
            go_upto_region 15 with fail
            go_cut [68] (fun v wx => v = .bool (wb && wp && decide (SW = 0)) ∧ wx = w1)
            case first =>
              by_cases hs : SW = 0
              · have hh := HH.out
                rw [if_pos hs] at hh
                subst hh
                cases wb <;> cases wp <;> (go_wp2_with fail; go_meet; exact ⟨by simp [hs], rfl⟩)
              · have hh := HH.out
                rw [if_neg hs] at hh
                subst hh
                cases wb <;> cases wp <;> (go_wp2_with fail; go_meet; exact ⟨by simp [hs], rfl⟩)
            case rest =>
              obtain ⟨rfl, rfl⟩ := hcut
              go_upto_if 68 with fail
              obtain ⟨Q0, hQ0⟩ : ∃ Q0, (wb && wp && decide (SW = 0)) = Q0 := ⟨_, rfl⟩
              obtain ⟨S, hS⟩ : ∃ S, decide (scanSorted ltInt D1 b' (a' + 1) = b') = S := ⟨_, rfl⟩
              have HQS : Hid ((wb && wp && decide (SW = 0) && decide (scanSorted ltInt D1 b' (a' + 1) = b')) = (Q0 && S)) := Lib.hid (by rw [hQ0, hS])
              have HS := Lib.hid hS
              rw [hQ0]
              clear hQ0 hS
              go_cut [] (fun wx => Hid ((Q0 && S) = false) ∧ Hid (Arr wx g D1) ∧ OnlyAt g w wx)
              case first =>
                cases Q0
                · go_wp2_with fail
                  go_meet
                  case rel => exact ⟨Lib.hid rfl, HA2, hw2⟩
                · have hc := partial_calls g cap a' b' D1 wc HA2.out (by omega) (by rw [HS1.out]; exact hb') (by omega) (by rw [HS1.out]; omega)
                  rw [HS1.out, HS.out] at hc
                  have HC := Lib.hid hc
                  clear hc
                  cases S
                  · go_wp2_with fail
                    refine HC.out.mono ?_
                    rintro e w3 ⟨rfl, m, rfl⟩
                    go_wp2_with fail
                    go_meet
                    case rel => exact ⟨Lib.hid rfl, Lib.hid (HA2.out.drewN m), hw2.drewN m⟩
                  · have HDn := Lib.hid (HRd.out.done HQS.out)
                    go_wp2_with fail
                    refine HC.out.mono ?_
                    rintro e w3 ⟨rfl, m, rfl⟩
                    go_wp2_with fail
                    exact bodyPost_ret (v := .tuple #[]) (results_none rfl _ _ _) rfl ⟨rfl, by rw [← HE.out, HDn.out]; exact HA2.out.drewN m, hw2.drewN m⟩
              case rest =>
                obtain ⟨hq, HA3, hw3⟩ := hcut
                have HQ : Hid ((wb && wp && decide (SW = 0) && decide (scanSorted ltInt D1 b' (a' + 1) = b')) = false) := Lib.hid (HQS.out.trans hq.out)
                clear hq HQS HS HA2 hw2 HH hh2
                have hg3 : g < wc.heap.size := Nat.lt_of_lt_of_le hg hw3.size
                obtain ⟨T, hT⟩ : ∃ T, (decide (a' > 0) && !ltInt D1[a' - 1]! D1[P]!) = T := ⟨_, rfl⟩
                have HT := Lib.hid hT
                clear hT
                obtain ⟨wv, hwv⟩ : ∃ wv, wv = wc := ⟨_, rfl⟩
                rw [← hwv] at HA3 hw3 hg3 ⊢
                clear hwv
                go_upto_region 17 with fail
                go_cut [87] (fun v wx => v = .bool T ∧ Hid (Arr wx g D1) ∧ OnlyAt g w wx)
                case first =>
                  obtain ⟨c2, f2⟩ := HA3.out P (by rw [HS1.out]; omega)
                  have hPn : (P : Int) < (n : Int) := by omega
                  have hP0 : (0 : Int) ≤ (P : Int) := by omega
                  rcases Nat.eq_zero_or_pos a' with ha0 | ha0
                  · have ht := HT.out
                    have hz : decide ((a' : Int) > 0) = false := decide_eq_false (by omega)
                    rw [decide_eq_false (show ¬ a' > 0 by omega), Bool.false_and] at ht
                    subst ht
                    go_quiet (first | (go_at_call 78; refine Calls.quiet_of_same (less_calls _ _ _)))
                    go_wp2_with fail
                    go_meet
                    case rel => exact ⟨rfl, Lib.hid (HA3.out.drewN _), hw3.drewN _⟩
                  · have ht := HT.out
                    rw [decide_eq_true (show a' > 0 by omega), Bool.true_and] at ht
                    obtain ⟨c1, f1⟩ := HA3.out (a' - 1) (by rw [HS1.out]; omega)
                    obtain ⟨p, hp⟩ : ∃ p, a' - 1 = p := ⟨_, rfl⟩
                    rw [hp] at c1 f1 ht
                    have hz : (0 : Int) < (a' : Int) := by omega
                    have hpI : (a' : Int) - 1 = (p : Int) := by omega
                    have hwp : IntKind.i64.wrap (p : Int) = (p : Int) := by rw [IntKind.wrap_i64]; omega
                    have hpn : (p : Int) < (n : Int) := by omega
                    obtain ⟨X, hX⟩ : ∃ X, D1[p]! = X := ⟨_, rfl⟩
                    obtain ⟨Y, hY⟩ : ∃ Y, D1[P]! = Y := ⟨_, rfl⟩
                    rw [hX] at c1 ht
                    rw [hY] at c2 ht
                    obtain ⟨l, hl⟩ : ∃ l, ltInt X Y = l := ⟨_, rfl⟩
                    rw [hl] at ht
                    subst ht
                    have HL := Lib.hid hl
                    clear hl hX hY hp
                    go_quiet (first | (go_at_call 78; refine Calls.quiet_of_same (less_is HL.out _)))
                    go_wp2_with fail
                    go_meet
                    case rel => exact ⟨rfl, Lib.hid (HA3.out.drewN _), hw3.drewN _⟩
                case rest =>
                  obtain ⟨rfl, HA4, hw4⟩ := hcut
                  clear HA3 hw3 hg3
                  have hg4 : g < wc.heap.size := Nat.lt_of_lt_of_le hg hw4.size
                  cases T
                  · obtain ⟨mid, ap, d4, hx⟩ : ∃ mid ap d4, partition ltInt D1 a' b' P = (mid, ap, d4) := ⟨_, _, _, rfl⟩
                    have hc := partition_calls g cap a' b' P D1 wc HA4.out hPl hPh (by rw [HS1.out]; exact hb') (by rw [HS1.out]; omega)
                    rw [HS1.out, hx] at hc
                    simp only at hc
                    have HP := Lib.hid (HRd.out.part HQ.out HT.out mid ap d4 hx)
                    have HC := Lib.hid hc
                    clear hc hx HT HQ HRd
                    have hm1 := HP.out.1
                    have hm2 := HP.out.2.1
                    obtain ⟨l, hl⟩ : ∃ l, mid - a' = l := ⟨_, rfl⟩
                    obtain ⟨r, hr⟩ : ∃ r, b' - mid = r := ⟨_, rfl⟩
                    obtain ⟨E, hE⟩ : ∃ E, L / 8 = E := ⟨_, rfl⟩
                    have hlI : (mid : Int) - (a' : Int) = (l : Int) := by omega
                    have hrI : (b' : Int) - (mid : Int) = (r : Int) := by omega
                    have hwl : IntKind.i64.wrap (l : Int) = (l : Int) := by rw [IntKind.wrap_i64]; omega
                    have hwr : IntKind.i64.wrap (r : Int) = (r : Int) := by rw [IntKind.wrap_i64]; omega
                    have hEI : (L : Int).tdiv 8 = (E : Int) := by rw [Int.tdiv_eq_ediv_of_nonneg (by omega)]; omega
                    have hwE : IntKind.i64.wrap (E : Int) = (E : Int) := by rw [IntKind.wrap_i64]; omega
                    have hwm : IntKind.i64.wrap ((mid : Int) + 1) = (mid : Int) + 1 := by rw [IntKind.wrap_i64]; omega
                    obtain ⟨M1, hM1⟩ : ∃ M1 : Nat, mid + 1 = M1 := ⟨_, rfl⟩
                    have hM1I : (mid : Int) + 1 = (M1 : Int) := by omega
                    have HM1 := Lib.hid hM1
                    have hm3 : M1 ≤ b' := by omega
                    have hm4 : b' - M1 < N := by omega
                    have hm5 : mid - a' < N := by omega
                    rw [hM1I] at hwm
                    rw [hM1] at HP
                    have Hl := Lib.hid hl
                    have Hr := Lib.hid hr
                    have HE8 := Lib.hid hE
                    have HLL := Lib.hid hL
                    clear hl hr hE hM1
                    go_upto_region 20 with fail
                    go_wp2_with fail
                    refine HC.out.mono ?_
                    rintro e w5 ⟨rfl, h1, h2⟩
                    have H5 := Lib.hid h1
                    have hw5 := hw4.trans h2
                    have hg5 : g < w5.heap.size := Nat.lt_of_lt_of_le hg hw5.size
                    clear h1 h2 HC HA4 hw4 hg4
                    have HD4 : Hid (d4.size = n) := Lib.hid (HP.out.2.2.1.trans HD.out.1)
                    by_cases hlr : l < r
                    · have hlrI : (l : Int) < (r : Int) := by omega
                      obtain ⟨q1, q2, q3⟩ := HP.out.2.2.2.2.2.1 (by rw [Hl.out, Hr.out]; exact hlr)
                      have hci := IH.out a' mid l1 d4 w5 HD4.out hm5 H5.out hg5 hm1 (by rw [HD4.out]; omega) (by omega) HP.out.2.2.2.1
                      obtain ⟨dn, hdn⟩ : ∃ dn, pdq ltInt d4 a' mid l1 true true = dn := ⟨_, rfl⟩
                      rw [hdn] at hci q1 q2 q3
                      have HCI := Lib.hid hci
                      have HQ := Lib.hid (And.intro q1 (And.intro q2 q3))
                      clear hci q1 q2 q3 hdn HP
                      go_wp2_with fail
                      refine HCI.out.mono ?_
                      rintro e w6 ⟨rfl, h1, h2⟩
                      have H6 := Lib.hid h1
                      have hw6 := hw5.trans h2
                      clear h1 h2 HCI
                      go_wp2_with fail
                      go_roundg (b' - M1)
                      case measure => omega
                      case rel =>
                        refine ⟨M1, b', l1, decide (mid - a' ≥ (b' - a') / 8), ap, dn, rfl, rfl, rfl, ?_, rfl, hm3, hb', Nat.le_refl _, by omega, by omega, Lib.hid ⟨HQ.out.1.trans HD.out.1, HQ.out.2.1⟩, H6, hw6, Lib.hid (HQ.out.2.2.symm.trans HE.out)⟩
                        exact congrArg Value.bool (decide_eq_decide.2 (by rw [Hl.out, HLL.out, HE8.out]))
                    · have hlrI : ¬ (l : Int) < (r : Int) := by omega
                      obtain ⟨q1, q2, q3⟩ := HP.out.2.2.2.2.2.2 (by rw [Hl.out, Hr.out]; exact hlr)
                      have hci := IH.out M1 b' l1 d4 w5 HD4.out hm4 H5.out hg5 hm3 (by rw [HD4.out]; omega) (by omega) HP.out.2.2.2.2.1
                      obtain ⟨dn, hdn⟩ : ∃ dn, pdq ltInt d4 M1 b' l1 true true = dn := ⟨_, rfl⟩
                      rw [hdn] at hci q1 q2 q3
                      have HCI := Lib.hid hci
                      have HQ := Lib.hid (And.intro q1 (And.intro q2 q3))
                      clear hci q1 q2 q3 hdn HP
                      go_wp2_with fail
                      refine HCI.out.mono ?_
                      rintro e w6 ⟨rfl, h1, h2⟩
                      have H6 := Lib.hid h1
                      have hw6 := hw5.trans h2
                      clear h1 h2 HCI
                      go_wp2_with fail
                      go_roundg (mid - a')
                      case measure => omega
                      case rel =>
                        refine ⟨a', mid, l1, decide (b' - mid ≥ (b' - a') / 8), ap, dn, rfl, rfl, rfl, ?_, rfl, hm1, by omega, Nat.le_refl _, by omega, by omega, Lib.hid ⟨HQ.out.1.trans HD.out.1, HQ.out.2.1⟩, H6, hw6, Lib.hid (HQ.out.2.2.symm.trans HE.out)⟩
                        exact congrArg Value.bool (decide_eq_decide.2 (by rw [Hr.out, HLL.out, HE8.out]))
                  · obtain ⟨mid, d4, hx⟩ : ∃ mid d4, partitionEqual ltInt D1 a' b' P = (mid, d4) := ⟨_, _, rfl⟩
                    have hc := partEq_calls g cap a' b' P D1 wc HA4.out hPl hPh (by rw [HS1.out]; exact hb') (by rw [HS1.out]; omega)
                    rw [HS1.out, hx] at hc
                    simp only at hc
                    have HP := Lib.hid (HRd.out.eq HQ.out HT.out mid d4 hx)
                    have HC := Lib.hid hc
                    clear hc hx HT HQ HRd
                    have hm1 := HP.out.1
                    have hm2 := HP.out.2.1
                    go_wp2_with fail
                    refine HC.out.mono ?_
                    rintro e w5 ⟨rfl, h1, h2⟩
                    have H5 := Lib.hid h1
                    have hw5 := hw4.trans h2
                    clear h1 h2 HC HA4 hw4 hg4
                    go_wp2_with fail
                    go_roundg (b' - mid)
                    case measure => omega
                    case rel => exact ⟨mid, b', l1, wb, wp, d4, rfl, rfl, rfl, rfl, rfl, hm2, hb', Nat.le_refl _, by omega, by omega, Lib.hid ⟨HP.out.2.2.1.trans HD.out.1, HP.out.2.2.2.1⟩, H5, hw5, Lib.hid (HP.out.2.2.2.2.symm.trans HE.out)⟩
end Go.Proofs.Ytchjjbklkmfelaa

/- The library's sort at uint8: slices.Sort. -/
namespace Go.Proofs.Ytchjjbklkmfelaa
open Go.RowKit Go.Lib Go.Deep
open Go.Sort (swp ltInt bitsLen pdq sort)
set_option linter.unusedVariables false
set_option linter.unusedSimpArgs false

set_option maxHeartbeats 1000000 in
set_option maxRecDepth 100000 in
theorem sort_calls (g cap : Nat) (d : Array Int) (w : World) (hA : Arr w g d) (hg : g < w.heap.size) (hsz : d.size < 50) :
    Calls Try.prog 49 #[.slice (some ⟨g, 0, none⟩) d.size cap] w fun e w' => e = .returned (.tuple #[]) ∧ Arr w' g (sort ltInt d) ∧ OnlyAt g w w' := by
  obtain ⟨n, hn⟩ : ∃ n, d.size = n := ⟨_, rfl⟩
  have hp := pdq_calls (n + 1) g cap 0 n (bitsLen n) d w (by omega) hA hg (by omega) (by omega) hsz (by have := bitsLen_le (x := n) (by omega); omega) (Or.inl rfl)
  have hs : sort ltInt d = pdq ltInt d 0 n (bitsLen n) true true := by unfold sort; rw [hn]
  rw [← hs] at hp
  rw [hn] at hp hsz ⊢
  obtain ⟨R, hR⟩ : ∃ R, sort ltInt d = R := ⟨_, rfl⟩
  rw [hR] at hp ⊢
  obtain ⟨l, hl⟩ : ∃ l, bitsLen n = l := ⟨_, rfl⟩
  have HL := Lib.hid (fun X => len_calls8 n X hsz)
  rw [hl] at hp HL
  have HP := Lib.hid hp
  have hwn : IntKind.u64.wrap (n : Int) = (n : Int) := by rw [u64_wrap]; omega
  clear hp hs hR hl hn hA
  go_enter Try.func49, Try.ntmps49
  go_wp2_with fail
  refine (HL.out _).mono ?_
  rintro e w1 ⟨rfl, rfl⟩
  go_wp2_with fail
  refine HP.out.mono ?_
  rintro e w1 ⟨rfl, h1, h2⟩
  have H1 := Lib.hid h1
  clear h1
  go_wp2_with fail
  go_end0
  exact ⟨rfl, H1.out, h2⟩

set_option maxHeartbeats 1000000 in
set_option maxRecDepth 100000 in
theorem insertion_nil (w : World) : Calls Try.prog 72 #[.slice none 0 0, .int .i64 0, .int .i64 0] w fun e w' => e = .returned (.tuple #[]) ∧ w' = w := by
  go_enter Try.func72, Try.ntmps72
  go_wp2_with fail
  go_loopw [6] (fun vi wr => vi = .int .i64 1 ∧ wr = w) (fun vi _ => 0)
  case atStart => exact ⟨rfl, rfl⟩
  case round =>
    obtain ⟨rfl, rfl⟩ := hrel
    go_wp2_with fail
    go_end0
    exact ⟨rfl, rfl⟩
set_option maxHeartbeats 1000000 in
set_option maxRecDepth 100000 in
theorem pdq_nil (w : World) (l : Int) : Calls Try.prog 66 #[.slice none 0 0, .int .i64 0, .int .i64 0, .int .i64 l] w fun e w' => e = .returned (.tuple #[]) ∧ w' = w := by
  have HI := Lib.hid (insertion_nil w)
  go_enter Try.func66, Try.ntmps66
  go_wp2_with fail
  go_loopw [1, 2, 3, 8, 9] (fun v1 v2 v3 v8 v9 wr => v1 = .int .i64 0 ∧ v2 = .int .i64 0 ∧ wr = w) (fun _ _ _ _ _ _ => 0)
  case atStart => exact ⟨rfl, rfl, rfl⟩
  case round =>
    obtain ⟨rfl, rfl, rfl⟩ := hrel
    go_wp2_with fail
    refine HI.out.mono ?_
    rintro e w1 ⟨rfl, rfl⟩
    go_wp2_with fail
    exact bodyPost_ret (v := .tuple #[]) (results_none rfl _ _ _) rfl ⟨rfl, rfl⟩
set_option maxHeartbeats 1000000 in
set_option maxRecDepth 100000 in
theorem sort_nil (w : World) : Calls Try.prog 49 #[.slice none 0 0] w fun e w' => e = .returned (.tuple #[]) ∧ w' = w := by
  have HL := Lib.hid (fun X => len_calls8 0 X (by omega))
  have HP := Lib.hid (pdq_nil w)
  go_enter Try.func49, Try.ntmps49
  go_wp2_with fail
  refine (HL.out _).mono ?_
  rintro e w1 ⟨rfl, rfl⟩
  go_wp2_with fail
  refine (HP.out _).mono ?_
  rintro e w1 ⟨rfl, rfl⟩
  go_wp2_with fail
  go_end0
  exact ⟨rfl, rfl⟩
end Go.Proofs.Ytchjjbklkmfelaa

/- slices.Compact at uint8. -/
namespace Go.Proofs.Ytchjjbklkmfelaa
open Go.RowKit Go.Lib Go.Deep
set_option linter.unusedVariables false
set_option linter.unusedSimpArgs false

theorem Arr.zeroed {g : Nat} : ∀ (m k : Nat) (d : Array Int) (w : World), Arr w g d → k + m ≤ d.size →
    ∃ d', Arr (w.setCells g k (List.replicate m (.int .u8 0))) g d' ∧ d'.size = d.size ∧ (∀ j, j < k → d'[j]! = d[j]!) ∧ OnlyAt g w (w.setCells g k (List.replicate m (.int .u8 0)))
  | 0, k, d, w, h, _ => ⟨d, h, rfl, fun _ _ => rfl, OnlyAt.refl _ _⟩
  | m + 1, k, d, w, h, hk => by
    obtain ⟨d', h1, h2, h3, h4⟩ := Arr.zeroed m (k + 1) (d.setIfInBounds k 0) (w.setCell ⟨g, k, none⟩ (.int .u8 0)) (h.set k 0 (by omega)) (by simp; omega)
    refine ⟨d', h1, by simpa using h2, fun j hj => (h3 j (by omega)).trans (Go.Sort.getElem!_set_other d k j 0 (by omega)), ?_⟩
    exact ((OnlyAt.refl g w).set k _).trans h4

set_option maxHeartbeats 4000000 in
set_option maxRecDepth 1000000 in
theorem compact_calls (g cap : Nat) (d : Array Int) (w : World) (hA : Arr w g d) (hsz : d.size ≤ 1000) (hcap : d.size ≤ cap) :
    Calls Try.prog 50 #[.slice (some ⟨g, 0, none⟩) d.size cap] w fun e w' => ∃ (l : Nat) (dk : Array Int), e = .returned (.slice (some ⟨g, 0, none⟩) l cap) ∧ l = (compactUpTo d d.size).length ∧ Arr w' g dk ∧ dk.size = d.size ∧ (∀ j, j < l → (compactUpTo d d.size)[j]? = some dk[j]!) ∧ OnlyAt g w w' := by
  have hall0 : (∀ j, j < d.size → keeps d j = true) → (compactUpTo d d.size).length = d.size ∧ ∀ j, j < d.size → (compactUpTo d d.size)[j]? = some d[j]! := fun h => by
    rw [compactUpTo_all d d.size h]
    refine ⟨by simp, fun j hj => ?_⟩
    simp [hj]
  obtain ⟨n, hn⟩ : ∃ n, d.size = n := ⟨_, rfl⟩
  rw [hn] at hsz hcap hall0 ⊢
  have HALL := Lib.hid hall0
  have HN := Lib.hid hn
  have HA := Lib.hid hA
  clear hall0 hn hA
  by_cases h2 : n < 2
  · have h2I : (n : Int) < 2 := by omega
    go_enter Try.func50, Try.ntmps50
    go_wp2_with fail
    go_ret
    obtain ⟨e1, e2⟩ := HALL.out (fun j hj => keeps_lt_one d j (by omega))
    exact ⟨n, d, rfl, e1.symm, HA.out, HN.out, e2, OnlyAt.refl _ _⟩
  · have h2I : ¬ (n : Int) < 2 := by omega
    go_enter Try.func50, Try.ntmps50
    go_wp2_with fail
    go_loopg [3] n (fun t s3 wr => ∃ k : Nat, 1 ≤ k ∧ k ≤ n ∧ n - k ≤ t ∧ s3 = .int .i64 (k : Int) ∧ Hid (Arr wr g d) ∧ OnlyAt g w wr ∧ Hid (∀ j, j < k → keeps d j = true))
    case atStart => exact ⟨1, Nat.le_refl _, by omega, by omega, rfl, HA, OnlyAt.refl _ _, Lib.hid (keeps_lt_one d)⟩
    case round =>
      obtain ⟨k, hk1, hk, hg, rfl, HA, hw, HK⟩ := hrel
      by_cases hlt : k < n
      · have hltI : (k : Int) < (n : Int) := by omega
        have hk0 : (0 : Int) ≤ (k : Int) := by omega
        obtain ⟨c1, f1⟩ := HA.out k (by rw [HN.out]; omega)
        obtain ⟨p, hp⟩ : ∃ p, k - 1 = p := ⟨_, rfl⟩
        have hpI : (k : Int) - 1 = (p : Int) := by omega
        have hwp : IntKind.i64.wrap (p : Int) = (p : Int) := by rw [IntKind.wrap_i64]; omega
        have hpn : (p : Int) < (n : Int) := by omega
        have hwk : IntKind.i64.wrap ((k : Int) + 1) = (k : Int) + 1 := by rw [IntKind.wrap_i64]; omega
        obtain ⟨c0, f0⟩ := HA.out p (by rw [HN.out]; omega)
        obtain ⟨x, hx⟩ : ∃ x, d[k]! = x := ⟨_, rfl⟩
        obtain ⟨y, hy⟩ : ∃ y, d[p]! = y := ⟨_, rfl⟩
        rw [hx] at c1
        rw [hy] at c0
        have HXY : Hid (d[k]! = x ∧ d[k - 1]! = y) := Lib.hid ⟨hx, by rw [hp]; exact hy⟩
        have HP := Lib.hid hp
        clear hx hy hp
        by_cases hdup : x = y
        · subst hdup
          go_upto_region 6 with fail
          go_quiet (fail)
          go_upto_region 8 with fail
          go_wp2_with fail
          obtain ⟨q, hq⟩ : ∃ q, n - k = q := ⟨_, rfl⟩
          rw [hq]
          obtain ⟨c, hc⟩ : ∃ c, cap - k = c := ⟨_, rfl⟩
          rw [hc]
          have HCq := Lib.hid hc
          have hkq : k + q = n := by omega
          clear hq hc
          have HS0 : Hid (CompInv d (k + 1) k d) := Lib.hid (CompInv.start HK.out (keeps_neg (by omega) (by rw [HXY.out.1, HXY.out.2])))
          go_loopg [3, 5] n (fun t s3 s5 wl => ∃ (kk k2 : Nat) (dk : Array Int), s3 = .int .i64 (kk : Int) ∧ s5 = .int .i64 (k2 : Int) ∧ 1 ≤ k2 ∧ k2 ≤ q ∧ q - k2 ≤ t ∧ kk < k + k2 ∧ Hid (CompInv d (k + k2) kk dk) ∧ Hid (Arr wl g dk) ∧ OnlyAt g w wl)
          case atStart => exact ⟨k, 1, d, rfl, rfl, Nat.le_refl _, by omega, by omega, by omega, HS0, Lib.hid (HA.out.drewN _), hw.drewN _⟩
          case round =>
            obtain ⟨kk, k2, dk, rfl, rfl, h1, hle, hg2, hkk, HI, HA2, hw2⟩ := hrel
            clear c1 c0 f1 f0 HA hw HS0
            have hds : dk.size = n := HI.out.size.trans HN.out
            by_cases hlt2 : k2 < q
            · have hlt2I : (k2 : Int) < (q : Int) := by omega
              have hk20 : (0 : Int) ≤ (k2 : Int) := by omega
              obtain ⟨cm, fm⟩ := HA2.out (k + k2) (by omega)
              obtain ⟨p2, hp2⟩ : ∃ p2, k2 - 1 = p2 := ⟨_, rfl⟩
              have hp2I : (k2 : Int) - 1 = (p2 : Int) := by omega
              have hwp2 : IntKind.i64.wrap (p2 : Int) = (p2 : Int) := by rw [IntKind.wrap_i64]; omega
              have hp2q : (p2 : Int) < (q : Int) := by omega
              obtain ⟨cp, fp⟩ := HA2.out (k + p2) (by omega)
              obtain ⟨ck, fk⟩ := HA2.out kk (by omega)
              have hkn : (kk : Int) < (n : Int) := by omega
              have hk0 : (0 : Int) ≤ (kk : Int) := by omega
              have hwkk : IntKind.i64.wrap ((kk : Int) + 1) = (kk : Int) + 1 := by rw [IntKind.wrap_i64]; omega
              have hwk2 : IntKind.i64.wrap ((k2 : Int) + 1) = (k2 : Int) + 1 := by rw [IntKind.wrap_i64]; omega
              rw [HI.out.high (k + k2) (by omega)] at cm
              rw [HI.out.high (k + p2) (by omega)] at cp
              obtain ⟨u, hu⟩ : ∃ u, d[k + k2]! = u := ⟨_, rfl⟩
              obtain ⟨v, hv⟩ : ∃ v, d[k + p2]! = v := ⟨_, rfl⟩
              rw [hu] at cm
              rw [hv] at cp
              have HUV : Hid (d[k + k2]! = u ∧ d[k + k2 - 1]! = v) := Lib.hid ⟨hu, by rw [show k + k2 - 1 = k + p2 by omega]; exact hv⟩
              have HDS := Lib.hid hds
              clear hu hv hp2 hds
              by_cases huv : u = v
              · subst huv
                go_upto_region 11 with fail
                go_quiet (fail)
                go_wp2_with fail
                go_roundg (q - (k2 + 1))
                case measure => omega
                case rel => exact ⟨kk, k2 + 1, dk, rfl, rfl, by omega, by omega, Nat.le_refl _, by omega, Lib.hid (HI.out.skip (keeps_neg (by omega) (by rw [HUV.out.1, HUV.out.2]))), Lib.hid (HA2.out.drewN _), hw2.drewN _⟩
              · have hne : (u == v) = false := beq_eq_false_iff_ne.2 huv
                have HI2 := Lib.hid (HI.out.keep (by rw [HN.out]; omega) (keeps_pos (by rw [HUV.out.1, HUV.out.2]; exact huv)))
                rw [HUV.out.1] at HI2
                go_upto_region 11 with fail
                go_quiet (fail)
                go_wp2_with fail
                go_roundg (q - (k2 + 1))
                case measure => omega
                case rel => exact ⟨kk + 1, k2 + 1, dk.setIfInBounds kk u, rfl, rfl, by omega, by omega, Nat.le_refl _, by omega, HI2, Lib.hid ((HA2.out.drewN _).set kk u (by rw [HDS.out]; omega)), (hw2.drewN _).set _ _⟩
            · have hend : k2 = q := by omega
              subst hend
              obtain ⟨m, hm⟩ : ∃ m, n - kk = m := ⟨_, rfl⟩
              obtain ⟨c2, hc2⟩ : ∃ c2, cap - kk = c2 := ⟨_, rfl⟩
              have hcl : ∀ ty, (Builtin.clear_ #[74] ty #[.slice (some ⟨g, kk, none⟩) m c2]).run Try.prog wr = .ok (.tuple #[]) (wr.setCells g kk (List.replicate m (.int .u8 0))) :=
                fun ty => Lib.run_clear_slice wr _ 5 ty _ Try.underlying74 (fun w => rfl) rfl rfl g kk _ _ (by omega) (fun j hj => by rw [(HA2.out (kk + j) (by omega)).1]; rfl) (fun j hj => (HA2.out (kk + j) (by omega)).2)
              go_wp2_with fail
              go_ret
              obtain ⟨d', z1, z2, z3, z4⟩ := Arr.zeroed m kk dk wr HA2.out (by omega)
              have hI := HI.out
              rw [hkq] at hI
              exact ⟨kk, d', rfl, hI.len.symm, z1, by rw [z2, hds], fun j hj => (hI.low j hj).trans (by rw [z3 j hj]), hw2.trans z4⟩
        · have hne : (x == y) = false := beq_eq_false_iff_ne.2 hdup
          go_upto_region 6 with fail
          go_quiet (fail)
          go_wp2_with fail
          go_roundg (n - (k + 1))
          case measure => omega
          case rel =>
            refine ⟨k + 1, by omega, by omega, Nat.le_refl _, rfl, Lib.hid (HA.out.drewN _), hw.drewN _, Lib.hid fun j hj => ?_⟩
            by_cases e : j = k
            · subst e
              exact keeps_pos (by rw [HXY.out.1, HXY.out.2]; exact hdup)
            · exact HK.out j (by omega)
      · have hkn : k = n := by omega
        subst hkn
        go_wp2_with fail
        go_ret
        obtain ⟨e1, e2⟩ := HALL.out HK.out
        exact ⟨k, d, rfl, e1.symm, HA.out, HN.out, e2, hw⟩
theorem compact_nil (w : World) : Calls Try.prog 50 #[.slice none 0 0] w fun e w' => e = .returned (.slice none 0 0) ∧ w' = w := by
  go_enter Try.func50, Try.ntmps50
  go_wp2_with fail
  go_ret
  exact ⟨rfl, rfl⟩
end Go.Proofs.Ytchjjbklkmfelaa
