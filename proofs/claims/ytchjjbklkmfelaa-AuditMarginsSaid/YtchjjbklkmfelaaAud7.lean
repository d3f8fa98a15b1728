/- The same findings (sponsionlaw28's same). -/
import Derived.Test.YtchjjbklkmfelaaAud4
import Derived.Test.YtchjjbklkmfelaaInv6
namespace Go.Proofs.Ytchjjbklkmfelaa
open Go.RowKit Go.Lib Go.Deep
set_option linter.unusedVariables false
set_option linter.unusedSimpArgs false

section
variable {P : Program} {ops : Array Oper} {D : Type} {W : D → World} {Q : Act → Prop} {a : Act} {o : Oper} {rest : List Oper}
theorem quiet_bin (hg : Region.wanted o (yielded ops a.tmps) = true) {k : BinOp} {t t' : TypeId} {x y : Operand} (hop : o.op = .binOp k t x y t') {X Y v : Value} (hx : a.eval x = X) (hy : a.eval y = Y) (hr : ∀ w, Sem.run P (do eqGuard k t x y X Y; binOp k t X Y) w = .ok v w)
    (h : wpQuiet P ops (fun w' => ∃ n, w' = W n) Q rest (a.put o.dst v)) :
    wpQuiet P ops (fun w' => ∃ n, w' = W n) Q (o :: rest) a := by
  unfold wpQuiet
  rw [if_pos hg]
  refine ⟨v, fun w hw => ?_, h⟩
  obtain ⟨n, rfl⟩ := hw
  unfold Oper.quietAt execOp
  have := hr (W n)
  simp only [hop, hx, hy, Sem.run_bind, Sem.run_pure] at this ⊢
  rw [this]
  simp only [Result.andThen_ok]
  exact ⟨rfl, rfl⟩
end
set_option maxRecDepth 100000 in
theorem neq_fin (i : Nat) (hi : i < 20) (x y : Operand) (w : World) : Sem.run Try.prog (do eqGuard .neq 82 x y (.agg (finRec i).toArray) (.agg (finRec i).toArray); binOp .neq 82 (.agg (finRec i).toArray) (.agg (finRec i).toArray)) w = .ok (.bool false) w := by
  rcases (by omega : i = 0 ∨ i = 1 ∨ i = 2 ∨ i = 3 ∨ i = 4 ∨ i = 5 ∨ i = 6 ∨ i = 7 ∨ i = 8 ∨ i = 9 ∨ i = 10 ∨ i = 11 ∨ i = 12 ∨ i = 13 ∨ i = 14 ∨ i = 15 ∨ i = 16 ∨ i = 17 ∨ i = 18 ∨ i = 19) with rfl | rfl | rfl | rfl | rfl | rfl | rfl | rfl | rfl | rfl | rfl | rfl | rfl | rfl | rfl | rfl | rfl | rfl | rfl | rfl <;> kernel_rfl
theorem finds_mem (cs : List Value) {x : List Value} (h : x ∈ finds cs 20) : ∃ i, i < 20 ∧ x = finRec i := by
  unfold finds at h
  obtain ⟨i, hi, rfl⟩ := List.mem_map.1 h
  exact ⟨i, List.mem_range.1 (List.mem_filter.1 hi).1, rfl⟩

set_option maxHeartbeats 1000000 in
set_option maxRecDepth 100000 in
theorem same_calls (v v' : Value) (l : List (List Value)) (w : World) (h : Recs finK w v l) (h' : Recs finK w v' l) (hm : ∀ x ∈ l, ∃ i, i < 20 ∧ x = finRec i) :
    Calls Try.prog 16 #[v, v'] w fun e w' => e = .returned (.bool true) ∧ Below w.heap.size w w' := by
  have HR := Lib.hid h
  have HR' := Lib.hid h'
  obtain ⟨A, c, rfl, a1, a2, -, -⟩ := id h
  obtain ⟨A', c', rfl, b1, b2, -, -⟩ := id h'
  unfold maxLen at a2 b2
  clear h h'
  have HM := Lib.hid (show ∀ k, k < l.length → ∃ i, i < 20 ∧ l.getD k [] = finRec i from fun k hk => hm _ (by
    rw [List.getD_eq_getElem?_getD, List.getElem?_eq_getElem hk]
    exact List.getElem_mem _))
  have HA := Lib.hid (show ∀ k, k < l.length → ∃ g o, A = some ⟨g, o, none⟩ ∧ g < w.heap.size ∧ w.rangeAt g (o + k * 2) (l.getD k []) from fun k hk => by
    obtain ⟨g, o, e, h1, h2, -⟩ := HR.out.at (by decide) k hk
    exact ⟨g, o, e, h1, h2⟩)
  have HA' := Lib.hid (show ∀ k, k < l.length → ∃ g o, A' = some ⟨g, o, none⟩ ∧ g < w.heap.size ∧ w.rangeAt g (o + k * 2) (l.getD k []) from fun k hk => by
    obtain ⟨g, o, e, h1, h2, -⟩ := HR'.out.at (by decide) k hk
    exact ⟨g, o, e, h1, h2⟩)
  clear hm HR HR'
  generalize l.length = n at *
  go_enter Try.func16, Try.ntmps16
  go_wp2_with fail
  go_loopw [5, 13] (fun _ i wr => ∃ k : Nat, i = .int .i64 (k : Int) ∧ k ≤ n ∧ Below w.heap.size w wr) (fun _ i _ => n - (intOf i).toNat)
  case atStart => exact ⟨0, rfl, by omega, Below.refl _ _⟩
  case round =>
    obtain ⟨k, rfl, hk, hb⟩ := hrel
    by_cases hkn : k < n
    · have hkn' : (k : Int) < (n : Int) := by omega
      have hk0 : (0 : Int) ≤ (k : Int) := by omega
      obtain ⟨i, hi, hx⟩ := HM.out k hkn
      obtain ⟨g, o, rfl, hg, hr⟩ := HA.out k hkn
      obtain ⟨g', o', rfl, hg', hr'⟩ := HA'.out k hkn
      rw [hx] at hr hr'
      clear hx
      have HI := Lib.hid hi
      clear hi
      have hu1 := Try.underlying81
      have hu2 := Try.underlying82
      have hi1 : (Try.prog.info? 81).map (·.size) = some (finRec i).length := by kernel_rfl
      have hi2 : (Try.prog.info? 82).map (·.size) = some (finRec i).length := by kernel_rfl
      have HNE := Lib.hid (neq_fin i HI.out)
      have HRr := Lib.hid hr
      have HRr' := Lib.hid hr'
      clear hr hr'
      generalize finRec i = R at *
      go_upto_region 6 with fail
      have hbd : ∀ n, Below w.heap.size w (wr.drewN n) := fun n => by
        induction n with
        | zero => exact hb
        | succ n ih => exact ih.drew
      have hq : ∀ n : Nat, (wr.drewN n).rangeAt g (o + k * 2) R := fun n => range_below HRr.out (hbd n) hg
      have hq' : ∀ n : Nat, (wr.drewN n).rangeAt g' (o' + k * 2) R := fun n => range_below HRr'.out (hbd n) hg'
      refine wp_region_quiet_lit (by kernel_rfl) (by kernel_rfl) ?_
      repeat (first | ((refine quiet_load_row rfl rfl R rfl hq hu1 rfl hi1 ?_); simp only [Act.put, List.setIfInBounds_toArray, List.set_cons_succ, List.set_cons_zero]) | ((refine quiet_load_row rfl rfl R rfl hq' hu2 rfl hi2 ?_); simp only [Act.put, List.setIfInBounds_toArray, List.set_cons_succ, List.set_cons_zero]) | ((refine quiet_bin rfl rfl rfl rfl (HNE.out _ _) ?_); simp only [Act.put, List.setIfInBounds_toArray, List.set_cons_succ, List.set_cons_zero]) | go_big_quiet_step (with_reducible exact rfl))
      refine wpQuiet_nil ?_
      rintro _ ⟨n9, rfl⟩
      have hb9 := hbd n9
      go_wp2_with fail
      go_roundw
      case rel => exact ⟨k + 1, by simp, by omega, hb9⟩
      case measure => simp [intOf]; omega
    · have hkn' : ¬ (k : Int) < (n : Int) := by omega
      go_wp2_with fail
      go_ret
      exact ⟨rfl, hb⟩
end Go.Proofs.Ytchjjbklkmfelaa
