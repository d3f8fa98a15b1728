/- Slices of whole numbers that read as lists. -/
import Derived.Test.YtchjjbklkmfelaaDig
namespace Go.Proofs.Ytchjjbklkmfelaa
open Go.RowKit
set_option linter.unusedVariables false

/-- A slice of ints that reads as a list. -/
def Row (w : World) (v : Value) (l : List Int) : Prop :=
  ∃ A c, v = .slice A l.length c ∧ l.length ≤ c ∧ c ≤ maxLen ∧
    (l = [] ∨ ∃ g o, A = some ⟨g, o, none⟩ ∧ ∀ j, j < l.length → w.cell? ⟨g, o + j, none⟩ = some (.int .i64 (l.getD j 0)))

theorem Row.nil (w : World) : Row w (.slice none 0 0) [] := ⟨none, 0, rfl, Nat.le_refl _, by unfold maxLen; omega, .inl rfl⟩

/-- A slice that lies in no block below a base. -/
def Fresh (base : Nat) (v : Value) : Prop := ∀ k, v.ownBlock = some k → base ≤ k

theorem Row.setCell {w : World} {v : Value} {l : List Int} (h : Row w v l) {a : Addr} (ha : v.ownBlock ≠ some a.block) (u : Value) : Row (w.setCell a u) v l := by
  obtain ⟨A, c, rfl, h1, h2, h3⟩ := h
  refine ⟨A, c, rfl, h1, h2, ?_⟩
  rcases h3 with h3 | ⟨g, o, rfl, hc⟩
  · exact .inl h3
  · refine .inr ⟨g, o, rfl, fun j hj => ?_⟩
    rw [← hc j hj]
    exact World.cell?_setCell_other _ _ _ _ (by intro e; apply ha; rw [e]; rfl)

theorem Row.below {w w' : World} {v : Value} {l : List Int} (h : Row w v l) (hb : Below w.heap.size w w') : Row w' v l := by
  obtain ⟨A, c, rfl, h1, h2, h3⟩ := h
  refine ⟨A, c, rfl, h1, h2, ?_⟩
  rcases h3 with h3 | ⟨g, o, rfl, hc⟩
  · exact .inl h3
  · refine .inr ⟨g, o, rfl, fun j hj => ?_⟩
    have := hc j hj
    rw [hb.cell (p := ⟨g, o + j, none⟩) (World.block_lt_of_cell? w _ this)]
    exact this

theorem Row.drewN {w : World} {v : Value} {l : List Int} (h : Row w v l) (n : Nat) : Row (w.drewN n) v l := h

theorem Row.of_owns {w : World} {base : Nat} {e : TypeId} {v : Value} {l : List Int} (h : w.ownsRow base e 1 v l.length (l.map (Value.int .i64))) : Row w v l := by
  rcases h.2 with ⟨rfl, hn⟩ | ⟨g, cap, cur, rfl, hb, hg, hn, hm, hs, ht⟩
  · have : l = [] := List.length_eq_zero_iff.1 hn
    subst this
    exact Row.nil w
  · refine ⟨some ⟨g, 0, none⟩, cap, rfl, hn, hm, .inr ⟨g, 0, rfl, fun j hj => ?_⟩⟩
    have := h.cells (g := g) rfl j (.int .i64 (l.getD j 0)) (by simp [List.getD_eq_getElem?_getD, hj])
    have hadd : (⟨g, 0, none⟩ : Addr).add j = ⟨g, 0 + j, none⟩ := by unfold Addr.add; split <;> simp_all
    rw [hadd] at this
    exact this

theorem Try.infoInt : (Try.prog.info? 3).map (fun i => (i.zero, i.size, i.bytes)) = some (some (.int .i64 0), 1, 8) := by kernel_rfl

set_option maxHeartbeats 400000 in
theorem at_calls (v : Value) (l : List Int) (i : Int) (w : World) (h : Row w v l) (h0 : 0 ≤ i) (h1 : i < 9223372036854775807) :
    Calls Try.prog 57 #[v, .int .i64 i] w fun e w' => e = .returned (.int .i64 (l.getD i.toNat 0)) ∧ w = w' := by
  obtain ⟨k, rfl⟩ := Int.eq_ofNat_of_zero_le h0
  rw [Int.toNat_natCast]
  obtain ⟨A, c, rfl, h1, h2, h3⟩ := h
  unfold maxLen at h2
  by_cases hk : k < l.length
  · rcases h3 with rfl | ⟨g, o, rfl, hc⟩
    · simp at hk
    · have hck := hc k hk
      clear hc
      generalize l.getD k 0 = x at *
      go_enter Try.func57, Try.ntmps57
      go_wp2
      go_ret
      exact ⟨rfl, rfl⟩
  · have e : l.getD k 0 = 0 := by rw [List.getD_eq_getElem?_getD, List.getElem?_eq_none (by omega)]; rfl
    clear h3
    go_enter Try.func57, Try.ntmps57
    go_wp2
    go_ret
    exact ⟨ret_one e.symm, rfl⟩

/-- A slice cut at its end. -/
theorem Row.take {w : World} {A : Option Addr} {n c : Nat} {l : List Int} (h : Row w (.slice A n c) l) {k : Nat} (hk : k ≤ l.length) : Row w (.slice A k c) (l.take k) := by
  obtain ⟨A', c', e, h1, h2, h3⟩ := h
  cases e
  refine ⟨A, c, by rw [List.length_take, Nat.min_eq_left hk], by rw [List.length_take]; omega, h2, ?_⟩
  rcases h3 with rfl | ⟨g, o, rfl, hc⟩
  · exact .inl (by simp)
  · refine .inr ⟨g, o, rfl, fun j hj => ?_⟩
    rw [List.length_take] at hj
    rw [hc j (by omega)]
    have : (l.take k).getD j 0 = l.getD j 0 := by
      rw [List.getD_eq_getElem?_getD, List.getD_eq_getElem?_getD, List.getElem?_take_of_lt (by omega)]
    rw [this]

set_option maxHeartbeats 400000 in
/-- The lowest digits of a number, without noughts at the end. -/
theorem trim_calls (v : Value) (k n : Nat) (w : World) (h : Row w v (low k n)) (hn : n < 65536 ^ k) :
    Calls Try.prog 58 #[v] w fun e w' => ∃ v', e = .returned v' ∧ Row w' v' (dig n) ∧ v'.ownBlock = v.ownBlock ∧ Drawn w w' := by
  have hlen := low_length k n
  have H := Lib.hid h
  obtain ⟨A, c, rfl, h1, h2, h3⟩ := h
  rw [hlen] at h1 h3 H ⊢
  unfold maxLen at h2
  have h3' : ∀ j, j < k → ∃ g o, A = some ⟨g, o, none⟩ ∧ w.cell? ⟨g, o + j, none⟩ = some (.int .i64 (n / 65536 ^ j % 65536 : Nat)) := by
    intro j hj
    rcases h3 with h3 | ⟨g, o, rfl, hc⟩
    · rw [h3] at hlen; simp at hlen; omega
    · refine ⟨g, o, rfl, ?_⟩
      rw [hc j hj, low_getD k n j hj]
  clear h3 hlen
  have HN := Lib.hid hn
  clear hn
  go_enter Try.func58, Try.ntmps58
  go_wp2
  go_loop [3] (fun t => ∃ j : Nat, t = .int .i64 j ∧ j ≤ k ∧ Hid (n < 65536 ^ j)) (fun t => (intOf t).toNat)
  case atStart => exact ⟨k, rfl, Nat.le_refl _, HN⟩
  case round =>
    obtain ⟨j, rfl, hj, HJ⟩ := hrel
    clear HN
    cases j with
    | zero =>
      have hn0 : n = 0 := by simpa using HJ.out
      clear HJ
      go_wp2
      go_ret
      refine ⟨_, rfl, ?_, (by first | rfl | (cases A <;> rfl)), Drawn.refl _⟩
      have := (H.out).take (k := 0) (by omega)
      rw [List.take_zero] at this
      rw [dig_zero]
      exact this
    | succ j =>
      obtain ⟨g, o, rfl, hc⟩ := h3' j (by omega)
      clear h3'
      by_cases hz : n / 65536 ^ j % 65536 = 0
      · have HT := Lib.hid (low_trim HJ.out hz)
        rw [hz] at hc
        clear hz HJ
        go_wp2
        go_round
        case rel => exact ⟨j, by go_num, by omega, HT⟩
        case measure => simp [intOf]
      · have HT := Lib.hid (low_full HJ.out hz)
        generalize n / 65536 ^ j % 65536 = d at *
        have hz0 : ((d : Int) == 0) = false := beq_eq_false_iff_ne.2 (by omega)
        generalize (d : Int) = z at *
        clear hz HJ
        go_wp2
        go_ret
        refine ⟨_, rfl, ?_, (by first | rfl | (cases A <;> rfl)), Drawn.refl _⟩
        rw [HT.out]
        have := (H.out).take (k := j + 1) (by rw [low_length]; omega)
        rw [low_take _ _ _ (by omega)] at this
        exact this
end Go.Proofs.Ytchjjbklkmfelaa
