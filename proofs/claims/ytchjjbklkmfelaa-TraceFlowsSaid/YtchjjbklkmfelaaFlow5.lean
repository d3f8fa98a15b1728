/- Of any row of events what an account got and gave of an id is the document's, or too much. -/
import Derived.Test.YtchjjbklkmfelaaFlow4
import Derived.Test.YtchjjbklkmfelaaAcct6
namespace Go.Proofs.Ytchjjbklkmfelaa
open Go.RowKit Go.Lib
set_option linter.unusedVariables false
set_option linter.unusedSimpArgs false

set_option maxRecDepth 10000 in
theorem hashK_flat : flatK Try.prog 4 26 = some hashK := by kernel_rfl
set_option maxRecDepth 100000 in
theorem open_Hash {H : Type} {enc : TypeId × Value → H} {W : World} {base : Nat} {v : Value} {d : DataW H} {p : List MemPlace} (hval : Value.okWide Try.prog W .any base 26 v) (h : DataW.Trod enc Try.prog W 0 (fun _ => true) true 26 v d p) :
    ∃ ids, v = .agg ids.toArray ∧ Typed hashK ids := by
  obtain ⟨cs, rfl, -, -⟩ : ∃ cs, v = .agg cs ∧ cs.size = Try.prog.cellsOf 26 ∧ Row.okWide Try.prog W .any base 26 cs := by
    simpa [Value.okWide, Try.underlying26] using hval
  have := open_flat (P := Try.prog) (n := 4) (K := hashK) (t := 26) hashK_flat (base := 0) (W := W) h
  exact ⟨cs.toList, by simp, this⟩

set_option maxHeartbeats 2000000 in
set_option maxRecDepth 100000 in
theorem traceFlows_many (v : Value) (ids : List Value) (who : Int) (l : List (List Value)) (w : World) (h : Recs evK w v l) (hl : 40 < l.length) :
    Calls Try.prog 7 #[v, .agg ids.toArray, .int .u8 who] w (Yes w) := by
  obtain ⟨A, c, rfl, a1, a2, -, -⟩ := id h
  unfold maxLen at a2
  have hl' : (40 : Int) < (l.length : Int) := by omega
  generalize l.length = n at *
  have Q0 : Below w.heap.size w (w.alloc (.cells ids.toArray 26)) := (Below.refl _ _).alloc (Nat.le_refl _) _
  go_enter Try.func7, Try.ntmps7
  go_wp2_with fail
  refine (tlives_calls _).mono ?_
  rintro e w1 ⟨rfl, hb1⟩
  go_wp2_with fail
  refine (tlives_calls _).mono ?_
  rintro e w2 ⟨rfl, hb2⟩
  go_wp2_with fail
  go_ret
  exact ⟨rfl, Q0.trans ((hb1.mono (by simp)).trans (hb2.mono (Nat.le_trans (by simp) hb1.size)))⟩

theorem belowAlloc {w0 w : World} (h : Below w0.heap.size w0 w) (o : Obj) : Below w0.heap.size w0 (w.alloc o) := h.alloc h.size o
theorem Box.zeroAt (w : World) (p : Nat) (hp : w.heap.size = p) : Box (w.alloc (.cells #[.int .u64 0, .int .u64 0, .int .u64 0, .int .u64 0] 28)) p 0 := by
  subst hp
  exact Box.zero w
theorem box_newAt (w : World) (p n : Nat) (hp : w.heap.size = p) : Box (w.alloc (.cells #[.int .u64 (limb n 0), .int .u64 (limb n 1), .int .u64 (limb n 2), .int .u64 (limb n 3)] 28)) p n := by
  subst hp
  exact Box.new w n

set_option maxHeartbeats 8000000 in
set_option maxRecDepth 100000 in
theorem traceFlows_few (v : Value) (ids : List Value) (who : Int) (l : List (List Value)) (w : World) (h : Recs evK w v l) (hids : Typed hashK ids) (hl : l.length ≤ 40) :
    Calls Try.prog 7 #[v, .agg ids.toArray, .int .u8 who] w (Yes w) := by
  obtain ⟨A, c, rfl, a1, a2, -, -⟩ := id h
  unfold maxLen at a2
  have hl' : (l.length : Int) ≤ 40 := by omega
  have HR := Lib.hid h
  obtain ⟨n, hn⟩ : ∃ n, l.length = n := ⟨_, rfl⟩
  rw [hn] at hl' HR hl ⊢
  have HN := Lib.hid hn
  have HI := Lib.hid hids
  clear hn h hids
  have R0 := range_alloc w ids.toArray 26
  have R0' : (w.alloc (.cells ids.toArray 26)).rangeAt w.heap.size 0 ids := R0
  have hs0 : w.heap.size < (w.alloc (.cells ids.toArray 26)).heap.size := by simp
  have Q0 : Below w.heap.size w (w.alloc (.cells ids.toArray 26)) := (Below.refl _ _).alloc (Nat.le_refl _) _
  have hil := hash_info (hash_len HI.out)
  clear R0
  go_enter Try.func7, Try.ntmps7
  go_upto_region 1 with fail
  obtain ⟨W, hW⟩ : ∃ W, w.alloc (.cells ids.toArray 26) = W := ⟨_, rfl⟩
  rw [hW] at R0' hs0 Q0
  rw [hW]
  clear hW
  go_wp2_with fail
  refine (tlives_calls _).mono ?_
  rintro e w1 ⟨rfl, hb1⟩
  have R1 := range_below R0' hb1 hs0
  have Q1 := Q0.trans (hb1.mono Q0.size)
  have HR1 := Lib.hid ((HR.out.below (by rw [evK_len]; decide) Q0).below (by rw [evK_len]; decide) hb1)
  have hs1 := Nat.lt_of_lt_of_le hs0 hb1.size
  have HF := Lib.hid (flow_calls _ ids who l w1 HR1.out HI.out (by rw [HN.out]; omega))
  have hfv : flowV l ids who = totV ((inE l ids who).map amtE).sum ((outE l ids who).map amtE).sum := rfl
  have HFV := Lib.hid hfv
  clear R0' Q0 HR hb1 hs0 hfv
  go_wp2_with (first
    | refine wpList_load_mid rfl 26 _ rfl w.heap.size 0 rfl ids _ R1 Try.underlying26 rfl hil ?_)
  refine HF.out.mono ?_
  rintro e w2 ⟨rfl, hb2⟩
  have R2 := range_below R1 hb2 hs1
  have Q2 := Q1.trans (hb2.mono Q1.size)
  have HR2 := Lib.hid (HR1.out.below (by rw [evK_len]; decide) hb2)
  have hs2 := Nat.lt_of_lt_of_le hs1 hb2.size
  have HV := Lib.hid (HFV.out.trans (totV_eq _ _))
  obtain ⟨A1, hA1⟩ : ∃ a, k1 ((inE l ids who).map amtE).sum ((outE l ids who).map amtE).sum = a := ⟨_, rfl⟩
  obtain ⟨B1, hB1⟩ : ∃ a, k2 ((inE l ids who).map amtE).sum ((outE l ids who).map amtE).sum = a := ⟨_, rfl⟩
  obtain ⟨E1, hE1⟩ : ∃ a, ke ((inE l ids who).map amtE).sum ((outE l ids who).map amtE).sum = a := ⟨_, rfl⟩
  rw [hA1, hB1, hE1] at HV
  rw [HV.out]
  clear hA1 hB1 hE1 HFV HF R1 Q1 HR1 hb2 hs1
  have X1 := (Box.new w2 A1).alloc (row4 (limb B1))
  have X2 := Box.new (w2.alloc (row4 (limb A1))) B1
  rw [World.size_alloc] at X2
  have Q3 : Below w2.heap.size w2 ((w2.alloc (row4 (limb A1))).alloc (row4 (limb B1))) := ((Below.refl _ _).alloc (Nat.le_refl _) _).alloc (by simp) _
  go_upto_region 4 with fail
  obtain ⟨W3, hW3⟩ : ∃ W3, (w2.alloc (row4 (limb A1))).alloc (row4 (limb B1)) = W3 := ⟨_, rfl⟩
  dsimp only [row4] at hW3 X1 X2 Q3
  rw [hW3] at X1 X2 Q3
  rw [hW3]
  clear hW3
  have R3 := range_below R2 Q3 hs2
  have Q4 := Q2.trans (Q3.mono Q2.size)
  have HR3 := Lib.hid (HR2.out.below (by rw [evK_len]; decide) Q3)
  have hs3 := Nat.lt_of_lt_of_le hs2 Q3.size
  clear R2 Q2 HR2 hs2 Q3
  have HRef := Lib.hid (fun (X : World) (hb : Below W3.heap.size W3 X) => (refs_calls (.slice A n c) l X (HR3.out.below (by rw [evK_len]; decide) hb) (by rw [HN.out]; omega)).mono (R' := fun e w' => ∃ r, e = .returned r ∧ Recs evK w' r l ∧ Below X.heap.size X w' ∧ Below W3.heap.size W3 w') (fun e w' h => by
    obtain ⟨r, h1, h2, h3⟩ := h
    exact ⟨r, h1, h2, h3, hb.trans (h3.mono hb.size)⟩))
  have HRfl := Lib.hid (fun (X : World) (r : Value) (hr : Recs evK X r l) (hb : Below W3.heap.size W3 X) => (rflow_calls r ids who l X hr HI.out (by rw [HN.out]; omega)).mono (R' := fun e w' => e = .returned (.tuple #[bigN A1, bigN B1, .int .i64 E1]) ∧ Below X.heap.size X w' ∧ Below W3.heap.size W3 w') (fun e w' h => by
    obtain ⟨h1, h3⟩ := h
    exact ⟨by rw [h1, HV.out], h3, hb.trans (h3.mono hb.size)⟩))
  have hu := Try.underlying26
  go_cut [10, 11, 12] from 29 to 37 (fun s10 s11 s12 wx => ∃ p q, s10 = .pointer (some ⟨p, 0, none⟩) ∧ s11 = .pointer (some ⟨q, 0, none⟩) ∧ s12 = .int .i64 E1 ∧ Box wx p A1 ∧ Box wx q B1 ∧ Box wx w2.heap.size A1 ∧ Box wx (w2.heap.size + 1) B1 ∧ Below w.heap.size w wx)
  case first =>
    go_region_held3 (fun w' => w'.rangeAt w.heap.size 0 ids)
      ((refine range_below R3 ?_ hs3; (repeat' first | (with_reducible exact hB6) | (with_reducible exact hB5) | (with_reducible exact Below.refl _ _) | (with_reducible refine Below.drew ?_) | (with_reducible refine belowAlloc ?_ _) | (with_reducible refine Below.setCell ?_ ?_ _) | (dsimp only; omega) | omega))) (first
      | (go_at_call 27
         refine (HRef.out _ ?h1).mono ?_
         case h1 => (repeat' first | (with_reducible exact Below.refl _ _) | (with_reducible refine Below.drew ?_) | (with_reducible refine belowAlloc ?_ _))
         rintro e w5 ⟨r5, rfl, hr5, hb5, hB5⟩
         have pr5 := fun g m (h : Box _ g m) => h.later hb5
         have zs5 : W3.heap.size ≤ w5.heap.size := hB5.size
         try (first | have bA5 := pr5 _ _ (Box.drew (Box.zero W3)) | have bA5 := pr5 _ _ (Box.drew ((Box.zero W3).alloc _)))
         try (have bB5 := pr5 _ _ (Box.drew (Box.zeroAt (W3.alloc _) (W3.heap.size + 1) (World.size_alloc _ _))))
         try (have lA5 := bA5.lt)
         try (have lB5 := bB5.lt)
         clear pr5)
      | (go_at_call 26
         refine (HRfl.out _ _ ?h1 ?h2).mono ?_
         case h1 => first | with_reducible exact hr5 | with_reducible exact hr5.below (by rw [evK_len]; decide) (belowAlloc (Below.refl _ _) _) | with_reducible exact hr5.below (by rw [evK_len]; decide) (belowAlloc (belowAlloc (Below.refl _ _) _) _)
         case h2 => (repeat' first | (with_reducible exact hB5) | (with_reducible refine belowAlloc ?_ _))
         rintro e w6 ⟨rfl, hb6, hB6⟩
         have pr6 := fun g m (h : Box _ g m) => h.later hb6
         have zs6 : W3.heap.size ≤ w6.heap.size := hB6.size
         have zt6 := hb6.size
         try (simp only [World.size_alloc] at zt6)
         try (first | have bA6 := pr6 _ _ bA5 | have bA6 := pr6 _ _ (bA5.alloc _))
         try (have bB6 := pr6 _ _ bB5)
         try (first | have bC6 := pr6 _ _ (Box.zero w5) | have bC6 := pr6 _ _ ((Box.zero w5).alloc _))
         try (have bD6 := pr6 _ _ (Box.zeroAt (w5.alloc _) (w5.heap.size + 1) (World.size_alloc _ _)))
         try (have lA6 := bA6.lt)
         try (have lB6 := bB6.lt)
         try (have lC6 := bC6.lt)
         try (have lD6 := bD6.lt)
         try (obtain ⟨A0, A1', A2', A3'⟩ := bA6.cells)
         try (obtain ⟨A4, A5, A6, A7⟩ := bA6.free)
         try (obtain ⟨B0, B1', B2', B3'⟩ := bB6.cells)
         try (obtain ⟨B4, B5, B6, B7⟩ := bB6.free)
         try (obtain ⟨C0, C1', C2', C3'⟩ := bC6.cells)
         try (obtain ⟨C4, C5, C6, C7⟩ := bC6.free)
         try (obtain ⟨D0, D1', D2', D3'⟩ := bD6.cells)
         try (obtain ⟨D4, D5, D6, D7⟩ := bD6.free)
         have n1 : W3.heap.size + 1 ≠ W3.heap.size := by omega
         try (have n2 : W3.heap.size ≠ w5.heap.size := by omega)
         try (have n3 : w5.heap.size ≠ W3.heap.size := by omega)
         try (have n4 : W3.heap.size ≠ w6.heap.size := by omega)
         try (have n5 : w6.heap.size ≠ W3.heap.size := by omega)
         try (have n6 : w5.heap.size ≠ w6.heap.size := by omega)
         try (have n7 : w6.heap.size ≠ w5.heap.size := by omega)
         clear pr6))
    all_goals
      go_wp2_with fail
      go_meet
      have lx1 := X1.lt
      have lx2 := X2.lt
      have bX1 := X1.later hB6
      have bX2 := X2.later hB6
      refine ⟨_, _, rfl, rfl, rfl, ?g1, ?g2, ?g3, ?g4, ?g5⟩
      case g1 => (repeat' first | with_reducible exact bA6 | with_reducible exact bB6 | with_reducible exact bC6 | with_reducible exact bD6 | with_reducible exact bX1 | with_reducible exact bX2 | with_reducible exact Box.new _ _ | (with_reducible refine box_newAt _ _ _ ?_; (simp; done)) | with_reducible refine Box.drew ?_ | with_reducible refine Box.stored (n := 0) ?_ _ | with_reducible refine Box.store_other ?_ ?_ _ _ _ _ | with_reducible refine Box.alloc ?_ _ | omega)
      case g2 => (repeat' first | with_reducible exact bA6 | with_reducible exact bB6 | with_reducible exact bC6 | with_reducible exact bD6 | with_reducible exact bX1 | with_reducible exact bX2 | with_reducible exact Box.new _ _ | (with_reducible refine box_newAt _ _ _ ?_; (simp; done)) | with_reducible refine Box.drew ?_ | with_reducible refine Box.stored (n := 0) ?_ _ | with_reducible refine Box.store_other ?_ ?_ _ _ _ _ | with_reducible refine Box.alloc ?_ _ | omega)
      case g3 => (repeat' first | with_reducible exact bA6 | with_reducible exact bB6 | with_reducible exact bC6 | with_reducible exact bD6 | with_reducible exact bX1 | with_reducible exact bX2 | with_reducible exact Box.new _ _ | (with_reducible refine box_newAt _ _ _ ?_; (simp; done)) | with_reducible refine Box.drew ?_ | with_reducible refine Box.stored (n := 0) ?_ _ | with_reducible refine Box.store_other ?_ ?_ _ _ _ _ | with_reducible refine Box.alloc ?_ _ | omega)
      case g4 => (repeat' first | with_reducible exact bA6 | with_reducible exact bB6 | with_reducible exact bC6 | with_reducible exact bD6 | with_reducible exact bX1 | with_reducible exact bX2 | with_reducible exact Box.new _ _ | (with_reducible refine box_newAt _ _ _ ?_; (simp; done)) | with_reducible refine Box.drew ?_ | with_reducible refine Box.stored (n := 0) ?_ _ | with_reducible refine Box.store_other ?_ ?_ _ _ _ _ | with_reducible refine Box.alloc ?_ _ | omega)
      case g5 =>
        refine Below.trans Q4 (Below.mono (B := W3.heap.size) ?_ Q4.size)
        (repeat' first | with_reducible exact hB6 | with_reducible refine Below.drew ?_ | with_reducible refine belowAlloc ?_ _ | with_reducible refine Below.setCell ?_ ?_ _ | (dsimp only; omega) | omega)
  case rest =>
  obtain ⟨p, q, rfl, rfl, rfl, P1, P2, P3, P4, P5⟩ := hcut
  obtain ⟨p0, p1, p2, p3⟩ := P1.cells
  obtain ⟨q0, q1, q2, q3⟩ := P2.cells
  obtain ⟨u0, u1, u2, u3⟩ := P3.cells
  obtain ⟨v0, v1, v2, v3⟩ := P4.cells
  clear P1 P2 P3 P4 X1 X2 R3 Q4 hs3
  go_wp2_with fail
  go_ret
  exact ⟨rfl, P5⟩

theorem traceFlows_calls (v v' : Value) (who : Int) (w : World) (h : ∃ l, Recs evK w v l) (h' : ∃ ids, v' = .agg ids.toArray ∧ Typed hashK ids) (w0 : 0 ≤ who) (w1 : who < 256) :
    Calls Try.prog 7 #[v, v', .int .u8 who] w (Yes w) := by
  obtain ⟨l, h⟩ := h
  obtain ⟨ids, rfl, hi⟩ := h'
  rcases Nat.lt_or_ge 40 l.length with hl | hl
  · exact traceFlows_many v ids who l w h hl
  · exact traceFlows_few v ids who l w h hi hl
end Go.Proofs.Ytchjjbklkmfelaa
