/- huge.Parse: a text of decimal digits as a number, or why it is none. -/
import Derived.Test.YtchjjbklkmfelaaHMul2
namespace Go.Proofs.Ytchjjbklkmfelaa
open Go.RowKit Go.Lib
set_option linter.unusedVariables false
set_option linter.unusedSimpArgs false

/-- The number that digits stand for. -/
def decV (l : List UInt8) : Nat := l.foldl (fun n c => n * 10 + (c.toNat - 48)) 0
def isDig (c : UInt8) : Prop := 48 ≤ c.toNat ∧ c.toNat ≤ 57
instance (c : UInt8) : Decidable (isDig c) := inferInstanceAs (Decidable (_ ∧ _))
/-- A text that is no number's. -/
def badText (l : List UInt8) : Prop := l = [] ∨ (1 < l.length ∧ l.getD 0 0 = 48) ∨ ∃ c ∈ l, ¬ isDig c
def okE (n : Nat) : Int := if n < 18446744073709551616 ^ 4 then 0 else 2
def kept (n : Nat) : Nat := if n < 18446744073709551616 ^ 4 then n else 0

theorem decV_snoc (l : List UInt8) (c : UInt8) : decV (l ++ [c]) = decV l * 10 + (c.toNat - 48) := by simp [decV]
theorem decV_take (l : List UInt8) (k : Nat) (h : k < l.length) : decV (l.take (k + 1)) = decV (l.take k) * 10 + ((l.getD k 0).toNat - 48) := by
  rw [List.take_succ_eq_append_getElem h, decV_snoc]
  simp [List.getD_eq_getElem?_getD, h]
theorem sumV_kept (n : Nat) : sumV n = .tuple #[bigN (kept n), .int .i64 (okE n)] := by
  unfold sumV kept okE
  split <;> rfl

theorem below_bytes (w : World) (e : TypeId) (s : ByteArray) : Below w.heap.size w (bytesWorld w e s) :=
  ⟨rfl, rfl, rfl, by rw [bytesWorld_size]; omega, fun k hk => bytesWorld_at_old w e s k hk⟩

/-- What Parse holds in a round. -/
structure PS (w : World) (g : Nat) (l : List UInt8) (n : Nat) : Prop where
  res : Box w g 0
  out : Box w (g + 1) n
  txt : ∀ j, j < l.length → w.cell? ⟨g + 1 + 1, j, none⟩ = some (.int .u8 ((l.getD j 0).toNat : Int))
  size : g + 1 + 1 < w.heap.size

theorem PS.later {w w' : World} {g n : Nat} {l : List UInt8} (h : PS w g l n) (hb : Below w.heap.size w w') : PS w' g l n :=
  ⟨h.res.later hb, h.out.later hb, fun j hj => (hb.cell h.size).trans (h.txt j hj), Nat.lt_of_lt_of_le h.size hb.size⟩
theorem PS.stored {w : World} {g n : Nat} {l : List UInt8} (h : PS w g l n) (m : Nat) : PS (store4 w (g + 1) (limb m 0) (limb m 1) (limb m 2) (limb m 3)) g l m :=
  ⟨h.res.store_other (by omega) _ _ _ _, h.out.stored m, fun j hj => by
    unfold store4
    rw [World.cell?_setCell_other _ _ _ _ (by intro e; injection e; omega), World.cell?_setCell_other _ _ _ _ (by intro e; injection e; omega), World.cell?_setCell_other _ _ _ _ (by intro e; injection e; omega), World.cell?_setCell_other _ _ _ _ (by intro e; injection e; omega)]
    exact h.txt j hj, by rw [store_size]; exact h.size⟩
theorem PS.drew {w : World} {g n : Nat} {l : List UInt8} (h : PS w g l n) : PS w.drew g l n := ⟨h.res, h.out, h.txt, h.size⟩
theorem PS.drewN {w : World} {g n : Nat} {l : List UInt8} (h : PS w g l n) (m : Nat) : PS (w.drewN m) g l n := ⟨h.res, h.out, h.txt, h.size⟩

theorem PS.step {w wr w1 w2 : World} {g n : Nat} {l : List UInt8} (h : PS wr g l n) (hb : Below g w wr) (h1 : Below wr.drew.heap.size wr.drew w1) (h2 : Below w1.heap.size w1 w2) :
    PS w2 g l n ∧ Below g w w2 := by
  have z0 := h.res.lt
  have z1 : wr.heap.size ≤ w1.heap.size := h1.size
  exact ⟨(PS.later (w := wr.drew) h.drew h1).later h2, (hb.drew.trans (h1.mono (by show g ≤ wr.heap.size; omega))).trans (h2.mono (by omega))⟩

theorem parse_start (w : World) (s : ByteArray) : PS (bytesWorld ((w.alloc (obj4 0 0 0 0)).alloc (obj4 0 0 0 0)) 5 s) w.heap.size s.data.toList 0 ∧
    Below w.heap.size w (bytesWorld ((w.alloc (obj4 0 0 0 0)).alloc (obj4 0 0 0 0)) 5 s) := by
  have B := below_bytes ((w.alloc (obj4 0 0 0 0)).alloc (obj4 0 0 0 0)) 5 s
  have z : ((w.alloc (obj4 0 0 0 0)).alloc (obj4 0 0 0 0)).heap.size = w.heap.size + 1 + 1 := by simp
  have b0 : Box ((w.alloc (obj4 0 0 0 0)).alloc (obj4 0 0 0 0)) w.heap.size 0 := (Box.zero w).alloc _
  have b1 : Box ((w.alloc (obj4 0 0 0 0)).alloc (obj4 0 0 0 0)) (w.heap.size + 1) 0 := by
    have := Box.zero (w.alloc (obj4 0 0 0 0))
    rw [World.size_alloc] at this
    exact this
  refine ⟨⟨b0.later B, b1.later B, fun j hj => ?_, by rw [bytesWorld_size, z]; omega⟩, ((((Below.refl _ _).alloc (Nat.le_refl _) _).alloc (by simp) _)).trans (B.mono (by rw [z]; omega))⟩
  have := bytesWorld_cell ((w.alloc (obj4 0 0 0 0)).alloc (obj4 0 0 0 0)) 5 s j (by simpa using hj)
  rw [z] at this
  exact this

theorem getD_byte (s : ByteArray) (k : Nat) (h : k < s.size) : s.data.toList.getD k 0 = s[k] := by
  rw [List.getD_eq_getElem?_getD, List.getElem?_eq_getElem (by simpa using h)]
  rfl

theorem parse_conv (w : World) (s : ByteArray) : (convert 9 74 (.string s)).run Try.prog w = .ok (.slice (some ⟨w.heap.size, 0, none⟩) s.size (grownCap w s.size 0 5)) (bytesWorld w 5 s) :=
  Go.Lib.run_convert_string_bytes (P := Try.prog) w 9 74 5 s (u := .string) (by kernel_rfl) (by kernel_rfl) (by kernel_rfl)

end Go.Proofs.Ytchjjbklkmfelaa
