/- Two arrays of whole numbers, held against each other. -/
import Derived.Test.YtchjjbklkmfelaaBase
import Derived.ChangeKeysEq
namespace Go.Proofs.Ytchjjbklkmfelaa
open Go.RowKit Go.ChangeMaps
set_option linter.unusedVariables false

/-- The values of a row of whole numbers. -/
def ints (k : IntKind) (l : List Int) : Array Value := (l.map (Value.int k)).toArray

section
variable {P : Program} (w : World)
theorem eqItems_ints (d : Nat) {e : TypeId} {k : IntKind} (he : P.underlying e = some (.int k)) (hc : P.cellsOf e = 1) (l1 l2 : List Int) (n : Nat) (h1 : l1.length = n) (h2 : l2.length = n) :
    ∀ is : List Nat, (∀ i ∈ is, i < n) → (Op.eqItems (d + 1) e 1 (ints k l1) (ints k l2) is).run P w = .ok (is.all fun i => l1.getD i 0 == l2.getD i 0) w
  | [], _ => by simp [Op.eqItems]
  | i :: is, h => by
    have hi : i < n := h i (by simp)
    have hp : P.plainKey e = true := by simp [Program.plainKey, he]
    have p1 := run_part_plain (P := P) w hp (xs := ints k l1) (off := i * 1) (v := .int k (l1.getD i 0)) (by simp [ints, h1, hi, List.getD_eq_getElem?_getD])
    have p2 := run_part_plain (P := P) w hp (xs := ints k l2) (off := i * 1) (v := .int k (l2.getD i 0)) (by simp [ints, h2, hi, List.getD_eq_getElem?_getD])
    have p3 := run_equalIn_int (P := P) w d e k k (l1.getD i 0) (l2.getD i 0) he
    have ih := eqItems_ints d he hc l1 l2 n h1 h2 is (fun j hj => h j (by simp [hj]))
    simp only [Op.eqItems, Sem.run_bind, p1, p2, p3, Result.andThen_ok, List.all_cons]
    cases hr : (l1.getD i 0 == l2.getD i 0)
    · simp
    · simpa using ih

theorem all_range_eq {l1 l2 : List Int} {n : Nat} (h1 : l1.length = n) (h2 : l2.length = n) : ((List.range n).all fun i => l1.getD i 0 == l2.getD i 0) = decide (l1 = l2) := by
  rw [Bool.eq_iff_iff]
  simp only [List.all_eq_true, List.mem_range, beq_iff_eq, decide_eq_true_eq]
  constructor
  · intro h
    apply List.ext_getElem (by omega)
    intro i hi hi'
    have := h i (by omega)
    simpa [List.getD_eq_getElem?_getD, hi, hi'] using this
  · rintro rfl i _
    rfl

theorem equalIn_ints (d : Nat) {t e : TypeId} {n : Nat} {k : IntKind} {i : TypeInfo} (ht : P.underlying t = some (.array n e)) (he : P.underlying e = some (.int k)) (hi : P.info? e = some i) (hc : P.cellsOf e = 1)
    (l1 l2 : List Int) (h1 : l1.length = n) (h2 : l2.length = n) : (Op.equalIn (d + 2) t (.agg (ints k l1)) (.agg (ints k l2))).run P w = .ok (decide (l1 = l2)) w := by
  rw [run_equalIn_array w (d + 1) (ints k l1) (ints k l2) ht hi, hc, eqItems_ints w d he hc l1 l2 n h1 h2 _ (fun j hj => by simpa using hj), all_range_eq h1 h2]

theorem run_eql_ints {t e : TypeId} {n : Nat} {k : IntKind} {i : TypeInfo} (ht : P.underlying t = some (.array n e)) (he : P.underlying e = some (.int k)) (hi : P.info? e = some i) (hc : P.cellsOf e = 1)
    (l1 l2 : List Int) (h1 : l1.length = n) (h2 : l2.length = n) : (binOp .eql t (.agg (ints k l1)) (.agg (ints k l2))).run P w = .ok (.bool (decide (l1 = l2))) w := by
  rw [run_eql_struct, equalIn_ints w 9998 ht he hi hc l1 l2 h1 h2]
  rfl

theorem run_neq_ints {t e : TypeId} {n : Nat} {k : IntKind} {i : TypeInfo} (ht : P.underlying t = some (.array n e)) (he : P.underlying e = some (.int k)) (hi : P.info? e = some i) (hc : P.cellsOf e = 1)
    (l1 l2 : List Int) (h1 : l1.length = n) (h2 : l2.length = n) : (binOp .neq t (.agg (ints k l1)) (.agg (ints k l2))).run P w = .ok (.bool (!decide (l1 = l2))) w := by
  rw [run_neq_struct, equalIn_ints w 9998 ht he hi hc l1 l2 h1 h2]
  rfl
end

theorem Try.infoU64 : (Try.prog.info? 24).map (fun i => (i.zero, i.size, i.bytes)) = some (some (.int .u64 0), 1, 8) := by kernel_rfl
theorem Try.cellsU64 : Try.prog.cellsOf 24 = 1 := by kernel_rfl

/-- Two numbers of four limbs, held against each other. -/
@[go_sem] theorem equalIn_big (w : World) (a0 a1 a2 a3 b0 b1 b2 b3 : Int) :
    (Op.equalIn 10000 28 (.agg #[.int .u64 a0, .int .u64 a1, .int .u64 a2, .int .u64 a3]) (.agg #[.int .u64 b0, .int .u64 b1, .int .u64 b2, .int .u64 b3])).run Try.prog w =
      .ok (decide (a0 = b0 ∧ a1 = b1 ∧ a2 = b2 ∧ a3 = b3)) w := by
  obtain ⟨i, hi, _⟩ := Option.map_eq_some_iff.1 Try.infoU64
  have := equalIn_ints (P := Try.prog) w 9998 (t := 28) (k := .u64) Try.underlying28 Try.underlying24 hi Try.cellsU64 [a0, a1, a2, a3] [b0, b1, b2, b3] rfl rfl
  simpa [ints] using this
end Go.Proofs.Ytchjjbklkmfelaa
