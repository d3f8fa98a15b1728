/- HugeAdds: sum, difference and order. -/
import Derived.Test.YtchjjbklkmfelaaLaw2
namespace Go.Proofs.Ytchjjbklkmfelaa
open Go.RowKit Go.Lib
set_option linter.unusedVariables false
set_option linter.unusedSimpArgs false

/-- Two numbers in blocks. -/
structure AB (w : World) (g h a b : Nat) : Prop where
  x : Box w g a
  y : Box w h b
theorem AB.later {w w' : World} {g h a b : Nat} (k : AB w g h a b) (hb : Below w.heap.size w w') : AB w' g h a b := ⟨k.x.later hb, k.y.later hb⟩
theorem AB.drew {w : World} {g h a b : Nat} (k : AB w g h a b) : AB w.drew g h a b := ⟨k.x.drew, k.y.drew⟩
theorem AB.drewN {w : World} {g h a b : Nat} (k : AB w g h a b) (n : Nat) : AB (w.drewN n) g h a b := ⟨k.x.drewN n, k.y.drewN n⟩
theorem AB.alloc {w : World} {g h a b : Nat} (k : AB w g h a b) (o : Obj) : AB (w.alloc o) g h a b := ⟨k.x.alloc o, k.y.alloc o⟩
theorem AB.start (w : World) (a b : Nat) : AB ((w.alloc (row4 (limb a))).alloc (row4 (limb b))) w.heap.size (w.heap.size + 1) a b := by
  have h2 := Box.new (w.alloc (row4 (limb a))) b
  rw [World.size_alloc] at h2
  exact ⟨(Box.new w a).alloc _, h2⟩
theorem AB.cells {w : World} {g h a b : Nat} (k : AB w g h a b) : w.cell? ⟨g, 0, none⟩ = some (.int .u64 (limb a 0)) ∧ w.cell? ⟨g, 1, none⟩ = some (.int .u64 (limb a 1)) ∧ w.cell? ⟨g, 2, none⟩ = some (.int .u64 (limb a 2)) ∧ w.cell? ⟨g, 3, none⟩ = some (.int .u64 (limb a 3)) ∧
    w.cell? ⟨h, 0, none⟩ = some (.int .u64 (limb b 0)) ∧ w.cell? ⟨h, 1, none⟩ = some (.int .u64 (limb b 1)) ∧ w.cell? ⟨h, 2, none⟩ = some (.int .u64 (limb b 2)) ∧ w.cell? ⟨h, 3, none⟩ = some (.int .u64 (limb b 3)) := by
  obtain ⟨a0, a1, a2, a3⟩ := k.x.cells
  obtain ⟨b0, b1, b2, b3⟩ := k.y.cells
  exact ⟨a0, a1, a2, a3, b0, b1, b2, b3⟩

theorem cells12 {w : World} {g h a b i c : Nat} (k : AB w g h a b) (l : Box w i c) : w.cell? ⟨i, 0, none⟩ = some (.int .u64 (limb c 0)) ∧ w.cell? ⟨i, 1, none⟩ = some (.int .u64 (limb c 1)) ∧ w.cell? ⟨i, 2, none⟩ = some (.int .u64 (limb c 2)) ∧ w.cell? ⟨i, 3, none⟩ = some (.int .u64 (limb c 3)) ∧
    w.cell? ⟨g, 0, none⟩ = some (.int .u64 (limb a 0)) ∧ w.cell? ⟨g, 1, none⟩ = some (.int .u64 (limb a 1)) ∧ w.cell? ⟨g, 2, none⟩ = some (.int .u64 (limb a 2)) ∧ w.cell? ⟨g, 3, none⟩ = some (.int .u64 (limb a 3)) ∧
    w.cell? ⟨h, 0, none⟩ = some (.int .u64 (limb b 0)) ∧ w.cell? ⟨h, 1, none⟩ = some (.int .u64 (limb b 1)) ∧ w.cell? ⟨h, 2, none⟩ = some (.int .u64 (limb b 2)) ∧ w.cell? ⟨h, 3, none⟩ = some (.int .u64 (limb b 3)) := by
  obtain ⟨c0, c1, c2, c3⟩ := l.cells
  exact ⟨c0, c1, c2, c3, k.cells⟩

end Go.Proofs.Ytchjjbklkmfelaa
