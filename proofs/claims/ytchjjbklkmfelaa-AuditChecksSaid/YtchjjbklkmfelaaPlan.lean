/- A region that draws its order: values, fresh blocks, whole stores into these, and deeds in a row: one thing to show for each operation, none for each order. -/
import Derived.Test.YtchjjbklkmfelaaInv
import Derived.RegionTactic
import Derived.Deep.Quiet
import Derived.Deep.MidRow
import Derived.Below
namespace Go.Proofs.Ytchjjbklkmfelaa
set_option linter.unusedVariables false

/-- What an operation is: it yields one value at whatever stage; .. ahead of all deeds; a deed; it makes a fresh block; it stores into the fresh block of an operation; it yields some value, of which something holds. -/
inductive Tag where
  | main | early | late | new | ghost | put (k : Nat) | alias (k : Nat)
  deriving DecidableEq
/-- What comes up in a run alone: a fresh block's number; a value. -/
structure Gh where
  p : Nat
  v : Value
structure Sched where
  tags : List Tag
  vals : List Value
  form : Nat → Nat → Value
  xs0 : Nat → List Value
  xs1 : Nat → List Value
  E : Nat → Value → World → Prop
namespace Sched
def tag (T : Sched) (i : Nat) : Tag := T.tags.getD i .main
def nth (T : Sched) (i : Nat) : Value := T.vals.getD i undef
def valOf (T : Sched) (c : Nat → Gh) (j : Nat) : Value := match T.tag j with | .new => T.form j (c j).p | .ghost => (c j).v | .alias k => (match T.tag k with | .new => T.form k (c k).p | _ => (c k).v) | _ => T.nth j
end Sched
section
variable (ops : Array Oper)
def wr (t : Nat) : Option Nat := (List.range ops.size).find? fun j => match ops[j]? with | some o => o.dst == some t | none => false
def edge (i j : Nat) : Bool := match ops[i]? with | some o => o.after.toList.any fun e => Region.binds .any e && e.on == j | none => false
def uses (i k : Nat) : Bool := edge ops i k && match ops[i]?, (ops[k]?).bind (·.dst) with | some o, some s => (o.looksAt ops).contains s | _, _ => false
def reach : Nat → Nat → Nat → Bool
  | 0, _, _ => false
  | n + 1, i, j => edge ops i j || (List.range ops.size).any fun k => edge ops i k && reach n k j
def readVal (T : Sched) (a : Act) (c : Nat → Gh) (i t : Nat) : Value := match wr ops t with
  | none => a.eval (.tmp t)
  | some j => if edge ops i j then T.valOf c j else a.eval (.tmp t)
def ReadsAs (T : Sched) (a : Act) (c : Nat → Gh) (i : Nat) (A : Act) : List Nat → Prop
  | [] => True
  | t :: r => A.eval (.tmp t) = readVal ops T a c i t ∧ ReadsAs T a c i A r
def Facts (T : Sched) (c : Nat → Gh) (N : Nat → Prop) (w : World) (i : Nat) : Prop := ∀ k, uses ops i k = true → (T.tag k = .new → N (c k).p ∧ (c k).p < w.heap.size ∧ w.rangeAt (c k).p 0 (T.xs0 k)) ∧ (T.tag k = .ghost → T.E k (c k).v w)
def ghosty (tags : List Tag) : Bool := tags.any (· == .ghost)
/-- New blocks stay as they are; all do, where values have come up of which something holds. -/
def Stays (T : Sched) (N : Nat → Prop) (w w' : World) : Prop := (∀ b, N b → b < w.heap.size → w'.heap[b]? = w.heap[b]?) ∧ w.heap.size ≤ w'.heap.size ∧ (ghosty T.tags = true → RowKit.Below w.heap.size w w')
def Guarded (o : Oper) (rv : Nat → Value) (S : Prop) (v : Value) : Prop := match o.guard with
  | none => S
  | some (g, want) => (rv g = .bool want ∧ S) ∨ (rv g = .bool (!want) ∧ v = undef)
def lates (tags : List Tag) : Nat := tags.countP (· == .late)
def StepAt (P : Program) (T : Sched) (a : Act) (C : Nat → (Nat → Prop) → World → Prop) (i : Nat) (o : Oper) : Prop := match T.tag i with
  | .main => ∀ m c N w A, m ≤ lates T.tags → C m N w → Facts ops T c N w i → ReadsAs ops T a c i A (o.looksAt ops) → Guarded o (T.valOf c) (o.quietAt P A (fun w' => C m N w' ∧ Stays T N w w') w (T.nth i)) (T.nth i)
  | .early => ∀ c N w A, C 0 N w → Facts ops T c N w i → ReadsAs ops T a c i A (o.looksAt ops) → Guarded o (T.valOf c) (o.quietAt P A (fun w' => C 0 N w' ∧ Stays T N w w') w (T.nth i)) (T.nth i)
  | .late => ∀ c N w A, C (lates (T.tags.take i)) N w → Facts ops T c N w i → ReadsAs ops T a c i A (o.looksAt ops) → o.wp P A w (fun a' w' => a' = A.put o.dst (T.nth i) ∧ C (lates (T.tags.take i) + 1) N w' ∧ Stays T N w w') (fun _ _ _ => False)
  | .new => ∀ m c N w A, m ≤ lates T.tags → C m N w → ReadsAs ops T a c i A (o.looksAt ops) → ∃ ty, (execOp A.eval o).run P w = .ok (.value (T.form i w.heap.size)) (w.alloc (.cells (T.xs0 i).toArray ty))
  | .ghost => ∀ m c N w A, m ≤ lates T.tags → C m N w → Facts ops T c N w i → ReadsAs ops T a c i A (o.looksAt ops) → o.wp P A w (fun a' w' => (∃ v, a' = A.put o.dst v ∧ T.E i v w') ∧ C m N w' ∧ RowKit.Below w.heap.size w w') (fun _ _ _ => False)
  | .alias _ => ∀ c w A, ReadsAs ops T a c i A (o.looksAt ops) → (execOp A.eval o).run P w = .ok (.value (T.valOf c i)) w
  | .put k => ∀ c w A, w.there (c k).p 0 (T.xs1 k).length → ReadsAs ops T a c i A (o.looksAt ops) → o.wp P A w (fun a' w' => a' = A ∧ w' = w.setCells (c k).p 0 (T.xs1 k)) (fun _ _ _ => False)
def Steps (P : Program) (T : Sched) (a : Act) (C : Nat → (Nat → Prop) → World → Prop) : List Oper → Nat → Prop
  | [], _ => True
  | o :: r, i => StepAt ops P T a C i o ∧ Steps P T a C r (i + 1)
def putsAll (T : Sched) (c : Nat → Gh) : List Oper → Nat → Act → Act
  | [], _, a => a
  | o :: r, i, a => putsAll T c r (i + 1) (a.put o.dst (T.valOf c i))
/-- What the kernel looks at. -/
def schedB (tags : List Tag) (nt : Nat) : Bool :=
  let n := ops.size
  let tag := fun i => tags.getD i Tag.main
  tags.length == n && Region.noSelect ops && (!ghosty tags || tags.all fun t => match t with | .put _ => false | .late => false | _ => true) &&
  (List.range n).all fun i => match ops[i]? with
    | none => true
    | some o =>
      (match o.dst with | some s => wr ops s == some i && Nat.blt s nt | none => true) &&
      o.after.all (fun e => !Region.binds .any e || Nat.blt e.on i) &&
      ((o.looksAt ops).all fun t => match wr ops t with | none => true | some j => j == i || edge ops i j || reach ops 3 j i) &&
      (match o.guard with | some (g, _) => edge ops i g && (match (ops[g]?).bind (·.dst) with | some _ => true | none => false) | none => true) &&
      (match tag i with
      | .put k => tag k == .new && edge ops i k && o.dst == none && o.guard == none && (List.range n).all fun j => j == i || !(tag j == .put k)
      | .late => o.guard == none && (List.range n).all (fun j => !(tag j == .early) || reach ops 4 i j) && (List.range n).all (fun j => !(tag j == .late) || j == i || (Nat.blt j i && reach ops 4 i j) || Nat.blt i j)
      | .new => o.guard == none && o.dst.isSome
      | .ghost => o.guard == none && o.dst.isSome
      | .alias k => o.guard == none && edge ops i k && (tag k == .new || tag k == .ghost)
      | _ => true) &&
      (match tag i with
      | .put _ => true
      | _ => (List.range n).all fun k => !(tag k == .new && uses ops i k) || (List.range n).all fun j => !(tag j == .put k))
end
end Go.Proofs.Ytchjjbklkmfelaa
