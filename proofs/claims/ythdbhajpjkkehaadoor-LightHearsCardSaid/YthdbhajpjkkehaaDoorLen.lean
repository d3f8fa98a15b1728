/- limb.Len answers how many bits a limb has; limb.Div the quotient and the rest, or why there is none. -/
import Derived.Test.YthdbhajpjkkehaaDoorRows
import Derived.Below
import Derived.Deep.Draws
import Derived.Deep.AppendLies
import Derived.Maps.AppendAt
import Derived.OwnWalk
import Derived.Laws.BytesArg
import Derived.Laws.MakeOwn
import Derived.Laws.OwnMore
import Derived.Deep.OwnRows
import Derived.Tactics
import Derived.Lib.ConvBytes
import Derived.Lib.Hide
import Derived.Laws.Slices
import Derived.WalkKit
import Derived.KernelRfl
import Derived.RowKit3
import Derived.Deep.LoopGhost
import Derived.Deep.QuietTactic
import Derived.BigQuiet
import Derived.WideLaws
import Derived.Deep.DeepCutAuto
import Derived.Deep.CutBlock
import Derived.Deep.RegionHeld3
import Derived.Laws.Rows
import Derived.Lib.AppendStr
import Derived.ArgAppend
import Derived.Laws.IdiomCopy
import Derived.OrdersHeld
import Derived.Laws.BitsLemmas
import Derived.RowKit
import Derived.ScopeJumps
import Derived.WalkSpells
import Derived.WalkLawsBesides
import Derived.WalkSmall
import Derived.Outline
import Derived.Laws.BitsAllLaws
namespace Go.Proofs.YthdbhajpjkkehaaDoor
open Go.RowKit

/-- A world behind some draws. -/
def Drawn (w w' : World) : Prop := ∃ n, w' = w.drewN n
theorem Drawn.refl (w : World) : Drawn w w := ⟨0, rfl⟩
theorem Drawn.drew {w w' : World} (h : Drawn w w') : Drawn w w'.drew := by
  obtain ⟨n, rfl⟩ := h
  exact ⟨n + 1, rfl⟩
theorem Drawn.drewN {w w' : World} (h : Drawn w w') (n : Nat) : Drawn w (w'.drewN n) := by
  obtain ⟨m, rfl⟩ := h
  exact ⟨m + n, World.drewN_drewN w m n⟩
theorem Drawn.of (w : World) (n : Nat) : Drawn w (w.drewN n) := ⟨n, rfl⟩
theorem Drawn.trans {w w' w'' : World} (h : Drawn w w') (h' : Drawn w' w'') : Drawn w w'' := by
  obtain ⟨m, rfl⟩ := h'
  exact h.drewN m
theorem u64_wrap (x : Int) : IntKind.u64.wrap x = x % 18446744073709551616 := by
  simp [IntKind.wrap, IntKind.signed, IntKind.bits]
theorem ret_two {k1 k2 : IntKind} {a b c d : Int} (h : a = c) (h' : b = d) : Ending.returned (.tuple #[.int k1 a, .int k2 b]) = .returned (.tuple #[.int k1 c, .int k2 d]) := by rw [h, h']
theorem ret_three {k1 k2 k3 : IntKind} {a b c d e f : Int} (h : a = c) (h' : b = d) (h'' : e = f) : Ending.returned (.tuple #[.int k1 a, .int k2 b, .int k3 e]) = .returned (.tuple #[.int k1 c, .int k2 d, .int k3 f]) := by rw [h, h', h'']
theorem ret_one {k1 : IntKind} {a c : Int} (h : a = c) : Ending.returned (.int k1 a) = .returned (.int k1 c) := by rw [h]
theorem ret_bool {a c : Bool} (h : a = c) : Ending.returned (.bool a) = .returned (.bool c) := by rw [h]

/-- The call says yes, and nothing that was there has turned. -/
def Yes (w : World) (e : Ending) (w' : World) : Prop := e = .returned (.bool true) ∧ Below w.heap.size w w'
end Go.Proofs.YthdbhajpjkkehaaDoor

namespace Go.Proofs.YthdbhajpjkkehaaDoor.Sha
set_option linter.unusedVariables false

abbrev Wd := BitVec 32
theorem ror_succ (x : Wd) (n : Nat) (hn : n < 31) : (x.rotateRight n).rotateRight 1 = x.rotateRight (n + 1) := by
  ext i hi
  simp only [BitVec.getElem_rotateRight]
  split <;> split <;> simp_all <;> (try split) <;> (try congr 1) <;> omega
theorem ror_one (x : Wd) : (x.rotateRight 1).toNat = x.toNat / 2 + (if x.toNat % 2 = 1 then 2147483648 else 0) := by
  rw [BitVec.toNat_rotateRight]
  have hx := x.isLt
  generalize x.toNat = n at *
  have h1 : n >>> (1 % 32) = n / 2 := by simp [Nat.shiftRight_eq_div_pow]
  have h2 : n <<< (32 - 1 % 32) % 2 ^ 32 = 2 ^ 31 * (n % 2) := by
    rw [Nat.shiftLeft_eq, show 2 ^ (32 - 1 % 32) = 2147483648 by decide]; omega
  rw [h1, h2, Nat.or_comm, ← Nat.two_pow_add_eq_or_of_lt (by omega)]
  split <;> omega
def sig0 (x : Wd) : Wd := x.rotateRight 7 ^^^ x.rotateRight 18 ^^^ (x >>> 3)
def sig1 (x : Wd) : Wd := x.rotateRight 17 ^^^ x.rotateRight 19 ^^^ (x >>> 10)
def bsig1 (x : Wd) : Wd := x.rotateRight 6 ^^^ x.rotateRight 11 ^^^ x.rotateRight 25
def bsig0 (x : Wd) : Wd := x.rotateRight 2 ^^^ x.rotateRight 13 ^^^ x.rotateRight 22
def choice (e f g : Wd) : Wd := (e &&& f) ^^^ (~~~e &&& g)
def most (a b c : Wd) : Wd := (a &&& b) ^^^ (a &&& c) ^^^ (b &&& c)
theorem choice_or (e f g : Wd) : (e &&& f) ||| ((4294967295#32 - e) &&& g) = choice e f g := by
  have h : 4294967295#32 - e = ~~~e := by
    apply BitVec.eq_of_toNat_eq
    rw [BitVec.toNat_sub, BitVec.toNat_not]
    have := e.isLt
    simp
    omega
  rw [h]
  unfold choice
  ext i hi
  simp
  cases e[i] <;> simp
theorem most_or (a b c : Wd) : (a &&& b) ||| (a &&& c) ||| (b &&& c) = most a b c := by
  unfold most
  ext i hi
  simp
  cases a[i] <;> cases b[i] <;> cases c[i] <;> rfl

/-- The i-th word of 4 bytes. -/
def be (p : List UInt8) (i k : Nat) : Wd := BitVec.ofNat 32 (((p.drop (4 * i)).take k).foldl (fun n c => n * 256 + c.toNat) 0)
/-- The words of a block, so many. -/
def sched (p : List UInt8) : Nat → List Wd
  | 0 => []
  | n + 1 => sched p n ++ [if n < 16 then be p n 4 else (sched p n).getD (n - 16) 0 + (sched p n).getD (n - 7) 0 + sig0 ((sched p n).getD (n - 15) 0) + sig1 ((sched p n).getD (n - 2) 0)]
theorem sched_length (p : List UInt8) (n : Nat) : (sched p n).length = n := by
  induction n with
  | zero => rfl
  | succ n ih => rw [sched, List.length_append, ih]; rfl
theorem sched_take (p : List UInt8) (n k : Nat) (h : k ≤ n) : (sched p n).take k = sched p k := by
  induction n with
  | zero => have : k = 0 := by omega
            subst this; rfl
  | succ n ih =>
    by_cases hk : k ≤ n
    · rw [sched, List.take_append_of_le_length (by rw [sched_length]; exact hk), ih hk]
    · have : k = n + 1 := by omega
      subst this
      rw [List.take_of_length_le (by rw [sched_length]; omega)]
def word (p : List UInt8) (i : Nat) : Wd := (sched p 64).getD i 0
theorem sched_getD (p : List UInt8) (n i : Nat) (h : i < n) (hn : n ≤ 64) : (sched p n).getD i 0 = word p i := by
  unfold word
  rw [← sched_take p 64 n hn, List.getD_eq_getElem?_getD, List.getD_eq_getElem?_getD, List.getElem?_take_of_lt h]
theorem word_lo (p : List UInt8) (i : Nat) (h : i < 16) : word p i = be p i 4 := by
  rw [← sched_getD p (i + 1) i (by omega) (by omega), sched, List.getD_eq_getElem?_getD, List.getElem?_append_right (by rw [sched_length]; omega), sched_length]
  simp [h]
theorem word_hi (p : List UInt8) (i : Nat) (h : 16 ≤ i) (hi : i < 64) : word p i = word p (i - 16) + word p (i - 7) + sig0 (word p (i - 15)) + sig1 (word p (i - 2)) := by
  rw [← sched_getD p (i + 1) i (by omega) (by omega), sched, List.getD_eq_getElem?_getD, List.getElem?_append_right (by rw [sched_length]; omega), sched_length]
  rw [sched_getD p i _ (by omega) (by omega), sched_getD p i _ (by omega) (by omega), sched_getD p i _ (by omega) (by omega), sched_getD p i _ (by omega) (by omega)]
  simp [show ¬ i < 16 by omega]
def beN (p : List UInt8) (i k : Nat) : Nat := ((p.drop (4 * i)).take k).foldl (fun n c => n * 256 + c.toNat) 0
theorem fold_lt (l : List UInt8) (n : Nat) : l.foldl (fun n c => n * 256 + c.toNat) n < (n + 1) * 256 ^ l.length := by
  induction l generalizing n with
  | nil => simp
  | cons c l ih =>
    have hc := c.toNat_lt
    have := ih (n * 256 + c.toNat)
    rw [List.foldl_cons, List.length_cons, Nat.pow_succ]
    refine Nat.lt_of_lt_of_le this ?_
    have e2 : (n + 1) * (256 ^ l.length * 256) = (n * 256 + 256) * 256 ^ l.length := by
      rw [Nat.mul_comm (256 ^ l.length), ← Nat.mul_assoc, Nat.add_mul n 1 256, Nat.one_mul]
    rw [e2]
    exact Nat.mul_le_mul_right _ (by omega)
theorem beN_lt (p : List UInt8) (i k : Nat) : beN p i k < 256 ^ k := by
  have := fold_lt ((p.drop (4 * i)).take k) 0
  rw [Nat.zero_add, Nat.one_mul] at this
  exact Nat.lt_of_lt_of_le this (Nat.pow_le_pow_right (by decide) (List.length_take_le _ _))
theorem be_toNat (p : List UInt8) (i k : Nat) (hk : k ≤ 4) : (be p i k).toNat = beN p i k := by
  unfold be
  rw [BitVec.toNat_ofNat]
  exact Nat.mod_eq_of_lt (Nat.lt_of_lt_of_le (beN_lt p i k) (Nat.le_trans (Nat.pow_le_pow_right (by decide) hk) (Nat.le_of_eq (by simp))))
theorem beN_zero (p : List UInt8) (i : Nat) : beN p i 0 = 0 := rfl
theorem beN_succ (p : List UInt8) (i k : Nat) (h : 4 * i + k < p.length) : beN p i (k + 1) = beN p i k * 256 + (p.getD (4 * i + k) 0).toNat := by
  unfold beN
  have e : (p.drop (4 * i)).take (k + 1) = (p.drop (4 * i)).take k ++ [p.getD (4 * i + k) 0] := by
    rw [List.take_succ_eq_append_getElem (by simp; omega)]
    simp [List.getD_eq_getElem?_getD, h]
  rw [e, List.foldl_append]
  rfl

structure St where (a b c d e f g h : Wd)
def St.list (s : St) : List Wd := [s.a, s.b, s.c, s.d, s.e, s.f, s.g, s.h]
def St.round (s : St) (k w : Wd) : St :=
  let t := s.h + bsig1 s.e + choice s.e s.f s.g + k + w
  let u := bsig0 s.a + most s.a s.b s.c
  ⟨t + u, s.a, s.b, s.c, s.d + t, s.e, s.f, s.g⟩
def St.add (s t : St) : St := ⟨s.a + t.a, s.b + t.b, s.c + t.c, s.d + t.d, s.e + t.e, s.f + t.f, s.g + t.g, s.h + t.h⟩
def kT : List Nat := [0x428a2f98, 0x71374491, 0xb5c0fbcf, 0xe9b5dba5, 0x3956c25b, 0x59f111f1, 0x923f82a4, 0xab1c5ed5, 0xd807aa98, 0x12835b01, 0x243185be, 0x550c7dc3, 0x72be5d74, 0x80deb1fe, 0x9bdc06a7, 0xc19bf174, 0xe49b69c1, 0xefbe4786, 0x0fc19dc6, 0x240ca1cc, 0x2de92c6f, 0x4a7484aa, 0x5cb0a9dc, 0x76f988da, 0x983e5152, 0xa831c66d, 0xb00327c8, 0xbf597fc7, 0xc6e00bf3, 0xd5a79147, 0x06ca6351, 0x14292967, 0x27b70a85, 0x2e1b2138, 0x4d2c6dfc, 0x53380d13, 0x650a7354, 0x766a0abb, 0x81c2c92e, 0x92722c85, 0xa2bfe8a1, 0xa81a664b, 0xc24b8b70, 0xc76c51a3, 0xd192e819, 0xd6990624, 0xf40e3585, 0x106aa070, 0x19a4c116, 0x1e376c08, 0x2748774c, 0x34b0bcb5, 0x391c0cb3, 0x4ed8aa4a, 0x5b9cca4f, 0x682e6ff3, 0x748f82ee, 0x78a5636f, 0x84c87814, 0x8cc70208, 0x90befffa, 0xa4506ceb, 0xbef9a3f7, 0xc67178f2]
def kAt (i : Nat) : Wd := BitVec.ofNat 32 (kT.getD i 0)
def St.rounds (s : St) (p : List UInt8) : Nat → St
  | 0 => s
  | n + 1 => (St.rounds s p n).round (kAt n) (word p n)
def St.take (s : St) (p : List UInt8) : St := s.add (s.rounds p 64)
def St.begin : St := ⟨0x6a09e667#32, 0xbb67ae85#32, 0x3c6ef372#32, 0xa54ff53a#32, 0x510e527f#32, 0x9b05688c#32, 0x1f83d9ab#32, 0x5be0cd19#32⟩
/-- Whole blocks go in. -/
def St.blocks (s : St) (p : List UInt8) : St := if h : 64 ≤ p.length then St.blocks (s.take (p.take 64)) (p.drop 64) else s
termination_by p.length
decreasing_by simp; omega
def restOf (p : List UInt8) : List UInt8 := p.drop (p.length / 64 * 64)
theorem blocks_short (s : St) (p : List UInt8) (h : p.length < 64) : s.blocks p = s := by rw [St.blocks, dif_neg (by omega)]
theorem blocks_cons (s : St) (p : List UInt8) (h : 64 ≤ p.length) : s.blocks p = (s.take (p.take 64)).blocks (p.drop 64) := by rw [St.blocks, dif_pos h]
theorem rest_short (p : List UInt8) (h : p.length < 64) : restOf p = p := by
  unfold restOf; rw [Nat.div_eq_of_lt h]; simp
theorem rest_drop (p : List UInt8) (h : 64 ≤ p.length) : restOf (p.drop 64) = restOf p := by
  unfold restOf; rw [List.drop_drop, List.length_drop]; congr 1; omega
theorem rest_length (p : List UInt8) : (restOf p).length = p.length % 64 := by
  unfold restOf; rw [List.length_drop]; omega
/-- Blocks that go in one behind the other. -/
theorem blocks_append (s : St) (p q : List UInt8) : s.blocks (p ++ q) = (s.blocks p).blocks (restOf p ++ q) := by
  generalize hn : p.length = n
  induction n using Nat.strongRecOn generalizing s p with
  | _ n ih =>
    by_cases h : 64 ≤ p.length
    · rw [blocks_cons s p h, blocks_cons s (p ++ q) (by simp; omega), List.take_append_of_le_length h, List.drop_append_of_le_length h, ih (p.drop 64).length (by simp; omega) _ _ rfl, rest_drop p h]
    · rw [blocks_short s p (by omega), rest_short p (by omega)]
def lenBytes (n : Nat) : List UInt8 := (List.range 8).map fun i => UInt8.ofNat (8 * n % 18446744073709551616 / 256 ^ (7 - i) % 256)
def padOf (n : Nat) : List UInt8 := 128 :: List.replicate ((119 - n % 64) % 64) 0 ++ lenBytes n
def byteOf (s : St) (i : Nat) : UInt8 := UInt8.ofNat ((s.list.getD (i / 4) 0).toNat / 256 ^ (3 - i % 4) % 256)
def St.bytes (s : St) : List UInt8 := (List.range 32).map (byteOf s)
/-- The sum of bytes. -/
def sum (p : List UInt8) : List UInt8 := (St.begin.blocks (p ++ padOf p.length)).bytes
theorem sum_length (p : List UInt8) : (sum p).length = 32 := by simp [sum, St.bytes]
end Go.Proofs.YthdbhajpjkkehaaDoor.Sha

namespace Go.Proofs.YthdbhajpjkkehaaDoor
open Go.RowKit Go.Lib Sha
set_option linter.unusedVariables false
set_option linter.unusedSimpArgs false

abbrev wV (x : Wd) : Value := .int .u32 (x.toNat : Int)
theorem turn_mask (n : Nat) (h1 : 1 ≤ n) (h2 : n ≤ 31) : bits .and .u64 (IntKind.u64.wrap (-(n : Int))) 31 = ((32 - n : Nat) : Int) := by
  have e : IntKind.u64.wrap (-(n : Int)) = ((18446744073709551616 - n : Nat) : Int) := by rw [u64_wrap]; omega
  rw [e]
  have := u64_and_nat (18446744073709551616 - n) 31 (by omega) (by omega)
  rw [nat_mask5] at this
  rw [show ((31 : Nat) : Int) = 31 from rfl] at this
  rw [this]
  omega
theorem rot_val (x : Wd) (n : Nat) (h1 : 1 ≤ n) (h2 : n ≤ 31) : bits .or .u32 ((x.toNat : Int) * 2 ^ (32 - n) % 4294967296) ((x.toNat : Int) / 2 ^ n) = ((x.rotateRight n).toNat : Int) := by
  have hx := x.isLt
  have e1 : (x.toNat : Int) * 2 ^ (32 - n) % 4294967296 = ((x.toNat * 2 ^ (32 - n) % 4294967296 : Nat) : Int) := by
    rw [Int.natCast_emod, Int.natCast_mul, Int.natCast_pow]; rfl
  have e2 : (x.toNat : Int) / 2 ^ n = ((x.toNat / 2 ^ n : Nat) : Int) := by
    rw [Int.natCast_ediv, Int.natCast_pow]; rfl
  rw [e1, e2, u32_or_nat _ _ (Nat.mod_lt _ (by decide)) (Nat.lt_of_le_of_lt (Nat.div_le_self _ _) hx), BitVec.toNat_rotateRight, Nat.mod_eq_of_lt (show n < 32 by omega), Nat.shiftRight_eq_div_pow, Nat.shiftLeft_eq, Nat.or_comm]
set_option maxHeartbeats 400000 in
theorem rot_calls (x : Wd) (n : Nat) (h1 : 1 ≤ n) (h2 : n ≤ 31) (w : World) :
    Calls Tryd.prog 59 #[wV x, .int .i64 (-(n : Int))] w fun e w' => e = .returned (wV (x.rotateRight n)) ∧ w = w' := by
  have hx := x.isLt
  have hm := turn_mask n h1 h2
  have HN : Hid (32 - (32 - n) = n) := Lib.hid (by omega)
  have hs1 : 1 ≤ 32 - n := by omega
  have hs2 : 32 - n ≤ 31 := by omega
  generalize 32 - n = s at *
  have hw : IntKind.u64.wrap (32 - (s : Int)) = ((32 - s : Nat) : Int) := by rw [u64_wrap]; omega
  have q1 : 0 ≤ (s : Int) := by omega
  have q2 : (s : Int) ≤ 64 := by omega
  have q3 : (0 : Int) ≤ ((32 - s : Nat) : Int) := by omega
  have q4 : ((32 - s : Nat) : Int) ≤ 64 := by omega
  go_enter Tryd.func59, Tryd.ntmps59
  go_wp2_with fail
  go_ret
  have := rot_val x n h1 h2
  have e : 32 - n = s := by rw [← HN.out]; omega
  rw [e, ← HN.out] at this
  rw [← HN.out]
  exact ⟨ret_one this, rfl⟩
/-! The words' numbers. -/
theorem xor_w (x y : Wd) : bits .xor .u32 (x.toNat : Int) (y.toNat : Int) = ((x ^^^ y).toNat : Int) := by rw [u32_xor_nat _ _ x.isLt y.isLt, BitVec.toNat_xor]
theorem and_w (x y : Wd) : bits .and .u32 (x.toNat : Int) (y.toNat : Int) = ((x &&& y).toNat : Int) := by rw [u32_and_nat _ _ x.isLt y.isLt, BitVec.toNat_and]
theorem or_w (x y : Wd) : bits .or .u32 (x.toNat : Int) (y.toNat : Int) = ((x ||| y).toNat : Int) := by rw [u32_or_nat _ _ x.isLt y.isLt, BitVec.toNat_or]
theorem add_w (x y : Wd) : IntKind.u32.wrap ((x.toNat : Int) + (y.toNat : Int)) = ((x + y).toNat : Int) := by
  rw [IntKind.wrap_u32', BitVec.toNat_add, Int.natCast_emod, Int.natCast_add]; rfl
theorem add_m (x y : Wd) : ((x.toNat : Int) + (y.toNat : Int)) % 4294967296 = ((x + y).toNat : Int) := by
  rw [BitVec.toNat_add, Int.natCast_emod, Int.natCast_add]; rfl
theorem shr_w (x : Wd) (n : Nat) : (x.toNat : Int) / 2 ^ n = ((x >>> n).toNat : Int) := by
  rw [BitVec.toNat_ushiftRight, Nat.shiftRight_eq_div_pow, Int.natCast_ediv, Int.natCast_pow]; rfl
def IsW (w : World) (x : Wd) (e : Ending) (w' : World) : Prop := e = .returned (wV x) ∧ w = w'
theorem rot_named {x y : Wd} {n : Nat} (h1 : 1 ≤ n) (h2 : n ≤ 31) (hy : x.rotateRight n = y) (w : World) {k : Int} (hk : k = -(n : Int)) :
    Calls Tryd.prog 59 #[wV x, .int .i64 k] w (IsW w y) := by
  rw [hk]
  exact (rot_calls x n h1 h2 w).mono fun e w' ⟨h, h'⟩ => ⟨by rw [h, hy], h'⟩
set_option maxHeartbeats 400000 in
theorem turned_calls (x : Wd) (a b c : Nat) (h1 : 1 ≤ a) (h2 : a ≤ 31) (h3 : 1 ≤ b) (h4 : b ≤ 31) (h5 : 1 ≤ c) (h6 : c ≤ 31) (y : Wd) (hy : x.rotateRight a ^^^ x.rotateRight b ^^^ x.rotateRight c = y) (w : World) :
    Calls Tryd.prog 58 #[wV x, .int .i64 (a : Int), .int .i64 (b : Int), .int .i64 (c : Int)] w (IsW w y) := by
  have ha : IntKind.i64.wrap (-(a : Int)) = -(a : Int) := IntWalk.i64_in _ (by omega)
  have hb : IntKind.i64.wrap (-(b : Int)) = -(b : Int) := IntWalk.i64_in _ (by omega)
  have hc : IntKind.i64.wrap (-(c : Int)) = -(c : Int) := IntWalk.i64_in _ (by omega)
  obtain ⟨X, hX⟩ : ∃ X, x.rotateRight a = X := ⟨_, rfl⟩
  obtain ⟨Y, hY⟩ : ∃ Y, x.rotateRight b = Y := ⟨_, rfl⟩
  obtain ⟨Z, hZ⟩ : ∃ Z, x.rotateRight c = Z := ⟨_, rfl⟩
  rw [hX, hY, hZ] at hy
  have H1 := Lib.hid (fun w => rot_named h1 h2 hX w rfl)
  have H2 := Lib.hid (fun w => rot_named h3 h4 hY w rfl)
  have H3 := Lib.hid (fun w => rot_named h5 h6 hZ w rfl)
  have HY := Lib.hid hy
  clear hX hY hZ hy
  go_enter Tryd.func58, Tryd.ntmps58
  go_wp2_with fail
  refine (H1.out _).mono ?_
  rintro e w1 ⟨rfl, rfl⟩
  go_wp2_with fail
  refine (H2.out _).mono ?_
  rintro e w1 ⟨rfl, rfl⟩
  go_wp2_with fail
  refine (H3.out _).mono ?_
  rintro e w1 ⟨rfl, rfl⟩
  go_wp2_with fail
  go_ret
  refine ⟨ret_one ?_, rfl⟩
  show bits .xor .u32 (bits .xor .u32 (X.toNat : Int) (Y.toNat : Int)) (Z.toNat : Int) = _
  rw [xor_w, xor_w, HY.out]
end Go.Proofs.YthdbhajpjkkehaaDoor

namespace Go.Proofs.YthdbhajpjkkehaaDoor
open Go.RowKit
set_option linter.unusedVariables false
set_option linter.unusedSimpArgs false

/-- What the slots of a round hold: a guess that is not too small, and what is left by it. -/
structure Guess (hi lo y q left : Int) : Prop where
  sum : q * (y / 4294967296) + left = hi
  left0 : 0 ≤ left
  left1 : left < 4294967296
  up : hi * 4294967296 + lo < (q + 1) * y
  q0 : 0 ≤ q
  q1 : q ≤ 4294967299

theorem guess_start {hi lo y : Int} (h0 : 0 ≤ hi) (h1 : hi < y) (h2 : 0 ≤ lo) (h3 : lo < 4294967296) (h4 : 9223372036854775808 ≤ y) (h5 : y < 18446744073709551616) :
    Guess hi lo y (hi / (y / 4294967296)) (hi % (y / 4294967296)) := by
  have hy1 : 2147483648 ≤ y / 4294967296 := by omega
  have hy2 : y / 4294967296 < 4294967296 := by omega
  generalize hY : y / 4294967296 = Y at *
  have e := Int.mul_ediv_add_emod hi Y
  have r0 := Int.emod_nonneg hi (show Y ≠ 0 by omega)
  have r1 := Int.emod_lt_of_pos hi (show 0 < Y by omega)
  have q0 : 0 ≤ hi / Y := Int.ediv_nonneg h0 (by omega)
  generalize hi / Y = q at *
  generalize hi % Y = r at *
  have eq : q * Y + r = hi := by rw [Int.mul_comm]; exact e
  refine ⟨by rw [hY]; exact eq, r0, by omega, ?_, q0, ?_⟩
  · have : (q + 1) * Y * 4294967296 ≤ (q + 1) * y := by
      have : (q + 1) * (Y * 4294967296) ≤ (q + 1) * y := Int.mul_le_mul_of_nonneg_left (by omega) (by omega)
      rw [Int.mul_assoc]; exact this
    have h : (q + 1) * Y = hi - r + Y := by rw [Int.add_mul]; omega
    omega
  · by_cases hq : q ≤ 4294967299
    · exact hq
    · have : 4294967300 * Y ≤ q * Y := Int.mul_le_mul_of_nonneg_right (by omega) (by omega)
      omega

/-- The guess is right where the test says no. -/
theorem guess_done {hi lo y q left : Int} (h1 : hi < y) (h2 : 0 ≤ lo) (h4 : 9223372036854775808 ≤ y) (g : Guess hi lo y q left)
    (ht : q * (y % 4294967296) ≤ left * 4294967296 + lo) : q = (hi * 4294967296 + lo) / y := by
  have e : q * y ≤ hi * 4294967296 + lo := by
    have ey : y = (y / 4294967296) * 4294967296 + y % 4294967296 := by omega
    have : q * y = q * (y / 4294967296) * 4294967296 + q * (y % 4294967296) := by
      rw [Int.mul_assoc, ← Int.mul_add, ← ey]
    have := g.sum
    omega
  have u := g.up
  have h : (q + 1) * y = q * y + y := by rw [Int.add_mul]; omega
  apply Int.le_antisymm
  · exact Int.le_ediv_of_mul_le (by omega) e
  · have : (hi * 4294967296 + lo) / y < q + 1 := Int.ediv_lt_of_lt_mul (by omega) u
    omega

/-- One less, where the test says yes. -/
theorem guess_less {hi lo y q left : Int} (h0 : 0 ≤ hi) (h1 : hi < y) (h2 : 0 ≤ lo) (h3 : lo < 4294967296) (h4 : 9223372036854775808 ≤ y) (h5 : y < 18446744073709551616) (g : Guess hi lo y q left)
    (ht : 4294967296 ≤ q ∨ left * 4294967296 + lo < q * (y % 4294967296)) :
    1 ≤ q ∧ (q - 1) * (y / 4294967296) + (left + y / 4294967296) = hi ∧ hi * 4294967296 + lo < (q - 1 + 1) * y := by
  have N : hi * 4294967296 + lo < q * y := by
    rcases ht with ht | ht
    · have : 4294967296 * y ≤ q * y := Int.mul_le_mul_of_nonneg_right ht (by omega)
      omega
    · have ey : y = (y / 4294967296) * 4294967296 + y % 4294967296 := by omega
      have : q * y = q * (y / 4294967296) * 4294967296 + q * (y % 4294967296) := by
        rw [Int.mul_assoc, ← Int.mul_add, ← ey]
      have := g.sum
      omega
  refine ⟨?_, ?_, ?_⟩
  · by_cases hq : 1 ≤ q
    · exact hq
    · have := g.q0
      have e : q = 0 := by omega
      rw [e] at N
      omega
  · have := g.sum
    have : (q - 1) * (y / 4294967296) = q * (y / 4294967296) - y / 4294967296 := by rw [Int.sub_mul]; omega
    omega
  · rw [show q - 1 + 1 = q by omega]; exact N

/-- A guess whose rest has left the digit is right. -/
theorem guess_wide {hi lo y q left : Int} (h0 : 0 ≤ hi) (h1 : hi < y) (h2 : 0 ≤ lo) (h4 : 9223372036854775808 ≤ y) (h5 : y < 18446744073709551616)
    (hs : q * (y / 4294967296) + left = hi) (hl : 4294967296 ≤ left) (hu : hi * 4294967296 + lo < (q + 1) * y) (q0 : 0 ≤ q) : q = (hi * 4294967296 + lo) / y := by
  have hy1 : 2147483648 ≤ y / 4294967296 := by omega
  have q1 : q < 4294967296 := by
    by_cases hq : q < 4294967296
    · exact hq
    · have : 4294967296 * (y / 4294967296) ≤ q * (y / 4294967296) := Int.mul_le_mul_of_nonneg_right (by omega) (by omega)
      omega
  have e : q * y ≤ hi * 4294967296 + lo := by
    have ey : y = (y / 4294967296) * 4294967296 + y % 4294967296 := by omega
    have : q * y = q * (y / 4294967296) * 4294967296 + q * (y % 4294967296) := by
      rw [Int.mul_assoc, ← Int.mul_add, ← ey]
    have : q * (y % 4294967296) ≤ q * 4294967296 := Int.mul_le_mul_of_nonneg_left (by omega) q0
    omega
  have h : (q + 1) * y = q * y + y := by rw [Int.add_mul]; omega
  apply Int.le_antisymm
  · exact Int.le_ediv_of_mul_le (by omega) e
  · have : (hi * 4294967296 + lo) / y < q + 1 := Int.ediv_lt_of_lt_mul (by omega) hu
    omega

theorem digit_rest {hi lo y q : Int} (h4 : 9223372036854775808 ≤ y) (h5 : y < 18446744073709551616) (hq : q = (hi * 4294967296 + lo) / y) :
    IntKind.u64.wrap (IntKind.u64.wrap (IntKind.u64.wrap (hi * 4294967296) + lo) - IntKind.u64.wrap (q * y)) = (hi * 4294967296 + lo) % y := by
  have e := Int.mul_ediv_add_emod (hi * 4294967296 + lo) y
  have r0 := Int.emod_nonneg (hi * 4294967296 + lo) (show y ≠ 0 by omega)
  have r1 := Int.emod_lt_of_pos (hi * 4294967296 + lo) (show 0 < y by omega)
  rw [← hq, Int.mul_comm] at e
  simp only [u64_wrap]
  generalize (hi * 4294967296 + lo) % y = r at *
  generalize q * y = p at *
  omega

end Go.Proofs.YthdbhajpjkkehaaDoor

namespace Go.Proofs.YthdbhajpjkkehaaDoor
open Go.RowKit
set_option linter.unusedVariables false
set_option linter.unusedSimpArgs false

/-- How many bits a number has. -/
def blen (x : Int) : Nat := if x ≤ 0 then 0 else Nat.log2 x.toNat + 1

theorem blen_zero : blen 0 = 0 := rfl
theorem blen_half {x : Int} (h : 1 ≤ x) : blen x = blen (x / 2) + 1 := by
  unfold blen
  rw [if_neg (by omega)]
  by_cases h2 : x / 2 ≤ 0
  · rw [if_pos h2]
    have : x = 1 := by omega
    subst this
    decide
  · rw [if_neg h2, Nat.log2_def, if_pos (by omega)]
    have : (x / 2).toNat = x.toNat / 2 := by omega
    rw [this]
theorem blen_pow {x : Int} (h : 1 ≤ x) : (2 : Int) ^ (blen x - 1) ≤ x ∧ x < (2 : Int) ^ blen x ∧ 1 ≤ blen x := by
  unfold blen
  rw [if_neg (by omega)]
  have h0 : x.toNat ≠ 0 := by omega
  have a := Nat.log2_self_le h0
  have b := @Nat.lt_log2_self x.toNat
  refine ⟨?_, ?_, by omega⟩
  · have : ((2 ^ (Nat.log2 x.toNat) : Nat) : Int) ≤ (x.toNat : Int) := Int.ofNat_le.2 a
    rw [Nat.add_sub_cancel]
    push_cast at this
    omega
  · have : ((x.toNat : Nat) : Int) < ((2 ^ (Nat.log2 x.toNat + 1) : Nat) : Int) := Int.ofNat_lt.2 b
    push_cast at this
    omega
theorem blen_le {x : Int} (h : x < 18446744073709551616) : blen x ≤ 64 := by
  unfold blen
  by_cases h0 : x ≤ 0
  · rw [if_pos h0]; omega
  · rw [if_neg h0]
    have : Nat.log2 x.toNat < 64 := (Nat.log2_lt (by omega)).2 (by omega)
    omega

/-- What the shifts make of a pair and a divisor. -/
theorem pow_split (n : Nat) (h : n ≤ 64) : (2 : Int) ^ (64 - n) * (2 : Int) ^ n = 18446744073709551616 := by
  rw [← Int.pow_add, Nat.sub_add_cancel h]
  decide

theorem or_add (a b B : Int) (s : Nat) (hB : B = (2 : Int) ^ s) (ha : 0 ≤ a) (ha2 : a * B + b < 18446744073709551616) (hb : 0 ≤ b) (hb2 : b < B) : bits .or .u64 (a * B) b = a * B + b := by
  have hB1 : 0 < B := by omega
  have hab : 0 ≤ a * B := Int.mul_nonneg ha (by omega)
  obtain ⟨m, rfl⟩ := Int.eq_ofNat_of_zero_le ha
  obtain ⟨k, rfl⟩ := Int.eq_ofNat_of_zero_le hb
  have e1 : (m : Int) * B = ((2 ^ s * m : Nat) : Int) := by rw [hB]; push_cast; rw [Int.mul_comm]
  rw [e1] at ha2 hab ⊢
  have hk : k < 2 ^ s := by
    have : (k : Int) < ((2 ^ s : Nat) : Int) := by push_cast; rw [← hB]; exact hb2
    exact Int.ofNat_lt.1 this
  rw [u64_or_nat _ _ (by omega) (by omega), ← Nat.two_pow_add_eq_or_of_lt hk]
  push_cast
  rfl

structure Shifted (hi lo y B C : Int) : Prop where
  y0 : 9223372036854775808 ≤ y * B
  y1 : y * B < 18446744073709551616
  h0 : 0 ≤ hi * B + lo / C
  h1 : hi * B + lo / C < y * B
  r1 : lo / C < B
  r0 : 0 ≤ lo / C
  w : hi * B < 18446744073709551616
  hb : 0 ≤ hi * B
  lo : lo * B % 18446744073709551616 = (lo % C) * B

theorem shifted {hi lo y : Int} (h0 : 0 ≤ hi) (h1 : hi < y) (h2 : 0 ≤ lo) (h3 : lo < 18446744073709551616) (h5 : y < 18446744073709551616) :
    Shifted hi lo y ((2 : Int) ^ (64 - blen y)) ((2 : Int) ^ blen y) := by
  obtain ⟨p1, p2, p3⟩ := blen_pow (show 1 ≤ y by omega)
  have hl := blen_le h5
  have hs := pow_split (blen y) hl
  have hB : 0 < (2 : Int) ^ (64 - blen y) := Int.pow_pos (by decide)
  have hC : 0 < (2 : Int) ^ blen y := Int.pow_pos (by decide)
  have hD : (2 : Int) ^ blen y = 2 * (2 : Int) ^ (blen y - 1) := by
    have : blen y = (blen y - 1) + 1 := by omega
    rw [this, Int.pow_succ, Nat.add_sub_cancel, Int.mul_comm]
  generalize (2 : Int) ^ (64 - blen y) = B at *
  generalize (2 : Int) ^ blen y = C at *
  generalize (2 : Int) ^ (blen y - 1) = D at *
  have hBD : B * D * 2 = 18446744073709551616 := by rw [Int.mul_assoc, Int.mul_comm D 2, ← hD]; exact hs
  have a1 : D * B ≤ y * B := Int.mul_le_mul_of_nonneg_right p1 (by omega)
  have a2 : (y + 1) * B ≤ C * B := Int.mul_le_mul_of_nonneg_right (by omega) (by omega)
  have a3 : (hi + 1) * B ≤ y * B := Int.mul_le_mul_of_nonneg_right (by omega) (by omega)
  have e1 : (y + 1) * B = y * B + B := by rw [Int.add_mul]; omega
  have e3 : (hi + 1) * B = hi * B + B := by rw [Int.add_mul]; omega
  have e4 : D * B = B * D := Int.mul_comm _ _
  have e5 : C * B = 18446744073709551616 := by rw [Int.mul_comm]; exact hs
  have c1 : 0 ≤ lo / C := Int.ediv_nonneg h2 (by omega)
  have c2 : lo / C < B := Int.ediv_lt_of_lt_mul hC (by omega)
  have c3 : 0 ≤ hi * B := Int.mul_nonneg h0 (by omega)
  refine ⟨by omega, by omega, by omega, by omega, c2, c1, by omega, c3, ?_⟩
  have e := Int.mul_ediv_add_emod lo C
  have l0 := Int.emod_nonneg lo (show C ≠ 0 by omega)
  have l1 := Int.emod_lt_of_pos lo hC
  have k : lo * B = 18446744073709551616 * (lo / C) + (lo % C) * B := by
    have : lo * B = (C * (lo / C) + lo % C) * B := by rw [e]
    rw [this, Int.add_mul, Int.mul_right_comm, e5]
  have m0 : 0 ≤ (lo % C) * B := Int.mul_nonneg l0 (by omega)
  have m1 : (lo % C + 1) * B ≤ C * B := Int.mul_le_mul_of_nonneg_right (by omega) (by omega)
  have m2 : (lo % C + 1) * B = (lo % C) * B + B := by rw [Int.add_mul]; omega
  rw [k]
  generalize (lo % C) * B = z at *
  generalize lo / C = v at *
  omega

/-- The two digits, put together. -/
theorem div_joined {hi lo y B C : Int} (h0 : 0 ≤ hi) (h1 : hi < y) (h2 : 0 ≤ lo) (hB : 0 < B) (hBC : B * C = 18446744073709551616) (g : Shifted hi lo y B C)
    {q1 r1 q0 r0 : Int} (hq1 : q1 = ((hi * B + lo / C) * 4294967296 + ((lo % C) * B) / 4294967296) / (y * B)) (hr1 : r1 = ((hi * B + lo / C) * 4294967296 + ((lo % C) * B) / 4294967296) % (y * B))
    (hq0 : q0 = (r1 * 4294967296 + ((lo % C) * B) % 4294967296) / (y * B)) (hr0 : r0 = (r1 * 4294967296 + ((lo % C) * B) % 4294967296) % (y * B)) :
    IntKind.u64.wrap (IntKind.u64.wrap (q1 * 4294967296) + q0) = (hi * 18446744073709551616 + lo) / y ∧ r0 / B = (hi * 18446744073709551616 + lo) % y := by
  have hC : 0 < C := by
    by_cases hC : 0 < C
    · exact hC
    · have : B * C ≤ B * 0 := Int.mul_le_mul_of_nonneg_left (by omega) (by omega)
      omega
  have hy := g.y0
  have l0 := Int.emod_nonneg lo (show C ≠ 0 by omega)
  have l1 := Int.emod_lt_of_pos lo hC
  have z0 : 0 ≤ (lo % C) * B := Int.mul_nonneg l0 (by omega)
  have z1 : (lo % C) * B < 18446744073709551616 := by
    have := g.lo
    omega
  have N : (hi * 18446744073709551616 + lo) * B = (hi * B + lo / C) * 18446744073709551616 + (lo % C) * B := by
    have e := Int.mul_ediv_add_emod lo C
    have : lo * B = (C * (lo / C) + lo % C) * B := by rw [e]
    rw [Int.add_mul, this, Int.add_mul, Int.mul_right_comm C, Int.mul_comm C B, hBC, Int.mul_right_comm]
    omega
  have E1 := Int.mul_ediv_add_emod ((hi * B + lo / C) * 4294967296 + ((lo % C) * B) / 4294967296) (y * B)
  have R10 := Int.emod_nonneg ((hi * B + lo / C) * 4294967296 + ((lo % C) * B) / 4294967296) (show y * B ≠ 0 by omega)
  have R11 := Int.emod_lt_of_pos ((hi * B + lo / C) * 4294967296 + ((lo % C) * B) / 4294967296) (show 0 < y * B by omega)
  rw [← hq1, ← hr1] at E1
  rw [← hr1] at R10 R11
  have E0 := Int.mul_ediv_add_emod (r1 * 4294967296 + ((lo % C) * B) % 4294967296) (y * B)
  have R00 := Int.emod_nonneg (r1 * 4294967296 + ((lo % C) * B) % 4294967296) (show y * B ≠ 0 by omega)
  have R01 := Int.emod_lt_of_pos (r1 * 4294967296 + ((lo % C) * B) % 4294967296) (show 0 < y * B by omega)
  rw [← hq0, ← hr0] at E0
  rw [← hr0] at R00 R01
  have H0 := g.h0
  have H1 := g.h1
  have Q1a : 0 ≤ q1 := by rw [hq1]; exact Int.ediv_nonneg (by omega) (by omega)
  have Q1b : q1 < 4294967296 := by rw [hq1]; exact Int.ediv_lt_of_lt_mul (by omega) (by omega)
  have Q0a : 0 ≤ q0 := by rw [hq0]; exact Int.ediv_nonneg (by omega) (by omega)
  have Q0b : q0 < 4294967296 := by rw [hq0]; exact Int.ediv_lt_of_lt_mul (by omega) (by omega)
  have T : (hi * 18446744073709551616 + lo) * B = ((q1 * 4294967296 + q0) * y) * B + r0 := by
    have a : ((q1 * 4294967296 + q0) * y) * B = y * B * q1 * 4294967296 + y * B * q0 := by
      rw [Int.mul_assoc, Int.add_mul, Int.mul_comm q0, Int.mul_right_comm, Int.mul_comm q1]
    rw [N, a]
    generalize y * B * q1 = u at *
    generalize y * B * q0 = v at *
    generalize lo % C * B = z at *
    omega
  have D : r0 = (hi * 18446744073709551616 + lo - (q1 * 4294967296 + q0) * y) * B := by
    rw [Int.sub_mul]
    omega
  have F : r0 / B = hi * 18446744073709551616 + lo - (q1 * 4294967296 + q0) * y := by
    rw [D]; exact Int.mul_ediv_cancel _ (by omega)
  have F0 : 0 ≤ r0 / B := Int.ediv_nonneg R00 (by omega)
  have F1 : r0 / B < y := Int.ediv_lt_of_lt_mul hB R01
  have W : IntKind.u64.wrap (IntKind.u64.wrap (q1 * 4294967296) + q0) = q1 * 4294967296 + q0 := by
    rw [u64_wrap, u64_wrap]; omega
  rw [W]
  generalize r0 / B = r at *
  have Z : hi * 18446744073709551616 + lo = r + y * (q1 * 4294967296 + q0) := by rw [Int.mul_comm y]; omega
  rw [Z]
  constructor
  · rw [Int.add_mul_ediv_left _ _ (by omega), Int.ediv_eq_zero_of_lt F0 F1]; omega
  · rw [Int.add_mul_emod_self_left, Int.emod_eq_of_lt F0 F1]

end Go.Proofs.YthdbhajpjkkehaaDoor
