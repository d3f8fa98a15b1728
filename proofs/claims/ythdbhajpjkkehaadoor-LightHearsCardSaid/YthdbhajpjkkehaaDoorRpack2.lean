/- The document's numbers of 32 bytes, and intents, as texts. -/
import Derived.Test.YthdbhajpjkkehaaDoorDom1
namespace Go.Proofs.YthdbhajpjkkehaaDoor
open Go.RowKit Go.Lib Sha
set_option linter.unusedVariables false
set_option linter.unusedSimpArgs false

theorem sumL_bV (p : List UInt8) : sumL p = bV (sum p) := rfl
set_option maxHeartbeats 1000000 in
set_option maxRecDepth 100000 in
theorem of_calls (tag : Nat) (v : Value) (ps : List (List UInt8)) (w : World) (h : PartsAt w v ps) (ht : tag < 256) (hps : ps.length ≤ 1000) (hl : (domText tag ps).length ≤ 900000) (hK : KAt w) (hB : BAt w) :
    Calls Tryd.prog 15 #[.int .u8 (tag : Int), v] w fun e w' => e = .returned (.agg (bV (sum (domText tag ps))).toArray) ∧ Below w.heap.size w w' := by
  obtain ⟨A, c, rfl, -⟩ := id h
  have HZ := hzero32 w
  have Q0 : Below w.heap.size w (w.alloc hob32) := (Below.refl _ _).alloc (Nat.le_refl _) _
  have HT := Lib.hid (text_calls tag _ ps (w.alloc hob32) (h.below Q0) ht hps hl)
  have hwW : w.heap.size < (w.alloc hob32).heap.size := HZ.lt
  have HL := Lib.hid hl
  have HK := Lib.hid (hK.below Q0)
  have HB := Lib.hid (hB.below Q0)
  clear h hl hK hB hps ht
  go_enter Tryd.func15, Tryd.ntmps15
  go_wp2_with fail
  obtain ⟨W0, hW0⟩ : ∃ W0, w.alloc hob32 = W0 := ⟨_, rfl⟩
  rw [hW0] at HZ Q0 HT hwW HK HB
  unfold hob32 at hW0
  rw [hW0]
  clear hW0
  refine HT.out.mono ?_
  rintro e w1 ⟨v1, rfl, o1, n1, b1⟩
  obtain ⟨A1, c1, rfl⟩ := o1.len
  have Q1 : Below w1.heap.size w1 (w1.alloc (.cells #[.slice A1 (domText tag ps).length c1] 66)) := (Below.refl _ _).alloc (Nat.le_refl _) _
  have HD := Lib.hid (dsum_calls w1.heap.size 0 1 (.slice A1 (domText tag ps).length c1) (domText tag ps) (w1.alloc (.cells #[.slice A1 (domText tag ps).length c1] 66)) (cell_new _ _ _) (o1.row.below Q1) n1 (fun k hk => by have := (OwnR.lt o1 k hk).2; simp; omega) HL.out ((HK.out.below b1).below Q1) ((HB.out.below b1).below Q1))
  have HQ := Lib.hid (b1.trans (Q1.mono b1.size))
  clear o1 n1 b1 Q1 HT
  go_wp2_with fail
  refine HD.out.mono ?_
  rintro e w3 ⟨rfl, hb3⟩
  rw [sumL_bV]
  have hbf : Below W0.heap.size W0 w3 := HQ.out.trans (hb3.mono HQ.out.size)
  have HBf : Hid (Below w.heap.size w w3) := Lib.hid (Q0.trans (hbf.mono (Nat.le_of_lt hwW)))
  have HZ3 : w3.rowIs w.heap.size 38 32 (fun _ => .int .u8 0) := World.rowIs.of_block HZ (hbf.block _ hwW)
  have hln : (bV (sum (domText tag ps))).length = 32 := by rw [bV_length, sum_length]
  have HI2 := Lib.hid (show (Tryd.prog.info? 38).map (·.size) = some (bV (sum (domText tag ps))).toArray.size by rw [List.size_toArray, hln]; exact hinfo32)
  have HI := Lib.hid (show (Tryd.prog.info? 38).map (·.size) = some (bV (sum (domText tag ps))).length by rw [hln]; exact hinfo32)
  have HO := Lib.hid (all_oneCell_toArray (bV_one (sum (domText tag ps))))
  have HTh := Lib.hid (show w3.there w.heap.size 0 (bV (sum (domText tag ps))).length by rw [hln]; exact rowIs_there HZ3)
  have HRr := Lib.hid (World.rangeAt_setCells_same w3 w.heap.size 0 (bV (sum (domText tag ps))) HTh.out)
  clear hbf HZ3 hb3 HD HQ hln
  obtain ⟨ws, hws⟩ : ∃ ws, bV (sum (domText tag ps)) = ws := ⟨_, rfl⟩
  rw [hws] at HI HI2 HO HTh HRr ⊢
  have HWs := Lib.hid hws
  clear hws
  go_wp2_with (refine wpList_store_mid rfl 38 _ _ rfl w.heap.size 0 ws.toArray rfl rfl HTh.out HI2.out HO.out ?_)
  exact bodyPost_ret (v := .agg ws.toArray) (results_cell_mid rfl _ _ w.heap.size ws (.array 32 5) rfl HRr.out Tryd.underlying38 rfl HI.out) rfl ⟨by rw [HWs.out], below_setCells (Nat.le_refl _) _ _ _ HBf.out⟩

/-- An intent's value, its bytes. -/
abbrev inV (idx tok own n : Nat) : Value := .agg #[.int .u32 (idx : Int), .int .u8 (tok : Int), .int .u8 (own : Int), .int .u64 (limb n 0), .int .u64 (limb n 1), .int .u64 (limb n 2), .int .u64 (limb n 3)]
def inB (idx tok own n : Nat) : List UInt8 := beBytes idx 4 ++ beBytes tok 1 ++ beBytes own 1 ++ beBytes n 32
theorem inB_length (idx tok own n : Nat) : (inB idx tok own n).length = 38 := by simp [inB, beBytes_length]
def objIn (idx tok own n : Nat) : Obj := .cells #[.int .u32 (idx : Int), .int .u8 (tok : Int), .int .u8 (own : Int), .int .u64 (limb n 0), .int .u64 (limb n 1), .int .u64 (limb n 2), .int .u64 (limb n 3)] 28
abbrev InAt (w : World) (g idx tok own n : Nat) : Prop := w.cell? ⟨g, 0, none⟩ = some (.int .u32 (idx : Int)) ∧ w.cell? ⟨g, 1, none⟩ = some (.int .u8 (tok : Int)) ∧ w.cell? ⟨g, 2, none⟩ = some (.int .u8 (own : Int)) ∧ w.cell? ⟨g, 3, none⟩ = some (.int .u64 (limb n 0)) ∧ w.cell? ⟨g, 4, none⟩ = some (.int .u64 (limb n 1)) ∧ w.cell? ⟨g, 5, none⟩ = some (.int .u64 (limb n 2)) ∧ w.cell? ⟨g, 6, none⟩ = some (.int .u64 (limb n 3))
theorem InAt.below {w w' : World} {B g idx tok own n : Nat} (h : InAt w g idx tok own n) (hb : Below B w w') (hg : g < B) : InAt w' g idx tok own n :=
  ⟨(hb.cell (p := ⟨g, 0, none⟩) hg).trans h.1, (hb.cell (p := ⟨g, 1, none⟩) hg).trans h.2.1, (hb.cell (p := ⟨g, 2, none⟩) hg).trans h.2.2.1, (hb.cell (p := ⟨g, 3, none⟩) hg).trans h.2.2.2.1, (hb.cell (p := ⟨g, 4, none⟩) hg).trans h.2.2.2.2.1, (hb.cell (p := ⟨g, 5, none⟩) hg).trans h.2.2.2.2.2.1, (hb.cell (p := ⟨g, 6, none⟩) hg).trans h.2.2.2.2.2.2⟩
theorem inAt_new (w : World) (idx tok own n : Nat) : InAt (w.alloc (objIn idx tok own n)) w.heap.size idx tok own n := by
  have h := range_alloc w #[.int .u32 (idx : Int), .int .u8 (tok : Int), .int .u8 (own : Int), .int .u64 (limb n 0), .int .u64 (limb n 1), .int .u64 (limb n 2), .int .u64 (limb n 3)] 28
  have e : ∀ j v, (#[Value.int .u32 (idx : Int), .int .u8 (tok : Int), .int .u8 (own : Int), .int .u64 (limb n 0), .int .u64 (limb n 1), .int .u64 (limb n 2), .int .u64 (limb n 3)] : Array Value).toList[j]? = some v → (w.alloc (objIn idx tok own n)).cell? ⟨w.heap.size, j, none⟩ = some v := fun j v hv => by
    have := h j v hv
    rw [Nat.zero_add] at this
    exact this
  exact ⟨e 0 _ rfl, e 1 _ rfl, e 2 _ rfl, e 3 _ rfl, e 4 _ rfl, e 5 _ rfl, e 6 _ rfl⟩
theorem InAt.of_block {w w' : World} {g idx tok own n : Nat} (h : InAt w g idx tok own n) (hb : w'.heap[g]? = w.heap[g]?) : InAt w' g idx tok own n :=
  ⟨(World.cell?_of_block (a := ⟨g, 0, none⟩) hb).trans h.1, (World.cell?_of_block (a := ⟨g, 1, none⟩) hb).trans h.2.1, (World.cell?_of_block (a := ⟨g, 2, none⟩) hb).trans h.2.2.1, (World.cell?_of_block (a := ⟨g, 3, none⟩) hb).trans h.2.2.2.1, (World.cell?_of_block (a := ⟨g, 4, none⟩) hb).trans h.2.2.2.2.1, (World.cell?_of_block (a := ⟨g, 5, none⟩) hb).trans h.2.2.2.2.2.1, (World.cell?_of_block (a := ⟨g, 6, none⟩) hb).trans h.2.2.2.2.2.2⟩
theorem WrAt.more {w : World} {base p : Nat} {N : Nat → Prop} {l : List UInt8} (h : WrAt w base p N l) (o : Obj) : WrAt (w.alloc o) base p (fun k => N k ∨ k = w.heap.size) l := by
  obtain ⟨A, c, h1, h2, h3, h4, h5, h6, h7⟩ := h
  refine ⟨A, c, World.rowIs.alloc h1 o, OwnR.alloc h2 o, h3, h4, fun k hk hn => ?_, fun hn => ?_, fun k hk => ?_⟩
  · rcases hn with hn | rfl
    · exact h5 k hk hn
    · have := (OwnR.lt h2 _ hk).2; omega
  · rcases hn with hn | e
    · exact h6 hn
    · have := h1.lt; omega
  · rcases hk with hk | rfl
    · have := h7 k hk; simp; omega
    · simp
theorem WrAt.less {w : World} {base p : Nat} {N N' : Nat → Prop} {l : List UInt8} (h : WrAt w base p N' l) (hN : ∀ k, N k → N' k) : WrAt w base p N l := by
  obtain ⟨A, c, h1, h2, h3, h4, h5, h6, h7⟩ := h
  exact ⟨A, c, h1, h2, h3, h4, fun k hk hn => h5 k hk (hN k hn), fun hn => h6 (hN _ hn), fun k hk => h7 k (hN k hk)⟩
theorem Kept.less {N N' : Nat → Prop} {w w' : World} (h : Kept N' w w') (hN : ∀ k, N k → N' k) : Kept N w w' := fun k hk => h k (hN k hk)
theorem WrAt.drew {w : World} {base p : Nat} {N : Nat → Prop} {l : List UInt8} (h : WrAt w base p N l) : WrAt w.drew base p N l := h
set_option maxHeartbeats 2000000 in
set_option maxRecDepth 100000 in
theorem put_calls (p base idx tok own n : Nat) (N : Nat → Prop) (l : List UInt8) (w : World) (hW : WrAt w base p N l) (hi : idx < 4294967296) (ht : tok < 256) (ho : own < 256) (hl : l.length ≤ 100000) :
    Calls Tryd.prog 29 #[.pointer (some ⟨p, 0, none⟩), inV idx tok own n] w fun e w' => e = .returned (.tuple #[]) ∧ WrAt w' base p N (l ++ inB idx tok own n) ∧ Below base w w' ∧ Kept N w w' := by
  have Q0 : Below w.heap.size w (w.alloc (objIn idx tok own n)) := (Below.refl _ _).alloc (Nat.le_refl _) _
  have hI0 := inAt_new w idx tok own n
  have hW0 := hW.more (objIn idx tok own n)
  have hle := hW.le
  have HNs : Hid (∀ k, N k → k < w.heap.size) := Lib.hid (by obtain ⟨A, c, _, _, _, _, _, _, h7⟩ := hW; exact h7)
  obtain ⟨N', hN'⟩ : ∃ N' : Nat → Prop, N' = (fun k => N k ∨ k = w.heap.size) := ⟨_, rfl⟩
  rw [← hN'] at hW0
  have HNG : Hid (N' w.heap.size) := Lib.hid (by rw [hN']; exact .inr rfl)
  have HNN : Hid (∀ k, N k → N' k) := Lib.hid (fun k hk => by rw [hN']; exact .inl hk)
  clear hW hN'
  go_enter Tryd.func29, Tryd.ntmps29
  go_wp2_with fail
  obtain ⟨W0, hW0e⟩ : ∃ W0, w.alloc (objIn idx tok own n) = W0 := ⟨_, rfl⟩
  rw [hW0e] at hI0 hW0 Q0
  unfold objIn at hW0e
  rw [hW0e]
  clear hW0e
  have hI1 : InAt W0.drew w.heap.size idx tok own n := hI0
  have H1 := Lib.hid (u32_calls p base idx N' l W0.drew hW0.drew hi (by omega))
  have H2 := Lib.hid (fun (X : World) (h : WrAt X base p N' (l ++ beBytes idx 4)) => u8_calls p base tok N' _ X h ht (by rw [List.length_append, beBytes_length]; omega))
  have H3 := Lib.hid (fun (X : World) (h : WrAt X base p N' (l ++ beBytes idx 4 ++ beBytes tok 1)) => u8_calls p base own N' _ X h ho (by simp only [List.length_append, beBytes_length]; omega))
  have H4 := Lib.hid (fun (X : World) (h : WrAt X base p N' (l ++ beBytes idx 4 ++ beBytes tok 1 ++ beBytes own 1)) => int_calls p base n N' _ X h (by simp only [List.length_append, beBytes_length]; omega))
  have HI0 := Lib.hid hI0
  have HQ0 := Lib.hid Q0
  clear hW0 hi ht ho hl hI0 Q0
  go_region_held3 (fun w' => w'.cell? ⟨w.heap.size, 0, none⟩ = some (.int .u32 (idx : Int)) ∧ w'.cell? ⟨w.heap.size, 1, none⟩ = some (.int .u8 (tok : Int)) ∧ w'.cell? ⟨w.heap.size, 2, none⟩ = some (.int .u8 (own : Int)) ∧ w'.cell? ⟨w.heap.size, 3, none⟩ = some (.int .u64 (limb n 0)) ∧ w'.cell? ⟨w.heap.size, 4, none⟩ = some (.int .u64 (limb n 1)) ∧ w'.cell? ⟨w.heap.size, 5, none⟩ = some (.int .u64 (limb n 2)) ∧ w'.cell? ⟨w.heap.size, 6, none⟩ = some (.int .u64 (limb n 3)))
    (first | with_reducible exact hI1 | with_reducible exact hI2 | with_reducible exact hI3 | with_reducible exact hI4 | with_reducible exact hI5)
    (first
      | (go_at_call 40
         refine H1.out.mono ?_
         rintro e w1 ⟨rfl, r1, s1, t1⟩
         have hI2 : InAt w1 w.heap.size idx tok own n := InAt.of_block hI1 (t1 _ HNG.out)
         have R1 := Lib.hid r1
         have S1 := Lib.hid (And.intro s1 t1)
         clear r1 s1 t1)
      | (go_at_call 39
         refine (H3.out _ R2.out).mono ?_
         rintro e w3 ⟨rfl, r1, s1, t1⟩
         have hI4 : InAt w3 w.heap.size idx tok own n := InAt.of_block hI3 (t1 _ HNG.out)
         have R3 := Lib.hid r1
         have S3 := Lib.hid (And.intro s1 t1)
         clear r1 s1 t1)
      | (go_at_call 39
         refine (H2.out _ R1.out).mono ?_
         rintro e w2 ⟨rfl, r1, s1, t1⟩
         have hI3 : InAt w2 w.heap.size idx tok own n := InAt.of_block hI2 (t1 _ HNG.out)
         have R2 := Lib.hid r1
         have S2 := Lib.hid (And.intro s1 t1)
         clear r1 s1 t1)
      | (go_at_call 42
         refine (H4.out _ R3.out).mono ?_
         rintro e w4 ⟨rfl, r1, s1, t1⟩
         have hI5 : InAt w4 w.heap.size idx tok own n := InAt.of_block hI4 (t1 _ HNG.out)
         have R4 := Lib.hid r1
         have S4 := Lib.hid (And.intro s1 t1)
         clear r1 s1 t1))
  have HWf : Hid (WrAt w4 base p N (l ++ inB idx tok own n)) := Lib.hid (by
    have := R4.out.less HNN.out
    simpa [inB, List.append_assoc] using this)
  have HBf : Hid (Below base w w4) := Lib.hid ((((((HQ0.out.drew.mono (by omega)).trans S1.out.1).trans S2.out.1).trans S3.out.1).trans S4.out.1))
  have HKf : Hid (Kept N w w4) := Lib.hid ((Kept.of_below HQ0.out.drew HNs.out).trans (((S1.out.2.trans S2.out.2).trans (S3.out.2.trans S4.out.2)).less HNN.out))
  clear R1 R2 R3 R4 S1 S2 S3 S4 H1 H2 H3 H4 hI1 hI2 hI3 hI4 hI5 HI0 HQ0
  go_end0
  exact ⟨rfl, HWf.out, HBf.out, HKf.out⟩
theorem wrAt_new (w : World) : WrAt (w.alloc (.cells #[.slice none 0 0] 82)) w.heap.size w.heap.size (fun _ => False) [] := ⟨none, 0, World.rowIs_alloc w _ _ _ (fun i hi => by
    obtain rfl : i = 0 := by simpa using hi
    rfl), OwnR.nil _ _ _ _, by simp [Value.ownBlock], Nat.le_refl _, fun _ _ h => h, fun h => h, fun _ h => h.elim⟩
set_option maxHeartbeats 1000000 in
set_option maxRecDepth 100000 in
theorem ibytes_calls (idx tok own n : Nat) (w : World) (hi : idx < 4294967296) (ht : tok < 256) (ho : own < 256) :
    Calls Tryd.prog 16 #[inV idx tok own n] w fun e w' => ∃ v', e = .returned v' ∧ OwnB w' w.heap.size v' (inB idx tok own n) ∧ NilOr v' ∧ Below w.heap.size w w' := by
  have hI0 := inAt_new w idx tok own n
  have Q0 : Below w.heap.size w (w.alloc (objIn idx tok own n)) := (Below.refl _ _).alloc (Nat.le_refl _) _
  have hsz : (w.alloc (objIn idx tok own n)).heap.size = w.heap.size + 1 := by simp
  go_enter Tryd.func16, Tryd.ntmps16
  go_wp2_with fail
  obtain ⟨W0, hW0⟩ : ∃ W0, w.alloc (objIn idx tok own n) = W0 := ⟨_, rfl⟩
  rw [hW0] at hI0 Q0 hsz
  unfold objIn at hW0
  rw [hW0]
  clear hW0
  have hp : w.heap.size + 1 = W0.heap.size := hsz.symm
  rw [hp]
  have Q1 : Below w.heap.size w (W0.alloc (.cells #[.slice none 0 0] 82)) := Q0.alloc Q0.size _
  have HP := Lib.hid (put_calls W0.heap.size W0.heap.size idx tok own n (fun _ => False) [] (W0.alloc (.cells #[.slice none 0 0] 82)) (wrAt_new W0) hi ht ho (by simp))
  have HQ1 := Lib.hid Q1
  have HSz : Hid (w.heap.size ≤ W0.heap.size) := Lib.hid Q0.size
  clear hi ht ho hI0 Q0 Q1 hsz hp
  refine HP.out.mono ?_
  rintro e w1 ⟨rfl, r1, s1, -⟩
  rw [List.nil_append] at r1
  have HB := Lib.hid (wbytes_calls _ _ _ _ w1 r1 (by rw [inB_length]; decide))
  have HQ2 : Hid (Below w.heap.size w w1) := Lib.hid (HQ1.out.trans (s1.mono HSz.out))
  clear r1 s1 HP HQ1
  go_wp2_with fail
  refine HB.out.mono ?_
  rintro e w2 ⟨v', rfl, u1, u2, u3⟩
  have HF := Lib.hid (And.intro (own_base u1 HQ2.out.size) (And.intro u2 (HQ2.out.trans (u3.mono HQ2.out.size))))
  clear u1 u2 u3 HB
  go_wp2_with fail
  go_ret
  exact ⟨v', rfl, HF.out.1, HF.out.2.1, HF.out.2.2⟩
end Go.Proofs.YthdbhajpjkkehaaDoor

namespace Go.Proofs.YthdbhajpjkkehaaDoor
open Go.RowKit Go.Lib Sha
set_option linter.unusedVariables false
set_option linter.unusedSimpArgs false

def idB (idx tok own n : Nat) : List UInt8 := sum (domText 3 [inB idx tok own n])
theorem idB_length (idx tok own n : Nat) : (idB idx tok own n).length = 32 := sum_length _
theorem partsAt_one {w : World} {A : Option Addr} {c : Nat} {l : List UInt8} (h : BRow w (.slice A l.length c) l) (hn : NilOr (.slice A l.length c)) : PartsAt (w.alloc (.cells #[.slice A l.length c] 66)) (.slice (some ⟨w.heap.size, 0, none⟩) 1 1) [l] :=
  ⟨_, 1, rfl, .inr ⟨w.heap.size, 0, rfl, fun i hi => by
    obtain rfl : i = 0 := by simpa using hi
    exact ⟨_, cell_new w _ _, h.below ((Below.refl _ _).alloc (Nat.le_refl _) _), hn⟩⟩⟩
theorem domText_one (tag : Nat) (l : List UInt8) : (domText tag [l]).length = 5 + l.length := by
  simp [domText, domPre, beBytes_length]; omega
set_option maxHeartbeats 1000000 in
set_option maxRecDepth 100000 in
theorem id_calls (idx tok own n : Nat) (w : World) (hi : idx < 4294967296) (ht : tok < 256) (ho : own < 256) (hK : KAt w) (hB : BAt w) :
    Calls Tryd.prog 6 #[inV idx tok own n] w fun e w' => e = .returned (.agg (bV (idB idx tok own n)).toArray) ∧ Below w.heap.size w w' := by
  have hI0 := inAt_new w idx tok own n
  have Q0 : Below w.heap.size w ((w.alloc (objIn idx tok own n)).alloc hob32) := ((Below.refl _ _).alloc (Nat.le_refl _) _).alloc (by simp) _
  have HZ := hzero32 (w.alloc (objIn idx tok own n))
  have hI1 : InAt ((w.alloc (objIn idx tok own n)).alloc hob32) w.heap.size idx tok own n := hI0.below ((Below.refl (w.heap.size + 1) _).alloc (by simp) hob32) (Nat.lt_succ_self _)
  have hK0 := hK.below Q0
  have hB0 := hB.below Q0
  have hsz : (w.alloc (objIn idx tok own n)).heap.size = w.heap.size + 1 := by simp
  rw [hsz] at HZ
  have HIB := Lib.hid (fun w => ibytes_calls idx tok own n w hi ht ho)
  clear hI0 hK hB hi ht ho
  go_enter Tryd.func6, Tryd.ntmps6
  go_wp2_with fail
  obtain ⟨W0, hW0⟩ : ∃ W0, (w.alloc (objIn idx tok own n)).alloc hob32 = W0 := ⟨_, rfl⟩
  rw [hW0] at HZ Q0 hI1 hK0 hB0
  unfold objIn hob32 at hW0
  rw [hW0]
  clear hW0
  refine (HIB.out W0).mono ?_
  rintro e w1 ⟨v1, rfl, o1, n1, b1⟩
  obtain ⟨A1, c1, rfl⟩ := o1.len
  have Q1 : Below w1.heap.size w1 (w1.alloc (.cells #[.slice A1 (inB idx tok own n).length c1] 66)) := (Below.refl _ _).alloc (Nat.le_refl _) _
  have HOf := Lib.hid (of_calls 3 _ [inB idx tok own n] _ (partsAt_one o1.row n1) (by omega) (by simp) (by rw [domText_one, inB_length]; decide) ((hK0.below b1).below Q1) ((hB0.below b1).below Q1))
  have HQ := Lib.hid (b1.trans (Q1.mono b1.size))
  have hwW : w.heap.size + 1 < W0.heap.size := HZ.lt
  have HZ0 := Lib.hid HZ
  have HQ0 := Lib.hid Q0
  clear o1 n1 b1 Q1 HIB hK0 hB0 hI1 HZ Q0
  go_wp2_with fail
  refine HOf.out.mono ?_
  rintro e w3 ⟨rfl, hb3⟩
  have hbf : Below W0.heap.size W0 w3 := HQ.out.trans (hb3.mono HQ.out.size)
  have HBf : Hid (Below w.heap.size w w3) := Lib.hid (HQ0.out.trans (hbf.mono (by omega)))
  have HZ3 : w3.rowIs (w.heap.size + 1) 38 32 (fun _ => .int .u8 0) := World.rowIs.of_block HZ0.out (hbf.block _ hwW)
  have HWs0 : Hid (bV (sum (domText 3 [inB idx tok own n])) = bV (idB idx tok own n)) := Lib.hid rfl
  rw [HWs0.out]
  have hln : (bV (idB idx tok own n)).length = 32 := by rw [bV_length, idB_length]
  have HI2 := Lib.hid (show (Tryd.prog.info? 38).map (·.size) = some (bV (idB idx tok own n)).toArray.size by rw [List.size_toArray, hln]; exact hinfo32)
  have HI := Lib.hid (show (Tryd.prog.info? 38).map (·.size) = some (bV (idB idx tok own n)).length by rw [hln]; exact hinfo32)
  have HO := Lib.hid (all_oneCell_toArray (bV_one (idB idx tok own n)))
  have HTh := Lib.hid (show w3.there (w.heap.size + 1) 0 (bV (idB idx tok own n)).length by rw [hln]; exact rowIs_there HZ3)
  have HRr := Lib.hid (World.rangeAt_setCells_same w3 (w.heap.size + 1) 0 (bV (idB idx tok own n)) HTh.out)
  clear hbf HZ3 hb3 HOf HQ hln HWs0
  obtain ⟨ws, hws⟩ : ∃ ws, bV (idB idx tok own n) = ws := ⟨_, rfl⟩
  rw [hws] at HI HI2 HO HTh HRr ⊢
  have HWs := Lib.hid hws
  clear hws
  go_wp2_with (refine wpList_store_mid rfl 38 _ _ rfl (w.heap.size + 1) 0 ws.toArray rfl rfl HTh.out HI2.out HO.out ?_)
  exact bodyPost_ret (v := .agg ws.toArray) (results_cell_mid rfl _ _ (w.heap.size + 1) ws (.array 32 5) rfl HRr.out Tryd.underlying38 rfl HI.out) rfl ⟨by rw [HWs.out], below_setCells (Nat.le_succ _) _ _ _ HBf.out⟩
end Go.Proofs.YthdbhajpjkkehaaDoor

namespace Go.Proofs.YthdbhajpjkkehaaDoor
open Go.RowKit Go.Lib Sha
set_option linter.unusedVariables false
set_option linter.unusedSimpArgs false

abbrev sV (l : List UInt8) : Value := .string ⟨l.toArray⟩
theorem text_byte (w : World) (c : UInt8) (z : Int) (hz : z = (c.toNat : Int)) :
    (convert 66 9 (.slice (some ⟨w.heap.size, 0, none⟩) 1 1)).run Tryd.prog (w.alloc (.cells #[.int .u8 z] 5)) = .ok (.string ⟨#[c]⟩) (w.alloc (.cells #[.int .u8 z] 5)) := by
  subst hz
  exact run_convert_bytes_back (P := Tryd.prog) _ 66 9 5 ⟨w.heap.size, 0, none⟩ 1 [c] Tryd.underlying66 Tryd.underlying5 Tryd.underlying9 (fun j hj => by
    match j, hj with
    | 0, _ => rw [Addr.add_lit]; simp)
theorem beBytes_next (x k : Nat) : beBytes x (k + 1) = UInt8.ofNat (x / 256 ^ k % 256) :: beBytes x k := by
  unfold beBytes
  rw [List.range_succ_eq_map, List.map_cons, List.map_map]
  refine List.cons_eq_cons.2 ⟨?_, List.map_congr_left fun j hj => ?_⟩
  · simp
  · show UInt8.ofNat (x / 256 ^ (k + 1 - 1 - (j + 1)) % 256) = _
    rw [show k + 1 - 1 - (j + 1) = k - 1 - j by omega]
set_option maxHeartbeats 1000000 in
set_option maxRecDepth 100000 in
theorem rnum_calls (x size : Nat) (hx : x < 18446744073709551616) (hs : size ≤ 8) (w : World) :
    Calls Tryd.prog 48 #[.int .u64 (x : Int), .int .i64 (size : Int)] w fun e w' => e = .returned (sV (beBytes x size)) ∧ Below w.heap.size w w' := by
  have HX := Lib.hid hx
  clear hx
  go_enter Tryd.func48, Tryd.ntmps48
  go_wp2_with fail
  go_loopw [0, 5, 7] (fun a s t wr => ∃ k : Nat, t = .int .i64 (k : Int) ∧ k ≤ size ∧ a = .int .u64 ((x / 256 ^ k : Nat) : Int) ∧ s = sV (beBytes x k) ∧ Below w.heap.size w wr) (fun _ _ t _ => size - (intOf t).toNat)
  case atStart => exact ⟨0, rfl, by omega, by simp, rfl, Below.refl _ _⟩
  case round =>
    obtain ⟨k, rfl, hk, rfl, rfl, hb⟩ := hrel
    by_cases hk1 : k < size
    · have hk1' : (k : Int) < (size : Int) := by omega
      have hnx : x / 256 ^ (k + 1) = x / 256 ^ k / 256 := by rw [Nat.pow_succ, Nat.div_div_eq_div_mul]
      have hbn := beBytes_next x k
      have hml : x / 256 ^ k < 18446744073709551616 := Nat.lt_of_le_of_lt (Nat.div_le_self _ _) HX.out
      obtain ⟨m, hm⟩ : ∃ m, x / 256 ^ k = m := ⟨_, rfl⟩
      rw [hm] at hnx hbn hml ⊢
      obtain ⟨cb, hcb⟩ : ∃ cb, UInt8.ofNat (m % 256) = cb := ⟨_, rfl⟩
      rw [hcb] at hbn
      have hz : (m : Int) % 256 = (cb.toNat : Int) := by rw [← hcb, UInt8.toNat_ofNat', show 2 ^ 8 = 256 by decide, Nat.mod_mod]; rfl
      have hcv := text_byte wr cb ((m : Int) % 256) hz
      have hmU : IntKind.u64.wrap ((m : Int) / 256) = ((m / 256 : Nat) : Int) := by rw [u64_wrap]; omega
      have hmI : (m : Int) < 18446744073709551616 := by omega
      obtain ⟨S, hS⟩ : ∃ S : ByteArray, S = ⟨(beBytes x k).toArray⟩ := ⟨_, rfl⟩
      have HS2 : Hid ((⟨#[cb]⟩ : ByteArray) ++ S = ⟨(beBytes x (k + 1)).toArray⟩) := Lib.hid (by
        rw [hbn, hS]
        apply ByteArray.ext
        rw [ByteArray.data_append]
        simp)
      have hss : ¬ 9223372036854775807 < 1 + S.size := by
        have h2 : S.size = k := by rw [hS]; simp [ByteArray.size, beBytes_length]
        omega
      unfold sV
      rw [← hS]
      have HNx := Lib.hid hnx
      have HB := Lib.hid hb
      clear hnx hbn hml hm hcb hz hS hb
      go_wp2_with fail
      go_roundw
      case rel => exact ⟨k + 1, by go_num, by omega, congrArg (Value.int IntKind.u64) (by rw [HNx.out]; rfl), congrArg Value.string HS2.out, HB.out.alloc HB.out.size _⟩
      case measure => simp [intOf]; omega
    · obtain rfl : k = size := by omega
      go_wp2_with fail
      go_ret
      exact ⟨rfl, hb⟩
theorem beBytes_add (x a b : Nat) : beBytes x (a + b) = beBytes (x / 256 ^ b) a ++ beBytes x b := by
  induction a with
  | zero => rw [Nat.zero_add]; rfl
  | succ a ih =>
    rw [show a + 1 + b = a + b + 1 by omega, beBytes_next, beBytes_next, ih, List.cons_append, Nat.div_div_eq_div_mul, ← Nat.pow_add, Nat.add_comm b a]
theorem beBytes_mod (m : Nat) : beBytes (m % 18446744073709551616) 8 = beBytes m 8 := by
  unfold beBytes
  refine List.map_congr_left fun j hj => ?_
  have hj8 : j < 8 := by simpa using hj
  have h8 : (18446744073709551616 : Nat) = 256 ^ (8 - 1 - j) * 256 ^ (j + 1) := by rw [← Nat.pow_add, show 8 - 1 - j + (j + 1) = 8 by omega]
  rw [h8, Nat.mod_mul_right_div_self, Nat.mod_mod_of_dvd _ (by rw [Nat.pow_succ]; exact Nat.dvd_mul_left _ _)]
theorem limb_bytes (n : Nat) : beBytes n 32 = beBytes (n / 18446744073709551616 ^ 3 % 18446744073709551616) 8 ++ beBytes (n / 18446744073709551616 ^ 2 % 18446744073709551616) 8 ++ beBytes (n / 18446744073709551616 % 18446744073709551616) 8 ++ beBytes (n % 18446744073709551616) 8 := by
  have h64 : (18446744073709551616 : Nat) = 256 ^ 8 := by decide
  rw [beBytes_mod, beBytes_mod, beBytes_mod, beBytes_mod, show 32 = 8 + 24 from rfl, beBytes_add, show 24 = 8 + 16 from rfl, beBytes_add, show 16 = 8 + 8 from rfl, beBytes_add]
  rw [h64, ← Nat.pow_mul, ← Nat.pow_mul]
  simp only [List.append_assoc]
theorem limb0 (n : Nat) : limb n 0 = ((n % 18446744073709551616 : Nat) : Int) := by unfold limb; rw [Nat.pow_zero, Nat.div_one]
theorem limb1 (n : Nat) : limb n 1 = ((n / 18446744073709551616 % 18446744073709551616 : Nat) : Int) := by unfold limb; rw [Nat.pow_one]
end Go.Proofs.YthdbhajpjkkehaaDoor

namespace Go.Proofs.YthdbhajpjkkehaaDoor
open Go.RowKit Go.Lib Sha
set_option linter.unusedVariables false
set_option linter.unusedSimpArgs false

theorem str_append (a b : List UInt8) : (⟨a.toArray⟩ : ByteArray) ++ ⟨b.toArray⟩ = ⟨(a ++ b).toArray⟩ := by
  apply ByteArray.ext
  rw [ByteArray.data_append]
  simp
theorem str_size (a : List UInt8) : (⟨a.toArray⟩ : ByteArray).size = a.length := by simp [ByteArray.size]
theorem rnum8 (m : Nat) (hm : m < 18446744073709551616) (w : World) :
    Calls Tryd.prog 48 #[.int .u64 (m : Int), .int .i64 8] w fun e w' => e = .returned (sV (beBytes m 8)) ∧ Below w.heap.size w w' :=
  rnum_calls m 8 hm (by omega) w
set_option maxHeartbeats 2000000 in
set_option maxRecDepth 100000 in
theorem rint_calls (n : Nat) (w : World) :
    Calls Tryd.prog 49 #[bigN n] w fun e w' => e = .returned (sV (beBytes n 32)) ∧ Below w.heap.size w w' := by
  have Q0 : Below w.heap.size w (w.alloc (row4 (limb n))) := (Below.refl _ _).alloc (Nat.le_refl _) _
  obtain ⟨b0, b1, b2, b3⟩ := (Box.new w n).cells
  have hm : ∀ k, n / 18446744073709551616 ^ k % 18446744073709551616 < 18446744073709551616 := fun k => Nat.mod_lt _ (by decide)
  have hLB := limb_bytes n
  obtain ⟨m3, h3⟩ : ∃ m, n / 18446744073709551616 ^ 3 % 18446744073709551616 = m := ⟨_, rfl⟩
  obtain ⟨m2, h2⟩ : ∃ m, n / 18446744073709551616 ^ 2 % 18446744073709551616 = m := ⟨_, rfl⟩
  obtain ⟨m1, h1⟩ : ∃ m, n / 18446744073709551616 % 18446744073709551616 = m := ⟨_, rfl⟩
  obtain ⟨m0, h0⟩ : ∃ m, n % 18446744073709551616 = m := ⟨_, rfl⟩
  have l3 : limb n 3 = (m3 : Int) := by rw [← h3]; rfl
  have l2 : limb n 2 = (m2 : Int) := by rw [← h2]; rfl
  have l1 : limb n 1 = (m1 : Int) := by rw [← h1]; exact limb1 n
  have l0 : limb n 0 = (m0 : Int) := by rw [← h0]; exact limb0 n
  rw [h3, h2, h1, h0] at hLB
  have N3 := Lib.hid (fun w => rnum8 m3 (by rw [← h3]; exact Nat.mod_lt _ (by decide)) w)
  have N2 := Lib.hid (fun w => rnum8 m2 (by rw [← h2]; exact Nat.mod_lt _ (by decide)) w)
  have N1 := Lib.hid (fun w => rnum8 m1 (by rw [← h1]; exact Nat.mod_lt _ (by decide)) w)
  have N0 := Lib.hid (fun w => rnum8 m0 (by rw [← h0]; exact Nat.mod_lt _ (by decide)) w)
  unfold bigN
  have hrow : row4 (limb n) = .cells #[.int .u64 (m0 : Int), .int .u64 (m1 : Int), .int .u64 (m2 : Int), .int .u64 (m3 : Int)] 26 := by unfold row4; rw [l0, l1, l2, l3]
  rw [hrow] at Q0
  change (w.alloc (row4 (limb n))).cell? _ = _ at b0 b1 b2 b3
  rw [hrow] at b0 b1 b2 b3
  rw [l0] at b0 ⊢
  rw [l1] at b1 ⊢
  rw [l2] at b2 ⊢
  rw [l3] at b3 ⊢
  clear hm h3 h2 h1 h0 l3 l2 l1 l0 hrow
  obtain ⟨S3, hS3⟩ : ∃ S : ByteArray, S = ⟨(beBytes m3 8).toArray⟩ := ⟨_, rfl⟩
  obtain ⟨S2, hS2⟩ : ∃ S : ByteArray, S = ⟨(beBytes m2 8).toArray⟩ := ⟨_, rfl⟩
  obtain ⟨S1, hS1⟩ : ∃ S : ByteArray, S = ⟨(beBytes m1 8).toArray⟩ := ⟨_, rfl⟩
  obtain ⟨S0, hS0⟩ : ∃ S : ByteArray, S = ⟨(beBytes m0 8).toArray⟩ := ⟨_, rfl⟩
  have HS : Hid (S3 ++ S2 ++ S1 ++ S0 = ⟨(beBytes n 32).toArray⟩) := Lib.hid (by rw [hS3, hS2, hS1, hS0, str_append, str_append, str_append, hLB])
  unfold sV at N3 N2 N1 N0
  rw [← hS3] at N3
  rw [← hS2] at N2
  rw [← hS1] at N1
  rw [← hS0] at N0
  have z3 : S3.size = 8 := by rw [hS3, str_size, beBytes_length]
  have z2 : S2.size = 8 := by rw [hS2, str_size, beBytes_length]
  have z1 : S1.size = 8 := by rw [hS1, str_size, beBytes_length]
  have z0 : S0.size = 8 := by rw [hS0, str_size, beBytes_length]
  clear hS3 hS2 hS1 hS0 hLB
  go_enter Tryd.func49, Tryd.ntmps49
  go_wp2_with fail
  obtain ⟨W0, hW0⟩ : ∃ W0, w.alloc (.cells #[.int .u64 (m0 : Int), .int .u64 (m1 : Int), .int .u64 (m2 : Int), .int .u64 (m3 : Int)] 26) = W0 := ⟨_, rfl⟩
  rw [hW0] at b0 b1 b2 b3 Q0 ⊢
  clear hW0
  have hlt : w.heap.size < W0.heap.size := World.block_lt_of_cell? W0 _ b0
  have hE0 : W0.drew.cell? ⟨w.heap.size, 0, none⟩ = some (.int .u64 (m0 : Int)) ∧ W0.drew.cell? ⟨w.heap.size, 1, none⟩ = some (.int .u64 (m1 : Int)) ∧ W0.drew.cell? ⟨w.heap.size, 2, none⟩ = some (.int .u64 (m2 : Int)) ∧ W0.drew.cell? ⟨w.heap.size, 3, none⟩ = some (.int .u64 (m3 : Int)) := ⟨b0, b1, b2, b3⟩
  have HQ := Lib.hid Q0
  clear Q0 b0 b1 b2 b3
  go_region_held3 (fun w' => w'.cell? ⟨w.heap.size, 0, none⟩ = some (.int .u64 (m0 : Int)) ∧ w'.cell? ⟨w.heap.size, 1, none⟩ = some (.int .u64 (m1 : Int)) ∧ w'.cell? ⟨w.heap.size, 2, none⟩ = some (.int .u64 (m2 : Int)) ∧ w'.cell? ⟨w.heap.size, 3, none⟩ = some (.int .u64 (m3 : Int)))
    (first | with_reducible exact hE0 | with_reducible exact hE1 | with_reducible exact hE2 | with_reducible exact hE3 | with_reducible exact hE4)
    (first
      | (go_at_call 48
         with_reducible refine (N3.out _).mono ?_
         rintro e w1 ⟨rfl, hb1⟩
         have hE1 : w1.cell? ⟨w.heap.size, 0, none⟩ = some (.int .u64 (m0 : Int)) ∧ w1.cell? ⟨w.heap.size, 1, none⟩ = some (.int .u64 (m1 : Int)) ∧ w1.cell? ⟨w.heap.size, 2, none⟩ = some (.int .u64 (m2 : Int)) ∧ w1.cell? ⟨w.heap.size, 3, none⟩ = some (.int .u64 (m3 : Int)) := ⟨(hb1.cell (p := ⟨w.heap.size, 0, none⟩) hlt).trans hE0.1, (hb1.cell (p := ⟨w.heap.size, 1, none⟩) hlt).trans hE0.2.1, (hb1.cell (p := ⟨w.heap.size, 2, none⟩) hlt).trans hE0.2.2.1, (hb1.cell (p := ⟨w.heap.size, 3, none⟩) hlt).trans hE0.2.2.2⟩
         have hlt1 : w.heap.size < w1.heap.size := Nat.lt_of_lt_of_le hlt hb1.size
         have HB1 := Lib.hid hb1
         clear hb1)
      | (go_at_call 48
         with_reducible refine (N2.out _).mono ?_
         rintro e w2 ⟨rfl, hb1⟩
         have hE2 : w2.cell? ⟨w.heap.size, 0, none⟩ = some (.int .u64 (m0 : Int)) ∧ w2.cell? ⟨w.heap.size, 1, none⟩ = some (.int .u64 (m1 : Int)) ∧ w2.cell? ⟨w.heap.size, 2, none⟩ = some (.int .u64 (m2 : Int)) ∧ w2.cell? ⟨w.heap.size, 3, none⟩ = some (.int .u64 (m3 : Int)) := ⟨(hb1.cell (p := ⟨w.heap.size, 0, none⟩) hlt1).trans hE1.1, (hb1.cell (p := ⟨w.heap.size, 1, none⟩) hlt1).trans hE1.2.1, (hb1.cell (p := ⟨w.heap.size, 2, none⟩) hlt1).trans hE1.2.2.1, (hb1.cell (p := ⟨w.heap.size, 3, none⟩) hlt1).trans hE1.2.2.2⟩
         have hlt2 : w.heap.size < w2.heap.size := Nat.lt_of_lt_of_le hlt1 hb1.size
         have HB2 := Lib.hid hb1
         clear hb1)
      | (go_at_call 48
         with_reducible refine (N1.out _).mono ?_
         rintro e w3 ⟨rfl, hb1⟩
         have hE3 : w3.cell? ⟨w.heap.size, 0, none⟩ = some (.int .u64 (m0 : Int)) ∧ w3.cell? ⟨w.heap.size, 1, none⟩ = some (.int .u64 (m1 : Int)) ∧ w3.cell? ⟨w.heap.size, 2, none⟩ = some (.int .u64 (m2 : Int)) ∧ w3.cell? ⟨w.heap.size, 3, none⟩ = some (.int .u64 (m3 : Int)) := ⟨(hb1.cell (p := ⟨w.heap.size, 0, none⟩) hlt2).trans hE2.1, (hb1.cell (p := ⟨w.heap.size, 1, none⟩) hlt2).trans hE2.2.1, (hb1.cell (p := ⟨w.heap.size, 2, none⟩) hlt2).trans hE2.2.2.1, (hb1.cell (p := ⟨w.heap.size, 3, none⟩) hlt2).trans hE2.2.2.2⟩
         have hlt3 : w.heap.size < w3.heap.size := Nat.lt_of_lt_of_le hlt2 hb1.size
         have HB3 := Lib.hid hb1
         clear hb1)
      | (go_at_call 48
         with_reducible refine (N0.out _).mono ?_
         rintro e w4 ⟨rfl, hb1⟩
         have hE4 : w4.cell? ⟨w.heap.size, 0, none⟩ = some (.int .u64 (m0 : Int)) ∧ w4.cell? ⟨w.heap.size, 1, none⟩ = some (.int .u64 (m1 : Int)) ∧ w4.cell? ⟨w.heap.size, 2, none⟩ = some (.int .u64 (m2 : Int)) ∧ w4.cell? ⟨w.heap.size, 3, none⟩ = some (.int .u64 (m3 : Int)) := ⟨(hb1.cell (p := ⟨w.heap.size, 0, none⟩) hlt3).trans hE3.1, (hb1.cell (p := ⟨w.heap.size, 1, none⟩) hlt3).trans hE3.2.1, (hb1.cell (p := ⟨w.heap.size, 2, none⟩) hlt3).trans hE3.2.2.1, (hb1.cell (p := ⟨w.heap.size, 3, none⟩) hlt3).trans hE3.2.2.2⟩
         have HB4 := Lib.hid hb1
         clear hb1))
  go_wp2_with fail
  rw [HS.out]
  go_ret
  refine ⟨rfl, ?_⟩
  have p0 : w.heap.size ≤ W0.drew.heap.size := HQ.out.size
  have p1 : w.heap.size ≤ w1.heap.size := Nat.le_trans p0 HB1.out.size
  have p2 : w.heap.size ≤ w2.heap.size := Nat.le_trans p1 HB2.out.size
  have p3 : w.heap.size ≤ w3.heap.size := Nat.le_trans p2 HB3.out.size
  have q0 : Below w.heap.size w W0.drew := HQ.out.trans (⟨rfl, rfl, rfl, Nat.le_refl _, fun _ _ => rfl⟩ : Below w.heap.size W0 W0.drew)
  exact (((q0.trans (HB1.out.mono p0)).trans (HB2.out.mono p1)).trans (HB3.out.mono p2)).trans (HB4.out.mono p3)
end Go.Proofs.YthdbhajpjkkehaaDoor
