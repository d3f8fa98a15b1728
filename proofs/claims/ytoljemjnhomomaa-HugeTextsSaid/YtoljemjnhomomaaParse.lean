/- huge.Parse: a text of decimal digits as a number, or why it is none. -/
import Derived.Test.YtoljemjnhomomaaHMul2
namespace Go.Proofs.Ytoljemjnhomomaa
open Go.RowKit Go.Lib
set_option linter.unusedVariables false
set_option linter.unusedSimpArgs false

/-- The number that digits stand for. -/
def decV (l : List UInt8) : Nat := l.foldl (fun n c => n * 10 + (c.toNat - 48)) 0
def isDig (c : UInt8) : Prop := 48 ≤ c.toNat ∧ c.toNat ≤ 57
instance (c : UInt8) : Decidable (isDig c) := inferInstanceAs (Decidable (_ ∧ _))
/-- A text that is no number's. -/
def badText (l : List UInt8) : Prop := l = [] ∨ (1 < l.length ∧ l.getD 0 0 = 48) ∨ ∃ c ∈ l, ¬ isDig c
def okE (n : Nat) : Int := if n < 18446744073709551616 ^ 4 then 0 else 2
def kept (n : Nat) : Nat := if n < 18446744073709551616 ^ 4 then n else 0

theorem decV_snoc (l : List UInt8) (c : UInt8) : decV (l ++ [c]) = decV l * 10 + (c.toNat - 48) := by simp [decV]
theorem decV_take (l : List UInt8) (k : Nat) (h : k < l.length) : decV (l.take (k + 1)) = decV (l.take k) * 10 + ((l.getD k 0).toNat - 48) := by
  rw [List.take_succ_eq_append_getElem h, decV_snoc]
  simp [List.getD_eq_getElem?_getD, h]
theorem sumV_kept (n : Nat) : sumV n = .tuple #[bigN (kept n), .int .i64 (okE n)] := by
  unfold sumV kept okE
  split <;> rfl

theorem below_bytes (w : World) (e : TypeId) (s : ByteArray) : Below w.heap.size w (bytesWorld w e s) :=
  ⟨rfl, rfl, rfl, by rw [bytesWorld_size]; omega, fun k hk => bytesWorld_at_old w e s k hk⟩

/-- What Parse holds in a round. -/
structure PS (w : World) (g : Nat) (l : List UInt8) (n : Nat) : Prop where
  res : Box w g 0
  out : Box w (g + 1) n
  txt : ∀ j, j < l.length → w.cell? ⟨g + 1 + 1, j, none⟩ = some (.int .u8 ((l.getD j 0).toNat : Int))
  size : g + 1 + 1 < w.heap.size

theorem PS.later {w w' : World} {g n : Nat} {l : List UInt8} (h : PS w g l n) (hb : Below w.heap.size w w') : PS w' g l n :=
  ⟨h.res.later hb, h.out.later hb, fun j hj => (hb.cell h.size).trans (h.txt j hj), Nat.lt_of_lt_of_le h.size hb.size⟩
theorem PS.stored {w : World} {g n : Nat} {l : List UInt8} (h : PS w g l n) (m : Nat) : PS (store4 w (g + 1) (limb m 0) (limb m 1) (limb m 2) (limb m 3)) g l m :=
  ⟨h.res.store_other (by omega) _ _ _ _, h.out.stored m, fun j hj => by
    unfold store4
    rw [World.cell?_setCell_other _ _ _ _ (by intro e; injection e; omega), World.cell?_setCell_other _ _ _ _ (by intro e; injection e; omega), World.cell?_setCell_other _ _ _ _ (by intro e; injection e; omega), World.cell?_setCell_other _ _ _ _ (by intro e; injection e; omega)]
    exact h.txt j hj, by rw [store_size]; exact h.size⟩
theorem PS.drew {w : World} {g n : Nat} {l : List UInt8} (h : PS w g l n) : PS w.drew g l n := ⟨h.res, h.out, h.txt, h.size⟩
theorem PS.drewN {w : World} {g n : Nat} {l : List UInt8} (h : PS w g l n) (m : Nat) : PS (w.drewN m) g l n := ⟨h.res, h.out, h.txt, h.size⟩

theorem PS.step {w wr w1 w2 : World} {g n : Nat} {l : List UInt8} (h : PS wr g l n) (hb : Below g w wr) (h1 : Below wr.drew.heap.size wr.drew w1) (h2 : Below w1.heap.size w1 w2) :
    PS w2 g l n ∧ Below g w w2 := by
  have z0 := h.res.lt
  have z1 : wr.heap.size ≤ w1.heap.size := h1.size
  exact ⟨(PS.later (w := wr.drew) h.drew h1).later h2, (hb.drew.trans (h1.mono (by show g ≤ wr.heap.size; omega))).trans (h2.mono (by omega))⟩

theorem parse_start (w : World) (s : ByteArray) : PS (bytesWorld ((w.alloc (obj4 0 0 0 0)).alloc (obj4 0 0 0 0)) 5 s) w.heap.size s.data.toList 0 ∧
    Below w.heap.size w (bytesWorld ((w.alloc (obj4 0 0 0 0)).alloc (obj4 0 0 0 0)) 5 s) := by
  have B := below_bytes ((w.alloc (obj4 0 0 0 0)).alloc (obj4 0 0 0 0)) 5 s
  have z : ((w.alloc (obj4 0 0 0 0)).alloc (obj4 0 0 0 0)).heap.size = w.heap.size + 1 + 1 := by simp
  have b0 : Box ((w.alloc (obj4 0 0 0 0)).alloc (obj4 0 0 0 0)) w.heap.size 0 := (Box.zero w).alloc _
  have b1 : Box ((w.alloc (obj4 0 0 0 0)).alloc (obj4 0 0 0 0)) (w.heap.size + 1) 0 := by
    have := Box.zero (w.alloc (obj4 0 0 0 0))
    rw [World.size_alloc] at this
    exact this
  refine ⟨⟨b0.later B, b1.later B, fun j hj => ?_, by rw [bytesWorld_size, z]; omega⟩, ((((Below.refl _ _).alloc (Nat.le_refl _) _).alloc (by simp) _)).trans (B.mono (by rw [z]; omega))⟩
  have := bytesWorld_cell ((w.alloc (obj4 0 0 0 0)).alloc (obj4 0 0 0 0)) 5 s j (by simpa using hj)
  rw [z] at this
  exact this

theorem getD_byte (s : ByteArray) (k : Nat) (h : k < s.size) : s.data.toList.getD k 0 = s[k] := by
  rw [List.getD_eq_getElem?_getD, List.getElem?_eq_getElem (by simpa using h)]
  rfl

set_option maxHeartbeats 1000000 in
set_option maxRecDepth 100000 in
theorem parse_bad0 (s : ByteArray) (w : World) (hs : s.size ≤ 1000000) (h : s.data.toList = [] ∨ (1 < s.data.toList.length ∧ s.data.toList.getD 0 0 = 48)) :
    Calls Try.prog 42 #[.string s] w fun e w' => e = .returned (.tuple #[bigN 0, .int .i64 6]) ∧ Below w.heap.size w w' := by
  have HB := Lib.hid (show Below w.heap.size w (w.alloc (obj4 0 0 0 0)) from (Below.refl _ _).alloc (Nat.le_refl _) _)
  have HZ := Lib.hid bigN_zero
  rcases h with h | ⟨h1, h2⟩
  · have h0 : s.toList.isEmpty = true := by rw [ByteArray.toList_eq, h]; rfl
    clear h
    go_enter Try.func42, Try.ntmps42
    go_wp2_with fail
    exact bodyPost_ret (v := .tuple #[big 0 0 0 0, .int .i64 6]) (by simp [results, Try.results42, go_sem]) rfl ⟨by rw [HZ.out], HB.out⟩
  · have hl : 1 < s.size := by simpa using h1
    have h0 : s.toList.isEmpty = false := by
      rw [ByteArray.toList_eq]
      cases hh : s.data.toList with
      | nil => rw [hh] at h1; simp at h1
      | cons a b => rfl
    rw [getD_byte s 0 (by omega)] at h2
    have h3 : (((s[0]'(by omega) : UInt8).toNat : Int) == 48) = true := by rw [h2]; rfl
    have hl' : (1 : Int) < (s.size : Int) := by omega
    clear h1 h2
    go_enter Try.func42, Try.ntmps42
    go_wp2_with fail
    exact bodyPost_ret (v := .tuple #[big 0 0 0 0, .int .i64 6]) (by simp [results, Try.results42, go_sem]) rfl ⟨by rw [HZ.out], HB.out⟩

theorem parse_conv (w : World) (s : ByteArray) : (convert 9 57 (.string s)).run Try.prog w = .ok (.slice (some ⟨w.heap.size, 0, none⟩) s.size (grownCap w s.size 0 5)) (bytesWorld w 5 s) :=
  Go.Lib.run_convert_string_bytes (P := Try.prog) w 9 57 5 s (u := .string) (by kernel_rfl) (by kernel_rfl) (by kernel_rfl)

set_option maxHeartbeats 1000000 in
set_option maxRecDepth 100000 in
/-- What the text begins with. -/
theorem parse_loop (s : ByteArray) (w : World) (hs : s.size ≤ 1000000) (h0 : s.toList.isEmpty = false) (h1 : ((1 : Int) < (s.size : Int) → (((s.data.toList.getD 0 0).toNat : Int) == 48) = false)) :
    Calls Try.prog 42 #[.string s] w fun e w' => ((∃ c ∈ s.data.toList, ¬ isDig c) → e = .returned (.tuple #[bigN 0, .int .i64 6])) ∧ ((∀ c ∈ s.data.toList, isDig c) → e = .returned (sumV (decV s.data.toList))) ∧ Below w.heap.size w w' := by
  have HP0 := Lib.hid (parse_start w s)
  have hconv := parse_conv ((w.alloc (obj4 0 0 0 0)).alloc (obj4 0 0 0 0)) s
  generalize grownCap ((w.alloc (obj4 0 0 0 0)).alloc (obj4 0 0 0 0)) s.size 0 5 = cap at hconv
  have hz : ((w.alloc (obj4 0 0 0 0)).alloc (obj4 0 0 0 0)).heap.size = w.heap.size + 1 + 1 := by simp
  rw [hz] at hconv
  clear hz
  have hpos : 0 < s.size := by
    rcases Nat.eq_zero_or_pos s.size with h | h
    · have : s.data.toList = [] := by
        apply List.eq_nil_of_length_eq_zero
        simpa using h
      rw [ByteArray.toList_eq, this] at h0
      simp at h0
    · exact h
  have hsp : (1 : Int) < (s.size : Int) ∨ (s.size : Int) ≤ 1 := by omega
  rw [getD_byte s 0 hpos] at h1
  have HM0 := Lib.hid (show s.data.toList.length = s.size by simp)
  go_enter Try.func42, Try.ntmps42
  go_upto_region 1 with fail
  go_cut [19] from 8 to 19 (fun v wx => v = .bool false ∧ wx = w.alloc (obj4 0 0 0 0))
  case first =>
    rcases hsp with hl | hl
    case' inl => have h2 := h1 hl
    all_goals (go_wp2_with fail; go_meet; exact ⟨rfl, rfl⟩)
  case rest =>
  obtain ⟨rfl, rfl⟩ := hcut
  clear hsp
  go_wp2_with fail
  obtain ⟨P0, Q0⟩ := HP0.out
  obtain ⟨W, hW⟩ : ∃ W, W = bytesWorld ((w.alloc (obj4 0 0 0 0)).alloc (obj4 0 0 0 0)) 5 s := ⟨_, rfl⟩
  rw [← hW]
  rw [← hW] at P0 Q0
  clear hW HP0 hconv
  go_loopw [5, 24] (fun e i wr => ∃ k : Nat, i = .int .i64 k ∧ k ≤ s.size ∧ e = .int .i64 (okE (decV (s.data.toList.take k))) ∧ Hid (∀ j, j < k → isDig (s.data.toList.getD j 0)) ∧
      Hid (PS wr w.heap.size s.data.toList (kept (decV (s.data.toList.take k)))) ∧ Below w.heap.size w wr) (fun _ i _ => s.size - (intOf i).toNat)
  case atStart => exact ⟨0, rfl, by omega, rfl, Lib.hid (by omega), Lib.hid P0, Q0⟩
  case round =>
    obtain ⟨k, rfl, hk, rfl, HD, HP, hb⟩ := hrel
    clear P0 Q0
    by_cases hlt : k < s.size
    · have hlt' : (k : Int) < (s.size : Int) := by omega
      have htx := (HP.out).txt k (by simpa using hlt)
      have HT := Lib.hid (decV_take s.data.toList k (by simpa using hlt))
      have HM := Lib.hid (show s.data.toList.getD k 0 ∈ s.data.toList by
        rw [List.getD_eq_getElem?_getD, List.getElem?_eq_getElem (by simpa using hlt)]
        exact List.getElem_mem _)
      have hw : IntKind.i64.wrap ((k : Int) + 1) = (k : Int) + 1 := IntWalk.i64_in _ (by omega)
      have HDk : Hid (isDig (s.data.toList.getD k 0) → ∀ j, j < k + 1 → isDig (s.data.toList.getD j 0)) := Lib.hid fun h j hj => by
        rcases Nat.lt_or_ge j k with h' | h'
        · exact HD.out j h'
        · have : j = k := by omega
          subst this
          exact h
      generalize hcc : s.data.toList.getD k 0 = cc at *
      clear hcc
      obtain ⟨c, hc⟩ : ∃ c : Nat, cc.toNat = c := ⟨_, rfl⟩
      have hc256 : c < 256 := by rw [← hc]; exact cc.toNat_lt
      have HCI : Hid (isDig cc ↔ 48 ≤ c ∧ c ≤ 57) := Lib.hid (by unfold isDig; rw [hc])
      rw [hc] at htx HT
      clear hc
      have hcn : (0 : Int) ≤ (c : Int) := by omega
      by_cases hd : 48 ≤ c ∧ c ≤ 57
      · have HDn := Lib.hid (HDk.out (HCI.out.2 hd))
        have hd1 : ¬ (c : Int) < 48 := by omega
        have hd2 : ¬ 57 < (c : Int) := by omega
        have hnn' := HT.out
        generalize hnn : decV (s.data.toList.take k) = n at *
        clear HDk HCI HM HT HD
        have HN' := Lib.hid hnn'
        clear hnn' hnn
        by_cases hn : n < 18446744073709551616 ^ 4
        · have e1 : okE n = 0 := if_pos hn
          have e2 : kept n = n := if_pos hn
          rw [e1]
          rw [e2] at HP
          clear e1 e2
          obtain ⟨c0, c1, c2, c3⟩ := (HP.out).out.cells
          have lt1 := (HP.out).out.lt
          have hmul : ∀ w : World, Calls Try.prog 39 #[.agg #[.int .u64 (limb n 0), .int .u64 (limb n 1), .int .u64 (limb n 2), .int .u64 (limb n 3)], .agg #[.int .u64 10, .int .u64 0, .int .u64 0, .int .u64 0]] w fun e w' => e = .returned (sumV (n * 10)) ∧ Below w.heap.size w w' :=
            fun w => hmul_calls n 10 w hn (by decide)
          have HMl := Lib.hid hmul
          rw [sumV_kept] at HMl
          have HPn := Lib.hid (fun (u : World) (h : PS u w.heap.size s.data.toList n) => h.stored (kept (n * 10)))
          clear hmul
          go_wp2_with fail
          go_cut [5, 24] from 24 to 54 (fun e i wx => e = .int .i64 (okE (n * 10)) ∧ i = .int .i64 k ∧ Hid (PS wx w.heap.size s.data.toList (kept (n * 10))) ∧ Below w.heap.size w wx)
          case first =>
            go_region_with (first
              | (go_at_call 28; refine (hof_calls _ _).mono ?_; rintro e w' ⟨rfl, hb1⟩; have z1 : wr.heap.size ≤ w'.heap.size := hb1.size; have HP1 := Lib.hid (PS.later (w := wr.drew) HP.out.drew hb1); obtain ⟨q0, q1, q2, q3⟩ := HP1.out.out.cells)
              | (go_at_call 39; refine (HMl.out _).mono ?_; rintro e w6 ⟨rfl, hb6⟩; have z6 := hb6.size; have HP2 := Lib.hid (HP.out.step hb hb1 hb6); obtain ⟨d0, d1, d2, d3⟩ := HP2.out.1.out.free; obtain ⟨r0, r1, r2, r3⟩ := HP2.out.1.out.cells; have lt2 := HP2.out.1.out.lt))
            all_goals (go_wp2_with fail; go_meet; exact ⟨rfl, rfl, Lib.hid (HPn.out _ HP2.out.1), below_store HP2.out.2 (by omega) _ _ _ _⟩)
          case rest =>
            obtain ⟨rfl, rfl, HPm, hbm⟩ := hcut
            by_cases hm : n * 10 < 18446744073709551616 ^ 4
            · have e1 : okE (n * 10) = 0 := if_pos hm
              have e2 : kept (n * 10) = n * 10 := if_pos hm
              rw [e1]
              rw [e2] at HPm
              have hadd : ∀ w : World, Calls Try.prog 32 #[.agg #[.int .u64 (limb (n * 10) 0), .int .u64 (limb (n * 10) 1), .int .u64 (limb (n * 10) 2), .int .u64 (limb (n * 10) 3)], .agg #[.int .u64 ((c : Int) - 48), .int .u64 0, .int .u64 0, .int .u64 0]] w fun e w' => e = .returned (sumV (n * 10 + (c - 48))) ∧ Below w.heap.size w w' := fun w => by
                have h1 := hadd_calls (n * 10) (c - 48) w hm (by omega)
                have h2 : bigN (c - 48) = .agg #[.int .u64 ((c : Int) - 48), .int .u64 0, .int .u64 0, .int .u64 0] := by
                  have := hof_num (x := (c : Int) - 48) (by omega) (by omega)
                  rw [show ((c : Int) - 48).toNat = c - 48 by omega] at this
                  exact this.symm
                rw [h2] at h1
                exact h1
              have HAd := Lib.hid hadd
              rw [sumV_kept] at HAd
              have HPx := Lib.hid (fun (u : World) (h : PS u w.heap.size s.data.toList (n * 10)) => h.stored (kept (n * 10 + (c - 48))))
              clear hadd e1 e2 HP hb HMl HPn c0 c1 c2 c3 lt1 hn hm
              rename_i wc
              generalize n * 10 = m at *
              obtain ⟨c0, c1, c2, c3⟩ := (HPm.out).out.cells
              have lt1 := (HPm.out).out.lt
              generalize hq : m + (c - 48) = n' at *
              have HQ := Lib.hid hq
              have hw8 : IntKind.u8.wrap ((c : Int) - 48) = (c : Int) - 48 := IntWalk.u8_in _ (by omega)
              have hw64 : IntKind.u64.wrap ((c : Int) - 48) = (c : Int) - 48 := IntWalk.u64_in _ (by omega)
              clear hq
              go_wp2_with fail
              go_region_with (first
                | (go_at_call 28; refine (hof_calls _ _).mono ?_; rintro e w' ⟨rfl, hb1⟩; have z1 : wc.heap.size ≤ w'.heap.size := hb1.size; have HP1 := Lib.hid (PS.later (w := wc.drew) HPm.out.drew hb1); obtain ⟨q0, q1, q2, q3⟩ := HP1.out.out.cells)
                | (go_at_call 32; refine (HAd.out _).mono ?_; rintro e w6 ⟨rfl, hb6⟩; have z6 := hb6.size; have HP2 := Lib.hid (HPm.out.step hbm hb1 hb6); obtain ⟨d0, d1, d2, d3⟩ := HP2.out.1.out.free; obtain ⟨r0, r1, r2, r3⟩ := HP2.out.1.out.cells; have lt2 := HP2.out.1.out.lt))
              all_goals
                go_wp2_with fail
                go_roundw
                case rel => exact ⟨k + 1, by simp, by omega, by rw [HN'.out], HDn, by rw [HN'.out]; exact Lib.hid (HPx.out _ HP2.out.1), below_store HP2.out.2 (by omega) _ _ _ _⟩
                case measure => simp [intOf]; omega
            · have e1 : okE (n * 10) = 2 := if_neg hm
              rw [e1]
              clear HP hb HMl HPn c0 c1 c2 c3 lt1
              go_wp2_with fail
              go_roundw
              case rel =>
                have e3 : ¬ n * 10 + (c - 48) < 18446744073709551616 ^ 4 := by omega
                refine ⟨k + 1, by simp, by omega, ?_, HDn, ?_, hbm⟩
                · rw [HN'.out, okE, if_neg e3]
                · rw [HN'.out, kept, if_neg e3]
                  rw [kept, if_neg hm] at HPm
                  exact HPm
              case measure => simp [intOf]; omega
        · have e1 : okE n = 2 := if_neg hn
          have e2 : kept n = 0 := if_neg hn
          rw [e1]
          rw [e2] at HP
          go_wp2_with fail
          go_roundw
          case rel =>
            have e3 : ¬ n * 10 + (c - 48) < 18446744073709551616 ^ 4 := by omega
            refine ⟨k + 1, by simp, by omega, ?_, HDn, ?_, hb⟩
            · rw [HN'.out, okE, if_neg e3]
            · rw [HN'.out, kept, if_neg e3]
              exact HP
          case measure => simp [intOf]; omega
      · obtain ⟨r0, r1, r2, r3⟩ := HP.out.res.cells
        obtain ⟨d0, d1, d2, d3⟩ := HP.out.res.free
        have lt0 := HP.out.res.lt
        have HE := Lib.hid (show (∃ c ∈ s.data.toList, ¬ isDig c) from ⟨cc, HM.out, fun h => hd (HCI.out.1 h)⟩)
        have HZ := Lib.hid bigN_zero
        rcases (show (c : Int) < 48 ∨ (48 ≤ (c : Int) ∧ 57 < (c : Int)) by omega) with hd1 | ⟨hd1, hd2⟩
        all_goals
          clear hd HCI HM HT HDk
          go_wp2_with fail
          exact bodyPost_ret (v := .tuple #[big 0 0 0 0, .int .i64 6]) (by simp [results, Try.results42, go_sem, r0, r1, r2, r3]) rfl ⟨fun _ => by rw [HZ.out], fun h => absurd HE.out (by simpa using h), below_store hb (Nat.le_refl _) _ _ _ _⟩
    · have he : k = s.size := by omega
      have hL : s.data.toList.length = k := by rw [HM0.out, he]
      have HTk := Lib.hid (show s.data.toList.take k = s.data.toList from List.take_of_length_le (by omega))
      have HAll : Hid (∀ c ∈ s.data.toList, isDig c) := Lib.hid fun c hc => by
        obtain ⟨j, hj, rfl⟩ := List.getElem_of_mem hc
        have := HD.out j (by omega)
        rw [List.getD_eq_getElem?_getD, List.getElem?_eq_getElem hj] at this
        exact this
      rw [HTk.out] at HP ⊢
      have hlt' : ¬ (k : Int) < (s.size : Int) := by omega
      obtain ⟨c0, c1, c2, c3⟩ := HP.out.out.cells
      obtain ⟨r0, r1, r2, r3⟩ := HP.out.res.cells
      obtain ⟨d0, d1, d2, d3⟩ := HP.out.res.free
      have lt0 := HP.out.res.lt
      have lt1 := HP.out.out.lt
      generalize hnn : decV s.data.toList = n at *
      have HN := Lib.hid hnn
      clear hnn HTk HD hL he
      by_cases hn : n < 18446744073709551616 ^ 4
      · have e1 : okE n = 0 := if_pos hn
        have HV := Lib.hid (sumV_lt hn)
        have HK := Lib.hid (show kept n = n from if_pos hn)
        rw [e1]
        clear hn e1
        go_wp2_with fail
        exact bodyPost_ret (v := .tuple #[bigN (kept n), .int .i64 0]) (by simp [results, Try.results42, go_sem, c0, c1, c2, c3, r0, r1, r2, r3, lt0]) rfl ⟨by intros; rename_i h1 h2; exact absurd (HAll.out _ (by simpa using h1)) h2, fun _ => by rw [HN.out, HV.out, HK.out], below_store hb (Nat.le_refl _) _ _ _ _⟩
      · have e1 : okE n = 2 := if_neg hn
        have HV := Lib.hid (sumV_ge (n := n) (by omega))
        rw [e1]
        clear hn e1
        go_wp2_with fail
        exact bodyPost_ret (v := .tuple #[big 0 0 0 0, .int .i64 2]) (by simp [results, Try.results42, go_sem, r0, r1, r2, r3, lt0]) rfl ⟨by intros; rename_i h1 h2; exact absurd (HAll.out _ (by simpa using h1)) h2, fun _ => by rw [HN.out, HV.out], below_store hb (Nat.le_refl _) _ _ _ _⟩
end Go.Proofs.Ytoljemjnhomomaa
