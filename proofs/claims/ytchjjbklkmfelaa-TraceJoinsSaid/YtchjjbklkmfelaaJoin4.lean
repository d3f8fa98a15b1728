/- What is counted of two rows, one behind the other, is what is counted of both, together. -/
import Derived.Test.YtchjjbklkmfelaaJoin1
import Derived.Test.YtchjjbklkmfelaaJoin2
import Derived.Test.YtchjjbklkmfelaaFlow2
import Derived.Test.YtchjjbklkmfelaaInv6
namespace Go.Proofs.Ytchjjbklkmfelaa
open Go.RowKit Go.Lib Go.Deep
set_option linter.unusedVariables false
set_option linter.unusedSimpArgs false


set_option maxRecDepth 100000 in
theorem Evs_nilOr {H : Type} {enc : TypeId × Value → H} {W : World} {base : Nat} {v : Value} {d : DataW H} {p : List MemPlace} (hval : Value.okWide Try.prog W .any base 22 v) (h : DataW.Trod enc Try.prog W 0 (fun _ => true) true 22 v d p) :
    ∃ l, Recs evK W v l ∧ NilOr v := by
  obtain ⟨l, hl⟩ := Evs_open hval h
  refine ⟨l, hl, ?_⟩
  obtain ⟨A, c, rfl, -⟩ := hl
  obtain ⟨fuel, hf⟩ := h
  rcases open_slice Try.underlying22 hf with ⟨hcs, hx⟩ | ⟨a, len', cap', m, n', D, Pl, hcs, -⟩
  · simp [Value.cells] at hcs
    obtain ⟨rfl, h1, rfl⟩ := hcs
    exact .inl (by rw [h1]; rfl)
  · simp [Value.cells] at hcs
    obtain ⟨rfl, h1, rfl⟩ := hcs
    exact .inr ⟨_, _, _, rfl⟩

/-- What rows count and pay. -/
def cntL : List (List Value) → Cnt
  | [] => ⟨0, 0, 0, 0, 0⟩
  | c :: l => (one c).add (cntL l)
def paidL : List (List Value) → Nat
  | [] => 0
  | c :: l => sat (paidE c) (paidL l)
theorem paidL_lt : ∀ l, paidL l < 18446744073709551616 ^ 4
  | [] => by decide
  | c :: l => sat_lt _ _
theorem sat_sat (a b c : Nat) : sat (sat a b) c = sat a (sat b c) := by
  unfold sat
  repeat' split
  all_goals omega
theorem fold_cnt : ∀ (l : List (List Value)) (x : Ex), (l.foldl Ex.take x).cnt = x.cnt.add (cntL l)
  | [], x => by simp [cntL, Cnt.add]
  | c :: l, x => by
    rw [List.foldl_cons, fold_cnt l, take_cnt]
    simp [cntL, Cnt.add, Nat.add_assoc]
theorem fold_paid : ∀ (l : List (List Value)) (x : Ex), x.paid < 18446744073709551616 ^ 4 → (l.foldl Ex.take x).paid = sat x.paid (paidL l)
  | [], x, h => by unfold paidL sat; rw [List.foldl_nil, Nat.add_zero, if_pos h]
  | c :: l, x, h => by
    rw [List.foldl_cons, fold_paid l _ (by rw [take_paid _ _ h]; exact sat_lt _ _), take_paid _ _ h, sat_sat]
    rfl
theorem ex_join (l m : List (List Value)) (ids : List Value) (h : (exOf l ids).paid < 18446744073709551616 ^ 4) :
    (exOf (l ++ m) ids).cnt = (exOf l ids).cnt.add (exOf m ids).cnt ∧ (exOf (l ++ m) ids).paid = sat (exOf l ids).paid (exOf m ids).paid := by
  have e : exOf (l ++ m) ids = (m.filter (hasId ids)).foldl Ex.take (exOf l ids) := by
    unfold exOf
    rw [List.filter_append, List.foldl_append]
  have e1 : (exOf m ids).cnt = Ex.zero.cnt.add (cntL (m.filter (hasId ids))) := fold_cnt _ _
  have e2 : (exOf m ids).paid = sat 0 (paidL (m.filter (hasId ids))) := fold_paid _ _ (by decide)
  rw [e, fold_cnt, fold_paid _ _ h, e1, e2]
  refine ⟨by simp [Cnt.add, Ex.cnt, Ex.zero], ?_⟩
  rw [show sat 0 (paidL (m.filter (hasId ids))) = paidL (m.filter (hasId ids)) by unfold sat; rw [Nat.zero_add, if_pos (paidL_lt _)]]
theorem ex_joins (l m : List (List Value)) (ids : List Value) (h : (exOf l ids).paid < 18446744073709551616 ^ 4) :
    (exOf (l ++ m) ids).burns = (exOf l ids).burns + (exOf m ids).burns ∧ (exOf (l ++ m) ids).fills = (exOf l ids).fills + (exOf m ids).fills ∧ (exOf (l ++ m) ids).redeems = (exOf l ids).redeems + (exOf m ids).redeems ∧
    (exOf (l ++ m) ids).refunds = (exOf l ids).refunds + (exOf m ids).refunds ∧ (exOf (l ++ m) ids).carries = (exOf l ids).carries + (exOf m ids).carries ∧ (exOf (l ++ m) ids).paid = sat (exOf l ids).paid (exOf m ids).paid := by
  obtain ⟨h1, h2⟩ := ex_join l m ids h
  have e := fun (f : Cnt → Nat) => congrArg f h1
  exact ⟨e Cnt.b, e Cnt.f, e Cnt.r, e Cnt.u, e Cnt.c, h2⟩
theorem once_join {X Y Z : Ex} (h : Z.burns = X.burns + Y.burns ∧ Z.fills = X.fills + Y.fills ∧ Z.redeems = X.redeems + Y.redeems ∧ Z.refunds = X.refunds + Y.refunds ∧ Z.carries = X.carries + Y.carries ∧ Z.paid = sat X.paid Y.paid) (hz : Z.once = true) : X.once = true ∧ Y.once = true := by
  obtain ⟨-, h2, h3, h4, h5, -⟩ := h
  unfold Ex.once at *
  simp only [Bool.and_eq_true, decide_eq_true_eq] at *
  rw [h2, h3, h4, h5] at hz
  omega
theorem recs_typed {K : Kinds} {w : World} {v : Value} {l : List (List Value)} (h : Recs K w v l) : ∀ c ∈ l, Typed K c := by
  obtain ⟨A, c, -, -, -, h4, -⟩ := h
  exact h4
theorem args2 {f : Operand → Value} {x y : Operand} {u v : Value} (h1 : f x = u) (h2 : f y = v) : #[x, y].map f = #[u, v] := by simp [h1, h2]
set_option maxHeartbeats 4000000 in
set_option maxRecDepth 100000 in
theorem traceJoins_few (v v' : Value) (ids : List Value) (who : Int) (l m : List (List Value)) (w : World) (h : Recs evK w v l) (h' : Recs evK w v' m) (hv : NilOr v) (hv' : NilOr v') (hids : Typed hashK ids) (hl : l.length ≤ 40) (hm : m.length ≤ 40) :
    Calls Try.prog 4 #[v, v', .agg ids.toArray, .int .u8 who] w (Yes w) := by
  obtain ⟨A, c, rfl, a1, a2, -, -⟩ := id h
  obtain ⟨A', c', rfl, b1, b2, -, -⟩ := id h'
  unfold maxLen at a2 b2
  have hl' : (l.length : Int) ≤ 40 := by omega
  have hm' : (m.length : Int) ≤ 40 := by omega
  have HI := Lib.hid hids
  have HR := Lib.hid h
  have HR' := Lib.hid h'
  clear h h' hids
  obtain ⟨n, hn⟩ : ∃ n, l.length = n := ⟨_, rfl⟩
  obtain ⟨n', hn'⟩ : ∃ n', m.length = n' := ⟨_, rfl⟩
  rw [hn] at hl' HR hl hv ⊢
  rw [hn'] at hm' HR' hm hv' ⊢
  have HN := Lib.hid (And.intro hn hn')
  clear hn hn'
  have R0 := range_alloc w ids.toArray 26
  have R0' : (w.alloc (.cells ids.toArray 26)).rangeAt w.heap.size 0 ids := R0
  have hs0 : w.heap.size < (w.alloc (.cells ids.toArray 26)).heap.size := by simp
  have Q0 : Below w.heap.size w (w.alloc (.cells ids.toArray 26)) := (Below.refl _ _).alloc (Nat.le_refl _) _
  have hil := hash_info (hash_len HI.out)
  clear R0
  go_enter Try.func4, Try.ntmps4
  go_upto_region 1 with fail
  obtain ⟨W, hW⟩ : ∃ W, w.alloc (.cells ids.toArray 26) = W := ⟨_, rfl⟩
  rw [hW] at R0' hs0 Q0
  rw [hW]
  clear hW
  go_wp2_with fail
  refine (tlives_calls _).mono ?_
  rintro e w1 ⟨rfl, hb1⟩
  have R1 := range_below R0' hb1 hs0
  have Q1 := Q0.trans (hb1.mono Q0.size)
  have HR1 := Lib.hid ((HR.out.below (by rw [evK_len]; decide) Q0).below (by rw [evK_len]; decide) hb1)
  have HR1' := Lib.hid ((HR'.out.below (by rw [evK_len]; decide) Q0).below (by rw [evK_len]; decide) hb1)
  have hs1 := Nat.lt_of_lt_of_le hs0 hb1.size
  clear R0' Q0 HR HR' hb1 hs0
  go_upto_region 3 with fail
  obtain ⟨zE, hzE, hzS⟩ := infoEv'
  have hO0 : OwnE (w1.alloc (.cells #[] 31)) w1.heap.size (.slice (some ⟨w1.heap.size, 0, none⟩) 0 0) [] := ⟨World.ownsRow_lit w1 #[] 0 (Nat.le_refl _) (by unfold maxLen; omega) (by simp), by simp⟩
  have HO0 := Lib.hid hO0
  have HZ := Lib.hid (And.intro hzE hzS)
  have HR2 := Lib.hid (HR1.out.below (by rw [evK_len]; decide) ((Below.refl _ _).alloc (Nat.le_refl _) (.cells #[] 31)))
  have hbA : Below w1.heap.size w1 (w1.alloc (.cells #[] 31)) := (Below.refl _ _).alloc (Nat.le_refl _) _
  have HR2' := Lib.hid (HR1'.out.below (by rw [evK_len]; decide) hbA)
  clear hO0 hzE hzS
  go_cut [9] from 28 to 32 (fun r wx => Hid (OwnE wx w1.heap.size r (l ++ m)) ∧ Below w1.heap.size w1 wx)
  case first =>
    go_wp2_with (first
      | (at_builtin; refine wpList_app_any rfl _ _ 22 31 evK zE 128 rfl Try.underlying22 HZ.out.1 HZ.out.2 evK_pos (by decide) w1.heap.size _ [] l rfl HO0.out (.slice A n c) rfl HR2.out hv (by decide) (by have := HN.out.1; omega) (by simp) ?_))
    intro v1 w2 ho1 hb2
    have hbb2 := hbA.trans hb2
    have HR3' := Lib.hid (HR1'.out.below (by rw [evK_len]; decide) hbb2)
    go_wp2_with (first
      | (at_builtin; refine wpList_app_any rfl _ _ 22 31 evK zE 128 rfl Try.underlying22 HZ.out.1 HZ.out.2 evK_pos (by decide) w1.heap.size v1 l m rfl ho1 (.slice A' n' c') rfl HR3'.out hv' (by have := HN.out.1; omega) (by have := HN.out.2; omega) hbb2.size ?_))
    intro v3 w3 ho3 hb3
    have hbb3 := hbb2.trans hb3
    clear hb2 hb3 hbb2 HR3' ho1
    go_wp2_with fail
    go_meet
    exact ⟨Lib.hid ho3, hbb3⟩
  case rest =>
  obtain ⟨HOA, hbw⟩ := hcut
  have R2 := range_below R1 hbw hs1
  have Q2 := Q1.trans (hbw.mono Q1.size)
  have HE1 := Lib.hid (HR1.out.below (by rw [evK_len]; decide) hbw)
  have HE2 := Lib.hid (HR1'.out.below (by rw [evK_len]; decide) hbw)
  have HE3 := Lib.hid HOA.out.recs
  have hs2 := Nat.lt_of_lt_of_le hs1 hbw.size
  clear HOA hbw R1 Q1 HR1 HR1' hs1 HR2 HR2' hbA HO0 HZ hv hv'
  go_upto_region 4 with fail
  have HOK1 := Lib.hid (exOf_ok l ids (recs_typed HE1.out)).1
  have HOK2 := Lib.hid (exOf_ok m ids (recs_typed HE2.out)).1
  have HOK3 := Lib.hid (exOf_ok (l ++ m) ids (recs_typed HE3.out)).1
  obtain ⟨T, hT⟩ : ∃ T : Plan, T = ⟨[(0, 33, .slice A n c), (1, 34, .agg ids.toArray), (2, 35, .agg (exOf l ids).list.toArray), (3, 36, .slice A' n' c'), (4, 37, .agg ids.toArray), (5, 38, .agg (exOf m ids).list.toArray), (6, 39, u9), (7, 40, .agg ids.toArray), (8, 41, .agg (exOf (l ++ m) ids).list.toArray)], [(9, 10, 46), (10, 11, 46), (11, 12, 46)], [(12, 10, (exOf l ids).list), (13, 11, (exOf m ids).list), (14, 12, (exOf (l ++ m) ids).list)]⟩ := ⟨_, rfl⟩
  have hG : T.Good := Plan.good (by rw [hT]; rfl)
  have mv : ∀ k x, T.vals[k]? = some x → x ∈ T.vals := fun k x h => List.mem_of_getElem? h
  have mr : ∀ k x, T.vars[k]? = some x → x ∈ T.vars := fun k x h => List.mem_of_getElem? h
  have mp : ∀ k x, T.puts[k]? = some x → x ∈ T.puts := fun k x h => List.mem_of_getElem? h
  refine region_over (by kernel_rfl) [10, 11, 12, 33, 34, 35, 36, 37, 38, 39, 40, 41] (Stands T wc) (Stands.start T wc _ _) ?_ ?_
  case refine_2 =>
    intro L V w' i hF hi
    have hlt : i < 15 := (ready_spec hi).1
    have hB := hF.below
    have Ri := range_below R2 hB hs2
    rcases (by omega : i = 0 ∨ i = 1 ∨ i = 2 ∨ i = 3 ∨ i = 4 ∨ i = 5 ∨ i = 6 ∨ i = 7 ∨ i = 8 ∨ i = 9 ∨ i = 10 ∨ i = 11 ∨ i = 12 ∨ i = 13 ∨ i = 14) with rfl | rfl | rfl | rfl | rfl | rfl | rfl | rfl | rfl | rfl | rfl | rfl | rfl | rfl | rfl
    · exact at_move hG hF rfl rfl (.tmp 0) rfl 33 rfl rfl _ (mv 0 _ (by rw [hT]; rfl)) (over_else _ _ _ 0 rfl)
    · exact at_load hG hF rfl rfl _ (.tmp 6) rfl 34 rfl rfl _ _ (over_else _ _ _ 6 rfl) ids (mv 1 _ (by rw [hT]; rfl)) _ Ri Try.underlying26 rfl hil
    · have e1 := hF.val 0 33 _ (mv 0 _ (by rw [hT]; rfl)) (ready_up hi rfl ⟨0, .data⟩ (Array.mem_of_getElem? (i := 0) rfl) rfl)
      have e2 := hF.val 1 34 _ (mv 1 _ (by rw [hT]; rfl)) (ready_up hi rfl ⟨1, .data⟩ (Array.mem_of_getElem? (i := 1) rfl) rfl)
      exact at_call hG hF rfl rfl 12 #[.tmp 33, .tmp 34] _ rfl 35 rfl rfl Try.call12 _ (args2 ((over_slot _ _ _ 33 rfl rfl).trans e1) ((over_slot _ _ _ 34 rfl rfl).trans e2)) _ (mv 2 _ (by rw [hT]; rfl))
        (of_calls _ ids l w' (HE1.out.below (by rw [evK_len]; decide) hB) HI.out (by have := HN.out; omega))
    · exact at_move hG hF rfl rfl (.tmp 1) rfl 36 rfl rfl _ (mv 3 _ (by rw [hT]; rfl)) (over_else _ _ _ 1 rfl)
    · exact at_load hG hF rfl rfl _ (.tmp 6) rfl 37 rfl rfl _ _ (over_else _ _ _ 6 rfl) ids (mv 4 _ (by rw [hT]; rfl)) _ Ri Try.underlying26 rfl hil
    · have e1 := hF.val 3 36 _ (mv 3 _ (by rw [hT]; rfl)) (ready_up hi rfl ⟨3, .data⟩ (Array.mem_of_getElem? (i := 0) rfl) rfl)
      have e2 := hF.val 4 37 _ (mv 4 _ (by rw [hT]; rfl)) (ready_up hi rfl ⟨4, .data⟩ (Array.mem_of_getElem? (i := 1) rfl) rfl)
      exact at_call hG hF rfl rfl 12 #[.tmp 36, .tmp 37] _ rfl 38 rfl rfl Try.call12 _ (args2 ((over_slot _ _ _ 36 rfl rfl).trans e1) ((over_slot _ _ _ 37 rfl rfl).trans e2)) _ (mv 5 _ (by rw [hT]; rfl))
        (of_calls _ ids m w' (HE2.out.below (by rw [evK_len]; decide) hB) HI.out (by have := HN.out; omega))
    · exact at_move hG hF rfl rfl (.tmp 9) rfl 39 rfl rfl _ (mv 6 _ (by rw [hT]; rfl)) (over_else _ _ _ 9 rfl)
    · exact at_load hG hF rfl rfl _ (.tmp 6) rfl 40 rfl rfl _ _ (over_else _ _ _ 6 rfl) ids (mv 7 _ (by rw [hT]; rfl)) _ Ri Try.underlying26 rfl hil
    · have e1 := hF.val 6 39 _ (mv 6 _ (by rw [hT]; rfl)) (ready_up hi rfl ⟨6, .data⟩ (Array.mem_of_getElem? (i := 0) rfl) rfl)
      have e2 := hF.val 7 40 _ (mv 7 _ (by rw [hT]; rfl)) (ready_up hi rfl ⟨7, .data⟩ (Array.mem_of_getElem? (i := 1) rfl) rfl)
      exact at_call hG hF rfl rfl 12 #[.tmp 39, .tmp 40] _ rfl 41 rfl rfl Try.call12 _ (args2 ((over_slot _ _ _ 39 rfl rfl).trans e1) ((over_slot _ _ _ 40 rfl rfl).trans e2)) _ (mv 8 _ (by rw [hT]; rfl))
        (of_calls _ ids (l ++ m) w' (HE3.out.below (by rw [evK_len]; decide) hB) HI.out (by have := HN.out; rw [List.length_append]; omega))
    · exact at_alloc hG hF hi rfl rfl _ rfl 10 rfl rfl _ 46 (mr 0 _ (by rw [hT]; rfl)) (Try.zeroValue35 w') rfl
    · exact at_alloc hG hF hi rfl rfl _ rfl 11 rfl rfl _ 46 (mr 1 _ (by rw [hT]; rfl)) (Try.zeroValue35 w') rfl
    · exact at_alloc hG hF hi rfl rfl _ rfl 12 rfl rfl _ 46 (mr 2 _ (by rw [hT]; rfl)) (Try.zeroValue35 w') rfl
    · have e1 := hF.val 2 35 _ (mv 2 _ (by rw [hT]; rfl)) (ready_up hi rfl ⟨2, .data⟩ (Array.mem_of_getElem? (i := 1) rfl) rfl)
      exact at_store hG hF rfl rfl _ 10 (.tmp 35) rfl rfl rfl rfl _ (mp 0 _ (by rw [hT]; rfl)) 9 46 (mr 0 _ (by rw [hT]; rfl)) (ready_up hi rfl ⟨9, .data⟩ (Array.mem_of_getElem? (i := 0) rfl) rfl) (Ex.list_len _) ((over_slot _ _ _ 35 rfl rfl).trans e1) (ex_info _) (Ex.list_one HOK1.out)
    · have e1 := hF.val 5 38 _ (mv 5 _ (by rw [hT]; rfl)) (ready_up hi rfl ⟨5, .data⟩ (Array.mem_of_getElem? (i := 1) rfl) rfl)
      exact at_store hG hF rfl rfl _ 11 (.tmp 38) rfl rfl rfl rfl _ (mp 1 _ (by rw [hT]; rfl)) 10 46 (mr 1 _ (by rw [hT]; rfl)) (ready_up hi rfl ⟨10, .data⟩ (Array.mem_of_getElem? (i := 0) rfl) rfl) (Ex.list_len _) ((over_slot _ _ _ 38 rfl rfl).trans e1) (ex_info _) (Ex.list_one HOK2.out)
    · have e1 := hF.val 8 41 _ (mv 8 _ (by rw [hT]; rfl)) (ready_up hi rfl ⟨8, .data⟩ (Array.mem_of_getElem? (i := 1) rfl) rfl)
      exact at_store hG hF rfl rfl _ 12 (.tmp 41) rfl rfl rfl rfl _ (mp 2 _ (by rw [hT]; rfl)) 11 46 (mr 2 _ (by rw [hT]; rfl)) (ready_up hi rfl ⟨11, .data⟩ (Array.mem_of_getElem? (i := 0) rfl) rfl) (Ex.list_len _) ((over_slot _ _ _ 41 rfl rfl).trans e1) (ex_info _) (Ex.list_one HOK3.out)
  case refine_1 =>
    intro L V w' hs hF hr
    have up := all_up (by kernel_rfl) hs hr 15
    obtain ⟨p1, v1, b1, r1⟩ := hF.put 12 10 _ (mp 0 _ (by rw [hT]; rfl)) (up 12 (by decide) (by decide))
    obtain ⟨p2, v2, b2, r2⟩ := hF.put 13 11 _ (mp 1 _ (by rw [hT]; rfl)) (up 13 (by decide) (by decide))
    obtain ⟨p3, v3, b3, r3⟩ := hF.put 14 12 _ (mp 2 _ (by rw [hT]; rfl)) (up 14 (by decide) (by decide))
    have Q3 := Q2.trans (hF.below.mono Q2.size)
    have HE1' := Lib.hid (HE1.out.below (by rw [evK_len]; decide) hF.below)
    have HE2' := Lib.hid (HE2.out.below (by rw [evK_len]; decide) hF.below)
    have HE3' := Lib.hid (HE3.out.below (by rw [evK_len]; decide) hF.below)
    clear R2 hF HE1 HE2 HE3 hr hs up mv mr mp hG hT Q2 hil
    unfold over
    simp [v1, v2, v3]
    generalize V 33 = u33, V 34 = u34, V 35 = u35, V 36 = u36, V 37 = u37, V 38 = u38, V 39 = u39, V 40 = u40, V 41 = u41
    obtain ⟨j1, j2, j3, j4, j5, j6⟩ := ex_joins l m ids HOK1.out.2.1
    have HJ := Lib.hid (And.intro j1 (And.intro j2 (And.intro j3 (And.intro j4 (And.intro j5 j6)))))
    have HX := Lib.hid (exOf_ok l ids (recs_typed HE1'.out))
    have HY := Lib.hid (exOf_ok m ids (recs_typed HE2'.out))
    have HZ := Lib.hid (exOf_ok (l ++ m) ids (recs_typed HE3'.out))
    clear j1 j2 j3 j4 j5 j6 v1 v2 v3
    generalize exOf l ids = X at *
    generalize exOf m ids = Y at *
    generalize exOf (l ++ m) ids = Z at *
    have x33 : w'.cell? ⟨p1, 33, none⟩ = some (.int .i64 (X.burns : Int)) := ex_lies r1 33 (by decide)
    have y33 : w'.cell? ⟨p2, 33, none⟩ = some (.int .i64 (Y.burns : Int)) := ex_lies r2 33 (by decide)
    have z33 : w'.cell? ⟨p3, 33, none⟩ = some (.int .i64 ((X.burns : Int) + (Y.burns : Int))) := by
      rw [← Int.natCast_add, ← HJ.out.1]
      exact ex_lies r3 33 (by decide)
    have x34 : w'.cell? ⟨p1, 34, none⟩ = some (.int .i64 (X.fills : Int)) := ex_lies r1 34 (by decide)
    have y34 : w'.cell? ⟨p2, 34, none⟩ = some (.int .i64 (Y.fills : Int)) := ex_lies r2 34 (by decide)
    have z34 : w'.cell? ⟨p3, 34, none⟩ = some (.int .i64 ((X.fills : Int) + (Y.fills : Int))) := by
      rw [← Int.natCast_add, ← HJ.out.2.1]
      exact ex_lies r3 34 (by decide)
    have x35 : w'.cell? ⟨p1, 35, none⟩ = some (.int .i64 (X.redeems : Int)) := ex_lies r1 35 (by decide)
    have y35 : w'.cell? ⟨p2, 35, none⟩ = some (.int .i64 (Y.redeems : Int)) := ex_lies r2 35 (by decide)
    have z35 : w'.cell? ⟨p3, 35, none⟩ = some (.int .i64 ((X.redeems : Int) + (Y.redeems : Int))) := by
      rw [← Int.natCast_add, ← HJ.out.2.2.1]
      exact ex_lies r3 35 (by decide)
    have x36 : w'.cell? ⟨p1, 36, none⟩ = some (.int .i64 (X.refunds : Int)) := ex_lies r1 36 (by decide)
    have y36 : w'.cell? ⟨p2, 36, none⟩ = some (.int .i64 (Y.refunds : Int)) := ex_lies r2 36 (by decide)
    have z36 : w'.cell? ⟨p3, 36, none⟩ = some (.int .i64 ((X.refunds : Int) + (Y.refunds : Int))) := by
      rw [← Int.natCast_add, ← HJ.out.2.2.2.1]
      exact ex_lies r3 36 (by decide)
    have x37 : w'.cell? ⟨p1, 37, none⟩ = some (.int .i64 (X.carries : Int)) := ex_lies r1 37 (by decide)
    have y37 : w'.cell? ⟨p2, 37, none⟩ = some (.int .i64 (Y.carries : Int)) := ex_lies r2 37 (by decide)
    have z37 : w'.cell? ⟨p3, 37, none⟩ = some (.int .i64 ((X.carries : Int) + (Y.carries : Int))) := by
      rw [← Int.natCast_add, ← HJ.out.2.2.2.2.1]
      exact ex_lies r3 37 (by decide)
    have HB : X.burns ≤ 40 ∧ X.fills ≤ 40 ∧ X.redeems ≤ 40 ∧ X.refunds ≤ 40 ∧ X.carries ≤ 40 ∧ Y.burns ≤ 40 ∧ Y.fills ≤ 40 ∧ Y.redeems ≤ 40 ∧ Y.refunds ≤ 40 ∧ Y.carries ≤ 40 := by
      have a := HX.out.2
      have b := HY.out.2
      have := HN.out
      unfold Ex.sum at a b
      omega
    have o33 : IntKind.i64.wrap ((X.burns : Int) + (Y.burns : Int)) = (X.burns : Int) + (Y.burns : Int) := IntWalk.i64_in _ (by omega)
    have o34 : IntKind.i64.wrap ((X.fills : Int) + (Y.fills : Int)) = (X.fills : Int) + (Y.fills : Int) := IntWalk.i64_in _ (by omega)
    have o35 : IntKind.i64.wrap ((X.redeems : Int) + (Y.redeems : Int)) = (X.redeems : Int) + (Y.redeems : Int) := IntWalk.i64_in _ (by omega)
    have o36 : IntKind.i64.wrap ((X.refunds : Int) + (Y.refunds : Int)) = (X.refunds : Int) + (Y.refunds : Int) := IntWalk.i64_in _ (by omega)
    have o37 : IntKind.i64.wrap ((X.carries : Int) + (Y.carries : Int)) = (X.carries : Int) + (Y.carries : Int) := IntWalk.i64_in _ (by omega)
    have HBB := Lib.hid HB
    clear HB
    obtain ⟨fl, hfl⟩ : ∃ f, (l.filter (slashed who)).length = f := ⟨_, rfl⟩
    obtain ⟨fm, hfm⟩ : ∃ f, (m.filter (slashed who)).length = f := ⟨_, rfl⟩
    have hfz : ((l ++ m).filter (slashed who)).length = fl + fm := by rw [List.filter_append, List.length_append, hfl, hfm]
    have hfl' : fl ≤ 40 := by
      have := List.length_filter_le (slashed who) l
      have := HN.out
      omega
    have hfm' : fm ≤ 40 := by
      have := List.length_filter_le (slashed who) m
      have := HN.out
      omega
    have of : IntKind.i64.wrap ((fl : Int) + (fm : Int)) = (fl : Int) + (fm : Int) := IntWalk.i64_in _ (by omega)
    have HF := Lib.hid (And.intro hfl (And.intro hfm hfz))
    clear hfl hfm hfz hfl' hfm'
    go_wp2_with fail
    refine (slashed_calls _ who (l ++ m) w' HE3'.out (by have := HN.out; rw [List.length_append]; omega)).mono ?_
    rintro e w4 ⟨rfl, hb4⟩
    rw [HF.out.2.2, Int.natCast_add]
    have HL4 := Lib.hid (HE1'.out.below (by rw [evK_len]; decide) hb4)
    have HM4 := Lib.hid (HE2'.out.below (by rw [evK_len]; decide) hb4)
    have Q4 := Q3.trans (hb4.mono Q3.size)
    have s1 := range_below r1 hb4 b1
    have s2 := range_below r2 hb4 b2
    have s3 := range_below r3 hb4 b3
    have c1 := Nat.lt_of_lt_of_le b1 hb4.size
    have c2 := Nat.lt_of_lt_of_le b2 hb4.size
    have c3 := Nat.lt_of_lt_of_le b3 hb4.size
    clear r1 r2 r3 b1 b2 b3 hb4 Q3 HE1' HE2' HE3' x33 x34 x35 x36 x37 y33 y34 y35 y36 y37 z33 z34 z35 z36 z37 o33 o36 o37
    go_wp2_with fail
    refine (slashed_calls _ who l w4 HL4.out (by have := HN.out; omega)).mono ?_
    rintro e w5 ⟨rfl, hb5⟩
    rw [HF.out.1]
    have HM5 := Lib.hid (HM4.out.below (by rw [evK_len]; decide) hb5)
    have Q5 := Q4.trans (hb5.mono Q4.size)
    have r1 := range_below s1 hb5 c1
    have r2 := range_below s2 hb5 c2
    have r3 := range_below s3 hb5 c3
    have b1 := Nat.lt_of_lt_of_le c1 hb5.size
    have b2 := Nat.lt_of_lt_of_le c2 hb5.size
    have b3 := Nat.lt_of_lt_of_le c3 hb5.size
    clear s1 s2 s3 c1 c2 c3 hb5 Q4 HL4 HM4
    go_wp2_with fail
    refine (slashed_calls _ who m w5 HM5.out (by have := HN.out; omega)).mono ?_
    rintro e w6 ⟨rfl, hb6⟩
    rw [HF.out.2.1]
    have Q6 := Q5.trans (hb6.mono Q5.size)
    have s1 := range_below r1 hb6 b1
    have s2 := range_below r2 hb6 b2
    have s3 := range_below r3 hb6 b3
    have c1 := Nat.lt_of_lt_of_le b1 hb6.size
    have c2 := Nat.lt_of_lt_of_le b2 hb6.size
    have c3 := Nat.lt_of_lt_of_le b3 hb6.size
    clear r1 r2 r3 b1 b2 b3 hb6 Q5 HM5
    have x38 : w6.cell? ⟨p1, 38, none⟩ = some (.int .u64 (limb X.paid 0)) := ex_lies s1 38 (by decide)
    have x39 : w6.cell? ⟨p1, 39, none⟩ = some (.int .u64 (limb X.paid 1)) := ex_lies s1 39 (by decide)
    have x40 : w6.cell? ⟨p1, 40, none⟩ = some (.int .u64 (limb X.paid 2)) := ex_lies s1 40 (by decide)
    have x41 : w6.cell? ⟨p1, 41, none⟩ = some (.int .u64 (limb X.paid 3)) := ex_lies s1 41 (by decide)
    have y38 : w6.cell? ⟨p2, 38, none⟩ = some (.int .u64 (limb Y.paid 0)) := ex_lies s2 38 (by decide)
    have y39 : w6.cell? ⟨p2, 39, none⟩ = some (.int .u64 (limb Y.paid 1)) := ex_lies s2 39 (by decide)
    have y40 : w6.cell? ⟨p2, 40, none⟩ = some (.int .u64 (limb Y.paid 2)) := ex_lies s2 40 (by decide)
    have y41 : w6.cell? ⟨p2, 41, none⟩ = some (.int .u64 (limb Y.paid 3)) := ex_lies s2 41 (by decide)
    go_wp2_with fail
    refine (hadd_calls X.paid Y.paid w6 HX.out.1.2.1 HY.out.1.2.1).mono ?_
    rintro e w7 ⟨rfl, hb7⟩
    have Q7 := Q6.trans (hb7.mono Q6.size)
    have r1 := range_below s1 hb7 c1
    have r2 := range_below s2 hb7 c2
    have r3 := range_below s3 hb7 c3
    have b1 := Nat.lt_of_lt_of_le c1 hb7.size
    have b2 := Nat.lt_of_lt_of_le c2 hb7.size
    have b3 := Nat.lt_of_lt_of_le c3 hb7.size
    clear s1 s2 s3 c1 c2 c3 hb7 Q6 x38 x39 x40 x41 y38 y39 y40 y41
    have key : ∀ (K : Act → World → Prop) (a : Act), (∀ W, Below w7.heap.size w7 W → K a W) → True := fun _ _ _ => trivial
    clear key
    by_cases hov : X.paid + Y.paid < 18446744073709551616 ^ 4
    focus
      have hz : Z.paid = X.paid + Y.paid := by rw [HJ.out.2.2.2.2.2]; unfold sat; rw [if_pos hov]
      rw [show sumV (X.paid + Y.paid) = .tuple #[bigN (X.paid + Y.paid), .int .i64 0] from if_pos hov]
      have z38 : w7.cell? ⟨p3, 38, none⟩ = some (.int .u64 (limb (X.paid + Y.paid) 0)) := by rw [← hz]; exact ex_lies r3 38 (by decide)
      have z39 : w7.cell? ⟨p3, 39, none⟩ = some (.int .u64 (limb (X.paid + Y.paid) 1)) := by rw [← hz]; exact ex_lies r3 39 (by decide)
      have z40 : w7.cell? ⟨p3, 40, none⟩ = some (.int .u64 (limb (X.paid + Y.paid) 2)) := by rw [← hz]; exact ex_lies r3 40 (by decide)
      have z41 : w7.cell? ⟨p3, 41, none⟩ = some (.int .u64 (limb (X.paid + Y.paid) 3)) := by rw [← hz]; exact ex_lies r3 41 (by decide)
      have HZ2 := Lib.hid hz
      clear hz hov
      generalize X.paid + Y.paid = S at *
      unfold bigN
      have hB8 : Below w7.heap.size w7 (w7.alloc (.cells #[.int .u64 (limb S 0), .int .u64 (limb S 1), .int .u64 (limb S 2), .int .u64 (limb S 3)] 28)) := (Below.refl _ _).alloc (Nat.le_refl _) _
      go_upto_region 8 with fail
      obtain ⟨W8, hW8⟩ : ∃ W8, w7.alloc (.cells #[.int .u64 (limb S 0), .int .u64 (limb S 1), .int .u64 (limb S 2), .int .u64 (limb S 3)] 28) = W8 := ⟨_, rfl⟩
      have y38 : W8.cell? ⟨w7.heap.size, 0, none⟩ = some (.int .u64 (limb S 0)) := by rw [← hW8]; simp
      have y39 : W8.cell? ⟨w7.heap.size, 1, none⟩ = some (.int .u64 (limb S 1)) := by rw [← hW8]; simp
      have y40 : W8.cell? ⟨w7.heap.size, 2, none⟩ = some (.int .u64 (limb S 2)) := by rw [← hW8]; simp
      have y41 : W8.cell? ⟨w7.heap.size, 3, none⟩ = some (.int .u64 (limb S 3)) := by rw [← hW8]; simp
      rw [hW8] at hB8
      rw [hW8]
      clear hW8
      have t38 := (hB8.cell (p := ⟨p3, 38, none⟩) b3).trans z38
      have t39 := (hB8.cell (p := ⟨p3, 39, none⟩) b3).trans z39
      have t40 := (hB8.cell (p := ⟨p3, 40, none⟩) b3).trans z40
      have t41 := (hB8.cell (p := ⟨p3, 41, none⟩) b3).trans z41
      clear z38 z39 z40 z41
      go_upto_region 10 with fail
      clear y38 y39 y40 y41 t38 t39 t40 t41 HZ2
    rotate_left
    focus
      rw [show sumV (X.paid + Y.paid) = .tuple #[bigN 0, .int .i64 2] from if_neg hov]
      clear hov
      rw [show bigN 0 = .agg #[.int .u64 0, .int .u64 0, .int .u64 0, .int .u64 0] from rfl]
      have hB8 : Below w7.heap.size w7 (w7.alloc (.cells #[.int .u64 0, .int .u64 0, .int .u64 0, .int .u64 0] 28)) := (Below.refl _ _).alloc (Nat.le_refl _) _
      go_upto_region 10 with fail
      obtain ⟨W8, hW8⟩ : ∃ W8, w7.alloc (.cells #[.int .u64 0, .int .u64 0, .int .u64 0, .int .u64 0] 28) = W8 := ⟨_, rfl⟩
      rw [hW8] at hB8
      rw [hW8]
      clear hW8
    all_goals
      have Q8 := Q7.trans (hB8.mono Q7.size)
      have s1 := range_below r1 hB8 b1
      have s2 := range_below r2 hB8 b2
      have s3 := range_below r3 hB8 b3
      have c1 := Nat.lt_of_lt_of_le b1 hB8.size
      have c2 := Nat.lt_of_lt_of_le b2 hB8.size
      have c3 := Nat.lt_of_lt_of_le b3 hB8.size
      clear r1 r2 r3 b1 b2 b3 hB8 Q7
      have z34 : W8.cell? ⟨p3, 34, none⟩ = some (.int .i64 (Z.fills : Int)) := ex_lies s3 34 (by decide)
      have z35 : W8.cell? ⟨p3, 35, none⟩ = some (.int .i64 (Z.redeems : Int)) := ex_lies s3 35 (by decide)
      have z36 : W8.cell? ⟨p3, 36, none⟩ = some (.int .i64 (Z.refunds : Int)) := ex_lies s3 36 (by decide)
      have z37 : W8.cell? ⟨p3, 37, none⟩ = some (.int .i64 (Z.carries : Int)) := ex_lies s3 37 (by decide)
      have hzs : Z.sum ≤ 80 := by
        have := HZ.out.2
        have := HN.out
        rw [List.length_append] at *
        omega
      have hxs : X.sum ≤ 80 := by
        have := HX.out.2
        have := HN.out
        omega
      have hys : Y.sum ≤ 80 := by
        have := HY.out.2
        have := HN.out
        omega
      have HOJ := Lib.hid (fun h => once_join HJ.out (Z := Z) h)
      have HO := Lib.hid (show Z.once = (decide (Z.fills + Z.redeems ≤ 1) && decide (Z.refunds ≤ 1) && decide (Z.carries ≤ 1)) from rfl)
      have HOZ := Lib.hid (fun (W' : World) (hb : Below W8.heap.size W8 W') => (once_calls Z W' (by omega)).mono (R' := fun e w' => e = .returned (.bool Z.once) ∧ Below W8.heap.size W8 w') (fun e w' h => ⟨h.1, hb.trans (h.2.mono hb.size)⟩))
      have HOX := Lib.hid (fun (W' : World) (hb : Below W8.heap.size W8 W') => (once_calls X W' (by omega)).mono (R' := fun e w' => e = .returned (.bool X.once) ∧ Below W8.heap.size W8 w') (fun e w' h => ⟨h.1, hb.trans (h.2.mono hb.size)⟩))
      have HOY := Lib.hid (fun (W' : World) (hb : Below W8.heap.size W8 W') => (once_calls Y W' (by omega)).mono (R' := fun e w' => e = .returned (.bool Y.once) ∧ Below W8.heap.size W8 w') (fun e w' h => ⟨h.1, hb.trans (h.2.mono hb.size)⟩))
      have wz : IntKind.i64.wrap ((Z.fills : Int) + (Z.redeems : Int)) = (Z.fills : Int) + (Z.redeems : Int) := IntWalk.i64_in _ (by unfold Ex.sum at hzs; omega)
      have hiX := ex_info X
      have hiY := ex_info Y
      have hiZ := ex_info Z
      clear HX HY HZ hxs hys hzs HJ HBB HF of HI
      generalize X.list = LX at *
      generalize Y.list = LY at *
      generalize Z.list = LZ at *
      have HK := Lib.hid (fun (W' : World) (hb : Below W8.heap.size W8 W') => (⟨⟨(hb.cell (p := ⟨p3, 34, none⟩) c3).trans z34, (hb.cell (p := ⟨p3, 35, none⟩) c3).trans z35, (hb.cell (p := ⟨p3, 36, none⟩) c3).trans z36, (hb.cell (p := ⟨p3, 37, none⟩) c3).trans z37⟩, range_below s3 hb c3, range_below s1 hb c1, range_below s2 hb c2⟩ :
        (W'.cell? ⟨p3, 34, none⟩ = some (.int .i64 (Z.fills : Int)) ∧ W'.cell? ⟨p3, 35, none⟩ = some (.int .i64 (Z.redeems : Int)) ∧ W'.cell? ⟨p3, 36, none⟩ = some (.int .i64 (Z.refunds : Int)) ∧ W'.cell? ⟨p3, 37, none⟩ = some (.int .i64 (Z.carries : Int))) ∧ W'.rangeAt p3 0 LZ ∧ W'.rangeAt p1 0 LX ∧ W'.rangeAt p2 0 LY))
      have huE := Try.underlying35
      generalize X.once = ox at *
      generalize Y.once = oy at *
      generalize hoz : Z.once = oz at *
      generalize Z.fills = f at *
      generalize Z.redeems = r at *
      generalize Z.refunds = u at *
      generalize Z.carries = k at *
      clear s1 s2 s3 c1 c2 c3 z34 z35 z36 z37 hoz
      have hB0 : Below W8.heap.size W8 W8.drew := (Below.refl _ _).drew
      obtain ⟨D, wo, hwo, hex⟩ := class_of (Below W8.heap.size W8)
      haveI hne : Nonempty D := let ⟨n, _⟩ := hex _ hB0; ⟨n⟩
      have y34 : ∀ n : D, (wo n).cell? ⟨p3, 34, none⟩ = some (.int .i64 (f : Int)) := fun n => (HK.out _ (hwo n)).1.1
      have y35 : ∀ n : D, (wo n).cell? ⟨p3, 35, none⟩ = some (.int .i64 (r : Int)) := fun n => (HK.out _ (hwo n)).1.2.1
      have y36 : ∀ n : D, (wo n).cell? ⟨p3, 36, none⟩ = some (.int .i64 (u : Int)) := fun n => (HK.out _ (hwo n)).1.2.2.1
      have y37 : ∀ n : D, (wo n).cell? ⟨p3, 37, none⟩ = some (.int .i64 (k : Int)) := fun n => (HK.out _ (hwo n)).1.2.2.2
      have hcs : (decide ((f : Int) + (r : Int) ≤ 1) = true ∧ decide ((u : Int) ≤ 1) = true ∧ decide ((k : Int) ≤ 1) = true ∧ oz = true ∧ ox = true ∧ oy = true) ∨ (decide ((f : Int) + (r : Int) ≤ 1) = false ∧ oz = false) ∨
          (decide ((f : Int) + (r : Int) ≤ 1) = true ∧ decide ((u : Int) ≤ 1) = false ∧ oz = false) ∨ (decide ((f : Int) + (r : Int) ≤ 1) = true ∧ decide ((u : Int) ≤ 1) = true ∧ decide ((k : Int) ≤ 1) = false ∧ oz = false) := by
        have e1 : decide ((f : Int) + (r : Int) ≤ 1) = decide (f + r ≤ 1) := by rw [decide_eq_decide]; omega
        have e2 : decide ((u : Int) ≤ 1) = decide (u ≤ 1) := by rw [decide_eq_decide]; omega
        have e3 : decide ((k : Int) ≤ 1) = decide (k ≤ 1) := by rw [decide_eq_decide]; omega
        have e4 := HO.out
        have e5 := HOJ.out
        rw [e1, e2, e3]
        cases b1 : decide (f + r ≤ 1) <;> cases b2 : decide (u ≤ 1) <;> cases b3 : decide (k ≤ 1) <;> rw [b1, b2, b3] at e4 <;> simp at e4 <;> simp [e4] <;> exact e5 e4
      clear HO HOJ
      rcases hcs with ⟨d1, d2, d3, rfl, rfl, rfl⟩ | ⟨d1, rfl⟩ | ⟨d1, d2, rfl⟩ | ⟨d1, d2, d3, rfl⟩
      all_goals
        refine wp_region_quiet (C := fun w' => ∃ n : D, w' = wo n) (by kernel_rfl) (by kernel_rfl) (hex _ hB0) ?_
        repeat (first | ((with_reducible refine quiet_load_row rfl rfl _ rfl (fun n => (HK.out _ (hwo n)).2.1) huE rfl hiZ ?_); simp only [Act.put, List.setIfInBounds_toArray, List.set_cons_succ, List.set_cons_zero]) | ((with_reducible refine quiet_load_row rfl rfl _ rfl (fun n => (HK.out _ (hwo n)).2.2.1) huE rfl hiX ?_); simp only [Act.put, List.setIfInBounds_toArray, List.set_cons_succ, List.set_cons_zero]) | ((with_reducible refine quiet_load_row rfl rfl _ rfl (fun n => (HK.out _ (hwo n)).2.2.2) huE rfl hiY ?_); simp only [Act.put, List.setIfInBounds_toArray, List.set_cons_succ, List.set_cons_zero]) | go_big_quiet_step (first | with_reducible exact rfl | (first | ((with_reducible refine (HOZ.out _ (hwo _)).mono ?_); exact fun _ _ h => ⟨h.1, hex _ h.2⟩) | ((with_reducible refine (HOX.out _ (hwo _)).mono ?_); exact fun _ _ h => ⟨h.1, hex _ h.2⟩) | ((with_reducible refine (HOY.out _ (hwo _)).mono ?_); exact fun _ _ h => ⟨h.1, hex _ h.2⟩))))
        refine wpQuiet_nil ?_
        rintro _ ⟨n9, rfl⟩
        have hb9 := hwo n9
        go_wp2_with fail
        go_ret
        exact ⟨rfl, Q8.trans (hb9.mono Q8.size)⟩

theorem traceJoins_many (v v' : Value) (ids : List Value) (who : Int) (l m : List (List Value)) (w : World) (h : Recs evK w v l) (h' : Recs evK w v' m) (hl : 40 < l.length ∨ (l.length ≤ 40 ∧ 40 < m.length)) :
    Calls Try.prog 4 #[v, v', .agg ids.toArray, .int .u8 who] w (Yes w) := by
  obtain ⟨A, c, rfl, a1, a2, -, -⟩ := id h
  obtain ⟨A', c', rfl, b1, b2, -, -⟩ := id h'
  unfold maxLen at a2 b2
  clear h h'
  rcases hl with hl | ⟨hl, hm⟩
  · have hl' : (40 : Int) < (l.length : Int) := by omega
    generalize l.length = n at *
    generalize m.length = n' at *
    have Q0 : Below w.heap.size w (w.alloc (.cells ids.toArray 26)) := (Below.refl _ _).alloc (Nat.le_refl _) _
    go_enter Try.func4, Try.ntmps4
    go_wp2_with fail
    refine (tlives_calls _).mono ?_
    rintro e w1 ⟨rfl, hb1⟩
    go_wp2_with fail
    all_goals
      refine (tlives_calls _).mono ?_
      rintro e w2 ⟨rfl, hb2⟩
      go_wp2_with fail
      go_ret
      exact ⟨rfl, Q0.trans ((hb1.mono (by simp)).trans (hb2.mono (Nat.le_trans (by simp) hb1.size)))⟩
  · have hl' : (l.length : Int) ≤ 40 := by omega
    have hm' : (40 : Int) < (m.length : Int) := by omega
    generalize l.length = n at *
    generalize m.length = n' at *
    have Q0 : Below w.heap.size w (w.alloc (.cells ids.toArray 26)) := (Below.refl _ _).alloc (Nat.le_refl _) _
    go_enter Try.func4, Try.ntmps4
    go_wp2_with fail
    refine (tlives_calls _).mono ?_
    rintro e w1 ⟨rfl, hb1⟩
    go_wp2_with fail
    all_goals
      refine (tlives_calls _).mono ?_
      rintro e w2 ⟨rfl, hb2⟩
      go_wp2_with fail
      go_ret
      exact ⟨rfl, Q0.trans ((hb1.mono (by simp)).trans (hb2.mono (Nat.le_trans (by simp) hb1.size)))⟩

theorem traceJoins_calls (v v' hh : Value) (who : Int) (w : World) (h : ∃ l, Recs evK w v l ∧ NilOr v) (h' : ∃ l, Recs evK w v' l ∧ NilOr v') (hid : ∃ ids, hh = .agg (List.toArray ids) ∧ Typed hashK ids) (b1 : 0 ≤ who) (b2 : who < 256) :
    Calls Try.prog 4 #[v, v', hh, .int .u8 who] w (Yes w) := by
  obtain ⟨l, h, hv⟩ := h
  obtain ⟨m, h', hv'⟩ := h'
  obtain ⟨ids, rfl, hi⟩ := hid
  by_cases hl : 40 < l.length
  · exact traceJoins_many v v' ids who l m w h h' (.inl hl)
  by_cases hm : 40 < m.length
  · exact traceJoins_many v v' ids who l m w h h' (.inr ⟨by omega, hm⟩)
  · exact traceJoins_few v v' ids who l m w h h' hv hv' hi (by omega) (by omega)
end Go.Proofs.Ytchjjbklkmfelaa
