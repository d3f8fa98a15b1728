/- account.Touched walked. -/
import Derived.Test.YtchjjbklkmfelaaTouch1
import Derived.Test.YtchjjbklkmfelaaSort13
namespace Go.Proofs.Ytchjjbklkmfelaa
open Go.RowKit Go.Lib
set_option linter.unusedVariables false
set_option linter.unusedSimpArgs false

abbrev u8K : Kinds := [some .u8]
def u8C (t : Int) : List Value := [.int .u8 t]
abbrev OwnU (w : World) (base : Nat) (v : Value) (l : List Int) : Prop := OwnR 5 u8K w base v (l.map u8C)
theorem infoU8 : (Try.prog.info? 5).map (fun i => (i.zero, i.size, i.bytes)) = some (some (.int .u8 0), 1, 1) := by kernel_rfl
theorem u8C_typed {c : List Value} (hc : Typed evK c) : Typed u8K (u8C (intAt c 35)) := ⟨_, _, rfl, ⟨_, rfl, (hc.at 35 .u8 (by kernel_rfl)).2⟩, rfl⟩
theorem flat_u8 : ∀ (l : List Int) (j : Nat), j < l.length → (l.map u8C).flatten[j]? = some (.int .u8 (l.getD j 0))
  | [], j, h => by simp at h
  | x :: l, 0, h => rfl
  | x :: l, j + 1, h => by
    have := flat_u8 l j (by simpa using h)
    simpa [u8C] using this
theorem ownU_arr {w : World} {base : Nat} {v : Value} {l : List Int} (h : OwnU w base v l) (hne : l ≠ []) : ∃ g cap, v = .slice (some ⟨g, 0, none⟩) l.length cap ∧ base ≤ g ∧ g < w.heap.size ∧ l.length ≤ cap ∧ Arr w g l.toArray := by
  rcases h.1.2 with ⟨_, hn⟩ | ⟨g, cap, cur, rfl, hb, hg, hn, hm, hs, ht⟩
  · rw [List.length_map] at hn
    exact absurd (List.length_eq_zero_iff.1 hn) hne
  · rw [List.length_map] at hn
    refine ⟨g, cap, by rw [List.length_map], hb, (Array.getElem?_eq_some_iff.1 hg).1, hn, fun j hj => ⟨?_, ?_⟩⟩
    · have hj' : j < l.length := by simpa using hj
      have := World.ownsRow.cells h.1 (g := g) rfl j _ (flat_u8 l j hj')
      rw [Addr.add_lit, Nat.zero_add] at this
      rw [this]
      congr 2
      rw [getElem!_pos l.toArray j hj, List.getD_eq_getElem?_getD, List.getElem?_eq_getElem hj']
      rfl
    · simp [World.frozen?, hg]
theorem ownU_nil {w : World} {base : Nat} {v : Value} (h : OwnU w base v []) (hnb : v.ownBlock = none) : v = .slice none 0 0 := by
  rcases h.1.2 with ⟨h, _⟩ | ⟨g, cap, cur, rfl, _⟩
  · exact h
  · simp [Value.ownBlock] at hnb
def TokAt (w : World) (A : Option Addr) (tl : List Int) : Prop := tl = [] ∨ ∃ g, A = some ⟨g, 0, none⟩ ∧ g < w.heap.size ∧ ∀ j, j < tl.length → w.cell? ⟨g, j, none⟩ = some (.int .u8 (tl.getD j 0))

set_option maxHeartbeats 4000000 in
set_option maxRecDepth 100000 in
theorem touched_calls (v : Value) (who : Int) (l : List (List Value)) (w : World) (h : Recs evK w v l) (hl : l.length ≤ 40) :
    Calls Try.prog 30 #[v, .int .u8 who] w fun e w' => ∃ (A : Option Addr) (cap : Nat) (tl : List Int), e = .returned (.slice A tl.length cap) ∧ TokAt w' A tl ∧ Asc tl ∧ (∀ t, t ∈ tl ↔ t ∈ touchN l who l.length) ∧ tl.length ≤ 40 ∧ Below w.heap.size w w' := by
  obtain ⟨A, c, rfl, a1, a2, -, -⟩ := id h
  unfold maxLen at a2
  have HR := Lib.hid h
  clear h
  generalize hn : l.length = n at *
  clear hn
  go_enter Try.func30, Try.ntmps30
  go_wp2_with fail
  go_loopw [5, 12] (fun r i wr => ∃ k : Nat, i = .int .i64 k ∧ k ≤ n ∧ OwnU wr w.heap.size r (touchN l who k) ∧ Hid (touchN l who k = [] → r = .slice none 0 0) ∧ Below w.heap.size w wr) (fun _ i _ => n - (RowKit.intOf i).toNat)
  case atStart => exact ⟨0, rfl, by omega, OwnR.nil _ _ _ _, Lib.hid (fun _ => rfl), Below.refl _ _⟩
  case round =>
    obtain ⟨k, rfl, hk, ho, HNil, hb⟩ := hrel
    by_cases hlt : k < n
    · have hlt' : (k : Int) < (n : Int) := by omega
      obtain ⟨g, o, rfl, hg, hr, ht⟩ := (HR.out.below (by rw [evK_len]; decide) hb).at (by rw [evK_len]; decide) k hlt
      have hstep : touchN l who (k + 1) = touchN l who k ++ stepT who (l.getD k []) := rfl
      obtain ⟨x, hxe⟩ : ∃ x, l.getD k [] = x := ⟨_, rfl⟩
      rw [hxe] at hr ht hstep
      rw [evK_len] at hr
      have hll := touchN_len l who k
      have HTh := Lib.hid (ev_there wr ht)
      unfold objEv at HTh
      go_upto_region 5 with (first
        | refine wpList_load_mid rfl 31 _ rfl g (o + k * 47) rfl x _ hr Try.underlying31 rfl (ev_info ht) ?_
        | refine wpList_store_mid rfl 31 _ _ rfl wr.heap.size 0 x.toArray rfl rfl HTh.out (ev_info' ht) (ev_one ht) ?_)
      have hL := ev_laid wr ht
      have hbn := new_below wr objEv x
      have hbb := hb.trans (hbn.mono hb.size)
      have hs : wr.heap.size < ((wr.alloc objEv).setCells wr.heap.size 0 x).heap.size := range_lt hL (by rw [ht.length, evK_len]; decide)
      have ho2 := ho.later hbn
      obtain ⟨W2, hW2⟩ : ∃ W2, (wr.alloc objEv).setCells wr.heap.size 0 x = W2 := ⟨_, rfl⟩
      rw [hW2] at hL hbb hs ho2
      unfold objEv at hW2
      rw [hW2]
      clear hW2 HTh ho hr hb hbn
      have hw : IntKind.i64.wrap ((k : Int) + 1) = (k : Int) + 1 := IntWalk.i64_in _ (by omega)
      have hin := ev_info ht
      have HOf := Lib.hid (aof_calls x who W2 ht)
      have HTy := Lib.hid ht
      go_wp2_with (first
        | refine wpList_load_mid rfl 31 _ rfl wr.heap.size 0 rfl x _ hL Try.underlying31 rfl hin ?_)
      refine HOf.out.mono ?_
      rintro e w3 ⟨rfl, hb3⟩
      have hL3 := range_below hL hb3 hs
      have ho3 := ho2.later hb3
      have hbb3 := hbb.trans (hb3.mono hbb.size)
      clear hL ho2 hbb hs HOf hb3 ht hin
      have c35 := ev_cell hL3 HTy.out 35 .u8 (by kernel_rfl)
      have htyp := u8C_typed HTy.out
      have hst : stepT who x = if givesV x who || takesV x who then [intAt x 35] else [] := rfl
      have HST := Lib.hid hst
      have HSP := Lib.hid hstep
      clear hst hstep
      obtain ⟨T, hT⟩ : ∃ T, intAt x 35 = T := ⟨_, rfl⟩
      rw [hT] at c35 HST htyp
      have HTT := Lib.hid hT
      clear hT hL3
      obtain ⟨G, hG⟩ : ∃ G, givesV x who = G := ⟨_, rfl⟩
      obtain ⟨K, hK⟩ : ∃ K, takesV x who = K := ⟨_, rfl⟩
      rw [hG, hK] at HST ⊢
      clear hG hK
      cases G <;> cases K
      · go_wp2_with fail
        go_roundw
        case rel => exact ⟨k + 1, rfl, by omega, by rw [HSP.out, HST.out]; simpa using ho3, Lib.hid (by rw [HSP.out, HST.out]; simpa using HNil.out), hbb3⟩
        case measure => simp [RowKit.intOf]; omega
      all_goals
        go_wp2_with (at_builtin; refine wpList_app_rec rfl _ _ 74 5 u8K _ 1 rfl Try.underlying74 infoU8 rfl (by decide) (by decide) w.heap.size u5 ((touchN l who k).map u8C) rfl ho3 (u8C T) htyp rfl ?c1 ?c2 ?_)
        case c1 => rw [List.length_map]; omega
        case c2 => exact hbb3.size
        intro v' w4 ho4 _ hb4 _ _
        have hbb4 := hbb3.trans hb4
        clear ho3
        go_wp2_with fail
        have hsn : touchN l who (k + 1) = touchN l who k ++ [T] := by rw [HSP.out, HST.out]; rfl
        go_roundw
        case rel => exact ⟨k + 1, rfl, by omega, by unfold OwnU; rw [hsn, List.map_append]; exact ho4, Lib.hid (fun e => by rw [hsn] at e; simp at e), hbb4⟩
        case measure => simp [RowKit.intOf]; omega
    · have hkn : k = n := by omega
      subst hkn
      have hll := touchN_len l who k
      obtain ⟨m, hm, hml, hasc, hmem, hlen⟩ := sorted_compact (touchN l who k)
      by_cases he : touchN l who k = []
      · have hnil := HNil.out he
        subst hnil
        have HS := Lib.hid (sort_nil)
        have HC := Lib.hid (compact_nil)
        have HE := Lib.hid he
        clear HNil ho hm hml hasc hmem hlen he
        go_wp2_with fail
        refine (HS.out _).mono ?_
        rintro e w1 ⟨rfl, rfl⟩
        go_wp2_with fail
        refine (HC.out _).mono ?_
        rintro e w1 ⟨rfl, rfl⟩
        go_wp2_with fail
        go_ret
        exact ⟨none, 0, [], rfl, .inl rfl, fun i j _ hj => by simp at hj, fun t => by rw [HE.out], by simp, hb⟩
      · obtain ⟨g, cap, rfl, hgb, hgs, hcap, hA⟩ := ownU_arr ho he
        have hsz : (touchN l who k).toArray.size = (touchN l who k).length := by simp
        have hs := sort_calls g cap (touchN l who k).toArray wr hA hgs (by rw [hsz]; omega)
        rw [hsz] at hs
        obtain ⟨q, hq⟩ : ∃ q, (touchN l who k).length = q := ⟨_, rfl⟩
        rw [hq] at hs hll hcap hml ⊢
        obtain ⟨ds, hds⟩ : ∃ ds, Go.Sort.sort Go.Sort.ltInt (touchN l who k).toArray = ds := ⟨_, rfl⟩
        rw [hds] at hs hm hasc hmem hlen
        have HS := Lib.hid hs
        have HCm := Lib.hid (fun W hW => compact_calls g cap ds W hW (by omega) (by omega))
        have hdq : ds.size = q := hm.trans hml
        rw [hdq] at HCm
        rw [hml] at hasc hmem hlen
        have HF := Lib.hid (And.intro hasc (And.intro hmem hlen))
        clear hs hdq hm hml hasc hmem hlen hds hsz ho HNil he hA hq
        go_wp2_with fail
        refine HS.out.mono ?_
        rintro e w1 ⟨rfl, h1, h2⟩
        have HC := Lib.hid (HCm.out w1 h1)
        have hsz2 := h2.size
        have hb2 : Below w.heap.size w w1 := hb.grown h2 hb.size (fun k hk => by injection hk with hk; omega)
        clear HS HCm h1 h2
        go_wp2_with fail
        refine HC.out.mono ?_
        rintro e w2 ⟨ln, dk, rfl, hln, h1, h2, h3, h4⟩
        have hsz3 := h4.size
        have hb3 : Below w.heap.size w w2 := hb2.grown h4 hb2.size (fun k hk => by injection hk with hk; omega)
        have H3 := Lib.hid (And.intro h1 (And.intro h2 h3))
        have HLn := Lib.hid hln
        clear HC h1 h2 h3 h4 hln
        go_wp2_with fail
        go_ret
        refine ⟨some ⟨g, 0, none⟩, cap, compactUpTo ds q, by rw [← HLn.out]; rfl, .inr ⟨g, rfl, by omega, fun j hj => ?_⟩, HF.out.1, HF.out.2.1, by have := HF.out.2.2; omega, hb3⟩
        rw [← HLn.out] at hj
        have hjs : j < dk.size := by rw [H3.out.2.1]; have := HF.out.2.2; rw [← HLn.out] at this; omega
        rw [(H3.out.1 j hjs).1, List.getD_eq_getElem?_getD, H3.out.2.2 j hj]
        rfl
end Go.Proofs.Ytchjjbklkmfelaa
