/- AuditMargins: the law. -/
import Derived.Test.YtchjjbklkmfelaaMarg4
import Derived.Test.YtchjjbklkmfelaaAud9
namespace Go.Proofs.Ytchjjbklkmfelaa
open Go.RowKit Go.Lib Go.Deep
set_option linter.unusedVariables false
set_option linter.unusedSimpArgs false

set_option maxHeartbeats 4000000 in
set_option maxRecDepth 100000 in
theorem auditMargins_calls (cs : List Value) (w : World) (hcs : Typed stK cs) :
    Calls Try.prog 8 #[.agg cs.toArray] w (Yes w) := by
  have hlen : cs.length = 16 := by rw [hcs.length]; rfl
  have A0 := At.new w cs.toArray 43
  have hq : Below w.heap.size w (w.alloc (.cells cs.toArray 43)) := (Below.refl _ _).alloc (Nat.le_refl _) _
  have hs0 : (w.alloc (.cells cs.toArray 43)).heap.size = w.heap.size + 1 := by simp
  have HIs : Hid ((Try.prog.info? 43).map (·.size) = some cs.length) := Lib.hid (by rw [hlen]; kernel_rfl)
  have h1 := fun w => margin_calls cs w hcs
  have h2 := fun w => rmargin_calls cs w hcs
  obtain ⟨n, hn⟩ : ∃ n, margN (numAt cs 0 + numAt cs 4) (numAt cs 12) = n := ⟨_, rfl⟩
  obtain ⟨o, ho⟩ : ∃ o, margB (numAt cs 0 + numAt cs 4) (numAt cs 12) = o := ⟨_, rfl⟩
  simp only [hn, ho] at h1 h2
  clear hcs hn ho
  go_enter Try.func8, Try.ntmps8
  obtain ⟨W, hW⟩ : ∃ W, W = w.alloc (.cells cs.toArray 43) := ⟨_, rfl⟩
  rw [← hW] at A0 hq hs0
  have HC := Lib.hid (show At W w.heap.size 0 cs from A0)
  have LC : Hid (w.heap.size < W.heap.size) := Lib.hid (by omega)
  have HBel := Lib.hid hq
  have HBs := Lib.hid hq.size
  clear A0 hq hs0 hlen
  go_upto_region 1 with fail
  rw [← hW]
  clear hW
  obtain ⟨cn, hc⟩ : ∃ c, cells4L (n) = c := ⟨_, rfl⟩
  have BNn : Hid (bigN (n) = .agg cn.toArray) := Lib.hid (by rw [← hc]; rfl)
  have IIn : Hid ((Try.prog.info? 28).map (·.size) = some cn.length) := Lib.hid (by rw [← hc]; exact int_info)
  have IAn : Hid ((Try.prog.info? 28).map (·.size) = some cn.toArray.size) := Lib.hid (by rw [← hc]; exact int_info)
  have OOn : Hid (cn.toArray.all (·.oneCell') = true) := Lib.hid (by rw [← hc]; exact all4 _)
  have LNn : Hid (cn.length = 4) := Lib.hid (by rw [← hc]; rfl)
  have HCn := Lib.hid hc
  clear hc
  simp only [BNn.out] at h1 h2
  have HM := Lib.hid h1
  have HN := Lib.hid h2
  clear h1 h2
  go_wp2_with fail
  refine (alives_calls _).mono ?_
  rintro e wq1 ⟨rfl, hb1⟩
  replace HC := Lib.hid (HC.out.below hb1 LC.out)
  replace LC := Lib.hid (Nat.lt_of_lt_of_le LC.out hb1.size)
  replace HBel := Lib.hid (HBel.out.trans (hb1.mono HBs.out))
  replace HBs := Lib.hid (Nat.le_trans HBs.out hb1.size)
  clear hb1
  go_upto_region 3 with fail
  go_wp2_with (first | refine wpList_load_mid rfl 43 _ rfl w.heap.size 0 rfl cs _ HC.out.1 Try.underlying43 rfl HIs.out ?_)
  refine (HM.out _).mono ?_
  rintro e wq2 ⟨rfl, hb2⟩
  replace HC := Lib.hid (HC.out.below hb2 LC.out)
  replace LC := Lib.hid (Nat.lt_of_lt_of_le LC.out hb2.size)
  replace HBel := Lib.hid (HBel.out.trans (hb2.mono HBs.out))
  replace HBs := Lib.hid (Nat.le_trans HBs.out hb2.size)
  clear hb2
  have HT : Hid ((wq2.alloc (obj4 0 0 0 0)).there wq2.heap.size 0 cn.toArray.size) := Lib.hid (there_newC wq2 LNn.out)
  go_upto_region 4 with (first | refine wpList_store_mid rfl 28 _ _ rfl wq2.heap.size 0 cn.toArray rfl rfl HT.out IAn.out OOn.out ?_)
  have EC_X := Lib.hid (Nat.ne_of_lt LC.out)
  have GX := Lib.hid HBs.out
  obtain ⟨N1, N2, N3⟩ := newC_facts wq2 LNn.out
  obtain ⟨wq3, hW⟩ : ∃ W2, W2 = newC wq2 cn := ⟨_, rfl⟩
  rw [← hW] at N1 N2 N3
  replace HC := Lib.hid (HC.out.below N2 LC.out)
  replace LC := Lib.hid (Nat.lt_of_lt_of_le LC.out N2.size)
  replace HBel := Lib.hid (HBel.out.trans (N2.mono HBs.out))
  replace HBs := Lib.hid (Nat.le_trans HBs.out N2.size)
  have LX : Hid (wq2.heap.size < wq3.heap.size) := Lib.hid (by rw [N3]; omega)
  have HX := Lib.hid N1
  unfold newC at hW
  rw [← hW]
  clear hW N1 N2 N3 HT
  go_wp2_with (first | refine wpList_load_mid rfl 43 _ rfl w.heap.size 0 rfl cs _ HC.out.1 Try.underlying43 rfl HIs.out ?_)
  refine (HN.out _).mono ?_
  rintro e wq4 ⟨rfl, hb4⟩
  replace HC := Lib.hid (HC.out.below hb4 LC.out)
  replace LC := Lib.hid (Nat.lt_of_lt_of_le LC.out hb4.size)
  replace HX := Lib.hid (HX.out.below hb4 LX.out)
  replace LX := Lib.hid (Nat.lt_of_lt_of_le LX.out hb4.size)
  replace HBel := Lib.hid (HBel.out.trans (hb4.mono HBs.out))
  replace HBs := Lib.hid (Nat.le_trans HBs.out hb4.size)
  clear hb4
  have HT : Hid ((wq4.alloc (obj4 0 0 0 0)).there wq4.heap.size 0 cn.toArray.size) := Lib.hid (there_newC wq4 LNn.out)
  go_upto_region 5 with (first | refine wpList_store_mid rfl 28 _ _ rfl wq4.heap.size 0 cn.toArray rfl rfl HT.out IAn.out OOn.out ?_)
  have EC_Y := Lib.hid (Nat.ne_of_lt LC.out)
  have EX_Y := Lib.hid (Nat.ne_of_lt LX.out)
  have GY := Lib.hid HBs.out
  obtain ⟨N1, N2, N3⟩ := newC_facts wq4 LNn.out
  obtain ⟨wq5, hW⟩ : ∃ W2, W2 = newC wq4 cn := ⟨_, rfl⟩
  rw [← hW] at N1 N2 N3
  replace HC := Lib.hid (HC.out.below N2 LC.out)
  replace LC := Lib.hid (Nat.lt_of_lt_of_le LC.out N2.size)
  replace HX := Lib.hid (HX.out.below N2 LX.out)
  replace LX := Lib.hid (Nat.lt_of_lt_of_le LX.out N2.size)
  replace HBel := Lib.hid (HBel.out.trans (N2.mono HBs.out))
  replace HBs := Lib.hid (Nat.le_trans HBs.out N2.size)
  have LY : Hid (wq4.heap.size < wq5.heap.size) := Lib.hid (by rw [N3]; omega)
  have HY := Lib.hid N1
  unfold newC at hW
  rw [← hW]
  clear hW N1 N2 N3 HT
  obtain ⟨x0, x1, x2, x3⟩ := at_num HX.out HCn.out
  obtain ⟨y0, y1, y2, y3⟩ := at_num HY.out HCn.out
  simp only [Nat.zero_add] at x1 x2 x3 y1 y2 y3
  have HBf := HBel
  go_wp2_with fail
  go_ret
  exact ⟨rfl, HBf.out⟩
end Go.Proofs.Ytchjjbklkmfelaa
