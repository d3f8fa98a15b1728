/- Whatever is heard, each answer, the heads that stand, and what was settled, are the document's (P34.1, P34.2; of at most 40 events): the call answers true, and each argument reads as it read; the tables of the digest start as the program's text lays them. -/
import Derived.Test.YthdbhajpjkkehaaDoorLt16
import Derived.Test.YthdbhajpjkkehaaDoorPost
import Derived.Test.YthdbhajpjkkehaaDoorTie
import Derived.Test.YthdbhajpjkkehaaDoorCards
import Derived.ProofKit
import Derived.OpenShut
import Derived.LaidMore
import Derived.Lay
import Derived.SevenTiedAt
import Derived.Stop.Joined
import Derived.Lib.LaidTab
import Derived.Lib.LaidU8
namespace Go.Proofs.YthdbhajpjkkehaaDoor.lightHears
open Go.ChangeShapes Go.WideShapes Go.ChangeAt Go.RowKit Go.Lib Sha
set_option linter.unusedVariables false
set_option linter.unusedSimpArgs false

set_option maxRecDepth 100000
abbrev laid : List (String × DataW Unit) := [("sponsion/sponsionref05.rounds", Rows.laid_sponsion_sponsionref05_rounds), ("sponsion/digest.begin", Rows.laid_sponsion_digest_begin), ("sponsion/digest.rounds", Rows.laid_sponsion_digest_rounds)]
def zsK : List Int := (List.range 64).map fun i => ((kAt i).toNat : Int)
def zsB : List Int := (List.range 8).map fun i => ((St.begin.list.getD i 0).toNat : Int)
theorem rounds_data : (Rows.laid_sponsion_digest_rounds : DataW Unit) = tabData .u32 zsK := by kernel_rfl
theorem ref_data : (Rows.laid_sponsion_sponsionref05_rounds : DataW Unit) = tabData .u32 zsK := by kernel_rfl
theorem begin_data : (Rows.laid_sponsion_digest_begin : DataW Unit) = tabData .u32 zsB := by kernel_rfl
theorem reads_tab {P : Program} {W : World} {name : String} {d : DataW Unit} {k : IntKind} {zs : List Int} {g : Nat} {t e : TypeId} {n : Nat} (hg : P.globalNamed name = some g) (hty : (P.globals[g]?).map (·.type) = some t) (ht : P.underlying t = some (.array n e)) (he : P.underlying e = some (.int k)) (hce : P.cellsOf e = 1) (hct : P.cellsOf t = n)
    (h : VarReads P W name d) (hd : d = tabData k zs) : TabIs P W name k zs := by
  subst hd
  obtain ⟨g', t', cs, fuel, p, hg', ht', hvar, hd⟩ := h
  obtain rfl := Option.some.inj (hg.symm.trans hg')
  obtain rfl := Option.some.inj (hty.symm.trans ht')
  unfold TabIs
  rw [hvar, ← cells_of_tab ht he hce hct hd]
theorem zsK_at (i : Nat) (hi : i < 64) : zsK.getD i 0 = ((kAt i).toNat : Int) := by
  unfold zsK
  rw [List.getD_eq_getElem?_getD, List.getElem?_map, List.getElem?_range hi]
  rfl
theorem zsB_at (i : Nat) (hi : i < 8) : zsB.getD i 0 = ((St.begin.list.getD i 0).toNat : Int) := by
  unfold zsB
  rw [List.getD_eq_getElem?_getD, List.getElem?_map, List.getElem?_range hi]
  rfl
theorem facts {W : World} (h : laidMetH Tryd.prog laid W) : KAt W ∧ BAt W ∧ RKAt W := by
  rw [MakeChecks.laidMetH_plain _ _ _ (by kernel_rfl)] at h
  have r1 := reads_tab (P := Tryd.prog) (k := .u32) (zs := zsK) (g := 2) (t := 114) (e := 23) (n := 64) (by kernel_rfl) (by kernel_rfl) Tryd.underlying114 Tryd.underlying23 (by kernel_rfl) (by kernel_rfl) (laidMet.reads h (n := "sponsion/digest.rounds") (d := Rows.laid_sponsion_digest_rounds) (by simp [laid])) rounds_data
  have r2 := reads_tab (P := Tryd.prog) (k := .u32) (zs := zsB) (g := 0) (t := 108) (e := 23) (n := 8) (by kernel_rfl) (by kernel_rfl) Tryd.underlying108 Tryd.underlying23 (by kernel_rfl) (by kernel_rfl) (laidMet.reads h (n := "sponsion/digest.begin") (d := Rows.laid_sponsion_digest_begin) (by simp [laid])) begin_data
  have r3 := reads_tab (P := Tryd.prog) (k := .u32) (zs := zsK) (g := 1) (t := 114) (e := 23) (n := 64) (by kernel_rfl) (by kernel_rfl) Tryd.underlying114 Tryd.underlying23 (by kernel_rfl) (by kernel_rfl) (laidMet.reads h (n := "sponsion/sponsionref05.rounds") (d := Rows.laid_sponsion_sponsionref05_rounds) (by simp [laid])) ref_data
  refine ⟨fun i hi => ?_, fun i hi => ?_, fun i hi => ?_⟩
  · have := r1.cell (g := 2) (by kernel_rfl) i (by simpa [zsK] using hi)
    rw [zsK_at i hi] at this
    exact this
  · have := r2.cell (g := 0) (by kernel_rfl) i (by simpa [zsB] using hi)
    rw [zsB_at i hi] at this
    exact this
  · have := r3.cell (g := 1) (by kernel_rfl) i (by simpa [zsK] using hi)
    rw [zsK_at i hi] at this
    exact this
abbrev inK : Kinds := [some .u32, some .u8, some .u8, some .u64, some .u64, some .u64, some .u64]
theorem inK_flat : flatK Tryd.prog 6 28 = some inK := by kernel_rfl
section
variable {H : Type} {enc : TypeId × Value → H}
theorem open_Intent {W : World} {base : Nat} {v : Value} {d : DataW H} {p : List MemPlace} (hval : Value.okWide Tryd.prog W .any base 28 v) (h : DataW.Trod enc Tryd.prog W 0 (fun _ => true) true 28 v d p) :
    ∃ idx tok own n, idx < 4294967296 ∧ tok < 256 ∧ own < 256 ∧ v = inV idx tok own n := by
  obtain ⟨cs, rfl, hsz, _⟩ : ∃ cs, v = .agg cs ∧ cs.size = Tryd.prog.cellsOf 28 ∧ Row.okWide Tryd.prog W .any base 28 cs := by
    simpa [Value.okWide, Tryd.underlying28] using hval
  have hT : Typed inK cs.toList := open_flat (base := base) inK_flat h
  obtain ⟨l⟩ := cs
  obtain ⟨_, _, rfl, ⟨x0, rfl, w0⟩, _, _, rfl, ⟨x1, rfl, w1⟩, _, _, rfl, ⟨x2, rfl, w2⟩, _, _, rfl, ⟨x3, rfl, w3⟩, _, _, rfl, ⟨x4, rfl, w4⟩, _, _, rfl, ⟨x5, rfl, w5⟩, _, _, rfl, ⟨x6, rfl, w6⟩, rfl⟩ := hT
  have b3 := bounds_u64 w3
  have b4 := bounds_u64 w4
  have b5 := bounds_u64 w5
  have b6 := bounds_u64 w6
  have b0 : 0 ≤ x0 ∧ x0 < 4294967296 := by simp [Lit.wf, IntKind.min, IntKind.max, IntKind.signed, IntKind.bits] at w0; omega
  have b1 : 0 ≤ x1 ∧ x1 < 256 := by simp [Lit.wf, IntKind.min, IntKind.max, IntKind.signed, IntKind.bits] at w1; omega
  have b2 : 0 ≤ x2 ∧ x2 < 256 := by simp [Lit.wf, IntKind.min, IntKind.max, IntKind.signed, IntKind.bits] at w2; omega
  obtain ⟨h0, h1, h2, h3⟩ := limb_num b3.1 (by omega) b4.1 (by omega) b5.1 (by omega) b6.1 (by omega)
  refine ⟨x0.toNat, x1.toNat, x2.toNat, num x3 x4 x5 x6, by omega, by omega, by omega, ?_⟩
  unfold inV
  rw [h0, h1, h2, h3, Int.toNat_of_nonneg b0.1, Int.toNat_of_nonneg b1.1, Int.toNat_of_nonneg b2.1]
end
theorem lifted (os : Os) (started : os.Started) (H : Type) (enc : TypeId × Value → H) :
    ReturnsInHanded {} Tryd.checked os 3 .any (fun w args => (Rows.lightHearsSpec.pre enc Tryd.prog Tryd.f3 Rows.lightHearsRow.domain false w args ∧ laidMetH Tryd.prog laid w) ∧ sizedMet enc Tryd.prog Tryd.f3 (OpenSpec.ofChange Rows.lightHearsSpec) false w args)
      (Rows.lightHearsSpec.post enc Tryd.prog Tryd.f3 false true false false) := by
  refine returnsInHanded_of_change_and (C := Tryd.checked) (X := fun w _ => laidMetH Tryd.prog laid w) (fun _ _ _ hh h => h.of_heap hh) own started (by kernel_rfl) Tryd.func3
    (ChangeSpec.witness_shaped (enc := enc) (C := Tryd.checked) (os := os) (X := fun w _ => laidMetH Tryd.prog laid w) false (World.laidAll Tryd.prog os laid) #[.slice none 0 0, .agg #[.int .u32 0, .int .u8 0, .int .u8 0, .int .u64 0, .int .u64 0, .int .u64 0, .int .u64 0]] 8 (World.laidAll_os _ _ _)
      (World.shaped_of_ZipB (by kernel_rfl) (by kernel_rfl)) (by kernel_rfl) (by kernel_rfl) (by kernel_rfl)
      (by rw [MakeChecks.laidMetH_plain _ _ _ (by kernel_rfl)]; exact laidMet_laidAll _ (by kernel_rfl) (by kernel_rfl))) ?_
  intro W base args ds gs before hval0 hW hc _ hL _
  have hval : ∀ (j : Nat) t v, Tryd.f3.params[j]? = some t → args[j]? = some v → Value.okWide Tryd.prog W .any base t v := hval0
  have hW' := hW
  obtain ⟨p, q, hA0, hV, rfl, hfz, hnd⟩ := hW
  have hA : DataW.TrodAll enc Tryd.prog W 0 (fun _ => true) true Tryd.f3.params.toList args.toList ds p := hA0
  rw [Tryd.params3] at hA hval
  obtain ⟨v0, vs0, d0, ds0, p0, q0, hargs, rfl, rfl, h0, r0⟩ := trodAll_cons hA
  obtain ⟨v1, vs1, d1, ds1, p1, q1, rfl, rfl, rfl, h1, r1⟩ := trodAll_cons r0
  obtain ⟨rfl, rfl, rfl⟩ := trodAll_nil r1
  obtain rfl : args = #[v0, v1] := by cases args; simp_all
  obtain ⟨rfl, rfl⟩ := trodVars_none hV
  obtain ⟨L, O0⟩ := open_recs Tryd.underlying22 heK_flat heK_cells heK_pos (hval 0 22 v0 rfl rfl) h0
  obtain ⟨idx, tok, own, n, hi, ht, ho, rfl⟩ := open_Intent (hval 1 28 v1 rfl rfl) h1
  obtain ⟨hK, hB, hRK⟩ := facts hL
  clear hA0 hval0
  refine (lightHears_calls v0 L idx tok own n W O0 hi ht ho hK hB hRK).mono fun e W' ⟨he, hg⟩ => ?_
  subst he
  exact ⟨_, rfl, law_post Tryd.laidOut (by kernel_rfl) rfl 4 rfl Tryd.underlying4 hW' rfl hg⟩

theorem said : Rows.LightHearsSaid :=
  OpenClaim.holds_of_wide 3 Tryd.f3 rfl rfl rfl rfl rfl rfl rfl ⟨rfl, rfl, rfl, rfl, rfl⟩ rfl rfl rfl rfl rfl (by kernel_rfl) Tryd.func3 (by kernel_rfl)
    (of_decide_eq_true (by kernel_rfl)) (by unfold Func.isWrapper; first | (rw [if_pos (by decide +kernel)]; kernel_rfl) | (rw [if_neg (by decide +kernel)]; exact ⟨rfl, rfl⟩))
    (fun os started H enc _ => lifted os started H enc)
theorem proved : Rows.LightHearsCardSaid :=
  Claim7.holds_tied_plain_at .later [] [.data, .data, .data] true (true, "053bb19a5b866dc261235f3f9f00358095323ad15c2003515801ee02f4e9607f") false said (fun _ h => by cases h) (by kernel_rfl) (fun _ h => by cases h) lightHears_row_tie rfl ⟨rfl, rfl⟩ (by kernel_rfl) rfl
    (fun f fn hf hfn => by
      obtain rfl : f = 3 := Option.some.inj ((show Tryd.prog.funcNamed "sponsion/sponsionlaw34.LightHears" = some 3 by kernel_rfl).symm.trans hf) |>.symm
      obtain rfl : fn = Tryd.f3 := (Option.some.inj (Tryd.func3.symm.trans hfn)).symm
      exact ⟨by kernel_rfl, fun j t ht => by
        rw [Tryd.params3] at ht
        have hm : t ∈ [22, 28] := by simpa using Array.mem_of_getElem? ht
        have hall : ([22, 28].all fun u => !Tryd.prog.wantsStandIn u) = true := by kernel_rfl
        exact (show Tryd.prog.wantsStandIn t = false by simpa using List.all_eq_true.1 hall t hm)⟩)
    (by kernel_rfl)
#print axioms proved
end Go.Proofs.YthdbhajpjkkehaaDoor.lightHears
