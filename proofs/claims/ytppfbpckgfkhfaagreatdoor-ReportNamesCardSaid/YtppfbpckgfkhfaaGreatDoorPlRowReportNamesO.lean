
/-
Whatever ReportNames is handed, the call returns true and leaves its arguments as they were: proved for every input, with no condition beside the row's own.
-/
import Derived.Test.YtppfbpckgfkhfaaGreatDoorPxReportNames10
import Derived.Test.YtppfbpckgfkhfaaGreatDoorRows
import Derived.Test.YtppfbpckgfkhfaaGreatDoorCards
import Derived.Test.YtppfbpckgfkhfaaGreatDoorTie
import Derived.SevenTiedAt
import Derived.Lay
import Derived.LaidOnce
import Derived.WalkKit
import Derived.ProofKit
import Derived.OpenShut
import Derived.ShutString
import Derived.ChangeOld
import Derived.Below
import Derived.SizedLaws
import Derived.Carry
set_option linter.unusedVariables false
namespace Go.Proofs.YtppfbpckgfkhfaaGreatDoor.reportNames
open Go.ChangeShapes Go.WideShapes Go.ChangeAt Go.RowKit
open Go.ChangeMaps (open_string shut_string)
open Go.Pv Go.Proofs.YtppfbpckgfkhfaaGreatDoor.PvGO

theorem own : ownKnob Tryz.prog.godebug = none := by kernel_rfl
theorem laidOut : laidOutB Tryz.prog = true := by kernel_rfl
theorem opn3 : Opn Tryz.prog 3 (encInt .i64) (I64) := opn_int _ wf_i64 (by kernel_rfl)
theorem tabs {W : World} (hL : laidMet Tryz.prog Rows.reportNamesRow.laid W) : TabsAt Tryz.prog W := by
  refine ⟨fun g cs e => ?_, fun g e => ?_⟩
  have hk := keys_ok (P := Tryz.prog) [0, 1, 3] (by kernel_rfl) g cs e
  simp only [List.mem_cons, List.not_mem_nil, or_false] at hk
  rcases hk with rfl | rfl | rfl
  · obtain rfl := Option.some.inj ((show globTab Tryz.prog 0 = some (([[111, 107], [97, 114, 103], [110, 105, 108], [110, 111, 110, 101], [114, 97, 110, 103, 101], [111, 118, 101, 114], [102, 111, 114, 109], [115, 104, 111, 114, 116], [115, 117, 109], [108, 105, 109, 105, 116], [102, 117, 108, 108], [100, 111, 119, 110], [116, 104, 101, 114, 101]] : List (List UInt8)).map (fun s => Value.string ⟨s.toArray⟩)) by kernel_rfl).symm.trans e)
    exact tab_strs (g := 0) (t := 45) (e := 9) (n := 13) hL (name := "pluvial/report.low") (ss := ([[111, 107], [97, 114, 103], [110, 105, 108], [110, 111, 110, 101], [114, 97, 110, 103, 101], [111, 118, 101, 114], [102, 111, 114, 109], [115, 104, 111, 114, 116], [115, 117, 109], [108, 105, 109, 105, 116], [102, 117, 108, 108], [100, 111, 119, 110], [116, 104, 101, 114, 101]] : List (List UInt8))) (by simp [Rows.reportNamesRow, Rows.laid_pluvial_report_low]) (by kernel_rfl) (by kernel_rfl) (by kernel_rfl) (by kernel_rfl) (by kernel_rfl) (by kernel_rfl)
  · obtain rfl := Option.some.inj ((show globTab Tryz.prog 1 = some (([[115, 99, 104, 101, 109, 97], [99, 111, 117, 110, 116], [111, 114, 100, 101, 114], [111, 108, 100], [115, 101, 114, 105, 101, 115], [107, 105, 110, 100], [108, 97, 98, 101, 108], [114, 101, 103, 101, 120], [114, 101, 97, 100], [98, 114, 111, 107, 101, 110], [110, 111, 100, 97, 116, 97], [122, 101, 114, 111], [98, 117, 99, 107, 101, 116]] : List (List UInt8)).map (fun s => Value.string ⟨s.toArray⟩)) by kernel_rfl).symm.trans e)
    exact tab_strs (g := 1) (t := 45) (e := 9) (n := 13) hL (name := "pluvial/report.high") (ss := ([[115, 99, 104, 101, 109, 97], [99, 111, 117, 110, 116], [111, 114, 100, 101, 114], [111, 108, 100], [115, 101, 114, 105, 101, 115], [107, 105, 110, 100], [108, 97, 98, 101, 108], [114, 101, 103, 101, 120], [114, 101, 97, 100], [98, 114, 111, 107, 101, 110], [110, 111, 100, 97, 116, 97], [122, 101, 114, 111], [98, 117, 99, 107, 101, 116]] : List (List UInt8))) (by simp [Rows.reportNamesRow, Rows.laid_pluvial_report_high]) (by kernel_rfl) (by kernel_rfl) (by kernel_rfl) (by kernel_rfl) (by kernel_rfl) (by kernel_rfl)
  · obtain rfl := Option.some.inj ((show globTab Tryz.prog 3 = some (([1, 10, 100, 1000, 10000, 100000, 1000000, 10000000, 100000000, 1000000000, 10000000000, 100000000000, 1000000000000, 10000000000000, 100000000000000, 1000000000000000, 10000000000000000, 100000000000000000, 1000000000000000000, 10000000000000000000] : List Int).map (Value.int .u64)) by kernel_rfl).symm.trans e)
    exact tab_ints (g := 3) (t := 295) (e := 27) (n := 20) hL (name := "internal/strconv.uint64pow10") (k := .u64) (zs := ([1, 10, 100, 1000, 10000, 100000, 1000000, 10000000, 100000000, 1000000000, 10000000000, 100000000000, 1000000000000, 10000000000000, 100000000000000, 1000000000000000, 10000000000000000, 100000000000000000, 1000000000000000000, 10000000000000000000] : List Int)) (by simp [Rows.reportNamesRow, Rows.laid_internal_strconv_uint64pow10]) (by kernel_rfl) (by kernel_rfl) (by kernel_rfl) (by kernel_rfl) (by kernel_rfl) (by kernel_rfl)
  have hk := ifs_ok (P := Tryz.prog) [5, 6] (by kernel_rfl) g e
  simp only [List.mem_cons, List.not_mem_nil, or_false] at hk
  rcases hk with rfl | rfl
  · exact tab_if hL (name := "strconv.ErrSyntax") (nm := "*errors.errorString") (d := .ptr (.agg [.lit (.string [105, 110, 118, 97, 108, 105, 100, 32, 115, 121, 110, 116, 97, 120])])) (by simp [Rows.reportNamesRow, Rows.laid_strconv_ErrSyntax]) (by kernel_rfl) (by kernel_rfl) Tryz.underlying112
  · exact tab_if hL (name := "strconv.ErrRange") (nm := "*errors.errorString") (d := .ptr (.agg [.lit (.string [118, 97, 108, 117, 101, 32, 111, 117, 116, 32, 111, 102, 32, 114, 97, 110, 103, 101])])) (by simp [Rows.reportNamesRow, Rows.laid_strconv_ErrRange]) (by kernel_rfl) (by kernel_rfl) Tryz.underlying112
set_option maxRecDepth 100000 in
theorem lifted (os : Os) (started : os.Started) (H : Type) (enc : TypeId × Value → H) :
    ReturnsInHanded {} Tryz.checked os 3 .any (fun w args => (Rows.reportNamesSpec.pre enc Tryz.prog Tryz.f3 Rows.reportNamesRow.domain false w args ∧ laidMetH Tryz.prog Rows.reportNamesRow.laid w) ∧ sizedMet enc Tryz.prog Tryz.f3 (OpenSpec.ofChange Rows.reportNamesSpec) false w args) (Rows.reportNamesSpec.post enc Tryz.prog Tryz.f3 false true false false) := by
  refine returnsInHanded_of_change_and (C := Tryz.checked) (X := fun w _ => laidMetH Tryz.prog Rows.reportNamesRow.laid w) (fun _ _ _ hh h => h.of_heap hh) own started (by kernel_rfl) Tryz.func3
    (ChangeSpec.witness_shaped (enc := enc) (C := Tryz.checked) (os := os) (X := fun w _ => laidMetH Tryz.prog Rows.reportNamesRow.laid w) false (World.laidAll Tryz.prog os Rows.reportNamesRow.laid) #[.int .i64 0, .int .i64 0] 8 (World.laidAll_os _ _ _)
      (World.shaped_of_ZipB (by kernel_rfl) (by kernel_rfl)) (by kernel_rfl) (by kernel_rfl) (by kernel_rfl)
      (by rw [MakeChecks.laidMetH_plain _ _ _ (by kernel_rfl)]; exact laidMet_laidAll _ (by kernel_rfl) (by kernel_rfl))) ?_
  intro W base args ds gs before hval0 hW hcnd hsz0 hL0 _
  have hval : ∀ (j : Nat) t v, Tryz.f3.params[j]? = some t → args[j]? = some v → Value.okWide Tryz.prog W .any base t v := hval0
  have hL : laidMet Tryz.prog Rows.reportNamesRow.laid W := by rw [MakeChecks.laidMetH_plain _ _ _ (by kernel_rfl)] at hL0; exact hL0
  have hW' := hW
  obtain ⟨p, q, hA0, hV, rfl, hfz, hnd⟩ := hW
  have hA : DataW.TrodAll enc Tryz.prog W 0 (fun _ => true) true Tryz.f3.params.toList args.toList ds p := hA0
  rw [Tryz.params3] at hA hval
  obtain ⟨v0, vs0, d0, ds0, p0, q0, hargs, rfl, rfl, h0, r0⟩ := trodAll_cons hA
  obtain ⟨v1, vs1, d1, ds1, p1, q1, rfl, rfl, rfl, h1, r1⟩ := trodAll_cons r0
  obtain ⟨rfl, rfl, rfl⟩ := trodAll_nil r1
  obtain rfl : args = #[v0, v1] := by cases args; simp_all
  obtain ⟨rfl, rfl⟩ := trodVars_none hV
  have lt0 : ∀ x ∈ p0, x.block < W.heap.size := by obtain ⟨m, hm⟩ := h0; exact DataW.trod_lt m _ _ _ hm
  obtain ⟨ims0, rep0, sh0⟩ := arg_open (b := false) 2 (hval 0 3 v0 rfl rfl) (by kernel_rfl) (by kernel_rfl) h0 (fun _ => none)
  obtain ⟨a0, rfl, R0⟩ := opn3 _ _ sh0
  have lt1 : ∀ x ∈ p1, x.block < W.heap.size := by obtain ⟨m, hm⟩ := h1; exact DataW.trod_lt m _ _ _ hm
  obtain ⟨ims1, rep1, sh1⟩ := arg_open (b := false) 2 (hval 1 3 v1 rfl rfl) (by kernel_rfl) (by kernel_rfl) h1 (fun _ => none)
  obtain ⟨a1, rfl, R1⟩ := opn3 _ _ sh1
  clear hA0 hval0 hsz0
  refine ((f_pluviallaw26_ReportNames.ok a0 a1 true (reportNames_R a0 a1 R0 R1)).lawG (w := W) (vs := [v0, v1]) rfl (fun j h h' => ?_) (tabs hL)).mono fun e W' ⟨he, bel⟩ => ?_
  · match j with
    | 0 => exact rep0
    | 1 => exact rep1
    | j + 2 => simp at h <;> omega
  · subst he
    exact ⟨_, rfl, _, _, _, [], _, [], hW', trodAll_mk1 (shut_bool Tryz.underlying4 _), (trodAll_cons_mk (Below.trod laidOut (by kernel_rfl) (of_decide_eq_true (by kernel_rfl)) h0 bel lt0) (trodAll_cons_mk (Below.trod laidOut (by kernel_rfl) (of_decide_eq_true (by kernel_rfl)) h1 bel lt1) trodAll_mk0)), rfl, bel.frame _, fun h => by cases h⟩

theorem fa0 : (Rows.reportNamesRow.inPlace == Tryz.pinned.checked.prog.inPlace 3) = true := by kernel_rfl
theorem fa1 : (Rows.reportNamesRow.unfollowed == Tryz.pinned.checked.prog.unfollowed 3) = true := by kernel_rfl
theorem fa2 : (Rows.reportNamesRow.recurses == Tryz.pinned.checked.prog.recurses 3) = true := by kernel_rfl
theorem fa3 : (Rows.reportNamesRow.named == Tryz.pinned.checked.prog.varsNamed 3) = true := by kernel_rfl
theorem fa4 : mapsRowed Tryz.pinned.checked.prog = true := by kernel_rfl
theorem fa5 : laidOutB Tryz.pinned.checked.prog = true := by kernel_rfl
theorem fa6 : Rows.reportNamesRow.wf (OpenSpec.ofChange Rows.reportNamesSpec) = true := by kernel_rfl
theorem facts : joinedFacts Tryz.pinned.checked.prog 3 Tryz.f3 Rows.reportNamesSpec Rows.reportNamesRow = true := by
  unfold joinedFacts
  simp only [fa0, fa1, fa2, fa3, fa4, fa5, fa6, Bool.true_and, Bool.and_true]
  kernel_rfl
theorem ga0 : Rows.reportNamesRow.wfByText (OpenSpec.ofChange Rows.reportNamesSpec) = true := by kernel_rfl
theorem ga1 : Tryz.pinned.checked.prog.mainIs = some (true, "efaa04d609dc54a00d5ce049d434395ba5210d18dfa21ccb42063d86f5ee4136".toList) := by kernel_rfl
theorem ga2 : true = Tryz.pinned.checked.prog.looks [] := by kernel_rfl
theorem ga3 : false = Rows.reportNamesRow.goesBy Tryz.pinned.checked.prog := by kernel_rfl
theorem over : Rows.reportNamesRow.holds Tryz.pinned (OpenSpec.ofChange Rows.reportNamesSpec) :=
  OpenClaim.holds_of_wide 3 Tryz.f3 rfl rfl rfl rfl rfl rfl rfl ⟨rfl, rfl, rfl, rfl, rfl⟩ rfl rfl rfl rfl rfl (by kernel_rfl) Tryz.func3 facts
    (of_decide_eq_true (by kernel_rfl)) (by unfold Func.isWrapper; first | (rw [if_pos (by decide +kernel)]; kernel_rfl) | (rw [if_neg (by decide +kernel)]; exact ⟨rfl, rfl⟩))
    (fun os started H enc _ => lifted os started H enc)
theorem proved : Rows.ReportNamesCardSaid :=
  Claim7.holds_tied_plain_at .later [] [.data, .data, .data, .sentinel, .sentinel, .data, .data] true (true, "efaa04d609dc54a00d5ce049d434395ba5210d18dfa21ccb42063d86f5ee4136") true
    over (fun _ h => by cases h) ga0 (fun _ h => by cases h) Go.Proofs.YtppfbpckgfkhfaaGreatDoor.reportNames_row_tie rfl ⟨rfl, rfl⟩ ga1 rfl
    (fun f fn hf hfn => by
      obtain rfl : f = 3 := Option.some.inj ((show Tryz.prog.funcNamed Rows.reportNamesRow.func = some 3 by kernel_rfl).symm.trans hf) |>.symm
      obtain rfl : fn = Tryz.f3 := (Option.some.inj (Tryz.func3.symm.trans hfn)).symm
      exact ⟨ga2, fun j t ht => by
        rw [Tryz.params3] at ht
        have hm : t ∈ [3, 3] := by simpa using Array.mem_of_getElem? ht
        have hall : ([3, 3].all fun u => !Tryz.prog.wantsStandIn u) = true := by kernel_rfl
        exact (show Tryz.prog.wantsStandIn t = false by simpa using List.all_eq_true.1 hall t hm)⟩)
    ga3
#print axioms proved
end Go.Proofs.YtppfbpckgfkhfaaGreatDoor.reportNames
namespace Go.Proofs.YtppfbpckgfkhfaaGreatDoor
theorem reportNames_holds : Rows.ReportNamesCardSaid := reportNames.proved
#print axioms reportNames_holds
end Go.Proofs.YtppfbpckgfkhfaaGreatDoor
