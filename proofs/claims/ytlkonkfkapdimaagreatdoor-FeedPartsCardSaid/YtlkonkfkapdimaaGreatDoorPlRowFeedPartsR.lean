
/-
Whatever FeedParts is handed, the call returns true and leaves its arguments as they were: proved for every input, with no condition beside the row's own.
-/
import Derived.Test.YtlkonkfkapdimaaGreatDoorPxFeedParts13
import Derived.Test.YtlkonkfkapdimaaGreatDoorRows
import Derived.Test.YtlkonkfkapdimaaGreatDoorCards
import Derived.Test.YtlkonkfkapdimaaGreatDoorTie
import Derived.SevenTiedAt
import Derived.Lay
import Derived.LaidOnce
import Derived.WalkKit
import Derived.ProofKit
import Derived.OpenShut
import Derived.ShutString
import Derived.ChangeOld
import Derived.Below
import Derived.SizedLaws
import Derived.Carry
set_option linter.unusedVariables false
namespace Go.Proofs.YtlkonkfkapdimaaGreatDoor.feedParts
open Go.ChangeShapes Go.WideShapes Go.ChangeAt Go.RowKit
open Go.ChangeMaps (open_string shut_string)
open Go.Pv Go.Proofs.YtlkonkfkapdimaaGreatDoor.PvGR

theorem own : ownKnob Tryz.prog.godebug = none := by kernel_rfl
theorem laidOut : laidOutB Tryz.prog = true := by kernel_rfl
theorem opn9 : OpnW Tryz.prog 9 Zq (fun s => s.size ≤ maxLen) := opnW_str (by kernel_rfl)
theorem opn52 : OpnW Tryz.prog 52 Z17 RLabel := by
  intro n ims hs
  obtain ⟨m, hs⟩ := Z42 hs Tryz.underlying52
  obtain ⟨a0, b0, e0, h0, a1, b1, e1, h1, e⟩ := hs
  obtain ⟨x0, y0, z0⟩ := opn9 m _ h0
  obtain ⟨x1, y1, z1⟩ := opn9 m _ h1
  refine ⟨⟨x0, x1⟩, ?_, ⟨z0, z1⟩⟩
  subst e; subst e1; subst e0
  subst y0; subst y1
  rfl
theorem opn22 : OpnW Tryz.prog 22 (Z4l Z17) (fun (x : List Zp) => x.length * 32 ≤ 140737488351232 ∧ ∀ y ∈ x, RLabel y) := Z7k opn52 (by kernel_rfl) (by kernel_rfl)
theorem opn2 : OpnW Tryz.prog 2 (Z24 .i64) (I64) := opnW_int _ wf_i64 (by kernel_rfl)
theorem opn3 : OpnW Tryz.prog 3 (Z24 .i64) (I64) := opnW_int _ wf_i64 (by kernel_rfl)
theorem opn23 : OpnW Tryz.prog 23 (Z24 .u64) (U64) := opnW_int _ wf_u64 (by kernel_rfl)
theorem opn58 : OpnW Tryz.prog 58 Z4 RBucket := by
  intro n ims hs
  obtain ⟨m, hs⟩ := Z42 hs Tryz.underlying58
  obtain ⟨a0, b0, e0, h0, a1, b1, e1, h1, e⟩ := hs
  obtain ⟨x0, y0, z0⟩ := opn3 m _ h0
  obtain ⟨x1, y1, z1⟩ := opn23 m _ h1
  refine ⟨⟨x0, x1⟩, ?_, ⟨z0, z1⟩⟩
  subst e; subst e1; subst e0
  subst y0; subst y1
  rfl
theorem opn24 : OpnW Tryz.prog 24 (Z4l Z4) (fun (x : List Z2) => x.length * 16 ≤ 140737488351232 ∧ ∀ y ∈ x, RBucket y) := Z7k opn58 (by kernel_rfl) (by kernel_rfl)
theorem opn26 : OpnW Tryz.prog 26 eHist RHist := by
  intro n ims hs
  obtain ⟨m, hs⟩ := Z42 hs Tryz.underlying26
  obtain ⟨a0, b0, e0, h0, a1, b1, e1, h1, a2, b2, e2, h2, a3, b3, e3, h3, a4, b4, e4, h4, a5, b5, e5, h5, a6, b6, e6, h6, a7, b7, e7, h7, e⟩ := hs
  obtain ⟨x0, y0, z0⟩ := opn3 m _ h0
  obtain ⟨x1, y1, z1⟩ := opn3 m _ h1
  obtain ⟨x2, y2, z2⟩ := opn3 m _ h2
  obtain ⟨x3, y3, z3⟩ := opn23 m _ h3
  obtain ⟨x4, y4, z4⟩ := opn23 m _ h4
  obtain ⟨x5, y5, z5⟩ := opn2 m _ h5
  obtain ⟨x6, y6, z6⟩ := opn24 m _ h6
  obtain ⟨x7, y7, z7⟩ := opn24 m _ h7
  refine ⟨⟨x0, x1, x2, x3, x4, x5, x6, x7⟩, ?_, ⟨z0, z1, z2, z3, z4, z5, z6, z7⟩⟩
  subst e; subst e7; subst e6; subst e5; subst e4; subst e3; subst e2; subst e1; subst e0
  subst y0; subst y1; subst y2; subst y3; subst y4; subst y5; subst y6; subst y7
  rfl
theorem opn36 : OpnW Tryz.prog 36 estore_Item Z81 := by
  intro n ims hs
  obtain ⟨m, hs⟩ := Z42 hs Tryz.underlying36
  obtain ⟨a0, b0, e0, h0, a1, b1, e1, h1, a2, b2, e2, h2, e⟩ := hs
  obtain ⟨x0, y0, z0⟩ := opn22 m _ h0
  obtain ⟨x1, y1, z1⟩ := opn2 m _ h1
  obtain ⟨x2, y2, z2⟩ := opn26 m _ h2
  refine ⟨⟨x0, x1, x2⟩, ?_, ⟨z0, z1, z2⟩⟩
  subst e; subst e2; subst e1; subst e0
  subst y0; subst y1; subst y2
  rfl
theorem tabs {W : World} (hL : laidMet Tryz.prog Rows.feedPartsRow.laid W) : TabsAt Tryz.prog W := fun g cs e => by
  have hk := keys_ok (P := Tryz.prog) [0, 1] (by kernel_rfl) g cs e
  simp only [List.mem_cons, List.not_mem_nil, or_false] at hk
  rcases hk with rfl | rfl
  · obtain rfl := Option.some.inj ((show Z2r     Tryz.prog 0 = some (([[99, 111, 117, 110, 116, 101, 114], [103, 97, 117, 103, 101]] : List (List UInt8)).map (fun s => Value.string ⟨s.toArray⟩)) by kernel_rfl).symm.trans e)
    exact tab_strs (g := 0) (t := 67) (e := 9) (n := 2) hL (name := "pluvial/feed.kinds") (ss := ([[99, 111, 117, 110, 116, 101, 114], [103, 97, 117, 103, 101]] : List (List UInt8))) (by simp [Rows.feedPartsRow, Rows.laid_pluvial_feed_kinds]) (by kernel_rfl) (by kernel_rfl) (by kernel_rfl) (by kernel_rfl) (by kernel_rfl) (by kernel_rfl)
  · obtain rfl := Option.some.inj ((show Z2r     Tryz.prog 1 = some (([1, 10, 100, 1000, 10000, 100000, 1000000, 10000000, 100000000, 1000000000, 10000000000, 100000000000, 1000000000000, 10000000000000, 100000000000000, 1000000000000000, 10000000000000000, 100000000000000000, 1000000000000000000, 10000000000000000000] : List Int).map (Value.int .u64)) by kernel_rfl).symm.trans e)
    exact tab_ints (g := 1) (t := 130) (e := 23) (n := 20) hL (name := "internal/strconv.uint64pow10") (k := .u64) (zs := ([1, 10, 100, 1000, 10000, 100000, 1000000, 10000000, 100000000, 1000000000, 10000000000, 100000000000, 1000000000000, 10000000000000, 100000000000000, 1000000000000000, 10000000000000000, 100000000000000000, 1000000000000000000, 10000000000000000000] : List Int)) (by simp [Rows.feedPartsRow, Rows.laid_internal_strconv_uint64pow10]) (by kernel_rfl) (by kernel_rfl) (by kernel_rfl) (by kernel_rfl) (by kernel_rfl) (by kernel_rfl)
set_option maxRecDepth 100000 in
theorem lifted (os : Os) (started : os.Started) (H : Type) (enc : TypeId × Value → H) :
    ReturnsInHanded {} Tryz.checked os 5 .any (fun w args => (Rows.feedPartsSpec.pre enc Tryz.prog Tryz.f5 Rows.feedPartsRow.domain false w args ∧ laidMetH Tryz.prog Rows.feedPartsRow.laid w) ∧ sizedMet enc Tryz.prog Tryz.f5 (OpenSpec.ofChange Rows.feedPartsSpec) false w args) (Rows.feedPartsSpec.post enc Tryz.prog Tryz.f5 false true false false) := by
  refine returnsInHanded_of_change_and (C := Tryz.checked) (X := fun w _ => laidMetH Tryz.prog Rows.feedPartsRow.laid w) (fun _ _ _ hh h => h.of_heap hh) own started (by kernel_rfl) Tryz.func5
    (ChangeSpec.witness_shaped (enc := enc) (C := Tryz.checked) (os := os) (X := fun w _ => laidMetH Tryz.prog Rows.feedPartsRow.laid w) false (World.laidAll Tryz.prog os Rows.feedPartsRow.laid) #[.agg #[.slice none 0 0, .int .i64 0, .int .i64 0, .int .i64 0, .int .i64 0, .int .u64 0, .int .u64 0, .int .i64 0, .slice none 0 0, .slice none 0 0]] 8 (World.laidAll_os _ _ _)
      (World.shaped_of_ZipB (by kernel_rfl) (by kernel_rfl)) (by kernel_rfl) (by kernel_rfl) (by kernel_rfl)
      (by rw [MakeChecks.laidMetH_plain _ _ _ (by kernel_rfl)]; exact laidMet_laidAll _ (by kernel_rfl) (by kernel_rfl))) ?_
  intro W base args ds gs before hval0 hW hcnd hsz0 hL0 _
  have hval : ∀ (j : Nat) t v, Tryz.f5.params[j]? = some t → args[j]? = some v → Value.okWide Tryz.prog W .any base t v := hval0
  have hL : laidMet Tryz.prog Rows.feedPartsRow.laid W := by rw [MakeChecks.laidMetH_plain _ _ _ (by kernel_rfl)] at hL0; exact hL0
  have hW' := hW
  obtain ⟨p, q, hA0, hV, rfl, hfz, hnd⟩ := hW
  have hA : DataW.TrodAll enc Tryz.prog W 0 (fun _ => true) true Tryz.f5.params.toList args.toList ds p := hA0
  rw [Tryz.params5] at hA hval
  obtain ⟨v0, vs0, d0, ds0, p0, q0, hargs, rfl, rfl, h0, r0⟩ := trodAll_cons hA
  obtain ⟨rfl, rfl, rfl⟩ := trodAll_nil r0
  obtain rfl : args = #[v0] := by cases args; simp_all
  obtain ⟨rfl, rfl⟩ := trodVars_none hV
  have hsz : (DataW.weightsEach Tryz.prog (Tryz.f5.params.toList ++ Rows.feedPartsSpec.plain.varTypes Tryz.prog) (d0 :: [] ++ [])).all (· ≤ reachBytes) = true := hsz0
  rw [Tryz.params5] at hsz
  have hw0 : ∀ m ∈ DataW.weights Tryz.prog 36 d0, m ≤ reachBytes := fun m hm => of_decide_eq_true (List.all_eq_true.1 hsz m (DataW.weights_mem_each (j := 0) (t := 36) (d := d0) rfl rfl m hm))
  have lt0 : ∀ x ∈ p0, x.block < W.heap.size := by obtain ⟨m, hm⟩ := h0; exact DataW.trod_lt m _ _ _ hm
  obtain ⟨ims0, rep0, sh0⟩ := arg_openW (b := true) 6 (hval 0 36 v0 rfl rfl) (by kernel_rfl) (by kernel_rfl) h0 hw0 (fun _ => none)
  obtain ⟨a0, rfl, R0⟩ := opn36 _ _ sh0
  clear hA0 hval0 hsz0 hsz
  refine ((Z20.ok a0 true (feedParts_R a0 R0)).lawG (w := W) (vs := [v0]) rfl (fun j h h' => ?_) (tabs hL)).mono fun e W' ⟨he, bel⟩ => ?_
  · match j with
    | 0 => exact rep0
    | j + 1 => simp at h <;> omega
  · subst he
    exact ⟨_, rfl, _, _, _, [], _, [], hW', trodAll_mk1 (shut_bool Tryz.underlying4 _), (trodAll_cons_mk (Below.trod laidOut (by kernel_rfl) (of_decide_eq_true (by kernel_rfl)) h0 bel lt0) trodAll_mk0), rfl, bel.frame _, fun h => by cases h⟩

theorem over : Rows.feedPartsRow.holds Tryz.pinned (OpenSpec.ofChange Rows.feedPartsSpec) :=
  OpenClaim.holds_of_wide 5 Tryz.f5 rfl rfl rfl rfl rfl rfl rfl ⟨rfl, rfl, rfl, rfl, rfl⟩ rfl rfl rfl rfl rfl (by kernel_rfl) Tryz.func5 (by kernel_rfl)
    (of_decide_eq_true (by kernel_rfl)) (by unfold Func.isWrapper; first | (rw [if_pos (by decide +kernel)]; kernel_rfl) | (rw [if_neg (by decide +kernel)]; exact ⟨rfl, rfl⟩))
    (fun os started H enc _ => lifted os started H enc)
theorem proved : Rows.FeedPartsCardSaid :=
  Claim7.holds_tied_plain_at .later [] [.data, .data, .data, .data, .sentinel, .sentinel, .widerDeep, .pinned] true (true, "7d6822841e3e0df36fa24032d797399c37f4224fb324aa7a65888b03a4d9a7e4") true
    over (fun _ h => by cases h) (by kernel_rfl) (fun _ h => by cases h) Go.Proofs.YtlkonkfkapdimaaGreatDoor.feedParts_row_tie rfl ⟨rfl, rfl⟩ (by kernel_rfl) rfl
    (fun f fn hf hfn => by
      obtain rfl : f = 5 := Option.some.inj ((show Tryz.prog.funcNamed Rows.feedPartsRow.func = some 5 by kernel_rfl).symm.trans hf) |>.symm
      obtain rfl : fn = Tryz.f5 := (Option.some.inj (Tryz.func5.symm.trans hfn)).symm
      exact ⟨by kernel_rfl, fun j t ht => by
        rw [Tryz.params5] at ht
        have hm : t ∈ [36] := by simpa using Array.mem_of_getElem? ht
        have hall : ([36].all fun u => !Tryz.prog.wantsStandIn u) = true := by kernel_rfl
        exact (show Tryz.prog.wantsStandIn t = false by simpa using List.all_eq_true.1 hall t hm)⟩)
    (by kernel_rfl)
#print axioms proved
end Go.Proofs.YtlkonkfkapdimaaGreatDoor.feedParts
namespace Go.Proofs.YtlkonkfkapdimaaGreatDoor
theorem feedParts_holds : Rows.FeedPartsCardSaid := feedParts.proved
#print axioms feedParts_holds
end Go.Proofs.YtlkonkfkapdimaaGreatDoor
