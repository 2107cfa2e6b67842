
/-
Whatever EvalSteps is handed, the call returns true and leaves its arguments as they were: proved for every input, with no condition beside the row's own.
-/
import Derived.Test.YtfkppdcfgmgllaaPxEvalSteps16
import Derived.Test.YtfkppdcfgmgllaaRows
import Derived.WalkKit
import Derived.ProofKit
import Derived.OpenShut
import Derived.ShutString
import Derived.ChangeOld
import Derived.Below
import Derived.SizedLaws
import Derived.Carry
set_option linter.unusedVariables false
namespace Go.Proofs.Ytfkppdcfgmgllaa.evalSteps
open Go.ChangeShapes Go.WideShapes Go.ChangeAt Go.RowKit
open Go.ChangeMaps (open_string shut_string)
open Go.Pv Go.Proofs.Ytfkppdcfgmgllaa.PvGD3

theorem own : ownKnob Try.prog.godebug = none := by kernel_rfl
theorem laidOut : laidOutB Try.prog = true := by kernel_rfl
theorem opn3 : OpnW Try.prog 3 (encInt .i64) (I64) := opnW_int _ wf_i64 (by kernel_rfl)
theorem opn49 : OpnW Try.prog 49 (encInt .u64) (U64) := opnW_int _ wf_u64 (by kernel_rfl)
theorem opn2 : OpnW Try.prog 2 (encInt .i64) (I64) := opnW_int _ wf_i64 (by kernel_rfl)
theorem opn56 : OpnW Try.prog 56 epluvialref19_Ask Rpluvialref19_Ask := by
  intro n ims hs
  obtain ⟨m, hs⟩ := opnW_struct hs Try.underlying56
  obtain ⟨a0, b0, e0, h0, a1, b1, e1, h1, a2, b2, e2, h2, a3, b3, e3, h3, a4, b4, e4, h4, a5, b5, e5, h5, a6, b6, e6, h6, e⟩ := hs
  obtain ⟨x0, y0, z0⟩ := opn3 m _ h0
  obtain ⟨x1, y1, z1⟩ := opn49 m _ h1
  obtain ⟨x2, y2, z2⟩ := opn49 m _ h2
  obtain ⟨x3, y3, z3⟩ := opn3 m _ h3
  obtain ⟨x4, y4, z4⟩ := opn3 m _ h4
  obtain ⟨x5, y5, z5⟩ := opn2 m _ h5
  obtain ⟨x6, y6, z6⟩ := opn2 m _ h6
  refine ⟨⟨x0, x1, x2, x3, x4, x5, x6⟩, ?_, ⟨z0, z1, z2, z3, z4, z5, z6⟩⟩
  subst e; subst e6; subst e5; subst e4; subst e3; subst e2; subst e1; subst e0
  subst y0; subst y1; subst y2; subst y3; subst y4; subst y5; subst y6
  rfl
theorem opn116 : OpnW Try.prog 116 eBucket RBucket := by
  intro n ims hs
  obtain ⟨m, hs⟩ := opnW_struct hs Try.underlying116
  obtain ⟨a0, b0, e0, h0, a1, b1, e1, h1, e⟩ := hs
  obtain ⟨x0, y0, z0⟩ := opn3 m _ h0
  obtain ⟨x1, y1, z1⟩ := opn49 m _ h1
  refine ⟨⟨x0, x1⟩, ?_, ⟨z0, z1⟩⟩
  subst e; subst e1; subst e0
  subst y0; subst y1
  rfl
theorem opn50 : OpnW Try.prog 50 (encRow eBucket) (fun (x : List TBucket) => x.length ≤ 140737488351232 ∧ ∀ y ∈ x, RBucket y) := opnW_slice opn116 (by kernel_rfl) (by rw [show Try.prog.bytesOf 116 = 16 by kernel_rfl]; decide)
theorem opn52 : OpnW Try.prog 52 eHist RHist := by
  intro n ims hs
  obtain ⟨m, hs⟩ := opnW_struct hs Try.underlying52
  obtain ⟨a0, b0, e0, h0, a1, b1, e1, h1, a2, b2, e2, h2, a3, b3, e3, h3, a4, b4, e4, h4, a5, b5, e5, h5, a6, b6, e6, h6, a7, b7, e7, h7, e⟩ := hs
  obtain ⟨x0, y0, z0⟩ := opn3 m _ h0
  obtain ⟨x1, y1, z1⟩ := opn3 m _ h1
  obtain ⟨x2, y2, z2⟩ := opn3 m _ h2
  obtain ⟨x3, y3, z3⟩ := opn49 m _ h3
  obtain ⟨x4, y4, z4⟩ := opn49 m _ h4
  obtain ⟨x5, y5, z5⟩ := opn2 m _ h5
  obtain ⟨x6, y6, z6⟩ := opn50 m _ h6
  obtain ⟨x7, y7, z7⟩ := opn50 m _ h7
  refine ⟨⟨x0, x1, x2, x3, x4, x5, x6, x7⟩, ?_, ⟨z0, z1, z2, z3, z4, z5, z6, z7⟩⟩
  subst e; subst e7; subst e6; subst e5; subst e4; subst e3; subst e2; subst e1; subst e0
  subst y0; subst y1; subst y2; subst y3; subst y4; subst y5; subst y6; subst y7
  rfl
theorem opn54 : OpnW Try.prog 54 eSample RSample := by
  intro n ims hs
  obtain ⟨m, hs⟩ := opnW_struct hs Try.underlying54
  obtain ⟨a0, b0, e0, h0, a1, b1, e1, h1, e⟩ := hs
  obtain ⟨x0, y0, z0⟩ := opn2 m _ h0
  obtain ⟨x1, y1, z1⟩ := opn52 m _ h1
  refine ⟨⟨x0, x1⟩, ?_, ⟨z0, z1⟩⟩
  subst e; subst e1; subst e0
  subst y0; subst y1
  rfl
theorem opn57 : OpnW Try.prog 57 (encRow eSample) (fun (x : List TSample) => x.length ≤ 140737488351232 ∧ ∀ y ∈ x, RSample y) := opnW_slice opn54 (by kernel_rfl) (by rw [show Try.prog.bytesOf 54 = 104 by kernel_rfl]; decide)
theorem opn5 : OpnW Try.prog 5 (encInt .u8) (Rng 0 256) := opnW_int _ wf_u8 (by kernel_rfl)
set_option maxRecDepth 100000 in
theorem lifted (os : Os) (started : os.Started) (H : Type) (enc : TypeId × Value → H) :
    ReturnsInHanded {} Try.checked os 11 .any (Rows.evalStepsSpec.pre6 enc Try.prog Try.f11 Rows.evalStepsRow.domain false) (Rows.evalStepsSpec.post enc Try.prog Try.f11 false true false false) := by
  refine returnsInHanded_of_change_sized (C := Try.checked) own started (by kernel_rfl) Try.func11
    (ChangeSpec.witness6 (enc := enc) (C := Try.checked) false ⟨#[], #[.agg #[.int .i64 0, .int .u64 0, .int .u64 0, .int .i64 0, .int .i64 0, .int .i64 0, .int .i64 0], .slice none 0 0, .int .u8 0, .int .u8 0, .int .u8 0], []⟩ 8 (by kernel_rfl) (by kernel_rfl) (by kernel_rfl) (by kernel_rfl)) ?_
  intro W base args ds gs before hval0 hW hcnd hsz0 _
  have hval : ∀ (j : Nat) t v, Try.f11.params[j]? = some t → args[j]? = some v → Value.okWide Try.prog W .any base t v := hval0
  have hW' := hW
  obtain ⟨p, q, hA0, hV, rfl, hfz, hnd⟩ := hW
  have hA : DataW.TrodAll enc Try.prog W 0 (fun _ => true) true Try.f11.params.toList args.toList ds p := hA0
  rw [Try.params11] at hA hval
  obtain ⟨v0, vs0, d0, ds0, p0, q0, hargs, rfl, rfl, h0, r0⟩ := trodAll_cons hA
  obtain ⟨v1, vs1, d1, ds1, p1, q1, rfl, rfl, rfl, h1, r1⟩ := trodAll_cons r0
  obtain ⟨v2, vs2, d2, ds2, p2, q2, rfl, rfl, rfl, h2, r2⟩ := trodAll_cons r1
  obtain ⟨v3, vs3, d3, ds3, p3, q3, rfl, rfl, rfl, h3, r3⟩ := trodAll_cons r2
  obtain ⟨v4, vs4, d4, ds4, p4, q4, rfl, rfl, rfl, h4, r4⟩ := trodAll_cons r3
  obtain ⟨rfl, rfl, rfl⟩ := trodAll_nil r4
  obtain rfl : args = #[v0, v1, v2, v3, v4] := by cases args; simp_all
  obtain ⟨rfl, rfl⟩ := trodVars_none hV
  have hsz : (DataW.weightsEach Try.prog (Try.f11.params.toList ++ Rows.evalStepsSpec.plain.varTypes Try.prog) (d0 :: d1 :: d2 :: d3 :: d4 :: [] ++ [])).all (· ≤ reachBytes) = true := hsz0
  rw [Try.params11] at hsz
  have hw0 : ∀ m ∈ DataW.weights Try.prog 56 d0, m ≤ reachBytes := fun m hm => of_decide_eq_true (List.all_eq_true.1 hsz m (DataW.weights_mem_each (j := 0) (t := 56) (d := d0) rfl rfl m hm))
  have hw1 : ∀ m ∈ DataW.weights Try.prog 57 d1, m ≤ reachBytes := fun m hm => of_decide_eq_true (List.all_eq_true.1 hsz m (DataW.weights_mem_each (j := 1) (t := 57) (d := d1) rfl rfl m hm))
  have hw2 : ∀ m ∈ DataW.weights Try.prog 5 d2, m ≤ reachBytes := fun m hm => of_decide_eq_true (List.all_eq_true.1 hsz m (DataW.weights_mem_each (j := 2) (t := 5) (d := d2) rfl rfl m hm))
  have hw3 : ∀ m ∈ DataW.weights Try.prog 5 d3, m ≤ reachBytes := fun m hm => of_decide_eq_true (List.all_eq_true.1 hsz m (DataW.weights_mem_each (j := 3) (t := 5) (d := d3) rfl rfl m hm))
  have hw4 : ∀ m ∈ DataW.weights Try.prog 5 d4, m ≤ reachBytes := fun m hm => of_decide_eq_true (List.all_eq_true.1 hsz m (DataW.weights_mem_each (j := 4) (t := 5) (d := d4) rfl rfl m hm))
  have lt0 : ∀ x ∈ p0, x.block < W.heap.size := by obtain ⟨m, hm⟩ := h0; exact DataW.trod_lt m _ _ _ hm
  obtain ⟨ims0, rep0, sh0⟩ := arg_openW (b := true) 3 (hval 0 56 v0 rfl rfl) (by kernel_rfl) (by kernel_rfl) h0 hw0 (fun _ => none)
  obtain ⟨a0, rfl, R0⟩ := opn56 _ _ sh0
  have lt1 : ∀ x ∈ p1, x.block < W.heap.size := by obtain ⟨m, hm⟩ := h1; exact DataW.trod_lt m _ _ _ hm
  obtain ⟨ims1, rep1, sh1⟩ := arg_openW (b := false) 7 (hval 1 57 v1 rfl rfl) (by kernel_rfl) (by kernel_rfl) h1 hw1 (fun _ => none)
  obtain ⟨a1, rfl, R1⟩ := opn57 _ _ sh1
  have lt2 : ∀ x ∈ p2, x.block < W.heap.size := by obtain ⟨m, hm⟩ := h2; exact DataW.trod_lt m _ _ _ hm
  obtain ⟨ims2, rep2, sh2⟩ := arg_openW (b := false) 2 (hval 2 5 v2 rfl rfl) (by kernel_rfl) (by kernel_rfl) h2 hw2 (fun _ => none)
  obtain ⟨a2, rfl, R2⟩ := opn5 _ _ sh2
  have lt3 : ∀ x ∈ p3, x.block < W.heap.size := by obtain ⟨m, hm⟩ := h3; exact DataW.trod_lt m _ _ _ hm
  obtain ⟨ims3, rep3, sh3⟩ := arg_openW (b := false) 2 (hval 3 5 v3 rfl rfl) (by kernel_rfl) (by kernel_rfl) h3 hw3 (fun _ => none)
  obtain ⟨a3, rfl, R3⟩ := opn5 _ _ sh3
  have lt4 : ∀ x ∈ p4, x.block < W.heap.size := by obtain ⟨m, hm⟩ := h4; exact DataW.trod_lt m _ _ _ hm
  obtain ⟨ims4, rep4, sh4⟩ := arg_openW (b := false) 2 (hval 4 5 v4 rfl rfl) (by kernel_rfl) (by kernel_rfl) h4 hw4 (fun _ => none)
  obtain ⟨a4, rfl, R4⟩ := opn5 _ _ sh4
  clear hA0 hval0 hsz0 hsz
  refine ((f_pluviallaw19_EvalSteps.ok a0 a1 a2 a3 a4 true (evalSteps_R a0 a1 a2 a3 a4 R0 R1 R2 R3 R4)).law (w := W) (vs := [v0, v1, v2, v3, v4]) rfl (fun j h h' => ?_)).mono fun e W' ⟨he, bel⟩ => ?_
  · match j with
    | 0 => exact rep0
    | 1 => exact rep1
    | 2 => exact rep2
    | 3 => exact rep3
    | 4 => exact rep4
    | j + 5 => simp at h <;> omega
  · subst he
    exact ⟨_, rfl, _, _, _, [], _, [], hW', trodAll_mk1 (shut_bool Try.underlying4 _), (trodAll_cons_mk (Below.trod laidOut (by kernel_rfl) (of_decide_eq_true (by kernel_rfl)) h0 bel lt0) (trodAll_cons_mk (Below.trod laidOut (by kernel_rfl) (of_decide_eq_true (by kernel_rfl)) h1 bel lt1) (trodAll_cons_mk (Below.trod laidOut (by kernel_rfl) (of_decide_eq_true (by kernel_rfl)) h2 bel lt2) (trodAll_cons_mk (Below.trod laidOut (by kernel_rfl) (of_decide_eq_true (by kernel_rfl)) h3 bel lt3) (trodAll_cons_mk (Below.trod laidOut (by kernel_rfl) (of_decide_eq_true (by kernel_rfl)) h4 bel lt4) trodAll_mk0))))), rfl, bel.frame _, fun h => by cases h⟩

theorem over : Rows.evalStepsRow.holds Try.pinned (OpenSpec.ofChange Rows.evalStepsSpec) :=
  OpenClaim.holds_of_wide 11 Try.f11 rfl rfl rfl rfl rfl rfl rfl ⟨rfl, rfl, rfl, rfl, rfl⟩ rfl rfl rfl rfl rfl (by kernel_rfl) Try.func11 (by kernel_rfl)
    (of_decide_eq_true (by kernel_rfl)) (by unfold Func.isWrapper; first | (rw [if_pos (by decide +kernel)]; kernel_rfl) | (rw [if_neg (by decide +kernel)]; exact ⟨rfl, rfl⟩))
    (fun os started H enc _ => lifted os started H enc)
theorem proved : Rows.EvalStepsSaid := over
#print axioms proved
end Go.Proofs.Ytfkppdcfgmgllaa.evalSteps
namespace Go.Proofs.Ytfkppdcfgmgllaa
theorem evalSteps_holds : Rows.EvalStepsSaid := evalSteps.proved
#print axioms evalSteps_holds
end Go.Proofs.Ytfkppdcfgmgllaa
