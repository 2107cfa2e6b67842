
/-
Whatever ChunkParts is handed, the call returns true and leaves its arguments as they were: proved for every input, with no condition beside the row's own.
-/
import Derived.Test.YtlclecehlekjoaaPxChunkParts13
import Derived.Test.YtlclecehlekjoaaRows
import Derived.WalkKit
import Derived.ProofKit
import Derived.OpenShut
import Derived.ShutString
import Derived.ChangeOld
import Derived.Below
import Derived.SizedLaws
import Derived.Carry
set_option linter.unusedVariables false
namespace Go.Proofs.Ytlclecehlekjoaa.chunkParts
open Go.ChangeShapes Go.WideShapes Go.ChangeAt Go.RowKit
open Go.ChangeMaps (open_string shut_string)
open Go.Pv Go.Proofs.Ytlclecehlekjoaa.PvGE

theorem own : ownKnob Try.prog.godebug = none := by kernel_rfl
theorem laidOut : laidOutB Try.prog = true := by kernel_rfl
theorem opn2 : OpnW Try.prog 2 (Z1 .i64) (I64) := Z6l _ wf_i64 (by kernel_rfl)
theorem opn3 : OpnW Try.prog 3 (Z1 .i64) (I64) := Z6l _ wf_i64 (by kernel_rfl)
theorem opn33 : OpnW Try.prog 33 (Z1 .u64) (U64) := Z6l _ wf_u64 (by kernel_rfl)
theorem opn78 : OpnW Try.prog 78 Z0 RBucket := by
  intro n ims hs
  obtain ⟨m, hs⟩ := Z56 hs Try.underlying78
  obtain ⟨a0, b0, e0, h0, a1, b1, e1, h1, e⟩ := hs
  obtain ⟨x0, y0, z0⟩ := opn3 m _ h0
  obtain ⟨x1, y1, z1⟩ := opn33 m _ h1
  refine ⟨⟨x0, x1⟩, ?_, ⟨z0, z1⟩⟩
  subst e; subst e1; subst e0
  subst y0; subst y1
  rfl
theorem opn34 : OpnW Try.prog 34 (Z0w Z0) (fun (x : List Z2) => x.length ≤ 140737488351232 ∧ ∀ y ∈ x, RBucket y) := Z7q opn78 (by kernel_rfl) (by rw [show Try.prog.bytesOf 78 = 16 by kernel_rfl]; decide)
theorem opn36 : OpnW Try.prog 36 eHist RHist := by
  intro n ims hs
  obtain ⟨m, hs⟩ := Z56 hs Try.underlying36
  obtain ⟨a0, b0, e0, h0, a1, b1, e1, h1, a2, b2, e2, h2, a3, b3, e3, h3, a4, b4, e4, h4, a5, b5, e5, h5, a6, b6, e6, h6, a7, b7, e7, h7, e⟩ := hs
  obtain ⟨x0, y0, z0⟩ := opn3 m _ h0
  obtain ⟨x1, y1, z1⟩ := opn3 m _ h1
  obtain ⟨x2, y2, z2⟩ := opn3 m _ h2
  obtain ⟨x3, y3, z3⟩ := opn33 m _ h3
  obtain ⟨x4, y4, z4⟩ := opn33 m _ h4
  obtain ⟨x5, y5, z5⟩ := opn2 m _ h5
  obtain ⟨x6, y6, z6⟩ := opn34 m _ h6
  obtain ⟨x7, y7, z7⟩ := opn34 m _ h7
  refine ⟨⟨x0, x1, x2, x3, x4, x5, x6, x7⟩, ?_, ⟨z0, z1, z2, z3, z4, z5, z6, z7⟩⟩
  subst e; subst e7; subst e6; subst e5; subst e4; subst e3; subst e2; subst e1; subst e0
  subst y0; subst y1; subst y2; subst y3; subst y4; subst y5; subst y6; subst y7
  rfl
theorem opn38 : OpnW Try.prog 38 Z7 RSample := by
  intro n ims hs
  obtain ⟨m, hs⟩ := Z56 hs Try.underlying38
  obtain ⟨a0, b0, e0, h0, a1, b1, e1, h1, e⟩ := hs
  obtain ⟨x0, y0, z0⟩ := opn2 m _ h0
  obtain ⟨x1, y1, z1⟩ := opn36 m _ h1
  refine ⟨⟨x0, x1⟩, ?_, ⟨z0, z1⟩⟩
  subst e; subst e1; subst e0
  subst y0; subst y1
  rfl
theorem opn22 : OpnW Try.prog 22 (Z0w Z7) (fun (x : List Zd) => x.length ≤ 140737488351232 ∧ ∀ y ∈ x, RSample y) := Z7q opn38 (by kernel_rfl) (by rw [show Try.prog.bytesOf 38 = 104 by kernel_rfl]; decide)
theorem opn5 : OpnW Try.prog 5 (Z1 .u8) (Rng 0 256) := Z6l _ wf_u8 (by kernel_rfl)
set_option maxRecDepth 100000 in
theorem lifted (os : Os) (started : os.Started) (H : Type) (enc : TypeId × Value → H) :
    ReturnsInHanded {} Try.checked os 4 .any (Rows.chunkPartsSpec.pre6 enc Try.prog Try.f4 Rows.chunkPartsRow.domain false) (Rows.chunkPartsSpec.post enc Try.prog Try.f4 false true false false) := by
  refine returnsInHanded_of_change_sized (C := Try.checked) own started (by kernel_rfl) Try.func4
    (ChangeSpec.witness6 (enc := enc) (C := Try.checked) false ⟨#[], #[.slice none 0 0, .agg #[.int .i64 0, .int .i64 0, .int .i64 0, .int .i64 0, .int .u64 0, .int .u64 0, .int .i64 0, .slice none 0 0, .slice none 0 0], .int .u8 0], []⟩ 8 (by kernel_rfl) (by kernel_rfl) (by kernel_rfl) (by kernel_rfl)) ?_
  intro W base args ds gs before hval0 hW hcnd hsz0 _
  have hval : ∀ (j : Nat) t v, Try.f4.params[j]? = some t → args[j]? = some v → Value.okWide Try.prog W .any base t v := hval0
  have hW' := hW
  obtain ⟨p, q, hA0, hV, rfl, hfz, hnd⟩ := hW
  have hA : DataW.TrodAll enc Try.prog W 0 (fun _ => true) true Try.f4.params.toList args.toList ds p := hA0
  rw [Try.params4] at hA hval
  obtain ⟨v0, vs0, d0, ds0, p0, q0, hargs, rfl, rfl, h0, r0⟩ := trodAll_cons hA
  obtain ⟨v1, vs1, d1, ds1, p1, q1, rfl, rfl, rfl, h1, r1⟩ := trodAll_cons r0
  obtain ⟨v2, vs2, d2, ds2, p2, q2, rfl, rfl, rfl, h2, r2⟩ := trodAll_cons r1
  obtain ⟨rfl, rfl, rfl⟩ := trodAll_nil r2
  obtain rfl : args = #[v0, v1, v2] := by cases args; simp_all
  obtain ⟨rfl, rfl⟩ := trodVars_none hV
  have hsz : (DataW.weightsEach Try.prog (Try.f4.params.toList ++ Rows.chunkPartsSpec.plain.varTypes Try.prog) (d0 :: d1 :: d2 :: [] ++ [])).all (· ≤ reachBytes) = true := hsz0
  rw [Try.params4] at hsz
  have hw0 : ∀ m ∈ DataW.weights Try.prog 22 d0, m ≤ reachBytes := fun m hm => of_decide_eq_true (List.all_eq_true.1 hsz m (DataW.weights_mem_each (j := 0) (t := 22) (d := d0) rfl rfl m hm))
  have hw1 : ∀ m ∈ DataW.weights Try.prog 38 d1, m ≤ reachBytes := fun m hm => of_decide_eq_true (List.all_eq_true.1 hsz m (DataW.weights_mem_each (j := 1) (t := 38) (d := d1) rfl rfl m hm))
  have hw2 : ∀ m ∈ DataW.weights Try.prog 5 d2, m ≤ reachBytes := fun m hm => of_decide_eq_true (List.all_eq_true.1 hsz m (DataW.weights_mem_each (j := 2) (t := 5) (d := d2) rfl rfl m hm))
  have lt0 : ∀ x ∈ p0, x.block < W.heap.size := by obtain ⟨m, hm⟩ := h0; exact DataW.trod_lt m _ _ _ hm
  obtain ⟨ims0, rep0, sh0⟩ := Z7h (b := false) 7 (hval 0 22 v0 rfl rfl) (by kernel_rfl) (by kernel_rfl) h0 hw0 (fun _ => none)
  obtain ⟨a0, rfl, R0⟩ := opn22 _ _ sh0
  have lt1 : ∀ x ∈ p1, x.block < W.heap.size := by obtain ⟨m, hm⟩ := h1; exact DataW.trod_lt m _ _ _ hm
  obtain ⟨ims1, rep1, sh1⟩ := Z7h (b := true) 6 (hval 1 38 v1 rfl rfl) (by kernel_rfl) (by kernel_rfl) h1 hw1 (fun _ => none)
  obtain ⟨a1, rfl, R1⟩ := opn38 _ _ sh1
  have lt2 : ∀ x ∈ p2, x.block < W.heap.size := by obtain ⟨m, hm⟩ := h2; exact DataW.trod_lt m _ _ _ hm
  obtain ⟨ims2, rep2, sh2⟩ := Z7h (b := false) 2 (hval 2 5 v2 rfl rfl) (by kernel_rfl) (by kernel_rfl) h2 hw2 (fun _ => none)
  obtain ⟨a2, rfl, R2⟩ := opn5 _ _ sh2
  clear hA0 hval0 hsz0 hsz
  refine ((Z21.ok a0 a1 a2 true (chunkParts_R a0 a1 a2 R0 R1 R2)).law (w := W) (vs := [v0, v1, v2]) rfl (fun j h h' => ?_)).mono fun e W' ⟨he, bel⟩ => ?_
  · match j with
    | 0 => exact rep0
    | 1 => exact rep1
    | 2 => exact rep2
    | j + 3 => simp at h <;> omega
  · subst he
    exact ⟨_, rfl, _, _, _, [], _, [], hW', trodAll_mk1 (shut_bool Try.underlying4 _), (trodAll_cons_mk (Below.trod laidOut (by kernel_rfl) (of_decide_eq_true (by kernel_rfl)) h0 bel lt0) (trodAll_cons_mk (Below.trod laidOut (by kernel_rfl) (of_decide_eq_true (by kernel_rfl)) h1 bel lt1) (trodAll_cons_mk (Below.trod laidOut (by kernel_rfl) (of_decide_eq_true (by kernel_rfl)) h2 bel lt2) trodAll_mk0))), rfl, bel.frame _, fun h => by cases h⟩

theorem over : Rows.chunkPartsRow.holds Try.pinned (OpenSpec.ofChange Rows.chunkPartsSpec) :=
  OpenClaim.holds_of_wide 4 Try.f4 rfl rfl rfl rfl rfl rfl rfl ⟨rfl, rfl, rfl, rfl, rfl⟩ rfl rfl rfl rfl rfl (by kernel_rfl) Try.func4 (by kernel_rfl)
    (of_decide_eq_true (by kernel_rfl)) (by unfold Func.isWrapper; first | (rw [if_pos (by decide +kernel)]; kernel_rfl) | (rw [if_neg (by decide +kernel)]; exact ⟨rfl, rfl⟩))
    (fun os started H enc _ => lifted os started H enc)
theorem proved : Rows.ChunkPartsSaid := over
#print axioms proved
end Go.Proofs.Ytlclecehlekjoaa.chunkParts
namespace Go.Proofs.Ytlclecehlekjoaa
theorem chunkParts_holds : Rows.ChunkPartsSaid := chunkParts.proved
#print axioms chunkParts_holds
end Go.Proofs.Ytlclecehlekjoaa
