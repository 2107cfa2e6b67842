
/-
Whatever EntryImages is handed, the call returns true and leaves its arguments as they were: proved for every input, with no condition beside the row's own.
-/
import Derived.Test.YtinhldbfifpakaaGreatPxEntryImages25
import Derived.Test.YtinhldbfifpakaaGreatRows
import Derived.JoinedCond
import Derived.WalkKit
import Derived.ProofKit
import Derived.OpenShut
import Derived.ShutString
import Derived.ChangeOld
import Derived.Below
import Derived.SizedLaws
import Derived.Carry
set_option linter.unusedVariables false
namespace Go.Proofs.YtinhldbfifpakaaGreat.entryImages
open Go.ChangeShapes Go.WideShapes Go.ChangeAt Go.RowKit
open Go.ChangeMaps (open_string shut_string)
open Go.Pv Go.Proofs.YtinhldbfifpakaaGreat.PvGL3

theorem own : ownKnob Tryz.prog.godebug = none := by kernel_rfl
theorem laidOut : laidOutB Tryz.prog = true := by kernel_rfl
theorem opn2 : OpnU Tryz.prog 2 (Z6c .i64) (I64) := opnU_int _ wf_i64 (by kernel_rfl)
theorem opn3 : OpnU Tryz.prog 3 (Z6c .i64) (I64) := opnU_int _ wf_i64 (by kernel_rfl)
theorem opn53 : OpnU Tryz.prog 53 (Z1r (Z6c .i64)) (fun (x : List Int) => x.length ≤ 1048576 ∧ ∀ y ∈ x, I64 y) := Z8v opn3 (by kernel_rfl)
theorem opn9 : OpnU Tryz.prog 9 Z6u (fun s => s.size ≤ 1048576) := opnU_str (by kernel_rfl)
theorem opn76 : OpnU Tryz.prog 76 Z0 Z8c := by
  intro n ims hs
  obtain ⟨m, hs⟩ := Z77 hs Tryz.underlying76
  obtain ⟨a0, b0, e0, h0, a1, b1, e1, h1, e⟩ := hs
  obtain ⟨x0, y0, z0⟩ := opn2 m _ h0
  obtain ⟨x1, y1, z1⟩ := opn2 m _ h1
  refine ⟨⟨x0, x1⟩, ?_, ⟨z0, z1⟩⟩
  subst e; subst e1; subst e0
  subst y0; subst y1
  rfl
theorem opn57 : OpnU Tryz.prog 57 (Z1r Z0) (fun (x : List Z1) => x.length ≤ 1048576 ∧ ∀ y ∈ x, Z8c y) := Z8v opn76 (by kernel_rfl)
theorem opn45 : OpnU Tryz.prog 45 (Z6c .u64) (U64) := opnU_int _ wf_u64 (by kernel_rfl)
theorem opn136 : OpnU Tryz.prog 136 Z3 RBucket := by
  intro n ims hs
  obtain ⟨m, hs⟩ := Z77 hs Tryz.underlying136
  obtain ⟨a0, b0, e0, h0, a1, b1, e1, h1, e⟩ := hs
  obtain ⟨x0, y0, z0⟩ := opn3 m _ h0
  obtain ⟨x1, y1, z1⟩ := opn45 m _ h1
  refine ⟨⟨x0, x1⟩, ?_, ⟨z0, z1⟩⟩
  subst e; subst e1; subst e0
  subst y0; subst y1
  rfl
theorem opn46 : OpnU Tryz.prog 46 (Z1r Z3) (fun (x : List Z2) => x.length ≤ 1048576 ∧ ∀ y ∈ x, RBucket y) := Z8v opn136 (by kernel_rfl)
theorem opn48 : OpnU Tryz.prog 48 eHist RHist := by
  intro n ims hs
  obtain ⟨m, hs⟩ := Z77 hs Tryz.underlying48
  obtain ⟨a0, b0, e0, h0, a1, b1, e1, h1, a2, b2, e2, h2, a3, b3, e3, h3, a4, b4, e4, h4, a5, b5, e5, h5, a6, b6, e6, h6, a7, b7, e7, h7, e⟩ := hs
  obtain ⟨x0, y0, z0⟩ := opn3 m _ h0
  obtain ⟨x1, y1, z1⟩ := opn3 m _ h1
  obtain ⟨x2, y2, z2⟩ := opn3 m _ h2
  obtain ⟨x3, y3, z3⟩ := opn45 m _ h3
  obtain ⟨x4, y4, z4⟩ := opn45 m _ h4
  obtain ⟨x5, y5, z5⟩ := opn2 m _ h5
  obtain ⟨x6, y6, z6⟩ := opn46 m _ h6
  obtain ⟨x7, y7, z7⟩ := opn46 m _ h7
  refine ⟨⟨x0, x1, x2, x3, x4, x5, x6, x7⟩, ?_, ⟨z0, z1, z2, z3, z4, z5, z6, z7⟩⟩
  subst e; subst e7; subst e6; subst e5; subst e4; subst e3; subst e2; subst e1; subst e0
  subst y0; subst y1; subst y2; subst y3; subst y4; subst y5; subst y6; subst y7
  rfl
theorem opn50 : OpnU Tryz.prog 50 Z6 RSample := by
  intro n ims hs
  obtain ⟨m, hs⟩ := Z77 hs Tryz.underlying50
  obtain ⟨a0, b0, e0, h0, a1, b1, e1, h1, e⟩ := hs
  obtain ⟨x0, y0, z0⟩ := opn2 m _ h0
  obtain ⟨x1, y1, z1⟩ := opn48 m _ h1
  refine ⟨⟨x0, x1⟩, ?_, ⟨z0, z1⟩⟩
  subst e; subst e1; subst e0
  subst y0; subst y1
  rfl
theorem opn44 : OpnU Tryz.prog 44 (Z1r Z6) (fun (x : List Z7) => x.length ≤ 1048576 ∧ ∀ y ∈ x, RSample y) := Z8v opn50 (by kernel_rfl)
theorem opn59 : OpnU Tryz.prog 59 Z22 Zf0 := by
  intro n ims hs
  obtain ⟨m, hs⟩ := Z77 hs Tryz.underlying59
  obtain ⟨a0, b0, e0, h0, a1, b1, e1, h1, a2, b2, e2, h2, a3, b3, e3, h3, e⟩ := hs
  obtain ⟨x0, y0, z0⟩ := opn9 m _ h0
  obtain ⟨x1, y1, z1⟩ := opn2 m _ h1
  obtain ⟨x2, y2, z2⟩ := opn57 m _ h2
  obtain ⟨x3, y3, z3⟩ := opn44 m _ h3
  refine ⟨⟨x0, x1, x2, x3⟩, ?_, ⟨z0, z1, z2, z3⟩⟩
  subst e; subst e3; subst e2; subst e1; subst e0
  subst y0; subst y1; subst y2; subst y3
  rfl
theorem opn54 : OpnU Tryz.prog 54 (Z1r Z22) (fun (x : List Z1o) => x.length ≤ 1048576 ∧ ∀ y ∈ x, Zf0 y) := Z8v opn59 (by kernel_rfl)
theorem opn56 : OpnU Tryz.prog 56 er15_Image Zcw := by
  intro n ims hs
  obtain ⟨m, hs⟩ := Z77 hs Tryz.underlying56
  obtain ⟨a0, b0, e0, h0, a1, b1, e1, h1, a2, b2, e2, h2, e⟩ := hs
  obtain ⟨x0, y0, z0⟩ := opn2 m _ h0
  obtain ⟨x1, y1, z1⟩ := opn53 m _ h1
  obtain ⟨x2, y2, z2⟩ := opn54 m _ h2
  refine ⟨⟨x0, x1, x2⟩, ?_, ⟨z0, z1, z2⟩⟩
  subst e; subst e2; subst e1; subst e0
  subst y0; subst y1; subst y2
  rfl
theorem one_le {H : Type} (d : DataW H) : 1 ≤ Rows.uptoBulk d := by
  cases d with
  | lit l => cases l <;> simp [Rows.uptoBulk]
  | nil => simp [Rows.uptoBulk]
  | ptr d => simp [Rows.uptoBulk]
  | slice elems spare => simp [Rows.uptoBulk]
  | agg parts => simp [Rows.uptoBulk]
  | iface t d => simp [Rows.uptoBulk]
  | map entries => simp [Rows.uptoBulk]
  | held h => simp [Rows.uptoBulk]
theorem part_le {H : Type} {d : DataW H} {l : List (DataW H)} (h : d ∈ l) : Rows.uptoBulk d ≤ Rows.uptoBulkAll l := by
  induction l with
  | nil => cases h
  | cons x r ih =>
    simp only [Rows.uptoBulkAll]
    rcases List.mem_cons.1 h with e | e
    · subst e; omega
    · have := ih e; omega
theorem length_le {H : Type} (l : List (DataW H)) : l.length ≤ Rows.uptoBulkAll l := by
  induction l with
  | nil => simp [Rows.uptoBulkAll]
  | cons x r ih => have := one_le x; simp only [Rows.uptoBulkAll, List.length_cons]; omega
theorem bk (H : Type) : BK (Rows.uptoBulk (H := H)) := ⟨fun l => by simp [Rows.uptoBulk], fun a b => by have := length_le a; simp only [Rows.uptoBulk]; omega, fun a b d h => by have := part_le h; simp only [Rows.uptoBulk]; omega, fun a d h => by have := part_le h; simp only [Rows.uptoBulk]; omega⟩
set_option maxRecDepth 100000 in
theorem lifted (os : Os) (started : os.Started) (H : Type) (enc : TypeId × Value → H) (F : Stop.Interp) :
    ReturnsInHanded {} Tryz.checked os 6 .any ((Rows.OpenSpec.upto Rows.entryImagesSpec).pre6 enc Tryz.prog Tryz.f6 Rows.entryImagesUptoRow.domain false) (((Rows.OpenSpec.upto Rows.entryImagesSpec).at F).post enc Tryz.prog Tryz.f6 false true false false) := by
  refine returnsInHanded_of_cond (C := Tryz.checked) (s := Rows.OpenSpec.upto Rows.entryImagesSpec) (k := Rows.uptoSmall) rfl own started (by kernel_rfl) Tryz.func6
    (OpenSpec.witness (enc := enc) (C := Tryz.checked) (s := Rows.OpenSpec.upto Rows.entryImagesSpec) (k := Rows.uptoSmall) rfl false ⟨#[], #[.agg #[.int .i64 0, .slice none 0 0, .slice none 0 0]], []⟩ 16 (by kernel_rfl) (by kernel_rfl) (by kernel_rfl)
      (x := ([.agg [.lit (.int .i64 0), .nil, .nil]], [], [])) (by kernel_rfl) rfl (by kernel_rfl)) ?_
  intro W base args ds gs before hval0 hW hcnd hsz0 _
  show Calls Tryz.prog 6 args W fun e W' => ∃ v, e = .returned v ∧ Rows.entryImagesSpec.post enc Tryz.prog Tryz.f6 false true false false W args v W'
  have hval : ∀ (j : Nat) t v, Tryz.f6.params[j]? = some t → args[j]? = some v → Value.okWide Tryz.prog W .any base t v := hval0
  have hW' := hW
  obtain ⟨p, q, hA0, hV, rfl, hfz, hnd⟩ := hW
  have hA : DataW.TrodAll enc Tryz.prog W 0 (fun _ => true) true Tryz.f6.params.toList args.toList ds p := hA0
  rw [Tryz.params6] at hA hval
  obtain ⟨v0, vs0, d0, ds0, p0, q0, hargs, rfl, rfl, h0, r0⟩ := trodAll_cons hA
  obtain ⟨rfl, rfl, rfl⟩ := trodAll_nil r0
  obtain rfl : args = #[v0] := by cases args; simp_all
  obtain ⟨rfl, rfl⟩ := trodVars_none hV
  have hsz : Rows.uptoBulkAll (d0 :: [] ++ []) ≤ 1048576 := of_decide_eq_true hsz0
  have hw0 : Rows.uptoBulk d0 ≤ upN := Nat.le_trans (part_le (by simp)) hsz
  have lt0 : ∀ x ∈ p0, x.block < W.heap.size := by obtain ⟨m, hm⟩ := h0; exact DataW.trod_lt m _ _ _ hm
  obtain ⟨ims0, rep0, sh0⟩ := arg_openU (bk H) (b := true) 10 (hval 0 56 v0 rfl rfl) (by kernel_rfl) (by kernel_rfl) h0 hw0 (fun _ => none)
  obtain ⟨a0, rfl, R0⟩ := opn56 _ _ sh0
  clear hA0 hval0 hsz0 hsz
  refine ((Z0q.ok a0 true (entryImages_R a0 R0)).law (w := W) (vs := [v0]) rfl (fun j h h' => ?_)).mono fun e W' ⟨he, bel⟩ => ?_
  · match j with
    | 0 => exact rep0
    | j + 1 => simp at h <;> omega
  · subst he
    exact ⟨_, rfl, _, _, _, [], _, [], hW', trodAll_mk1 (shut_bool Tryz.underlying4 _), (trodAll_cons_mk (Below.trod laidOut (by kernel_rfl) (of_decide_eq_true (by kernel_rfl)) h0 bel lt0) trodAll_mk0), rfl, bel.frame _, fun h => by cases h⟩

theorem over : Rows.entryImagesUptoRow.holds Tryz.pinned (Rows.OpenSpec.upto Rows.entryImagesSpec) :=
  OpenClaim.holds_of_cond 6 Tryz.f6 rfl rfl rfl rfl rfl rfl rfl ⟨rfl, rfl, rfl, rfl, rfl⟩ rfl rfl rfl rfl rfl (by kernel_rfl) Tryz.func6 (by kernel_rfl)
    (of_decide_eq_true (by kernel_rfl)) (by unfold Func.isWrapper; first | (rw [if_pos (by decide +kernel)]; kernel_rfl) | (rw [if_neg (by decide +kernel)]; exact ⟨rfl, rfl⟩))
    (fun os started H enc _ F => lifted os started H enc F)
theorem proved : Rows.EntryImagesUptoSaid := over
#print axioms proved
end Go.Proofs.YtinhldbfifpakaaGreat.entryImages
namespace Go.Proofs.YtinhldbfifpakaaGreat
theorem entryImages_holds : Rows.EntryImagesUptoSaid := entryImages.proved
#print axioms entryImages_holds
end Go.Proofs.YtinhldbfifpakaaGreat
