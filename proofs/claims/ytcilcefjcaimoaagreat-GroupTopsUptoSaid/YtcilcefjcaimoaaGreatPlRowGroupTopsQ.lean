
/-
Whatever GroupTops is handed, the call returns true and leaves its arguments as they were: proved for every input, with no condition beside the row's own.
-/
import Derived.Test.YtcilcefjcaimoaaGreatPxGroupTops18
import Derived.Test.YtcilcefjcaimoaaGreatRows
import Derived.JoinedCond
import Derived.WalkKit
import Derived.ProofKit
import Derived.OpenShut
import Derived.ShutString
import Derived.ChangeOld
import Derived.Below
import Derived.SizedLaws
import Derived.Carry
set_option linter.unusedVariables false
namespace Go.Proofs.YtcilcefjcaimoaaGreat.groupTops
open Go.ChangeShapes Go.WideShapes Go.ChangeAt Go.RowKit
open Go.ChangeMaps (open_string shut_string)
open Go.Pv Go.Proofs.YtcilcefjcaimoaaGreat.PvGQ

theorem own : ownKnob Tryz.prog.godebug = none := by kernel_rfl
theorem laidOut : laidOutB Tryz.prog = true := by kernel_rfl
theorem opn9 : OpnU Tryz.prog 9 Z9 (fun s => s.size ≤ 1048576) := opnU_str (by kernel_rfl)
theorem opn74 : OpnU Tryz.prog 74 Zs RLabel := by
  intro n ims hs
  obtain ⟨m, hs⟩ := Z4q hs Tryz.underlying74
  obtain ⟨a0, b0, e0, h0, a1, b1, e1, h1, e⟩ := hs
  obtain ⟨x0, y0, z0⟩ := opn9 m _ h0
  obtain ⟨x1, y1, z1⟩ := opn9 m _ h1
  refine ⟨⟨x0, x1⟩, ?_, ⟨z0, z1⟩⟩
  subst e; subst e1; subst e0
  subst y0; subst y1
  rfl
theorem opn45 : OpnU Tryz.prog 45 (Z2l Zs) (fun (x : List Z00) => x.length ≤ 1048576 ∧ ∀ y ∈ x, RLabel y) := Z56 opn74 (by kernel_rfl)
theorem opn2 : OpnU Tryz.prog 2 (Z6l .i64) (I64) := opnU_int _ wf_i64 (by kernel_rfl)
theorem opn3 : OpnU Tryz.prog 3 (Z6l .i64) (I64) := opnU_int _ wf_i64 (by kernel_rfl)
theorem opn22 : OpnU Tryz.prog 22 (Z6l .u64) (U64) := opnU_int _ wf_u64 (by kernel_rfl)
theorem opn132 : OpnU Tryz.prog 132 Z4 RBucket := by
  intro n ims hs
  obtain ⟨m, hs⟩ := Z4q hs Tryz.underlying132
  obtain ⟨a0, b0, e0, h0, a1, b1, e1, h1, e⟩ := hs
  obtain ⟨x0, y0, z0⟩ := opn3 m _ h0
  obtain ⟨x1, y1, z1⟩ := opn22 m _ h1
  refine ⟨⟨x0, x1⟩, ?_, ⟨z0, z1⟩⟩
  subst e; subst e1; subst e0
  subst y0; subst y1
  rfl
theorem opn46 : OpnU Tryz.prog 46 (Z2l Z4) (fun (x : List Z6) => x.length ≤ 1048576 ∧ ∀ y ∈ x, RBucket y) := Z56 opn132 (by kernel_rfl)
theorem opn48 : OpnU Tryz.prog 48 Z3r RHist := by
  intro n ims hs
  obtain ⟨m, hs⟩ := Z4q hs Tryz.underlying48
  obtain ⟨a0, b0, e0, h0, a1, b1, e1, h1, a2, b2, e2, h2, a3, b3, e3, h3, a4, b4, e4, h4, a5, b5, e5, h5, a6, b6, e6, h6, a7, b7, e7, h7, e⟩ := hs
  obtain ⟨x0, y0, z0⟩ := opn3 m _ h0
  obtain ⟨x1, y1, z1⟩ := opn3 m _ h1
  obtain ⟨x2, y2, z2⟩ := opn3 m _ h2
  obtain ⟨x3, y3, z3⟩ := opn22 m _ h3
  obtain ⟨x4, y4, z4⟩ := opn22 m _ h4
  obtain ⟨x5, y5, z5⟩ := opn2 m _ h5
  obtain ⟨x6, y6, z6⟩ := opn46 m _ h6
  obtain ⟨x7, y7, z7⟩ := opn46 m _ h7
  refine ⟨⟨x0, x1, x2, x3, x4, x5, x6, x7⟩, ?_, ⟨z0, z1, z2, z3, z4, z5, z6, z7⟩⟩
  subst e; subst e7; subst e6; subst e5; subst e4; subst e3; subst e2; subst e1; subst e0
  subst y0; subst y1; subst y2; subst y3; subst y4; subst y5; subst y6; subst y7
  rfl
theorem opn80 : OpnU Tryz.prog 80 Z0e RSample := by
  intro n ims hs
  obtain ⟨m, hs⟩ := Z4q hs Tryz.underlying80
  obtain ⟨a0, b0, e0, h0, a1, b1, e1, h1, e⟩ := hs
  obtain ⟨x0, y0, z0⟩ := opn2 m _ h0
  obtain ⟨x1, y1, z1⟩ := opn48 m _ h1
  refine ⟨⟨x0, x1⟩, ?_, ⟨z0, z1⟩⟩
  subst e; subst e1; subst e0
  subst y0; subst y1
  rfl
theorem opn58 : OpnU Tryz.prog 58 (Z2l Z0e) (fun (x : List Z0h) => x.length ≤ 1048576 ∧ ∀ y ∈ x, RSample y) := Z56 opn80 (by kernel_rfl)
theorem opn60 : OpnU Tryz.prog 60 Zm RSeries := by
  intro n ims hs
  obtain ⟨m, hs⟩ := Z4q hs Tryz.underlying60
  obtain ⟨a0, b0, e0, h0, a1, b1, e1, h1, e⟩ := hs
  obtain ⟨x0, y0, z0⟩ := opn45 m _ h0
  obtain ⟨x1, y1, z1⟩ := opn58 m _ h1
  refine ⟨⟨x0, x1⟩, ?_, ⟨z0, z1⟩⟩
  subst e; subst e1; subst e0
  subst y0; subst y1
  rfl
theorem opn26 : OpnU Tryz.prog 26 (Z2l Zm) (fun (x : List Zx) => x.length ≤ 1048576 ∧ ∀ y ∈ x, RSeries y) := Z56 opn60 (by kernel_rfl)
theorem opn69 : OpnU Tryz.prog 69 (Z2l (Z6l .u64)) (fun (x : List Int) => x.length ≤ 1048576 ∧ ∀ y ∈ x, U64 y) := Z56 opn22 (by kernel_rfl)
theorem one_le {H : Type} (d : DataW H) : 1 ≤ Rows.uptoBulk d := by
  cases d with
  | lit l => cases l <;> simp [Rows.uptoBulk]
  | nil => simp [Rows.uptoBulk]
  | ptr d => simp [Rows.uptoBulk]
  | slice elems spare => simp [Rows.uptoBulk]
  | agg parts => simp [Rows.uptoBulk]
  | iface t d => simp [Rows.uptoBulk]
  | map entries => simp [Rows.uptoBulk]
  | held h => simp [Rows.uptoBulk]
theorem part_le {H : Type} {d : DataW H} {l : List (DataW H)} (h : d ∈ l) : Rows.uptoBulk d ≤ Rows.uptoBulkAll l := by
  induction l with
  | nil => cases h
  | cons x r ih =>
    simp only [Rows.uptoBulkAll]
    rcases List.mem_cons.1 h with e | e
    · subst e; omega
    · have := ih e; omega
theorem length_le {H : Type} (l : List (DataW H)) : l.length ≤ Rows.uptoBulkAll l := by
  induction l with
  | nil => simp [Rows.uptoBulkAll]
  | cons x r ih => have := one_le x; simp only [Rows.uptoBulkAll, List.length_cons]; omega
theorem bk (H : Type) : BK (Rows.uptoBulk (H := H)) := ⟨fun l => by simp [Rows.uptoBulk], fun a b => by have := length_le a; simp only [Rows.uptoBulk]; omega, fun a b d h => by have := part_le h; simp only [Rows.uptoBulk]; omega, fun a d h => by have := part_le h; simp only [Rows.uptoBulk]; omega⟩
set_option maxRecDepth 100000 in
theorem lifted (os : Os) (started : os.Started) (H : Type) (enc : TypeId × Value → H) (F : Stop.Interp) :
    ReturnsInHanded {} Tryz.checked os 7 .any ((Rows.OpenSpec.upto Rows.groupTopsSpec).pre6 enc Tryz.prog Tryz.f7 Rows.groupTopsUptoRow.domain false) (((Rows.OpenSpec.upto Rows.groupTopsSpec).at F).post enc Tryz.prog Tryz.f7 false true false false) := by
  refine returnsInHanded_of_cond (C := Tryz.checked) (s := Rows.OpenSpec.upto Rows.groupTopsSpec) (k := Rows.uptoSmall) rfl own started (by kernel_rfl) Tryz.func7
    (OpenSpec.witness (enc := enc) (C := Tryz.checked) (s := Rows.OpenSpec.upto Rows.groupTopsSpec) (k := Rows.uptoSmall) rfl false ⟨#[], #[.slice none 0 0, .slice none 0 0, .int .i64 0, .string ByteArray.empty], []⟩ 16 (by kernel_rfl) (by kernel_rfl) (by kernel_rfl)
      (x := ([.nil, .nil, .lit (.int .i64 0), .lit (.string [])], [], [])) (by kernel_rfl) rfl (by kernel_rfl)) ?_
  intro W base args ds gs before hval0 hW hcnd hsz0 _
  show Calls Tryz.prog 7 args W fun e W' => ∃ v, e = .returned v ∧ Rows.groupTopsSpec.post enc Tryz.prog Tryz.f7 false true false false W args v W'
  have hval : ∀ (j : Nat) t v, Tryz.f7.params[j]? = some t → args[j]? = some v → Value.okWide Tryz.prog W .any base t v := hval0
  have hW' := hW
  obtain ⟨p, q, hA0, hV, rfl, hfz, hnd⟩ := hW
  have hA : DataW.TrodAll enc Tryz.prog W 0 (fun _ => true) true Tryz.f7.params.toList args.toList ds p := hA0
  rw [Tryz.params7] at hA hval
  obtain ⟨v0, vs0, d0, ds0, p0, q0, hargs, rfl, rfl, h0, r0⟩ := trodAll_cons hA
  obtain ⟨v1, vs1, d1, ds1, p1, q1, rfl, rfl, rfl, h1, r1⟩ := trodAll_cons r0
  obtain ⟨v2, vs2, d2, ds2, p2, q2, rfl, rfl, rfl, h2, r2⟩ := trodAll_cons r1
  obtain ⟨v3, vs3, d3, ds3, p3, q3, rfl, rfl, rfl, h3, r3⟩ := trodAll_cons r2
  obtain ⟨rfl, rfl, rfl⟩ := trodAll_nil r3
  obtain rfl : args = #[v0, v1, v2, v3] := by cases args; simp_all
  obtain ⟨rfl, rfl⟩ := trodVars_none hV
  have hsz : Rows.uptoBulkAll (d0 :: d1 :: d2 :: d3 :: [] ++ []) ≤ 1048576 := of_decide_eq_true hsz0
  have hw0 : Rows.uptoBulk d0 ≤ upN := Nat.le_trans (part_le (by simp)) hsz
  have hw1 : Rows.uptoBulk d1 ≤ upN := Nat.le_trans (part_le (by simp)) hsz
  have hw2 : Rows.uptoBulk d2 ≤ upN := Nat.le_trans (part_le (by simp)) hsz
  have hw3 : Rows.uptoBulk d3 ≤ upN := Nat.le_trans (part_le (by simp)) hsz
  have lt0 : ∀ x ∈ p0, x.block < W.heap.size := by obtain ⟨m, hm⟩ := h0; exact DataW.trod_lt m _ _ _ hm
  obtain ⟨ims0, rep0, sh0⟩ := Z7g (bk H) (b := false) 9 (hval 0 26 v0 rfl rfl) (by kernel_rfl) (by kernel_rfl) h0 hw0 (fun _ => none)
  obtain ⟨a0, rfl, R0⟩ := opn26 _ _ sh0
  have lt1 : ∀ x ∈ p1, x.block < W.heap.size := by obtain ⟨m, hm⟩ := h1; exact DataW.trod_lt m _ _ _ hm
  obtain ⟨ims1, rep1, sh1⟩ := Z7g (bk H) (b := false) 3 (hval 1 69 v1 rfl rfl) (by kernel_rfl) (by kernel_rfl) h1 hw1 (fun _ => none)
  obtain ⟨a1, rfl, R1⟩ := opn69 _ _ sh1
  have lt2 : ∀ x ∈ p2, x.block < W.heap.size := by obtain ⟨m, hm⟩ := h2; exact DataW.trod_lt m _ _ _ hm
  obtain ⟨ims2, rep2, sh2⟩ := Z7g (bk H) (b := false) 2 (hval 2 3 v2 rfl rfl) (by kernel_rfl) (by kernel_rfl) h2 hw2 (fun _ => none)
  obtain ⟨a2, rfl, R2⟩ := opn3 _ _ sh2
  have lt3 : ∀ x ∈ p3, x.block < W.heap.size := by obtain ⟨m, hm⟩ := h3; exact DataW.trod_lt m _ _ _ hm
  obtain ⟨ims3, rep3, sh3⟩ := Z7g (bk H) (b := false) 2 (hval 3 9 v3 rfl rfl) (by kernel_rfl) (by kernel_rfl) h3 hw3 (fun _ => none)
  obtain ⟨a3, rfl, R3⟩ := opn9 _ _ sh3
  clear hA0 hval0 hsz0 hsz
  refine ((Zn.ok a0 a1 a2 a3 true (groupTops_R a0 a1 a2 a3 R0 R1 R2 R3)).law (w := W) (vs := [v0, v1, v2, v3]) rfl (fun j h h' => ?_)).mono fun e W' ⟨he, bel⟩ => ?_
  · match j with
    | 0 => exact rep0
    | 1 => exact rep1
    | 2 => exact rep2
    | 3 => exact rep3
    | j + 4 => simp at h <;> omega
  · subst he
    exact ⟨_, rfl, _, _, _, [], _, [], hW', trodAll_mk1 (shut_bool Tryz.underlying4 _), (trodAll_cons_mk (Below.trod laidOut (by kernel_rfl) (of_decide_eq_true (by kernel_rfl)) h0 bel lt0) (trodAll_cons_mk (Below.trod laidOut (by kernel_rfl) (of_decide_eq_true (by kernel_rfl)) h1 bel lt1) (trodAll_cons_mk (Below.trod laidOut (by kernel_rfl) (of_decide_eq_true (by kernel_rfl)) h2 bel lt2) (trodAll_cons_mk (Below.trod laidOut (by kernel_rfl) (of_decide_eq_true (by kernel_rfl)) h3 bel lt3) trodAll_mk0)))), rfl, bel.frame _, fun h => by cases h⟩

theorem over : Rows.groupTopsUptoRow.holds Tryz.pinned (Rows.OpenSpec.upto Rows.groupTopsSpec) :=
  OpenClaim.holds_of_cond 7 Tryz.f7 rfl rfl rfl rfl rfl rfl rfl ⟨rfl, rfl, rfl, rfl, rfl⟩ rfl rfl rfl rfl rfl (by kernel_rfl) Tryz.func7 (by kernel_rfl)
    (of_decide_eq_true (by kernel_rfl)) (by unfold Func.isWrapper; first | (rw [if_pos (by decide +kernel)]; kernel_rfl) | (rw [if_neg (by decide +kernel)]; exact ⟨rfl, rfl⟩))
    (fun os started H enc _ F => lifted os started H enc F)
theorem proved : Rows.GroupTopsUptoSaid := over
#print axioms proved
end Go.Proofs.YtcilcefjcaimoaaGreat.groupTops
namespace Go.Proofs.YtcilcefjcaimoaaGreat
theorem groupTops_holds : Rows.GroupTopsUptoSaid := groupTops.proved
#print axioms groupTops_holds
end Go.Proofs.YtcilcefjcaimoaaGreat
