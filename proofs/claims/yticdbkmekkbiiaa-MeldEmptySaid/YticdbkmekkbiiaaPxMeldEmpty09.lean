import Derived.Test.YticdbkmekkbiiaaProg
import Derived.Test.YticdbkmekkbiiaaPxMeldEmpty08
set_option linter.unusedVariables false
set_option linter.unnecessarySimpa false
set_option linter.unusedSimpArgs false
set_option maxRecDepth 10000
namespace Go.Proofs.Yticdbkmekkbiiaa.PvGB
open Go Go.Pv
def f_meld_Sum.l0 (a0 : List THist) (v : Int × Int × Int × Int × Int × Int × (List TBucket) × (List TBucket) × Int) : Option ((THist × Int) ⊕ (Int × Int × Int × Int × Int × Int × (List TBucket) × (List TBucket))) := match v with
  | (x3381, x3382, x3383, x3384, x3385, x3386, x3387, x3388, x3389) => if (decide (x3389 < (((a0.drop (Int.toNat ((1 : Int)))).take ((Int.toNat ((a0.length : Int))) - (Int.toNat ((1 : Int))))).length : Int))) = true then ((at? ((a0.drop (Int.toNat ((1 : Int)))).take ((Int.toNat ((a0.length : Int))) - (Int.toNat ((1 : Int))))) x3389) >>= fun b3394 => (f_meld_Add.f (⟨x3381, x3382, x3383, x3384, x3385, x3386, x3387, x3388⟩ : THist) b3394) >>= fun t3399 => if (t3399.2 != (0 : Int)) = true then (some (.inl ((⟨0, 0, 0, 0, 0, 0, [], []⟩ : THist), t3399.2))) else (f_meld_Sum.l0 a0 ((t3399.1).f0, (t3399.1).f1, (t3399.1).f2, (t3399.1).f3, (t3399.1).f4, (t3399.1).f5, (t3399.1).f6, (t3399.1).f7, IntKind.i64.wrap (x3389 + (1 : Int))))) else (some (.inr (x3381, x3382, x3383, x3384, x3385, x3386, x3387, x3388)))
partial_fixpoint
def f_meld_Sum.f (a0 : List THist) : Option (THist × Int) := if ((a0.length : Int) == (0 : Int)) = true then (some ((⟨0, 0, 0, 0, 0, 0, [], []⟩ : THist), 30)) else ((at? a0 0) >>= fun b3360 => (f_hist_Clone.f b3360) >>= fun t3363 => (chk (0 ≤ (1 : Int) ∧ (1 : Int) ≤ (a0.length : Int) ∧ (a0.length : Int) ≤ (a0.length : Int))) >>= fun _ => (f_meld_Sum.l0 a0 ((t3363).f0, (t3363).f1, (t3363).f2, (t3363).f3, (t3363).f4, (t3363).f5, (t3363).f6, (t3363).f7, 0)) >>= fun oo => match oo with | .inl rr => (some rr) | .inr (x3402, x3403, x3404, x3405, x3406, x3407, x3408, x3409) => (some ((⟨x3402, x3403, x3404, x3405, x3406, x3407, x3408, x3409⟩ : THist), 0)))
theorem f_meld_Sum.ok (a0 : List THist) (r : THist × Int) (H : f_meld_Sum.f a0 = some r) : Pv.Fn Try.prog 29 [.im (.row (a0.map eHist))] [] 0 (fun x o => x = .tup [.agg (aHist (r.1)), iV .i64 r.2] ∧ o = []) := by
  unfold f_meld_Sum.f at H
  refine Fn.bodyK [] Try.func29 rfl rfl (fun Γ hP hn => ?_)
  have hm : Try.prog.follows .mixedOrders = true := by kernel_rfl
  replace hn : Γ.n = 35 := hn
  refine AWp.seq ?_
  refine reg hP hn hm [(0, .k 0)] [0, 2] [0] ⟨[(0, .im (.row (a0.map eHist))), (2, .ptr 0 0 0)], [(0, some (.box 25 [iV .i64 0, iV .i64 0, iV .i64 0, iV .u64 0, iV .u64 0, iV .i64 0, .none0, .none0]))], 0⟩ [] (by kernel_rfl) trivial ?_
  refine AWp.seq ?_
  refine AWp.seq ?_
  refine reg hP hn hm [(1, .any (iV .i64 (a0.length : Int)))] [0, 2, 10] [0] ⟨[(0, .im (.row (a0.map eHist))), (2, .ptr 0 0 0), (10, bV ((a0.length : Int) == (0 : Int)))], [(0, some (.box 25 [iV .i64 0, iV .i64 0, iV .i64 0, iV .u64 0, iV .u64 0, iV .i64 0, .none0, .none0]))], 0⟩ [((a0.map eHist).length : Int) = (a0.length : Int)] (by kernel_rfl) ⟨by rw [len_map], trivial⟩ ?_
  refine AWp.cond ((a0.length : Int) == (0 : Int)) rfl (fun c3354 => ?_) (fun c3354 => ?_)
  · replace H := (ifT c3354).symm.trans H
    refine AWp.seq ?_
    refine reg hP hn hm [] [2, 3] [0] ⟨[(2, .ptr 0 0 0), (3, iV .i64 30)], [(0, some (.box 25 [iV .i64 0, iV .i64 0, iV .i64 0, iV .u64 0, iV .u64 0, iV .i64 0, .none0, .none0]))], 0⟩ [] (by kernel_rfl) trivial ?_
    refine AWp.conv (inv := [(0, 0)]) (vk := []) (e0 := []) (t := ⟨[(2, .ptr 0 0 0), (3, iV .i64 30)], [(0, some (.box 25 (aHist ((⟨0, 0, 0, 0, 0, 0, [], []⟩ : THist)))))], 0⟩) (by kernel_rfl) ?_
    refine AWp.ret ?_
    obtain rfl := Option.some.inj H
    exact Exists.intro _ (And.intro (fun _ _ h => h) (And.intro (.inl rfl) (And.intro rfl (And.intro (by kernel_rfl) (by kernel_rfl)))))
  · replace H := (ifF c3354).symm.trans H
    refine AWp.skip ?_
    refine AWp.seq ?_
    obtain ⟨b3360, p3361, q3362, H⟩ := at_of H
    obtain ⟨t3363, e3364, H⟩ := bind_of H
    refine reg hP hn hm [(1, .c (eHist b3360)), (3, .call [] [(0, 1), (1, 2)] [] [1, 2] 0 (.agg [iV .i64 ((t3363).f0), iV .i64 ((t3363).f1), iV .i64 ((t3363).f2), iV .u64 ((t3363).f3), iV .u64 ((t3363).f4), iV .i64 ((t3363).f5), .own 0, .own 1]) [(0, some (.row 2 54 (((t3363).f6).map eBucket))), (1, some (.row 2 54 (((t3363).f7).map eBucket)))]), (4, .k 3)] [0, 2, 4] [0, 1, 2, 3] ⟨[(0, .im (.row (a0.map eHist))), (2, .ptr 0 0 0), (4, .ptr 3 0 0)], [(0, some (.box 25 [iV .i64 0, iV .i64 0, iV .i64 0, iV .u64 0, iV .u64 0, iV .i64 0, .none0, .none0])), (1, some (.row 2 54 (((t3363).f6).map eBucket))), (2, some (.row 2 54 (((t3363).f7).map eBucket))), (3, some (.box 25 [iV .i64 ((t3363).f0), iV .i64 ((t3363).f1), iV .i64 ((t3363).f2), iV .u64 ((t3363).f3), iV .u64 ((t3363).f4), iV .i64 ((t3363).f5), .own 1, .own 2]))], 0⟩ [0 ≤ (0 : Int), (a0.map eHist)[(Int.toNat (0))]? = some (eHist b3360), Enters Try.prog 26, Pv.Fn Try.prog 26 [.agg (aHist b3360)] [] 0 (fun r o => r = .agg [iV .i64 ((t3363).f0), iV .i64 ((t3363).f1), iV .i64 ((t3363).f2), iV .u64 ((t3363).f3), iV .u64 ((t3363).f4), iV .i64 ((t3363).f5), .own 0, .own 1] ∧ o = [(0, some (.row 2 54 (((t3363).f6).map eBucket))), (1, some (.row 2 54 (((t3363).f7).map eBucket)))])] (by kernel_rfl) ⟨by exact p3361, by exact el_map eHist q3362, by exact Try.call26, by exact f_hist_Clone.ok b3360 t3363 e3364, trivial⟩ ?_
    refine AWp.seq ?_
    refine AWp.seq ?_
    obtain ⟨c3366, H⟩ := chk_of H
    refine reg hP hn hm [(1, .rows (((a0.drop (Int.toNat ((1 : Int)))).take ((Int.toNat ((a0.length : Int))) - (Int.toNat ((1 : Int))))).map eHist)), (2, .any (iV .i64 (((a0.drop (Int.toNat ((1 : Int)))).take ((Int.toNat ((a0.length : Int))) - (Int.toNat ((1 : Int))))).length : Int)))] [2, 4, 17, 18, 19] [0, 1, 2, 3] ⟨[(2, .ptr 0 0 0), (4, .ptr 3 0 0), (17, .im (.row (((a0.drop (Int.toNat ((1 : Int)))).take ((Int.toNat ((a0.length : Int))) - (Int.toNat ((1 : Int))))).map eHist))), (18, iV .i64 (((a0.drop (Int.toNat ((1 : Int)))).take ((Int.toNat ((a0.length : Int))) - (Int.toNat ((1 : Int))))).length : Int)), (19, iV .i64 0)], [(0, some (.box 25 [iV .i64 0, iV .i64 0, iV .i64 0, iV .u64 0, iV .u64 0, iV .i64 0, .none0, .none0])), (1, some (.row 2 54 (((t3363).f6).map eBucket))), (2, some (.row 2 54 (((t3363).f7).map eBucket))), (3, some (.box 25 [iV .i64 ((t3363).f0), iV .i64 ((t3363).f1), iV .i64 ((t3363).f2), iV .u64 ((t3363).f3), iV .u64 ((t3363).f4), iV .i64 ((t3363).f5), .own 1, .own 2]))], 0⟩ [0 ≤ (1 : Int), (1 : Int) ≤ ((a0.map eHist).length : Int), ((a0.map eHist).length : Int) ≤ ((a0.map eHist).length : Int), ∀ c ∈ a0.map eHist, c.length = 8, ((a0.drop (Int.toNat ((1 : Int)))).take ((Int.toNat ((a0.length : Int))) - (Int.toNat ((1 : Int))))).map eHist = ((a0.map eHist).drop (Int.toNat ((1 : Int)))).take ((Int.toNat (((a0.map eHist).length : Int))) - (Int.toNat ((1 : Int)))), ((((a0.drop (Int.toNat ((1 : Int)))).take ((Int.toNat ((a0.length : Int))) - (Int.toNat ((1 : Int))))).map eHist).length : Int) = (((a0.drop (Int.toNat ((1 : Int)))).take ((Int.toNat ((a0.length : Int))) - (Int.toNat ((1 : Int))))).length : Int)] (by kernel_rfl) ⟨by exact c3366.1, by simpa using c3366.2.1, by simpa using c3366.2.2, by exact all_len _ _ _ (fun _ => rfl), by simp [cut1], by rw [len_map], trivial⟩ ?_
    refine AWp.block ?_
    obtain ⟨o3410, e3411, H⟩ := bind_of H
    refine AWp.loop (LWp.conv (inv := [(0, 5), (3, 6)]) (vk := [1, 2]) (e0 := []) (t := ⟨[(2, .ptr 5 0 0), (4, .ptr 6 0 0), (17, .im (.row (((a0.drop (Int.toNat ((1 : Int)))).take ((Int.toNat ((a0.length : Int))) - (Int.toNat ((1 : Int))))).map eHist))), (18, iV .i64 (((a0.drop (Int.toNat ((1 : Int)))).take ((Int.toNat ((a0.length : Int))) - (Int.toNat ((1 : Int))))).length : Int)), (19, iV .i64 0)], [(5, some (.box 25 [iV .i64 0, iV .i64 0, iV .i64 0, iV .u64 0, iV .u64 0, iV .i64 0, .none0, .none0])), (6, some (.box 25 (aHist (t3363))))], 0⟩) (by kernel_rfl) ?_)
    refine LWp.mono (Q := fun e s => (match (generalizing := false) o3410 with | .inl rr => e = .ret ∧ s.floor = 0 ∧ resOf Try.prog Try.f29 s = some (.tup [.agg (aHist (rr.1)), iV .i64 rr.2]) ∧ ([] : List (Nat × Option MObj)) = [] | .inr (x3402, x3403, x3404, x3405, x3406, x3407, x3408, x3409) => e = .exit 0 ∧ s = ⟨[(2, .ptr 8 0 0), (4, .ptr 9 0 0)], [(8, some (.box 25 [iV .i64 0, iV .i64 0, iV .i64 0, iV .u64 0, iV .u64 0, iV .i64 0, .none0, .none0])), (9, some (.box 25 (aHist ⟨x3402, x3403, x3404, x3405, x3406, x3407, x3408, x3409⟩)))], 0⟩)) (LWp.cv (withBody (fun body hbody => ?_))) ?_
    · refine f_meld_Sum.l0.partial_correctness a0 (motive := fun v o3410 => (match (generalizing := false) v with | (x3381, x3382, x3383, x3384, x3385, x3386, x3387, x3388, x3389) => LWp Γ body (fun e s => ∃ t, Cv Γ s t ∧ (match (generalizing := false) o3410 with | .inl rr => e = .ret ∧ t.floor = 0 ∧ resOf Try.prog Try.f29 t = some (.tup [.agg (aHist (rr.1)), iV .i64 rr.2]) ∧ ([] : List (Nat × Option MObj)) = [] | .inr (x3402, x3403, x3404, x3405, x3406, x3407, x3408, x3409) => e = .exit 0 ∧ t = ⟨[(2, .ptr 8 0 0), (4, .ptr 9 0 0)], [(8, some (.box 25 [iV .i64 0, iV .i64 0, iV .i64 0, iV .u64 0, iV .u64 0, iV .i64 0, .none0, .none0])), (9, some (.box 25 (aHist ⟨x3402, x3403, x3404, x3405, x3406, x3407, x3408, x3409⟩)))], 0⟩)) ⟨[(2, .ptr 5 0 0), (4, .ptr 6 0 0), (17, .im (.row (((a0.drop (Int.toNat ((1 : Int)))).take ((Int.toNat ((a0.length : Int))) - (Int.toNat ((1 : Int))))).map eHist))), (18, iV .i64 (((a0.drop (Int.toNat ((1 : Int)))).take ((Int.toNat ((a0.length : Int))) - (Int.toNat ((1 : Int))))).length : Int)), (19, iV .i64 x3389)], [(5, some (.box 25 [iV .i64 0, iV .i64 0, iV .i64 0, iV .u64 0, iV .u64 0, iV .i64 0, .none0, .none0])), (6, some (.box 25 (aHist ⟨x3381, x3382, x3383, x3384, x3385, x3386, x3387, x3388⟩)))], 0⟩)) ?_ _ _ e3411
      clear H e3411 o3410; intro self ih v o3410 H
      obtain ⟨x3381, x3382, x3383, x3384, x3385, x3386, x3387, x3388, x3389⟩ := v
      dsimp only at H
      subst hbody
      refine LWp.round ?_
      refine AWp.seq ?_
      refine reg hP hn hm [] [2, 4, 17, 18, 19, 20] [5, 6] ⟨[(2, .ptr 5 0 0), (4, .ptr 6 0 0), (17, .im (.row (((a0.drop (Int.toNat ((1 : Int)))).take ((Int.toNat ((a0.length : Int))) - (Int.toNat ((1 : Int))))).map eHist))), (18, iV .i64 (((a0.drop (Int.toNat ((1 : Int)))).take ((Int.toNat ((a0.length : Int))) - (Int.toNat ((1 : Int))))).length : Int)), (19, iV .i64 x3389), (20, bV (decide (x3389 < (((a0.drop (Int.toNat ((1 : Int)))).take ((Int.toNat ((a0.length : Int))) - (Int.toNat ((1 : Int))))).length : Int))))], [(5, some (.box 25 [iV .i64 0, iV .i64 0, iV .i64 0, iV .u64 0, iV .u64 0, iV .i64 0, .none0, .none0])), (6, some (.box 25 (aHist ⟨x3381, x3382, x3383, x3384, x3385, x3386, x3387, x3388⟩)))], 0⟩ [] (by kernel_rfl) trivial ?_
      refine AWp.seq ?_
      refine AWp.cond (decide (x3389 < (((a0.drop (Int.toNat ((1 : Int)))).take ((Int.toNat ((a0.length : Int))) - (Int.toNat ((1 : Int))))).length : Int))) rfl (fun c3390 => ?_) (fun c3390 => ?_)
      · replace H := (ifT c3390).symm.trans H
        refine AWp.skip ?_
        refine AWp.seq ?_
        refine AWp.block ?_
        refine AWp.seq ?_
        obtain ⟨b3394, p3395, q3396, H⟩ := at_of H
        refine reg hP hn hm [(0, .c (eHist b3394)), (2, .k 7)] [2, 4, 6, 17, 18, 19] [5, 6, 7] ⟨[(2, .ptr 5 0 0), (4, .ptr 6 0 0), (6, .ptr 7 0 0), (17, .im (.row (((a0.drop (Int.toNat ((1 : Int)))).take ((Int.toNat ((a0.length : Int))) - (Int.toNat ((1 : Int))))).map eHist))), (18, iV .i64 (((a0.drop (Int.toNat ((1 : Int)))).take ((Int.toNat ((a0.length : Int))) - (Int.toNat ((1 : Int))))).length : Int)), (19, iV .i64 x3389)], [(5, some (.box 25 [iV .i64 0, iV .i64 0, iV .i64 0, iV .u64 0, iV .u64 0, iV .i64 0, .none0, .none0])), (6, some (.box 25 (aHist ⟨x3381, x3382, x3383, x3384, x3385, x3386, x3387, x3388⟩))), (7, some (.box 25 (aHist b3394)))], 0⟩ [0 ≤ x3389, (((a0.drop (Int.toNat ((1 : Int)))).take ((Int.toNat ((a0.length : Int))) - (Int.toNat ((1 : Int))))).map eHist)[(Int.toNat (x3389))]? = some (eHist b3394)] (by kernel_rfl) ⟨by exact p3395, by exact el_map eHist q3396, trivial⟩ ?_
        refine AWp.seq ?_
        refine reg hP hn hm [] [2, 4, 6, 17, 18, 19] [5, 6, 7] ⟨[(2, .ptr 5 0 0), (4, .ptr 6 0 0), (6, .ptr 7 0 0), (17, .im (.row (((a0.drop (Int.toNat ((1 : Int)))).take ((Int.toNat ((a0.length : Int))) - (Int.toNat ((1 : Int))))).map eHist))), (18, iV .i64 (((a0.drop (Int.toNat ((1 : Int)))).take ((Int.toNat ((a0.length : Int))) - (Int.toNat ((1 : Int))))).length : Int)), (19, iV .i64 x3389)], [(5, some (.box 25 [iV .i64 0, iV .i64 0, iV .i64 0, iV .u64 0, iV .u64 0, iV .i64 0, .none0, .none0])), (6, some (.box 25 (aHist ⟨x3381, x3382, x3383, x3384, x3385, x3386, x3387, x3388⟩))), (7, some (.box 25 (aHist b3394)))], 0⟩ [] (by kernel_rfl) trivial ?_
        refine AWp.seq ?_
        obtain ⟨t3399, e3400, H⟩ := bind_of H
        refine reg hP hn hm [(2, .call [] [] [] [] 0 (.tup [.agg (aHist (t3399.1)), iV .i64 t3399.2]) [])] [2, 4, 7, 17, 18, 19] [5, 6] ⟨[(2, .ptr 5 0 0), (4, .ptr 6 0 0), (7, iV .i64 t3399.2), (17, .im (.row (((a0.drop (Int.toNat ((1 : Int)))).take ((Int.toNat ((a0.length : Int))) - (Int.toNat ((1 : Int))))).map eHist))), (18, iV .i64 (((a0.drop (Int.toNat ((1 : Int)))).take ((Int.toNat ((a0.length : Int))) - (Int.toNat ((1 : Int))))).length : Int)), (19, iV .i64 x3389)], [(5, some (.box 25 [iV .i64 0, iV .i64 0, iV .i64 0, iV .u64 0, iV .u64 0, iV .i64 0, .none0, .none0])), (6, some (.box 25 (aHist (t3399.1))))], 0⟩ [Enters Try.prog 21, Pv.Fn Try.prog 21 [.agg (aHist ⟨x3381, x3382, x3383, x3384, x3385, x3386, x3387, x3388⟩), .agg (aHist b3394)] [] 0 (fun r o => r = .tup [.agg (aHist (t3399.1)), iV .i64 t3399.2] ∧ o = [])] (by kernel_rfl) ⟨by exact Try.call21, by exact f_meld_Add.ok (⟨x3381, x3382, x3383, x3384, x3385, x3386, x3387, x3388⟩ : THist) b3394 t3399 e3400, trivial⟩ ?_
        refine AWp.seq ?_
        refine reg hP hn hm [] [2, 4, 7, 17, 18, 19, 30] [5, 6] ⟨[(2, .ptr 5 0 0), (4, .ptr 6 0 0), (7, iV .i64 t3399.2), (17, .im (.row (((a0.drop (Int.toNat ((1 : Int)))).take ((Int.toNat ((a0.length : Int))) - (Int.toNat ((1 : Int))))).map eHist))), (18, iV .i64 (((a0.drop (Int.toNat ((1 : Int)))).take ((Int.toNat ((a0.length : Int))) - (Int.toNat ((1 : Int))))).length : Int)), (19, iV .i64 x3389), (30, bV (t3399.2 != (0 : Int)))], [(5, some (.box 25 [iV .i64 0, iV .i64 0, iV .i64 0, iV .u64 0, iV .u64 0, iV .i64 0, .none0, .none0])), (6, some (.box 25 (aHist (t3399.1))))], 0⟩ [] (by kernel_rfl) trivial ?_
        refine AWp.cond (t3399.2 != (0 : Int)) rfl (fun c3401 => ?_) (fun c3401 => ?_)
        · replace H := (ifT c3401).symm.trans H
          refine AWp.seq ?_
          refine reg hP hn hm [] [2, 3] [5] ⟨[(2, .ptr 5 0 0), (3, iV .i64 t3399.2)], [(5, some (.box 25 [iV .i64 0, iV .i64 0, iV .i64 0, iV .u64 0, iV .u64 0, iV .i64 0, .none0, .none0]))], 0⟩ [] (by kernel_rfl) trivial ?_
          refine AWp.conv (inv := [(5, 0)]) (vk := []) (e0 := []) (t := ⟨[(2, .ptr 0 0 0), (3, iV .i64 t3399.2)], [(0, some (.box 25 (aHist ((⟨0, 0, 0, 0, 0, 0, [], []⟩ : THist)))))], 0⟩) (by kernel_rfl) ?_
          refine AWp.ret ?_
          obtain rfl := Option.some.inj H
          exact Exists.intro _ (And.intro (fun _ _ h => h) (And.intro rfl (And.intro rfl (And.intro (by kernel_rfl) (by kernel_rfl)))))
        · replace H := (ifF c3401).symm.trans H
          refine AWp.skip ?_
          refine reg hP hn hm [] [2, 4, 17, 18, 19] [5, 6] ⟨[(2, .ptr 5 0 0), (4, .ptr 6 0 0), (17, .im (.row (((a0.drop (Int.toNat ((1 : Int)))).take ((Int.toNat ((a0.length : Int))) - (Int.toNat ((1 : Int))))).map eHist))), (18, iV .i64 (((a0.drop (Int.toNat ((1 : Int)))).take ((Int.toNat ((a0.length : Int))) - (Int.toNat ((1 : Int))))).length : Int)), (19, iV .i64 (IntKind.i64.wrap (x3389 + (1 : Int))))], [(5, some (.box 25 [iV .i64 0, iV .i64 0, iV .i64 0, iV .u64 0, iV .u64 0, iV .i64 0, .none0, .none0])), (6, some (.box 25 (aHist (t3399.1))))], 0⟩ [] (by kernel_rfl) trivial ?_
          exact LWp.conv (inv := [(5, 5), (6, 6)]) (vk := []) (e0 := []) (t := ⟨[(2, .ptr 5 0 0), (4, .ptr 6 0 0), (17, .im (.row (((a0.drop (Int.toNat ((1 : Int)))).take ((Int.toNat ((a0.length : Int))) - (Int.toNat ((1 : Int))))).map eHist))), (18, iV .i64 (((a0.drop (Int.toNat ((1 : Int)))).take ((Int.toNat ((a0.length : Int))) - (Int.toNat ((1 : Int))))).length : Int)), (19, iV .i64 (IntKind.i64.wrap (x3389 + (1 : Int))))], [(5, some (.box 25 [iV .i64 0, iV .i64 0, iV .i64 0, iV .u64 0, iV .u64 0, iV .i64 0, .none0, .none0])), (6, some (.box 25 (aHist (t3399.1))))], 0⟩) (by kernel_rfl) (ih _ _ H)
      · replace H := (ifF c3390).symm.trans H
        refine AWp.exit ?_
        obtain rfl := Option.some.inj H
        exact Exists.intro _ (And.intro (fun _ _ h => h.conv (inv := [(5, 8), (6, 9)]) (vk := []) (e0 := []) (t := ⟨[(2, .ptr 8 0 0), (4, .ptr 9 0 0)], [(8, some (.box 25 [iV .i64 0, iV .i64 0, iV .i64 0, iV .u64 0, iV .u64 0, iV .i64 0, .none0, .none0])), (9, some (.box 25 (aHist ⟨x3381, x3382, x3383, x3384, x3385, x3386, x3387, x3388⟩)))], 0⟩) (by kernel_rfl)) (And.intro rfl rfl))
    · rcases o3410 with rr | ⟨x3402, x3403, x3404, x3405, x3406, x3407, x3408, x3409⟩
      · skip
        rintro e s ⟨rfl, hfl, hres⟩
        obtain rfl := Option.some.inj H
        exact Exists.intro _ (And.intro (fun _ _ h => h) (And.intro (.inl rfl) (And.intro hfl hres)))
      · skip
        rintro e s ⟨rfl, rfl⟩
        refine AWp.seq ?_
        refine reg hP hn hm [] [2, 3] [8] ⟨[(2, .ptr 8 0 0), (3, iV .i64 0)], [(8, some (.box 25 (aHist ⟨x3402, x3403, x3404, x3405, x3406, x3407, x3408, x3409⟩)))], 0⟩ [] (by kernel_rfl) trivial ?_
        refine AWp.conv (inv := [(8, 0)]) (vk := []) (e0 := []) (t := ⟨[(2, .ptr 0 0 0), (3, iV .i64 0)], [(0, some (.box 25 (aHist ((⟨x3402, x3403, x3404, x3405, x3406, x3407, x3408, x3409⟩ : THist)))))], 0⟩) (by kernel_rfl) ?_
        refine AWp.ret ?_
        obtain rfl := Option.some.inj H
        exact Exists.intro _ (And.intro (fun _ _ h => h) (And.intro (.inl rfl) (And.intro rfl (And.intro (by kernel_rfl) (by kernel_rfl)))))
def f_pluviallaw07_MeldEmpty.f (a0 : THist) : Option (Bool) := (f_pluviallaw07_right.f [a0]) >>= fun t3491 => if (!t3491) = true then ((f_pluviallaw07_awake.f) >>= fun t3496 => some t3496) else ((f_hist_Empty.f 0 a0.f1) >>= fun t3502 => (f_meld_Add.f a0 (t3502)) >>= fun t3504 => (f_meld_Sum.f [a0]) >>= fun t3508 => (f_meld_Sub.f a0 a0) >>= fun t3512 => ((if (t3504.2 != (0 : Int)) = true then (some true) else (if (t3508.2 != (0 : Int)) = true then (some true) else (if (t3512.2 != (0 : Int)) = true then (some true) else ((f_hist_Same.f (t3504.1) a0) >>= fun t3531 => if (!t3531) = true then (some true) else ((f_hist_Same.f (t3508.1) a0) >>= fun t3534 => if (!t3534) = true then (some true) else (if (((t3512.1).f4) != (0 : Int)) = true then (some true) else (if (((t3512.1).f5) != (0 : Int)) = true then (some true) else (if ((IntKind.i64.wrap ((((t3512.1).f6).length : Int) + (((t3512.1).f7).length : Int))) != (0 : Int)) = true then (some true) else ((f_meld_Reset.f a0 a0) >>= fun t3540 => some t3540))))))))) : Option (Bool)) >>= fun x3542 => if x3542 = true then (some false) else (if (a0.f0 != (0 : Int)) = true then ((f_pluviallaw07_awake.f) >>= fun t3547 => some t3547) else ((f_meld_Rise.f [a0, a0, a0]) >>= fun t3551 => (((f_pluviallaw07_awake.f) >>= fun t3558 => if t3558 = true then (if (t3551.2 == (0 : Int)) = true then (if (((t3551.1).f4) == (0 : Int)) = true then (some (((t3551.1).f5) == (0 : Int))) else (some false)) else (some false)) else (some false)) : Option (Bool)) >>= fun x3563 => some x3563)))
theorem f_pluviallaw07_MeldEmpty.ok (a0 : THist) (r : Bool) (H : f_pluviallaw07_MeldEmpty.f a0 = some r) : Pv.Fn Try.prog 9 [.agg (aHist a0)] [] 0 (fun x o => x = bV r ∧ o = []) := by
  unfold f_pluviallaw07_MeldEmpty.f at H
  refine Fn.bodyK [] Try.func9 rfl rfl (fun Γ hP hn => ?_)
  have hm : Try.prog.follows .mixedOrders = true := by kernel_rfl
  replace hn : Γ.n = 110 := hn
  refine AWp.seq ?_
  refine reg hP hn hm [(0, .k 0)] [1] [0] ⟨[(1, .ptr 0 0 0)], [(0, some (.box 25 (aHist a0)))], 0⟩ [] (by kernel_rfl) trivial ?_
  refine AWp.seq ?_
  refine AWp.seq ?_
  obtain ⟨t3491, e3492, H⟩ := bind_of H
  refine reg hP hn hm [(1, .app 1 ([a0].map eHist)), (2, .call [] [] [1] [] 0 (bV t3491) [])] [1, 14] [0] ⟨[(1, .ptr 0 0 0), (14, bV (!t3491))], [(0, some (.box 25 (aHist a0)))], 0⟩ [[a0].map eHist = [[iI .i64 a0.f0, iI .i64 a0.f1, iI .i64 a0.f2, iI .u64 a0.f3, iI .u64 a0.f4, iI .i64 a0.f5, .row (a0.f6.map eBucket), .row (a0.f7.map eBucket)]], Enters Try.prog 10, Pv.Fn Try.prog 10 [.im (.row ([a0].map eHist))] [] 0 (fun r o => r = bV t3491 ∧ o = [])] (by kernel_rfl) ⟨by exact rfl, by exact Try.call10, by exact f_pluviallaw07_right.ok [a0] t3491 e3492, trivial⟩ ?_
  refine AWp.cond (!t3491) rfl (fun c3493 => ?_) (fun c3493 => ?_)
  · replace H := (ifT c3493).symm.trans H
    refine AWp.seq ?_
    obtain ⟨t3496, e3497, H⟩ := bind_of H
    refine reg hP hn hm [(0, .call [] [] [] [] 0 (bV t3496) [])] [2] [] ⟨[(2, bV t3496)], [], 0⟩ [Enters Try.prog 11, Pv.Fn Try.prog 11 [] [] 0 (fun r o => r = bV t3496 ∧ o = [])] (by kernel_rfl) ⟨by exact Try.call11, by exact f_pluviallaw07_awake.ok  t3496 e3497, trivial⟩ ?_
    refine AWp.conv (inv := []) (vk := []) (e0 := []) (t := ⟨[(2, bV t3496)], [], 0⟩) (by kernel_rfl) ?_
    refine AWp.ret ?_
    obtain rfl := Option.some.inj H
    exact Exists.intro _ (And.intro (fun _ _ h => h) (And.intro (.inl rfl) (And.intro rfl (And.intro (by kernel_rfl) (by kernel_rfl)))))
  · replace H := (ifF c3493).symm.trans H
    refine AWp.skip ?_
    refine AWp.seq ?_
    obtain ⟨t3502, e3503, H⟩ := bind_of H
    obtain ⟨t3504, e3505, H⟩ := bind_of H
    refine reg hP hn hm [(3, .call [] [] [] [] 0 (.agg (aHist (t3502))) []), (4, .call [] [] [] [] 0 (.tup [.agg (aHist (t3504.1)), iV .i64 t3504.2]) []), (8, .k 2)] [1, 3, 4] [0, 2] ⟨[(1, .ptr 0 0 0), (3, .ptr 2 0 0), (4, iV .i64 t3504.2)], [(0, some (.box 25 (aHist a0))), (2, some (.box 25 (aHist (t3504.1))))], 0⟩ [Enters Try.prog 31, Pv.Fn Try.prog 31 [iV .i64 0, iV .i64 a0.f1] [] 0 (fun r o => r = .agg (aHist (t3502)) ∧ o = []), Enters Try.prog 21, Pv.Fn Try.prog 21 [.agg (aHist a0), .agg (aHist (t3502))] [] 0 (fun r o => r = .tup [.agg (aHist (t3504.1)), iV .i64 t3504.2] ∧ o = [])] (by kernel_rfl) ⟨by exact Try.call31, by exact f_hist_Empty.ok 0 a0.f1 t3502 e3503, by exact Try.call21, by exact f_meld_Add.ok a0 (t3502) t3504 e3505, trivial⟩ ?_
    refine AWp.seq ?_
    obtain ⟨t3508, e3509, H⟩ := bind_of H
    refine reg hP hn hm [(1, .app 3 ([a0].map eHist)), (2, .call [] [] [3] [] 0 (.tup [.agg (aHist (t3508.1)), iV .i64 t3508.2]) []), (6, .k 4)] [1, 3, 4, 5, 6] [0, 2, 4] ⟨[(1, .ptr 0 0 0), (3, .ptr 2 0 0), (4, iV .i64 t3504.2), (5, .ptr 4 0 0), (6, iV .i64 t3508.2)], [(0, some (.box 25 (aHist a0))), (2, some (.box 25 (aHist (t3504.1)))), (4, some (.box 25 (aHist (t3508.1))))], 0⟩ [[a0].map eHist = [[iI .i64 a0.f0, iI .i64 a0.f1, iI .i64 a0.f2, iI .u64 a0.f3, iI .u64 a0.f4, iI .i64 a0.f5, .row (a0.f6.map eBucket), .row (a0.f7.map eBucket)]], Enters Try.prog 29, Pv.Fn Try.prog 29 [.im (.row ([a0].map eHist))] [] 0 (fun r o => r = .tup [.agg (aHist (t3508.1)), iV .i64 t3508.2] ∧ o = [])] (by kernel_rfl) ⟨by exact rfl, by exact Try.call29, by exact f_meld_Sum.ok [a0] t3508 e3509, trivial⟩ ?_
    refine AWp.seq ?_
    obtain ⟨t3512, e3513, H⟩ := bind_of H
    refine reg hP hn hm [(2, .call [] [] [] [] 0 (.tup [.agg (aHist (t3512.1)), iV .i64 t3512.2]) []), (6, .k 5)] [1, 3, 4, 5, 6, 7, 8] [0, 2, 4, 5] ⟨[(1, .ptr 0 0 0), (3, .ptr 2 0 0), (4, iV .i64 t3504.2), (5, .ptr 4 0 0), (6, iV .i64 t3508.2), (7, .ptr 5 0 0), (8, iV .i64 t3512.2)], [(0, some (.box 25 (aHist a0))), (2, some (.box 25 (aHist (t3504.1)))), (4, some (.box 25 (aHist (t3508.1)))), (5, some (.box 25 (aHist (t3512.1))))], 0⟩ [Enters Try.prog 23, Pv.Fn Try.prog 23 [.agg (aHist a0), .agg (aHist a0)] [] 0 (fun r o => r = .tup [.agg (aHist (t3512.1)), iV .i64 t3512.2] ∧ o = [])] (by kernel_rfl) ⟨by exact Try.call23, by exact f_meld_Sub.ok a0 a0 t3512 e3513, trivial⟩ ?_
    refine AWp.seq ?_
    refine AWp.seq ?_
    obtain ⟨o3564, e3565, H⟩ := bind_of H
    refine AWp.mono (Q := fun e s => (match (generalizing := false) o3564 with | x3542 => e = .normal ∧ s = ⟨[(1, .ptr 6 0 0), (82, bV x3542)], [(6, some (.box 25 (aHist a0)))], 0⟩)) (AWp.cv ?_) ?_
    · replace H := e3565; clear e3565
      rcases Bool.eq_false_or_eq_true (t3504.2 != (0 : Int)) with c3528 | c3528
      · replace H := (ifT c3528).symm.trans H
        refine reg hP hn hm [(2, .b true)] [1, 82] [0] ⟨[(1, .ptr 0 0 0), (82, bV true)], [(0, some (.box 25 (aHist a0)))], 0⟩ [(t3504.2 != (0 : Int)) = true] (by kernel_rfl) ⟨by exact c3528, trivial⟩ ?_
        obtain rfl := Option.some.inj H
        exact Exists.intro _ (And.intro (fun _ _ h => h.conv (inv := [(0, 6)]) (vk := []) (e0 := []) (t := ⟨[(1, .ptr 6 0 0), (82, bV true)], [(6, some (.box 25 (aHist a0)))], 0⟩) (by kernel_rfl)) (And.intro rfl rfl))
      · replace H := (ifF c3528).symm.trans H
        rcases Bool.eq_false_or_eq_true (t3508.2 != (0 : Int)) with c3529 | c3529
        · replace H := (ifT c3529).symm.trans H
          refine reg hP hn hm [(2, .b false), (6, .b true)] [1, 82] [0] ⟨[(1, .ptr 0 0 0), (82, bV true)], [(0, some (.box 25 (aHist a0)))], 0⟩ [(t3504.2 != (0 : Int)) = false, (t3508.2 != (0 : Int)) = true] (by kernel_rfl) ⟨by exact c3528, by exact c3529, trivial⟩ ?_
          obtain rfl := Option.some.inj H
          exact Exists.intro _ (And.intro (fun _ _ h => h.conv (inv := [(0, 6)]) (vk := []) (e0 := []) (t := ⟨[(1, .ptr 6 0 0), (82, bV true)], [(6, some (.box 25 (aHist a0)))], 0⟩) (by kernel_rfl)) (And.intro rfl rfl))
        · replace H := (ifF c3529).symm.trans H
          rcases Bool.eq_false_or_eq_true (t3512.2 != (0 : Int)) with c3530 | c3530
          · replace H := (ifT c3530).symm.trans H
            refine reg hP hn hm [(2, .b false), (6, .b false), (10, .b true)] [1, 82] [0] ⟨[(1, .ptr 0 0 0), (82, bV true)], [(0, some (.box 25 (aHist a0)))], 0⟩ [(t3504.2 != (0 : Int)) = false, (t3508.2 != (0 : Int)) = false, (t3512.2 != (0 : Int)) = true] (by kernel_rfl) ⟨by exact c3528, by exact c3529, by exact c3530, trivial⟩ ?_
            obtain rfl := Option.some.inj H
            exact Exists.intro _ (And.intro (fun _ _ h => h.conv (inv := [(0, 6)]) (vk := []) (e0 := []) (t := ⟨[(1, .ptr 6 0 0), (82, bV true)], [(6, some (.box 25 (aHist a0)))], 0⟩) (by kernel_rfl)) (And.intro rfl rfl))
          · replace H := (ifF c3530).symm.trans H
            obtain ⟨t3531, e3532, H⟩ := bind_of H
            rcases Bool.eq_false_or_eq_true (!t3531) with c3533 | c3533
            · replace H := (ifT c3533).symm.trans H
              refine reg hP hn hm [(2, .b false), (6, .b false), (10, .b false), (13, .call [] [] [] [] 0 (bV t3531) []), (16, .b true)] [1, 82] [0] ⟨[(1, .ptr 0 0 0), (82, bV true)], [(0, some (.box 25 (aHist a0)))], 0⟩ [(t3504.2 != (0 : Int)) = false, (t3508.2 != (0 : Int)) = false, (t3512.2 != (0 : Int)) = false, Enters Try.prog 14, Pv.Fn Try.prog 14 [.agg (aHist (t3504.1)), .agg (aHist a0)] [] 0 (fun r o => r = bV t3531 ∧ o = []), (!t3531) = true] (by kernel_rfl) ⟨by exact c3528, by exact c3529, by exact c3530, by exact Try.call14, by exact f_hist_Same.ok (t3504.1) a0 t3531 e3532, by exact c3533, trivial⟩ ?_
              obtain rfl := Option.some.inj H
              exact Exists.intro _ (And.intro (fun _ _ h => h.conv (inv := [(0, 6)]) (vk := []) (e0 := []) (t := ⟨[(1, .ptr 6 0 0), (82, bV true)], [(6, some (.box 25 (aHist a0)))], 0⟩) (by kernel_rfl)) (And.intro rfl rfl))
            · replace H := (ifF c3533).symm.trans H
              obtain ⟨t3534, e3535, H⟩ := bind_of H
              rcases Bool.eq_false_or_eq_true (!t3534) with c3536 | c3536
              · replace H := (ifT c3536).symm.trans H
                refine reg hP hn hm [(2, .b false), (6, .b false), (10, .b false), (13, .call [] [] [] [] 0 (bV t3531) []), (16, .b false), (19, .call [] [] [] [] 0 (bV t3534) []), (22, .b true)] [1, 82] [0] ⟨[(1, .ptr 0 0 0), (82, bV true)], [(0, some (.box 25 (aHist a0)))], 0⟩ [(t3504.2 != (0 : Int)) = false, (t3508.2 != (0 : Int)) = false, (t3512.2 != (0 : Int)) = false, Enters Try.prog 14, Pv.Fn Try.prog 14 [.agg (aHist (t3504.1)), .agg (aHist a0)] [] 0 (fun r o => r = bV t3531 ∧ o = []), (!t3531) = false, Enters Try.prog 14, Pv.Fn Try.prog 14 [.agg (aHist (t3508.1)), .agg (aHist a0)] [] 0 (fun r o => r = bV t3534 ∧ o = []), (!t3534) = true] (by kernel_rfl) ⟨by exact c3528, by exact c3529, by exact c3530, by exact Try.call14, by exact f_hist_Same.ok (t3504.1) a0 t3531 e3532, by exact c3533, by exact Try.call14, by exact f_hist_Same.ok (t3508.1) a0 t3534 e3535, by exact c3536, trivial⟩ ?_
                obtain rfl := Option.some.inj H
                exact Exists.intro _ (And.intro (fun _ _ h => h.conv (inv := [(0, 6)]) (vk := []) (e0 := []) (t := ⟨[(1, .ptr 6 0 0), (82, bV true)], [(6, some (.box 25 (aHist a0)))], 0⟩) (by kernel_rfl)) (And.intro rfl rfl))
              · replace H := (ifF c3536).symm.trans H
                rcases Bool.eq_false_or_eq_true (((t3512.1).f4) != (0 : Int)) with c3537 | c3537
                · replace H := (ifT c3537).symm.trans H
                  refine reg hP hn hm [(2, .b false), (6, .b false), (10, .b false), (13, .call [] [] [] [] 0 (bV t3531) []), (16, .b false), (19, .call [] [] [] [] 0 (bV t3534) []), (22, .b false), (27, .b true)] [1, 82] [0] ⟨[(1, .ptr 0 0 0), (82, bV true)], [(0, some (.box 25 (aHist a0)))], 0⟩ [(t3504.2 != (0 : Int)) = false, (t3508.2 != (0 : Int)) = false, (t3512.2 != (0 : Int)) = false, Enters Try.prog 14, Pv.Fn Try.prog 14 [.agg (aHist (t3504.1)), .agg (aHist a0)] [] 0 (fun r o => r = bV t3531 ∧ o = []), (!t3531) = false, Enters Try.prog 14, Pv.Fn Try.prog 14 [.agg (aHist (t3508.1)), .agg (aHist a0)] [] 0 (fun r o => r = bV t3534 ∧ o = []), (!t3534) = false, (((t3512.1).f4) != (0 : Int)) = true] (by kernel_rfl) ⟨by exact c3528, by exact c3529, by exact c3530, by exact Try.call14, by exact f_hist_Same.ok (t3504.1) a0 t3531 e3532, by exact c3533, by exact Try.call14, by exact f_hist_Same.ok (t3508.1) a0 t3534 e3535, by exact c3536, by exact c3537, trivial⟩ ?_
                  obtain rfl := Option.some.inj H
                  exact Exists.intro _ (And.intro (fun _ _ h => h.conv (inv := [(0, 6)]) (vk := []) (e0 := []) (t := ⟨[(1, .ptr 6 0 0), (82, bV true)], [(6, some (.box 25 (aHist a0)))], 0⟩) (by kernel_rfl)) (And.intro rfl rfl))
                · replace H := (ifF c3537).symm.trans H
                  rcases Bool.eq_false_or_eq_true (((t3512.1).f5) != (0 : Int)) with c3538 | c3538
                  · replace H := (ifT c3538).symm.trans H
                    refine reg hP hn hm [(2, .b false), (6, .b false), (10, .b false), (13, .call [] [] [] [] 0 (bV t3531) []), (16, .b false), (19, .call [] [] [] [] 0 (bV t3534) []), (22, .b false), (27, .b false), (32, .b true)] [1, 82] [0] ⟨[(1, .ptr 0 0 0), (82, bV true)], [(0, some (.box 25 (aHist a0)))], 0⟩ [(t3504.2 != (0 : Int)) = false, (t3508.2 != (0 : Int)) = false, (t3512.2 != (0 : Int)) = false, Enters Try.prog 14, Pv.Fn Try.prog 14 [.agg (aHist (t3504.1)), .agg (aHist a0)] [] 0 (fun r o => r = bV t3531 ∧ o = []), (!t3531) = false, Enters Try.prog 14, Pv.Fn Try.prog 14 [.agg (aHist (t3508.1)), .agg (aHist a0)] [] 0 (fun r o => r = bV t3534 ∧ o = []), (!t3534) = false, (((t3512.1).f4) != (0 : Int)) = false, (((t3512.1).f5) != (0 : Int)) = true] (by kernel_rfl) ⟨by exact c3528, by exact c3529, by exact c3530, by exact Try.call14, by exact f_hist_Same.ok (t3504.1) a0 t3531 e3532, by exact c3533, by exact Try.call14, by exact f_hist_Same.ok (t3508.1) a0 t3534 e3535, by exact c3536, by exact c3537, by exact c3538, trivial⟩ ?_
                    obtain rfl := Option.some.inj H
                    exact Exists.intro _ (And.intro (fun _ _ h => h.conv (inv := [(0, 6)]) (vk := []) (e0 := []) (t := ⟨[(1, .ptr 6 0 0), (82, bV true)], [(6, some (.box 25 (aHist a0)))], 0⟩) (by kernel_rfl)) (And.intro rfl rfl))
                  · replace H := (ifF c3538).symm.trans H
                    rcases Bool.eq_false_or_eq_true ((IntKind.i64.wrap ((((t3512.1).f6).length : Int) + (((t3512.1).f7).length : Int))) != (0 : Int)) with c3539 | c3539
                    · replace H := (ifT c3539).symm.trans H
                      refine reg hP hn hm [(2, .b false), (6, .b false), (10, .b false), (13, .call [] [] [] [] 0 (bV t3531) []), (16, .b false), (19, .call [] [] [] [] 0 (bV t3534) []), (22, .b false), (27, .b false), (32, .b false), (35, .any (iV .i64 (((t3512.1).f6).length : Int))), (38, .any (iV .i64 (((t3512.1).f7).length : Int))), (42, .b true)] [1, 82] [0] ⟨[(1, .ptr 0 0 0), (82, bV true)], [(0, some (.box 25 (aHist a0)))], 0⟩ [(t3504.2 != (0 : Int)) = false, (t3508.2 != (0 : Int)) = false, (t3512.2 != (0 : Int)) = false, Enters Try.prog 14, Pv.Fn Try.prog 14 [.agg (aHist (t3504.1)), .agg (aHist a0)] [] 0 (fun r o => r = bV t3531 ∧ o = []), (!t3531) = false, Enters Try.prog 14, Pv.Fn Try.prog 14 [.agg (aHist (t3508.1)), .agg (aHist a0)] [] 0 (fun r o => r = bV t3534 ∧ o = []), (!t3534) = false, (((t3512.1).f4) != (0 : Int)) = false, (((t3512.1).f5) != (0 : Int)) = false, ((((t3512.1).f6).map eBucket).length : Int) = (((t3512.1).f6).length : Int), ((((t3512.1).f7).map eBucket).length : Int) = (((t3512.1).f7).length : Int), ((IntKind.i64.wrap ((((t3512.1).f6).length : Int) + (((t3512.1).f7).length : Int))) != (0 : Int)) = true] (by kernel_rfl) ⟨by exact c3528, by exact c3529, by exact c3530, by exact Try.call14, by exact f_hist_Same.ok (t3504.1) a0 t3531 e3532, by exact c3533, by exact Try.call14, by exact f_hist_Same.ok (t3508.1) a0 t3534 e3535, by exact c3536, by exact c3537, by exact c3538, by rw [len_map], by rw [len_map], by exact c3539, trivial⟩ ?_
                      obtain rfl := Option.some.inj H
                      exact Exists.intro _ (And.intro (fun _ _ h => h.conv (inv := [(0, 6)]) (vk := []) (e0 := []) (t := ⟨[(1, .ptr 6 0 0), (82, bV true)], [(6, some (.box 25 (aHist a0)))], 0⟩) (by kernel_rfl)) (And.intro rfl rfl))
                    · replace H := (ifF c3539).symm.trans H
                      obtain ⟨t3540, e3541, H⟩ := bind_of H
                      refine reg hP hn hm [(2, .b false), (6, .b false), (10, .b false), (13, .call [] [] [] [] 0 (bV t3531) []), (16, .b false), (19, .call [] [] [] [] 0 (bV t3534) []), (22, .b false), (27, .b false), (32, .b false), (35, .any (iV .i64 (((t3512.1).f6).length : Int))), (38, .any (iV .i64 (((t3512.1).f7).length : Int))), (42, .b false), (45, .call [] [] [] [] 0 (bV t3540) [])] [1, 82] [0] ⟨[(1, .ptr 0 0 0), (82, bV t3540)], [(0, some (.box 25 (aHist a0)))], 0⟩ [(t3504.2 != (0 : Int)) = false, (t3508.2 != (0 : Int)) = false, (t3512.2 != (0 : Int)) = false, Enters Try.prog 14, Pv.Fn Try.prog 14 [.agg (aHist (t3504.1)), .agg (aHist a0)] [] 0 (fun r o => r = bV t3531 ∧ o = []), (!t3531) = false, Enters Try.prog 14, Pv.Fn Try.prog 14 [.agg (aHist (t3508.1)), .agg (aHist a0)] [] 0 (fun r o => r = bV t3534 ∧ o = []), (!t3534) = false, (((t3512.1).f4) != (0 : Int)) = false, (((t3512.1).f5) != (0 : Int)) = false, ((((t3512.1).f6).map eBucket).length : Int) = (((t3512.1).f6).length : Int), ((((t3512.1).f7).map eBucket).length : Int) = (((t3512.1).f7).length : Int), ((IntKind.i64.wrap ((((t3512.1).f6).length : Int) + (((t3512.1).f7).length : Int))) != (0 : Int)) = false, Enters Try.prog 25, Pv.Fn Try.prog 25 [.agg (aHist a0), .agg (aHist a0)] [] 0 (fun r o => r = bV t3540 ∧ o = [])] (by kernel_rfl) ⟨by exact c3528, by exact c3529, by exact c3530, by exact Try.call14, by exact f_hist_Same.ok (t3504.1) a0 t3531 e3532, by exact c3533, by exact Try.call14, by exact f_hist_Same.ok (t3508.1) a0 t3534 e3535, by exact c3536, by exact c3537, by exact c3538, by rw [len_map], by rw [len_map], by exact c3539, by exact Try.call25, by exact f_meld_Reset.ok a0 a0 t3540 e3541, trivial⟩ ?_
                      obtain rfl := Option.some.inj H
                      exact Exists.intro _ (And.intro (fun _ _ h => h.conv (inv := [(0, 6)]) (vk := []) (e0 := []) (t := ⟨[(1, .ptr 6 0 0), (82, bV t3540)], [(6, some (.box 25 (aHist a0)))], 0⟩) (by kernel_rfl)) (And.intro rfl rfl))
    · obtain ⟨x3542, rfl⟩ : ∃ z, z = o3564 := ⟨_, rfl⟩
      rintro e s ⟨rfl, rfl⟩
      refine AWp.cond x3542 rfl (fun c3543 => ?_) (fun c3543 => ?_)
      · replace H := (ifT c3543).symm.trans H
        refine AWp.seq ?_
        refine reg hP hn hm [] [2] [] ⟨[(2, bV false)], [], 0⟩ [] (by kernel_rfl) trivial ?_
        refine AWp.conv (inv := []) (vk := []) (e0 := []) (t := ⟨[(2, bV false)], [], 0⟩) (by kernel_rfl) ?_
        refine AWp.ret ?_
        obtain rfl := Option.some.inj H
        exact Exists.intro _ (And.intro (fun _ _ h => h) (And.intro (.inl rfl) (And.intro rfl (And.intro (by kernel_rfl) (by kernel_rfl)))))
      · replace H := (ifF c3543).symm.trans H
        refine AWp.skip ?_
        refine AWp.seq ?_
        refine AWp.seq ?_
        refine reg hP hn hm [] [1, 85] [6] ⟨[(1, .ptr 6 0 0), (85, bV (a0.f0 != (0 : Int)))], [(6, some (.box 25 (aHist a0)))], 0⟩ [] (by kernel_rfl) trivial ?_
        refine AWp.cond (a0.f0 != (0 : Int)) rfl (fun c3544 => ?_) (fun c3544 => ?_)
        · replace H := (ifT c3544).symm.trans H
          refine AWp.seq ?_
          obtain ⟨t3547, e3548, H⟩ := bind_of H
          refine reg hP hn hm [(0, .call [] [] [] [] 0 (bV t3547) [])] [2] [] ⟨[(2, bV t3547)], [], 0⟩ [Enters Try.prog 11, Pv.Fn Try.prog 11 [] [] 0 (fun r o => r = bV t3547 ∧ o = [])] (by kernel_rfl) ⟨by exact Try.call11, by exact f_pluviallaw07_awake.ok  t3547 e3548, trivial⟩ ?_
          refine AWp.conv (inv := []) (vk := []) (e0 := []) (t := ⟨[(2, bV t3547)], [], 0⟩) (by kernel_rfl) ?_
          refine AWp.ret ?_
          obtain rfl := Option.some.inj H
          exact Exists.intro _ (And.intro (fun _ _ h => h) (And.intro (.inl rfl) (And.intro rfl (And.intro (by kernel_rfl) (by kernel_rfl)))))
        · replace H := (ifF c3544).symm.trans H
          refine AWp.skip ?_
          refine AWp.seq ?_
          obtain ⟨t3551, e3552, H⟩ := bind_of H
          refine reg hP hn hm [(3, .app 7 ([a0, a0, a0].map eHist)), (4, .call [] [] [7] [] 0 (.tup [.agg (aHist (t3551.1)), iV .i64 t3551.2]) []), (8, .k 8)] [9, 10] [8] ⟨[(9, .ptr 8 0 0), (10, iV .i64 t3551.2)], [(8, some (.box 25 (aHist (t3551.1))))], 0⟩ [[a0, a0, a0].map eHist = [[iI .i64 a0.f0, iI .i64 a0.f1, iI .i64 a0.f2, iI .u64 a0.f3, iI .u64 a0.f4, iI .i64 a0.f5, .row (a0.f6.map eBucket), .row (a0.f7.map eBucket)], [iI .i64 a0.f0, iI .i64 a0.f1, iI .i64 a0.f2, iI .u64 a0.f3, iI .u64 a0.f4, iI .i64 a0.f5, .row (a0.f6.map eBucket), .row (a0.f7.map eBucket)], [iI .i64 a0.f0, iI .i64 a0.f1, iI .i64 a0.f2, iI .u64 a0.f3, iI .u64 a0.f4, iI .i64 a0.f5, .row (a0.f6.map eBucket), .row (a0.f7.map eBucket)]], Enters Try.prog 27, Pv.Fn Try.prog 27 [.im (.row ([a0, a0, a0].map eHist))] [] 0 (fun r o => r = .tup [.agg (aHist (t3551.1)), iV .i64 t3551.2] ∧ o = [])] (by kernel_rfl) ⟨by exact rfl, by exact Try.call27, by exact f_meld_Rise.ok [a0, a0, a0] t3551 e3552, trivial⟩ ?_
          refine AWp.seq ?_
          obtain ⟨o3566, e3567, H⟩ := bind_of H
          refine AWp.mono (Q := fun e s => (match (generalizing := false) o3566 with | x3563 => e = .normal ∧ s = ⟨[(2, bV x3563)], [], 0⟩)) (AWp.cv ?_) ?_
          · replace H := e3567; clear e3567
            obtain ⟨t3558, e3559, H⟩ := bind_of H
            rcases Bool.eq_false_or_eq_true t3558 with c3560 | c3560
            · replace H := (ifT c3560).symm.trans H
              rcases Bool.eq_false_or_eq_true (t3551.2 == (0 : Int)) with c3561 | c3561
              · replace H := (ifT c3561).symm.trans H
                rcases Bool.eq_false_or_eq_true (((t3551.1).f4) == (0 : Int)) with c3562 | c3562
                · replace H := (ifT c3562).symm.trans H
                  refine reg hP hn hm [(0, .call [] [] [] [] 0 (bV t3558) []), (1, .b true), (5, .b true), (10, .b true)] [2] [] ⟨[(2, bV (((t3551.1).f5) == (0 : Int)))], [], 0⟩ [Enters Try.prog 11, Pv.Fn Try.prog 11 [] [] 0 (fun r o => r = bV t3558 ∧ o = []), t3558 = true, (t3551.2 == (0 : Int)) = true, (((t3551.1).f4) == (0 : Int)) = true] (by kernel_rfl) ⟨by exact Try.call11, by exact f_pluviallaw07_awake.ok  t3558 e3559, by exact c3560, by exact c3561, by exact c3562, trivial⟩ ?_
                  obtain rfl := Option.some.inj H
                  exact Exists.intro _ (And.intro (fun _ _ h => h.conv (inv := []) (vk := []) (e0 := []) (t := ⟨[(2, bV (((t3551.1).f5) == (0 : Int)))], [], 0⟩) (by kernel_rfl)) (And.intro rfl rfl))
                · replace H := (ifF c3562).symm.trans H
                  refine reg hP hn hm [(0, .call [] [] [] [] 0 (bV t3558) []), (1, .b true), (5, .b true), (10, .b false)] [2] [] ⟨[(2, bV false)], [], 0⟩ [Enters Try.prog 11, Pv.Fn Try.prog 11 [] [] 0 (fun r o => r = bV t3558 ∧ o = []), t3558 = true, (t3551.2 == (0 : Int)) = true, (((t3551.1).f4) == (0 : Int)) = false] (by kernel_rfl) ⟨by exact Try.call11, by exact f_pluviallaw07_awake.ok  t3558 e3559, by exact c3560, by exact c3561, by exact c3562, trivial⟩ ?_
                  obtain rfl := Option.some.inj H
                  exact Exists.intro _ (And.intro (fun _ _ h => h.conv (inv := []) (vk := []) (e0 := []) (t := ⟨[(2, bV false)], [], 0⟩) (by kernel_rfl)) (And.intro rfl rfl))
              · replace H := (ifF c3561).symm.trans H
                refine reg hP hn hm [(0, .call [] [] [] [] 0 (bV t3558) []), (1, .b true), (5, .b false)] [2] [] ⟨[(2, bV false)], [], 0⟩ [Enters Try.prog 11, Pv.Fn Try.prog 11 [] [] 0 (fun r o => r = bV t3558 ∧ o = []), t3558 = true, (t3551.2 == (0 : Int)) = false] (by kernel_rfl) ⟨by exact Try.call11, by exact f_pluviallaw07_awake.ok  t3558 e3559, by exact c3560, by exact c3561, trivial⟩ ?_
                obtain rfl := Option.some.inj H
                exact Exists.intro _ (And.intro (fun _ _ h => h.conv (inv := []) (vk := []) (e0 := []) (t := ⟨[(2, bV false)], [], 0⟩) (by kernel_rfl)) (And.intro rfl rfl))
            · replace H := (ifF c3560).symm.trans H
              refine reg hP hn hm [(0, .call [] [] [] [] 0 (bV t3558) []), (1, .b false)] [2] [] ⟨[(2, bV false)], [], 0⟩ [Enters Try.prog 11, Pv.Fn Try.prog 11 [] [] 0 (fun r o => r = bV t3558 ∧ o = []), t3558 = false] (by kernel_rfl) ⟨by exact Try.call11, by exact f_pluviallaw07_awake.ok  t3558 e3559, by exact c3560, trivial⟩ ?_
              obtain rfl := Option.some.inj H
              exact Exists.intro _ (And.intro (fun _ _ h => h.conv (inv := []) (vk := []) (e0 := []) (t := ⟨[(2, bV false)], [], 0⟩) (by kernel_rfl)) (And.intro rfl rfl))
          · obtain ⟨x3563, rfl⟩ : ∃ z, z = o3566 := ⟨_, rfl⟩
            rintro e s ⟨rfl, rfl⟩
            refine AWp.conv (inv := []) (vk := []) (e0 := []) (t := ⟨[(2, bV x3563)], [], 0⟩) (by kernel_rfl) ?_
            refine AWp.ret ?_
            obtain rfl := Option.some.inj H
            exact Exists.intro _ (And.intro (fun _ _ h => h) (And.intro (.inl rfl) (And.intro rfl (And.intro (by kernel_rfl) (by kernel_rfl)))))
end Go.Proofs.Yticdbkmekkbiiaa.PvGB
