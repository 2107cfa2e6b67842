import Derived.Test.YtfkppdcfgmgllaaProg
import Derived.Test.YtfkppdcfgmgllaaPxPlanBelows06
set_option linter.unusedVariables false
set_option linter.unnecessarySimpa false
set_option linter.unusedSimpArgs false
set_option maxRecDepth 10000
namespace Go.Proofs.Ytfkppdcfgmgllaa.PvGD4
open Go Go.Pv
def f_slices_choosePivotOrdered_int.f (a0 : List Int) (a1 : Int) (a2 : Int) : Option (Int × Int) := ((if (decide ((IntKind.i64.wrap (a2 - a1)) ≥ (8 : Int))) = true then (((if (decide ((IntKind.i64.wrap (a2 - a1)) ≥ (50 : Int))) = true then ((f_slices_medianAdjacentOrdered_int_7cb.f a0 (IntKind.i64.wrap (a1 + (IntKind.i64.wrap ((IntKind.i64.wrap (Int.tdiv (IntKind.i64.wrap (a2 - a1)) (4 : Int))) * (1 : Int))))) 0) >>= fun t2479 => (f_slices_medianAdjacentOrdered_int_7cb.f a0 (IntKind.i64.wrap (a1 + (IntKind.i64.wrap ((IntKind.i64.wrap (Int.tdiv (IntKind.i64.wrap (a2 - a1)) (4 : Int))) * (2 : Int))))) t2479.2) >>= fun t2483 => (f_slices_medianAdjacentOrdered_int_7cb.f a0 (IntKind.i64.wrap (a1 + (IntKind.i64.wrap ((IntKind.i64.wrap (Int.tdiv (IntKind.i64.wrap (a2 - a1)) (4 : Int))) * (3 : Int))))) t2483.2) >>= fun t2487 => some (t2487.2, t2479.1, t2483.1, t2487.1)) else (some (0, IntKind.i64.wrap (a1 + (IntKind.i64.wrap ((IntKind.i64.wrap (Int.tdiv (IntKind.i64.wrap (a2 - a1)) (4 : Int))) * (1 : Int)))), IntKind.i64.wrap (a1 + (IntKind.i64.wrap ((IntKind.i64.wrap (Int.tdiv (IntKind.i64.wrap (a2 - a1)) (4 : Int))) * (2 : Int)))), IntKind.i64.wrap (a1 + (IntKind.i64.wrap ((IntKind.i64.wrap (Int.tdiv (IntKind.i64.wrap (a2 - a1)) (4 : Int))) * (3 : Int))))))) : Option (Int × Int × Int × Int)) >>= fun oo => match oo with | (x2489, x2490, x2491, x2492) => ((f_slices_medianOrdered_int_5f3.f a0 x2490 x2491 x2492 x2489) >>= fun t2495 => some (t2495.2, t2495.1))) else (some (0, IntKind.i64.wrap (a1 + (IntKind.i64.wrap ((IntKind.i64.wrap (Int.tdiv (IntKind.i64.wrap (a2 - a1)) (4 : Int))) * (2 : Int))))))) : Option (Int × Int)) >>= fun oo => match oo with | (x2497, x2498) => (if (x2497 == (0 : Int)) = true then (some (x2498, 1)) else (if (x2497 == (12 : Int)) = true then (some (x2498, 2)) else (some (x2498, 0))))
theorem f_slices_choosePivotOrdered_int.ok (a0 : List Int) (a1 : Int) (a2 : Int) (r : Int × Int) (H : f_slices_choosePivotOrdered_int.f a0 a1 a2 = some r) : Pv.Fn Try.prog 70 [.own 0, iV .i64 a1, iV .i64 a2] [(0, some (.row 1 3 (a0.map (encInt .i64))))] 1 (fun x o => x = .tup [iV .i64 r.1, iV .i64 r.2] ∧ o = [(0, some (.row 1 3 (a0.map (encInt .i64))))]) := by
  unfold f_slices_choosePivotOrdered_int.f at H
  refine Fn.bodyK [0] Try.func70 rfl rfl (fun Γ hP hn => ?_)
  have hm : Try.prog.follows .mixedOrders = true := by kernel_rfl
  replace hn : Γ.n = 57 := hn
  refine AWp.seq ?_
  refine reg hP hn hm [] [0, 1, 2] [0] ⟨[(0, .own 0), (1, iV .i64 a1), (2, iV .i64 a2)], [(0, some (.row 1 3 (a0.map (encInt .i64))))], 1⟩ [] (by kernel_rfl) trivial ?_
  refine AWp.seq ?_
  refine reg hP hn hm [] [0, 1, 8] [0] ⟨[(0, .own 0), (1, iV .i64 a1), (8, iV .i64 (IntKind.i64.wrap (a2 - a1)))], [(0, some (.row 1 3 (a0.map (encInt .i64))))], 1⟩ [] (by kernel_rfl) trivial ?_
  refine AWp.seq ?_
  refine reg hP hn hm [(0, .k 1)] [0, 1, 8, 9] [0, 1] ⟨[(0, .own 0), (1, iV .i64 a1), (8, iV .i64 (IntKind.i64.wrap (a2 - a1))), (9, .ptr 1 0 0)], [(0, some (.row 1 3 (a0.map (encInt .i64)))), (1, some (.box 3 [iV .i64 0]))], 1⟩ [] (by kernel_rfl) trivial ?_
  refine AWp.seq ?_
  refine reg hP hn hm [] [0, 1, 8, 9, 10] [0, 1] ⟨[(0, .own 0), (1, iV .i64 a1), (8, iV .i64 (IntKind.i64.wrap (a2 - a1))), (9, .ptr 1 0 0), (10, iV .i64 (IntKind.i64.wrap (a1 + (IntKind.i64.wrap ((IntKind.i64.wrap (Int.tdiv (IntKind.i64.wrap (a2 - a1)) (4 : Int))) * (1 : Int))))))], [(0, some (.row 1 3 (a0.map (encInt .i64)))), (1, some (.box 3 [iV .i64 0]))], 1⟩ [(4 : Int) ≠ 0] (by kernel_rfl) ⟨by decide, trivial⟩ ?_
  refine AWp.seq ?_
  refine reg hP hn hm [] [0, 1, 8, 9, 10, 11] [0, 1] ⟨[(0, .own 0), (1, iV .i64 a1), (8, iV .i64 (IntKind.i64.wrap (a2 - a1))), (9, .ptr 1 0 0), (10, iV .i64 (IntKind.i64.wrap (a1 + (IntKind.i64.wrap ((IntKind.i64.wrap (Int.tdiv (IntKind.i64.wrap (a2 - a1)) (4 : Int))) * (1 : Int)))))), (11, iV .i64 (IntKind.i64.wrap (a1 + (IntKind.i64.wrap ((IntKind.i64.wrap (Int.tdiv (IntKind.i64.wrap (a2 - a1)) (4 : Int))) * (2 : Int))))))], [(0, some (.row 1 3 (a0.map (encInt .i64)))), (1, some (.box 3 [iV .i64 0]))], 1⟩ [(4 : Int) ≠ 0] (by kernel_rfl) ⟨by decide, trivial⟩ ?_
  refine AWp.seq ?_
  refine reg hP hn hm [] [0, 8, 9, 10, 11, 12] [0, 1] ⟨[(0, .own 0), (8, iV .i64 (IntKind.i64.wrap (a2 - a1))), (9, .ptr 1 0 0), (10, iV .i64 (IntKind.i64.wrap (a1 + (IntKind.i64.wrap ((IntKind.i64.wrap (Int.tdiv (IntKind.i64.wrap (a2 - a1)) (4 : Int))) * (1 : Int)))))), (11, iV .i64 (IntKind.i64.wrap (a1 + (IntKind.i64.wrap ((IntKind.i64.wrap (Int.tdiv (IntKind.i64.wrap (a2 - a1)) (4 : Int))) * (2 : Int)))))), (12, iV .i64 (IntKind.i64.wrap (a1 + (IntKind.i64.wrap ((IntKind.i64.wrap (Int.tdiv (IntKind.i64.wrap (a2 - a1)) (4 : Int))) * (3 : Int))))))], [(0, some (.row 1 3 (a0.map (encInt .i64)))), (1, some (.box 3 [iV .i64 0]))], 1⟩ [(4 : Int) ≠ 0] (by kernel_rfl) ⟨by decide, trivial⟩ ?_
  refine AWp.seq ?_
  refine AWp.seq ?_
  refine reg hP hn hm [] [0, 8, 9, 10, 11, 12, 32] [0, 1] ⟨[(0, .own 0), (8, iV .i64 (IntKind.i64.wrap (a2 - a1))), (9, .ptr 1 0 0), (10, iV .i64 (IntKind.i64.wrap (a1 + (IntKind.i64.wrap ((IntKind.i64.wrap (Int.tdiv (IntKind.i64.wrap (a2 - a1)) (4 : Int))) * (1 : Int)))))), (11, iV .i64 (IntKind.i64.wrap (a1 + (IntKind.i64.wrap ((IntKind.i64.wrap (Int.tdiv (IntKind.i64.wrap (a2 - a1)) (4 : Int))) * (2 : Int)))))), (12, iV .i64 (IntKind.i64.wrap (a1 + (IntKind.i64.wrap ((IntKind.i64.wrap (Int.tdiv (IntKind.i64.wrap (a2 - a1)) (4 : Int))) * (3 : Int)))))), (32, bV (decide ((IntKind.i64.wrap (a2 - a1)) ≥ (8 : Int))))], [(0, some (.row 1 3 (a0.map (encInt .i64)))), (1, some (.box 3 [iV .i64 0]))], 1⟩ [] (by kernel_rfl) trivial ?_
  obtain ⟨o2501, e2502, H⟩ := bind_of H
  refine AWp.mono (Q := fun e s => (match (generalizing := false) o2501 with | (x2497, x2498) => e = .normal ∧ s = ⟨[(9, .ptr 3 0 0), (11, iV .i64 x2498)], [(0, some (.row 1 3 (a0.map (encInt .i64)))), (3, some (.box 3 [iV .i64 x2497]))], 1⟩)) (AWp.cv ?_) ?_
  · replace H := e2502; clear e2502
    refine AWp.cond (decide ((IntKind.i64.wrap (a2 - a1)) ≥ (8 : Int))) rfl (fun c2442 => ?_) (fun c2442 => ?_)
    · replace H := (ifT c2442).symm.trans H
      refine AWp.seq ?_
      refine AWp.seq ?_
      refine reg hP hn hm [] [0, 9, 10, 11, 12, 34] [0, 1] ⟨[(0, .own 0), (9, .ptr 1 0 0), (10, iV .i64 (IntKind.i64.wrap (a1 + (IntKind.i64.wrap ((IntKind.i64.wrap (Int.tdiv (IntKind.i64.wrap (a2 - a1)) (4 : Int))) * (1 : Int)))))), (11, iV .i64 (IntKind.i64.wrap (a1 + (IntKind.i64.wrap ((IntKind.i64.wrap (Int.tdiv (IntKind.i64.wrap (a2 - a1)) (4 : Int))) * (2 : Int)))))), (12, iV .i64 (IntKind.i64.wrap (a1 + (IntKind.i64.wrap ((IntKind.i64.wrap (Int.tdiv (IntKind.i64.wrap (a2 - a1)) (4 : Int))) * (3 : Int)))))), (34, bV (decide ((IntKind.i64.wrap (a2 - a1)) ≥ (50 : Int))))], [(0, some (.row 1 3 (a0.map (encInt .i64)))), (1, some (.box 3 [iV .i64 0]))], 1⟩ [] (by kernel_rfl) trivial ?_
      obtain ⟨o2503, e2504, H⟩ := bind_of H
      refine AWp.mono (Q := fun e s => (match (generalizing := false) o2503 with | (x2489, x2490, x2491, x2492) => e = .normal ∧ s = ⟨[(0, .own 0), (9, .ptr 2 0 0), (10, iV .i64 x2490), (11, iV .i64 x2491), (12, iV .i64 x2492)], [(0, some (.row 1 3 (a0.map (encInt .i64)))), (2, some (.box 3 [iV .i64 x2489]))], 1⟩)) (AWp.cv ?_) ?_
      · replace H := e2504; clear e2504
        refine AWp.cond (decide ((IntKind.i64.wrap (a2 - a1)) ≥ (50 : Int))) rfl (fun c2443 => ?_) (fun c2443 => ?_)
        · replace H := (ifT c2443).symm.trans H
          refine AWp.seq ?_
          obtain ⟨t2479, e2480, H⟩ := bind_of H
          refine reg hP hn hm [(2, .call [(0, 0), (1, 1)] [(0, 0), (1, 1)] [] [] 2 (iV .i64 t2479.1) [(0, some (.row 1 3 (a0.map (encInt .i64)))), (1, some (.box 3 [iV .i64 t2479.2]))])] [0, 9, 10, 11, 12] [0, 1] ⟨[(0, .own 0), (9, .ptr 1 0 0), (10, iV .i64 t2479.1), (11, iV .i64 (IntKind.i64.wrap (a1 + (IntKind.i64.wrap ((IntKind.i64.wrap (Int.tdiv (IntKind.i64.wrap (a2 - a1)) (4 : Int))) * (2 : Int)))))), (12, iV .i64 (IntKind.i64.wrap (a1 + (IntKind.i64.wrap ((IntKind.i64.wrap (Int.tdiv (IntKind.i64.wrap (a2 - a1)) (4 : Int))) * (3 : Int))))))], [(0, some (.row 1 3 (a0.map (encInt .i64)))), (1, some (.box 3 [iV .i64 t2479.2]))], 1⟩ [Enters Try.prog 102, Pv.Fn Try.prog 102 [.own 0, iV .i64 (IntKind.i64.wrap (a1 + (IntKind.i64.wrap ((IntKind.i64.wrap (Int.tdiv (IntKind.i64.wrap (a2 - a1)) (4 : Int))) * (1 : Int))))), .ptr 1 0 0] [(0, some (.row 1 3 (a0.map (encInt .i64)))), (1, some (.box 3 [iV .i64 0]))] 2 (fun r o => r = iV .i64 t2479.1 ∧ o = [(0, some (.row 1 3 (a0.map (encInt .i64)))), (1, some (.box 3 [iV .i64 t2479.2]))])] (by kernel_rfl) ⟨by exact Try.call102, by exact f_slices_medianAdjacentOrdered_int_7cb.ok a0 (IntKind.i64.wrap (a1 + (IntKind.i64.wrap ((IntKind.i64.wrap (Int.tdiv (IntKind.i64.wrap (a2 - a1)) (4 : Int))) * (1 : Int))))) 0 t2479 e2480, trivial⟩ ?_
          refine AWp.seq ?_
          obtain ⟨t2483, e2484, H⟩ := bind_of H
          refine reg hP hn hm [(2, .call [(0, 0), (1, 1)] [(0, 0), (1, 1)] [] [] 2 (iV .i64 t2483.1) [(0, some (.row 1 3 (a0.map (encInt .i64)))), (1, some (.box 3 [iV .i64 t2483.2]))])] [0, 9, 10, 11, 12] [0, 1] ⟨[(0, .own 0), (9, .ptr 1 0 0), (10, iV .i64 t2479.1), (11, iV .i64 t2483.1), (12, iV .i64 (IntKind.i64.wrap (a1 + (IntKind.i64.wrap ((IntKind.i64.wrap (Int.tdiv (IntKind.i64.wrap (a2 - a1)) (4 : Int))) * (3 : Int))))))], [(0, some (.row 1 3 (a0.map (encInt .i64)))), (1, some (.box 3 [iV .i64 t2483.2]))], 1⟩ [Enters Try.prog 102, Pv.Fn Try.prog 102 [.own 0, iV .i64 (IntKind.i64.wrap (a1 + (IntKind.i64.wrap ((IntKind.i64.wrap (Int.tdiv (IntKind.i64.wrap (a2 - a1)) (4 : Int))) * (2 : Int))))), .ptr 1 0 0] [(0, some (.row 1 3 (a0.map (encInt .i64)))), (1, some (.box 3 [iV .i64 t2479.2]))] 2 (fun r o => r = iV .i64 t2483.1 ∧ o = [(0, some (.row 1 3 (a0.map (encInt .i64)))), (1, some (.box 3 [iV .i64 t2483.2]))])] (by kernel_rfl) ⟨by exact Try.call102, by exact f_slices_medianAdjacentOrdered_int_7cb.ok a0 (IntKind.i64.wrap (a1 + (IntKind.i64.wrap ((IntKind.i64.wrap (Int.tdiv (IntKind.i64.wrap (a2 - a1)) (4 : Int))) * (2 : Int))))) t2479.2 t2483 e2484, trivial⟩ ?_
          obtain ⟨t2487, e2488, H⟩ := bind_of H
          refine reg hP hn hm [(2, .call [(0, 0), (1, 1)] [(0, 0), (1, 1)] [] [] 2 (iV .i64 t2487.1) [(0, some (.row 1 3 (a0.map (encInt .i64)))), (1, some (.box 3 [iV .i64 t2487.2]))])] [0, 9, 10, 11, 12] [0, 1] ⟨[(0, .own 0), (9, .ptr 1 0 0), (10, iV .i64 t2479.1), (11, iV .i64 t2483.1), (12, iV .i64 t2487.1)], [(0, some (.row 1 3 (a0.map (encInt .i64)))), (1, some (.box 3 [iV .i64 t2487.2]))], 1⟩ [Enters Try.prog 102, Pv.Fn Try.prog 102 [.own 0, iV .i64 (IntKind.i64.wrap (a1 + (IntKind.i64.wrap ((IntKind.i64.wrap (Int.tdiv (IntKind.i64.wrap (a2 - a1)) (4 : Int))) * (3 : Int))))), .ptr 1 0 0] [(0, some (.row 1 3 (a0.map (encInt .i64)))), (1, some (.box 3 [iV .i64 t2483.2]))] 2 (fun r o => r = iV .i64 t2487.1 ∧ o = [(0, some (.row 1 3 (a0.map (encInt .i64)))), (1, some (.box 3 [iV .i64 t2487.2]))])] (by kernel_rfl) ⟨by exact Try.call102, by exact f_slices_medianAdjacentOrdered_int_7cb.ok a0 (IntKind.i64.wrap (a1 + (IntKind.i64.wrap ((IntKind.i64.wrap (Int.tdiv (IntKind.i64.wrap (a2 - a1)) (4 : Int))) * (3 : Int))))) t2483.2 t2487 e2488, trivial⟩ ?_
          obtain rfl := Option.some.inj H
          exact Exists.intro _ (And.intro (fun _ _ h => h.conv (inv := [(0, 0), (1, 2)]) (vk := []) (e0 := []) (t := ⟨[(0, .own 0), (9, .ptr 2 0 0), (10, iV .i64 t2479.1), (11, iV .i64 t2483.1), (12, iV .i64 t2487.1)], [(0, some (.row 1 3 (a0.map (encInt .i64)))), (2, some (.box 3 [iV .i64 t2487.2]))], 1⟩) (by kernel_rfl)) (And.intro rfl rfl))
        · replace H := (ifF c2443).symm.trans H
          refine AWp.skip ?_
          obtain rfl := Option.some.inj H
          exact Exists.intro _ (And.intro (fun _ _ h => h.conv (inv := [(0, 0), (1, 2)]) (vk := []) (e0 := []) (t := ⟨[(0, .own 0), (9, .ptr 2 0 0), (10, iV .i64 (IntKind.i64.wrap (a1 + (IntKind.i64.wrap ((IntKind.i64.wrap (Int.tdiv (IntKind.i64.wrap (a2 - a1)) (4 : Int))) * (1 : Int)))))), (11, iV .i64 (IntKind.i64.wrap (a1 + (IntKind.i64.wrap ((IntKind.i64.wrap (Int.tdiv (IntKind.i64.wrap (a2 - a1)) (4 : Int))) * (2 : Int)))))), (12, iV .i64 (IntKind.i64.wrap (a1 + (IntKind.i64.wrap ((IntKind.i64.wrap (Int.tdiv (IntKind.i64.wrap (a2 - a1)) (4 : Int))) * (3 : Int))))))], [(0, some (.row 1 3 (a0.map (encInt .i64)))), (2, some (.box 3 [iV .i64 0]))], 1⟩) (by kernel_rfl)) (And.intro rfl rfl))
      · obtain ⟨x2489, x2490, x2491, x2492⟩ := o2503
        rintro e s ⟨rfl, rfl⟩
        obtain ⟨t2495, e2496, H⟩ := bind_of H
        refine reg hP hn hm [(4, .call [(0, 0), (2, 1)] [(0, 0), (1, 2)] [] [] 2 (iV .i64 t2495.1) [(0, some (.row 1 3 (a0.map (encInt .i64)))), (1, some (.box 3 [iV .i64 t2495.2]))])] [9, 11] [0, 2] ⟨[(9, .ptr 2 0 0), (11, iV .i64 t2495.1)], [(0, some (.row 1 3 (a0.map (encInt .i64)))), (2, some (.box 3 [iV .i64 t2495.2]))], 1⟩ [Enters Try.prog 103, Pv.Fn Try.prog 103 [.own 0, iV .i64 x2490, iV .i64 x2491, iV .i64 x2492, .ptr 1 0 0] [(0, some (.row 1 3 (a0.map (encInt .i64)))), (1, some (.box 3 [iV .i64 x2489]))] 2 (fun r o => r = iV .i64 t2495.1 ∧ o = [(0, some (.row 1 3 (a0.map (encInt .i64)))), (1, some (.box 3 [iV .i64 t2495.2]))])] (by kernel_rfl) ⟨by exact Try.call103, by exact f_slices_medianOrdered_int_5f3.ok a0 x2490 x2491 x2492 x2489 t2495 e2496, trivial⟩ ?_
        obtain rfl := Option.some.inj H
        exact Exists.intro _ (And.intro (fun _ _ h => h.conv (inv := [(2, 3), (0, 0)]) (vk := []) (e0 := []) (t := ⟨[(9, .ptr 3 0 0), (11, iV .i64 t2495.1)], [(0, some (.row 1 3 (a0.map (encInt .i64)))), (3, some (.box 3 [iV .i64 t2495.2]))], 1⟩) (by kernel_rfl)) (And.intro rfl rfl))
    · replace H := (ifF c2442).symm.trans H
      refine AWp.skip ?_
      obtain rfl := Option.some.inj H
      exact Exists.intro _ (And.intro (fun _ _ h => h.conv (inv := [(1, 3), (0, 0)]) (vk := []) (e0 := []) (t := ⟨[(9, .ptr 3 0 0), (11, iV .i64 (IntKind.i64.wrap (a1 + (IntKind.i64.wrap ((IntKind.i64.wrap (Int.tdiv (IntKind.i64.wrap (a2 - a1)) (4 : Int))) * (2 : Int))))))], [(0, some (.row 1 3 (a0.map (encInt .i64)))), (3, some (.box 3 [iV .i64 0]))], 1⟩) (by kernel_rfl)) (And.intro rfl rfl))
  · obtain ⟨x2497, x2498⟩ := o2501
    rintro e s ⟨rfl, rfl⟩
    refine AWp.seq ?_
    refine reg hP hn hm [] [11, 49] [0] ⟨[(11, iV .i64 x2498), (49, iV .i64 x2497)], [(0, some (.row 1 3 (a0.map (encInt .i64))))], 1⟩ [] (by kernel_rfl) trivial ?_
    refine AWp.block ?_
    refine AWp.seq ?_
    refine reg hP hn hm [] [11, 49, 51] [0] ⟨[(11, iV .i64 x2498), (49, iV .i64 x2497), (51, bV (x2497 == (0 : Int)))], [(0, some (.row 1 3 (a0.map (encInt .i64))))], 1⟩ [] (by kernel_rfl) trivial ?_
    refine AWp.cond (x2497 == (0 : Int)) rfl (fun c2499 => ?_) (fun c2499 => ?_)
    · replace H := (ifT c2499).symm.trans H
      refine AWp.seq ?_
      refine reg hP hn hm [] [6, 7] [0] ⟨[(6, iV .i64 x2498), (7, iV .i64 1)], [(0, some (.row 1 3 (a0.map (encInt .i64))))], 1⟩ [] (by kernel_rfl) trivial ?_
      refine AWp.conv (inv := [(0, 0)]) (vk := []) (e0 := []) (t := ⟨[(6, iV .i64 x2498), (7, iV .i64 1)], [(0, some (.row 1 3 (a0.map (encInt .i64))))], 1⟩) (by kernel_rfl) ?_
      refine AWp.ret ?_
      obtain rfl := Option.some.inj H
      exact Exists.intro _ (And.intro (fun _ _ h => h) (And.intro (.inl rfl) (And.intro rfl (And.intro (by kernel_rfl) (by kernel_rfl)))))
    · replace H := (ifF c2499).symm.trans H
      refine AWp.seq ?_
      refine reg hP hn hm [] [11, 54] [0] ⟨[(11, iV .i64 x2498), (54, bV (x2497 == (12 : Int)))], [(0, some (.row 1 3 (a0.map (encInt .i64))))], 1⟩ [] (by kernel_rfl) trivial ?_
      refine AWp.cond (x2497 == (12 : Int)) rfl (fun c2500 => ?_) (fun c2500 => ?_)
      · replace H := (ifT c2500).symm.trans H
        refine AWp.seq ?_
        refine reg hP hn hm [] [6, 7] [0] ⟨[(6, iV .i64 x2498), (7, iV .i64 2)], [(0, some (.row 1 3 (a0.map (encInt .i64))))], 1⟩ [] (by kernel_rfl) trivial ?_
        refine AWp.conv (inv := [(0, 0)]) (vk := []) (e0 := []) (t := ⟨[(6, iV .i64 x2498), (7, iV .i64 2)], [(0, some (.row 1 3 (a0.map (encInt .i64))))], 1⟩) (by kernel_rfl) ?_
        refine AWp.ret ?_
        obtain rfl := Option.some.inj H
        exact Exists.intro _ (And.intro (fun _ _ h => h) (And.intro (.inl rfl) (And.intro rfl (And.intro (by kernel_rfl) (by kernel_rfl)))))
      · replace H := (ifF c2500).symm.trans H
        refine AWp.seq ?_
        refine reg hP hn hm [] [6, 7] [0] ⟨[(6, iV .i64 x2498), (7, iV .i64 0)], [(0, some (.row 1 3 (a0.map (encInt .i64))))], 1⟩ [] (by kernel_rfl) trivial ?_
        refine AWp.conv (inv := [(0, 0)]) (vk := []) (e0 := []) (t := ⟨[(6, iV .i64 x2498), (7, iV .i64 0)], [(0, some (.row 1 3 (a0.map (encInt .i64))))], 1⟩) (by kernel_rfl) ?_
        refine AWp.ret ?_
        obtain rfl := Option.some.inj H
        exact Exists.intro _ (And.intro (fun _ _ h => h) (And.intro (.inl rfl) (And.intro rfl (And.intro (by kernel_rfl) (by kernel_rfl)))))
def f_slices_reverseRangeOrdered_int.l0 (x2529 : List Int) (x2530 : Int) (x2531 : Int) : Option (List Int) := if (decide (x2530 < x2531)) = true then ((at? x2529 x2531) >>= fun b2542 => (at? x2529 x2530) >>= fun b2545 => (at? (x2529.set (Int.toNat (x2530)) b2542) x2531) >>= fun b2548 => f_slices_reverseRangeOrdered_int.l0  ((x2529.set (Int.toNat (x2530)) b2542).set (Int.toNat (x2531)) b2545) (IntKind.i64.wrap (x2530 + (1 : Int))) (IntKind.i64.wrap (x2531 - (1 : Int)))) else (some x2529)
partial_fixpoint
def f_slices_reverseRangeOrdered_int.f (a0 : List Int) (a1 : Int) (a2 : Int) : Option (List Int) := (f_slices_reverseRangeOrdered_int.l0  a0 a1 (IntKind.i64.wrap (a2 - (1 : Int)))) >>= fun x2551 => some x2551
theorem f_slices_reverseRangeOrdered_int.ok (a0 : List Int) (a1 : Int) (a2 : Int) (r : List Int) (H : f_slices_reverseRangeOrdered_int.f a0 a1 a2 = some r) : Pv.Fn Try.prog 71 [.own 0, iV .i64 a1, iV .i64 a2] [(0, some (.row 1 3 (a0.map (encInt .i64))))] 1 (fun x o => x = .tup [] ∧ o = [(0, some (.row 1 3 (r.map (encInt .i64))))]) := by
  unfold f_slices_reverseRangeOrdered_int.f at H
  refine Fn.bodyK [0] Try.func71 rfl rfl (fun Γ hP hn => ?_)
  have hm : Try.prog.follows .mixedOrders = true := by kernel_rfl
  replace hn : Γ.n = 32 := hn
  refine AWp.seq ?_
  refine reg hP hn hm [] [0, 2, 6] [0] ⟨[(0, .own 0), (2, iV .i64 a2), (6, iV .i64 a1)], [(0, some (.row 1 3 (a0.map (encInt .i64))))], 1⟩ [] (by kernel_rfl) trivial ?_
  refine AWp.seq ?_
  refine reg hP hn hm [] [0, 6, 7] [0] ⟨[(0, .own 0), (6, iV .i64 a1), (7, iV .i64 (IntKind.i64.wrap (a2 - (1 : Int))))], [(0, some (.row 1 3 (a0.map (encInt .i64))))], 1⟩ [] (by kernel_rfl) trivial ?_
  refine AWp.block ?_
  obtain ⟨o2552, e2553, H⟩ := bind_of H
  refine AWp.loop (LWp.conv (inv := [(0, 0)]) (vk := []) (e0 := []) (t := ⟨[(0, .own 0), (6, iV .i64 a1), (7, iV .i64 (IntKind.i64.wrap (a2 - (1 : Int))))], [(0, some (.row 1 3 (a0.map (encInt .i64))))], 1⟩) (by kernel_rfl) ?_)
  refine LWp.mono (Q := fun e s => (match (generalizing := false) o2552 with | x2551 => e = .exit 0 ∧ s = ⟨[], [(0, some (.row 1 3 (x2551.map (encInt .i64))))], 1⟩)) (LWp.cv (withBody (fun body hbody => ?_))) ?_
  · refine f_slices_reverseRangeOrdered_int.l0.partial_correctness  (motive := fun x2529 x2530 x2531 o2552 => LWp Γ body (fun e s => ∃ t, Cv Γ s t ∧ (match (generalizing := false) o2552 with | x2551 => e = .exit 0 ∧ t = ⟨[], [(0, some (.row 1 3 (x2551.map (encInt .i64))))], 1⟩)) ⟨[(0, .own 0), (6, iV .i64 x2530), (7, iV .i64 x2531)], [(0, some (.row 1 3 (x2529.map (encInt .i64))))], 1⟩) ?_ _ _ _ _ e2553
    clear H e2553 o2552; intro self ih x2529 x2530 x2531 o2552 H
    subst hbody
    refine LWp.round ?_
    refine AWp.seq ?_
    refine AWp.seq ?_
    refine reg hP hn hm [] [0, 6, 7, 13] [0] ⟨[(0, .own 0), (6, iV .i64 x2530), (7, iV .i64 x2531), (13, bV (decide (x2530 < x2531)))], [(0, some (.row 1 3 (x2529.map (encInt .i64))))], 1⟩ [] (by kernel_rfl) trivial ?_
    refine AWp.cond (decide (x2530 < x2531)) rfl (fun c2532 => ?_) (fun c2532 => ?_)
    · replace H := (ifT c2532).symm.trans H
      refine AWp.skip ?_
      refine AWp.block ?_
      refine AWp.seq ?_
      obtain ⟨b2542, p2543, q2544, H⟩ := at_of H
      obtain ⟨b2545, p2546, q2547, H⟩ := at_of H
      obtain ⟨b2548, p2549, q2550, H⟩ := at_of H
      refine reg hP hn hm [(7, .c ((encInt .i64) b2542)), (11, .c ((encInt .i64) b2545)), (13, .put ((encInt .i64) b2545) ((x2529.set (Int.toNat (x2530)) b2542).map (encInt .i64))), (15, .put ((encInt .i64) b2548) (((x2529.set (Int.toNat (x2530)) b2542).set (Int.toNat (x2531)) b2545).map (encInt .i64)))] [0, 6, 7] [0] ⟨[(0, .own 0), (6, iV .i64 x2530), (7, iV .i64 x2531)], [(0, some (.row 1 3 (((x2529.set (Int.toNat (x2530)) b2542).set (Int.toNat (x2531)) b2545).map (encInt .i64))))], 1⟩ [0 ≤ x2531, x2531 < (((x2529.map (encInt .i64)).length : Nat) : Int), (x2529.map (encInt .i64))[(Int.toNat (x2531))]? = some ((encInt .i64) b2542), 0 ≤ x2530, x2530 < (((x2529.map (encInt .i64)).length : Nat) : Int), (x2529.map (encInt .i64))[(Int.toNat (x2530))]? = some ((encInt .i64) b2545), 0 ≤ x2530, x2530 < (((x2529.map (encInt .i64)).length : Nat) : Int), (x2529.map (encInt .i64))[(Int.toNat (x2530))]? = some ((encInt .i64) b2545), (x2529.set (Int.toNat (x2530)) b2542).map (encInt .i64) = (x2529.map (encInt .i64)).set (Int.toNat (x2530)) (splice ((encInt .i64) b2545) 0 [iI .i64 b2542]), 0 ≤ x2531, x2531 < ((((x2529.set (Int.toNat (x2530)) b2542).map (encInt .i64)).length : Nat) : Int), ((x2529.set (Int.toNat (x2530)) b2542).map (encInt .i64))[(Int.toNat (x2531))]? = some ((encInt .i64) b2548), ((x2529.set (Int.toNat (x2530)) b2542).set (Int.toNat (x2531)) b2545).map (encInt .i64) = ((x2529.set (Int.toNat (x2530)) b2542).map (encInt .i64)).set (Int.toNat (x2531)) (splice ((encInt .i64) b2548) 0 [iI .i64 b2545])] (by kernel_rfl) ⟨by exact p2543, by exact el_lt (encInt .i64) p2543 q2544, by exact el_map (encInt .i64) q2544, by exact p2546, by exact el_lt (encInt .i64) p2546 q2547, by exact el_map (encInt .i64) q2547, by exact p2546, by exact el_lt (encInt .i64) p2546 q2547, by exact el_map (encInt .i64) q2547, by exact set1 _ _ _ _, by exact p2549, by exact el_lt (encInt .i64) p2549 q2550, by exact el_map (encInt .i64) q2550, by exact set1 _ _ _ _, trivial⟩ ?_
      refine AWp.seq ?_
      refine reg hP hn hm [] [0, 6, 7] [0] ⟨[(0, .own 0), (6, iV .i64 (IntKind.i64.wrap (x2530 + (1 : Int)))), (7, iV .i64 x2531)], [(0, some (.row 1 3 (((x2529.set (Int.toNat (x2530)) b2542).set (Int.toNat (x2531)) b2545).map (encInt .i64))))], 1⟩ [] (by kernel_rfl) trivial ?_
      refine reg hP hn hm [] [0, 6, 7] [0] ⟨[(0, .own 0), (6, iV .i64 (IntKind.i64.wrap (x2530 + (1 : Int)))), (7, iV .i64 (IntKind.i64.wrap (x2531 - (1 : Int))))], [(0, some (.row 1 3 (((x2529.set (Int.toNat (x2530)) b2542).set (Int.toNat (x2531)) b2545).map (encInt .i64))))], 1⟩ [] (by kernel_rfl) trivial ?_
      exact LWp.conv (inv := [(0, 0)]) (vk := []) (e0 := []) (t := ⟨[(0, .own 0), (6, iV .i64 (IntKind.i64.wrap (x2530 + (1 : Int)))), (7, iV .i64 (IntKind.i64.wrap (x2531 - (1 : Int))))], [(0, some (.row 1 3 (((x2529.set (Int.toNat (x2530)) b2542).set (Int.toNat (x2531)) b2545).map (encInt .i64))))], 1⟩) (by kernel_rfl) (ih _ _ _ _ H)
    · replace H := (ifF c2532).symm.trans H
      refine AWp.exit ?_
      obtain rfl := Option.some.inj H
      exact Exists.intro _ (And.intro (fun _ _ h => h.conv (inv := [(0, 0)]) (vk := []) (e0 := []) (t := ⟨[], [(0, some (.row 1 3 (x2529.map (encInt .i64))))], 1⟩) (by kernel_rfl)) (And.intro rfl rfl))
  · obtain ⟨x2551, rfl⟩ : ∃ z, z = o2552 := ⟨_, rfl⟩
    rintro e s ⟨rfl, rfl⟩
    obtain rfl := Option.some.inj H
    exact Exists.intro ⟨[], [(0, some (.row 1 3 (x2551.map (encInt .i64))))], 1⟩ (And.intro (fun _ _ h => h.conv (inv := [(0, 0)]) (vk := []) (e0 := []) (t := ⟨[], [(0, some (.row 1 3 (x2551.map (encInt .i64))))], 1⟩) (by kernel_rfl)) (And.intro (.inr rfl) (And.intro rfl (And.intro (by kernel_rfl) (by kernel_rfl)))))
def f_slices_partialInsertionSortOrdered_int.l1 (a1 : Int) (a2 : Int) (x2730 : List Int) (x2732 : Int) (x2754 : Int) : Option (Int) := ((if (decide (x2754 < a2)) = true then ((at? x2730 x2754) >>= fun b2765 => (at? x2730 (IntKind.i64.wrap (x2754 - (1 : Int)))) >>= fun b2768 => (f_cmp_Less_int.f b2765 b2768) >>= fun t2771 => some (!t2771)) else (some false)) : Option (Bool)) >>= fun x2773 => if x2773 = true then (f_slices_partialInsertionSortOrdered_int.l1 a1 a2 x2730 x2732 (IntKind.i64.wrap (x2754 + (1 : Int)))) else (some x2754)
partial_fixpoint
def f_slices_partialInsertionSortOrdered_int.l2 (a1 : Int) (a2 : Int) (x2732 : Int) (x2775 : Int) (x2821 : List Int) (x2822 : Int) : Option (List Int) := if (decide (x2822 ≥ (1 : Int))) = true then ((at? x2821 x2822) >>= fun b2832 => (at? x2821 (IntKind.i64.wrap (x2822 - (1 : Int)))) >>= fun b2835 => (f_cmp_Less_int.f b2832 b2835) >>= fun t2838 => if (!t2838) = true then (some x2821) else ((at? (x2821.set (Int.toNat (x2822)) b2835) (IntKind.i64.wrap (x2822 - (1 : Int)))) >>= fun b2844 => f_slices_partialInsertionSortOrdered_int.l2 a1 a2 x2732 x2775 ((x2821.set (Int.toNat (x2822)) b2835).set (Int.toNat (IntKind.i64.wrap (x2822 - (1 : Int)))) b2832) (IntKind.i64.wrap (x2822 - (1 : Int))))) else (some x2821)
partial_fixpoint
def f_slices_partialInsertionSortOrdered_int.l3 (a1 : Int) (a2 : Int) (x2732 : Int) (x2775 : Int) (x2874 : List Int) (x2875 : Int) : Option (List Int) := if (decide (x2875 < a2)) = true then ((at? x2874 x2875) >>= fun b2885 => (at? x2874 (IntKind.i64.wrap (x2875 - (1 : Int)))) >>= fun b2888 => (f_cmp_Less_int.f b2885 b2888) >>= fun t2891 => if (!t2891) = true then (some x2874) else ((at? (x2874.set (Int.toNat (x2875)) b2888) (IntKind.i64.wrap (x2875 - (1 : Int)))) >>= fun b2897 => f_slices_partialInsertionSortOrdered_int.l3 a1 a2 x2732 x2775 ((x2874.set (Int.toNat (x2875)) b2888).set (Int.toNat (IntKind.i64.wrap (x2875 - (1 : Int)))) b2885) (IntKind.i64.wrap (x2875 + (1 : Int))))) else (some x2874)
partial_fixpoint
def f_slices_partialInsertionSortOrdered_int.l0 (a1 : Int) (a2 : Int) (x2730 : List Int) (x2731 : Int) (x2732 : Int) : Option ((Bool × (List Int)) ⊕ (List Int)) := if (decide (x2732 < (5 : Int))) = true then ((f_slices_partialInsertionSortOrdered_int.l1 a1 a2 x2730 x2732 x2731) >>= fun x2775 => if (x2775 == a2) = true then (some (.inl (true, x2730))) else (if (decide ((IntKind.i64.wrap (a2 - a1)) < (50 : Int))) = true then (some (.inl (false, x2730))) else ((at? x2730 (IntKind.i64.wrap (x2775 - (1 : Int)))) >>= fun b2787 => (at? x2730 x2775) >>= fun b2790 => (at? (x2730.set (Int.toNat (x2775)) b2787) (IntKind.i64.wrap (x2775 - (1 : Int)))) >>= fun b2793 => ((if (decide ((IntKind.i64.wrap (x2775 - a1)) ≥ (2 : Int))) = true then ((f_slices_partialInsertionSortOrdered_int.l2 a1 a2 x2732 x2775 ((x2730.set (Int.toNat (x2775)) b2787).set (Int.toNat (IntKind.i64.wrap (x2775 - (1 : Int)))) b2790) (IntKind.i64.wrap (x2775 - (1 : Int)))) >>= fun x2847 => some x2847) else (some ((x2730.set (Int.toNat (x2775)) b2787).set (Int.toNat (IntKind.i64.wrap (x2775 - (1 : Int)))) b2790))) : Option (List Int)) >>= fun x2848 => ((if (decide ((IntKind.i64.wrap (a2 - x2775)) ≥ (2 : Int))) = true then ((f_slices_partialInsertionSortOrdered_int.l3 a1 a2 x2732 x2775 x2848 (IntKind.i64.wrap (x2775 + (1 : Int)))) >>= fun x2900 => some x2900) else (some x2848)) : Option (List Int)) >>= fun x2901 => f_slices_partialInsertionSortOrdered_int.l0 a1 a2 x2901 x2775 (IntKind.i64.wrap (x2732 + (1 : Int)))))) else (some (.inr x2730))
partial_fixpoint
def f_slices_partialInsertionSortOrdered_int.f (a0 : List Int) (a1 : Int) (a2 : Int) : Option (Bool × (List Int)) := (f_slices_partialInsertionSortOrdered_int.l0 a1 a2 a0 (IntKind.i64.wrap (a1 + (1 : Int))) 0) >>= fun oo => match oo with | .inl rr => (some rr) | .inr x2902 => (some (false, x2902))
theorem f_slices_partialInsertionSortOrdered_int.ok (a0 : List Int) (a1 : Int) (a2 : Int) (r : Bool × (List Int)) (H : f_slices_partialInsertionSortOrdered_int.f a0 a1 a2 = some r) : Pv.Fn Try.prog 72 [.own 0, iV .i64 a1, iV .i64 a2] [(0, some (.row 1 3 (a0.map (encInt .i64))))] 1 (fun x o => x = bV r.1 ∧ o = [(0, some (.row 1 3 (r.2.map (encInt .i64))))]) := by
  unfold f_slices_partialInsertionSortOrdered_int.f at H
  refine Fn.bodyK [0] Try.func72 rfl rfl (fun Γ hP hn => ?_)
  have hm : Try.prog.follows .mixedOrders = true := by kernel_rfl
  replace hn : Γ.n = 133 := hn
  refine AWp.seq ?_
  refine reg hP hn hm [] [0, 1, 2] [0] ⟨[(0, .own 0), (1, iV .i64 a1), (2, iV .i64 a2)], [(0, some (.row 1 3 (a0.map (encInt .i64))))], 1⟩ [] (by kernel_rfl) trivial ?_
  refine AWp.seq ?_
  refine reg hP hn hm [] [0, 1, 2, 7] [0] ⟨[(0, .own 0), (1, iV .i64 a1), (2, iV .i64 a2), (7, iV .i64 (IntKind.i64.wrap (a1 + (1 : Int))))], [(0, some (.row 1 3 (a0.map (encInt .i64))))], 1⟩ [] (by kernel_rfl) trivial ?_
  refine AWp.seq ?_
  refine AWp.seq ?_
  refine reg hP hn hm [] [0, 1, 2, 7, 8] [0] ⟨[(0, .own 0), (1, iV .i64 a1), (2, iV .i64 a2), (7, iV .i64 (IntKind.i64.wrap (a1 + (1 : Int)))), (8, iV .i64 0)], [(0, some (.row 1 3 (a0.map (encInt .i64))))], 1⟩ [] (by kernel_rfl) trivial ?_
  refine AWp.block ?_
  obtain ⟨o2903, e2904, H⟩ := bind_of H
  refine AWp.loop (LWp.conv (inv := [(0, 0)]) (vk := []) (e0 := []) (t := ⟨[(0, .own 0), (1, iV .i64 a1), (2, iV .i64 a2), (7, iV .i64 (IntKind.i64.wrap (a1 + (1 : Int)))), (8, iV .i64 0)], [(0, some (.row 1 3 (a0.map (encInt .i64))))], 1⟩) (by kernel_rfl) ?_)
  refine LWp.mono (Q := fun e s => (match (generalizing := false) o2903 with | .inl rr => e = .ret ∧ s.floor = 1 ∧ resOf Try.prog Try.f72 s = some (bV rr.1) ∧ ([(0, s.obj 0)] : List (Nat × Option MObj)) = [(0, some (.row 1 3 (rr.2.map (encInt .i64))))] | .inr x2902 => e = .exit 0 ∧ s = ⟨[], [(0, some (.row 1 3 (x2902.map (encInt .i64))))], 1⟩)) (LWp.cv (withBody (fun body hbody => ?_))) ?_
  · refine f_slices_partialInsertionSortOrdered_int.l0.partial_correctness a1 a2 (motive := fun x2730 x2731 x2732 o2903 => LWp Γ body (fun e s => ∃ t, Cv Γ s t ∧ (match (generalizing := false) o2903 with | .inl rr => e = .ret ∧ t.floor = 1 ∧ resOf Try.prog Try.f72 t = some (bV rr.1) ∧ ([(0, t.obj 0)] : List (Nat × Option MObj)) = [(0, some (.row 1 3 (rr.2.map (encInt .i64))))] | .inr x2902 => e = .exit 0 ∧ t = ⟨[], [(0, some (.row 1 3 (x2902.map (encInt .i64))))], 1⟩)) ⟨[(0, .own 0), (1, iV .i64 a1), (2, iV .i64 a2), (7, iV .i64 x2731), (8, iV .i64 x2732)], [(0, some (.row 1 3 (x2730.map (encInt .i64))))], 1⟩) ?_ _ _ _ _ e2904
    clear H e2904 o2903; intro self ih x2730 x2731 x2732 o2903 H
    subst hbody
    refine LWp.round ?_
    refine AWp.seq ?_
    refine AWp.seq ?_
    refine reg hP hn hm [] [0, 1, 2, 7, 8, 14] [0] ⟨[(0, .own 0), (1, iV .i64 a1), (2, iV .i64 a2), (7, iV .i64 x2731), (8, iV .i64 x2732), (14, bV (decide (x2732 < (5 : Int))))], [(0, some (.row 1 3 (x2730.map (encInt .i64))))], 1⟩ [] (by kernel_rfl) trivial ?_
    refine AWp.cond (decide (x2732 < (5 : Int))) rfl (fun c2733 => ?_) (fun c2733 => ?_)
    · replace H := (ifT c2733).symm.trans H
      refine AWp.skip ?_
      refine AWp.seq ?_
      refine AWp.block ?_
      refine AWp.seq ?_
      refine AWp.block ?_
      obtain ⟨o2905, e2906, H⟩ := bind_of H
      refine AWp.loop (LWp.conv (inv := [(0, 0)]) (vk := []) (e0 := []) (t := ⟨[(0, .own 0), (1, iV .i64 a1), (2, iV .i64 a2), (7, iV .i64 x2731), (8, iV .i64 x2732)], [(0, some (.row 1 3 (x2730.map (encInt .i64))))], 1⟩) (by kernel_rfl) ?_)
      refine LWp.mono (Q := fun e s => (match (generalizing := false) o2905 with | x2775 => e = .exit 2 ∧ s = ⟨[(0, .own 0), (1, iV .i64 a1), (2, iV .i64 a2), (7, iV .i64 x2775), (8, iV .i64 x2732)], [(0, some (.row 1 3 (x2730.map (encInt .i64))))], 1⟩)) (LWp.cv (withBody (fun body hbody => ?_))) ?_
      · refine f_slices_partialInsertionSortOrdered_int.l1.partial_correctness a1 a2 x2730 x2732 (motive := fun x2754 o2905 => LWp Γ body (fun e s => ∃ t, Cv Γ s t ∧ (match (generalizing := false) o2905 with | x2775 => e = .exit 2 ∧ t = ⟨[(0, .own 0), (1, iV .i64 a1), (2, iV .i64 a2), (7, iV .i64 x2775), (8, iV .i64 x2732)], [(0, some (.row 1 3 (x2730.map (encInt .i64))))], 1⟩)) ⟨[(0, .own 0), (1, iV .i64 a1), (2, iV .i64 a2), (7, iV .i64 x2754), (8, iV .i64 x2732)], [(0, some (.row 1 3 (x2730.map (encInt .i64))))], 1⟩) ?_ _ _ e2906
        clear H e2906 o2905; intro self ih x2754 o2905 H
        subst hbody
        refine LWp.round ?_
        refine AWp.seq ?_
        refine AWp.seq ?_
        obtain ⟨o2907, e2908, H⟩ := bind_of H
        refine AWp.mono (Q := fun e s => (match (generalizing := false) o2907 with | x2773 => e = .normal ∧ s = ⟨[(0, .own 0), (1, iV .i64 a1), (2, iV .i64 a2), (7, iV .i64 x2754), (8, iV .i64 x2732), (32, bV x2773)], [(0, some (.row 1 3 (x2730.map (encInt .i64))))], 1⟩)) (AWp.cv ?_) ?_
        · replace H := e2908; clear e2908
          rcases Bool.eq_false_or_eq_true (decide (x2754 < a2)) with c2764 | c2764
          · replace H := (ifT c2764).symm.trans H
            obtain ⟨b2765, p2766, q2767, H⟩ := at_of H
            obtain ⟨b2768, p2769, q2770, H⟩ := at_of H
            obtain ⟨t2771, e2772, H⟩ := bind_of H
            refine reg hP hn hm [(3, .b true), (7, .c ((encInt .i64) b2765)), (12, .c ((encInt .i64) b2768)), (13, .call [] [] [] [] 0 (bV t2771) [])] [0, 1, 2, 7, 8, 21, 22, 23, 24, 25, 26, 27, 28, 29, 30, 31, 32] [0] ⟨[(0, .own 0), (1, iV .i64 a1), (2, iV .i64 a2), (7, iV .i64 x2754), (8, iV .i64 x2732), (21, .own 0), (22, iV .i64 x2754), (23, .ptr 0 (Int.toNat (x2754)) 0), (24, iV .i64 b2765), (25, .own 0), (26, iV .i64 x2754), (27, iV .i64 (IntKind.i64.wrap (x2754 - (1 : Int)))), (28, .ptr 0 (Int.toNat (IntKind.i64.wrap (x2754 - (1 : Int)))) 0), (29, iV .i64 b2768), (30, bV t2771), (31, bV (!t2771)), (32, bV (!t2771))], [(0, some (.row 1 3 (x2730.map (encInt .i64))))], 1⟩ [(decide (x2754 < a2)) = true, 0 ≤ x2754, x2754 < (((x2730.map (encInt .i64)).length : Nat) : Int), (x2730.map (encInt .i64))[(Int.toNat (x2754))]? = some ((encInt .i64) b2765), 0 ≤ (IntKind.i64.wrap (x2754 - (1 : Int))), IntKind.i64.wrap (x2754 - (1 : Int)) < (((x2730.map (encInt .i64)).length : Nat) : Int), (x2730.map (encInt .i64))[(Int.toNat (IntKind.i64.wrap (x2754 - (1 : Int))))]? = some ((encInt .i64) b2768), Enters Try.prog 73, Pv.Fn Try.prog 73 [iV .i64 b2765, iV .i64 b2768] [] 0 (fun r o => r = bV t2771 ∧ o = [])] (by kernel_rfl) ⟨by exact c2764, by exact p2766, by exact el_lt (encInt .i64) p2766 q2767, by exact el_map (encInt .i64) q2767, by exact p2769, by exact el_lt (encInt .i64) p2769 q2770, by exact el_map (encInt .i64) q2770, by exact Try.call73, by exact f_cmp_Less_int.ok b2765 b2768 t2771 e2772, trivial⟩ ?_
            obtain rfl := Option.some.inj H
            exact Exists.intro _ (And.intro (fun _ _ h => h.conv (inv := [(0, 0)]) (vk := []) (e0 := []) (t := ⟨[(0, .own 0), (1, iV .i64 a1), (2, iV .i64 a2), (7, iV .i64 x2754), (8, iV .i64 x2732), (32, bV (!t2771))], [(0, some (.row 1 3 (x2730.map (encInt .i64))))], 1⟩) (by kernel_rfl)) (And.intro rfl rfl))
          · replace H := (ifF c2764).symm.trans H
            refine reg hP hn hm [(3, .b false)] [0, 1, 2, 7, 8, 32] [0] ⟨[(0, .own 0), (1, iV .i64 a1), (2, iV .i64 a2), (7, iV .i64 x2754), (8, iV .i64 x2732), (32, bV false)], [(0, some (.row 1 3 (x2730.map (encInt .i64))))], 1⟩ [(decide (x2754 < a2)) = false] (by kernel_rfl) ⟨by exact c2764, trivial⟩ ?_
            obtain rfl := Option.some.inj H
            exact Exists.intro _ (And.intro (fun _ _ h => h.conv (inv := [(0, 0)]) (vk := []) (e0 := []) (t := ⟨[(0, .own 0), (1, iV .i64 a1), (2, iV .i64 a2), (7, iV .i64 x2754), (8, iV .i64 x2732), (32, bV false)], [(0, some (.row 1 3 (x2730.map (encInt .i64))))], 1⟩) (by kernel_rfl)) (And.intro rfl rfl))
        · obtain ⟨x2773, rfl⟩ : ∃ z, z = o2907 := ⟨_, rfl⟩
          rintro e s ⟨rfl, rfl⟩
          refine AWp.cond x2773 rfl (fun c2774 => ?_) (fun c2774 => ?_)
          · replace H := (ifT c2774).symm.trans H
            refine AWp.skip ?_
            refine AWp.block ?_
            refine reg hP hn hm [] [0, 1, 2, 7, 8] [0] ⟨[(0, .own 0), (1, iV .i64 a1), (2, iV .i64 a2), (7, iV .i64 (IntKind.i64.wrap (x2754 + (1 : Int)))), (8, iV .i64 x2732)], [(0, some (.row 1 3 (x2730.map (encInt .i64))))], 1⟩ [] (by kernel_rfl) trivial ?_
            exact LWp.conv (inv := [(0, 0)]) (vk := []) (e0 := []) (t := ⟨[(0, .own 0), (1, iV .i64 a1), (2, iV .i64 a2), (7, iV .i64 (IntKind.i64.wrap (x2754 + (1 : Int)))), (8, iV .i64 x2732)], [(0, some (.row 1 3 (x2730.map (encInt .i64))))], 1⟩) (by kernel_rfl) (ih _ _ H)
          · replace H := (ifF c2774).symm.trans H
            refine AWp.exit ?_
            obtain rfl := Option.some.inj H
            exact Exists.intro _ (And.intro (fun _ _ h => h.conv (inv := [(0, 0)]) (vk := []) (e0 := []) (t := ⟨[(0, .own 0), (1, iV .i64 a1), (2, iV .i64 a2), (7, iV .i64 x2754), (8, iV .i64 x2732)], [(0, some (.row 1 3 (x2730.map (encInt .i64))))], 1⟩) (by kernel_rfl)) (And.intro rfl rfl))
      · obtain ⟨x2775, rfl⟩ : ∃ z, z = o2905 := ⟨_, rfl⟩
        rintro e s ⟨rfl, rfl⟩
        refine AWp.seq ?_
        refine AWp.seq ?_
        refine reg hP hn hm [] [0, 1, 2, 7, 8, 37] [0] ⟨[(0, .own 0), (1, iV .i64 a1), (2, iV .i64 a2), (7, iV .i64 x2775), (8, iV .i64 x2732), (37, bV (x2775 == a2))], [(0, some (.row 1 3 (x2730.map (encInt .i64))))], 1⟩ [] (by kernel_rfl) trivial ?_
        refine AWp.cond (x2775 == a2) rfl (fun c2776 => ?_) (fun c2776 => ?_)
        · replace H := (ifT c2776).symm.trans H
          refine AWp.seq ?_
          refine reg hP hn hm [] [6] [0] ⟨[(6, bV true)], [(0, some (.row 1 3 (x2730.map (encInt .i64))))], 1⟩ [] (by kernel_rfl) trivial ?_
          refine AWp.conv (inv := [(0, 0)]) (vk := []) (e0 := []) (t := ⟨[(6, bV true)], [(0, some (.row 1 3 (x2730.map (encInt .i64))))], 1⟩) (by kernel_rfl) ?_
          refine AWp.ret ?_
          obtain rfl := Option.some.inj H
          exact Exists.intro _ (And.intro (fun _ _ h => h) (And.intro rfl (And.intro rfl (And.intro (by kernel_rfl) (by kernel_rfl)))))
        · replace H := (ifF c2776).symm.trans H
          refine AWp.skip ?_
          refine AWp.seq ?_
          refine AWp.seq ?_
          refine reg hP hn hm [] [0, 1, 2, 7, 8, 41] [0] ⟨[(0, .own 0), (1, iV .i64 a1), (2, iV .i64 a2), (7, iV .i64 x2775), (8, iV .i64 x2732), (41, bV (decide ((IntKind.i64.wrap (a2 - a1)) < (50 : Int))))], [(0, some (.row 1 3 (x2730.map (encInt .i64))))], 1⟩ [] (by kernel_rfl) trivial ?_
          refine AWp.cond (decide ((IntKind.i64.wrap (a2 - a1)) < (50 : Int))) rfl (fun c2777 => ?_) (fun c2777 => ?_)
          · replace H := (ifT c2777).symm.trans H
            refine AWp.seq ?_
            refine reg hP hn hm [] [6] [0] ⟨[(6, bV false)], [(0, some (.row 1 3 (x2730.map (encInt .i64))))], 1⟩ [] (by kernel_rfl) trivial ?_
            refine AWp.conv (inv := [(0, 0)]) (vk := []) (e0 := []) (t := ⟨[(6, bV false)], [(0, some (.row 1 3 (x2730.map (encInt .i64))))], 1⟩) (by kernel_rfl) ?_
            refine AWp.ret ?_
            obtain rfl := Option.some.inj H
            exact Exists.intro _ (And.intro (fun _ _ h => h) (And.intro rfl (And.intro rfl (And.intro (by kernel_rfl) (by kernel_rfl)))))
          · replace H := (ifF c2777).symm.trans H
            refine AWp.skip ?_
            refine AWp.seq ?_
            obtain ⟨b2787, p2788, q2789, H⟩ := at_of H
            obtain ⟨b2790, p2791, q2792, H⟩ := at_of H
            obtain ⟨b2793, p2794, q2795, H⟩ := at_of H
            refine reg hP hn hm [(9, .c ((encInt .i64) b2787)), (13, .c ((encInt .i64) b2790)), (15, .put ((encInt .i64) b2790) ((x2730.set (Int.toNat (x2775)) b2787).map (encInt .i64))), (17, .put ((encInt .i64) b2793) (((x2730.set (Int.toNat (x2775)) b2787).set (Int.toNat (IntKind.i64.wrap (x2775 - (1 : Int)))) b2790).map (encInt .i64)))] [0, 1, 2, 7, 8] [0] ⟨[(0, .own 0), (1, iV .i64 a1), (2, iV .i64 a2), (7, iV .i64 x2775), (8, iV .i64 x2732)], [(0, some (.row 1 3 (((x2730.set (Int.toNat (x2775)) b2787).set (Int.toNat (IntKind.i64.wrap (x2775 - (1 : Int)))) b2790).map (encInt .i64))))], 1⟩ [0 ≤ (IntKind.i64.wrap (x2775 - (1 : Int))), IntKind.i64.wrap (x2775 - (1 : Int)) < (((x2730.map (encInt .i64)).length : Nat) : Int), (x2730.map (encInt .i64))[(Int.toNat (IntKind.i64.wrap (x2775 - (1 : Int))))]? = some ((encInt .i64) b2787), 0 ≤ x2775, x2775 < (((x2730.map (encInt .i64)).length : Nat) : Int), (x2730.map (encInt .i64))[(Int.toNat (x2775))]? = some ((encInt .i64) b2790), 0 ≤ x2775, x2775 < (((x2730.map (encInt .i64)).length : Nat) : Int), (x2730.map (encInt .i64))[(Int.toNat (x2775))]? = some ((encInt .i64) b2790), (x2730.set (Int.toNat (x2775)) b2787).map (encInt .i64) = (x2730.map (encInt .i64)).set (Int.toNat (x2775)) (splice ((encInt .i64) b2790) 0 [iI .i64 b2787]), 0 ≤ (IntKind.i64.wrap (x2775 - (1 : Int))), IntKind.i64.wrap (x2775 - (1 : Int)) < ((((x2730.set (Int.toNat (x2775)) b2787).map (encInt .i64)).length : Nat) : Int), ((x2730.set (Int.toNat (x2775)) b2787).map (encInt .i64))[(Int.toNat (IntKind.i64.wrap (x2775 - (1 : Int))))]? = some ((encInt .i64) b2793), ((x2730.set (Int.toNat (x2775)) b2787).set (Int.toNat (IntKind.i64.wrap (x2775 - (1 : Int)))) b2790).map (encInt .i64) = ((x2730.set (Int.toNat (x2775)) b2787).map (encInt .i64)).set (Int.toNat (IntKind.i64.wrap (x2775 - (1 : Int)))) (splice ((encInt .i64) b2793) 0 [iI .i64 b2790])] (by kernel_rfl) ⟨by exact p2788, by exact el_lt (encInt .i64) p2788 q2789, by exact el_map (encInt .i64) q2789, by exact p2791, by exact el_lt (encInt .i64) p2791 q2792, by exact el_map (encInt .i64) q2792, by exact p2791, by exact el_lt (encInt .i64) p2791 q2792, by exact el_map (encInt .i64) q2792, by exact set1 _ _ _ _, by exact p2794, by exact el_lt (encInt .i64) p2794 q2795, by exact el_map (encInt .i64) q2795, by exact set1 _ _ _ _, trivial⟩ ?_
            refine AWp.seq ?_
            refine AWp.seq ?_
            refine reg hP hn hm [] [0, 1, 2, 7, 8, 61] [0] ⟨[(0, .own 0), (1, iV .i64 a1), (2, iV .i64 a2), (7, iV .i64 x2775), (8, iV .i64 x2732), (61, bV (decide ((IntKind.i64.wrap (x2775 - a1)) ≥ (2 : Int))))], [(0, some (.row 1 3 (((x2730.set (Int.toNat (x2775)) b2787).set (Int.toNat (IntKind.i64.wrap (x2775 - (1 : Int)))) b2790).map (encInt .i64))))], 1⟩ [] (by kernel_rfl) trivial ?_
            obtain ⟨o2909, e2910, H⟩ := bind_of H
            refine AWp.mono (Q := fun e s => (match (generalizing := false) o2909 with | x2848 => e = .normal ∧ s = ⟨[(0, .own 0), (1, iV .i64 a1), (2, iV .i64 a2), (7, iV .i64 x2775), (8, iV .i64 x2732)], [(0, some (.row 1 3 (x2848.map (encInt .i64))))], 1⟩)) (AWp.cv ?_) ?_
            · replace H := e2910; clear e2910
              refine AWp.cond (decide ((IntKind.i64.wrap (x2775 - a1)) ≥ (2 : Int))) rfl (fun c2796 => ?_) (fun c2796 => ?_)
              · replace H := (ifT c2796).symm.trans H
                refine AWp.seq ?_
                refine reg hP hn hm [] [0, 1, 2, 7, 8, 9] [0] ⟨[(0, .own 0), (1, iV .i64 a1), (2, iV .i64 a2), (7, iV .i64 x2775), (8, iV .i64 x2732), (9, iV .i64 (IntKind.i64.wrap (x2775 - (1 : Int))))], [(0, some (.row 1 3 (((x2730.set (Int.toNat (x2775)) b2787).set (Int.toNat (IntKind.i64.wrap (x2775 - (1 : Int)))) b2790).map (encInt .i64))))], 1⟩ [] (by kernel_rfl) trivial ?_
                refine AWp.block ?_
                obtain ⟨o2911, e2912, H⟩ := bind_of H
                refine AWp.loop (LWp.conv (inv := [(0, 0)]) (vk := []) (e0 := []) (t := ⟨[(0, .own 0), (1, iV .i64 a1), (2, iV .i64 a2), (7, iV .i64 x2775), (8, iV .i64 x2732), (9, iV .i64 (IntKind.i64.wrap (x2775 - (1 : Int))))], [(0, some (.row 1 3 (((x2730.set (Int.toNat (x2775)) b2787).set (Int.toNat (IntKind.i64.wrap (x2775 - (1 : Int)))) b2790).map (encInt .i64))))], 1⟩) (by kernel_rfl) ?_)
                refine LWp.mono (Q := fun e s => (match (generalizing := false) o2911 with | x2847 => e = .exit 4 ∧ s = ⟨[(0, .own 0), (1, iV .i64 a1), (2, iV .i64 a2), (7, iV .i64 x2775), (8, iV .i64 x2732)], [(0, some (.row 1 3 (x2847.map (encInt .i64))))], 1⟩)) (LWp.cv (withBody (fun body hbody => ?_))) ?_
                · refine f_slices_partialInsertionSortOrdered_int.l2.partial_correctness a1 a2 x2732 x2775 (motive := fun x2821 x2822 o2911 => LWp Γ body (fun e s => ∃ t, Cv Γ s t ∧ (match (generalizing := false) o2911 with | x2847 => e = .exit 4 ∧ t = ⟨[(0, .own 0), (1, iV .i64 a1), (2, iV .i64 a2), (7, iV .i64 x2775), (8, iV .i64 x2732)], [(0, some (.row 1 3 (x2847.map (encInt .i64))))], 1⟩)) ⟨[(0, .own 0), (1, iV .i64 a1), (2, iV .i64 a2), (7, iV .i64 x2775), (8, iV .i64 x2732), (9, iV .i64 x2822)], [(0, some (.row 1 3 (x2821.map (encInt .i64))))], 1⟩) ?_ _ _ _ e2912
                  clear H e2912 o2911; intro self ih x2821 x2822 o2911 H
                  subst hbody
                  refine LWp.round ?_
                  refine AWp.seq ?_
                  refine AWp.seq ?_
                  refine reg hP hn hm [] [0, 1, 2, 7, 8, 9, 65] [0] ⟨[(0, .own 0), (1, iV .i64 a1), (2, iV .i64 a2), (7, iV .i64 x2775), (8, iV .i64 x2732), (9, iV .i64 x2822), (65, bV (decide (x2822 ≥ (1 : Int))))], [(0, some (.row 1 3 (x2821.map (encInt .i64))))], 1⟩ [] (by kernel_rfl) trivial ?_
                  refine AWp.cond (decide (x2822 ≥ (1 : Int))) rfl (fun c2823 => ?_) (fun c2823 => ?_)
                  · replace H := (ifT c2823).symm.trans H
                    refine AWp.skip ?_
                    refine AWp.seq ?_
                    refine AWp.block ?_
                    refine AWp.seq ?_
                    refine AWp.seq ?_
                    obtain ⟨b2832, p2833, q2834, H⟩ := at_of H
                    obtain ⟨b2835, p2836, q2837, H⟩ := at_of H
                    obtain ⟨t2838, e2839, H⟩ := bind_of H
                    refine reg hP hn hm [(3, .c ((encInt .i64) b2832)), (8, .c ((encInt .i64) b2835)), (9, .call [] [] [] [] 0 (bV t2838) [])] [0, 1, 2, 7, 8, 9, 78] [0] ⟨[(0, .own 0), (1, iV .i64 a1), (2, iV .i64 a2), (7, iV .i64 x2775), (8, iV .i64 x2732), (9, iV .i64 x2822), (78, bV (!t2838))], [(0, some (.row 1 3 (x2821.map (encInt .i64))))], 1⟩ [0 ≤ x2822, x2822 < (((x2821.map (encInt .i64)).length : Nat) : Int), (x2821.map (encInt .i64))[(Int.toNat (x2822))]? = some ((encInt .i64) b2832), 0 ≤ (IntKind.i64.wrap (x2822 - (1 : Int))), IntKind.i64.wrap (x2822 - (1 : Int)) < (((x2821.map (encInt .i64)).length : Nat) : Int), (x2821.map (encInt .i64))[(Int.toNat (IntKind.i64.wrap (x2822 - (1 : Int))))]? = some ((encInt .i64) b2835), Enters Try.prog 73, Pv.Fn Try.prog 73 [iV .i64 b2832, iV .i64 b2835] [] 0 (fun r o => r = bV t2838 ∧ o = [])] (by kernel_rfl) ⟨by exact p2833, by exact el_lt (encInt .i64) p2833 q2834, by exact el_map (encInt .i64) q2834, by exact p2836, by exact el_lt (encInt .i64) p2836 q2837, by exact el_map (encInt .i64) q2837, by exact Try.call73, by exact f_cmp_Less_int.ok b2832 b2835 t2838 e2839, trivial⟩ ?_
                    refine AWp.cond (!t2838) rfl (fun c2840 => ?_) (fun c2840 => ?_)
                    · replace H := (ifT c2840).symm.trans H
                      refine AWp.exit ?_
                      obtain rfl := Option.some.inj H
                      exact Exists.intro _ (And.intro (fun _ _ h => h.conv (inv := [(0, 0)]) (vk := []) (e0 := []) (t := ⟨[(0, .own 0), (1, iV .i64 a1), (2, iV .i64 a2), (7, iV .i64 x2775), (8, iV .i64 x2732)], [(0, some (.row 1 3 (x2821.map (encInt .i64))))], 1⟩) (by kernel_rfl)) (And.intro rfl rfl))
                    · replace H := (ifF c2840).symm.trans H
                      refine AWp.skip ?_
                      obtain ⟨b2844, p2845, q2846, H⟩ := at_of H
                      refine reg hP hn hm [(9, .c ((encInt .i64) b2835)), (13, .c ((encInt .i64) b2832)), (15, .put ((encInt .i64) b2832) ((x2821.set (Int.toNat (x2822)) b2835).map (encInt .i64))), (17, .put ((encInt .i64) b2844) (((x2821.set (Int.toNat (x2822)) b2835).set (Int.toNat (IntKind.i64.wrap (x2822 - (1 : Int)))) b2832).map (encInt .i64)))] [0, 1, 2, 7, 8, 9] [0] ⟨[(0, .own 0), (1, iV .i64 a1), (2, iV .i64 a2), (7, iV .i64 x2775), (8, iV .i64 x2732), (9, iV .i64 x2822)], [(0, some (.row 1 3 (((x2821.set (Int.toNat (x2822)) b2835).set (Int.toNat (IntKind.i64.wrap (x2822 - (1 : Int)))) b2832).map (encInt .i64))))], 1⟩ [0 ≤ (IntKind.i64.wrap (x2822 - (1 : Int))), IntKind.i64.wrap (x2822 - (1 : Int)) < (((x2821.map (encInt .i64)).length : Nat) : Int), (x2821.map (encInt .i64))[(Int.toNat (IntKind.i64.wrap (x2822 - (1 : Int))))]? = some ((encInt .i64) b2835), 0 ≤ x2822, x2822 < (((x2821.map (encInt .i64)).length : Nat) : Int), (x2821.map (encInt .i64))[(Int.toNat (x2822))]? = some ((encInt .i64) b2832), 0 ≤ x2822, x2822 < (((x2821.map (encInt .i64)).length : Nat) : Int), (x2821.map (encInt .i64))[(Int.toNat (x2822))]? = some ((encInt .i64) b2832), (x2821.set (Int.toNat (x2822)) b2835).map (encInt .i64) = (x2821.map (encInt .i64)).set (Int.toNat (x2822)) (splice ((encInt .i64) b2832) 0 [iI .i64 b2835]), 0 ≤ (IntKind.i64.wrap (x2822 - (1 : Int))), IntKind.i64.wrap (x2822 - (1 : Int)) < ((((x2821.set (Int.toNat (x2822)) b2835).map (encInt .i64)).length : Nat) : Int), ((x2821.set (Int.toNat (x2822)) b2835).map (encInt .i64))[(Int.toNat (IntKind.i64.wrap (x2822 - (1 : Int))))]? = some ((encInt .i64) b2844), ((x2821.set (Int.toNat (x2822)) b2835).set (Int.toNat (IntKind.i64.wrap (x2822 - (1 : Int)))) b2832).map (encInt .i64) = ((x2821.set (Int.toNat (x2822)) b2835).map (encInt .i64)).set (Int.toNat (IntKind.i64.wrap (x2822 - (1 : Int)))) (splice ((encInt .i64) b2844) 0 [iI .i64 b2832])] (by kernel_rfl) ⟨by exact p2836, by exact el_lt (encInt .i64) p2836 q2837, by exact el_map (encInt .i64) q2837, by exact p2833, by exact el_lt (encInt .i64) p2833 q2834, by exact el_map (encInt .i64) q2834, by exact p2833, by exact el_lt (encInt .i64) p2833 q2834, by exact el_map (encInt .i64) q2834, by exact set1 _ _ _ _, by exact p2845, by exact el_lt (encInt .i64) p2845 q2846, by exact el_map (encInt .i64) q2846, by exact set1 _ _ _ _, trivial⟩ ?_
                      refine reg hP hn hm [] [0, 1, 2, 7, 8, 9] [0] ⟨[(0, .own 0), (1, iV .i64 a1), (2, iV .i64 a2), (7, iV .i64 x2775), (8, iV .i64 x2732), (9, iV .i64 (IntKind.i64.wrap (x2822 - (1 : Int))))], [(0, some (.row 1 3 (((x2821.set (Int.toNat (x2822)) b2835).set (Int.toNat (IntKind.i64.wrap (x2822 - (1 : Int)))) b2832).map (encInt .i64))))], 1⟩ [] (by kernel_rfl) trivial ?_
                      exact LWp.conv (inv := [(0, 0)]) (vk := []) (e0 := []) (t := ⟨[(0, .own 0), (1, iV .i64 a1), (2, iV .i64 a2), (7, iV .i64 x2775), (8, iV .i64 x2732), (9, iV .i64 (IntKind.i64.wrap (x2822 - (1 : Int))))], [(0, some (.row 1 3 (((x2821.set (Int.toNat (x2822)) b2835).set (Int.toNat (IntKind.i64.wrap (x2822 - (1 : Int)))) b2832).map (encInt .i64))))], 1⟩) (by kernel_rfl) (ih _ _ _ H)
                  · replace H := (ifF c2823).symm.trans H
                    refine AWp.exit ?_
                    obtain rfl := Option.some.inj H
                    exact Exists.intro _ (And.intro (fun _ _ h => h.conv (inv := [(0, 0)]) (vk := []) (e0 := []) (t := ⟨[(0, .own 0), (1, iV .i64 a1), (2, iV .i64 a2), (7, iV .i64 x2775), (8, iV .i64 x2732)], [(0, some (.row 1 3 (x2821.map (encInt .i64))))], 1⟩) (by kernel_rfl)) (And.intro rfl rfl))
                · obtain ⟨x2847, rfl⟩ : ∃ z, z = o2911 := ⟨_, rfl⟩
                  rintro e s ⟨rfl, rfl⟩
                  obtain rfl := Option.some.inj H
                  exact Exists.intro _ (And.intro (fun _ _ h => h.conv (inv := [(0, 0)]) (vk := []) (e0 := []) (t := ⟨[(0, .own 0), (1, iV .i64 a1), (2, iV .i64 a2), (7, iV .i64 x2775), (8, iV .i64 x2732)], [(0, some (.row 1 3 (x2847.map (encInt .i64))))], 1⟩) (by kernel_rfl)) (And.intro rfl rfl))
              · replace H := (ifF c2796).symm.trans H
                refine AWp.skip ?_
                obtain rfl := Option.some.inj H
                exact Exists.intro _ (And.intro (fun _ _ h => h.conv (inv := [(0, 0)]) (vk := []) (e0 := []) (t := ⟨[(0, .own 0), (1, iV .i64 a1), (2, iV .i64 a2), (7, iV .i64 x2775), (8, iV .i64 x2732)], [(0, some (.row 1 3 (((x2730.set (Int.toNat (x2775)) b2787).set (Int.toNat (IntKind.i64.wrap (x2775 - (1 : Int)))) b2790).map (encInt .i64))))], 1⟩) (by kernel_rfl)) (And.intro rfl rfl))
            · obtain ⟨x2848, rfl⟩ : ∃ z, z = o2909 := ⟨_, rfl⟩
              rintro e s ⟨rfl, rfl⟩
              refine AWp.seq ?_
              refine reg hP hn hm [] [0, 1, 2, 7, 8, 98] [0] ⟨[(0, .own 0), (1, iV .i64 a1), (2, iV .i64 a2), (7, iV .i64 x2775), (8, iV .i64 x2732), (98, bV (decide ((IntKind.i64.wrap (a2 - x2775)) ≥ (2 : Int))))], [(0, some (.row 1 3 (x2848.map (encInt .i64))))], 1⟩ [] (by kernel_rfl) trivial ?_
              obtain ⟨o2913, e2914, H⟩ := bind_of H
              refine AWp.mono (Q := fun e s => (match (generalizing := false) o2913 with | x2901 => e = .normal ∧ s = ⟨[(0, .own 0), (1, iV .i64 a1), (2, iV .i64 a2), (7, iV .i64 x2775), (8, iV .i64 x2732)], [(0, some (.row 1 3 (x2901.map (encInt .i64))))], 1⟩)) (AWp.cv ?_) ?_
              · replace H := e2914; clear e2914
                refine AWp.cond (decide ((IntKind.i64.wrap (a2 - x2775)) ≥ (2 : Int))) rfl (fun c2849 => ?_) (fun c2849 => ?_)
                · replace H := (ifT c2849).symm.trans H
                  refine AWp.seq ?_
                  refine reg hP hn hm [] [0, 1, 2, 7, 8, 10] [0] ⟨[(0, .own 0), (1, iV .i64 a1), (2, iV .i64 a2), (7, iV .i64 x2775), (8, iV .i64 x2732), (10, iV .i64 (IntKind.i64.wrap (x2775 + (1 : Int))))], [(0, some (.row 1 3 (x2848.map (encInt .i64))))], 1⟩ [] (by kernel_rfl) trivial ?_
                  refine AWp.block ?_
                  obtain ⟨o2915, e2916, H⟩ := bind_of H
                  refine AWp.loop (LWp.conv (inv := [(0, 0)]) (vk := []) (e0 := []) (t := ⟨[(0, .own 0), (1, iV .i64 a1), (2, iV .i64 a2), (7, iV .i64 x2775), (8, iV .i64 x2732), (10, iV .i64 (IntKind.i64.wrap (x2775 + (1 : Int))))], [(0, some (.row 1 3 (x2848.map (encInt .i64))))], 1⟩) (by kernel_rfl) ?_)
                  refine LWp.mono (Q := fun e s => (match (generalizing := false) o2915 with | x2900 => e = .exit 6 ∧ s = ⟨[(0, .own 0), (1, iV .i64 a1), (2, iV .i64 a2), (7, iV .i64 x2775), (8, iV .i64 x2732)], [(0, some (.row 1 3 (x2900.map (encInt .i64))))], 1⟩)) (LWp.cv (withBody (fun body hbody => ?_))) ?_
                  · refine f_slices_partialInsertionSortOrdered_int.l3.partial_correctness a1 a2 x2732 x2775 (motive := fun x2874 x2875 o2915 => LWp Γ body (fun e s => ∃ t, Cv Γ s t ∧ (match (generalizing := false) o2915 with | x2900 => e = .exit 6 ∧ t = ⟨[(0, .own 0), (1, iV .i64 a1), (2, iV .i64 a2), (7, iV .i64 x2775), (8, iV .i64 x2732)], [(0, some (.row 1 3 (x2900.map (encInt .i64))))], 1⟩)) ⟨[(0, .own 0), (1, iV .i64 a1), (2, iV .i64 a2), (7, iV .i64 x2775), (8, iV .i64 x2732), (10, iV .i64 x2875)], [(0, some (.row 1 3 (x2874.map (encInt .i64))))], 1⟩) ?_ _ _ _ e2916
                    clear H e2916 o2915; intro self ih x2874 x2875 o2915 H
                    subst hbody
                    refine LWp.round ?_
                    refine AWp.seq ?_
                    refine AWp.seq ?_
                    refine reg hP hn hm [] [0, 1, 2, 7, 8, 10, 103] [0] ⟨[(0, .own 0), (1, iV .i64 a1), (2, iV .i64 a2), (7, iV .i64 x2775), (8, iV .i64 x2732), (10, iV .i64 x2875), (103, bV (decide (x2875 < a2)))], [(0, some (.row 1 3 (x2874.map (encInt .i64))))], 1⟩ [] (by kernel_rfl) trivial ?_
                    refine AWp.cond (decide (x2875 < a2)) rfl (fun c2876 => ?_) (fun c2876 => ?_)
                    · replace H := (ifT c2876).symm.trans H
                      refine AWp.skip ?_
                      refine AWp.seq ?_
                      refine AWp.block ?_
                      refine AWp.seq ?_
                      refine AWp.seq ?_
                      obtain ⟨b2885, p2886, q2887, H⟩ := at_of H
                      obtain ⟨b2888, p2889, q2890, H⟩ := at_of H
                      obtain ⟨t2891, e2892, H⟩ := bind_of H
                      refine reg hP hn hm [(3, .c ((encInt .i64) b2885)), (8, .c ((encInt .i64) b2888)), (9, .call [] [] [] [] 0 (bV t2891) [])] [0, 1, 2, 7, 8, 10, 116] [0] ⟨[(0, .own 0), (1, iV .i64 a1), (2, iV .i64 a2), (7, iV .i64 x2775), (8, iV .i64 x2732), (10, iV .i64 x2875), (116, bV (!t2891))], [(0, some (.row 1 3 (x2874.map (encInt .i64))))], 1⟩ [0 ≤ x2875, x2875 < (((x2874.map (encInt .i64)).length : Nat) : Int), (x2874.map (encInt .i64))[(Int.toNat (x2875))]? = some ((encInt .i64) b2885), 0 ≤ (IntKind.i64.wrap (x2875 - (1 : Int))), IntKind.i64.wrap (x2875 - (1 : Int)) < (((x2874.map (encInt .i64)).length : Nat) : Int), (x2874.map (encInt .i64))[(Int.toNat (IntKind.i64.wrap (x2875 - (1 : Int))))]? = some ((encInt .i64) b2888), Enters Try.prog 73, Pv.Fn Try.prog 73 [iV .i64 b2885, iV .i64 b2888] [] 0 (fun r o => r = bV t2891 ∧ o = [])] (by kernel_rfl) ⟨by exact p2886, by exact el_lt (encInt .i64) p2886 q2887, by exact el_map (encInt .i64) q2887, by exact p2889, by exact el_lt (encInt .i64) p2889 q2890, by exact el_map (encInt .i64) q2890, by exact Try.call73, by exact f_cmp_Less_int.ok b2885 b2888 t2891 e2892, trivial⟩ ?_
                      refine AWp.cond (!t2891) rfl (fun c2893 => ?_) (fun c2893 => ?_)
                      · replace H := (ifT c2893).symm.trans H
                        refine AWp.exit ?_
                        obtain rfl := Option.some.inj H
                        exact Exists.intro _ (And.intro (fun _ _ h => h.conv (inv := [(0, 0)]) (vk := []) (e0 := []) (t := ⟨[(0, .own 0), (1, iV .i64 a1), (2, iV .i64 a2), (7, iV .i64 x2775), (8, iV .i64 x2732)], [(0, some (.row 1 3 (x2874.map (encInt .i64))))], 1⟩) (by kernel_rfl)) (And.intro rfl rfl))
                      · replace H := (ifF c2893).symm.trans H
                        refine AWp.skip ?_
                        obtain ⟨b2897, p2898, q2899, H⟩ := at_of H
                        refine reg hP hn hm [(9, .c ((encInt .i64) b2888)), (13, .c ((encInt .i64) b2885)), (15, .put ((encInt .i64) b2885) ((x2874.set (Int.toNat (x2875)) b2888).map (encInt .i64))), (17, .put ((encInt .i64) b2897) (((x2874.set (Int.toNat (x2875)) b2888).set (Int.toNat (IntKind.i64.wrap (x2875 - (1 : Int)))) b2885).map (encInt .i64)))] [0, 1, 2, 7, 8, 10] [0] ⟨[(0, .own 0), (1, iV .i64 a1), (2, iV .i64 a2), (7, iV .i64 x2775), (8, iV .i64 x2732), (10, iV .i64 x2875)], [(0, some (.row 1 3 (((x2874.set (Int.toNat (x2875)) b2888).set (Int.toNat (IntKind.i64.wrap (x2875 - (1 : Int)))) b2885).map (encInt .i64))))], 1⟩ [0 ≤ (IntKind.i64.wrap (x2875 - (1 : Int))), IntKind.i64.wrap (x2875 - (1 : Int)) < (((x2874.map (encInt .i64)).length : Nat) : Int), (x2874.map (encInt .i64))[(Int.toNat (IntKind.i64.wrap (x2875 - (1 : Int))))]? = some ((encInt .i64) b2888), 0 ≤ x2875, x2875 < (((x2874.map (encInt .i64)).length : Nat) : Int), (x2874.map (encInt .i64))[(Int.toNat (x2875))]? = some ((encInt .i64) b2885), 0 ≤ x2875, x2875 < (((x2874.map (encInt .i64)).length : Nat) : Int), (x2874.map (encInt .i64))[(Int.toNat (x2875))]? = some ((encInt .i64) b2885), (x2874.set (Int.toNat (x2875)) b2888).map (encInt .i64) = (x2874.map (encInt .i64)).set (Int.toNat (x2875)) (splice ((encInt .i64) b2885) 0 [iI .i64 b2888]), 0 ≤ (IntKind.i64.wrap (x2875 - (1 : Int))), IntKind.i64.wrap (x2875 - (1 : Int)) < ((((x2874.set (Int.toNat (x2875)) b2888).map (encInt .i64)).length : Nat) : Int), ((x2874.set (Int.toNat (x2875)) b2888).map (encInt .i64))[(Int.toNat (IntKind.i64.wrap (x2875 - (1 : Int))))]? = some ((encInt .i64) b2897), ((x2874.set (Int.toNat (x2875)) b2888).set (Int.toNat (IntKind.i64.wrap (x2875 - (1 : Int)))) b2885).map (encInt .i64) = ((x2874.set (Int.toNat (x2875)) b2888).map (encInt .i64)).set (Int.toNat (IntKind.i64.wrap (x2875 - (1 : Int)))) (splice ((encInt .i64) b2897) 0 [iI .i64 b2885])] (by kernel_rfl) ⟨by exact p2889, by exact el_lt (encInt .i64) p2889 q2890, by exact el_map (encInt .i64) q2890, by exact p2886, by exact el_lt (encInt .i64) p2886 q2887, by exact el_map (encInt .i64) q2887, by exact p2886, by exact el_lt (encInt .i64) p2886 q2887, by exact el_map (encInt .i64) q2887, by exact set1 _ _ _ _, by exact p2898, by exact el_lt (encInt .i64) p2898 q2899, by exact el_map (encInt .i64) q2899, by exact set1 _ _ _ _, trivial⟩ ?_
                        refine reg hP hn hm [] [0, 1, 2, 7, 8, 10] [0] ⟨[(0, .own 0), (1, iV .i64 a1), (2, iV .i64 a2), (7, iV .i64 x2775), (8, iV .i64 x2732), (10, iV .i64 (IntKind.i64.wrap (x2875 + (1 : Int))))], [(0, some (.row 1 3 (((x2874.set (Int.toNat (x2875)) b2888).set (Int.toNat (IntKind.i64.wrap (x2875 - (1 : Int)))) b2885).map (encInt .i64))))], 1⟩ [] (by kernel_rfl) trivial ?_
                        exact LWp.conv (inv := [(0, 0)]) (vk := []) (e0 := []) (t := ⟨[(0, .own 0), (1, iV .i64 a1), (2, iV .i64 a2), (7, iV .i64 x2775), (8, iV .i64 x2732), (10, iV .i64 (IntKind.i64.wrap (x2875 + (1 : Int))))], [(0, some (.row 1 3 (((x2874.set (Int.toNat (x2875)) b2888).set (Int.toNat (IntKind.i64.wrap (x2875 - (1 : Int)))) b2885).map (encInt .i64))))], 1⟩) (by kernel_rfl) (ih _ _ _ H)
                    · replace H := (ifF c2876).symm.trans H
                      refine AWp.exit ?_
                      obtain rfl := Option.some.inj H
                      exact Exists.intro _ (And.intro (fun _ _ h => h.conv (inv := [(0, 0)]) (vk := []) (e0 := []) (t := ⟨[(0, .own 0), (1, iV .i64 a1), (2, iV .i64 a2), (7, iV .i64 x2775), (8, iV .i64 x2732)], [(0, some (.row 1 3 (x2874.map (encInt .i64))))], 1⟩) (by kernel_rfl)) (And.intro rfl rfl))
                  · obtain ⟨x2900, rfl⟩ : ∃ z, z = o2915 := ⟨_, rfl⟩
                    rintro e s ⟨rfl, rfl⟩
                    obtain rfl := Option.some.inj H
                    exact Exists.intro _ (And.intro (fun _ _ h => h.conv (inv := [(0, 0)]) (vk := []) (e0 := []) (t := ⟨[(0, .own 0), (1, iV .i64 a1), (2, iV .i64 a2), (7, iV .i64 x2775), (8, iV .i64 x2732)], [(0, some (.row 1 3 (x2900.map (encInt .i64))))], 1⟩) (by kernel_rfl)) (And.intro rfl rfl))
                · replace H := (ifF c2849).symm.trans H
                  refine AWp.skip ?_
                  obtain rfl := Option.some.inj H
                  exact Exists.intro _ (And.intro (fun _ _ h => h.conv (inv := [(0, 0)]) (vk := []) (e0 := []) (t := ⟨[(0, .own 0), (1, iV .i64 a1), (2, iV .i64 a2), (7, iV .i64 x2775), (8, iV .i64 x2732)], [(0, some (.row 1 3 (x2848.map (encInt .i64))))], 1⟩) (by kernel_rfl)) (And.intro rfl rfl))
              · obtain ⟨x2901, rfl⟩ : ∃ z, z = o2913 := ⟨_, rfl⟩
                rintro e s ⟨rfl, rfl⟩
                refine reg hP hn hm [] [0, 1, 2, 7, 8] [0] ⟨[(0, .own 0), (1, iV .i64 a1), (2, iV .i64 a2), (7, iV .i64 x2775), (8, iV .i64 (IntKind.i64.wrap (x2732 + (1 : Int))))], [(0, some (.row 1 3 (x2901.map (encInt .i64))))], 1⟩ [] (by kernel_rfl) trivial ?_
                exact LWp.conv (inv := [(0, 0)]) (vk := []) (e0 := []) (t := ⟨[(0, .own 0), (1, iV .i64 a1), (2, iV .i64 a2), (7, iV .i64 x2775), (8, iV .i64 (IntKind.i64.wrap (x2732 + (1 : Int))))], [(0, some (.row 1 3 (x2901.map (encInt .i64))))], 1⟩) (by kernel_rfl) (ih _ _ _ _ H)
    · replace H := (ifF c2733).symm.trans H
      refine AWp.exit ?_
      obtain rfl := Option.some.inj H
      exact Exists.intro _ (And.intro (fun _ _ h => h.conv (inv := [(0, 0)]) (vk := []) (e0 := []) (t := ⟨[], [(0, some (.row 1 3 (x2730.map (encInt .i64))))], 1⟩) (by kernel_rfl)) (And.intro rfl rfl))
  · rcases o2903 with rr | x2902
    · skip
      rintro e s ⟨rfl, hfl, hres⟩
      obtain rfl := Option.some.inj H
      exact Exists.intro _ (And.intro (fun _ _ h => h) (And.intro (.inl rfl) (And.intro hfl hres)))
    · skip
      rintro e s ⟨rfl, rfl⟩
      refine AWp.seq ?_
      refine reg hP hn hm [] [6] [0] ⟨[(6, bV false)], [(0, some (.row 1 3 (x2902.map (encInt .i64))))], 1⟩ [] (by kernel_rfl) trivial ?_
      refine AWp.conv (inv := [(0, 0)]) (vk := []) (e0 := []) (t := ⟨[(6, bV false)], [(0, some (.row 1 3 (x2902.map (encInt .i64))))], 1⟩) (by kernel_rfl) ?_
      refine AWp.ret ?_
      obtain rfl := Option.some.inj H
      exact Exists.intro _ (And.intro (fun _ _ h => h) (And.intro (.inl rfl) (And.intro rfl (And.intro (by kernel_rfl) (by kernel_rfl)))))
def f_slices_partitionEqualOrdered_int.l1 (a1 : Int) (x3064 : List Int) (x3066 : Int) (x3087 : Int) : Option (Int) := ((if (decide (x3087 ≤ x3066)) = true then ((at? x3064 a1) >>= fun b3098 => (at? x3064 x3087) >>= fun b3101 => (f_cmp_Less_int.f b3098 b3101) >>= fun t3104 => some (!t3104)) else (some false)) : Option (Bool)) >>= fun x3106 => if x3106 = true then (f_slices_partitionEqualOrdered_int.l1 a1 x3064 x3066 (IntKind.i64.wrap (x3087 + (1 : Int)))) else (some x3087)
partial_fixpoint
def f_slices_partitionEqualOrdered_int.l2 (a1 : Int) (x3064 : List Int) (x3108 : Int) (x3129 : Int) : Option (Int) := ((if (decide (x3108 ≤ x3129)) = true then ((at? x3064 a1) >>= fun b3140 => (at? x3064 x3129) >>= fun b3143 => (f_cmp_Less_int.f b3140 b3143) >>= fun t3146 => some t3146) else (some false)) : Option (Bool)) >>= fun x3148 => if x3148 = true then (f_slices_partitionEqualOrdered_int.l2 a1 x3064 x3108 (IntKind.i64.wrap (x3129 - (1 : Int)))) else (some x3129)
partial_fixpoint
def f_slices_partitionEqualOrdered_int.l0 (a1 : Int) (x3064 : List Int) (x3065 : Int) (x3066 : Int) : Option (Int × (List Int)) := (f_slices_partitionEqualOrdered_int.l1 a1 x3064 x3066 x3065) >>= fun x3108 => (f_slices_partitionEqualOrdered_int.l2 a1 x3064 x3108 x3066) >>= fun x3150 => if (decide (x3108 > x3150)) = true then (some (x3108, x3064)) else ((at? x3064 x3150) >>= fun b3161 => (at? x3064 x3108) >>= fun b3164 => (at? (x3064.set (Int.toNat (x3108)) b3161) x3150) >>= fun b3167 => f_slices_partitionEqualOrdered_int.l0 a1 ((x3064.set (Int.toNat (x3108)) b3161).set (Int.toNat (x3150)) b3164) (IntKind.i64.wrap (x3108 + (1 : Int))) (IntKind.i64.wrap (x3150 - (1 : Int))))
partial_fixpoint
def f_slices_partitionEqualOrdered_int.f (a0 : List Int) (a1 : Int) (a2 : Int) (a3 : Int) : Option (Int × (List Int)) := (at? a0 a3) >>= fun b2952 => (at? a0 a1) >>= fun b2955 => (at? (a0.set (Int.toNat (a1)) b2952) a3) >>= fun b2958 => (f_slices_partitionEqualOrdered_int.l0 a1 ((a0.set (Int.toNat (a1)) b2952).set (Int.toNat (a3)) b2955) (IntKind.i64.wrap (a1 + (1 : Int))) (IntKind.i64.wrap (a2 - (1 : Int)))) >>= fun oo => match oo with | (x3170, x3171) => (some (x3170, x3171))
theorem f_slices_partitionEqualOrdered_int.ok (a0 : List Int) (a1 : Int) (a2 : Int) (a3 : Int) (r : Int × (List Int)) (H : f_slices_partitionEqualOrdered_int.f a0 a1 a2 a3 = some r) : Pv.Fn Try.prog 74 [.own 0, iV .i64 a1, iV .i64 a2, iV .i64 a3] [(0, some (.row 1 3 (a0.map (encInt .i64))))] 1 (fun x o => x = iV .i64 r.1 ∧ o = [(0, some (.row 1 3 (r.2.map (encInt .i64))))]) := by
  unfold f_slices_partitionEqualOrdered_int.f at H
  refine Fn.bodyK [0] Try.func74 rfl rfl (fun Γ hP hn => ?_)
  have hm : Try.prog.follows .mixedOrders = true := by kernel_rfl
  replace hn : Γ.n = 84 := hn
  refine AWp.seq ?_
  refine reg hP hn hm [] [0, 1, 2, 3] [0] ⟨[(0, .own 0), (1, iV .i64 a1), (2, iV .i64 a2), (3, iV .i64 a3)], [(0, some (.row 1 3 (a0.map (encInt .i64))))], 1⟩ [] (by kernel_rfl) trivial ?_
  refine AWp.seq ?_
  obtain ⟨b2952, p2953, q2954, H⟩ := at_of H
  obtain ⟨b2955, p2956, q2957, H⟩ := at_of H
  obtain ⟨b2958, p2959, q2960, H⟩ := at_of H
  refine reg hP hn hm [(7, .c ((encInt .i64) b2952)), (11, .c ((encInt .i64) b2955)), (13, .put ((encInt .i64) b2955) ((a0.set (Int.toNat (a1)) b2952).map (encInt .i64))), (15, .put ((encInt .i64) b2958) (((a0.set (Int.toNat (a1)) b2952).set (Int.toNat (a3)) b2955).map (encInt .i64)))] [0, 1, 2] [0] ⟨[(0, .own 0), (1, iV .i64 a1), (2, iV .i64 a2)], [(0, some (.row 1 3 (((a0.set (Int.toNat (a1)) b2952).set (Int.toNat (a3)) b2955).map (encInt .i64))))], 1⟩ [0 ≤ a3, a3 < (((a0.map (encInt .i64)).length : Nat) : Int), (a0.map (encInt .i64))[(Int.toNat (a3))]? = some ((encInt .i64) b2952), 0 ≤ a1, a1 < (((a0.map (encInt .i64)).length : Nat) : Int), (a0.map (encInt .i64))[(Int.toNat (a1))]? = some ((encInt .i64) b2955), 0 ≤ a1, a1 < (((a0.map (encInt .i64)).length : Nat) : Int), (a0.map (encInt .i64))[(Int.toNat (a1))]? = some ((encInt .i64) b2955), (a0.set (Int.toNat (a1)) b2952).map (encInt .i64) = (a0.map (encInt .i64)).set (Int.toNat (a1)) (splice ((encInt .i64) b2955) 0 [iI .i64 b2952]), 0 ≤ a3, a3 < ((((a0.set (Int.toNat (a1)) b2952).map (encInt .i64)).length : Nat) : Int), ((a0.set (Int.toNat (a1)) b2952).map (encInt .i64))[(Int.toNat (a3))]? = some ((encInt .i64) b2958), ((a0.set (Int.toNat (a1)) b2952).set (Int.toNat (a3)) b2955).map (encInt .i64) = ((a0.set (Int.toNat (a1)) b2952).map (encInt .i64)).set (Int.toNat (a3)) (splice ((encInt .i64) b2958) 0 [iI .i64 b2955])] (by kernel_rfl) ⟨by exact p2953, by exact el_lt (encInt .i64) p2953 q2954, by exact el_map (encInt .i64) q2954, by exact p2956, by exact el_lt (encInt .i64) p2956 q2957, by exact el_map (encInt .i64) q2957, by exact p2956, by exact el_lt (encInt .i64) p2956 q2957, by exact el_map (encInt .i64) q2957, by exact set1 _ _ _ _, by exact p2959, by exact el_lt (encInt .i64) p2959 q2960, by exact el_map (encInt .i64) q2960, by exact set1 _ _ _ _, trivial⟩ ?_
  refine AWp.seq ?_
  refine reg hP hn hm [] [0, 1, 9, 10] [0] ⟨[(0, .own 0), (1, iV .i64 a1), (9, iV .i64 (IntKind.i64.wrap (a1 + (1 : Int)))), (10, iV .i64 (IntKind.i64.wrap (a2 - (1 : Int))))], [(0, some (.row 1 3 (((a0.set (Int.toNat (a1)) b2952).set (Int.toNat (a3)) b2955).map (encInt .i64))))], 1⟩ [] (by kernel_rfl) trivial ?_
  refine AWp.seq ?_
  refine AWp.block ?_
  obtain ⟨o3172, e3173, H⟩ := bind_of H
  refine AWp.loop (LWp.conv (inv := [(0, 0)]) (vk := []) (e0 := []) (t := ⟨[(0, .own 0), (1, iV .i64 a1), (9, iV .i64 (IntKind.i64.wrap (a1 + (1 : Int)))), (10, iV .i64 (IntKind.i64.wrap (a2 - (1 : Int))))], [(0, some (.row 1 3 (((a0.set (Int.toNat (a1)) b2952).set (Int.toNat (a3)) b2955).map (encInt .i64))))], 1⟩) (by kernel_rfl) ?_)
  refine LWp.mono (Q := fun e s => (match (generalizing := false) o3172 with | (x3170, x3171) => e = .exit 0 ∧ s = ⟨[(9, iV .i64 x3170)], [(0, some (.row 1 3 (x3171.map (encInt .i64))))], 1⟩)) (LWp.cv (withBody (fun body hbody => ?_))) ?_
  · refine f_slices_partitionEqualOrdered_int.l0.partial_correctness a1 (motive := fun x3064 x3065 x3066 o3172 => LWp Γ body (fun e s => ∃ t, Cv Γ s t ∧ (match (generalizing := false) o3172 with | (x3170, x3171) => e = .exit 0 ∧ t = ⟨[(9, iV .i64 x3170)], [(0, some (.row 1 3 (x3171.map (encInt .i64))))], 1⟩)) ⟨[(0, .own 0), (1, iV .i64 a1), (9, iV .i64 x3065), (10, iV .i64 x3066)], [(0, some (.row 1 3 (x3064.map (encInt .i64))))], 1⟩) ?_ _ _ _ _ e3173
    clear H e3173 o3172; intro self ih x3064 x3065 x3066 o3172 H
    subst hbody
    refine LWp.round ?_
    refine AWp.block ?_
    refine AWp.seq ?_
    refine AWp.block ?_
    obtain ⟨o3174, e3175, H⟩ := bind_of H
    refine AWp.loop (LWp.conv (inv := [(0, 0)]) (vk := []) (e0 := []) (t := ⟨[(0, .own 0), (1, iV .i64 a1), (9, iV .i64 x3065), (10, iV .i64 x3066)], [(0, some (.row 1 3 (x3064.map (encInt .i64))))], 1⟩) (by kernel_rfl) ?_)
    refine LWp.mono (Q := fun e s => (match (generalizing := false) o3174 with | x3108 => e = .exit 2 ∧ s = ⟨[(0, .own 0), (1, iV .i64 a1), (9, iV .i64 x3108), (10, iV .i64 x3066)], [(0, some (.row 1 3 (x3064.map (encInt .i64))))], 1⟩)) (LWp.cv (withBody (fun body hbody => ?_))) ?_
    · refine f_slices_partitionEqualOrdered_int.l1.partial_correctness a1 x3064 x3066 (motive := fun x3087 o3174 => LWp Γ body (fun e s => ∃ t, Cv Γ s t ∧ (match (generalizing := false) o3174 with | x3108 => e = .exit 2 ∧ t = ⟨[(0, .own 0), (1, iV .i64 a1), (9, iV .i64 x3108), (10, iV .i64 x3066)], [(0, some (.row 1 3 (x3064.map (encInt .i64))))], 1⟩)) ⟨[(0, .own 0), (1, iV .i64 a1), (9, iV .i64 x3087), (10, iV .i64 x3066)], [(0, some (.row 1 3 (x3064.map (encInt .i64))))], 1⟩) ?_ _ _ e3175
      clear H e3175 o3174; intro self ih x3087 o3174 H
      subst hbody
      refine LWp.round ?_
      refine AWp.seq ?_
      refine AWp.seq ?_
      obtain ⟨o3176, e3177, H⟩ := bind_of H
      refine AWp.mono (Q := fun e s => (match (generalizing := false) o3176 with | x3106 => e = .normal ∧ s = ⟨[(0, .own 0), (1, iV .i64 a1), (9, iV .i64 x3087), (10, iV .i64 x3066), (43, bV x3106)], [(0, some (.row 1 3 (x3064.map (encInt .i64))))], 1⟩)) (AWp.cv ?_) ?_
      · replace H := e3177; clear e3177
        rcases Bool.eq_false_or_eq_true (decide (x3087 ≤ x3066)) with c3097 | c3097
        · replace H := (ifT c3097).symm.trans H
          obtain ⟨b3098, p3099, q3100, H⟩ := at_of H
          obtain ⟨b3101, p3102, q3103, H⟩ := at_of H
          obtain ⟨t3104, e3105, H⟩ := bind_of H
          refine reg hP hn hm [(3, .b true), (7, .c ((encInt .i64) b3098)), (11, .c ((encInt .i64) b3101)), (12, .call [] [] [] [] 0 (bV t3104) [])] [0, 1, 9, 10, 33, 34, 35, 36, 37, 38, 39, 40, 41, 42, 43] [0] ⟨[(0, .own 0), (1, iV .i64 a1), (9, iV .i64 x3087), (10, iV .i64 x3066), (33, .own 0), (34, iV .i64 a1), (35, .ptr 0 (Int.toNat (a1)) 0), (36, iV .i64 b3098), (37, .own 0), (38, iV .i64 x3087), (39, .ptr 0 (Int.toNat (x3087)) 0), (40, iV .i64 b3101), (41, bV t3104), (42, bV (!t3104)), (43, bV (!t3104))], [(0, some (.row 1 3 (x3064.map (encInt .i64))))], 1⟩ [(decide (x3087 ≤ x3066)) = true, 0 ≤ a1, a1 < (((x3064.map (encInt .i64)).length : Nat) : Int), (x3064.map (encInt .i64))[(Int.toNat (a1))]? = some ((encInt .i64) b3098), 0 ≤ x3087, x3087 < (((x3064.map (encInt .i64)).length : Nat) : Int), (x3064.map (encInt .i64))[(Int.toNat (x3087))]? = some ((encInt .i64) b3101), Enters Try.prog 73, Pv.Fn Try.prog 73 [iV .i64 b3098, iV .i64 b3101] [] 0 (fun r o => r = bV t3104 ∧ o = [])] (by kernel_rfl) ⟨by exact c3097, by exact p3099, by exact el_lt (encInt .i64) p3099 q3100, by exact el_map (encInt .i64) q3100, by exact p3102, by exact el_lt (encInt .i64) p3102 q3103, by exact el_map (encInt .i64) q3103, by exact Try.call73, by exact f_cmp_Less_int.ok b3098 b3101 t3104 e3105, trivial⟩ ?_
          obtain rfl := Option.some.inj H
          exact Exists.intro _ (And.intro (fun _ _ h => h.conv (inv := [(0, 0)]) (vk := []) (e0 := []) (t := ⟨[(0, .own 0), (1, iV .i64 a1), (9, iV .i64 x3087), (10, iV .i64 x3066), (43, bV (!t3104))], [(0, some (.row 1 3 (x3064.map (encInt .i64))))], 1⟩) (by kernel_rfl)) (And.intro rfl rfl))
        · replace H := (ifF c3097).symm.trans H
          refine reg hP hn hm [(3, .b false)] [0, 1, 9, 10, 43] [0] ⟨[(0, .own 0), (1, iV .i64 a1), (9, iV .i64 x3087), (10, iV .i64 x3066), (43, bV false)], [(0, some (.row 1 3 (x3064.map (encInt .i64))))], 1⟩ [(decide (x3087 ≤ x3066)) = false] (by kernel_rfl) ⟨by exact c3097, trivial⟩ ?_
          obtain rfl := Option.some.inj H
          exact Exists.intro _ (And.intro (fun _ _ h => h.conv (inv := [(0, 0)]) (vk := []) (e0 := []) (t := ⟨[(0, .own 0), (1, iV .i64 a1), (9, iV .i64 x3087), (10, iV .i64 x3066), (43, bV false)], [(0, some (.row 1 3 (x3064.map (encInt .i64))))], 1⟩) (by kernel_rfl)) (And.intro rfl rfl))
      · obtain ⟨x3106, rfl⟩ : ∃ z, z = o3176 := ⟨_, rfl⟩
        rintro e s ⟨rfl, rfl⟩
        refine AWp.cond x3106 rfl (fun c3107 => ?_) (fun c3107 => ?_)
        · replace H := (ifT c3107).symm.trans H
          refine AWp.skip ?_
          refine AWp.block ?_
          refine reg hP hn hm [] [0, 1, 9, 10] [0] ⟨[(0, .own 0), (1, iV .i64 a1), (9, iV .i64 (IntKind.i64.wrap (x3087 + (1 : Int)))), (10, iV .i64 x3066)], [(0, some (.row 1 3 (x3064.map (encInt .i64))))], 1⟩ [] (by kernel_rfl) trivial ?_
          exact LWp.conv (inv := [(0, 0)]) (vk := []) (e0 := []) (t := ⟨[(0, .own 0), (1, iV .i64 a1), (9, iV .i64 (IntKind.i64.wrap (x3087 + (1 : Int)))), (10, iV .i64 x3066)], [(0, some (.row 1 3 (x3064.map (encInt .i64))))], 1⟩) (by kernel_rfl) (ih _ _ H)
        · replace H := (ifF c3107).symm.trans H
          refine AWp.exit ?_
          obtain rfl := Option.some.inj H
          exact Exists.intro _ (And.intro (fun _ _ h => h.conv (inv := [(0, 0)]) (vk := []) (e0 := []) (t := ⟨[(0, .own 0), (1, iV .i64 a1), (9, iV .i64 x3087), (10, iV .i64 x3066)], [(0, some (.row 1 3 (x3064.map (encInt .i64))))], 1⟩) (by kernel_rfl)) (And.intro rfl rfl))
    · obtain ⟨x3108, rfl⟩ : ∃ z, z = o3174 := ⟨_, rfl⟩
      rintro e s ⟨rfl, rfl⟩
      refine AWp.seq ?_
      refine AWp.block ?_
      obtain ⟨o3178, e3179, H⟩ := bind_of H
      refine AWp.loop (LWp.conv (inv := [(0, 0)]) (vk := []) (e0 := []) (t := ⟨[(0, .own 0), (1, iV .i64 a1), (9, iV .i64 x3108), (10, iV .i64 x3066)], [(0, some (.row 1 3 (x3064.map (encInt .i64))))], 1⟩) (by kernel_rfl) ?_)
      refine LWp.mono (Q := fun e s => (match (generalizing := false) o3178 with | x3150 => e = .exit 4 ∧ s = ⟨[(0, .own 0), (1, iV .i64 a1), (9, iV .i64 x3108), (10, iV .i64 x3150)], [(0, some (.row 1 3 (x3064.map (encInt .i64))))], 1⟩)) (LWp.cv (withBody (fun body hbody => ?_))) ?_
      · refine f_slices_partitionEqualOrdered_int.l2.partial_correctness a1 x3064 x3108 (motive := fun x3129 o3178 => LWp Γ body (fun e s => ∃ t, Cv Γ s t ∧ (match (generalizing := false) o3178 with | x3150 => e = .exit 4 ∧ t = ⟨[(0, .own 0), (1, iV .i64 a1), (9, iV .i64 x3108), (10, iV .i64 x3150)], [(0, some (.row 1 3 (x3064.map (encInt .i64))))], 1⟩)) ⟨[(0, .own 0), (1, iV .i64 a1), (9, iV .i64 x3108), (10, iV .i64 x3129)], [(0, some (.row 1 3 (x3064.map (encInt .i64))))], 1⟩) ?_ _ _ e3179
        clear H e3179 o3178; intro self ih x3129 o3178 H
        subst hbody
        refine LWp.round ?_
        refine AWp.seq ?_
        refine AWp.seq ?_
        obtain ⟨o3180, e3181, H⟩ := bind_of H
        refine AWp.mono (Q := fun e s => (match (generalizing := false) o3180 with | x3148 => e = .normal ∧ s = ⟨[(0, .own 0), (1, iV .i64 a1), (9, iV .i64 x3108), (10, iV .i64 x3129), (59, bV x3148)], [(0, some (.row 1 3 (x3064.map (encInt .i64))))], 1⟩)) (AWp.cv ?_) ?_
        · replace H := e3181; clear e3181
          rcases Bool.eq_false_or_eq_true (decide (x3108 ≤ x3129)) with c3139 | c3139
          · replace H := (ifT c3139).symm.trans H
            obtain ⟨b3140, p3141, q3142, H⟩ := at_of H
            obtain ⟨b3143, p3144, q3145, H⟩ := at_of H
            obtain ⟨t3146, e3147, H⟩ := bind_of H
            refine reg hP hn hm [(3, .b true), (7, .c ((encInt .i64) b3140)), (11, .c ((encInt .i64) b3143)), (12, .call [] [] [] [] 0 (bV t3146) [])] [0, 1, 9, 10, 50, 51, 52, 53, 54, 55, 56, 57, 58, 59] [0] ⟨[(0, .own 0), (1, iV .i64 a1), (9, iV .i64 x3108), (10, iV .i64 x3129), (50, .own 0), (51, iV .i64 a1), (52, .ptr 0 (Int.toNat (a1)) 0), (53, iV .i64 b3140), (54, .own 0), (55, iV .i64 x3129), (56, .ptr 0 (Int.toNat (x3129)) 0), (57, iV .i64 b3143), (58, bV t3146), (59, bV t3146)], [(0, some (.row 1 3 (x3064.map (encInt .i64))))], 1⟩ [(decide (x3108 ≤ x3129)) = true, 0 ≤ a1, a1 < (((x3064.map (encInt .i64)).length : Nat) : Int), (x3064.map (encInt .i64))[(Int.toNat (a1))]? = some ((encInt .i64) b3140), 0 ≤ x3129, x3129 < (((x3064.map (encInt .i64)).length : Nat) : Int), (x3064.map (encInt .i64))[(Int.toNat (x3129))]? = some ((encInt .i64) b3143), Enters Try.prog 73, Pv.Fn Try.prog 73 [iV .i64 b3140, iV .i64 b3143] [] 0 (fun r o => r = bV t3146 ∧ o = [])] (by kernel_rfl) ⟨by exact c3139, by exact p3141, by exact el_lt (encInt .i64) p3141 q3142, by exact el_map (encInt .i64) q3142, by exact p3144, by exact el_lt (encInt .i64) p3144 q3145, by exact el_map (encInt .i64) q3145, by exact Try.call73, by exact f_cmp_Less_int.ok b3140 b3143 t3146 e3147, trivial⟩ ?_
            obtain rfl := Option.some.inj H
            exact Exists.intro _ (And.intro (fun _ _ h => h.conv (inv := [(0, 0)]) (vk := []) (e0 := []) (t := ⟨[(0, .own 0), (1, iV .i64 a1), (9, iV .i64 x3108), (10, iV .i64 x3129), (59, bV t3146)], [(0, some (.row 1 3 (x3064.map (encInt .i64))))], 1⟩) (by kernel_rfl)) (And.intro rfl rfl))
          · replace H := (ifF c3139).symm.trans H
            refine reg hP hn hm [(3, .b false)] [0, 1, 9, 10, 59] [0] ⟨[(0, .own 0), (1, iV .i64 a1), (9, iV .i64 x3108), (10, iV .i64 x3129), (59, bV false)], [(0, some (.row 1 3 (x3064.map (encInt .i64))))], 1⟩ [(decide (x3108 ≤ x3129)) = false] (by kernel_rfl) ⟨by exact c3139, trivial⟩ ?_
            obtain rfl := Option.some.inj H
            exact Exists.intro _ (And.intro (fun _ _ h => h.conv (inv := [(0, 0)]) (vk := []) (e0 := []) (t := ⟨[(0, .own 0), (1, iV .i64 a1), (9, iV .i64 x3108), (10, iV .i64 x3129), (59, bV false)], [(0, some (.row 1 3 (x3064.map (encInt .i64))))], 1⟩) (by kernel_rfl)) (And.intro rfl rfl))
        · obtain ⟨x3148, rfl⟩ : ∃ z, z = o3180 := ⟨_, rfl⟩
          rintro e s ⟨rfl, rfl⟩
          refine AWp.cond x3148 rfl (fun c3149 => ?_) (fun c3149 => ?_)
          · replace H := (ifT c3149).symm.trans H
            refine AWp.skip ?_
            refine AWp.block ?_
            refine reg hP hn hm [] [0, 1, 9, 10] [0] ⟨[(0, .own 0), (1, iV .i64 a1), (9, iV .i64 x3108), (10, iV .i64 (IntKind.i64.wrap (x3129 - (1 : Int))))], [(0, some (.row 1 3 (x3064.map (encInt .i64))))], 1⟩ [] (by kernel_rfl) trivial ?_
            exact LWp.conv (inv := [(0, 0)]) (vk := []) (e0 := []) (t := ⟨[(0, .own 0), (1, iV .i64 a1), (9, iV .i64 x3108), (10, iV .i64 (IntKind.i64.wrap (x3129 - (1 : Int))))], [(0, some (.row 1 3 (x3064.map (encInt .i64))))], 1⟩) (by kernel_rfl) (ih _ _ H)
          · replace H := (ifF c3149).symm.trans H
            refine AWp.exit ?_
            obtain rfl := Option.some.inj H
            exact Exists.intro _ (And.intro (fun _ _ h => h.conv (inv := [(0, 0)]) (vk := []) (e0 := []) (t := ⟨[(0, .own 0), (1, iV .i64 a1), (9, iV .i64 x3108), (10, iV .i64 x3129)], [(0, some (.row 1 3 (x3064.map (encInt .i64))))], 1⟩) (by kernel_rfl)) (And.intro rfl rfl))
      · obtain ⟨x3150, rfl⟩ : ∃ z, z = o3178 := ⟨_, rfl⟩
        rintro e s ⟨rfl, rfl⟩
        refine AWp.seq ?_
        refine AWp.seq ?_
        refine reg hP hn hm [] [0, 1, 9, 10, 64] [0] ⟨[(0, .own 0), (1, iV .i64 a1), (9, iV .i64 x3108), (10, iV .i64 x3150), (64, bV (decide (x3108 > x3150)))], [(0, some (.row 1 3 (x3064.map (encInt .i64))))], 1⟩ [] (by kernel_rfl) trivial ?_
        refine AWp.cond (decide (x3108 > x3150)) rfl (fun c3151 => ?_) (fun c3151 => ?_)
        · replace H := (ifT c3151).symm.trans H
          refine AWp.exit ?_
          obtain rfl := Option.some.inj H
          exact Exists.intro _ (And.intro (fun _ _ h => h.conv (inv := [(0, 0)]) (vk := []) (e0 := []) (t := ⟨[(9, iV .i64 x3108)], [(0, some (.row 1 3 (x3064.map (encInt .i64))))], 1⟩) (by kernel_rfl)) (And.intro rfl rfl))
        · replace H := (ifF c3151).symm.trans H
          refine AWp.skip ?_
          refine AWp.seq ?_
          obtain ⟨b3161, p3162, q3163, H⟩ := at_of H
          obtain ⟨b3164, p3165, q3166, H⟩ := at_of H
          obtain ⟨b3167, p3168, q3169, H⟩ := at_of H
          refine reg hP hn hm [(7, .c ((encInt .i64) b3161)), (11, .c ((encInt .i64) b3164)), (13, .put ((encInt .i64) b3164) ((x3064.set (Int.toNat (x3108)) b3161).map (encInt .i64))), (15, .put ((encInt .i64) b3167) (((x3064.set (Int.toNat (x3108)) b3161).set (Int.toNat (x3150)) b3164).map (encInt .i64)))] [0, 1, 9, 10] [0] ⟨[(0, .own 0), (1, iV .i64 a1), (9, iV .i64 x3108), (10, iV .i64 x3150)], [(0, some (.row 1 3 (((x3064.set (Int.toNat (x3108)) b3161).set (Int.toNat (x3150)) b3164).map (encInt .i64))))], 1⟩ [0 ≤ x3150, x3150 < (((x3064.map (encInt .i64)).length : Nat) : Int), (x3064.map (encInt .i64))[(Int.toNat (x3150))]? = some ((encInt .i64) b3161), 0 ≤ x3108, x3108 < (((x3064.map (encInt .i64)).length : Nat) : Int), (x3064.map (encInt .i64))[(Int.toNat (x3108))]? = some ((encInt .i64) b3164), 0 ≤ x3108, x3108 < (((x3064.map (encInt .i64)).length : Nat) : Int), (x3064.map (encInt .i64))[(Int.toNat (x3108))]? = some ((encInt .i64) b3164), (x3064.set (Int.toNat (x3108)) b3161).map (encInt .i64) = (x3064.map (encInt .i64)).set (Int.toNat (x3108)) (splice ((encInt .i64) b3164) 0 [iI .i64 b3161]), 0 ≤ x3150, x3150 < ((((x3064.set (Int.toNat (x3108)) b3161).map (encInt .i64)).length : Nat) : Int), ((x3064.set (Int.toNat (x3108)) b3161).map (encInt .i64))[(Int.toNat (x3150))]? = some ((encInt .i64) b3167), ((x3064.set (Int.toNat (x3108)) b3161).set (Int.toNat (x3150)) b3164).map (encInt .i64) = ((x3064.set (Int.toNat (x3108)) b3161).map (encInt .i64)).set (Int.toNat (x3150)) (splice ((encInt .i64) b3167) 0 [iI .i64 b3164])] (by kernel_rfl) ⟨by exact p3162, by exact el_lt (encInt .i64) p3162 q3163, by exact el_map (encInt .i64) q3163, by exact p3165, by exact el_lt (encInt .i64) p3165 q3166, by exact el_map (encInt .i64) q3166, by exact p3165, by exact el_lt (encInt .i64) p3165 q3166, by exact el_map (encInt .i64) q3166, by exact set1 _ _ _ _, by exact p3168, by exact el_lt (encInt .i64) p3168 q3169, by exact el_map (encInt .i64) q3169, by exact set1 _ _ _ _, trivial⟩ ?_
          refine AWp.seq ?_
          refine reg hP hn hm [] [0, 1, 9, 10] [0] ⟨[(0, .own 0), (1, iV .i64 a1), (9, iV .i64 (IntKind.i64.wrap (x3108 + (1 : Int)))), (10, iV .i64 x3150)], [(0, some (.row 1 3 (((x3064.set (Int.toNat (x3108)) b3161).set (Int.toNat (x3150)) b3164).map (encInt .i64))))], 1⟩ [] (by kernel_rfl) trivial ?_
          refine reg hP hn hm [] [0, 1, 9, 10] [0] ⟨[(0, .own 0), (1, iV .i64 a1), (9, iV .i64 (IntKind.i64.wrap (x3108 + (1 : Int)))), (10, iV .i64 (IntKind.i64.wrap (x3150 - (1 : Int))))], [(0, some (.row 1 3 (((x3064.set (Int.toNat (x3108)) b3161).set (Int.toNat (x3150)) b3164).map (encInt .i64))))], 1⟩ [] (by kernel_rfl) trivial ?_
          exact LWp.conv (inv := [(0, 0)]) (vk := []) (e0 := []) (t := ⟨[(0, .own 0), (1, iV .i64 a1), (9, iV .i64 (IntKind.i64.wrap (x3108 + (1 : Int)))), (10, iV .i64 (IntKind.i64.wrap (x3150 - (1 : Int))))], [(0, some (.row 1 3 (((x3064.set (Int.toNat (x3108)) b3161).set (Int.toNat (x3150)) b3164).map (encInt .i64))))], 1⟩) (by kernel_rfl) (ih _ _ _ _ H)
  · obtain ⟨x3170, x3171⟩ := o3172
    rintro e s ⟨rfl, rfl⟩
    refine AWp.seq ?_
    refine reg hP hn hm [] [8] [0] ⟨[(8, iV .i64 x3170)], [(0, some (.row 1 3 (x3171.map (encInt .i64))))], 1⟩ [] (by kernel_rfl) trivial ?_
    refine AWp.conv (inv := [(0, 0)]) (vk := []) (e0 := []) (t := ⟨[(8, iV .i64 x3170)], [(0, some (.row 1 3 (x3171.map (encInt .i64))))], 1⟩) (by kernel_rfl) ?_
    refine AWp.ret ?_
    obtain rfl := Option.some.inj H
    exact Exists.intro _ (And.intro (fun _ _ h => h) (And.intro (.inl rfl) (And.intro rfl (And.intro (by kernel_rfl) (by kernel_rfl)))))
def f_slices_partitionOrdered_int.l0 (a0 : List Int) (a1 : Int) (a2 : Int) (a3 : Int) (b3195 : Int) (b3198 : Int) (x3224 : Int) : Option (Int) := ((if (decide (x3224 ≤ (IntKind.i64.wrap (a2 - (1 : Int))))) = true then ((at? ((a0.set (Int.toNat (a1)) b3195).set (Int.toNat (a3)) b3198) x3224) >>= fun b3235 => (at? ((a0.set (Int.toNat (a1)) b3195).set (Int.toNat (a3)) b3198) a1) >>= fun b3238 => (f_cmp_Less_int.f b3235 b3238) >>= fun t3241 => some t3241) else (some false)) : Option (Bool)) >>= fun x3243 => if x3243 = true then (f_slices_partitionOrdered_int.l0 a0 a1 a2 a3 b3195 b3198 (IntKind.i64.wrap (x3224 + (1 : Int)))) else (some x3224)
partial_fixpoint
def f_slices_partitionOrdered_int.l1 (a0 : List Int) (a1 : Int) (a3 : Int) (b3195 : Int) (b3198 : Int) (x3245 : Int) (x3266 : Int) : Option (Int) := ((if (decide (x3245 ≤ x3266)) = true then ((at? ((a0.set (Int.toNat (a1)) b3195).set (Int.toNat (a3)) b3198) x3266) >>= fun b3277 => (at? ((a0.set (Int.toNat (a1)) b3195).set (Int.toNat (a3)) b3198) a1) >>= fun b3280 => (f_cmp_Less_int.f b3277 b3280) >>= fun t3283 => some (!t3283)) else (some false)) : Option (Bool)) >>= fun x3285 => if x3285 = true then (f_slices_partitionOrdered_int.l1 a0 a1 a3 b3195 b3198 x3245 (IntKind.i64.wrap (x3266 - (1 : Int)))) else (some x3266)
partial_fixpoint
def f_slices_partitionOrdered_int.l3 (a1 : Int) (x3428 : List Int) (x3430 : Int) (x3451 : Int) : Option (Int) := ((if (decide (x3451 ≤ x3430)) = true then ((at? x3428 x3451) >>= fun b3462 => (at? x3428 a1) >>= fun b3465 => (f_cmp_Less_int.f b3462 b3465) >>= fun t3468 => some t3468) else (some false)) : Option (Bool)) >>= fun x3470 => if x3470 = true then (f_slices_partitionOrdered_int.l3 a1 x3428 x3430 (IntKind.i64.wrap (x3451 + (1 : Int)))) else (some x3451)
partial_fixpoint
def f_slices_partitionOrdered_int.l4 (a1 : Int) (x3428 : List Int) (x3472 : Int) (x3493 : Int) : Option (Int) := ((if (decide (x3472 ≤ x3493)) = true then ((at? x3428 x3493) >>= fun b3504 => (at? x3428 a1) >>= fun b3507 => (f_cmp_Less_int.f b3504 b3507) >>= fun t3510 => some (!t3510)) else (some false)) : Option (Bool)) >>= fun x3512 => if x3512 = true then (f_slices_partitionOrdered_int.l4 a1 x3428 x3472 (IntKind.i64.wrap (x3493 - (1 : Int)))) else (some x3493)
partial_fixpoint
def f_slices_partitionOrdered_int.l2 (a1 : Int) (x3428 : List Int) (x3429 : Int) (x3430 : Int) : Option ((List Int) × Int) := (f_slices_partitionOrdered_int.l3 a1 x3428 x3430 x3429) >>= fun x3472 => (f_slices_partitionOrdered_int.l4 a1 x3428 x3472 x3430) >>= fun x3514 => if (decide (x3472 > x3514)) = true then (some (x3428, x3514)) else ((at? x3428 x3514) >>= fun b3525 => (at? x3428 x3472) >>= fun b3528 => (at? (x3428.set (Int.toNat (x3472)) b3525) x3514) >>= fun b3531 => f_slices_partitionOrdered_int.l2 a1 ((x3428.set (Int.toNat (x3472)) b3525).set (Int.toNat (x3514)) b3528) (IntKind.i64.wrap (x3472 + (1 : Int))) (IntKind.i64.wrap (x3514 - (1 : Int))))
partial_fixpoint
def f_slices_partitionOrdered_int.f (a0 : List Int) (a1 : Int) (a2 : Int) (a3 : Int) : Option (Int × Bool × (List Int)) := (at? a0 a3) >>= fun b3195 => (at? a0 a1) >>= fun b3198 => (at? (a0.set (Int.toNat (a1)) b3195) a3) >>= fun b3201 => (f_slices_partitionOrdered_int.l0 a0 a1 a2 a3 b3195 b3198 (IntKind.i64.wrap (a1 + (1 : Int)))) >>= fun x3245 => (f_slices_partitionOrdered_int.l1 a0 a1 a3 b3195 b3198 x3245 (IntKind.i64.wrap (a2 - (1 : Int)))) >>= fun x3287 => if (decide (x3245 > x3287)) = true then ((at? ((a0.set (Int.toNat (a1)) b3195).set (Int.toNat (a3)) b3198) a1) >>= fun b3298 => (at? ((a0.set (Int.toNat (a1)) b3195).set (Int.toNat (a3)) b3198) x3287) >>= fun b3301 => (at? (((a0.set (Int.toNat (a1)) b3195).set (Int.toNat (a3)) b3198).set (Int.toNat (x3287)) b3298) a1) >>= fun b3304 => some (x3287, true, (((a0.set (Int.toNat (a1)) b3195).set (Int.toNat (a3)) b3198).set (Int.toNat (x3287)) b3298).set (Int.toNat (a1)) b3301)) else ((at? ((a0.set (Int.toNat (a1)) b3195).set (Int.toNat (a3)) b3198) x3287) >>= fun b3316 => (at? ((a0.set (Int.toNat (a1)) b3195).set (Int.toNat (a3)) b3198) x3245) >>= fun b3319 => (at? (((a0.set (Int.toNat (a1)) b3195).set (Int.toNat (a3)) b3198).set (Int.toNat (x3245)) b3316) x3287) >>= fun b3322 => (f_slices_partitionOrdered_int.l2 a1 ((((a0.set (Int.toNat (a1)) b3195).set (Int.toNat (a3)) b3198).set (Int.toNat (x3245)) b3316).set (Int.toNat (x3287)) b3319) (IntKind.i64.wrap (x3245 + (1 : Int))) (IntKind.i64.wrap (x3287 - (1 : Int)))) >>= fun oo => match oo with | (x3534, x3535) => ((at? x3534 a1) >>= fun b3545 => (at? x3534 x3535) >>= fun b3548 => (at? (x3534.set (Int.toNat (x3535)) b3545) a1) >>= fun b3551 => some (x3535, false, (x3534.set (Int.toNat (x3535)) b3545).set (Int.toNat (a1)) b3548)))
theorem f_slices_partitionOrdered_int.ok (a0 : List Int) (a1 : Int) (a2 : Int) (a3 : Int) (r : Int × Bool × (List Int)) (H : f_slices_partitionOrdered_int.f a0 a1 a2 a3 = some r) : Pv.Fn Try.prog 75 [.own 0, iV .i64 a1, iV .i64 a2, iV .i64 a3] [(0, some (.row 1 3 (a0.map (encInt .i64))))] 1 (fun x o => x = .tup [iV .i64 r.1, bV r.2.1] ∧ o = [(0, some (.row 1 3 (r.2.2.map (encInt .i64))))]) := by
  unfold f_slices_partitionOrdered_int.f at H
  refine Fn.bodyK [0] Try.func75 rfl rfl (fun Γ hP hn => ?_)
  have hm : Try.prog.follows .mixedOrders = true := by kernel_rfl
  replace hn : Γ.n = 168 := hn
  refine AWp.seq ?_
  refine reg hP hn hm [] [0, 1, 2, 3] [0] ⟨[(0, .own 0), (1, iV .i64 a1), (2, iV .i64 a2), (3, iV .i64 a3)], [(0, some (.row 1 3 (a0.map (encInt .i64))))], 1⟩ [] (by kernel_rfl) trivial ?_
  refine AWp.seq ?_
  obtain ⟨b3195, p3196, q3197, H⟩ := at_of H
  obtain ⟨b3198, p3199, q3200, H⟩ := at_of H
  obtain ⟨b3201, p3202, q3203, H⟩ := at_of H
  refine reg hP hn hm [(7, .c ((encInt .i64) b3195)), (11, .c ((encInt .i64) b3198)), (13, .put ((encInt .i64) b3198) ((a0.set (Int.toNat (a1)) b3195).map (encInt .i64))), (15, .put ((encInt .i64) b3201) (((a0.set (Int.toNat (a1)) b3195).set (Int.toNat (a3)) b3198).map (encInt .i64)))] [0, 1, 2] [0] ⟨[(0, .own 0), (1, iV .i64 a1), (2, iV .i64 a2)], [(0, some (.row 1 3 (((a0.set (Int.toNat (a1)) b3195).set (Int.toNat (a3)) b3198).map (encInt .i64))))], 1⟩ [0 ≤ a3, a3 < (((a0.map (encInt .i64)).length : Nat) : Int), (a0.map (encInt .i64))[(Int.toNat (a3))]? = some ((encInt .i64) b3195), 0 ≤ a1, a1 < (((a0.map (encInt .i64)).length : Nat) : Int), (a0.map (encInt .i64))[(Int.toNat (a1))]? = some ((encInt .i64) b3198), 0 ≤ a1, a1 < (((a0.map (encInt .i64)).length : Nat) : Int), (a0.map (encInt .i64))[(Int.toNat (a1))]? = some ((encInt .i64) b3198), (a0.set (Int.toNat (a1)) b3195).map (encInt .i64) = (a0.map (encInt .i64)).set (Int.toNat (a1)) (splice ((encInt .i64) b3198) 0 [iI .i64 b3195]), 0 ≤ a3, a3 < ((((a0.set (Int.toNat (a1)) b3195).map (encInt .i64)).length : Nat) : Int), ((a0.set (Int.toNat (a1)) b3195).map (encInt .i64))[(Int.toNat (a3))]? = some ((encInt .i64) b3201), ((a0.set (Int.toNat (a1)) b3195).set (Int.toNat (a3)) b3198).map (encInt .i64) = ((a0.set (Int.toNat (a1)) b3195).map (encInt .i64)).set (Int.toNat (a3)) (splice ((encInt .i64) b3201) 0 [iI .i64 b3198])] (by kernel_rfl) ⟨by exact p3196, by exact el_lt (encInt .i64) p3196 q3197, by exact el_map (encInt .i64) q3197, by exact p3199, by exact el_lt (encInt .i64) p3199 q3200, by exact el_map (encInt .i64) q3200, by exact p3199, by exact el_lt (encInt .i64) p3199 q3200, by exact el_map (encInt .i64) q3200, by exact set1 _ _ _ _, by exact p3202, by exact el_lt (encInt .i64) p3202 q3203, by exact el_map (encInt .i64) q3203, by exact set1 _ _ _ _, trivial⟩ ?_
  refine AWp.seq ?_
  refine reg hP hn hm [] [0, 1, 10, 11] [0] ⟨[(0, .own 0), (1, iV .i64 a1), (10, iV .i64 (IntKind.i64.wrap (a1 + (1 : Int)))), (11, iV .i64 (IntKind.i64.wrap (a2 - (1 : Int))))], [(0, some (.row 1 3 (((a0.set (Int.toNat (a1)) b3195).set (Int.toNat (a3)) b3198).map (encInt .i64))))], 1⟩ [] (by kernel_rfl) trivial ?_
  refine AWp.seq ?_
  refine AWp.block ?_
  obtain ⟨o3554, e3555, H⟩ := bind_of H
  refine AWp.loop (LWp.conv (inv := [(0, 0)]) (vk := []) (e0 := []) (t := ⟨[(0, .own 0), (1, iV .i64 a1), (10, iV .i64 (IntKind.i64.wrap (a1 + (1 : Int)))), (11, iV .i64 (IntKind.i64.wrap (a2 - (1 : Int))))], [(0, some (.row 1 3 (((a0.set (Int.toNat (a1)) b3195).set (Int.toNat (a3)) b3198).map (encInt .i64))))], 1⟩) (by kernel_rfl) ?_)
  refine LWp.mono (Q := fun e s => (match (generalizing := false) o3554 with | x3245 => e = .exit 0 ∧ s = ⟨[(0, .own 0), (1, iV .i64 a1), (10, iV .i64 x3245), (11, iV .i64 (IntKind.i64.wrap (a2 - (1 : Int))))], [(0, some (.row 1 3 (((a0.set (Int.toNat (a1)) b3195).set (Int.toNat (a3)) b3198).map (encInt .i64))))], 1⟩)) (LWp.cv (withBody (fun body hbody => ?_))) ?_
  · refine f_slices_partitionOrdered_int.l0.partial_correctness a0 a1 a2 a3 b3195 b3198 (motive := fun x3224 o3554 => LWp Γ body (fun e s => ∃ t, Cv Γ s t ∧ (match (generalizing := false) o3554 with | x3245 => e = .exit 0 ∧ t = ⟨[(0, .own 0), (1, iV .i64 a1), (10, iV .i64 x3245), (11, iV .i64 (IntKind.i64.wrap (a2 - (1 : Int))))], [(0, some (.row 1 3 (((a0.set (Int.toNat (a1)) b3195).set (Int.toNat (a3)) b3198).map (encInt .i64))))], 1⟩)) ⟨[(0, .own 0), (1, iV .i64 a1), (10, iV .i64 x3224), (11, iV .i64 (IntKind.i64.wrap (a2 - (1 : Int))))], [(0, some (.row 1 3 (((a0.set (Int.toNat (a1)) b3195).set (Int.toNat (a3)) b3198).map (encInt .i64))))], 1⟩) ?_ _ _ e3555
    clear H e3555 o3554; intro self ih x3224 o3554 H
    subst hbody
    refine LWp.round ?_
    refine AWp.seq ?_
    refine AWp.seq ?_
    obtain ⟨o3556, e3557, H⟩ := bind_of H
    refine AWp.mono (Q := fun e s => (match (generalizing := false) o3556 with | x3243 => e = .normal ∧ s = ⟨[(0, .own 0), (1, iV .i64 a1), (10, iV .i64 x3224), (11, iV .i64 (IntKind.i64.wrap (a2 - (1 : Int)))), (43, bV x3243)], [(0, some (.row 1 3 (((a0.set (Int.toNat (a1)) b3195).set (Int.toNat (a3)) b3198).map (encInt .i64))))], 1⟩)) (AWp.cv ?_) ?_
    · replace H := e3557; clear e3557
      rcases Bool.eq_false_or_eq_true (decide (x3224 ≤ (IntKind.i64.wrap (a2 - (1 : Int))))) with c3234 | c3234
      · replace H := (ifT c3234).symm.trans H
        obtain ⟨b3235, p3236, q3237, H⟩ := at_of H
        obtain ⟨b3238, p3239, q3240, H⟩ := at_of H
        obtain ⟨t3241, e3242, H⟩ := bind_of H
        refine reg hP hn hm [(3, .b true), (7, .c ((encInt .i64) b3235)), (11, .c ((encInt .i64) b3238)), (12, .call [] [] [] [] 0 (bV t3241) [])] [0, 1, 10, 11, 34, 35, 36, 37, 38, 39, 40, 41, 42, 43] [0] ⟨[(0, .own 0), (1, iV .i64 a1), (10, iV .i64 x3224), (11, iV .i64 (IntKind.i64.wrap (a2 - (1 : Int)))), (34, .own 0), (35, iV .i64 x3224), (36, .ptr 0 (Int.toNat (x3224)) 0), (37, iV .i64 b3235), (38, .own 0), (39, iV .i64 a1), (40, .ptr 0 (Int.toNat (a1)) 0), (41, iV .i64 b3238), (42, bV t3241), (43, bV t3241)], [(0, some (.row 1 3 (((a0.set (Int.toNat (a1)) b3195).set (Int.toNat (a3)) b3198).map (encInt .i64))))], 1⟩ [(decide (x3224 ≤ (IntKind.i64.wrap (a2 - (1 : Int))))) = true, 0 ≤ x3224, x3224 < (((((a0.set (Int.toNat (a1)) b3195).set (Int.toNat (a3)) b3198).map (encInt .i64)).length : Nat) : Int), (((a0.set (Int.toNat (a1)) b3195).set (Int.toNat (a3)) b3198).map (encInt .i64))[(Int.toNat (x3224))]? = some ((encInt .i64) b3235), 0 ≤ a1, a1 < (((((a0.set (Int.toNat (a1)) b3195).set (Int.toNat (a3)) b3198).map (encInt .i64)).length : Nat) : Int), (((a0.set (Int.toNat (a1)) b3195).set (Int.toNat (a3)) b3198).map (encInt .i64))[(Int.toNat (a1))]? = some ((encInt .i64) b3238), Enters Try.prog 73, Pv.Fn Try.prog 73 [iV .i64 b3235, iV .i64 b3238] [] 0 (fun r o => r = bV t3241 ∧ o = [])] (by kernel_rfl) ⟨by exact c3234, by exact p3236, by exact el_lt (encInt .i64) p3236 q3237, by exact el_map (encInt .i64) q3237, by exact p3239, by exact el_lt (encInt .i64) p3239 q3240, by exact el_map (encInt .i64) q3240, by exact Try.call73, by exact f_cmp_Less_int.ok b3235 b3238 t3241 e3242, trivial⟩ ?_
        obtain rfl := Option.some.inj H
        exact Exists.intro _ (And.intro (fun _ _ h => h.conv (inv := [(0, 0)]) (vk := []) (e0 := []) (t := ⟨[(0, .own 0), (1, iV .i64 a1), (10, iV .i64 x3224), (11, iV .i64 (IntKind.i64.wrap (a2 - (1 : Int)))), (43, bV t3241)], [(0, some (.row 1 3 (((a0.set (Int.toNat (a1)) b3195).set (Int.toNat (a3)) b3198).map (encInt .i64))))], 1⟩) (by kernel_rfl)) (And.intro rfl rfl))
      · replace H := (ifF c3234).symm.trans H
        refine reg hP hn hm [(3, .b false)] [0, 1, 10, 11, 43] [0] ⟨[(0, .own 0), (1, iV .i64 a1), (10, iV .i64 x3224), (11, iV .i64 (IntKind.i64.wrap (a2 - (1 : Int)))), (43, bV false)], [(0, some (.row 1 3 (((a0.set (Int.toNat (a1)) b3195).set (Int.toNat (a3)) b3198).map (encInt .i64))))], 1⟩ [(decide (x3224 ≤ (IntKind.i64.wrap (a2 - (1 : Int))))) = false] (by kernel_rfl) ⟨by exact c3234, trivial⟩ ?_
        obtain rfl := Option.some.inj H
        exact Exists.intro _ (And.intro (fun _ _ h => h.conv (inv := [(0, 0)]) (vk := []) (e0 := []) (t := ⟨[(0, .own 0), (1, iV .i64 a1), (10, iV .i64 x3224), (11, iV .i64 (IntKind.i64.wrap (a2 - (1 : Int)))), (43, bV false)], [(0, some (.row 1 3 (((a0.set (Int.toNat (a1)) b3195).set (Int.toNat (a3)) b3198).map (encInt .i64))))], 1⟩) (by kernel_rfl)) (And.intro rfl rfl))
    · obtain ⟨x3243, rfl⟩ : ∃ z, z = o3556 := ⟨_, rfl⟩
      rintro e s ⟨rfl, rfl⟩
      refine AWp.cond x3243 rfl (fun c3244 => ?_) (fun c3244 => ?_)
      · replace H := (ifT c3244).symm.trans H
        refine AWp.skip ?_
        refine AWp.block ?_
        refine reg hP hn hm [] [0, 1, 10, 11] [0] ⟨[(0, .own 0), (1, iV .i64 a1), (10, iV .i64 (IntKind.i64.wrap (x3224 + (1 : Int)))), (11, iV .i64 (IntKind.i64.wrap (a2 - (1 : Int))))], [(0, some (.row 1 3 (((a0.set (Int.toNat (a1)) b3195).set (Int.toNat (a3)) b3198).map (encInt .i64))))], 1⟩ [] (by kernel_rfl) trivial ?_
        exact LWp.conv (inv := [(0, 0)]) (vk := []) (e0 := []) (t := ⟨[(0, .own 0), (1, iV .i64 a1), (10, iV .i64 (IntKind.i64.wrap (x3224 + (1 : Int)))), (11, iV .i64 (IntKind.i64.wrap (a2 - (1 : Int))))], [(0, some (.row 1 3 (((a0.set (Int.toNat (a1)) b3195).set (Int.toNat (a3)) b3198).map (encInt .i64))))], 1⟩) (by kernel_rfl) (ih _ _ H)
      · replace H := (ifF c3244).symm.trans H
        refine AWp.exit ?_
        obtain rfl := Option.some.inj H
        exact Exists.intro _ (And.intro (fun _ _ h => h.conv (inv := [(0, 0)]) (vk := []) (e0 := []) (t := ⟨[(0, .own 0), (1, iV .i64 a1), (10, iV .i64 x3224), (11, iV .i64 (IntKind.i64.wrap (a2 - (1 : Int))))], [(0, some (.row 1 3 (((a0.set (Int.toNat (a1)) b3195).set (Int.toNat (a3)) b3198).map (encInt .i64))))], 1⟩) (by kernel_rfl)) (And.intro rfl rfl))
  · obtain ⟨x3245, rfl⟩ : ∃ z, z = o3554 := ⟨_, rfl⟩
    rintro e s ⟨rfl, rfl⟩
    refine AWp.seq ?_
    refine AWp.block ?_
    obtain ⟨o3558, e3559, H⟩ := bind_of H
    refine AWp.loop (LWp.conv (inv := [(0, 0)]) (vk := []) (e0 := []) (t := ⟨[(0, .own 0), (1, iV .i64 a1), (10, iV .i64 x3245), (11, iV .i64 (IntKind.i64.wrap (a2 - (1 : Int))))], [(0, some (.row 1 3 (((a0.set (Int.toNat (a1)) b3195).set (Int.toNat (a3)) b3198).map (encInt .i64))))], 1⟩) (by kernel_rfl) ?_)
    refine LWp.mono (Q := fun e s => (match (generalizing := false) o3558 with | x3287 => e = .exit 2 ∧ s = ⟨[(0, .own 0), (1, iV .i64 a1), (10, iV .i64 x3245), (11, iV .i64 x3287)], [(0, some (.row 1 3 (((a0.set (Int.toNat (a1)) b3195).set (Int.toNat (a3)) b3198).map (encInt .i64))))], 1⟩)) (LWp.cv (withBody (fun body hbody => ?_))) ?_
    · refine f_slices_partitionOrdered_int.l1.partial_correctness a0 a1 a3 b3195 b3198 x3245 (motive := fun x3266 o3558 => LWp Γ body (fun e s => ∃ t, Cv Γ s t ∧ (match (generalizing := false) o3558 with | x3287 => e = .exit 2 ∧ t = ⟨[(0, .own 0), (1, iV .i64 a1), (10, iV .i64 x3245), (11, iV .i64 x3287)], [(0, some (.row 1 3 (((a0.set (Int.toNat (a1)) b3195).set (Int.toNat (a3)) b3198).map (encInt .i64))))], 1⟩)) ⟨[(0, .own 0), (1, iV .i64 a1), (10, iV .i64 x3245), (11, iV .i64 x3266)], [(0, some (.row 1 3 (((a0.set (Int.toNat (a1)) b3195).set (Int.toNat (a3)) b3198).map (encInt .i64))))], 1⟩) ?_ _ _ e3559
      clear H e3559 o3558; intro self ih x3266 o3558 H
      subst hbody
      refine LWp.round ?_
      refine AWp.seq ?_
      refine AWp.seq ?_
      obtain ⟨o3560, e3561, H⟩ := bind_of H
      refine AWp.mono (Q := fun e s => (match (generalizing := false) o3560 with | x3285 => e = .normal ∧ s = ⟨[(0, .own 0), (1, iV .i64 a1), (10, iV .i64 x3245), (11, iV .i64 x3266), (60, bV x3285)], [(0, some (.row 1 3 (((a0.set (Int.toNat (a1)) b3195).set (Int.toNat (a3)) b3198).map (encInt .i64))))], 1⟩)) (AWp.cv ?_) ?_
      · replace H := e3561; clear e3561
        rcases Bool.eq_false_or_eq_true (decide (x3245 ≤ x3266)) with c3276 | c3276
        · replace H := (ifT c3276).symm.trans H
          obtain ⟨b3277, p3278, q3279, H⟩ := at_of H
          obtain ⟨b3280, p3281, q3282, H⟩ := at_of H
          obtain ⟨t3283, e3284, H⟩ := bind_of H
          refine reg hP hn hm [(3, .b true), (7, .c ((encInt .i64) b3277)), (11, .c ((encInt .i64) b3280)), (12, .call [] [] [] [] 0 (bV t3283) [])] [0, 1, 10, 11, 50, 51, 52, 53, 54, 55, 56, 57, 58, 59, 60] [0] ⟨[(0, .own 0), (1, iV .i64 a1), (10, iV .i64 x3245), (11, iV .i64 x3266), (50, .own 0), (51, iV .i64 x3266), (52, .ptr 0 (Int.toNat (x3266)) 0), (53, iV .i64 b3277), (54, .own 0), (55, iV .i64 a1), (56, .ptr 0 (Int.toNat (a1)) 0), (57, iV .i64 b3280), (58, bV t3283), (59, bV (!t3283)), (60, bV (!t3283))], [(0, some (.row 1 3 (((a0.set (Int.toNat (a1)) b3195).set (Int.toNat (a3)) b3198).map (encInt .i64))))], 1⟩ [(decide (x3245 ≤ x3266)) = true, 0 ≤ x3266, x3266 < (((((a0.set (Int.toNat (a1)) b3195).set (Int.toNat (a3)) b3198).map (encInt .i64)).length : Nat) : Int), (((a0.set (Int.toNat (a1)) b3195).set (Int.toNat (a3)) b3198).map (encInt .i64))[(Int.toNat (x3266))]? = some ((encInt .i64) b3277), 0 ≤ a1, a1 < (((((a0.set (Int.toNat (a1)) b3195).set (Int.toNat (a3)) b3198).map (encInt .i64)).length : Nat) : Int), (((a0.set (Int.toNat (a1)) b3195).set (Int.toNat (a3)) b3198).map (encInt .i64))[(Int.toNat (a1))]? = some ((encInt .i64) b3280), Enters Try.prog 73, Pv.Fn Try.prog 73 [iV .i64 b3277, iV .i64 b3280] [] 0 (fun r o => r = bV t3283 ∧ o = [])] (by kernel_rfl) ⟨by exact c3276, by exact p3278, by exact el_lt (encInt .i64) p3278 q3279, by exact el_map (encInt .i64) q3279, by exact p3281, by exact el_lt (encInt .i64) p3281 q3282, by exact el_map (encInt .i64) q3282, by exact Try.call73, by exact f_cmp_Less_int.ok b3277 b3280 t3283 e3284, trivial⟩ ?_
          obtain rfl := Option.some.inj H
          exact Exists.intro _ (And.intro (fun _ _ h => h.conv (inv := [(0, 0)]) (vk := []) (e0 := []) (t := ⟨[(0, .own 0), (1, iV .i64 a1), (10, iV .i64 x3245), (11, iV .i64 x3266), (60, bV (!t3283))], [(0, some (.row 1 3 (((a0.set (Int.toNat (a1)) b3195).set (Int.toNat (a3)) b3198).map (encInt .i64))))], 1⟩) (by kernel_rfl)) (And.intro rfl rfl))
        · replace H := (ifF c3276).symm.trans H
          refine reg hP hn hm [(3, .b false)] [0, 1, 10, 11, 60] [0] ⟨[(0, .own 0), (1, iV .i64 a1), (10, iV .i64 x3245), (11, iV .i64 x3266), (60, bV false)], [(0, some (.row 1 3 (((a0.set (Int.toNat (a1)) b3195).set (Int.toNat (a3)) b3198).map (encInt .i64))))], 1⟩ [(decide (x3245 ≤ x3266)) = false] (by kernel_rfl) ⟨by exact c3276, trivial⟩ ?_
          obtain rfl := Option.some.inj H
          exact Exists.intro _ (And.intro (fun _ _ h => h.conv (inv := [(0, 0)]) (vk := []) (e0 := []) (t := ⟨[(0, .own 0), (1, iV .i64 a1), (10, iV .i64 x3245), (11, iV .i64 x3266), (60, bV false)], [(0, some (.row 1 3 (((a0.set (Int.toNat (a1)) b3195).set (Int.toNat (a3)) b3198).map (encInt .i64))))], 1⟩) (by kernel_rfl)) (And.intro rfl rfl))
      · obtain ⟨x3285, rfl⟩ : ∃ z, z = o3560 := ⟨_, rfl⟩
        rintro e s ⟨rfl, rfl⟩
        refine AWp.cond x3285 rfl (fun c3286 => ?_) (fun c3286 => ?_)
        · replace H := (ifT c3286).symm.trans H
          refine AWp.skip ?_
          refine AWp.block ?_
          refine reg hP hn hm [] [0, 1, 10, 11] [0] ⟨[(0, .own 0), (1, iV .i64 a1), (10, iV .i64 x3245), (11, iV .i64 (IntKind.i64.wrap (x3266 - (1 : Int))))], [(0, some (.row 1 3 (((a0.set (Int.toNat (a1)) b3195).set (Int.toNat (a3)) b3198).map (encInt .i64))))], 1⟩ [] (by kernel_rfl) trivial ?_
          exact LWp.conv (inv := [(0, 0)]) (vk := []) (e0 := []) (t := ⟨[(0, .own 0), (1, iV .i64 a1), (10, iV .i64 x3245), (11, iV .i64 (IntKind.i64.wrap (x3266 - (1 : Int))))], [(0, some (.row 1 3 (((a0.set (Int.toNat (a1)) b3195).set (Int.toNat (a3)) b3198).map (encInt .i64))))], 1⟩) (by kernel_rfl) (ih _ _ H)
        · replace H := (ifF c3286).symm.trans H
          refine AWp.exit ?_
          obtain rfl := Option.some.inj H
          exact Exists.intro _ (And.intro (fun _ _ h => h.conv (inv := [(0, 0)]) (vk := []) (e0 := []) (t := ⟨[(0, .own 0), (1, iV .i64 a1), (10, iV .i64 x3245), (11, iV .i64 x3266)], [(0, some (.row 1 3 (((a0.set (Int.toNat (a1)) b3195).set (Int.toNat (a3)) b3198).map (encInt .i64))))], 1⟩) (by kernel_rfl)) (And.intro rfl rfl))
    · obtain ⟨x3287, rfl⟩ : ∃ z, z = o3558 := ⟨_, rfl⟩
      rintro e s ⟨rfl, rfl⟩
      refine AWp.seq ?_
      refine AWp.seq ?_
      refine reg hP hn hm [] [0, 1, 10, 11, 65] [0] ⟨[(0, .own 0), (1, iV .i64 a1), (10, iV .i64 x3245), (11, iV .i64 x3287), (65, bV (decide (x3245 > x3287)))], [(0, some (.row 1 3 (((a0.set (Int.toNat (a1)) b3195).set (Int.toNat (a3)) b3198).map (encInt .i64))))], 1⟩ [] (by kernel_rfl) trivial ?_
      refine AWp.cond (decide (x3245 > x3287)) rfl (fun c3288 => ?_) (fun c3288 => ?_)
      · replace H := (ifT c3288).symm.trans H
        refine AWp.seq ?_
        obtain ⟨b3298, p3299, q3300, H⟩ := at_of H
        obtain ⟨b3301, p3302, q3303, H⟩ := at_of H
        obtain ⟨b3304, p3305, q3306, H⟩ := at_of H
        refine reg hP hn hm [(7, .c ((encInt .i64) b3298)), (11, .c ((encInt .i64) b3301)), (13, .put ((encInt .i64) b3301) ((((a0.set (Int.toNat (a1)) b3195).set (Int.toNat (a3)) b3198).set (Int.toNat (x3287)) b3298).map (encInt .i64))), (15, .put ((encInt .i64) b3304) (((((a0.set (Int.toNat (a1)) b3195).set (Int.toNat (a3)) b3198).set (Int.toNat (x3287)) b3298).set (Int.toNat (a1)) b3301).map (encInt .i64)))] [11] [0] ⟨[(11, iV .i64 x3287)], [(0, some (.row 1 3 (((((a0.set (Int.toNat (a1)) b3195).set (Int.toNat (a3)) b3198).set (Int.toNat (x3287)) b3298).set (Int.toNat (a1)) b3301).map (encInt .i64))))], 1⟩ [0 ≤ a1, a1 < (((((a0.set (Int.toNat (a1)) b3195).set (Int.toNat (a3)) b3198).map (encInt .i64)).length : Nat) : Int), (((a0.set (Int.toNat (a1)) b3195).set (Int.toNat (a3)) b3198).map (encInt .i64))[(Int.toNat (a1))]? = some ((encInt .i64) b3298), 0 ≤ x3287, x3287 < (((((a0.set (Int.toNat (a1)) b3195).set (Int.toNat (a3)) b3198).map (encInt .i64)).length : Nat) : Int), (((a0.set (Int.toNat (a1)) b3195).set (Int.toNat (a3)) b3198).map (encInt .i64))[(Int.toNat (x3287))]? = some ((encInt .i64) b3301), 0 ≤ x3287, x3287 < (((((a0.set (Int.toNat (a1)) b3195).set (Int.toNat (a3)) b3198).map (encInt .i64)).length : Nat) : Int), (((a0.set (Int.toNat (a1)) b3195).set (Int.toNat (a3)) b3198).map (encInt .i64))[(Int.toNat (x3287))]? = some ((encInt .i64) b3301), (((a0.set (Int.toNat (a1)) b3195).set (Int.toNat (a3)) b3198).set (Int.toNat (x3287)) b3298).map (encInt .i64) = (((a0.set (Int.toNat (a1)) b3195).set (Int.toNat (a3)) b3198).map (encInt .i64)).set (Int.toNat (x3287)) (splice ((encInt .i64) b3301) 0 [iI .i64 b3298]), 0 ≤ a1, a1 < ((((((a0.set (Int.toNat (a1)) b3195).set (Int.toNat (a3)) b3198).set (Int.toNat (x3287)) b3298).map (encInt .i64)).length : Nat) : Int), ((((a0.set (Int.toNat (a1)) b3195).set (Int.toNat (a3)) b3198).set (Int.toNat (x3287)) b3298).map (encInt .i64))[(Int.toNat (a1))]? = some ((encInt .i64) b3304), ((((a0.set (Int.toNat (a1)) b3195).set (Int.toNat (a3)) b3198).set (Int.toNat (x3287)) b3298).set (Int.toNat (a1)) b3301).map (encInt .i64) = ((((a0.set (Int.toNat (a1)) b3195).set (Int.toNat (a3)) b3198).set (Int.toNat (x3287)) b3298).map (encInt .i64)).set (Int.toNat (a1)) (splice ((encInt .i64) b3304) 0 [iI .i64 b3301])] (by kernel_rfl) ⟨by exact p3299, by exact el_lt (encInt .i64) p3299 q3300, by exact el_map (encInt .i64) q3300, by exact p3302, by exact el_lt (encInt .i64) p3302 q3303, by exact el_map (encInt .i64) q3303, by exact p3302, by exact el_lt (encInt .i64) p3302 q3303, by exact el_map (encInt .i64) q3303, by exact set1 _ _ _ _, by exact p3305, by exact el_lt (encInt .i64) p3305 q3306, by exact el_map (encInt .i64) q3306, by exact set1 _ _ _ _, trivial⟩ ?_
        refine AWp.seq ?_
        refine reg hP hn hm [] [8, 9] [0] ⟨[(8, iV .i64 x3287), (9, bV true)], [(0, some (.row 1 3 (((((a0.set (Int.toNat (a1)) b3195).set (Int.toNat (a3)) b3198).set (Int.toNat (x3287)) b3298).set (Int.toNat (a1)) b3301).map (encInt .i64))))], 1⟩ [] (by kernel_rfl) trivial ?_
        refine AWp.conv (inv := [(0, 0)]) (vk := []) (e0 := []) (t := ⟨[(8, iV .i64 x3287), (9, bV true)], [(0, some (.row 1 3 (((((a0.set (Int.toNat (a1)) b3195).set (Int.toNat (a3)) b3198).set (Int.toNat (x3287)) b3298).set (Int.toNat (a1)) b3301).map (encInt .i64))))], 1⟩) (by kernel_rfl) ?_
        refine AWp.ret ?_
        obtain rfl := Option.some.inj H
        exact Exists.intro _ (And.intro (fun _ _ h => h) (And.intro (.inl rfl) (And.intro rfl (And.intro (by kernel_rfl) (by kernel_rfl)))))
      · replace H := (ifF c3288).symm.trans H
        refine AWp.skip ?_
        refine AWp.seq ?_
        obtain ⟨b3316, p3317, q3318, H⟩ := at_of H
        obtain ⟨b3319, p3320, q3321, H⟩ := at_of H
        obtain ⟨b3322, p3323, q3324, H⟩ := at_of H
        refine reg hP hn hm [(7, .c ((encInt .i64) b3316)), (11, .c ((encInt .i64) b3319)), (13, .put ((encInt .i64) b3319) ((((a0.set (Int.toNat (a1)) b3195).set (Int.toNat (a3)) b3198).set (Int.toNat (x3245)) b3316).map (encInt .i64))), (15, .put ((encInt .i64) b3322) (((((a0.set (Int.toNat (a1)) b3195).set (Int.toNat (a3)) b3198).set (Int.toNat (x3245)) b3316).set (Int.toNat (x3287)) b3319).map (encInt .i64)))] [0, 1, 10, 11] [0] ⟨[(0, .own 0), (1, iV .i64 a1), (10, iV .i64 x3245), (11, iV .i64 x3287)], [(0, some (.row 1 3 (((((a0.set (Int.toNat (a1)) b3195).set (Int.toNat (a3)) b3198).set (Int.toNat (x3245)) b3316).set (Int.toNat (x3287)) b3319).map (encInt .i64))))], 1⟩ [0 ≤ x3287, x3287 < (((((a0.set (Int.toNat (a1)) b3195).set (Int.toNat (a3)) b3198).map (encInt .i64)).length : Nat) : Int), (((a0.set (Int.toNat (a1)) b3195).set (Int.toNat (a3)) b3198).map (encInt .i64))[(Int.toNat (x3287))]? = some ((encInt .i64) b3316), 0 ≤ x3245, x3245 < (((((a0.set (Int.toNat (a1)) b3195).set (Int.toNat (a3)) b3198).map (encInt .i64)).length : Nat) : Int), (((a0.set (Int.toNat (a1)) b3195).set (Int.toNat (a3)) b3198).map (encInt .i64))[(Int.toNat (x3245))]? = some ((encInt .i64) b3319), 0 ≤ x3245, x3245 < (((((a0.set (Int.toNat (a1)) b3195).set (Int.toNat (a3)) b3198).map (encInt .i64)).length : Nat) : Int), (((a0.set (Int.toNat (a1)) b3195).set (Int.toNat (a3)) b3198).map (encInt .i64))[(Int.toNat (x3245))]? = some ((encInt .i64) b3319), (((a0.set (Int.toNat (a1)) b3195).set (Int.toNat (a3)) b3198).set (Int.toNat (x3245)) b3316).map (encInt .i64) = (((a0.set (Int.toNat (a1)) b3195).set (Int.toNat (a3)) b3198).map (encInt .i64)).set (Int.toNat (x3245)) (splice ((encInt .i64) b3319) 0 [iI .i64 b3316]), 0 ≤ x3287, x3287 < ((((((a0.set (Int.toNat (a1)) b3195).set (Int.toNat (a3)) b3198).set (Int.toNat (x3245)) b3316).map (encInt .i64)).length : Nat) : Int), ((((a0.set (Int.toNat (a1)) b3195).set (Int.toNat (a3)) b3198).set (Int.toNat (x3245)) b3316).map (encInt .i64))[(Int.toNat (x3287))]? = some ((encInt .i64) b3322), ((((a0.set (Int.toNat (a1)) b3195).set (Int.toNat (a3)) b3198).set (Int.toNat (x3245)) b3316).set (Int.toNat (x3287)) b3319).map (encInt .i64) = ((((a0.set (Int.toNat (a1)) b3195).set (Int.toNat (a3)) b3198).set (Int.toNat (x3245)) b3316).map (encInt .i64)).set (Int.toNat (x3287)) (splice ((encInt .i64) b3322) 0 [iI .i64 b3319])] (by kernel_rfl) ⟨by exact p3317, by exact el_lt (encInt .i64) p3317 q3318, by exact el_map (encInt .i64) q3318, by exact p3320, by exact el_lt (encInt .i64) p3320 q3321, by exact el_map (encInt .i64) q3321, by exact p3320, by exact el_lt (encInt .i64) p3320 q3321, by exact el_map (encInt .i64) q3321, by exact set1 _ _ _ _, by exact p3323, by exact el_lt (encInt .i64) p3323 q3324, by exact el_map (encInt .i64) q3324, by exact set1 _ _ _ _, trivial⟩ ?_
        refine AWp.seq ?_
        refine reg hP hn hm [] [0, 1, 10, 11] [0] ⟨[(0, .own 0), (1, iV .i64 a1), (10, iV .i64 (IntKind.i64.wrap (x3245 + (1 : Int)))), (11, iV .i64 x3287)], [(0, some (.row 1 3 (((((a0.set (Int.toNat (a1)) b3195).set (Int.toNat (a3)) b3198).set (Int.toNat (x3245)) b3316).set (Int.toNat (x3287)) b3319).map (encInt .i64))))], 1⟩ [] (by kernel_rfl) trivial ?_
        refine AWp.seq ?_
        refine reg hP hn hm [] [0, 1, 10, 11] [0] ⟨[(0, .own 0), (1, iV .i64 a1), (10, iV .i64 (IntKind.i64.wrap (x3245 + (1 : Int)))), (11, iV .i64 (IntKind.i64.wrap (x3287 - (1 : Int))))], [(0, some (.row 1 3 (((((a0.set (Int.toNat (a1)) b3195).set (Int.toNat (a3)) b3198).set (Int.toNat (x3245)) b3316).set (Int.toNat (x3287)) b3319).map (encInt .i64))))], 1⟩ [] (by kernel_rfl) trivial ?_
        refine AWp.seq ?_
        refine AWp.block ?_
        obtain ⟨o3562, e3563, H⟩ := bind_of H
        refine AWp.loop (LWp.conv (inv := [(0, 0)]) (vk := []) (e0 := []) (t := ⟨[(0, .own 0), (1, iV .i64 a1), (10, iV .i64 (IntKind.i64.wrap (x3245 + (1 : Int)))), (11, iV .i64 (IntKind.i64.wrap (x3287 - (1 : Int))))], [(0, some (.row 1 3 (((((a0.set (Int.toNat (a1)) b3195).set (Int.toNat (a3)) b3198).set (Int.toNat (x3245)) b3316).set (Int.toNat (x3287)) b3319).map (encInt .i64))))], 1⟩) (by kernel_rfl) ?_)
        refine LWp.mono (Q := fun e s => (match (generalizing := false) o3562 with | (x3534, x3535) => e = .exit 4 ∧ s = ⟨[(0, .own 0), (1, iV .i64 a1), (11, iV .i64 x3535)], [(0, some (.row 1 3 (x3534.map (encInt .i64))))], 1⟩)) (LWp.cv (withBody (fun body hbody => ?_))) ?_
        · refine f_slices_partitionOrdered_int.l2.partial_correctness a1 (motive := fun x3428 x3429 x3430 o3562 => LWp Γ body (fun e s => ∃ t, Cv Γ s t ∧ (match (generalizing := false) o3562 with | (x3534, x3535) => e = .exit 4 ∧ t = ⟨[(0, .own 0), (1, iV .i64 a1), (11, iV .i64 x3535)], [(0, some (.row 1 3 (x3534.map (encInt .i64))))], 1⟩)) ⟨[(0, .own 0), (1, iV .i64 a1), (10, iV .i64 x3429), (11, iV .i64 x3430)], [(0, some (.row 1 3 (x3428.map (encInt .i64))))], 1⟩) ?_ _ _ _ _ e3563
          clear H e3563 o3562; intro self ih x3428 x3429 x3430 o3562 H
          subst hbody
          refine LWp.round ?_
          refine AWp.block ?_
          refine AWp.seq ?_
          refine AWp.block ?_
          obtain ⟨o3564, e3565, H⟩ := bind_of H
          refine AWp.loop (LWp.conv (inv := [(0, 0)]) (vk := []) (e0 := []) (t := ⟨[(0, .own 0), (1, iV .i64 a1), (10, iV .i64 x3429), (11, iV .i64 x3430)], [(0, some (.row 1 3 (x3428.map (encInt .i64))))], 1⟩) (by kernel_rfl) ?_)
          refine LWp.mono (Q := fun e s => (match (generalizing := false) o3564 with | x3472 => e = .exit 6 ∧ s = ⟨[(0, .own 0), (1, iV .i64 a1), (10, iV .i64 x3472), (11, iV .i64 x3430)], [(0, some (.row 1 3 (x3428.map (encInt .i64))))], 1⟩)) (LWp.cv (withBody (fun body hbody => ?_))) ?_
          · refine f_slices_partitionOrdered_int.l3.partial_correctness a1 x3428 x3430 (motive := fun x3451 o3564 => LWp Γ body (fun e s => ∃ t, Cv Γ s t ∧ (match (generalizing := false) o3564 with | x3472 => e = .exit 6 ∧ t = ⟨[(0, .own 0), (1, iV .i64 a1), (10, iV .i64 x3472), (11, iV .i64 x3430)], [(0, some (.row 1 3 (x3428.map (encInt .i64))))], 1⟩)) ⟨[(0, .own 0), (1, iV .i64 a1), (10, iV .i64 x3451), (11, iV .i64 x3430)], [(0, some (.row 1 3 (x3428.map (encInt .i64))))], 1⟩) ?_ _ _ e3565
            clear H e3565 o3564; intro self ih x3451 o3564 H
            subst hbody
            refine LWp.round ?_
            refine AWp.seq ?_
            refine AWp.seq ?_
            obtain ⟨o3566, e3567, H⟩ := bind_of H
            refine AWp.mono (Q := fun e s => (match (generalizing := false) o3566 with | x3470 => e = .normal ∧ s = ⟨[(0, .own 0), (1, iV .i64 a1), (10, iV .i64 x3451), (11, iV .i64 x3430), (112, bV x3470)], [(0, some (.row 1 3 (x3428.map (encInt .i64))))], 1⟩)) (AWp.cv ?_) ?_
            · replace H := e3567; clear e3567
              rcases Bool.eq_false_or_eq_true (decide (x3451 ≤ x3430)) with c3461 | c3461
              · replace H := (ifT c3461).symm.trans H
                obtain ⟨b3462, p3463, q3464, H⟩ := at_of H
                obtain ⟨b3465, p3466, q3467, H⟩ := at_of H
                obtain ⟨t3468, e3469, H⟩ := bind_of H
                refine reg hP hn hm [(3, .b true), (7, .c ((encInt .i64) b3462)), (11, .c ((encInt .i64) b3465)), (12, .call [] [] [] [] 0 (bV t3468) [])] [0, 1, 10, 11, 103, 104, 105, 106, 107, 108, 109, 110, 111, 112] [0] ⟨[(0, .own 0), (1, iV .i64 a1), (10, iV .i64 x3451), (11, iV .i64 x3430), (103, .own 0), (104, iV .i64 x3451), (105, .ptr 0 (Int.toNat (x3451)) 0), (106, iV .i64 b3462), (107, .own 0), (108, iV .i64 a1), (109, .ptr 0 (Int.toNat (a1)) 0), (110, iV .i64 b3465), (111, bV t3468), (112, bV t3468)], [(0, some (.row 1 3 (x3428.map (encInt .i64))))], 1⟩ [(decide (x3451 ≤ x3430)) = true, 0 ≤ x3451, x3451 < (((x3428.map (encInt .i64)).length : Nat) : Int), (x3428.map (encInt .i64))[(Int.toNat (x3451))]? = some ((encInt .i64) b3462), 0 ≤ a1, a1 < (((x3428.map (encInt .i64)).length : Nat) : Int), (x3428.map (encInt .i64))[(Int.toNat (a1))]? = some ((encInt .i64) b3465), Enters Try.prog 73, Pv.Fn Try.prog 73 [iV .i64 b3462, iV .i64 b3465] [] 0 (fun r o => r = bV t3468 ∧ o = [])] (by kernel_rfl) ⟨by exact c3461, by exact p3463, by exact el_lt (encInt .i64) p3463 q3464, by exact el_map (encInt .i64) q3464, by exact p3466, by exact el_lt (encInt .i64) p3466 q3467, by exact el_map (encInt .i64) q3467, by exact Try.call73, by exact f_cmp_Less_int.ok b3462 b3465 t3468 e3469, trivial⟩ ?_
                obtain rfl := Option.some.inj H
                exact Exists.intro _ (And.intro (fun _ _ h => h.conv (inv := [(0, 0)]) (vk := []) (e0 := []) (t := ⟨[(0, .own 0), (1, iV .i64 a1), (10, iV .i64 x3451), (11, iV .i64 x3430), (112, bV t3468)], [(0, some (.row 1 3 (x3428.map (encInt .i64))))], 1⟩) (by kernel_rfl)) (And.intro rfl rfl))
              · replace H := (ifF c3461).symm.trans H
                refine reg hP hn hm [(3, .b false)] [0, 1, 10, 11, 112] [0] ⟨[(0, .own 0), (1, iV .i64 a1), (10, iV .i64 x3451), (11, iV .i64 x3430), (112, bV false)], [(0, some (.row 1 3 (x3428.map (encInt .i64))))], 1⟩ [(decide (x3451 ≤ x3430)) = false] (by kernel_rfl) ⟨by exact c3461, trivial⟩ ?_
                obtain rfl := Option.some.inj H
                exact Exists.intro _ (And.intro (fun _ _ h => h.conv (inv := [(0, 0)]) (vk := []) (e0 := []) (t := ⟨[(0, .own 0), (1, iV .i64 a1), (10, iV .i64 x3451), (11, iV .i64 x3430), (112, bV false)], [(0, some (.row 1 3 (x3428.map (encInt .i64))))], 1⟩) (by kernel_rfl)) (And.intro rfl rfl))
            · obtain ⟨x3470, rfl⟩ : ∃ z, z = o3566 := ⟨_, rfl⟩
              rintro e s ⟨rfl, rfl⟩
              refine AWp.cond x3470 rfl (fun c3471 => ?_) (fun c3471 => ?_)
              · replace H := (ifT c3471).symm.trans H
                refine AWp.skip ?_
                refine AWp.block ?_
                refine reg hP hn hm [] [0, 1, 10, 11] [0] ⟨[(0, .own 0), (1, iV .i64 a1), (10, iV .i64 (IntKind.i64.wrap (x3451 + (1 : Int)))), (11, iV .i64 x3430)], [(0, some (.row 1 3 (x3428.map (encInt .i64))))], 1⟩ [] (by kernel_rfl) trivial ?_
                exact LWp.conv (inv := [(0, 0)]) (vk := []) (e0 := []) (t := ⟨[(0, .own 0), (1, iV .i64 a1), (10, iV .i64 (IntKind.i64.wrap (x3451 + (1 : Int)))), (11, iV .i64 x3430)], [(0, some (.row 1 3 (x3428.map (encInt .i64))))], 1⟩) (by kernel_rfl) (ih _ _ H)
              · replace H := (ifF c3471).symm.trans H
                refine AWp.exit ?_
                obtain rfl := Option.some.inj H
                exact Exists.intro _ (And.intro (fun _ _ h => h.conv (inv := [(0, 0)]) (vk := []) (e0 := []) (t := ⟨[(0, .own 0), (1, iV .i64 a1), (10, iV .i64 x3451), (11, iV .i64 x3430)], [(0, some (.row 1 3 (x3428.map (encInt .i64))))], 1⟩) (by kernel_rfl)) (And.intro rfl rfl))
          · obtain ⟨x3472, rfl⟩ : ∃ z, z = o3564 := ⟨_, rfl⟩
            rintro e s ⟨rfl, rfl⟩
            refine AWp.seq ?_
            refine AWp.block ?_
            obtain ⟨o3568, e3569, H⟩ := bind_of H
            refine AWp.loop (LWp.conv (inv := [(0, 0)]) (vk := []) (e0 := []) (t := ⟨[(0, .own 0), (1, iV .i64 a1), (10, iV .i64 x3472), (11, iV .i64 x3430)], [(0, some (.row 1 3 (x3428.map (encInt .i64))))], 1⟩) (by kernel_rfl) ?_)
            refine LWp.mono (Q := fun e s => (match (generalizing := false) o3568 with | x3514 => e = .exit 8 ∧ s = ⟨[(0, .own 0), (1, iV .i64 a1), (10, iV .i64 x3472), (11, iV .i64 x3514)], [(0, some (.row 1 3 (x3428.map (encInt .i64))))], 1⟩)) (LWp.cv (withBody (fun body hbody => ?_))) ?_
            · refine f_slices_partitionOrdered_int.l4.partial_correctness a1 x3428 x3472 (motive := fun x3493 o3568 => LWp Γ body (fun e s => ∃ t, Cv Γ s t ∧ (match (generalizing := false) o3568 with | x3514 => e = .exit 8 ∧ t = ⟨[(0, .own 0), (1, iV .i64 a1), (10, iV .i64 x3472), (11, iV .i64 x3514)], [(0, some (.row 1 3 (x3428.map (encInt .i64))))], 1⟩)) ⟨[(0, .own 0), (1, iV .i64 a1), (10, iV .i64 x3472), (11, iV .i64 x3493)], [(0, some (.row 1 3 (x3428.map (encInt .i64))))], 1⟩) ?_ _ _ e3569
              clear H e3569 o3568; intro self ih x3493 o3568 H
              subst hbody
              refine LWp.round ?_
              refine AWp.seq ?_
              refine AWp.seq ?_
              obtain ⟨o3570, e3571, H⟩ := bind_of H
              refine AWp.mono (Q := fun e s => (match (generalizing := false) o3570 with | x3512 => e = .normal ∧ s = ⟨[(0, .own 0), (1, iV .i64 a1), (10, iV .i64 x3472), (11, iV .i64 x3493), (129, bV x3512)], [(0, some (.row 1 3 (x3428.map (encInt .i64))))], 1⟩)) (AWp.cv ?_) ?_
              · replace H := e3571; clear e3571
                rcases Bool.eq_false_or_eq_true (decide (x3472 ≤ x3493)) with c3503 | c3503
                · replace H := (ifT c3503).symm.trans H
                  obtain ⟨b3504, p3505, q3506, H⟩ := at_of H
                  obtain ⟨b3507, p3508, q3509, H⟩ := at_of H
                  obtain ⟨t3510, e3511, H⟩ := bind_of H
                  refine reg hP hn hm [(3, .b true), (7, .c ((encInt .i64) b3504)), (11, .c ((encInt .i64) b3507)), (12, .call [] [] [] [] 0 (bV t3510) [])] [0, 1, 10, 11, 119, 120, 121, 122, 123, 124, 125, 126, 127, 128, 129] [0] ⟨[(0, .own 0), (1, iV .i64 a1), (10, iV .i64 x3472), (11, iV .i64 x3493), (119, .own 0), (120, iV .i64 x3493), (121, .ptr 0 (Int.toNat (x3493)) 0), (122, iV .i64 b3504), (123, .own 0), (124, iV .i64 a1), (125, .ptr 0 (Int.toNat (a1)) 0), (126, iV .i64 b3507), (127, bV t3510), (128, bV (!t3510)), (129, bV (!t3510))], [(0, some (.row 1 3 (x3428.map (encInt .i64))))], 1⟩ [(decide (x3472 ≤ x3493)) = true, 0 ≤ x3493, x3493 < (((x3428.map (encInt .i64)).length : Nat) : Int), (x3428.map (encInt .i64))[(Int.toNat (x3493))]? = some ((encInt .i64) b3504), 0 ≤ a1, a1 < (((x3428.map (encInt .i64)).length : Nat) : Int), (x3428.map (encInt .i64))[(Int.toNat (a1))]? = some ((encInt .i64) b3507), Enters Try.prog 73, Pv.Fn Try.prog 73 [iV .i64 b3504, iV .i64 b3507] [] 0 (fun r o => r = bV t3510 ∧ o = [])] (by kernel_rfl) ⟨by exact c3503, by exact p3505, by exact el_lt (encInt .i64) p3505 q3506, by exact el_map (encInt .i64) q3506, by exact p3508, by exact el_lt (encInt .i64) p3508 q3509, by exact el_map (encInt .i64) q3509, by exact Try.call73, by exact f_cmp_Less_int.ok b3504 b3507 t3510 e3511, trivial⟩ ?_
                  obtain rfl := Option.some.inj H
                  exact Exists.intro _ (And.intro (fun _ _ h => h.conv (inv := [(0, 0)]) (vk := []) (e0 := []) (t := ⟨[(0, .own 0), (1, iV .i64 a1), (10, iV .i64 x3472), (11, iV .i64 x3493), (129, bV (!t3510))], [(0, some (.row 1 3 (x3428.map (encInt .i64))))], 1⟩) (by kernel_rfl)) (And.intro rfl rfl))
                · replace H := (ifF c3503).symm.trans H
                  refine reg hP hn hm [(3, .b false)] [0, 1, 10, 11, 129] [0] ⟨[(0, .own 0), (1, iV .i64 a1), (10, iV .i64 x3472), (11, iV .i64 x3493), (129, bV false)], [(0, some (.row 1 3 (x3428.map (encInt .i64))))], 1⟩ [(decide (x3472 ≤ x3493)) = false] (by kernel_rfl) ⟨by exact c3503, trivial⟩ ?_
                  obtain rfl := Option.some.inj H
                  exact Exists.intro _ (And.intro (fun _ _ h => h.conv (inv := [(0, 0)]) (vk := []) (e0 := []) (t := ⟨[(0, .own 0), (1, iV .i64 a1), (10, iV .i64 x3472), (11, iV .i64 x3493), (129, bV false)], [(0, some (.row 1 3 (x3428.map (encInt .i64))))], 1⟩) (by kernel_rfl)) (And.intro rfl rfl))
              · obtain ⟨x3512, rfl⟩ : ∃ z, z = o3570 := ⟨_, rfl⟩
                rintro e s ⟨rfl, rfl⟩
                refine AWp.cond x3512 rfl (fun c3513 => ?_) (fun c3513 => ?_)
                · replace H := (ifT c3513).symm.trans H
                  refine AWp.skip ?_
                  refine AWp.block ?_
                  refine reg hP hn hm [] [0, 1, 10, 11] [0] ⟨[(0, .own 0), (1, iV .i64 a1), (10, iV .i64 x3472), (11, iV .i64 (IntKind.i64.wrap (x3493 - (1 : Int))))], [(0, some (.row 1 3 (x3428.map (encInt .i64))))], 1⟩ [] (by kernel_rfl) trivial ?_
                  exact LWp.conv (inv := [(0, 0)]) (vk := []) (e0 := []) (t := ⟨[(0, .own 0), (1, iV .i64 a1), (10, iV .i64 x3472), (11, iV .i64 (IntKind.i64.wrap (x3493 - (1 : Int))))], [(0, some (.row 1 3 (x3428.map (encInt .i64))))], 1⟩) (by kernel_rfl) (ih _ _ H)
                · replace H := (ifF c3513).symm.trans H
                  refine AWp.exit ?_
                  obtain rfl := Option.some.inj H
                  exact Exists.intro _ (And.intro (fun _ _ h => h.conv (inv := [(0, 0)]) (vk := []) (e0 := []) (t := ⟨[(0, .own 0), (1, iV .i64 a1), (10, iV .i64 x3472), (11, iV .i64 x3493)], [(0, some (.row 1 3 (x3428.map (encInt .i64))))], 1⟩) (by kernel_rfl)) (And.intro rfl rfl))
            · obtain ⟨x3514, rfl⟩ : ∃ z, z = o3568 := ⟨_, rfl⟩
              rintro e s ⟨rfl, rfl⟩
              refine AWp.seq ?_
              refine AWp.seq ?_
              refine reg hP hn hm [] [0, 1, 10, 11, 134] [0] ⟨[(0, .own 0), (1, iV .i64 a1), (10, iV .i64 x3472), (11, iV .i64 x3514), (134, bV (decide (x3472 > x3514)))], [(0, some (.row 1 3 (x3428.map (encInt .i64))))], 1⟩ [] (by kernel_rfl) trivial ?_
              refine AWp.cond (decide (x3472 > x3514)) rfl (fun c3515 => ?_) (fun c3515 => ?_)
              · replace H := (ifT c3515).symm.trans H
                refine AWp.exit ?_
                obtain rfl := Option.some.inj H
                exact Exists.intro _ (And.intro (fun _ _ h => h.conv (inv := [(0, 0)]) (vk := []) (e0 := []) (t := ⟨[(0, .own 0), (1, iV .i64 a1), (11, iV .i64 x3514)], [(0, some (.row 1 3 (x3428.map (encInt .i64))))], 1⟩) (by kernel_rfl)) (And.intro rfl rfl))
              · replace H := (ifF c3515).symm.trans H
                refine AWp.skip ?_
                refine AWp.seq ?_
                obtain ⟨b3525, p3526, q3527, H⟩ := at_of H
                obtain ⟨b3528, p3529, q3530, H⟩ := at_of H
                obtain ⟨b3531, p3532, q3533, H⟩ := at_of H
                refine reg hP hn hm [(7, .c ((encInt .i64) b3525)), (11, .c ((encInt .i64) b3528)), (13, .put ((encInt .i64) b3528) ((x3428.set (Int.toNat (x3472)) b3525).map (encInt .i64))), (15, .put ((encInt .i64) b3531) (((x3428.set (Int.toNat (x3472)) b3525).set (Int.toNat (x3514)) b3528).map (encInt .i64)))] [0, 1, 10, 11] [0] ⟨[(0, .own 0), (1, iV .i64 a1), (10, iV .i64 x3472), (11, iV .i64 x3514)], [(0, some (.row 1 3 (((x3428.set (Int.toNat (x3472)) b3525).set (Int.toNat (x3514)) b3528).map (encInt .i64))))], 1⟩ [0 ≤ x3514, x3514 < (((x3428.map (encInt .i64)).length : Nat) : Int), (x3428.map (encInt .i64))[(Int.toNat (x3514))]? = some ((encInt .i64) b3525), 0 ≤ x3472, x3472 < (((x3428.map (encInt .i64)).length : Nat) : Int), (x3428.map (encInt .i64))[(Int.toNat (x3472))]? = some ((encInt .i64) b3528), 0 ≤ x3472, x3472 < (((x3428.map (encInt .i64)).length : Nat) : Int), (x3428.map (encInt .i64))[(Int.toNat (x3472))]? = some ((encInt .i64) b3528), (x3428.set (Int.toNat (x3472)) b3525).map (encInt .i64) = (x3428.map (encInt .i64)).set (Int.toNat (x3472)) (splice ((encInt .i64) b3528) 0 [iI .i64 b3525]), 0 ≤ x3514, x3514 < ((((x3428.set (Int.toNat (x3472)) b3525).map (encInt .i64)).length : Nat) : Int), ((x3428.set (Int.toNat (x3472)) b3525).map (encInt .i64))[(Int.toNat (x3514))]? = some ((encInt .i64) b3531), ((x3428.set (Int.toNat (x3472)) b3525).set (Int.toNat (x3514)) b3528).map (encInt .i64) = ((x3428.set (Int.toNat (x3472)) b3525).map (encInt .i64)).set (Int.toNat (x3514)) (splice ((encInt .i64) b3531) 0 [iI .i64 b3528])] (by kernel_rfl) ⟨by exact p3526, by exact el_lt (encInt .i64) p3526 q3527, by exact el_map (encInt .i64) q3527, by exact p3529, by exact el_lt (encInt .i64) p3529 q3530, by exact el_map (encInt .i64) q3530, by exact p3529, by exact el_lt (encInt .i64) p3529 q3530, by exact el_map (encInt .i64) q3530, by exact set1 _ _ _ _, by exact p3532, by exact el_lt (encInt .i64) p3532 q3533, by exact el_map (encInt .i64) q3533, by exact set1 _ _ _ _, trivial⟩ ?_
                refine AWp.seq ?_
                refine reg hP hn hm [] [0, 1, 10, 11] [0] ⟨[(0, .own 0), (1, iV .i64 a1), (10, iV .i64 (IntKind.i64.wrap (x3472 + (1 : Int)))), (11, iV .i64 x3514)], [(0, some (.row 1 3 (((x3428.set (Int.toNat (x3472)) b3525).set (Int.toNat (x3514)) b3528).map (encInt .i64))))], 1⟩ [] (by kernel_rfl) trivial ?_
                refine reg hP hn hm [] [0, 1, 10, 11] [0] ⟨[(0, .own 0), (1, iV .i64 a1), (10, iV .i64 (IntKind.i64.wrap (x3472 + (1 : Int)))), (11, iV .i64 (IntKind.i64.wrap (x3514 - (1 : Int))))], [(0, some (.row 1 3 (((x3428.set (Int.toNat (x3472)) b3525).set (Int.toNat (x3514)) b3528).map (encInt .i64))))], 1⟩ [] (by kernel_rfl) trivial ?_
                exact LWp.conv (inv := [(0, 0)]) (vk := []) (e0 := []) (t := ⟨[(0, .own 0), (1, iV .i64 a1), (10, iV .i64 (IntKind.i64.wrap (x3472 + (1 : Int)))), (11, iV .i64 (IntKind.i64.wrap (x3514 - (1 : Int))))], [(0, some (.row 1 3 (((x3428.set (Int.toNat (x3472)) b3525).set (Int.toNat (x3514)) b3528).map (encInt .i64))))], 1⟩) (by kernel_rfl) (ih _ _ _ _ H)
        · obtain ⟨x3534, x3535⟩ := o3562
          rintro e s ⟨rfl, rfl⟩
          refine AWp.seq ?_
          obtain ⟨b3545, p3546, q3547, H⟩ := at_of H
          obtain ⟨b3548, p3549, q3550, H⟩ := at_of H
          obtain ⟨b3551, p3552, q3553, H⟩ := at_of H
          refine reg hP hn hm [(7, .c ((encInt .i64) b3545)), (11, .c ((encInt .i64) b3548)), (13, .put ((encInt .i64) b3548) ((x3534.set (Int.toNat (x3535)) b3545).map (encInt .i64))), (15, .put ((encInt .i64) b3551) (((x3534.set (Int.toNat (x3535)) b3545).set (Int.toNat (a1)) b3548).map (encInt .i64)))] [11] [0] ⟨[(11, iV .i64 x3535)], [(0, some (.row 1 3 (((x3534.set (Int.toNat (x3535)) b3545).set (Int.toNat (a1)) b3548).map (encInt .i64))))], 1⟩ [0 ≤ a1, a1 < (((x3534.map (encInt .i64)).length : Nat) : Int), (x3534.map (encInt .i64))[(Int.toNat (a1))]? = some ((encInt .i64) b3545), 0 ≤ x3535, x3535 < (((x3534.map (encInt .i64)).length : Nat) : Int), (x3534.map (encInt .i64))[(Int.toNat (x3535))]? = some ((encInt .i64) b3548), 0 ≤ x3535, x3535 < (((x3534.map (encInt .i64)).length : Nat) : Int), (x3534.map (encInt .i64))[(Int.toNat (x3535))]? = some ((encInt .i64) b3548), (x3534.set (Int.toNat (x3535)) b3545).map (encInt .i64) = (x3534.map (encInt .i64)).set (Int.toNat (x3535)) (splice ((encInt .i64) b3548) 0 [iI .i64 b3545]), 0 ≤ a1, a1 < ((((x3534.set (Int.toNat (x3535)) b3545).map (encInt .i64)).length : Nat) : Int), ((x3534.set (Int.toNat (x3535)) b3545).map (encInt .i64))[(Int.toNat (a1))]? = some ((encInt .i64) b3551), ((x3534.set (Int.toNat (x3535)) b3545).set (Int.toNat (a1)) b3548).map (encInt .i64) = ((x3534.set (Int.toNat (x3535)) b3545).map (encInt .i64)).set (Int.toNat (a1)) (splice ((encInt .i64) b3551) 0 [iI .i64 b3548])] (by kernel_rfl) ⟨by exact p3546, by exact el_lt (encInt .i64) p3546 q3547, by exact el_map (encInt .i64) q3547, by exact p3549, by exact el_lt (encInt .i64) p3549 q3550, by exact el_map (encInt .i64) q3550, by exact p3549, by exact el_lt (encInt .i64) p3549 q3550, by exact el_map (encInt .i64) q3550, by exact set1 _ _ _ _, by exact p3552, by exact el_lt (encInt .i64) p3552 q3553, by exact el_map (encInt .i64) q3553, by exact set1 _ _ _ _, trivial⟩ ?_
          refine AWp.seq ?_
          refine reg hP hn hm [] [8, 9] [0] ⟨[(8, iV .i64 x3535), (9, bV false)], [(0, some (.row 1 3 (((x3534.set (Int.toNat (x3535)) b3545).set (Int.toNat (a1)) b3548).map (encInt .i64))))], 1⟩ [] (by kernel_rfl) trivial ?_
          refine AWp.conv (inv := [(0, 0)]) (vk := []) (e0 := []) (t := ⟨[(8, iV .i64 x3535), (9, bV false)], [(0, some (.row 1 3 (((x3534.set (Int.toNat (x3535)) b3545).set (Int.toNat (a1)) b3548).map (encInt .i64))))], 1⟩) (by kernel_rfl) ?_
          refine AWp.ret ?_
          obtain rfl := Option.some.inj H
          exact Exists.intro _ (And.intro (fun _ _ h => h) (And.intro (.inl rfl) (And.intro rfl (And.intro (by kernel_rfl) (by kernel_rfl)))))
def f_slices_breakPatternsOrdered_int.l0 (a1 : Int) (a2 : Int) (t3615 : Int) (x3642 : List Int) (x3643 : Int) (x3644 : Int) : Option (List Int) := if (decide (x3644 ≤ (IntKind.i64.wrap ((IntKind.i64.wrap (a1 + (IntKind.i64.wrap ((IntKind.i64.wrap (Int.tdiv (IntKind.i64.wrap (a2 - a1)) (4 : Int))) * (2 : Int))))) + (1 : Int))))) = true then ((f_slices_xorshift_Next_6cb.f x3643) >>= fun t3648 => ((if (decide ((IntKind.i64.wrap (IntKind.u64.wrap (((BitVec.toNat (BitVec.ofInt 64 (IntKind.u64.wrap (((BitVec.toNat (BitVec.ofInt 64 (IntKind.u64.wrap (((BitVec.toNat (BitVec.ofInt 64 (IntKind.u64.wrap (((BitVec.toNat (BitVec.ofInt 64 x3643 ^^^ BitVec.ofInt 64 (IntKind.u64.wrap (x3643 * 8192))) : Nat) : Int))) ^^^ BitVec.ofInt 64 (Int.fdiv (IntKind.u64.wrap (((BitVec.toNat (BitVec.ofInt 64 x3643 ^^^ BitVec.ofInt 64 (IntKind.u64.wrap (x3643 * 8192))) : Nat) : Int))) 128)) : Nat) : Int))) ^^^ BitVec.ofInt 64 (IntKind.u64.wrap ((IntKind.u64.wrap (((BitVec.toNat (BitVec.ofInt 64 (IntKind.u64.wrap (((BitVec.toNat (BitVec.ofInt 64 x3643 ^^^ BitVec.ofInt 64 (IntKind.u64.wrap (x3643 * 8192))) : Nat) : Int))) ^^^ BitVec.ofInt 64 (Int.fdiv (IntKind.u64.wrap (((BitVec.toNat (BitVec.ofInt 64 x3643 ^^^ BitVec.ofInt 64 (IntKind.u64.wrap (x3643 * 8192))) : Nat) : Int))) 128)) : Nat) : Int))) * 131072))) : Nat) : Int))) &&& BitVec.ofInt 64 (IntKind.u64.wrap (t3615 - (1 : Int)))) : Nat) : Int)))) ≥ (IntKind.i64.wrap (a2 - a1)))) = true then (some (IntKind.i64.wrap ((IntKind.i64.wrap (IntKind.u64.wrap (((BitVec.toNat (BitVec.ofInt 64 (IntKind.u64.wrap (((BitVec.toNat (BitVec.ofInt 64 (IntKind.u64.wrap (((BitVec.toNat (BitVec.ofInt 64 (IntKind.u64.wrap (((BitVec.toNat (BitVec.ofInt 64 x3643 ^^^ BitVec.ofInt 64 (IntKind.u64.wrap (x3643 * 8192))) : Nat) : Int))) ^^^ BitVec.ofInt 64 (Int.fdiv (IntKind.u64.wrap (((BitVec.toNat (BitVec.ofInt 64 x3643 ^^^ BitVec.ofInt 64 (IntKind.u64.wrap (x3643 * 8192))) : Nat) : Int))) 128)) : Nat) : Int))) ^^^ BitVec.ofInt 64 (IntKind.u64.wrap ((IntKind.u64.wrap (((BitVec.toNat (BitVec.ofInt 64 (IntKind.u64.wrap (((BitVec.toNat (BitVec.ofInt 64 x3643 ^^^ BitVec.ofInt 64 (IntKind.u64.wrap (x3643 * 8192))) : Nat) : Int))) ^^^ BitVec.ofInt 64 (Int.fdiv (IntKind.u64.wrap (((BitVec.toNat (BitVec.ofInt 64 x3643 ^^^ BitVec.ofInt 64 (IntKind.u64.wrap (x3643 * 8192))) : Nat) : Int))) 128)) : Nat) : Int))) * 131072))) : Nat) : Int))) &&& BitVec.ofInt 64 (IntKind.u64.wrap (t3615 - (1 : Int)))) : Nat) : Int)))) - (IntKind.i64.wrap (a2 - a1))))) else (some (IntKind.i64.wrap (IntKind.u64.wrap (((BitVec.toNat (BitVec.ofInt 64 (IntKind.u64.wrap (((BitVec.toNat (BitVec.ofInt 64 (IntKind.u64.wrap (((BitVec.toNat (BitVec.ofInt 64 (IntKind.u64.wrap (((BitVec.toNat (BitVec.ofInt 64 x3643 ^^^ BitVec.ofInt 64 (IntKind.u64.wrap (x3643 * 8192))) : Nat) : Int))) ^^^ BitVec.ofInt 64 (Int.fdiv (IntKind.u64.wrap (((BitVec.toNat (BitVec.ofInt 64 x3643 ^^^ BitVec.ofInt 64 (IntKind.u64.wrap (x3643 * 8192))) : Nat) : Int))) 128)) : Nat) : Int))) ^^^ BitVec.ofInt 64 (IntKind.u64.wrap ((IntKind.u64.wrap (((BitVec.toNat (BitVec.ofInt 64 (IntKind.u64.wrap (((BitVec.toNat (BitVec.ofInt 64 x3643 ^^^ BitVec.ofInt 64 (IntKind.u64.wrap (x3643 * 8192))) : Nat) : Int))) ^^^ BitVec.ofInt 64 (Int.fdiv (IntKind.u64.wrap (((BitVec.toNat (BitVec.ofInt 64 x3643 ^^^ BitVec.ofInt 64 (IntKind.u64.wrap (x3643 * 8192))) : Nat) : Int))) 128)) : Nat) : Int))) * 131072))) : Nat) : Int))) &&& BitVec.ofInt 64 (IntKind.u64.wrap (t3615 - (1 : Int)))) : Nat) : Int)))))) : Option (Int)) >>= fun x3651 => (at? x3642 (IntKind.i64.wrap (a1 + x3651))) >>= fun b3661 => (at? x3642 x3644) >>= fun b3664 => (at? (x3642.set (Int.toNat (x3644)) b3661) (IntKind.i64.wrap (a1 + x3651))) >>= fun b3667 => f_slices_breakPatternsOrdered_int.l0 a1 a2 t3615 ((x3642.set (Int.toNat (x3644)) b3661).set (Int.toNat (IntKind.i64.wrap (a1 + x3651))) b3664) (IntKind.u64.wrap (((BitVec.toNat (BitVec.ofInt 64 (IntKind.u64.wrap (((BitVec.toNat (BitVec.ofInt 64 (IntKind.u64.wrap (((BitVec.toNat (BitVec.ofInt 64 x3643 ^^^ BitVec.ofInt 64 (IntKind.u64.wrap (x3643 * 8192))) : Nat) : Int))) ^^^ BitVec.ofInt 64 (Int.fdiv (IntKind.u64.wrap (((BitVec.toNat (BitVec.ofInt 64 x3643 ^^^ BitVec.ofInt 64 (IntKind.u64.wrap (x3643 * 8192))) : Nat) : Int))) 128)) : Nat) : Int))) ^^^ BitVec.ofInt 64 (IntKind.u64.wrap ((IntKind.u64.wrap (((BitVec.toNat (BitVec.ofInt 64 (IntKind.u64.wrap (((BitVec.toNat (BitVec.ofInt 64 x3643 ^^^ BitVec.ofInt 64 (IntKind.u64.wrap (x3643 * 8192))) : Nat) : Int))) ^^^ BitVec.ofInt 64 (Int.fdiv (IntKind.u64.wrap (((BitVec.toNat (BitVec.ofInt 64 x3643 ^^^ BitVec.ofInt 64 (IntKind.u64.wrap (x3643 * 8192))) : Nat) : Int))) 128)) : Nat) : Int))) * 131072))) : Nat) : Int))) (IntKind.i64.wrap (x3644 + (1 : Int)))) else (some x3642)
partial_fixpoint
def f_slices_breakPatternsOrdered_int.f (a0 : List Int) (a1 : Int) (a2 : Int) : Option (List Int) := ((if (decide ((IntKind.i64.wrap (a2 - a1)) ≥ (8 : Int))) = true then ((f_slices_nextPowerOfTwo.f (IntKind.i64.wrap (a2 - a1))) >>= fun t3615 => (f_slices_breakPatternsOrdered_int.l0 a1 a2 t3615 a0 (IntKind.u64.wrap (IntKind.i64.wrap (a2 - a1))) (IntKind.i64.wrap ((IntKind.i64.wrap (a1 + (IntKind.i64.wrap ((IntKind.i64.wrap (Int.tdiv (IntKind.i64.wrap (a2 - a1)) (4 : Int))) * (2 : Int))))) - (1 : Int)))) >>= fun x3670 => some x3670) else (some a0)) : Option (List Int)) >>= fun x3671 => some x3671
theorem f_slices_breakPatternsOrdered_int.ok (a0 : List Int) (a1 : Int) (a2 : Int) (r : List Int) (H : f_slices_breakPatternsOrdered_int.f a0 a1 a2 = some r) : Pv.Fn Try.prog 69 [.own 0, iV .i64 a1, iV .i64 a2] [(0, some (.row 1 3 (a0.map (encInt .i64))))] 1 (fun x o => x = .tup [] ∧ o = [(0, some (.row 1 3 (r.map (encInt .i64))))]) := by
  unfold f_slices_breakPatternsOrdered_int.f at H
  refine Fn.bodyK [0] Try.func69 rfl rfl (fun Γ hP hn => ?_)
  have hm : Try.prog.follows .mixedOrders = true := by kernel_rfl
  replace hn : Γ.n = 65 := hn
  refine AWp.seq ?_
  refine reg hP hn hm [] [0, 1, 6] [0] ⟨[(0, .own 0), (1, iV .i64 a1), (6, iV .i64 (IntKind.i64.wrap (a2 - a1)))], [(0, some (.row 1 3 (a0.map (encInt .i64))))], 1⟩ [] (by kernel_rfl) trivial ?_
  refine AWp.seq ?_
  refine reg hP hn hm [] [0, 1, 6, 15] [0] ⟨[(0, .own 0), (1, iV .i64 a1), (6, iV .i64 (IntKind.i64.wrap (a2 - a1))), (15, bV (decide ((IntKind.i64.wrap (a2 - a1)) ≥ (8 : Int))))], [(0, some (.row 1 3 (a0.map (encInt .i64))))], 1⟩ [] (by kernel_rfl) trivial ?_
  obtain ⟨o3672, e3673, H⟩ := bind_of H
  refine AWp.mono (Q := fun e s => (match (generalizing := false) o3672 with | x3671 => e = .normal ∧ s = ⟨[], [(0, some (.row 1 3 (x3671.map (encInt .i64))))], 1⟩)) (AWp.cv ?_) ?_
  · replace H := e3673; clear e3673
    refine AWp.cond (decide ((IntKind.i64.wrap (a2 - a1)) ≥ (8 : Int))) rfl (fun c3612 => ?_) (fun c3612 => ?_)
    · replace H := (ifT c3612).symm.trans H
      refine AWp.seq ?_
      refine reg hP hn hm [(2, .k 1)] [0, 1, 6, 7] [0, 1] ⟨[(0, .own 0), (1, iV .i64 a1), (6, iV .i64 (IntKind.i64.wrap (a2 - a1))), (7, .ptr 1 0 0)], [(0, some (.row 1 3 (a0.map (encInt .i64)))), (1, some (.box 164 [iV .u64 (IntKind.u64.wrap (IntKind.i64.wrap (a2 - a1)))]))], 1⟩ [] (by kernel_rfl) trivial ?_
      refine AWp.seq ?_
      obtain ⟨t3615, e3616, H⟩ := bind_of H
      refine reg hP hn hm [(1, .call [] [] [] [] 0 (iV .u64 t3615) [])] [0, 1, 6, 7, 8] [0, 1] ⟨[(0, .own 0), (1, iV .i64 a1), (6, iV .i64 (IntKind.i64.wrap (a2 - a1))), (7, .ptr 1 0 0), (8, iV .u64 t3615)], [(0, some (.row 1 3 (a0.map (encInt .i64)))), (1, some (.box 164 [iV .u64 (IntKind.u64.wrap (IntKind.i64.wrap (a2 - a1)))]))], 1⟩ [Enters Try.prog 100, Pv.Fn Try.prog 100 [iV .i64 (IntKind.i64.wrap (a2 - a1))] [] 0 (fun r o => r = iV .u64 t3615 ∧ o = [])] (by kernel_rfl) ⟨by exact Try.call100, by exact f_slices_nextPowerOfTwo.ok (IntKind.i64.wrap (a2 - a1)) t3615 e3616, trivial⟩ ?_
      refine AWp.seq ?_
      refine reg hP hn hm [] [0, 1, 6, 7, 8, 9] [0, 1] ⟨[(0, .own 0), (1, iV .i64 a1), (6, iV .i64 (IntKind.i64.wrap (a2 - a1))), (7, .ptr 1 0 0), (8, iV .u64 t3615), (9, iV .i64 (IntKind.i64.wrap ((IntKind.i64.wrap (a1 + (IntKind.i64.wrap ((IntKind.i64.wrap (Int.tdiv (IntKind.i64.wrap (a2 - a1)) (4 : Int))) * (2 : Int))))) - (1 : Int))))], [(0, some (.row 1 3 (a0.map (encInt .i64)))), (1, some (.box 164 [iV .u64 (IntKind.u64.wrap (IntKind.i64.wrap (a2 - a1)))]))], 1⟩ [(4 : Int) ≠ 0] (by kernel_rfl) ⟨by decide, trivial⟩ ?_
      refine AWp.block ?_
      obtain ⟨o3674, e3675, H⟩ := bind_of H
      refine AWp.loop (LWp.conv (inv := [(0, 0), (1, 3)]) (vk := []) (e0 := []) (t := ⟨[(0, .own 0), (1, iV .i64 a1), (6, iV .i64 (IntKind.i64.wrap (a2 - a1))), (7, .ptr 3 0 0), (8, iV .u64 t3615), (9, iV .i64 (IntKind.i64.wrap ((IntKind.i64.wrap (a1 + (IntKind.i64.wrap ((IntKind.i64.wrap (Int.tdiv (IntKind.i64.wrap (a2 - a1)) (4 : Int))) * (2 : Int))))) - (1 : Int))))], [(0, some (.row 1 3 (a0.map (encInt .i64)))), (3, some (.box 164 [iV .u64 (IntKind.u64.wrap (IntKind.i64.wrap (a2 - a1)))]))], 1⟩) (by kernel_rfl) ?_)
      refine LWp.mono (Q := fun e s => (match (generalizing := false) o3674 with | x3670 => e = .exit 0 ∧ s = ⟨[], [(0, some (.row 1 3 (x3670.map (encInt .i64))))], 1⟩)) (LWp.cv (withBody (fun body hbody => ?_))) ?_
      · refine f_slices_breakPatternsOrdered_int.l0.partial_correctness a1 a2 t3615 (motive := fun x3642 x3643 x3644 o3674 => LWp Γ body (fun e s => ∃ t, Cv Γ s t ∧ (match (generalizing := false) o3674 with | x3670 => e = .exit 0 ∧ t = ⟨[], [(0, some (.row 1 3 (x3670.map (encInt .i64))))], 1⟩)) ⟨[(0, .own 0), (1, iV .i64 a1), (6, iV .i64 (IntKind.i64.wrap (a2 - a1))), (7, .ptr 3 0 0), (8, iV .u64 t3615), (9, iV .i64 x3644)], [(0, some (.row 1 3 (x3642.map (encInt .i64)))), (3, some (.box 164 [iV .u64 x3643]))], 1⟩) ?_ _ _ _ _ e3675
        clear H e3675 o3674; intro self ih x3642 x3643 x3644 o3674 H
        subst hbody
        refine LWp.round ?_
        refine AWp.seq ?_
        refine AWp.seq ?_
        refine reg hP hn hm [] [0, 1, 6, 7, 8, 9, 33] [0, 3] ⟨[(0, .own 0), (1, iV .i64 a1), (6, iV .i64 (IntKind.i64.wrap (a2 - a1))), (7, .ptr 3 0 0), (8, iV .u64 t3615), (9, iV .i64 x3644), (33, bV (decide (x3644 ≤ (IntKind.i64.wrap ((IntKind.i64.wrap (a1 + (IntKind.i64.wrap ((IntKind.i64.wrap (Int.tdiv (IntKind.i64.wrap (a2 - a1)) (4 : Int))) * (2 : Int))))) + (1 : Int))))))], [(0, some (.row 1 3 (x3642.map (encInt .i64)))), (3, some (.box 164 [iV .u64 x3643]))], 1⟩ [(4 : Int) ≠ 0] (by kernel_rfl) ⟨by decide, trivial⟩ ?_
        refine AWp.cond (decide (x3644 ≤ (IntKind.i64.wrap ((IntKind.i64.wrap (a1 + (IntKind.i64.wrap ((IntKind.i64.wrap (Int.tdiv (IntKind.i64.wrap (a2 - a1)) (4 : Int))) * (2 : Int))))) + (1 : Int))))) rfl (fun c3645 => ?_) (fun c3645 => ?_)
        · replace H := (ifT c3645).symm.trans H
          refine AWp.skip ?_
          refine AWp.seq ?_
          refine AWp.block ?_
          refine AWp.seq ?_
          obtain ⟨t3648, e3649, H⟩ := bind_of H
          refine reg hP hn hm [(0, .call [(3, 0)] [(0, 3)] [] [] 1 (iV .u64 (IntKind.u64.wrap (((BitVec.toNat (BitVec.ofInt 64 (IntKind.u64.wrap (((BitVec.toNat (BitVec.ofInt 64 (IntKind.u64.wrap (((BitVec.toNat (BitVec.ofInt 64 x3643 ^^^ BitVec.ofInt 64 (IntKind.u64.wrap (x3643 * 8192))) : Nat) : Int))) ^^^ BitVec.ofInt 64 (Int.fdiv (IntKind.u64.wrap (((BitVec.toNat (BitVec.ofInt 64 x3643 ^^^ BitVec.ofInt 64 (IntKind.u64.wrap (x3643 * 8192))) : Nat) : Int))) 128)) : Nat) : Int))) ^^^ BitVec.ofInt 64 (IntKind.u64.wrap ((IntKind.u64.wrap (((BitVec.toNat (BitVec.ofInt 64 (IntKind.u64.wrap (((BitVec.toNat (BitVec.ofInt 64 x3643 ^^^ BitVec.ofInt 64 (IntKind.u64.wrap (x3643 * 8192))) : Nat) : Int))) ^^^ BitVec.ofInt 64 (Int.fdiv (IntKind.u64.wrap (((BitVec.toNat (BitVec.ofInt 64 x3643 ^^^ BitVec.ofInt 64 (IntKind.u64.wrap (x3643 * 8192))) : Nat) : Int))) 128)) : Nat) : Int))) * 131072))) : Nat) : Int)))) [(0, some (.box 164 [iV .u64 (IntKind.u64.wrap (((BitVec.toNat (BitVec.ofInt 64 (IntKind.u64.wrap (((BitVec.toNat (BitVec.ofInt 64 (IntKind.u64.wrap (((BitVec.toNat (BitVec.ofInt 64 x3643 ^^^ BitVec.ofInt 64 (IntKind.u64.wrap (x3643 * 8192))) : Nat) : Int))) ^^^ BitVec.ofInt 64 (Int.fdiv (IntKind.u64.wrap (((BitVec.toNat (BitVec.ofInt 64 x3643 ^^^ BitVec.ofInt 64 (IntKind.u64.wrap (x3643 * 8192))) : Nat) : Int))) 128)) : Nat) : Int))) ^^^ BitVec.ofInt 64 (IntKind.u64.wrap ((IntKind.u64.wrap (((BitVec.toNat (BitVec.ofInt 64 (IntKind.u64.wrap (((BitVec.toNat (BitVec.ofInt 64 x3643 ^^^ BitVec.ofInt 64 (IntKind.u64.wrap (x3643 * 8192))) : Nat) : Int))) ^^^ BitVec.ofInt 64 (Int.fdiv (IntKind.u64.wrap (((BitVec.toNat (BitVec.ofInt 64 x3643 ^^^ BitVec.ofInt 64 (IntKind.u64.wrap (x3643 * 8192))) : Nat) : Int))) 128)) : Nat) : Int))) * 131072))) : Nat) : Int)))]))])] [0, 1, 6, 7, 8, 9, 10] [0, 3] ⟨[(0, .own 0), (1, iV .i64 a1), (6, iV .i64 (IntKind.i64.wrap (a2 - a1))), (7, .ptr 3 0 0), (8, iV .u64 t3615), (9, iV .i64 x3644), (10, iV .i64 (IntKind.i64.wrap (IntKind.u64.wrap (((BitVec.toNat (BitVec.ofInt 64 (IntKind.u64.wrap (((BitVec.toNat (BitVec.ofInt 64 (IntKind.u64.wrap (((BitVec.toNat (BitVec.ofInt 64 (IntKind.u64.wrap (((BitVec.toNat (BitVec.ofInt 64 x3643 ^^^ BitVec.ofInt 64 (IntKind.u64.wrap (x3643 * 8192))) : Nat) : Int))) ^^^ BitVec.ofInt 64 (Int.fdiv (IntKind.u64.wrap (((BitVec.toNat (BitVec.ofInt 64 x3643 ^^^ BitVec.ofInt 64 (IntKind.u64.wrap (x3643 * 8192))) : Nat) : Int))) 128)) : Nat) : Int))) ^^^ BitVec.ofInt 64 (IntKind.u64.wrap ((IntKind.u64.wrap (((BitVec.toNat (BitVec.ofInt 64 (IntKind.u64.wrap (((BitVec.toNat (BitVec.ofInt 64 x3643 ^^^ BitVec.ofInt 64 (IntKind.u64.wrap (x3643 * 8192))) : Nat) : Int))) ^^^ BitVec.ofInt 64 (Int.fdiv (IntKind.u64.wrap (((BitVec.toNat (BitVec.ofInt 64 x3643 ^^^ BitVec.ofInt 64 (IntKind.u64.wrap (x3643 * 8192))) : Nat) : Int))) 128)) : Nat) : Int))) * 131072))) : Nat) : Int))) &&& BitVec.ofInt 64 (IntKind.u64.wrap (t3615 - (1 : Int)))) : Nat) : Int)))))], [(0, some (.row 1 3 (x3642.map (encInt .i64)))), (3, some (.box 164 [iV .u64 (IntKind.u64.wrap (((BitVec.toNat (BitVec.ofInt 64 (IntKind.u64.wrap (((BitVec.toNat (BitVec.ofInt 64 (IntKind.u64.wrap (((BitVec.toNat (BitVec.ofInt 64 x3643 ^^^ BitVec.ofInt 64 (IntKind.u64.wrap (x3643 * 8192))) : Nat) : Int))) ^^^ BitVec.ofInt 64 (Int.fdiv (IntKind.u64.wrap (((BitVec.toNat (BitVec.ofInt 64 x3643 ^^^ BitVec.ofInt 64 (IntKind.u64.wrap (x3643 * 8192))) : Nat) : Int))) 128)) : Nat) : Int))) ^^^ BitVec.ofInt 64 (IntKind.u64.wrap ((IntKind.u64.wrap (((BitVec.toNat (BitVec.ofInt 64 (IntKind.u64.wrap (((BitVec.toNat (BitVec.ofInt 64 x3643 ^^^ BitVec.ofInt 64 (IntKind.u64.wrap (x3643 * 8192))) : Nat) : Int))) ^^^ BitVec.ofInt 64 (Int.fdiv (IntKind.u64.wrap (((BitVec.toNat (BitVec.ofInt 64 x3643 ^^^ BitVec.ofInt 64 (IntKind.u64.wrap (x3643 * 8192))) : Nat) : Int))) 128)) : Nat) : Int))) * 131072))) : Nat) : Int)))]))], 1⟩ [Enters Try.prog 101, Pv.Fn Try.prog 101 [.ptr 0 0 0] [(0, some (.box 164 [iV .u64 x3643]))] 1 (fun r o => r = iV .u64 (IntKind.u64.wrap (((BitVec.toNat (BitVec.ofInt 64 (IntKind.u64.wrap (((BitVec.toNat (BitVec.ofInt 64 (IntKind.u64.wrap (((BitVec.toNat (BitVec.ofInt 64 x3643 ^^^ BitVec.ofInt 64 (IntKind.u64.wrap (x3643 * 8192))) : Nat) : Int))) ^^^ BitVec.ofInt 64 (Int.fdiv (IntKind.u64.wrap (((BitVec.toNat (BitVec.ofInt 64 x3643 ^^^ BitVec.ofInt 64 (IntKind.u64.wrap (x3643 * 8192))) : Nat) : Int))) 128)) : Nat) : Int))) ^^^ BitVec.ofInt 64 (IntKind.u64.wrap ((IntKind.u64.wrap (((BitVec.toNat (BitVec.ofInt 64 (IntKind.u64.wrap (((BitVec.toNat (BitVec.ofInt 64 x3643 ^^^ BitVec.ofInt 64 (IntKind.u64.wrap (x3643 * 8192))) : Nat) : Int))) ^^^ BitVec.ofInt 64 (Int.fdiv (IntKind.u64.wrap (((BitVec.toNat (BitVec.ofInt 64 x3643 ^^^ BitVec.ofInt 64 (IntKind.u64.wrap (x3643 * 8192))) : Nat) : Int))) 128)) : Nat) : Int))) * 131072))) : Nat) : Int))) ∧ o = [(0, some (.box 164 [iV .u64 (IntKind.u64.wrap (((BitVec.toNat (BitVec.ofInt 64 (IntKind.u64.wrap (((BitVec.toNat (BitVec.ofInt 64 (IntKind.u64.wrap (((BitVec.toNat (BitVec.ofInt 64 x3643 ^^^ BitVec.ofInt 64 (IntKind.u64.wrap (x3643 * 8192))) : Nat) : Int))) ^^^ BitVec.ofInt 64 (Int.fdiv (IntKind.u64.wrap (((BitVec.toNat (BitVec.ofInt 64 x3643 ^^^ BitVec.ofInt 64 (IntKind.u64.wrap (x3643 * 8192))) : Nat) : Int))) 128)) : Nat) : Int))) ^^^ BitVec.ofInt 64 (IntKind.u64.wrap ((IntKind.u64.wrap (((BitVec.toNat (BitVec.ofInt 64 (IntKind.u64.wrap (((BitVec.toNat (BitVec.ofInt 64 x3643 ^^^ BitVec.ofInt 64 (IntKind.u64.wrap (x3643 * 8192))) : Nat) : Int))) ^^^ BitVec.ofInt 64 (Int.fdiv (IntKind.u64.wrap (((BitVec.toNat (BitVec.ofInt 64 x3643 ^^^ BitVec.ofInt 64 (IntKind.u64.wrap (x3643 * 8192))) : Nat) : Int))) 128)) : Nat) : Int))) * 131072))) : Nat) : Int)))]))])] (by kernel_rfl) ⟨by exact Try.call101, by exact f_slices_xorshift_Next_6cb.ok x3643 t3648 e3649, trivial⟩ ?_
          refine AWp.seq ?_
          refine AWp.seq ?_
          refine reg hP hn hm [] [0, 1, 6, 7, 8, 9, 10, 43] [0, 3] ⟨[(0, .own 0), (1, iV .i64 a1), (6, iV .i64 (IntKind.i64.wrap (a2 - a1))), (7, .ptr 3 0 0), (8, iV .u64 t3615), (9, iV .i64 x3644), (10, iV .i64 (IntKind.i64.wrap (IntKind.u64.wrap (((BitVec.toNat (BitVec.ofInt 64 (IntKind.u64.wrap (((BitVec.toNat (BitVec.ofInt 64 (IntKind.u64.wrap (((BitVec.toNat (BitVec.ofInt 64 (IntKind.u64.wrap (((BitVec.toNat (BitVec.ofInt 64 x3643 ^^^ BitVec.ofInt 64 (IntKind.u64.wrap (x3643 * 8192))) : Nat) : Int))) ^^^ BitVec.ofInt 64 (Int.fdiv (IntKind.u64.wrap (((BitVec.toNat (BitVec.ofInt 64 x3643 ^^^ BitVec.ofInt 64 (IntKind.u64.wrap (x3643 * 8192))) : Nat) : Int))) 128)) : Nat) : Int))) ^^^ BitVec.ofInt 64 (IntKind.u64.wrap ((IntKind.u64.wrap (((BitVec.toNat (BitVec.ofInt 64 (IntKind.u64.wrap (((BitVec.toNat (BitVec.ofInt 64 x3643 ^^^ BitVec.ofInt 64 (IntKind.u64.wrap (x3643 * 8192))) : Nat) : Int))) ^^^ BitVec.ofInt 64 (Int.fdiv (IntKind.u64.wrap (((BitVec.toNat (BitVec.ofInt 64 x3643 ^^^ BitVec.ofInt 64 (IntKind.u64.wrap (x3643 * 8192))) : Nat) : Int))) 128)) : Nat) : Int))) * 131072))) : Nat) : Int))) &&& BitVec.ofInt 64 (IntKind.u64.wrap (t3615 - (1 : Int)))) : Nat) : Int))))), (43, bV (decide ((IntKind.i64.wrap (IntKind.u64.wrap (((BitVec.toNat (BitVec.ofInt 64 (IntKind.u64.wrap (((BitVec.toNat (BitVec.ofInt 64 (IntKind.u64.wrap (((BitVec.toNat (BitVec.ofInt 64 (IntKind.u64.wrap (((BitVec.toNat (BitVec.ofInt 64 x3643 ^^^ BitVec.ofInt 64 (IntKind.u64.wrap (x3643 * 8192))) : Nat) : Int))) ^^^ BitVec.ofInt 64 (Int.fdiv (IntKind.u64.wrap (((BitVec.toNat (BitVec.ofInt 64 x3643 ^^^ BitVec.ofInt 64 (IntKind.u64.wrap (x3643 * 8192))) : Nat) : Int))) 128)) : Nat) : Int))) ^^^ BitVec.ofInt 64 (IntKind.u64.wrap ((IntKind.u64.wrap (((BitVec.toNat (BitVec.ofInt 64 (IntKind.u64.wrap (((BitVec.toNat (BitVec.ofInt 64 x3643 ^^^ BitVec.ofInt 64 (IntKind.u64.wrap (x3643 * 8192))) : Nat) : Int))) ^^^ BitVec.ofInt 64 (Int.fdiv (IntKind.u64.wrap (((BitVec.toNat (BitVec.ofInt 64 x3643 ^^^ BitVec.ofInt 64 (IntKind.u64.wrap (x3643 * 8192))) : Nat) : Int))) 128)) : Nat) : Int))) * 131072))) : Nat) : Int))) &&& BitVec.ofInt 64 (IntKind.u64.wrap (t3615 - (1 : Int)))) : Nat) : Int)))) ≥ (IntKind.i64.wrap (a2 - a1)))))], [(0, some (.row 1 3 (x3642.map (encInt .i64)))), (3, some (.box 164 [iV .u64 (IntKind.u64.wrap (((BitVec.toNat (BitVec.ofInt 64 (IntKind.u64.wrap (((BitVec.toNat (BitVec.ofInt 64 (IntKind.u64.wrap (((BitVec.toNat (BitVec.ofInt 64 x3643 ^^^ BitVec.ofInt 64 (IntKind.u64.wrap (x3643 * 8192))) : Nat) : Int))) ^^^ BitVec.ofInt 64 (Int.fdiv (IntKind.u64.wrap (((BitVec.toNat (BitVec.ofInt 64 x3643 ^^^ BitVec.ofInt 64 (IntKind.u64.wrap (x3643 * 8192))) : Nat) : Int))) 128)) : Nat) : Int))) ^^^ BitVec.ofInt 64 (IntKind.u64.wrap ((IntKind.u64.wrap (((BitVec.toNat (BitVec.ofInt 64 (IntKind.u64.wrap (((BitVec.toNat (BitVec.ofInt 64 x3643 ^^^ BitVec.ofInt 64 (IntKind.u64.wrap (x3643 * 8192))) : Nat) : Int))) ^^^ BitVec.ofInt 64 (Int.fdiv (IntKind.u64.wrap (((BitVec.toNat (BitVec.ofInt 64 x3643 ^^^ BitVec.ofInt 64 (IntKind.u64.wrap (x3643 * 8192))) : Nat) : Int))) 128)) : Nat) : Int))) * 131072))) : Nat) : Int)))]))], 1⟩ [] (by kernel_rfl) trivial ?_
          obtain ⟨o3676, e3677, H⟩ := bind_of H
          refine AWp.mono (Q := fun e s => (match (generalizing := false) o3676 with | x3651 => e = .normal ∧ s = ⟨[(0, .own 0), (1, iV .i64 a1), (6, iV .i64 (IntKind.i64.wrap (a2 - a1))), (7, .ptr 4 0 0), (8, iV .u64 t3615), (9, iV .i64 x3644), (10, iV .i64 x3651)], [(0, some (.row 1 3 (x3642.map (encInt .i64)))), (4, some (.box 164 [iV .u64 (IntKind.u64.wrap (((BitVec.toNat (BitVec.ofInt 64 (IntKind.u64.wrap (((BitVec.toNat (BitVec.ofInt 64 (IntKind.u64.wrap (((BitVec.toNat (BitVec.ofInt 64 x3643 ^^^ BitVec.ofInt 64 (IntKind.u64.wrap (x3643 * 8192))) : Nat) : Int))) ^^^ BitVec.ofInt 64 (Int.fdiv (IntKind.u64.wrap (((BitVec.toNat (BitVec.ofInt 64 x3643 ^^^ BitVec.ofInt 64 (IntKind.u64.wrap (x3643 * 8192))) : Nat) : Int))) 128)) : Nat) : Int))) ^^^ BitVec.ofInt 64 (IntKind.u64.wrap ((IntKind.u64.wrap (((BitVec.toNat (BitVec.ofInt 64 (IntKind.u64.wrap (((BitVec.toNat (BitVec.ofInt 64 x3643 ^^^ BitVec.ofInt 64 (IntKind.u64.wrap (x3643 * 8192))) : Nat) : Int))) ^^^ BitVec.ofInt 64 (Int.fdiv (IntKind.u64.wrap (((BitVec.toNat (BitVec.ofInt 64 x3643 ^^^ BitVec.ofInt 64 (IntKind.u64.wrap (x3643 * 8192))) : Nat) : Int))) 128)) : Nat) : Int))) * 131072))) : Nat) : Int)))]))], 1⟩)) (AWp.cv ?_) ?_
          · replace H := e3677; clear e3677
            refine AWp.cond (decide ((IntKind.i64.wrap (IntKind.u64.wrap (((BitVec.toNat (BitVec.ofInt 64 (IntKind.u64.wrap (((BitVec.toNat (BitVec.ofInt 64 (IntKind.u64.wrap (((BitVec.toNat (BitVec.ofInt 64 (IntKind.u64.wrap (((BitVec.toNat (BitVec.ofInt 64 x3643 ^^^ BitVec.ofInt 64 (IntKind.u64.wrap (x3643 * 8192))) : Nat) : Int))) ^^^ BitVec.ofInt 64 (Int.fdiv (IntKind.u64.wrap (((BitVec.toNat (BitVec.ofInt 64 x3643 ^^^ BitVec.ofInt 64 (IntKind.u64.wrap (x3643 * 8192))) : Nat) : Int))) 128)) : Nat) : Int))) ^^^ BitVec.ofInt 64 (IntKind.u64.wrap ((IntKind.u64.wrap (((BitVec.toNat (BitVec.ofInt 64 (IntKind.u64.wrap (((BitVec.toNat (BitVec.ofInt 64 x3643 ^^^ BitVec.ofInt 64 (IntKind.u64.wrap (x3643 * 8192))) : Nat) : Int))) ^^^ BitVec.ofInt 64 (Int.fdiv (IntKind.u64.wrap (((BitVec.toNat (BitVec.ofInt 64 x3643 ^^^ BitVec.ofInt 64 (IntKind.u64.wrap (x3643 * 8192))) : Nat) : Int))) 128)) : Nat) : Int))) * 131072))) : Nat) : Int))) &&& BitVec.ofInt 64 (IntKind.u64.wrap (t3615 - (1 : Int)))) : Nat) : Int)))) ≥ (IntKind.i64.wrap (a2 - a1)))) rfl (fun c3650 => ?_) (fun c3650 => ?_)
            · replace H := (ifT c3650).symm.trans H
              refine reg hP hn hm [] [0, 1, 6, 7, 8, 9, 10] [0, 3] ⟨[(0, .own 0), (1, iV .i64 a1), (6, iV .i64 (IntKind.i64.wrap (a2 - a1))), (7, .ptr 3 0 0), (8, iV .u64 t3615), (9, iV .i64 x3644), (10, iV .i64 (IntKind.i64.wrap ((IntKind.i64.wrap (IntKind.u64.wrap (((BitVec.toNat (BitVec.ofInt 64 (IntKind.u64.wrap (((BitVec.toNat (BitVec.ofInt 64 (IntKind.u64.wrap (((BitVec.toNat (BitVec.ofInt 64 (IntKind.u64.wrap (((BitVec.toNat (BitVec.ofInt 64 x3643 ^^^ BitVec.ofInt 64 (IntKind.u64.wrap (x3643 * 8192))) : Nat) : Int))) ^^^ BitVec.ofInt 64 (Int.fdiv (IntKind.u64.wrap (((BitVec.toNat (BitVec.ofInt 64 x3643 ^^^ BitVec.ofInt 64 (IntKind.u64.wrap (x3643 * 8192))) : Nat) : Int))) 128)) : Nat) : Int))) ^^^ BitVec.ofInt 64 (IntKind.u64.wrap ((IntKind.u64.wrap (((BitVec.toNat (BitVec.ofInt 64 (IntKind.u64.wrap (((BitVec.toNat (BitVec.ofInt 64 x3643 ^^^ BitVec.ofInt 64 (IntKind.u64.wrap (x3643 * 8192))) : Nat) : Int))) ^^^ BitVec.ofInt 64 (Int.fdiv (IntKind.u64.wrap (((BitVec.toNat (BitVec.ofInt 64 x3643 ^^^ BitVec.ofInt 64 (IntKind.u64.wrap (x3643 * 8192))) : Nat) : Int))) 128)) : Nat) : Int))) * 131072))) : Nat) : Int))) &&& BitVec.ofInt 64 (IntKind.u64.wrap (t3615 - (1 : Int)))) : Nat) : Int)))) - (IntKind.i64.wrap (a2 - a1)))))], [(0, some (.row 1 3 (x3642.map (encInt .i64)))), (3, some (.box 164 [iV .u64 (IntKind.u64.wrap (((BitVec.toNat (BitVec.ofInt 64 (IntKind.u64.wrap (((BitVec.toNat (BitVec.ofInt 64 (IntKind.u64.wrap (((BitVec.toNat (BitVec.ofInt 64 x3643 ^^^ BitVec.ofInt 64 (IntKind.u64.wrap (x3643 * 8192))) : Nat) : Int))) ^^^ BitVec.ofInt 64 (Int.fdiv (IntKind.u64.wrap (((BitVec.toNat (BitVec.ofInt 64 x3643 ^^^ BitVec.ofInt 64 (IntKind.u64.wrap (x3643 * 8192))) : Nat) : Int))) 128)) : Nat) : Int))) ^^^ BitVec.ofInt 64 (IntKind.u64.wrap ((IntKind.u64.wrap (((BitVec.toNat (BitVec.ofInt 64 (IntKind.u64.wrap (((BitVec.toNat (BitVec.ofInt 64 x3643 ^^^ BitVec.ofInt 64 (IntKind.u64.wrap (x3643 * 8192))) : Nat) : Int))) ^^^ BitVec.ofInt 64 (Int.fdiv (IntKind.u64.wrap (((BitVec.toNat (BitVec.ofInt 64 x3643 ^^^ BitVec.ofInt 64 (IntKind.u64.wrap (x3643 * 8192))) : Nat) : Int))) 128)) : Nat) : Int))) * 131072))) : Nat) : Int)))]))], 1⟩ [] (by kernel_rfl) trivial ?_
              obtain rfl := Option.some.inj H
              exact Exists.intro _ (And.intro (fun _ _ h => h.conv (inv := [(0, 0), (3, 4)]) (vk := []) (e0 := []) (t := ⟨[(0, .own 0), (1, iV .i64 a1), (6, iV .i64 (IntKind.i64.wrap (a2 - a1))), (7, .ptr 4 0 0), (8, iV .u64 t3615), (9, iV .i64 x3644), (10, iV .i64 (IntKind.i64.wrap ((IntKind.i64.wrap (IntKind.u64.wrap (((BitVec.toNat (BitVec.ofInt 64 (IntKind.u64.wrap (((BitVec.toNat (BitVec.ofInt 64 (IntKind.u64.wrap (((BitVec.toNat (BitVec.ofInt 64 (IntKind.u64.wrap (((BitVec.toNat (BitVec.ofInt 64 x3643 ^^^ BitVec.ofInt 64 (IntKind.u64.wrap (x3643 * 8192))) : Nat) : Int))) ^^^ BitVec.ofInt 64 (Int.fdiv (IntKind.u64.wrap (((BitVec.toNat (BitVec.ofInt 64 x3643 ^^^ BitVec.ofInt 64 (IntKind.u64.wrap (x3643 * 8192))) : Nat) : Int))) 128)) : Nat) : Int))) ^^^ BitVec.ofInt 64 (IntKind.u64.wrap ((IntKind.u64.wrap (((BitVec.toNat (BitVec.ofInt 64 (IntKind.u64.wrap (((BitVec.toNat (BitVec.ofInt 64 x3643 ^^^ BitVec.ofInt 64 (IntKind.u64.wrap (x3643 * 8192))) : Nat) : Int))) ^^^ BitVec.ofInt 64 (Int.fdiv (IntKind.u64.wrap (((BitVec.toNat (BitVec.ofInt 64 x3643 ^^^ BitVec.ofInt 64 (IntKind.u64.wrap (x3643 * 8192))) : Nat) : Int))) 128)) : Nat) : Int))) * 131072))) : Nat) : Int))) &&& BitVec.ofInt 64 (IntKind.u64.wrap (t3615 - (1 : Int)))) : Nat) : Int)))) - (IntKind.i64.wrap (a2 - a1)))))], [(0, some (.row 1 3 (x3642.map (encInt .i64)))), (4, some (.box 164 [iV .u64 (IntKind.u64.wrap (((BitVec.toNat (BitVec.ofInt 64 (IntKind.u64.wrap (((BitVec.toNat (BitVec.ofInt 64 (IntKind.u64.wrap (((BitVec.toNat (BitVec.ofInt 64 x3643 ^^^ BitVec.ofInt 64 (IntKind.u64.wrap (x3643 * 8192))) : Nat) : Int))) ^^^ BitVec.ofInt 64 (Int.fdiv (IntKind.u64.wrap (((BitVec.toNat (BitVec.ofInt 64 x3643 ^^^ BitVec.ofInt 64 (IntKind.u64.wrap (x3643 * 8192))) : Nat) : Int))) 128)) : Nat) : Int))) ^^^ BitVec.ofInt 64 (IntKind.u64.wrap ((IntKind.u64.wrap (((BitVec.toNat (BitVec.ofInt 64 (IntKind.u64.wrap (((BitVec.toNat (BitVec.ofInt 64 x3643 ^^^ BitVec.ofInt 64 (IntKind.u64.wrap (x3643 * 8192))) : Nat) : Int))) ^^^ BitVec.ofInt 64 (Int.fdiv (IntKind.u64.wrap (((BitVec.toNat (BitVec.ofInt 64 x3643 ^^^ BitVec.ofInt 64 (IntKind.u64.wrap (x3643 * 8192))) : Nat) : Int))) 128)) : Nat) : Int))) * 131072))) : Nat) : Int)))]))], 1⟩) (by kernel_rfl)) (And.intro rfl rfl))
            · replace H := (ifF c3650).symm.trans H
              refine AWp.skip ?_
              obtain rfl := Option.some.inj H
              exact Exists.intro _ (And.intro (fun _ _ h => h.conv (inv := [(0, 0), (3, 4)]) (vk := []) (e0 := []) (t := ⟨[(0, .own 0), (1, iV .i64 a1), (6, iV .i64 (IntKind.i64.wrap (a2 - a1))), (7, .ptr 4 0 0), (8, iV .u64 t3615), (9, iV .i64 x3644), (10, iV .i64 (IntKind.i64.wrap (IntKind.u64.wrap (((BitVec.toNat (BitVec.ofInt 64 (IntKind.u64.wrap (((BitVec.toNat (BitVec.ofInt 64 (IntKind.u64.wrap (((BitVec.toNat (BitVec.ofInt 64 (IntKind.u64.wrap (((BitVec.toNat (BitVec.ofInt 64 x3643 ^^^ BitVec.ofInt 64 (IntKind.u64.wrap (x3643 * 8192))) : Nat) : Int))) ^^^ BitVec.ofInt 64 (Int.fdiv (IntKind.u64.wrap (((BitVec.toNat (BitVec.ofInt 64 x3643 ^^^ BitVec.ofInt 64 (IntKind.u64.wrap (x3643 * 8192))) : Nat) : Int))) 128)) : Nat) : Int))) ^^^ BitVec.ofInt 64 (IntKind.u64.wrap ((IntKind.u64.wrap (((BitVec.toNat (BitVec.ofInt 64 (IntKind.u64.wrap (((BitVec.toNat (BitVec.ofInt 64 x3643 ^^^ BitVec.ofInt 64 (IntKind.u64.wrap (x3643 * 8192))) : Nat) : Int))) ^^^ BitVec.ofInt 64 (Int.fdiv (IntKind.u64.wrap (((BitVec.toNat (BitVec.ofInt 64 x3643 ^^^ BitVec.ofInt 64 (IntKind.u64.wrap (x3643 * 8192))) : Nat) : Int))) 128)) : Nat) : Int))) * 131072))) : Nat) : Int))) &&& BitVec.ofInt 64 (IntKind.u64.wrap (t3615 - (1 : Int)))) : Nat) : Int)))))], [(0, some (.row 1 3 (x3642.map (encInt .i64)))), (4, some (.box 164 [iV .u64 (IntKind.u64.wrap (((BitVec.toNat (BitVec.ofInt 64 (IntKind.u64.wrap (((BitVec.toNat (BitVec.ofInt 64 (IntKind.u64.wrap (((BitVec.toNat (BitVec.ofInt 64 x3643 ^^^ BitVec.ofInt 64 (IntKind.u64.wrap (x3643 * 8192))) : Nat) : Int))) ^^^ BitVec.ofInt 64 (Int.fdiv (IntKind.u64.wrap (((BitVec.toNat (BitVec.ofInt 64 x3643 ^^^ BitVec.ofInt 64 (IntKind.u64.wrap (x3643 * 8192))) : Nat) : Int))) 128)) : Nat) : Int))) ^^^ BitVec.ofInt 64 (IntKind.u64.wrap ((IntKind.u64.wrap (((BitVec.toNat (BitVec.ofInt 64 (IntKind.u64.wrap (((BitVec.toNat (BitVec.ofInt 64 x3643 ^^^ BitVec.ofInt 64 (IntKind.u64.wrap (x3643 * 8192))) : Nat) : Int))) ^^^ BitVec.ofInt 64 (Int.fdiv (IntKind.u64.wrap (((BitVec.toNat (BitVec.ofInt 64 x3643 ^^^ BitVec.ofInt 64 (IntKind.u64.wrap (x3643 * 8192))) : Nat) : Int))) 128)) : Nat) : Int))) * 131072))) : Nat) : Int)))]))], 1⟩) (by kernel_rfl)) (And.intro rfl rfl))
          · obtain ⟨x3651, rfl⟩ : ∃ z, z = o3676 := ⟨_, rfl⟩
            rintro e s ⟨rfl, rfl⟩
            obtain ⟨b3661, p3662, q3663, H⟩ := at_of H
            obtain ⟨b3664, p3665, q3666, H⟩ := at_of H
            obtain ⟨b3667, p3668, q3669, H⟩ := at_of H
            refine reg hP hn hm [(11, .c ((encInt .i64) b3661)), (15, .c ((encInt .i64) b3664)), (17, .put ((encInt .i64) b3664) ((x3642.set (Int.toNat (x3644)) b3661).map (encInt .i64))), (19, .put ((encInt .i64) b3667) (((x3642.set (Int.toNat (x3644)) b3661).set (Int.toNat (IntKind.i64.wrap (a1 + x3651))) b3664).map (encInt .i64)))] [0, 1, 6, 7, 8, 9] [0, 4] ⟨[(0, .own 0), (1, iV .i64 a1), (6, iV .i64 (IntKind.i64.wrap (a2 - a1))), (7, .ptr 4 0 0), (8, iV .u64 t3615), (9, iV .i64 x3644)], [(0, some (.row 1 3 (((x3642.set (Int.toNat (x3644)) b3661).set (Int.toNat (IntKind.i64.wrap (a1 + x3651))) b3664).map (encInt .i64)))), (4, some (.box 164 [iV .u64 (IntKind.u64.wrap (((BitVec.toNat (BitVec.ofInt 64 (IntKind.u64.wrap (((BitVec.toNat (BitVec.ofInt 64 (IntKind.u64.wrap (((BitVec.toNat (BitVec.ofInt 64 x3643 ^^^ BitVec.ofInt 64 (IntKind.u64.wrap (x3643 * 8192))) : Nat) : Int))) ^^^ BitVec.ofInt 64 (Int.fdiv (IntKind.u64.wrap (((BitVec.toNat (BitVec.ofInt 64 x3643 ^^^ BitVec.ofInt 64 (IntKind.u64.wrap (x3643 * 8192))) : Nat) : Int))) 128)) : Nat) : Int))) ^^^ BitVec.ofInt 64 (IntKind.u64.wrap ((IntKind.u64.wrap (((BitVec.toNat (BitVec.ofInt 64 (IntKind.u64.wrap (((BitVec.toNat (BitVec.ofInt 64 x3643 ^^^ BitVec.ofInt 64 (IntKind.u64.wrap (x3643 * 8192))) : Nat) : Int))) ^^^ BitVec.ofInt 64 (Int.fdiv (IntKind.u64.wrap (((BitVec.toNat (BitVec.ofInt 64 x3643 ^^^ BitVec.ofInt 64 (IntKind.u64.wrap (x3643 * 8192))) : Nat) : Int))) 128)) : Nat) : Int))) * 131072))) : Nat) : Int)))]))], 1⟩ [0 ≤ (IntKind.i64.wrap (a1 + x3651)), IntKind.i64.wrap (a1 + x3651) < (((x3642.map (encInt .i64)).length : Nat) : Int), (x3642.map (encInt .i64))[(Int.toNat (IntKind.i64.wrap (a1 + x3651)))]? = some ((encInt .i64) b3661), 0 ≤ x3644, x3644 < (((x3642.map (encInt .i64)).length : Nat) : Int), (x3642.map (encInt .i64))[(Int.toNat (x3644))]? = some ((encInt .i64) b3664), 0 ≤ x3644, x3644 < (((x3642.map (encInt .i64)).length : Nat) : Int), (x3642.map (encInt .i64))[(Int.toNat (x3644))]? = some ((encInt .i64) b3664), (x3642.set (Int.toNat (x3644)) b3661).map (encInt .i64) = (x3642.map (encInt .i64)).set (Int.toNat (x3644)) (splice ((encInt .i64) b3664) 0 [iI .i64 b3661]), 0 ≤ (IntKind.i64.wrap (a1 + x3651)), IntKind.i64.wrap (a1 + x3651) < ((((x3642.set (Int.toNat (x3644)) b3661).map (encInt .i64)).length : Nat) : Int), ((x3642.set (Int.toNat (x3644)) b3661).map (encInt .i64))[(Int.toNat (IntKind.i64.wrap (a1 + x3651)))]? = some ((encInt .i64) b3667), ((x3642.set (Int.toNat (x3644)) b3661).set (Int.toNat (IntKind.i64.wrap (a1 + x3651))) b3664).map (encInt .i64) = ((x3642.set (Int.toNat (x3644)) b3661).map (encInt .i64)).set (Int.toNat (IntKind.i64.wrap (a1 + x3651))) (splice ((encInt .i64) b3667) 0 [iI .i64 b3664])] (by kernel_rfl) ⟨by exact p3662, by exact el_lt (encInt .i64) p3662 q3663, by exact el_map (encInt .i64) q3663, by exact p3665, by exact el_lt (encInt .i64) p3665 q3666, by exact el_map (encInt .i64) q3666, by exact p3665, by exact el_lt (encInt .i64) p3665 q3666, by exact el_map (encInt .i64) q3666, by exact set1 _ _ _ _, by exact p3668, by exact el_lt (encInt .i64) p3668 q3669, by exact el_map (encInt .i64) q3669, by exact set1 _ _ _ _, trivial⟩ ?_
            refine reg hP hn hm [] [0, 1, 6, 7, 8, 9] [0, 4] ⟨[(0, .own 0), (1, iV .i64 a1), (6, iV .i64 (IntKind.i64.wrap (a2 - a1))), (7, .ptr 4 0 0), (8, iV .u64 t3615), (9, iV .i64 (IntKind.i64.wrap (x3644 + (1 : Int))))], [(0, some (.row 1 3 (((x3642.set (Int.toNat (x3644)) b3661).set (Int.toNat (IntKind.i64.wrap (a1 + x3651))) b3664).map (encInt .i64)))), (4, some (.box 164 [iV .u64 (IntKind.u64.wrap (((BitVec.toNat (BitVec.ofInt 64 (IntKind.u64.wrap (((BitVec.toNat (BitVec.ofInt 64 (IntKind.u64.wrap (((BitVec.toNat (BitVec.ofInt 64 x3643 ^^^ BitVec.ofInt 64 (IntKind.u64.wrap (x3643 * 8192))) : Nat) : Int))) ^^^ BitVec.ofInt 64 (Int.fdiv (IntKind.u64.wrap (((BitVec.toNat (BitVec.ofInt 64 x3643 ^^^ BitVec.ofInt 64 (IntKind.u64.wrap (x3643 * 8192))) : Nat) : Int))) 128)) : Nat) : Int))) ^^^ BitVec.ofInt 64 (IntKind.u64.wrap ((IntKind.u64.wrap (((BitVec.toNat (BitVec.ofInt 64 (IntKind.u64.wrap (((BitVec.toNat (BitVec.ofInt 64 x3643 ^^^ BitVec.ofInt 64 (IntKind.u64.wrap (x3643 * 8192))) : Nat) : Int))) ^^^ BitVec.ofInt 64 (Int.fdiv (IntKind.u64.wrap (((BitVec.toNat (BitVec.ofInt 64 x3643 ^^^ BitVec.ofInt 64 (IntKind.u64.wrap (x3643 * 8192))) : Nat) : Int))) 128)) : Nat) : Int))) * 131072))) : Nat) : Int)))]))], 1⟩ [] (by kernel_rfl) trivial ?_
            exact LWp.conv (inv := [(0, 0), (4, 3)]) (vk := []) (e0 := []) (t := ⟨[(0, .own 0), (1, iV .i64 a1), (6, iV .i64 (IntKind.i64.wrap (a2 - a1))), (7, .ptr 3 0 0), (8, iV .u64 t3615), (9, iV .i64 (IntKind.i64.wrap (x3644 + (1 : Int))))], [(0, some (.row 1 3 (((x3642.set (Int.toNat (x3644)) b3661).set (Int.toNat (IntKind.i64.wrap (a1 + x3651))) b3664).map (encInt .i64)))), (3, some (.box 164 [iV .u64 (IntKind.u64.wrap (((BitVec.toNat (BitVec.ofInt 64 (IntKind.u64.wrap (((BitVec.toNat (BitVec.ofInt 64 (IntKind.u64.wrap (((BitVec.toNat (BitVec.ofInt 64 x3643 ^^^ BitVec.ofInt 64 (IntKind.u64.wrap (x3643 * 8192))) : Nat) : Int))) ^^^ BitVec.ofInt 64 (Int.fdiv (IntKind.u64.wrap (((BitVec.toNat (BitVec.ofInt 64 x3643 ^^^ BitVec.ofInt 64 (IntKind.u64.wrap (x3643 * 8192))) : Nat) : Int))) 128)) : Nat) : Int))) ^^^ BitVec.ofInt 64 (IntKind.u64.wrap ((IntKind.u64.wrap (((BitVec.toNat (BitVec.ofInt 64 (IntKind.u64.wrap (((BitVec.toNat (BitVec.ofInt 64 x3643 ^^^ BitVec.ofInt 64 (IntKind.u64.wrap (x3643 * 8192))) : Nat) : Int))) ^^^ BitVec.ofInt 64 (Int.fdiv (IntKind.u64.wrap (((BitVec.toNat (BitVec.ofInt 64 x3643 ^^^ BitVec.ofInt 64 (IntKind.u64.wrap (x3643 * 8192))) : Nat) : Int))) 128)) : Nat) : Int))) * 131072))) : Nat) : Int)))]))], 1⟩) (by kernel_rfl) (ih _ _ _ _ H)
        · replace H := (ifF c3645).symm.trans H
          refine AWp.exit ?_
          obtain rfl := Option.some.inj H
          exact Exists.intro _ (And.intro (fun _ _ h => h.conv (inv := [(0, 0)]) (vk := []) (e0 := []) (t := ⟨[], [(0, some (.row 1 3 (x3642.map (encInt .i64))))], 1⟩) (by kernel_rfl)) (And.intro rfl rfl))
      · obtain ⟨x3670, rfl⟩ : ∃ z, z = o3674 := ⟨_, rfl⟩
        rintro e s ⟨rfl, rfl⟩
        obtain rfl := Option.some.inj H
        exact Exists.intro _ (And.intro (fun _ _ h => h.conv (inv := [(0, 0)]) (vk := []) (e0 := []) (t := ⟨[], [(0, some (.row 1 3 (x3670.map (encInt .i64))))], 1⟩) (by kernel_rfl)) (And.intro rfl rfl))
    · replace H := (ifF c3612).symm.trans H
      refine AWp.skip ?_
      obtain rfl := Option.some.inj H
      exact Exists.intro _ (And.intro (fun _ _ h => h.conv (inv := [(0, 0)]) (vk := []) (e0 := []) (t := ⟨[], [(0, some (.row 1 3 (a0.map (encInt .i64))))], 1⟩) (by kernel_rfl)) (And.intro rfl rfl))
  · obtain ⟨x3671, rfl⟩ : ∃ z, z = o3672 := ⟨_, rfl⟩
    rintro e s ⟨rfl, rfl⟩
    obtain rfl := Option.some.inj H
    exact Exists.intro ⟨[], [(0, some (.row 1 3 (x3671.map (encInt .i64))))], 1⟩ (And.intro (fun _ _ h => h.conv (inv := [(0, 0)]) (vk := []) (e0 := []) (t := ⟨[], [(0, some (.row 1 3 (x3671.map (encInt .i64))))], 1⟩) (by kernel_rfl)) (And.intro (.inr rfl) (And.intro rfl (And.intro (by kernel_rfl) (by kernel_rfl)))))
def f_slices_pdqsortOrdered_int.l0 (self : (List Int) → Int → Int → Int → Option (List Int)) (x3755 : List Int) (x3756 : Int) (x3757 : Int) (x3758 : Int) (x3759 : Bool) (x3760 : Bool) : Option (List Int) := ((if (decide ((IntKind.i64.wrap (x3757 - x3756)) ≤ (12 : Int))) = true then ((f_slices_insertionSortOrdered_int.f x3755 x3756 x3757) >>= fun t3764 => some (.inl t3764)) else (if (x3758 == (0 : Int)) = true then ((f_slices_heapSortOrdered_int.f x3755 x3756 x3757) >>= fun t3769 => some (.inl t3769)) else (((if (!x3759) = true then ((f_slices_breakPatternsOrdered_int.f x3755 x3756 x3757) >>= fun t3774 => some (t3774, IntKind.i64.wrap (x3758 - (1 : Int)))) else (some (x3755, x3758))) : Option ((List Int) × Int)) >>= fun oo => match oo with | (x3776, x3777) => ((f_slices_choosePivotOrdered_int.f x3776 x3756 x3757) >>= fun t3780 => ((if (t3780.2 == (2 : Int)) = true then ((f_slices_reverseRangeOrdered_int.f x3776 x3756 x3757) >>= fun t3785 => some (t3785, IntKind.i64.wrap ((IntKind.i64.wrap (x3757 - (1 : Int))) - (IntKind.i64.wrap (t3780.1 - x3756))), 1)) else (some (x3776, t3780.1, t3780.2))) : Option ((List Int) × Int × Int)) >>= fun oo => match oo with | (x3787, x3788, x3789) => (((if x3759 = true then (if x3760 = true then (some (x3789 == (1 : Int))) else (some false)) else (some false)) : Option (Bool)) >>= fun x3794 => ((if x3794 = true then ((f_slices_partialInsertionSortOrdered_int.f x3787 x3756 x3757) >>= fun t3798 => if t3798.1 = true then (some (.inl t3798.2)) else (some (.inr t3798.2))) else (some (.inr x3787))) : Option ((List Int) ⊕ (List Int))) >>= fun oo => match oo with | .inl rr => (some (.inl rr)) | .inr x3801 => (((if (decide (x3756 > (0 : Int))) = true then ((at? x3801 (IntKind.i64.wrap (x3756 - (1 : Int)))) >>= fun b3812 => (at? x3801 x3788) >>= fun b3815 => (f_cmp_Less_int.f b3812 b3815) >>= fun t3818 => some (!t3818)) else (some false)) : Option (Bool)) >>= fun x3820 => if x3820 = true then ((f_slices_partitionEqualOrdered_int.f x3801 x3756 x3757 x3788) >>= fun t3824 => some (.inr (t3824.2, t3824.1, x3757, x3777, x3759, x3760))) else ((f_slices_partitionOrdered_int.f x3801 x3756 x3757 x3788) >>= fun t3828 => ((if (decide ((IntKind.i64.wrap (t3828.1 - x3756)) < (IntKind.i64.wrap (x3757 - t3828.1)))) = true then ((self t3828.2.2 x3756 t3828.1 x3777) >>= fun t3833 => some (t3833, IntKind.i64.wrap (t3828.1 + (1 : Int)), x3757, (decide ((IntKind.i64.wrap (t3828.1 - x3756)) ≥ (IntKind.i64.wrap (Int.tdiv (IntKind.i64.wrap (x3757 - x3756)) (8 : Int))))))) else ((self t3828.2.2 (IntKind.i64.wrap (t3828.1 + (1 : Int))) x3757 x3777) >>= fun t3837 => some (t3837, x3756, t3828.1, (decide ((IntKind.i64.wrap (x3757 - t3828.1)) ≥ (IntKind.i64.wrap (Int.tdiv (IntKind.i64.wrap (x3757 - x3756)) (8 : Int)))))))) : Option ((List Int) × Int × Int × Bool)) >>= fun oo => match oo with | (x3839, x3840, x3841, x3842) => (some (.inr (x3839, x3840, x3841, x3777, x3842, t3828.2.1)))))))))) : Option ((List Int) ⊕ ((List Int) × Int × Int × Int × Bool × Bool))) >>= fun oo => match oo with | .inl rr => (some rr) | .inr (x3843, x3844, x3845, x3846, x3847, x3848) => (f_slices_pdqsortOrdered_int.l0 self x3843 x3844 x3845 x3846 x3847 x3848)
partial_fixpoint
def f_slices_pdqsortOrdered_int.fu : Nat → (List Int) → Int → Int → Int → Option (List Int)
  | 0, _, _, _, _ => none
  | k + 1, a0, a1, a2, a3 => (f_slices_pdqsortOrdered_int.l0 (f_slices_pdqsortOrdered_int.fu k) a0 a1 a2 a3 true true) >>= fun rr => some rr
def f_slices_pdqsortOrdered_int.f (a0 : List Int) (a1 : Int) (a2 : Int) (a3 : Int) : Option (List Int) := f_slices_pdqsortOrdered_int.fu 100 a0 a1 a2 a3
theorem f_slices_pdqsortOrdered_int.oku (k : Nat) (a0 : List Int) (a1 : Int) (a2 : Int) (a3 : Int) (r : List Int) (H : f_slices_pdqsortOrdered_int.fu k a0 a1 a2 a3 = some r) : Pv.Fn Try.prog 46 [.own 0, iV .i64 a1, iV .i64 a2, iV .i64 a3] [(0, some (.row 1 3 (a0.map (encInt .i64))))] 1 (fun x o => x = .tup [] ∧ o = [(0, some (.row 1 3 (r.map (encInt .i64))))]) := by
  induction k generalizing a0 a1 a2 a3 r with
  | zero => simp [f_slices_pdqsortOrdered_int.fu] at H
  | succ k ihF =>
  rw [f_slices_pdqsortOrdered_int.fu] at H
  refine Fn.bodyK [0] Try.func46 rfl rfl (fun Γ hP hn => ?_)
  have hm : Try.prog.follows .mixedOrders = true := by kernel_rfl
  replace hn : Γ.n = 134 := hn
  refine AWp.seq ?_
  refine reg hP hn hm [] [0, 1, 2, 3, 8] [0] ⟨[(0, .own 0), (1, iV .i64 a1), (2, iV .i64 a2), (3, iV .i64 a3), (8, bV true)], [(0, some (.row 1 3 (a0.map (encInt .i64))))], 1⟩ [] (by kernel_rfl) trivial ?_
  refine AWp.seq ?_
  refine reg hP hn hm [] [0, 1, 2, 3, 8, 9] [0] ⟨[(0, .own 0), (1, iV .i64 a1), (2, iV .i64 a2), (3, iV .i64 a3), (8, bV true), (9, bV true)], [(0, some (.row 1 3 (a0.map (encInt .i64))))], 1⟩ [] (by kernel_rfl) trivial ?_
  refine AWp.block ?_
  obtain ⟨o3849, e3850, H⟩ := bind_of H
  refine AWp.loop (LWp.conv (inv := [(0, 0)]) (vk := []) (e0 := []) (t := ⟨[(0, .own 0), (1, iV .i64 a1), (2, iV .i64 a2), (3, iV .i64 a3), (8, bV true), (9, bV true)], [(0, some (.row 1 3 (a0.map (encInt .i64))))], 1⟩) (by kernel_rfl) ?_)
  refine LWp.mono (Q := fun e s => (match (generalizing := false) o3849 with | rr => e = .ret ∧ s.floor = 1 ∧ resOf Try.prog Try.f46 s = some (.tup []) ∧ ([(0, s.obj 0)] : List (Nat × Option MObj)) = [(0, some (.row 1 3 (rr.map (encInt .i64))))])) (LWp.cv (withBody (fun body hbody => ?_))) ?_
  · refine f_slices_pdqsortOrdered_int.l0.partial_correctness (f_slices_pdqsortOrdered_int.fu k) (motive := fun x3755 x3756 x3757 x3758 x3759 x3760 o3849 => LWp Γ body (fun e s => ∃ t, Cv Γ s t ∧ (match (generalizing := false) o3849 with | rr => e = .ret ∧ t.floor = 1 ∧ resOf Try.prog Try.f46 t = some (.tup []) ∧ ([(0, t.obj 0)] : List (Nat × Option MObj)) = [(0, some (.row 1 3 (rr.map (encInt .i64))))])) ⟨[(0, .own 0), (1, iV .i64 x3756), (2, iV .i64 x3757), (3, iV .i64 x3758), (8, bV x3759), (9, bV x3760)], [(0, some (.row 1 3 (x3755.map (encInt .i64))))], 1⟩) ?_ _ _ _ _ _ _ _ e3850
    clear H e3850 o3849; intro self ih x3755 x3756 x3757 x3758 x3759 x3760 o3849 H
    subst hbody
    refine LWp.round ?_
    obtain ⟨o3851, e3852, H⟩ := bind_of H
    refine AWp.mono (Q := fun e s => (match (generalizing := false) o3851 with | .inl rr => e = .ret ∧ s.floor = 1 ∧ resOf Try.prog Try.f46 s = some (.tup []) ∧ ([(0, s.obj 0)] : List (Nat × Option MObj)) = [(0, some (.row 1 3 (rr.map (encInt .i64))))] | .inr (x3843, x3844, x3845, x3846, x3847, x3848) => e = .normal ∧ s = ⟨[(0, .own 0), (1, iV .i64 x3844), (2, iV .i64 x3845), (3, iV .i64 x3846), (8, bV x3847), (9, bV x3848)], [(0, some (.row 1 3 (x3843.map (encInt .i64))))], 1⟩)) (AWp.cv ?_) ?_
    · replace H := e3852; clear e3852
      refine AWp.block ?_
      refine AWp.seq ?_
      refine reg hP hn hm [] [0, 1, 2, 3, 8, 9, 10] [0] ⟨[(0, .own 0), (1, iV .i64 x3756), (2, iV .i64 x3757), (3, iV .i64 x3758), (8, bV x3759), (9, bV x3760), (10, iV .i64 (IntKind.i64.wrap (x3757 - x3756)))], [(0, some (.row 1 3 (x3755.map (encInt .i64))))], 1⟩ [] (by kernel_rfl) trivial ?_
      refine AWp.seq ?_
      refine AWp.seq ?_
      refine reg hP hn hm [] [0, 1, 2, 3, 8, 9, 10, 23] [0] ⟨[(0, .own 0), (1, iV .i64 x3756), (2, iV .i64 x3757), (3, iV .i64 x3758), (8, bV x3759), (9, bV x3760), (10, iV .i64 (IntKind.i64.wrap (x3757 - x3756))), (23, bV (decide ((IntKind.i64.wrap (x3757 - x3756)) ≤ (12 : Int))))], [(0, some (.row 1 3 (x3755.map (encInt .i64))))], 1⟩ [] (by kernel_rfl) trivial ?_
      refine AWp.cond (decide ((IntKind.i64.wrap (x3757 - x3756)) ≤ (12 : Int))) rfl (fun c3761 => ?_) (fun c3761 => ?_)
      · replace H := (ifT c3761).symm.trans H
        refine AWp.seq ?_
        obtain ⟨t3764, e3765, H⟩ := bind_of H
        refine reg hP hn hm [(3, .call [(0, 0)] [(0, 0)] [] [] 1 (.tup []) [(0, some (.row 1 3 (t3764.map (encInt .i64))))])] [] [0] ⟨[], [(0, some (.row 1 3 (t3764.map (encInt .i64))))], 1⟩ [Enters Try.prog 67, Pv.Fn Try.prog 67 [.own 0, iV .i64 x3756, iV .i64 x3757] [(0, some (.row 1 3 (x3755.map (encInt .i64))))] 1 (fun r o => r = .tup [] ∧ o = [(0, some (.row 1 3 (t3764.map (encInt .i64))))])] (by kernel_rfl) ⟨by exact Try.call67, by exact f_slices_insertionSortOrdered_int.ok x3755 x3756 x3757 t3764 e3765, trivial⟩ ?_
        refine AWp.conv (inv := [(0, 0)]) (vk := []) (e0 := []) (t := ⟨[], [(0, some (.row 1 3 (t3764.map (encInt .i64))))], 1⟩) (by kernel_rfl) ?_
        refine AWp.ret ?_
        obtain rfl := Option.some.inj H
        exact Exists.intro _ (And.intro (fun _ _ h => h) (And.intro rfl (And.intro rfl (And.intro (by kernel_rfl) (by kernel_rfl)))))
      · replace H := (ifF c3761).symm.trans H
        refine AWp.skip ?_
        refine AWp.seq ?_
        refine AWp.seq ?_
        refine reg hP hn hm [] [0, 1, 2, 3, 8, 9, 10, 29] [0] ⟨[(0, .own 0), (1, iV .i64 x3756), (2, iV .i64 x3757), (3, iV .i64 x3758), (8, bV x3759), (9, bV x3760), (10, iV .i64 (IntKind.i64.wrap (x3757 - x3756))), (29, bV (x3758 == (0 : Int)))], [(0, some (.row 1 3 (x3755.map (encInt .i64))))], 1⟩ [] (by kernel_rfl) trivial ?_
        refine AWp.cond (x3758 == (0 : Int)) rfl (fun c3766 => ?_) (fun c3766 => ?_)
        · replace H := (ifT c3766).symm.trans H
          refine AWp.seq ?_
          obtain ⟨t3769, e3770, H⟩ := bind_of H
          refine reg hP hn hm [(3, .call [(0, 0)] [(0, 0)] [] [] 1 (.tup []) [(0, some (.row 1 3 (t3769.map (encInt .i64))))])] [] [0] ⟨[], [(0, some (.row 1 3 (t3769.map (encInt .i64))))], 1⟩ [Enters Try.prog 68, Pv.Fn Try.prog 68 [.own 0, iV .i64 x3756, iV .i64 x3757] [(0, some (.row 1 3 (x3755.map (encInt .i64))))] 1 (fun r o => r = .tup [] ∧ o = [(0, some (.row 1 3 (t3769.map (encInt .i64))))])] (by kernel_rfl) ⟨by exact Try.call68, by exact f_slices_heapSortOrdered_int.ok x3755 x3756 x3757 t3769 e3770, trivial⟩ ?_
          refine AWp.conv (inv := [(0, 0)]) (vk := []) (e0 := []) (t := ⟨[], [(0, some (.row 1 3 (t3769.map (encInt .i64))))], 1⟩) (by kernel_rfl) ?_
          refine AWp.ret ?_
          obtain rfl := Option.some.inj H
          exact Exists.intro _ (And.intro (fun _ _ h => h) (And.intro rfl (And.intro rfl (And.intro (by kernel_rfl) (by kernel_rfl)))))
        · replace H := (ifF c3766).symm.trans H
          refine AWp.skip ?_
          refine AWp.seq ?_
          refine AWp.seq ?_
          refine reg hP hn hm [] [0, 1, 2, 3, 8, 9, 10, 35] [0] ⟨[(0, .own 0), (1, iV .i64 x3756), (2, iV .i64 x3757), (3, iV .i64 x3758), (8, bV x3759), (9, bV x3760), (10, iV .i64 (IntKind.i64.wrap (x3757 - x3756))), (35, bV (!x3759))], [(0, some (.row 1 3 (x3755.map (encInt .i64))))], 1⟩ [] (by kernel_rfl) trivial ?_
          obtain ⟨o3853, e3854, H⟩ := bind_of H
          refine AWp.mono (Q := fun e s => (match (generalizing := false) o3853 with | (x3776, x3777) => e = .normal ∧ s = ⟨[(0, .own 0), (1, iV .i64 x3756), (2, iV .i64 x3757), (3, iV .i64 x3777), (8, bV x3759), (9, bV x3760), (10, iV .i64 (IntKind.i64.wrap (x3757 - x3756)))], [(0, some (.row 1 3 (x3776.map (encInt .i64))))], 1⟩)) (AWp.cv ?_) ?_
          · replace H := e3854; clear e3854
            refine AWp.cond (!x3759) rfl (fun c3771 => ?_) (fun c3771 => ?_)
            · replace H := (ifT c3771).symm.trans H
              refine AWp.seq ?_
              obtain ⟨t3774, e3775, H⟩ := bind_of H
              refine reg hP hn hm [(3, .call [(0, 0)] [(0, 0)] [] [] 1 (.tup []) [(0, some (.row 1 3 (t3774.map (encInt .i64))))])] [0, 1, 2, 3, 8, 9, 10] [0] ⟨[(0, .own 0), (1, iV .i64 x3756), (2, iV .i64 x3757), (3, iV .i64 x3758), (8, bV x3759), (9, bV x3760), (10, iV .i64 (IntKind.i64.wrap (x3757 - x3756)))], [(0, some (.row 1 3 (t3774.map (encInt .i64))))], 1⟩ [Enters Try.prog 69, Pv.Fn Try.prog 69 [.own 0, iV .i64 x3756, iV .i64 x3757] [(0, some (.row 1 3 (x3755.map (encInt .i64))))] 1 (fun r o => r = .tup [] ∧ o = [(0, some (.row 1 3 (t3774.map (encInt .i64))))])] (by kernel_rfl) ⟨by exact Try.call69, by exact f_slices_breakPatternsOrdered_int.ok x3755 x3756 x3757 t3774 e3775, trivial⟩ ?_
              refine reg hP hn hm [] [0, 1, 2, 3, 8, 9, 10] [0] ⟨[(0, .own 0), (1, iV .i64 x3756), (2, iV .i64 x3757), (3, iV .i64 (IntKind.i64.wrap (x3758 - (1 : Int)))), (8, bV x3759), (9, bV x3760), (10, iV .i64 (IntKind.i64.wrap (x3757 - x3756)))], [(0, some (.row 1 3 (t3774.map (encInt .i64))))], 1⟩ [] (by kernel_rfl) trivial ?_
              obtain rfl := Option.some.inj H
              exact Exists.intro _ (And.intro (fun _ _ h => h.conv (inv := [(0, 0)]) (vk := []) (e0 := []) (t := ⟨[(0, .own 0), (1, iV .i64 x3756), (2, iV .i64 x3757), (3, iV .i64 (IntKind.i64.wrap (x3758 - (1 : Int)))), (8, bV x3759), (9, bV x3760), (10, iV .i64 (IntKind.i64.wrap (x3757 - x3756)))], [(0, some (.row 1 3 (t3774.map (encInt .i64))))], 1⟩) (by kernel_rfl)) (And.intro rfl rfl))
            · replace H := (ifF c3771).symm.trans H
              refine AWp.skip ?_
              obtain rfl := Option.some.inj H
              exact Exists.intro _ (And.intro (fun _ _ h => h.conv (inv := [(0, 0)]) (vk := []) (e0 := []) (t := ⟨[(0, .own 0), (1, iV .i64 x3756), (2, iV .i64 x3757), (3, iV .i64 x3758), (8, bV x3759), (9, bV x3760), (10, iV .i64 (IntKind.i64.wrap (x3757 - x3756)))], [(0, some (.row 1 3 (x3755.map (encInt .i64))))], 1⟩) (by kernel_rfl)) (And.intro rfl rfl))
          · obtain ⟨x3776, x3777⟩ := o3853
            rintro e s ⟨rfl, rfl⟩
            refine AWp.seq ?_
            obtain ⟨t3780, e3781, H⟩ := bind_of H
            refine reg hP hn hm [(3, .call [(0, 0)] [(0, 0)] [] [] 1 (.tup [iV .i64 t3780.1, iV .i64 t3780.2]) [(0, some (.row 1 3 (x3776.map (encInt .i64))))])] [0, 1, 2, 3, 8, 9, 10, 11, 12] [0] ⟨[(0, .own 0), (1, iV .i64 x3756), (2, iV .i64 x3757), (3, iV .i64 x3777), (8, bV x3759), (9, bV x3760), (10, iV .i64 (IntKind.i64.wrap (x3757 - x3756))), (11, iV .i64 t3780.1), (12, iV .i64 t3780.2)], [(0, some (.row 1 3 (x3776.map (encInt .i64))))], 1⟩ [Enters Try.prog 70, Pv.Fn Try.prog 70 [.own 0, iV .i64 x3756, iV .i64 x3757] [(0, some (.row 1 3 (x3776.map (encInt .i64))))] 1 (fun r o => r = .tup [iV .i64 t3780.1, iV .i64 t3780.2] ∧ o = [(0, some (.row 1 3 (x3776.map (encInt .i64))))])] (by kernel_rfl) ⟨by exact Try.call70, by exact f_slices_choosePivotOrdered_int.ok x3776 x3756 x3757 t3780 e3781, trivial⟩ ?_
            refine AWp.seq ?_
            refine AWp.seq ?_
            refine reg hP hn hm [] [0, 1, 2, 3, 8, 9, 10, 11, 12, 50] [0] ⟨[(0, .own 0), (1, iV .i64 x3756), (2, iV .i64 x3757), (3, iV .i64 x3777), (8, bV x3759), (9, bV x3760), (10, iV .i64 (IntKind.i64.wrap (x3757 - x3756))), (11, iV .i64 t3780.1), (12, iV .i64 t3780.2), (50, bV (t3780.2 == (2 : Int)))], [(0, some (.row 1 3 (x3776.map (encInt .i64))))], 1⟩ [] (by kernel_rfl) trivial ?_
            obtain ⟨o3855, e3856, H⟩ := bind_of H
            refine AWp.mono (Q := fun e s => (match (generalizing := false) o3855 with | (x3787, x3788, x3789) => e = .normal ∧ s = ⟨[(0, .own 0), (1, iV .i64 x3756), (2, iV .i64 x3757), (3, iV .i64 x3777), (8, bV x3759), (9, bV x3760), (10, iV .i64 (IntKind.i64.wrap (x3757 - x3756))), (11, iV .i64 x3788), (12, iV .i64 x3789)], [(0, some (.row 1 3 (x3787.map (encInt .i64))))], 1⟩)) (AWp.cv ?_) ?_
            · replace H := e3856; clear e3856
              refine AWp.cond (t3780.2 == (2 : Int)) rfl (fun c3782 => ?_) (fun c3782 => ?_)
              · replace H := (ifT c3782).symm.trans H
                refine AWp.seq ?_
                obtain ⟨t3785, e3786, H⟩ := bind_of H
                refine reg hP hn hm [(3, .call [(0, 0)] [(0, 0)] [] [] 1 (.tup []) [(0, some (.row 1 3 (t3785.map (encInt .i64))))])] [0, 1, 2, 3, 8, 9, 10, 11] [0] ⟨[(0, .own 0), (1, iV .i64 x3756), (2, iV .i64 x3757), (3, iV .i64 x3777), (8, bV x3759), (9, bV x3760), (10, iV .i64 (IntKind.i64.wrap (x3757 - x3756))), (11, iV .i64 t3780.1)], [(0, some (.row 1 3 (t3785.map (encInt .i64))))], 1⟩ [Enters Try.prog 71, Pv.Fn Try.prog 71 [.own 0, iV .i64 x3756, iV .i64 x3757] [(0, some (.row 1 3 (x3776.map (encInt .i64))))] 1 (fun r o => r = .tup [] ∧ o = [(0, some (.row 1 3 (t3785.map (encInt .i64))))])] (by kernel_rfl) ⟨by exact Try.call71, by exact f_slices_reverseRangeOrdered_int.ok x3776 x3756 x3757 t3785 e3786, trivial⟩ ?_
                refine AWp.seq ?_
                refine reg hP hn hm [] [0, 1, 2, 3, 8, 9, 10, 11] [0] ⟨[(0, .own 0), (1, iV .i64 x3756), (2, iV .i64 x3757), (3, iV .i64 x3777), (8, bV x3759), (9, bV x3760), (10, iV .i64 (IntKind.i64.wrap (x3757 - x3756))), (11, iV .i64 (IntKind.i64.wrap ((IntKind.i64.wrap (x3757 - (1 : Int))) - (IntKind.i64.wrap (t3780.1 - x3756)))))], [(0, some (.row 1 3 (t3785.map (encInt .i64))))], 1⟩ [] (by kernel_rfl) trivial ?_
                refine reg hP hn hm [] [0, 1, 2, 3, 8, 9, 10, 11, 12] [0] ⟨[(0, .own 0), (1, iV .i64 x3756), (2, iV .i64 x3757), (3, iV .i64 x3777), (8, bV x3759), (9, bV x3760), (10, iV .i64 (IntKind.i64.wrap (x3757 - x3756))), (11, iV .i64 (IntKind.i64.wrap ((IntKind.i64.wrap (x3757 - (1 : Int))) - (IntKind.i64.wrap (t3780.1 - x3756))))), (12, iV .i64 1)], [(0, some (.row 1 3 (t3785.map (encInt .i64))))], 1⟩ [] (by kernel_rfl) trivial ?_
                obtain rfl := Option.some.inj H
                exact Exists.intro _ (And.intro (fun _ _ h => h.conv (inv := [(0, 0)]) (vk := []) (e0 := []) (t := ⟨[(0, .own 0), (1, iV .i64 x3756), (2, iV .i64 x3757), (3, iV .i64 x3777), (8, bV x3759), (9, bV x3760), (10, iV .i64 (IntKind.i64.wrap (x3757 - x3756))), (11, iV .i64 (IntKind.i64.wrap ((IntKind.i64.wrap (x3757 - (1 : Int))) - (IntKind.i64.wrap (t3780.1 - x3756))))), (12, iV .i64 1)], [(0, some (.row 1 3 (t3785.map (encInt .i64))))], 1⟩) (by kernel_rfl)) (And.intro rfl rfl))
              · replace H := (ifF c3782).symm.trans H
                refine AWp.skip ?_
                obtain rfl := Option.some.inj H
                exact Exists.intro _ (And.intro (fun _ _ h => h.conv (inv := [(0, 0)]) (vk := []) (e0 := []) (t := ⟨[(0, .own 0), (1, iV .i64 x3756), (2, iV .i64 x3757), (3, iV .i64 x3777), (8, bV x3759), (9, bV x3760), (10, iV .i64 (IntKind.i64.wrap (x3757 - x3756))), (11, iV .i64 t3780.1), (12, iV .i64 t3780.2)], [(0, some (.row 1 3 (x3776.map (encInt .i64))))], 1⟩) (by kernel_rfl)) (And.intro rfl rfl))
            · obtain ⟨x3787, x3788, x3789⟩ := o3855
              rintro e s ⟨rfl, rfl⟩
              refine AWp.seq ?_
              refine AWp.seq ?_
              obtain ⟨o3857, e3858, H⟩ := bind_of H
              refine AWp.mono (Q := fun e s => (match (generalizing := false) o3857 with | x3794 => e = .normal ∧ s = ⟨[(0, .own 0), (1, iV .i64 x3756), (2, iV .i64 x3757), (3, iV .i64 x3777), (8, bV x3759), (9, bV x3760), (10, iV .i64 (IntKind.i64.wrap (x3757 - x3756))), (11, iV .i64 x3788), (68, bV x3794)], [(0, some (.row 1 3 (x3787.map (encInt .i64))))], 1⟩)) (AWp.cv ?_) ?_
              · replace H := e3858; clear e3858
                rcases Bool.eq_false_or_eq_true x3759 with c3792 | c3792
                · replace H := (ifT c3792).symm.trans H
                  rcases Bool.eq_false_or_eq_true x3760 with c3793 | c3793
                  · replace H := (ifT c3793).symm.trans H
                    refine reg hP hn hm [(1, .b true), (4, .b true)] [0, 1, 2, 3, 8, 9, 10, 11, 63, 66, 67, 68] [0] ⟨[(0, .own 0), (1, iV .i64 x3756), (2, iV .i64 x3757), (3, iV .i64 x3777), (8, bV x3759), (9, bV x3760), (10, iV .i64 (IntKind.i64.wrap (x3757 - x3756))), (11, iV .i64 x3788), (63, bV x3760), (66, iV .i64 x3789), (67, bV (x3789 == (1 : Int))), (68, bV (x3789 == (1 : Int)))], [(0, some (.row 1 3 (x3787.map (encInt .i64))))], 1⟩ [x3759 = true, x3760 = true] (by kernel_rfl) ⟨by exact c3792, by exact c3793, trivial⟩ ?_
                    obtain rfl := Option.some.inj H
                    exact Exists.intro _ (And.intro (fun _ _ h => h.conv (inv := [(0, 0)]) (vk := []) (e0 := []) (t := ⟨[(0, .own 0), (1, iV .i64 x3756), (2, iV .i64 x3757), (3, iV .i64 x3777), (8, bV x3759), (9, bV x3760), (10, iV .i64 (IntKind.i64.wrap (x3757 - x3756))), (11, iV .i64 x3788), (68, bV (x3789 == (1 : Int)))], [(0, some (.row 1 3 (x3787.map (encInt .i64))))], 1⟩) (by kernel_rfl)) (And.intro rfl rfl))
                  · replace H := (ifF c3793).symm.trans H
                    refine reg hP hn hm [(1, .b true), (4, .b false)] [0, 1, 2, 3, 8, 9, 10, 11, 63, 68] [0] ⟨[(0, .own 0), (1, iV .i64 x3756), (2, iV .i64 x3757), (3, iV .i64 x3777), (8, bV x3759), (9, bV x3760), (10, iV .i64 (IntKind.i64.wrap (x3757 - x3756))), (11, iV .i64 x3788), (63, bV x3760), (68, bV false)], [(0, some (.row 1 3 (x3787.map (encInt .i64))))], 1⟩ [x3759 = true, x3760 = false] (by kernel_rfl) ⟨by exact c3792, by exact c3793, trivial⟩ ?_
                    obtain rfl := Option.some.inj H
                    exact Exists.intro _ (And.intro (fun _ _ h => h.conv (inv := [(0, 0)]) (vk := []) (e0 := []) (t := ⟨[(0, .own 0), (1, iV .i64 x3756), (2, iV .i64 x3757), (3, iV .i64 x3777), (8, bV x3759), (9, bV x3760), (10, iV .i64 (IntKind.i64.wrap (x3757 - x3756))), (11, iV .i64 x3788), (68, bV false)], [(0, some (.row 1 3 (x3787.map (encInt .i64))))], 1⟩) (by kernel_rfl)) (And.intro rfl rfl))
                · replace H := (ifF c3792).symm.trans H
                  refine reg hP hn hm [(1, .b false)] [0, 1, 2, 3, 8, 9, 10, 11, 68] [0] ⟨[(0, .own 0), (1, iV .i64 x3756), (2, iV .i64 x3757), (3, iV .i64 x3777), (8, bV x3759), (9, bV x3760), (10, iV .i64 (IntKind.i64.wrap (x3757 - x3756))), (11, iV .i64 x3788), (68, bV false)], [(0, some (.row 1 3 (x3787.map (encInt .i64))))], 1⟩ [x3759 = false] (by kernel_rfl) ⟨by exact c3792, trivial⟩ ?_
                  obtain rfl := Option.some.inj H
                  exact Exists.intro _ (And.intro (fun _ _ h => h.conv (inv := [(0, 0)]) (vk := []) (e0 := []) (t := ⟨[(0, .own 0), (1, iV .i64 x3756), (2, iV .i64 x3757), (3, iV .i64 x3777), (8, bV x3759), (9, bV x3760), (10, iV .i64 (IntKind.i64.wrap (x3757 - x3756))), (11, iV .i64 x3788), (68, bV false)], [(0, some (.row 1 3 (x3787.map (encInt .i64))))], 1⟩) (by kernel_rfl)) (And.intro rfl rfl))
              · obtain ⟨x3794, rfl⟩ : ∃ z, z = o3857 := ⟨_, rfl⟩
                rintro e s ⟨rfl, rfl⟩
                obtain ⟨o3859, e3860, H⟩ := bind_of H
                refine AWp.mono (Q := fun e s => (match (generalizing := false) o3859 with | .inl rr => e = .ret ∧ s.floor = 1 ∧ resOf Try.prog Try.f46 s = some (.tup []) ∧ ([(0, s.obj 0)] : List (Nat × Option MObj)) = [(0, some (.row 1 3 (rr.map (encInt .i64))))] | .inr x3801 => e = .normal ∧ s = ⟨[(0, .own 0), (1, iV .i64 x3756), (2, iV .i64 x3757), (3, iV .i64 x3777), (8, bV x3759), (9, bV x3760), (10, iV .i64 (IntKind.i64.wrap (x3757 - x3756))), (11, iV .i64 x3788)], [(0, some (.row 1 3 (x3801.map (encInt .i64))))], 1⟩)) (AWp.cv ?_) ?_
                · replace H := e3860; clear e3860
                  refine AWp.cond x3794 rfl (fun c3795 => ?_) (fun c3795 => ?_)
                  · replace H := (ifT c3795).symm.trans H
                    refine AWp.seq ?_
                    obtain ⟨t3798, e3799, H⟩ := bind_of H
                    refine reg hP hn hm [(3, .call [(0, 0)] [(0, 0)] [] [] 1 (bV t3798.1) [(0, some (.row 1 3 (t3798.2.map (encInt .i64))))])] [0, 1, 2, 3, 8, 9, 10, 11, 72] [0] ⟨[(0, .own 0), (1, iV .i64 x3756), (2, iV .i64 x3757), (3, iV .i64 x3777), (8, bV x3759), (9, bV x3760), (10, iV .i64 (IntKind.i64.wrap (x3757 - x3756))), (11, iV .i64 x3788), (72, bV t3798.1)], [(0, some (.row 1 3 (t3798.2.map (encInt .i64))))], 1⟩ [Enters Try.prog 72, Pv.Fn Try.prog 72 [.own 0, iV .i64 x3756, iV .i64 x3757] [(0, some (.row 1 3 (x3787.map (encInt .i64))))] 1 (fun r o => r = bV t3798.1 ∧ o = [(0, some (.row 1 3 (t3798.2.map (encInt .i64))))])] (by kernel_rfl) ⟨by exact Try.call72, by exact f_slices_partialInsertionSortOrdered_int.ok x3787 x3756 x3757 t3798 e3799, trivial⟩ ?_
                    refine AWp.cond t3798.1 rfl (fun c3800 => ?_) (fun c3800 => ?_)
                    · replace H := (ifT c3800).symm.trans H
                      refine AWp.conv (inv := [(0, 0)]) (vk := []) (e0 := []) (t := ⟨[], [(0, some (.row 1 3 (t3798.2.map (encInt .i64))))], 1⟩) (by kernel_rfl) ?_
                      refine AWp.ret ?_
                      obtain rfl := Option.some.inj H
                      exact Exists.intro _ (And.intro (fun _ _ h => h) (And.intro rfl (And.intro rfl (And.intro (by kernel_rfl) (by kernel_rfl)))))
                    · replace H := (ifF c3800).symm.trans H
                      refine AWp.skip ?_
                      obtain rfl := Option.some.inj H
                      exact Exists.intro _ (And.intro (fun _ _ h => h.conv (inv := [(0, 0)]) (vk := []) (e0 := []) (t := ⟨[(0, .own 0), (1, iV .i64 x3756), (2, iV .i64 x3757), (3, iV .i64 x3777), (8, bV x3759), (9, bV x3760), (10, iV .i64 (IntKind.i64.wrap (x3757 - x3756))), (11, iV .i64 x3788)], [(0, some (.row 1 3 (t3798.2.map (encInt .i64))))], 1⟩) (by kernel_rfl)) (And.intro rfl rfl))
                  · replace H := (ifF c3795).symm.trans H
                    refine AWp.skip ?_
                    obtain rfl := Option.some.inj H
                    exact Exists.intro _ (And.intro (fun _ _ h => h.conv (inv := [(0, 0)]) (vk := []) (e0 := []) (t := ⟨[(0, .own 0), (1, iV .i64 x3756), (2, iV .i64 x3757), (3, iV .i64 x3777), (8, bV x3759), (9, bV x3760), (10, iV .i64 (IntKind.i64.wrap (x3757 - x3756))), (11, iV .i64 x3788)], [(0, some (.row 1 3 (x3787.map (encInt .i64))))], 1⟩) (by kernel_rfl)) (And.intro rfl rfl))
                · rcases o3859 with rr | x3801
                  · skip
                    rintro e s ⟨rfl, hfl, hres⟩
                    obtain rfl := Option.some.inj H
                    exact Exists.intro _ (And.intro (fun _ _ h => h) (And.intro rfl (And.intro hfl hres)))
                  · skip
                    rintro e s ⟨rfl, rfl⟩
                    refine AWp.seq ?_
                    refine AWp.seq ?_
                    obtain ⟨o3861, e3862, H⟩ := bind_of H
                    refine AWp.mono (Q := fun e s => (match (generalizing := false) o3861 with | x3820 => e = .normal ∧ s = ⟨[(0, .own 0), (1, iV .i64 x3756), (2, iV .i64 x3757), (3, iV .i64 x3777), (8, bV x3759), (9, bV x3760), (10, iV .i64 (IntKind.i64.wrap (x3757 - x3756))), (11, iV .i64 x3788), (87, bV x3820)], [(0, some (.row 1 3 (x3801.map (encInt .i64))))], 1⟩)) (AWp.cv ?_) ?_
                    · replace H := e3862; clear e3862
                      rcases Bool.eq_false_or_eq_true (decide (x3756 > (0 : Int))) with c3811 | c3811
                      · replace H := (ifT c3811).symm.trans H
                        obtain ⟨b3812, p3813, q3814, H⟩ := at_of H
                        obtain ⟨b3815, p3816, q3817, H⟩ := at_of H
                        obtain ⟨t3818, e3819, H⟩ := bind_of H
                        refine reg hP hn hm [(2, .b true), (7, .c ((encInt .i64) b3812)), (11, .c ((encInt .i64) b3815)), (12, .call [] [] [] [] 0 (bV t3818) [])] [0, 1, 2, 3, 8, 9, 10, 11, 76, 77, 78, 79, 80, 81, 82, 83, 84, 85, 86, 87] [0] ⟨[(0, .own 0), (1, iV .i64 x3756), (2, iV .i64 x3757), (3, iV .i64 x3777), (8, bV x3759), (9, bV x3760), (10, iV .i64 (IntKind.i64.wrap (x3757 - x3756))), (11, iV .i64 x3788), (76, .own 0), (77, iV .i64 x3756), (78, iV .i64 (IntKind.i64.wrap (x3756 - (1 : Int)))), (79, .ptr 0 (Int.toNat (IntKind.i64.wrap (x3756 - (1 : Int)))) 0), (80, iV .i64 b3812), (81, .own 0), (82, iV .i64 x3788), (83, .ptr 0 (Int.toNat (x3788)) 0), (84, iV .i64 b3815), (85, bV t3818), (86, bV (!t3818)), (87, bV (!t3818))], [(0, some (.row 1 3 (x3801.map (encInt .i64))))], 1⟩ [(decide (x3756 > (0 : Int))) = true, 0 ≤ (IntKind.i64.wrap (x3756 - (1 : Int))), IntKind.i64.wrap (x3756 - (1 : Int)) < (((x3801.map (encInt .i64)).length : Nat) : Int), (x3801.map (encInt .i64))[(Int.toNat (IntKind.i64.wrap (x3756 - (1 : Int))))]? = some ((encInt .i64) b3812), 0 ≤ x3788, x3788 < (((x3801.map (encInt .i64)).length : Nat) : Int), (x3801.map (encInt .i64))[(Int.toNat (x3788))]? = some ((encInt .i64) b3815), Enters Try.prog 73, Pv.Fn Try.prog 73 [iV .i64 b3812, iV .i64 b3815] [] 0 (fun r o => r = bV t3818 ∧ o = [])] (by kernel_rfl) ⟨by exact c3811, by exact p3813, by exact el_lt (encInt .i64) p3813 q3814, by exact el_map (encInt .i64) q3814, by exact p3816, by exact el_lt (encInt .i64) p3816 q3817, by exact el_map (encInt .i64) q3817, by exact Try.call73, by exact f_cmp_Less_int.ok b3812 b3815 t3818 e3819, trivial⟩ ?_
                        obtain rfl := Option.some.inj H
                        exact Exists.intro _ (And.intro (fun _ _ h => h.conv (inv := [(0, 0)]) (vk := []) (e0 := []) (t := ⟨[(0, .own 0), (1, iV .i64 x3756), (2, iV .i64 x3757), (3, iV .i64 x3777), (8, bV x3759), (9, bV x3760), (10, iV .i64 (IntKind.i64.wrap (x3757 - x3756))), (11, iV .i64 x3788), (87, bV (!t3818))], [(0, some (.row 1 3 (x3801.map (encInt .i64))))], 1⟩) (by kernel_rfl)) (And.intro rfl rfl))
                      · replace H := (ifF c3811).symm.trans H
                        refine reg hP hn hm [(2, .b false)] [0, 1, 2, 3, 8, 9, 10, 11, 87] [0] ⟨[(0, .own 0), (1, iV .i64 x3756), (2, iV .i64 x3757), (3, iV .i64 x3777), (8, bV x3759), (9, bV x3760), (10, iV .i64 (IntKind.i64.wrap (x3757 - x3756))), (11, iV .i64 x3788), (87, bV false)], [(0, some (.row 1 3 (x3801.map (encInt .i64))))], 1⟩ [(decide (x3756 > (0 : Int))) = false] (by kernel_rfl) ⟨by exact c3811, trivial⟩ ?_
                        obtain rfl := Option.some.inj H
                        exact Exists.intro _ (And.intro (fun _ _ h => h.conv (inv := [(0, 0)]) (vk := []) (e0 := []) (t := ⟨[(0, .own 0), (1, iV .i64 x3756), (2, iV .i64 x3757), (3, iV .i64 x3777), (8, bV x3759), (9, bV x3760), (10, iV .i64 (IntKind.i64.wrap (x3757 - x3756))), (11, iV .i64 x3788), (87, bV false)], [(0, some (.row 1 3 (x3801.map (encInt .i64))))], 1⟩) (by kernel_rfl)) (And.intro rfl rfl))
                    · obtain ⟨x3820, rfl⟩ : ∃ z, z = o3861 := ⟨_, rfl⟩
                      rintro e s ⟨rfl, rfl⟩
                      refine AWp.cond x3820 rfl (fun c3821 => ?_) (fun c3821 => ?_)
                      · replace H := (ifT c3821).symm.trans H
                        refine AWp.seq ?_
                        obtain ⟨t3824, e3825, H⟩ := bind_of H
                        refine reg hP hn hm [(4, .call [(0, 0)] [(0, 0)] [] [] 1 (iV .i64 t3824.1) [(0, some (.row 1 3 (t3824.2.map (encInt .i64))))])] [0, 2, 3, 8, 9, 13] [0] ⟨[(0, .own 0), (2, iV .i64 x3757), (3, iV .i64 x3777), (8, bV x3759), (9, bV x3760), (13, iV .i64 t3824.1)], [(0, some (.row 1 3 (t3824.2.map (encInt .i64))))], 1⟩ [Enters Try.prog 74, Pv.Fn Try.prog 74 [.own 0, iV .i64 x3756, iV .i64 x3757, iV .i64 x3788] [(0, some (.row 1 3 (x3801.map (encInt .i64))))] 1 (fun r o => r = iV .i64 t3824.1 ∧ o = [(0, some (.row 1 3 (t3824.2.map (encInt .i64))))])] (by kernel_rfl) ⟨by exact Try.call74, by exact f_slices_partitionEqualOrdered_int.ok x3801 x3756 x3757 x3788 t3824 e3825, trivial⟩ ?_
                        refine AWp.seq ?_
                        refine reg hP hn hm [] [0, 1, 2, 3, 8, 9] [0] ⟨[(0, .own 0), (1, iV .i64 t3824.1), (2, iV .i64 x3757), (3, iV .i64 x3777), (8, bV x3759), (9, bV x3760)], [(0, some (.row 1 3 (t3824.2.map (encInt .i64))))], 1⟩ [] (by kernel_rfl) trivial ?_
                        refine AWp.exit ?_
                        obtain rfl := Option.some.inj H
                        exact Exists.intro _ (And.intro (fun _ _ h => h.conv (inv := [(0, 0)]) (vk := []) (e0 := []) (t := ⟨[(0, .own 0), (1, iV .i64 t3824.1), (2, iV .i64 x3757), (3, iV .i64 x3777), (8, bV x3759), (9, bV x3760)], [(0, some (.row 1 3 (t3824.2.map (encInt .i64))))], 1⟩) (by kernel_rfl)) (And.intro rfl rfl))
                      · replace H := (ifF c3821).symm.trans H
                        refine AWp.skip ?_
                        refine AWp.seq ?_
                        obtain ⟨t3828, e3829, H⟩ := bind_of H
                        refine reg hP hn hm [(4, .call [(0, 0)] [(0, 0)] [] [] 1 (.tup [iV .i64 t3828.1, bV t3828.2.1]) [(0, some (.row 1 3 (t3828.2.2.map (encInt .i64))))])] [0, 1, 2, 3, 10, 14, 15] [0] ⟨[(0, .own 0), (1, iV .i64 x3756), (2, iV .i64 x3757), (3, iV .i64 x3777), (10, iV .i64 (IntKind.i64.wrap (x3757 - x3756))), (14, iV .i64 t3828.1), (15, bV t3828.2.1)], [(0, some (.row 1 3 (t3828.2.2.map (encInt .i64))))], 1⟩ [Enters Try.prog 75, Pv.Fn Try.prog 75 [.own 0, iV .i64 x3756, iV .i64 x3757, iV .i64 x3788] [(0, some (.row 1 3 (x3801.map (encInt .i64))))] 1 (fun r o => r = .tup [iV .i64 t3828.1, bV t3828.2.1] ∧ o = [(0, some (.row 1 3 (t3828.2.2.map (encInt .i64))))])] (by kernel_rfl) ⟨by exact Try.call75, by exact f_slices_partitionOrdered_int.ok x3801 x3756 x3757 x3788 t3828 e3829, trivial⟩ ?_
                        refine AWp.seq ?_
                        refine reg hP hn hm [] [0, 1, 2, 3, 9, 10, 14] [0] ⟨[(0, .own 0), (1, iV .i64 x3756), (2, iV .i64 x3757), (3, iV .i64 x3777), (9, bV t3828.2.1), (10, iV .i64 (IntKind.i64.wrap (x3757 - x3756))), (14, iV .i64 t3828.1)], [(0, some (.row 1 3 (t3828.2.2.map (encInt .i64))))], 1⟩ [] (by kernel_rfl) trivial ?_
                        refine AWp.seq ?_
                        refine reg hP hn hm [] [0, 1, 2, 3, 9, 10, 14, 16, 17] [0] ⟨[(0, .own 0), (1, iV .i64 x3756), (2, iV .i64 x3757), (3, iV .i64 x3777), (9, bV t3828.2.1), (10, iV .i64 (IntKind.i64.wrap (x3757 - x3756))), (14, iV .i64 t3828.1), (16, iV .i64 (IntKind.i64.wrap (t3828.1 - x3756))), (17, iV .i64 (IntKind.i64.wrap (x3757 - t3828.1)))], [(0, some (.row 1 3 (t3828.2.2.map (encInt .i64))))], 1⟩ [] (by kernel_rfl) trivial ?_
                        refine AWp.seq ?_
                        refine reg hP hn hm [] [0, 1, 2, 3, 9, 14, 16, 17, 18] [0] ⟨[(0, .own 0), (1, iV .i64 x3756), (2, iV .i64 x3757), (3, iV .i64 x3777), (9, bV t3828.2.1), (14, iV .i64 t3828.1), (16, iV .i64 (IntKind.i64.wrap (t3828.1 - x3756))), (17, iV .i64 (IntKind.i64.wrap (x3757 - t3828.1))), (18, iV .i64 (IntKind.i64.wrap (Int.tdiv (IntKind.i64.wrap (x3757 - x3756)) (8 : Int))))], [(0, some (.row 1 3 (t3828.2.2.map (encInt .i64))))], 1⟩ [(8 : Int) ≠ 0] (by kernel_rfl) ⟨by decide, trivial⟩ ?_
                        refine AWp.seq ?_
                        refine reg hP hn hm [] [0, 1, 2, 3, 9, 14, 16, 17, 18, 113] [0] ⟨[(0, .own 0), (1, iV .i64 x3756), (2, iV .i64 x3757), (3, iV .i64 x3777), (9, bV t3828.2.1), (14, iV .i64 t3828.1), (16, iV .i64 (IntKind.i64.wrap (t3828.1 - x3756))), (17, iV .i64 (IntKind.i64.wrap (x3757 - t3828.1))), (18, iV .i64 (IntKind.i64.wrap (Int.tdiv (IntKind.i64.wrap (x3757 - x3756)) (8 : Int)))), (113, bV (decide ((IntKind.i64.wrap (t3828.1 - x3756)) < (IntKind.i64.wrap (x3757 - t3828.1)))))], [(0, some (.row 1 3 (t3828.2.2.map (encInt .i64))))], 1⟩ [] (by kernel_rfl) trivial ?_
                        obtain ⟨o3863, e3864, H⟩ := bind_of H
                        refine AWp.mono (Q := fun e s => (match (generalizing := false) o3863 with | (x3839, x3840, x3841, x3842) => e = .normal ∧ s = ⟨[(0, .own 0), (1, iV .i64 x3840), (2, iV .i64 x3841), (3, iV .i64 x3777), (8, bV x3842), (9, bV t3828.2.1)], [(0, some (.row 1 3 (x3839.map (encInt .i64))))], 1⟩)) (AWp.cv ?_) ?_
                        · replace H := e3864; clear e3864
                          refine AWp.cond (decide ((IntKind.i64.wrap (t3828.1 - x3756)) < (IntKind.i64.wrap (x3757 - t3828.1)))) rfl (fun c3830 => ?_) (fun c3830 => ?_)
                          · replace H := (ifT c3830).symm.trans H
                            refine AWp.seq ?_
                            refine reg hP hn hm [] [0, 1, 2, 3, 8, 9, 14] [0] ⟨[(0, .own 0), (1, iV .i64 x3756), (2, iV .i64 x3757), (3, iV .i64 x3777), (8, bV (decide ((IntKind.i64.wrap (t3828.1 - x3756)) ≥ (IntKind.i64.wrap (Int.tdiv (IntKind.i64.wrap (x3757 - x3756)) (8 : Int)))))), (9, bV t3828.2.1), (14, iV .i64 t3828.1)], [(0, some (.row 1 3 (t3828.2.2.map (encInt .i64))))], 1⟩ [] (by kernel_rfl) trivial ?_
                            refine AWp.seq ?_
                            obtain ⟨t3833, e3834, H⟩ := bind_of H
                            refine reg hP hn hm [(4, .call [(0, 0)] [(0, 0)] [] [] 1 (.tup []) [(0, some (.row 1 3 (t3833.map (encInt .i64))))])] [0, 2, 3, 8, 9, 14] [0] ⟨[(0, .own 0), (2, iV .i64 x3757), (3, iV .i64 x3777), (8, bV (decide ((IntKind.i64.wrap (t3828.1 - x3756)) ≥ (IntKind.i64.wrap (Int.tdiv (IntKind.i64.wrap (x3757 - x3756)) (8 : Int)))))), (9, bV t3828.2.1), (14, iV .i64 t3828.1)], [(0, some (.row 1 3 (t3833.map (encInt .i64))))], 1⟩ [Enters Try.prog 46, Pv.Fn Try.prog 46 [.own 0, iV .i64 x3756, iV .i64 t3828.1, iV .i64 x3777] [(0, some (.row 1 3 (t3828.2.2.map (encInt .i64))))] 1 (fun r o => r = .tup [] ∧ o = [(0, some (.row 1 3 (t3833.map (encInt .i64))))])] (by kernel_rfl) ⟨by exact Try.call46, by exact ihF t3828.2.2 x3756 t3828.1 x3777 _ e3834, trivial⟩ ?_
                            refine reg hP hn hm [] [0, 1, 2, 3, 8, 9] [0] ⟨[(0, .own 0), (1, iV .i64 (IntKind.i64.wrap (t3828.1 + (1 : Int)))), (2, iV .i64 x3757), (3, iV .i64 x3777), (8, bV (decide ((IntKind.i64.wrap (t3828.1 - x3756)) ≥ (IntKind.i64.wrap (Int.tdiv (IntKind.i64.wrap (x3757 - x3756)) (8 : Int)))))), (9, bV t3828.2.1)], [(0, some (.row 1 3 (t3833.map (encInt .i64))))], 1⟩ [] (by kernel_rfl) trivial ?_
                            obtain rfl := Option.some.inj H
                            exact Exists.intro _ (And.intro (fun _ _ h => h.conv (inv := [(0, 0)]) (vk := []) (e0 := []) (t := ⟨[(0, .own 0), (1, iV .i64 (IntKind.i64.wrap (t3828.1 + (1 : Int)))), (2, iV .i64 x3757), (3, iV .i64 x3777), (8, bV (decide ((IntKind.i64.wrap (t3828.1 - x3756)) ≥ (IntKind.i64.wrap (Int.tdiv (IntKind.i64.wrap (x3757 - x3756)) (8 : Int)))))), (9, bV t3828.2.1)], [(0, some (.row 1 3 (t3833.map (encInt .i64))))], 1⟩) (by kernel_rfl)) (And.intro rfl rfl))
                          · replace H := (ifF c3830).symm.trans H
                            refine AWp.seq ?_
                            refine reg hP hn hm [] [0, 1, 2, 3, 8, 9, 14] [0] ⟨[(0, .own 0), (1, iV .i64 x3756), (2, iV .i64 x3757), (3, iV .i64 x3777), (8, bV (decide ((IntKind.i64.wrap (x3757 - t3828.1)) ≥ (IntKind.i64.wrap (Int.tdiv (IntKind.i64.wrap (x3757 - x3756)) (8 : Int)))))), (9, bV t3828.2.1), (14, iV .i64 t3828.1)], [(0, some (.row 1 3 (t3828.2.2.map (encInt .i64))))], 1⟩ [] (by kernel_rfl) trivial ?_
                            refine AWp.seq ?_
                            obtain ⟨t3837, e3838, H⟩ := bind_of H
                            refine reg hP hn hm [(5, .call [(0, 0)] [(0, 0)] [] [] 1 (.tup []) [(0, some (.row 1 3 (t3837.map (encInt .i64))))])] [0, 1, 3, 8, 9, 14] [0] ⟨[(0, .own 0), (1, iV .i64 x3756), (3, iV .i64 x3777), (8, bV (decide ((IntKind.i64.wrap (x3757 - t3828.1)) ≥ (IntKind.i64.wrap (Int.tdiv (IntKind.i64.wrap (x3757 - x3756)) (8 : Int)))))), (9, bV t3828.2.1), (14, iV .i64 t3828.1)], [(0, some (.row 1 3 (t3837.map (encInt .i64))))], 1⟩ [Enters Try.prog 46, Pv.Fn Try.prog 46 [.own 0, iV .i64 (IntKind.i64.wrap (t3828.1 + (1 : Int))), iV .i64 x3757, iV .i64 x3777] [(0, some (.row 1 3 (t3828.2.2.map (encInt .i64))))] 1 (fun r o => r = .tup [] ∧ o = [(0, some (.row 1 3 (t3837.map (encInt .i64))))])] (by kernel_rfl) ⟨by exact Try.call46, by exact ihF t3828.2.2 (IntKind.i64.wrap (t3828.1 + (1 : Int))) x3757 x3777 _ e3838, trivial⟩ ?_
                            refine reg hP hn hm [] [0, 1, 2, 3, 8, 9] [0] ⟨[(0, .own 0), (1, iV .i64 x3756), (2, iV .i64 t3828.1), (3, iV .i64 x3777), (8, bV (decide ((IntKind.i64.wrap (x3757 - t3828.1)) ≥ (IntKind.i64.wrap (Int.tdiv (IntKind.i64.wrap (x3757 - x3756)) (8 : Int)))))), (9, bV t3828.2.1)], [(0, some (.row 1 3 (t3837.map (encInt .i64))))], 1⟩ [] (by kernel_rfl) trivial ?_
                            obtain rfl := Option.some.inj H
                            exact Exists.intro _ (And.intro (fun _ _ h => h.conv (inv := [(0, 0)]) (vk := []) (e0 := []) (t := ⟨[(0, .own 0), (1, iV .i64 x3756), (2, iV .i64 t3828.1), (3, iV .i64 x3777), (8, bV (decide ((IntKind.i64.wrap (x3757 - t3828.1)) ≥ (IntKind.i64.wrap (Int.tdiv (IntKind.i64.wrap (x3757 - x3756)) (8 : Int)))))), (9, bV t3828.2.1)], [(0, some (.row 1 3 (t3837.map (encInt .i64))))], 1⟩) (by kernel_rfl)) (And.intro rfl rfl))
                        · obtain ⟨x3839, x3840, x3841, x3842⟩ := o3863
                          rintro e s ⟨rfl, rfl⟩
                          obtain rfl := Option.some.inj H
                          exact Exists.intro _ (And.intro (fun _ _ h => h.conv (inv := [(0, 0)]) (vk := []) (e0 := []) (t := ⟨[(0, .own 0), (1, iV .i64 x3840), (2, iV .i64 x3841), (3, iV .i64 x3777), (8, bV x3842), (9, bV t3828.2.1)], [(0, some (.row 1 3 (x3839.map (encInt .i64))))], 1⟩) (by kernel_rfl)) (And.intro rfl rfl))
    · rcases o3851 with rr | ⟨x3843, x3844, x3845, x3846, x3847, x3848⟩
      · skip
        rintro e s ⟨rfl, hfl, hres⟩
        obtain rfl := Option.some.inj H
        exact Exists.intro _ (And.intro (fun _ _ h => h) (And.intro rfl (And.intro hfl hres)))
      · skip
        rintro e s ⟨rfl, rfl⟩
        exact LWp.conv (inv := [(0, 0)]) (vk := []) (e0 := []) (t := ⟨[(0, .own 0), (1, iV .i64 x3844), (2, iV .i64 x3845), (3, iV .i64 x3846), (8, bV x3847), (9, bV x3848)], [(0, some (.row 1 3 (x3843.map (encInt .i64))))], 1⟩) (by kernel_rfl) (ih _ _ _ _ _ _ _ H)
  · obtain ⟨rr, rfl⟩ : ∃ z, z = o3849 := ⟨_, rfl⟩
    rintro e s ⟨rfl, hfl, hres⟩
    obtain rfl := Option.some.inj H
    exact Exists.intro _ (And.intro (fun _ _ h => h) (And.intro (.inl rfl) (And.intro hfl hres)))
theorem f_slices_pdqsortOrdered_int.ok (a0 : List Int) (a1 : Int) (a2 : Int) (a3 : Int) (r : List Int) (H : f_slices_pdqsortOrdered_int.f a0 a1 a2 a3 = some r) : Pv.Fn Try.prog 46 [.own 0, iV .i64 a1, iV .i64 a2, iV .i64 a3] [(0, some (.row 1 3 (a0.map (encInt .i64))))] 1 (fun x o => x = .tup [] ∧ o = [(0, some (.row 1 3 (r.map (encInt .i64))))]) := f_slices_pdqsortOrdered_int.oku 100 a0 a1 a2 a3 r H
def f_slices_Sort_int.f (a0 : List Int) : Option (List Int) := (f_bits_Len.f (IntKind.u64.wrap ((a0.length : Int)))) >>= fun t3867 => (f_slices_pdqsortOrdered_int.f a0 0 (a0.length : Int) t3867) >>= fun t3869 => some t3869
theorem f_slices_Sort_int.ok (a0 : List Int) (r : List Int) (H : f_slices_Sort_int.f a0 = some r) : Pv.Fn Try.prog 34 [.own 0] [(0, some (.row 1 3 (a0.map (encInt .i64))))] 1 (fun x o => x = .tup [] ∧ o = [(0, some (.row 1 3 (r.map (encInt .i64))))]) := by
  unfold f_slices_Sort_int.f at H
  refine Fn.bodyK [0] Try.func34 rfl rfl (fun Γ hP hn => ?_)
  have hm : Try.prog.follows .mixedOrders = true := by kernel_rfl
  replace hn : Γ.n = 11 := hn
  refine AWp.seq ?_
  refine reg hP hn hm [(1, .any (iV .i64 (a0.length : Int)))] [0, 2] [0] ⟨[(0, .own 0), (2, iV .i64 (a0.length : Int))], [(0, some (.row 1 3 (a0.map (encInt .i64))))], 1⟩ [((a0.map (encInt .i64)).length : Int) = (a0.length : Int)] (by kernel_rfl) ⟨by rw [len_map], trivial⟩ ?_
  obtain ⟨t3867, e3868, H⟩ := bind_of H
  obtain ⟨t3869, e3870, H⟩ := bind_of H
  refine reg hP hn hm [(4, .call [] [] [] [] 0 (iV .i64 t3867) []), (5, .call [(0, 0)] [(0, 0)] [] [] 1 (.tup []) [(0, some (.row 1 3 (t3869.map (encInt .i64))))])] [] [0] ⟨[], [(0, some (.row 1 3 (t3869.map (encInt .i64))))], 1⟩ [Enters Try.prog 47, Pv.Fn Try.prog 47 [iV .u64 (IntKind.u64.wrap ((a0.length : Int)))] [] 0 (fun r o => r = iV .i64 t3867 ∧ o = []), Enters Try.prog 46, Pv.Fn Try.prog 46 [.own 0, iV .i64 0, iV .i64 (a0.length : Int), iV .i64 t3867] [(0, some (.row 1 3 (a0.map (encInt .i64))))] 1 (fun r o => r = .tup [] ∧ o = [(0, some (.row 1 3 (t3869.map (encInt .i64))))])] (by kernel_rfl) ⟨by exact Try.call47, by exact f_bits_Len.ok (IntKind.u64.wrap ((a0.length : Int))) t3867 e3868, by exact Try.call46, by exact f_slices_pdqsortOrdered_int.ok a0 0 (a0.length : Int) t3867 t3869 e3870, trivial⟩ ?_
  obtain rfl := Option.some.inj H
  exact Exists.intro ⟨[], [(0, some (.row 1 3 (t3869.map (encInt .i64))))], 1⟩ (And.intro (fun _ _ h => h.conv (inv := [(0, 0)]) (vk := []) (e0 := []) (t := ⟨[], [(0, some (.row 1 3 (t3869.map (encInt .i64))))], 1⟩) (by kernel_rfl)) (And.intro (.inr rfl) (And.intro rfl (And.intro (by kernel_rfl) (by kernel_rfl)))))
end Go.Proofs.Ytfkppdcfgmgllaa.PvGD4
