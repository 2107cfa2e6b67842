import Derived.Test.YtfkppdcfgmgllaaProg
import Derived.Test.YtfkppdcfgmgllaaPxPlanNext07
set_option linter.unusedVariables false
set_option linter.unnecessarySimpa false
set_option linter.unusedSimpArgs false
set_option maxRecDepth 10000
namespace Go.Proofs.Ytfkppdcfgmgllaa.PvGD2
open Go Go.Pv
def f_plan_Within.l0 (a0 : List Tplan_Item) (a1 : Int) (a2 : Int) (x2056 : List Int) (x2057 : Int) : Option (List Int) := if (decide (x2057 < (a0.length : Int))) = true then ((at? a0 x2057) >>= fun b2062 => ((if (decide (b2062.f1.f0 ≥ a2)) = true then ((f_block_Width.f a1) >>= fun t2069 => some (decide (b2062.f1.f1 ≤ (IntKind.i64.wrap (a2 + (IntKind.i64.wrap ((64 : Int) * 2 ^ (min (Int.toNat (IntKind.u64.wrap ((2 : Int) * (IntKind.u64.wrap ((if (if (4 : Int) < a1 then (4 : Int) else a1) > (0 : Int) then (if (4 : Int) < a1 then (4 : Int) else a1) else (0 : Int))))))) 64)))))))) else (some false)) : Option (Bool)) >>= fun x2071 => ((if x2071 = true then ((chk ((x2056.length + [b2062.f0].length) * 8 ≤ 140737488355328)) >>= fun _ => some (x2056 ++ [b2062.f0])) else (some x2056)) : Option (List Int)) >>= fun x2075 => f_plan_Within.l0 a0 a1 a2 x2075 (IntKind.i64.wrap (x2057 + (1 : Int)))) else (some x2056)
partial_fixpoint
def f_plan_Within.f (a0 : List Tplan_Item) (a1 : Int) (a2 : Int) : Option (List Int) := (f_plan_Within.l0 a0 a1 a2 [] 0) >>= fun x2076 => (f_slices_Sort_int.f x2076) >>= fun t3869 => some t3869
theorem f_plan_Within.ok (a0 : List Tplan_Item) (a1 : Int) (a2 : Int) (r : List Int) (H : f_plan_Within.f a0 a1 a2 = some r) : Pv.Fn Try.prog 22 [.im (.row (a0.map eplan_Item)), iV .i64 a1, iV .i64 a2] [] 0 (fun x o => x = .own 0 ∧ o = [(0, some (.row 1 3 (r.map (encInt .i64))))]) := by
  unfold f_plan_Within.f at H
  refine Fn.bodyK [0] Try.func22 rfl rfl (fun Γ hP hn => ?_)
  have hm : Try.prog.follows .mixedOrders = true := by kernel_rfl
  replace hn : Γ.n = 40 := hn
  refine AWp.seq ?_
  refine reg hP hn hm [] [0, 1, 2] [] ⟨[(0, .im (.row (a0.map eplan_Item))), (1, iV .i64 a1), (2, iV .i64 a2)], [], 0⟩ [] (by kernel_rfl) trivial ?_
  refine AWp.seq ?_
  refine reg hP hn hm [] [0, 1, 2, 7] [] ⟨[(0, .im (.row (a0.map eplan_Item))), (1, iV .i64 a1), (2, iV .i64 a2), (7, .none0)], [], 0⟩ [] (by kernel_rfl) trivial ?_
  refine AWp.seq ?_
  refine AWp.seq ?_
  refine reg hP hn hm [(1, .any (iV .i64 (a0.length : Int)))] [1, 2, 7, 10, 11, 12] [] ⟨[(1, iV .i64 a1), (2, iV .i64 a2), (7, .none0), (10, .im (.row (a0.map eplan_Item))), (11, iV .i64 (a0.length : Int)), (12, iV .i64 0)], [], 0⟩ [((a0.map eplan_Item).length : Int) = (a0.length : Int)] (by kernel_rfl) ⟨by rw [len_map], trivial⟩ ?_
  refine AWp.block ?_
  obtain ⟨o3871, e3872, H⟩ := bind_of H
  refine AWp.loop (LWp.conv (inv := []) (vk := []) (e0 := [5]) (t := ⟨[(1, iV .i64 a1), (2, iV .i64 a2), (7, .own 5), (10, .im (.row (a0.map eplan_Item))), (11, iV .i64 (a0.length : Int)), (12, iV .i64 0)], [(5, some (.row 1 3 ([].map (encInt .i64))))], 0⟩) (by kernel_rfl) ?_)
  refine LWp.mono (Q := fun e s => (match (generalizing := false) o3871 with | x2076 => e = .exit 0 ∧ s = ⟨[(7, .own 12)], [(12, some (.row 1 3 (x2076.map (encInt .i64))))], 0⟩)) (LWp.cv (withBody (fun body hbody => ?_))) ?_
  · refine f_plan_Within.l0.partial_correctness a0 a1 a2 (motive := fun x2056 x2057 o3871 => LWp Γ body (fun e s => ∃ t, Cv Γ s t ∧ (match (generalizing := false) o3871 with | x2076 => e = .exit 0 ∧ t = ⟨[(7, .own 12)], [(12, some (.row 1 3 (x2076.map (encInt .i64))))], 0⟩)) ⟨[(1, iV .i64 a1), (2, iV .i64 a2), (7, .own 5), (10, .im (.row (a0.map eplan_Item))), (11, iV .i64 (a0.length : Int)), (12, iV .i64 x2057)], [(5, some (.row 1 3 (x2056.map (encInt .i64))))], 0⟩) ?_ _ _ _ e3872
    clear H e3872 o3871; intro self ih x2056 x2057 o3871 H
    subst hbody
    refine LWp.round ?_
    refine AWp.seq ?_
    refine reg hP hn hm [] [1, 2, 7, 10, 11, 12, 13] [5] ⟨[(1, iV .i64 a1), (2, iV .i64 a2), (7, .own 5), (10, .im (.row (a0.map eplan_Item))), (11, iV .i64 (a0.length : Int)), (12, iV .i64 x2057), (13, bV (decide (x2057 < (a0.length : Int))))], [(5, some (.row 1 3 (x2056.map (encInt .i64))))], 0⟩ [] (by kernel_rfl) trivial ?_
    refine AWp.seq ?_
    refine AWp.cond (decide (x2057 < (a0.length : Int))) rfl (fun c2058 => ?_) (fun c2058 => ?_)
    · replace H := (ifT c2058).symm.trans H
      refine AWp.skip ?_
      refine AWp.seq ?_
      refine AWp.block ?_
      refine AWp.seq ?_
      obtain ⟨b2062, p2063, q2064, H⟩ := at_of H
      refine reg hP hn hm [(0, .c (eplan_Item b2062)), (2, .k 6)] [1, 2, 7, 9, 10, 11, 12] [5, 6] ⟨[(1, iV .i64 a1), (2, iV .i64 a2), (7, .own 5), (9, .ptr 6 0 0), (10, .im (.row (a0.map eplan_Item))), (11, iV .i64 (a0.length : Int)), (12, iV .i64 x2057)], [(5, some (.row 1 3 (x2056.map (encInt .i64)))), (6, some (.box 89 [iV .i64 b2062.f0, iV .i64 b2062.f1.f0, iV .i64 b2062.f1.f1, iV .i64 b2062.f1.f2]))], 0⟩ [0 ≤ x2057, (a0.map eplan_Item)[(Int.toNat (x2057))]? = some (eplan_Item b2062)] (by kernel_rfl) ⟨by exact p2063, by exact el_map eplan_Item q2064, trivial⟩ ?_
      refine AWp.seq ?_
      obtain ⟨o3873, e3874, H⟩ := bind_of H
      refine AWp.mono (Q := fun e s => (match (generalizing := false) o3873 with | x2071 => e = .normal ∧ s = ⟨[(1, iV .i64 a1), (2, iV .i64 a2), (7, .own 7), (9, .ptr 8 0 0), (10, .im (.row (a0.map eplan_Item))), (11, iV .i64 (a0.length : Int)), (12, iV .i64 x2057), (30, bV x2071)], [(7, some (.row 1 3 (x2056.map (encInt .i64)))), (8, some (.box 89 [iV .i64 b2062.f0, iV .i64 b2062.f1.f0, iV .i64 b2062.f1.f1, iV .i64 b2062.f1.f2]))], 0⟩)) (AWp.cv ?_) ?_
      · replace H := e3874; clear e3874
        rcases Bool.eq_false_or_eq_true (decide (b2062.f1.f0 ≥ a2)) with c2068 | c2068
        · replace H := (ifT c2068).symm.trans H
          obtain ⟨t2069, e2070, H⟩ := bind_of H
          refine reg hP hn hm [(5, .b true), (11, .call [] [] [] [] 0 (iV .i64 (IntKind.i64.wrap ((64 : Int) * 2 ^ (min (Int.toNat (IntKind.u64.wrap ((2 : Int) * (IntKind.u64.wrap ((if (if (4 : Int) < a1 then (4 : Int) else a1) > (0 : Int) then (if (4 : Int) < a1 then (4 : Int) else a1) else (0 : Int))))))) 64)))) [])] [1, 2, 7, 9, 10, 11, 12, 22, 23, 24, 25, 26, 27, 28, 29, 30] [5, 6] ⟨[(1, iV .i64 a1), (2, iV .i64 a2), (7, .own 5), (9, .ptr 6 0 0), (10, .im (.row (a0.map eplan_Item))), (11, iV .i64 (a0.length : Int)), (12, iV .i64 x2057), (22, .ptr 6 0 1), (23, .ptr 6 0 2), (24, iV .i64 b2062.f1.f1), (25, iV .i64 a2), (26, iV .i64 a1), (27, iV .i64 (IntKind.i64.wrap ((64 : Int) * 2 ^ (min (Int.toNat (IntKind.u64.wrap ((2 : Int) * (IntKind.u64.wrap ((if (if (4 : Int) < a1 then (4 : Int) else a1) > (0 : Int) then (if (4 : Int) < a1 then (4 : Int) else a1) else (0 : Int))))))) 64)))), (28, iV .i64 (IntKind.i64.wrap (a2 + (IntKind.i64.wrap ((64 : Int) * 2 ^ (min (Int.toNat (IntKind.u64.wrap ((2 : Int) * (IntKind.u64.wrap ((if (if (4 : Int) < a1 then (4 : Int) else a1) > (0 : Int) then (if (4 : Int) < a1 then (4 : Int) else a1) else (0 : Int))))))) 64)))))), (29, bV (decide (b2062.f1.f1 ≤ (IntKind.i64.wrap (a2 + (IntKind.i64.wrap ((64 : Int) * 2 ^ (min (Int.toNat (IntKind.u64.wrap ((2 : Int) * (IntKind.u64.wrap ((if (if (4 : Int) < a1 then (4 : Int) else a1) > (0 : Int) then (if (4 : Int) < a1 then (4 : Int) else a1) else (0 : Int))))))) 64)))))))), (30, bV (decide (b2062.f1.f1 ≤ (IntKind.i64.wrap (a2 + (IntKind.i64.wrap ((64 : Int) * 2 ^ (min (Int.toNat (IntKind.u64.wrap ((2 : Int) * (IntKind.u64.wrap ((if (if (4 : Int) < a1 then (4 : Int) else a1) > (0 : Int) then (if (4 : Int) < a1 then (4 : Int) else a1) else (0 : Int))))))) 64))))))))], [(5, some (.row 1 3 (x2056.map (encInt .i64)))), (6, some (.box 89 [iV .i64 b2062.f0, iV .i64 b2062.f1.f0, iV .i64 b2062.f1.f1, iV .i64 b2062.f1.f2]))], 0⟩ [(decide (b2062.f1.f0 ≥ a2)) = true, Enters Try.prog 37, Pv.Fn Try.prog 37 [iV .i64 a1] [] 0 (fun r o => r = iV .i64 (IntKind.i64.wrap ((64 : Int) * 2 ^ (min (Int.toNat (IntKind.u64.wrap ((2 : Int) * (IntKind.u64.wrap ((if (if (4 : Int) < a1 then (4 : Int) else a1) > (0 : Int) then (if (4 : Int) < a1 then (4 : Int) else a1) else (0 : Int))))))) 64))) ∧ o = [])] (by kernel_rfl) ⟨by exact c2068, by exact Try.call37, by exact f_block_Width.ok a1 t2069 e2070, trivial⟩ ?_
          obtain rfl := Option.some.inj H
          exact Exists.intro _ (And.intro (fun _ _ h => h.conv (inv := [(5, 7), (6, 8)]) (vk := []) (e0 := []) (t := ⟨[(1, iV .i64 a1), (2, iV .i64 a2), (7, .own 7), (9, .ptr 8 0 0), (10, .im (.row (a0.map eplan_Item))), (11, iV .i64 (a0.length : Int)), (12, iV .i64 x2057), (30, bV (decide (b2062.f1.f1 ≤ (IntKind.i64.wrap (a2 + (IntKind.i64.wrap ((64 : Int) * 2 ^ (min (Int.toNat (IntKind.u64.wrap ((2 : Int) * (IntKind.u64.wrap ((if (if (4 : Int) < a1 then (4 : Int) else a1) > (0 : Int) then (if (4 : Int) < a1 then (4 : Int) else a1) else (0 : Int))))))) 64))))))))], [(7, some (.row 1 3 (x2056.map (encInt .i64)))), (8, some (.box 89 [iV .i64 b2062.f0, iV .i64 b2062.f1.f0, iV .i64 b2062.f1.f1, iV .i64 b2062.f1.f2]))], 0⟩) (by kernel_rfl)) (And.intro rfl rfl))
        · replace H := (ifF c2068).symm.trans H
          refine reg hP hn hm [(5, .b false)] [1, 2, 7, 9, 10, 11, 12, 30] [5, 6] ⟨[(1, iV .i64 a1), (2, iV .i64 a2), (7, .own 5), (9, .ptr 6 0 0), (10, .im (.row (a0.map eplan_Item))), (11, iV .i64 (a0.length : Int)), (12, iV .i64 x2057), (30, bV false)], [(5, some (.row 1 3 (x2056.map (encInt .i64)))), (6, some (.box 89 [iV .i64 b2062.f0, iV .i64 b2062.f1.f0, iV .i64 b2062.f1.f1, iV .i64 b2062.f1.f2]))], 0⟩ [(decide (b2062.f1.f0 ≥ a2)) = false] (by kernel_rfl) ⟨by exact c2068, trivial⟩ ?_
          obtain rfl := Option.some.inj H
          exact Exists.intro _ (And.intro (fun _ _ h => h.conv (inv := [(5, 7), (6, 8)]) (vk := []) (e0 := []) (t := ⟨[(1, iV .i64 a1), (2, iV .i64 a2), (7, .own 7), (9, .ptr 8 0 0), (10, .im (.row (a0.map eplan_Item))), (11, iV .i64 (a0.length : Int)), (12, iV .i64 x2057), (30, bV false)], [(7, some (.row 1 3 (x2056.map (encInt .i64)))), (8, some (.box 89 [iV .i64 b2062.f0, iV .i64 b2062.f1.f0, iV .i64 b2062.f1.f1, iV .i64 b2062.f1.f2]))], 0⟩) (by kernel_rfl)) (And.intro rfl rfl))
      · obtain ⟨x2071, rfl⟩ : ∃ z, z = o3873 := ⟨_, rfl⟩
        rintro e s ⟨rfl, rfl⟩
        obtain ⟨o3875, e3876, H⟩ := bind_of H
        refine AWp.mono (Q := fun e s => (match (generalizing := false) o3875 with | x2075 => e = .normal ∧ s = ⟨[(1, iV .i64 a1), (2, iV .i64 a2), (7, .own 11), (10, .im (.row (a0.map eplan_Item))), (11, iV .i64 (a0.length : Int)), (12, iV .i64 x2057)], [(11, some (.row 1 3 (x2075.map (encInt .i64))))], 0⟩)) (AWp.cv ?_) ?_
        · replace H := e3876; clear e3876
          refine AWp.cond x2071 rfl (fun c2072 => ?_) (fun c2072 => ?_)
          · replace H := (ifT c2072).symm.trans H
            obtain ⟨c2074, H⟩ := chk_of H
            refine reg hP hn hm [(3, .app 9 ([b2062.f0].map (encInt .i64))), (4, .app 10 ((x2056 ++ [b2062.f0]).map (encInt .i64)))] [1, 2, 7, 10, 11, 12] [10] ⟨[(1, iV .i64 a1), (2, iV .i64 a2), (7, .own 10), (10, .im (.row (a0.map eplan_Item))), (11, iV .i64 (a0.length : Int)), (12, iV .i64 x2057)], [(10, some (.row 1 3 ((x2056 ++ [b2062.f0]).map (encInt .i64))))], 0⟩ [[b2062.f0].map (encInt .i64) = [[iI .i64 b2062.f0]], (x2056 ++ [b2062.f0]).map (encInt .i64) = (x2056.map (encInt .i64)) ++ ([b2062.f0].map (encInt .i64)), ∀ c ∈ ([b2062.f0].map (encInt .i64)), c.length = 1, ∀ c ∈ ([b2062.f0].map (encInt .i64)), leaves (c.map .im) = true, ((x2056.map (encInt .i64)).length + ([b2062.f0].map (encInt .i64)).length) * 8 ≤ 140737488355328] (by kernel_rfl) ⟨by exact rfl, by simp, by exact all_len _ _ _ (fun _ => rfl), by exact all_leaf _ _ (fun _ => rfl), by simpa using c2074, trivial⟩ ?_
            obtain rfl := Option.some.inj H
            exact Exists.intro _ (And.intro (fun _ _ h => h.conv (inv := [(10, 11)]) (vk := []) (e0 := []) (t := ⟨[(1, iV .i64 a1), (2, iV .i64 a2), (7, .own 11), (10, .im (.row (a0.map eplan_Item))), (11, iV .i64 (a0.length : Int)), (12, iV .i64 x2057)], [(11, some (.row 1 3 ((x2056 ++ [b2062.f0]).map (encInt .i64))))], 0⟩) (by kernel_rfl)) (And.intro rfl rfl))
          · replace H := (ifF c2072).symm.trans H
            refine AWp.skip ?_
            obtain rfl := Option.some.inj H
            exact Exists.intro _ (And.intro (fun _ _ h => h.conv (inv := [(7, 11)]) (vk := []) (e0 := []) (t := ⟨[(1, iV .i64 a1), (2, iV .i64 a2), (7, .own 11), (10, .im (.row (a0.map eplan_Item))), (11, iV .i64 (a0.length : Int)), (12, iV .i64 x2057)], [(11, some (.row 1 3 (x2056.map (encInt .i64))))], 0⟩) (by kernel_rfl)) (And.intro rfl rfl))
        · obtain ⟨x2075, rfl⟩ : ∃ z, z = o3875 := ⟨_, rfl⟩
          rintro e s ⟨rfl, rfl⟩
          refine reg hP hn hm [] [1, 2, 7, 10, 11, 12] [11] ⟨[(1, iV .i64 a1), (2, iV .i64 a2), (7, .own 11), (10, .im (.row (a0.map eplan_Item))), (11, iV .i64 (a0.length : Int)), (12, iV .i64 (IntKind.i64.wrap (x2057 + (1 : Int))))], [(11, some (.row 1 3 (x2075.map (encInt .i64))))], 0⟩ [] (by kernel_rfl) trivial ?_
          exact LWp.conv (inv := [(11, 5)]) (vk := []) (e0 := []) (t := ⟨[(1, iV .i64 a1), (2, iV .i64 a2), (7, .own 5), (10, .im (.row (a0.map eplan_Item))), (11, iV .i64 (a0.length : Int)), (12, iV .i64 (IntKind.i64.wrap (x2057 + (1 : Int))))], [(5, some (.row 1 3 (x2075.map (encInt .i64))))], 0⟩) (by kernel_rfl) (ih _ _ _ H)
    · replace H := (ifF c2058).symm.trans H
      refine AWp.exit ?_
      obtain rfl := Option.some.inj H
      exact Exists.intro _ (And.intro (fun _ _ h => h.conv (inv := [(5, 12)]) (vk := []) (e0 := []) (t := ⟨[(7, .own 12)], [(12, some (.row 1 3 (x2056.map (encInt .i64))))], 0⟩) (by kernel_rfl)) (And.intro rfl rfl))
  · obtain ⟨x2076, rfl⟩ : ∃ z, z = o3871 := ⟨_, rfl⟩
    rintro e s ⟨rfl, rfl⟩
    refine AWp.seq ?_
    obtain ⟨t3869, e3870, H⟩ := bind_of H
    refine reg hP hn hm [(1, .call [(12, 0)] [(0, 12)] [] [] 1 (.tup []) [(0, some (.row 1 3 (t3869.map (encInt .i64))))])] [7] [12] ⟨[(7, .own 12)], [(12, some (.row 1 3 (t3869.map (encInt .i64))))], 0⟩ [Enters Try.prog 34, Pv.Fn Try.prog 34 [.own 0] [(0, some (.row 1 3 (x2076.map (encInt .i64))))] 1 (fun r o => r = .tup [] ∧ o = [(0, some (.row 1 3 (t3869.map (encInt .i64))))])] (by kernel_rfl) ⟨by exact Try.call34, by exact f_slices_Sort_int.ok x2076 t3869 e3870, trivial⟩ ?_
    refine AWp.seq ?_
    refine reg hP hn hm [] [6] [12] ⟨[(6, .own 12)], [(12, some (.row 1 3 (t3869.map (encInt .i64))))], 0⟩ [] (by kernel_rfl) trivial ?_
    refine AWp.conv (inv := [(12, 0)]) (vk := []) (e0 := []) (t := ⟨[(6, .own 0)], [(0, some (.row 1 3 (t3869.map (encInt .i64))))], 0⟩) (by kernel_rfl) ?_
    refine AWp.ret ?_
    obtain rfl := Option.some.inj H
    exact Exists.intro _ (And.intro (fun _ _ h => h) (And.intro (.inl rfl) (And.intro rfl (And.intro (by kernel_rfl) (by kernel_rfl)))))
def f_plan_Next.l1 (t2017 : List Tplan_Item) (x4029 : Int) (x4050 : Int) : Option ((Tplan_Step × Bool) ⊕ Unit) := if (decide (x4050 < (t2017.length : Int))) = true then ((at? t2017 x4050) >>= fun b4055 => (f_block_Low.f x4029 (if (0 : Int) > b4055.f1.f0 then (0 : Int) else b4055.f1.f0)) >>= fun t4060 => (f_plan_Within.f t2017 x4029 (IntKind.i64.wrap ((if (0 : Int) > b4055.f1.f0 then (0 : Int) else b4055.f1.f0) - (Int.tmod (if (0 : Int) > b4055.f1.f0 then (0 : Int) else b4055.f1.f0) (IntKind.i64.wrap ((64 : Int) * 2 ^ (min (Int.toNat (IntKind.u64.wrap ((2 : Int) * (IntKind.u64.wrap ((if (if (4 : Int) < x4029 then (4 : Int) else x4029) > (0 : Int) then (if (4 : Int) < x4029 then (4 : Int) else x4029) else (0 : Int))))))) 64))))))) >>= fun t4064 => ((if (decide (b4055.f1.f2 ≤ x4029)) = true then (some (decide ((t4064.length : Int) > (1 : Int)))) else (some false)) : Option (Bool)) >>= fun x4068 => if x4068 = true then (some (.inl ((⟨t4064, x4029⟩ : Tplan_Step), true))) else (f_plan_Next.l1 t2017 x4029 (IntKind.i64.wrap (x4050 + (1 : Int))))) else (some (.inr ()))
partial_fixpoint
def f_plan_Next.l0 (t2017 : List Tplan_Item) (x4029 : Int) : Option ((Tplan_Step × Bool) ⊕ Unit) := if (decide (x4029 ≤ (4 : Int))) = true then ((f_plan_Next.l1 t2017 x4029 0) >>= fun oo => match oo with | .inl rr => (some (.inl rr)) | .inr _ => (f_plan_Next.l0 t2017 (IntKind.i64.wrap (x4029 + (1 : Int))))) else (some (.inr ()))
partial_fixpoint
def f_plan_Next.f (a0 : List Tplan_Item) : Option (Tplan_Step × Bool) := (f_plan_sorted.f a0) >>= fun t2017 => (f_plan_Next.l0 t2017 0) >>= fun oo => match oo with | .inl rr => (some rr) | .inr _ => (some ((⟨[], 0⟩ : Tplan_Step), false))
theorem f_plan_Next.ok (a0 : List Tplan_Item) (r : Tplan_Step × Bool) (H : f_plan_Next.f a0 = some r) : Pv.Fn Try.prog 16 [.im (.row (a0.map eplan_Item))] [] 0 (fun x o => x = .tup [.agg [.own 0, iV .i64 ((r.1).f1)], bV r.2] ∧ o = [(0, some (.row 1 3 (((r.1).f0).map (encInt .i64))))]) := by
  unfold f_plan_Next.f at H
  refine Fn.bodyK [0] Try.func16 rfl rfl (fun Γ hP hn => ?_)
  have hm : Try.prog.follows .mixedOrders = true := by kernel_rfl
  replace hn : Γ.n = 46 := hn
  refine AWp.seq ?_
  refine reg hP hn hm [(0, .k 0)] [0, 2] [0] ⟨[(0, .im (.row (a0.map eplan_Item))), (2, .ptr 0 0 0)], [(0, some (.box 33 [.none0, iV .i64 0]))], 0⟩ [] (by kernel_rfl) trivial ?_
  refine AWp.seq ?_
  obtain ⟨t2017, e2018, H⟩ := bind_of H
  refine reg hP hn hm [(1, .call [] [(0, 1)] [] [1] 0 (.own 0) [(0, some (.row 4 89 (t2017.map eplan_Item)))])] [0, 2] [0, 1] ⟨[(0, .own 1), (2, .ptr 0 0 0)], [(0, some (.box 33 [.none0, iV .i64 0])), (1, some (.row 4 89 (t2017.map eplan_Item)))], 0⟩ [Enters Try.prog 35, Pv.Fn Try.prog 35 [.im (.row (a0.map eplan_Item))] [] 0 (fun r o => r = .own 0 ∧ o = [(0, some (.row 4 89 (t2017.map eplan_Item)))])] (by kernel_rfl) ⟨by exact Try.call35, by exact f_plan_sorted.ok a0 t2017 e2018, trivial⟩ ?_
  refine AWp.seq ?_
  refine AWp.seq ?_
  refine reg hP hn hm [] [0, 2, 4] [0, 1] ⟨[(0, .own 1), (2, .ptr 0 0 0), (4, iV .i64 0)], [(0, some (.box 33 [.none0, iV .i64 0])), (1, some (.row 4 89 (t2017.map eplan_Item)))], 0⟩ [] (by kernel_rfl) trivial ?_
  refine AWp.block ?_
  obtain ⟨o4070, e4071, H⟩ := bind_of H
  refine AWp.loop (LWp.conv (inv := [(0, 42)]) (vk := [1]) (e0 := []) (t := ⟨[(0, .im (.row (t2017.map eplan_Item))), (2, .ptr 42 0 0), (4, iV .i64 0)], [(42, some (.box 33 [.none0, iV .i64 0]))], 0⟩) (by kernel_rfl) ?_)
  refine LWp.mono (Q := fun e s => (match (generalizing := false) o4070 with | .inl rr => e = .ret ∧ s.floor = 0 ∧ resOf Try.prog Try.f16 s = some (.tup [.agg [.own 0, iV .i64 ((rr.1).f1)], bV rr.2]) ∧ ([(0, s.obj 0)] : List (Nat × Option MObj)) = [(0, some (.row 1 3 (((rr.1).f0).map (encInt .i64))))] | .inr _ => e = .exit 0 ∧ s = ⟨[(2, .ptr 53 0 0)], [(53, some (.box 33 [.none0, iV .i64 0]))], 0⟩)) (LWp.cv (withBody (fun body hbody => ?_))) ?_
  · refine f_plan_Next.l0.partial_correctness t2017 (motive := fun x4029 o4070 => LWp Γ body (fun e s => ∃ t, Cv Γ s t ∧ (match (generalizing := false) o4070 with | .inl rr => e = .ret ∧ t.floor = 0 ∧ resOf Try.prog Try.f16 t = some (.tup [.agg [.own 0, iV .i64 ((rr.1).f1)], bV rr.2]) ∧ ([(0, t.obj 0)] : List (Nat × Option MObj)) = [(0, some (.row 1 3 (((rr.1).f0).map (encInt .i64))))] | .inr _ => e = .exit 0 ∧ t = ⟨[(2, .ptr 53 0 0)], [(53, some (.box 33 [.none0, iV .i64 0]))], 0⟩)) ⟨[(0, .im (.row (t2017.map eplan_Item))), (2, .ptr 42 0 0), (4, iV .i64 x4029)], [(42, some (.box 33 [.none0, iV .i64 0]))], 0⟩) ?_ _ _ e4071
    clear H e4071 o4070; intro self ih x4029 o4070 H
    subst hbody
    refine LWp.round ?_
    refine AWp.seq ?_
    refine AWp.seq ?_
    refine reg hP hn hm [] [0, 2, 4, 12] [42] ⟨[(0, .im (.row (t2017.map eplan_Item))), (2, .ptr 42 0 0), (4, iV .i64 x4029), (12, bV (decide (x4029 ≤ (4 : Int))))], [(42, some (.box 33 [.none0, iV .i64 0]))], 0⟩ [] (by kernel_rfl) trivial ?_
    refine AWp.cond (decide (x4029 ≤ (4 : Int))) rfl (fun c4030 => ?_) (fun c4030 => ?_)
    · replace H := (ifT c4030).symm.trans H
      refine AWp.skip ?_
      refine AWp.seq ?_
      refine AWp.block ?_
      refine AWp.seq ?_
      refine reg hP hn hm [(1, .any (iV .i64 (t2017.length : Int)))] [0, 2, 4, 15, 16, 17] [42] ⟨[(0, .im (.row (t2017.map eplan_Item))), (2, .ptr 42 0 0), (4, iV .i64 x4029), (15, .im (.row (t2017.map eplan_Item))), (16, iV .i64 (t2017.length : Int)), (17, iV .i64 0)], [(42, some (.box 33 [.none0, iV .i64 0]))], 0⟩ [((t2017.map eplan_Item).length : Int) = (t2017.length : Int)] (by kernel_rfl) ⟨by rw [len_map], trivial⟩ ?_
      refine AWp.block ?_
      obtain ⟨o4072, e4073, H⟩ := bind_of H
      refine AWp.loop (LWp.conv (inv := [(42, 47)]) (vk := []) (e0 := []) (t := ⟨[(0, .im (.row (t2017.map eplan_Item))), (2, .ptr 47 0 0), (4, iV .i64 x4029), (15, .im (.row (t2017.map eplan_Item))), (16, iV .i64 (t2017.length : Int)), (17, iV .i64 0)], [(47, some (.box 33 [.none0, iV .i64 0]))], 0⟩) (by kernel_rfl) ?_)
      refine LWp.mono (Q := fun e s => (match (generalizing := false) o4072 with | .inl rr => e = .ret ∧ s.floor = 0 ∧ resOf Try.prog Try.f16 s = some (.tup [.agg [.own 0, iV .i64 ((rr.1).f1)], bV rr.2]) ∧ ([(0, s.obj 0)] : List (Nat × Option MObj)) = [(0, some (.row 1 3 (((rr.1).f0).map (encInt .i64))))] | .inr _ => e = .exit 2 ∧ s = ⟨[(0, .im (.row (t2017.map eplan_Item))), (2, .ptr 52 0 0), (4, iV .i64 x4029)], [(52, some (.box 33 [.none0, iV .i64 0]))], 0⟩)) (LWp.cv (withBody (fun body hbody => ?_))) ?_
      · refine f_plan_Next.l1.partial_correctness t2017 x4029 (motive := fun x4050 o4072 => LWp Γ body (fun e s => ∃ t, Cv Γ s t ∧ (match (generalizing := false) o4072 with | .inl rr => e = .ret ∧ t.floor = 0 ∧ resOf Try.prog Try.f16 t = some (.tup [.agg [.own 0, iV .i64 ((rr.1).f1)], bV rr.2]) ∧ ([(0, t.obj 0)] : List (Nat × Option MObj)) = [(0, some (.row 1 3 (((rr.1).f0).map (encInt .i64))))] | .inr _ => e = .exit 2 ∧ t = ⟨[(0, .im (.row (t2017.map eplan_Item))), (2, .ptr 52 0 0), (4, iV .i64 x4029)], [(52, some (.box 33 [.none0, iV .i64 0]))], 0⟩)) ⟨[(0, .im (.row (t2017.map eplan_Item))), (2, .ptr 47 0 0), (4, iV .i64 x4029), (15, .im (.row (t2017.map eplan_Item))), (16, iV .i64 (t2017.length : Int)), (17, iV .i64 x4050)], [(47, some (.box 33 [.none0, iV .i64 0]))], 0⟩) ?_ _ _ e4073
        clear H e4073 o4072; intro self ih x4050 o4072 H
        subst hbody
        refine LWp.round ?_
        refine AWp.seq ?_
        refine reg hP hn hm [] [0, 2, 4, 15, 16, 17, 18] [47] ⟨[(0, .im (.row (t2017.map eplan_Item))), (2, .ptr 47 0 0), (4, iV .i64 x4029), (15, .im (.row (t2017.map eplan_Item))), (16, iV .i64 (t2017.length : Int)), (17, iV .i64 x4050), (18, bV (decide (x4050 < (t2017.length : Int))))], [(47, some (.box 33 [.none0, iV .i64 0]))], 0⟩ [] (by kernel_rfl) trivial ?_
        refine AWp.seq ?_
        refine AWp.cond (decide (x4050 < (t2017.length : Int))) rfl (fun c4051 => ?_) (fun c4051 => ?_)
        · replace H := (ifT c4051).symm.trans H
          refine AWp.skip ?_
          refine AWp.seq ?_
          refine AWp.block ?_
          refine AWp.seq ?_
          obtain ⟨b4055, p4056, q4057, H⟩ := at_of H
          refine reg hP hn hm [(0, .c (eplan_Item b4055)), (2, .k 48)] [0, 2, 4, 6, 15, 16, 17] [47, 48] ⟨[(0, .im (.row (t2017.map eplan_Item))), (2, .ptr 47 0 0), (4, iV .i64 x4029), (6, .ptr 48 0 0), (15, .im (.row (t2017.map eplan_Item))), (16, iV .i64 (t2017.length : Int)), (17, iV .i64 x4050)], [(47, some (.box 33 [.none0, iV .i64 0])), (48, some (.box 89 [iV .i64 b4055.f0, iV .i64 b4055.f1.f0, iV .i64 b4055.f1.f1, iV .i64 b4055.f1.f2]))], 0⟩ [0 ≤ x4050, (t2017.map eplan_Item)[(Int.toNat (x4050))]? = some (eplan_Item b4055)] (by kernel_rfl) ⟨by exact p4056, by exact el_map eplan_Item q4057, trivial⟩ ?_
          refine AWp.seq ?_
          obtain ⟨t4060, e4061, H⟩ := bind_of H
          refine reg hP hn hm [(4, .more xMax), (5, .call [] [] [] [] 0 (iV .i64 (IntKind.i64.wrap ((if (0 : Int) > b4055.f1.f0 then (0 : Int) else b4055.f1.f0) - (Int.tmod (if (0 : Int) > b4055.f1.f0 then (0 : Int) else b4055.f1.f0) (IntKind.i64.wrap ((64 : Int) * 2 ^ (min (Int.toNat (IntKind.u64.wrap ((2 : Int) * (IntKind.u64.wrap ((if (if (4 : Int) < x4029 then (4 : Int) else x4029) > (0 : Int) then (if (4 : Int) < x4029 then (4 : Int) else x4029) else (0 : Int))))))) 64))))))) [])] [0, 2, 4, 6, 7, 15, 16, 17] [47, 48] ⟨[(0, .im (.row (t2017.map eplan_Item))), (2, .ptr 47 0 0), (4, iV .i64 x4029), (6, .ptr 48 0 0), (7, iV .i64 (IntKind.i64.wrap ((if (0 : Int) > b4055.f1.f0 then (0 : Int) else b4055.f1.f0) - (Int.tmod (if (0 : Int) > b4055.f1.f0 then (0 : Int) else b4055.f1.f0) (IntKind.i64.wrap ((64 : Int) * 2 ^ (min (Int.toNat (IntKind.u64.wrap ((2 : Int) * (IntKind.u64.wrap ((if (if (4 : Int) < x4029 then (4 : Int) else x4029) > (0 : Int) then (if (4 : Int) < x4029 then (4 : Int) else x4029) else (0 : Int))))))) 64))))))), (15, .im (.row (t2017.map eplan_Item))), (16, iV .i64 (t2017.length : Int)), (17, iV .i64 x4050)], [(47, some (.box 33 [.none0, iV .i64 0])), (48, some (.box 89 [iV .i64 b4055.f0, iV .i64 b4055.f1.f0, iV .i64 b4055.f1.f1, iV .i64 b4055.f1.f2]))], 0⟩ [Enters Try.prog 36, Pv.Fn Try.prog 36 [iV .i64 x4029, iV .i64 (if (0 : Int) > b4055.f1.f0 then (0 : Int) else b4055.f1.f0)] [] 0 (fun r o => r = iV .i64 (IntKind.i64.wrap ((if (0 : Int) > b4055.f1.f0 then (0 : Int) else b4055.f1.f0) - (Int.tmod (if (0 : Int) > b4055.f1.f0 then (0 : Int) else b4055.f1.f0) (IntKind.i64.wrap ((64 : Int) * 2 ^ (min (Int.toNat (IntKind.u64.wrap ((2 : Int) * (IntKind.u64.wrap ((if (if (4 : Int) < x4029 then (4 : Int) else x4029) > (0 : Int) then (if (4 : Int) < x4029 then (4 : Int) else x4029) else (0 : Int))))))) 64)))))) ∧ o = [])] (by kernel_rfl) ⟨by exact Try.call36, by exact f_block_Low.ok x4029 (if (0 : Int) > b4055.f1.f0 then (0 : Int) else b4055.f1.f0) t4060 e4061, trivial⟩ ?_
          refine AWp.seq ?_
          obtain ⟨t4064, e4065, H⟩ := bind_of H
          refine reg hP hn hm [(3, .call [] [(0, 49)] [] [49] 0 (.own 0) [(0, some (.row 1 3 (t4064.map (encInt .i64))))])] [0, 2, 4, 6, 8, 15, 16, 17] [47, 48, 49] ⟨[(0, .im (.row (t2017.map eplan_Item))), (2, .ptr 47 0 0), (4, iV .i64 x4029), (6, .ptr 48 0 0), (8, .own 49), (15, .im (.row (t2017.map eplan_Item))), (16, iV .i64 (t2017.length : Int)), (17, iV .i64 x4050)], [(47, some (.box 33 [.none0, iV .i64 0])), (48, some (.box 89 [iV .i64 b4055.f0, iV .i64 b4055.f1.f0, iV .i64 b4055.f1.f1, iV .i64 b4055.f1.f2])), (49, some (.row 1 3 (t4064.map (encInt .i64))))], 0⟩ [Enters Try.prog 22, Pv.Fn Try.prog 22 [.im (.row (t2017.map eplan_Item)), iV .i64 x4029, iV .i64 (IntKind.i64.wrap ((if (0 : Int) > b4055.f1.f0 then (0 : Int) else b4055.f1.f0) - (Int.tmod (if (0 : Int) > b4055.f1.f0 then (0 : Int) else b4055.f1.f0) (IntKind.i64.wrap ((64 : Int) * 2 ^ (min (Int.toNat (IntKind.u64.wrap ((2 : Int) * (IntKind.u64.wrap ((if (if (4 : Int) < x4029 then (4 : Int) else x4029) > (0 : Int) then (if (4 : Int) < x4029 then (4 : Int) else x4029) else (0 : Int))))))) 64))))))] [] 0 (fun r o => r = .own 0 ∧ o = [(0, some (.row 1 3 (t4064.map (encInt .i64))))])] (by kernel_rfl) ⟨by exact Try.call22, by exact f_plan_Within.ok t2017 x4029 (IntKind.i64.wrap ((if (0 : Int) > b4055.f1.f0 then (0 : Int) else b4055.f1.f0) - (Int.tmod (if (0 : Int) > b4055.f1.f0 then (0 : Int) else b4055.f1.f0) (IntKind.i64.wrap ((64 : Int) * 2 ^ (min (Int.toNat (IntKind.u64.wrap ((2 : Int) * (IntKind.u64.wrap ((if (if (4 : Int) < x4029 then (4 : Int) else x4029) > (0 : Int) then (if (4 : Int) < x4029 then (4 : Int) else x4029) else (0 : Int))))))) 64)))))) t4064 e4065, trivial⟩ ?_
          refine AWp.seq ?_
          obtain ⟨o4074, e4075, H⟩ := bind_of H
          refine AWp.mono (Q := fun e s => (match (generalizing := false) o4074 with | x4068 => e = .normal ∧ s = ⟨[(0, .im (.row (t2017.map eplan_Item))), (2, .ptr 50 0 0), (4, iV .i64 x4029), (8, .own 51), (15, .im (.row (t2017.map eplan_Item))), (16, iV .i64 (t2017.length : Int)), (17, iV .i64 x4050), (40, bV x4068)], [(50, some (.box 33 [.none0, iV .i64 0])), (51, some (.row 1 3 (t4064.map (encInt .i64))))], 0⟩)) (AWp.cv ?_) ?_
          · replace H := e4075; clear e4075
            rcases Bool.eq_false_or_eq_true (decide (b4055.f1.f2 ≤ x4029)) with c4067 | c4067
            · replace H := (ifT c4067).symm.trans H
              refine reg hP hn hm [(5, .b true), (7, .any (iV .i64 (t4064.length : Int)))] [0, 2, 4, 8, 15, 16, 17, 37, 38, 39, 40] [47, 49] ⟨[(0, .im (.row (t2017.map eplan_Item))), (2, .ptr 47 0 0), (4, iV .i64 x4029), (8, .own 49), (15, .im (.row (t2017.map eplan_Item))), (16, iV .i64 (t2017.length : Int)), (17, iV .i64 x4050), (37, .own 49), (38, iV .i64 (t4064.length : Int)), (39, bV (decide ((t4064.length : Int) > (1 : Int)))), (40, bV (decide ((t4064.length : Int) > (1 : Int))))], [(47, some (.box 33 [.none0, iV .i64 0])), (49, some (.row 1 3 (t4064.map (encInt .i64))))], 0⟩ [(decide (b4055.f1.f2 ≤ x4029)) = true, ((t4064.map (encInt .i64)).length : Int) = (t4064.length : Int)] (by kernel_rfl) ⟨by exact c4067, by rw [len_map], trivial⟩ ?_
              obtain rfl := Option.some.inj H
              exact Exists.intro _ (And.intro (fun _ _ h => h.conv (inv := [(47, 50), (49, 51)]) (vk := []) (e0 := []) (t := ⟨[(0, .im (.row (t2017.map eplan_Item))), (2, .ptr 50 0 0), (4, iV .i64 x4029), (8, .own 51), (15, .im (.row (t2017.map eplan_Item))), (16, iV .i64 (t2017.length : Int)), (17, iV .i64 x4050), (40, bV (decide ((t4064.length : Int) > (1 : Int))))], [(50, some (.box 33 [.none0, iV .i64 0])), (51, some (.row 1 3 (t4064.map (encInt .i64))))], 0⟩) (by kernel_rfl)) (And.intro rfl rfl))
            · replace H := (ifF c4067).symm.trans H
              refine reg hP hn hm [(5, .b false)] [0, 2, 4, 8, 15, 16, 17, 40] [47, 49] ⟨[(0, .im (.row (t2017.map eplan_Item))), (2, .ptr 47 0 0), (4, iV .i64 x4029), (8, .own 49), (15, .im (.row (t2017.map eplan_Item))), (16, iV .i64 (t2017.length : Int)), (17, iV .i64 x4050), (40, bV false)], [(47, some (.box 33 [.none0, iV .i64 0])), (49, some (.row 1 3 (t4064.map (encInt .i64))))], 0⟩ [(decide (b4055.f1.f2 ≤ x4029)) = false] (by kernel_rfl) ⟨by exact c4067, trivial⟩ ?_
              obtain rfl := Option.some.inj H
              exact Exists.intro _ (And.intro (fun _ _ h => h.conv (inv := [(47, 50), (49, 51)]) (vk := []) (e0 := []) (t := ⟨[(0, .im (.row (t2017.map eplan_Item))), (2, .ptr 50 0 0), (4, iV .i64 x4029), (8, .own 51), (15, .im (.row (t2017.map eplan_Item))), (16, iV .i64 (t2017.length : Int)), (17, iV .i64 x4050), (40, bV false)], [(50, some (.box 33 [.none0, iV .i64 0])), (51, some (.row 1 3 (t4064.map (encInt .i64))))], 0⟩) (by kernel_rfl)) (And.intro rfl rfl))
          · obtain ⟨x4068, rfl⟩ : ∃ z, z = o4074 := ⟨_, rfl⟩
            rintro e s ⟨rfl, rfl⟩
            refine AWp.cond x4068 rfl (fun c4069 => ?_) (fun c4069 => ?_)
            · replace H := (ifT c4069).symm.trans H
              refine AWp.seq ?_
              refine reg hP hn hm [] [2, 3] [50, 51] ⟨[(2, .ptr 50 0 0), (3, bV true)], [(50, some (.box 33 [.own 51, iV .i64 x4029])), (51, some (.row 1 3 (t4064.map (encInt .i64))))], 0⟩ [] (by kernel_rfl) trivial ?_
              refine AWp.conv (inv := [(50, 1), (51, 0)]) (vk := []) (e0 := []) (t := ⟨[(2, .ptr 1 0 0), (3, bV true)], [(0, some (.row 1 3 ((((⟨t4064, x4029⟩ : Tplan_Step)).f0).map (encInt .i64)))), (1, some (.box 33 [.own 0, iV .i64 (((⟨t4064, x4029⟩ : Tplan_Step)).f1)]))], 0⟩) (by kernel_rfl) ?_
              refine AWp.ret ?_
              obtain rfl := Option.some.inj H
              exact Exists.intro _ (And.intro (fun _ _ h => h) (And.intro rfl (And.intro rfl (And.intro (by kernel_rfl) (by kernel_rfl)))))
            · replace H := (ifF c4069).symm.trans H
              refine AWp.skip ?_
              refine reg hP hn hm [] [0, 2, 4, 15, 16, 17] [50] ⟨[(0, .im (.row (t2017.map eplan_Item))), (2, .ptr 50 0 0), (4, iV .i64 x4029), (15, .im (.row (t2017.map eplan_Item))), (16, iV .i64 (t2017.length : Int)), (17, iV .i64 (IntKind.i64.wrap (x4050 + (1 : Int))))], [(50, some (.box 33 [.none0, iV .i64 0]))], 0⟩ [] (by kernel_rfl) trivial ?_
              exact LWp.conv (inv := [(50, 47)]) (vk := []) (e0 := []) (t := ⟨[(0, .im (.row (t2017.map eplan_Item))), (2, .ptr 47 0 0), (4, iV .i64 x4029), (15, .im (.row (t2017.map eplan_Item))), (16, iV .i64 (t2017.length : Int)), (17, iV .i64 (IntKind.i64.wrap (x4050 + (1 : Int))))], [(47, some (.box 33 [.none0, iV .i64 0]))], 0⟩) (by kernel_rfl) (ih _ _ H)
        · replace H := (ifF c4051).symm.trans H
          refine AWp.exit ?_
          obtain rfl := Option.some.inj H
          exact Exists.intro _ (And.intro (fun _ _ h => h.conv (inv := [(47, 52)]) (vk := []) (e0 := []) (t := ⟨[(0, .im (.row (t2017.map eplan_Item))), (2, .ptr 52 0 0), (4, iV .i64 x4029)], [(52, some (.box 33 [.none0, iV .i64 0]))], 0⟩) (by kernel_rfl)) (And.intro rfl rfl))
      · rcases o4072 with rr | _
        · skip
          rintro e s ⟨rfl, hfl, hres⟩
          obtain rfl := Option.some.inj H
          exact Exists.intro _ (And.intro (fun _ _ h => h) (And.intro rfl (And.intro hfl hres)))
        · skip
          rintro e s ⟨rfl, rfl⟩
          refine reg hP hn hm [] [0, 2, 4] [52] ⟨[(0, .im (.row (t2017.map eplan_Item))), (2, .ptr 52 0 0), (4, iV .i64 (IntKind.i64.wrap (x4029 + (1 : Int))))], [(52, some (.box 33 [.none0, iV .i64 0]))], 0⟩ [] (by kernel_rfl) trivial ?_
          exact LWp.conv (inv := [(52, 42)]) (vk := []) (e0 := []) (t := ⟨[(0, .im (.row (t2017.map eplan_Item))), (2, .ptr 42 0 0), (4, iV .i64 (IntKind.i64.wrap (x4029 + (1 : Int))))], [(42, some (.box 33 [.none0, iV .i64 0]))], 0⟩) (by kernel_rfl) (ih _ _ H)
    · replace H := (ifF c4030).symm.trans H
      refine AWp.exit ?_
      obtain rfl := Option.some.inj H
      exact Exists.intro _ (And.intro (fun _ _ h => h.conv (inv := [(42, 53)]) (vk := []) (e0 := []) (t := ⟨[(2, .ptr 53 0 0)], [(53, some (.box 33 [.none0, iV .i64 0]))], 0⟩) (by kernel_rfl)) (And.intro rfl rfl))
  · rcases o4070 with rr | _
    · skip
      rintro e s ⟨rfl, hfl, hres⟩
      obtain rfl := Option.some.inj H
      exact Exists.intro _ (And.intro (fun _ _ h => h) (And.intro (.inl rfl) (And.intro hfl hres)))
    · skip
      rintro e s ⟨rfl, rfl⟩
      refine AWp.seq ?_
      refine reg hP hn hm [] [2, 3] [53] ⟨[(2, .ptr 53 0 0), (3, bV false)], [(53, some (.box 33 [.none0, iV .i64 0]))], 0⟩ [] (by kernel_rfl) trivial ?_
      refine AWp.conv (inv := [(53, 1)]) (vk := []) (e0 := [0]) (t := ⟨[(2, .ptr 1 0 0), (3, bV false)], [(0, some (.row 1 3 ((((⟨[], 0⟩ : Tplan_Step)).f0).map (encInt .i64)))), (1, some (.box 33 [.own 0, iV .i64 (((⟨[], 0⟩ : Tplan_Step)).f1)]))], 0⟩) (by kernel_rfl) ?_
      refine AWp.ret ?_
      obtain rfl := Option.some.inj H
      exact Exists.intro _ (And.intro (fun _ _ h => h) (And.intro (.inl rfl) (And.intro rfl (And.intro (by kernel_rfl) (by kernel_rfl)))))
def f_pluviallaw17_ints.l0 (a0 : List Int) (a1 : List Int) (x4099 : Int) : Option (Bool ⊕ Unit) := if (decide (x4099 < (a0.length : Int))) = true then ((at? a0 x4099) >>= fun b4107 => (at? a1 x4099) >>= fun b4110 => if (b4107 != b4110) = true then (some (.inl false)) else (f_pluviallaw17_ints.l0 a0 a1 (IntKind.i64.wrap (x4099 + (1 : Int))))) else (some (.inr ()))
partial_fixpoint
def f_pluviallaw17_ints.f (a0 : List Int) (a1 : List Int) : Option (Bool) := if ((a0.length : Int) != (a1.length : Int)) = true then (some false) else ((f_pluviallaw17_ints.l0 a0 a1 0) >>= fun oo => match oo with | .inl rr => (some rr) | .inr _ => (some true))
theorem f_pluviallaw17_ints.ok (a0 : List Int) (a1 : List Int) (r : Bool) (H : f_pluviallaw17_ints.f a0 a1 = some r) : Pv.Fn Try.prog 17 [.im (.row (a0.map (encInt .i64))), .im (.row (a1.map (encInt .i64)))] [] 0 (fun x o => x = bV r ∧ o = []) := by
  unfold f_pluviallaw17_ints.f at H
  refine Fn.bodyK [] Try.func17 rfl rfl (fun Γ hP hn => ?_)
  have hm : Try.prog.follows .mixedOrders = true := by kernel_rfl
  replace hn : Γ.n = 26 := hn
  refine AWp.seq ?_
  refine reg hP hn hm [] [0, 1] [] ⟨[(0, .im (.row (a0.map (encInt .i64)))), (1, .im (.row (a1.map (encInt .i64))))], [], 0⟩ [] (by kernel_rfl) trivial ?_
  refine AWp.seq ?_
  refine AWp.seq ?_
  refine reg hP hn hm [(1, .any (iV .i64 (a0.length : Int))), (3, .any (iV .i64 (a1.length : Int)))] [0, 1, 10] [] ⟨[(0, .im (.row (a0.map (encInt .i64)))), (1, .im (.row (a1.map (encInt .i64)))), (10, bV ((a0.length : Int) != (a1.length : Int)))], [], 0⟩ [((a0.map (encInt .i64)).length : Int) = (a0.length : Int), ((a1.map (encInt .i64)).length : Int) = (a1.length : Int)] (by kernel_rfl) ⟨by rw [len_map], by rw [len_map], trivial⟩ ?_
  refine AWp.cond ((a0.length : Int) != (a1.length : Int)) rfl (fun c4084 => ?_) (fun c4084 => ?_)
  · replace H := (ifT c4084).symm.trans H
    refine AWp.seq ?_
    refine reg hP hn hm [] [4] [] ⟨[(4, bV false)], [], 0⟩ [] (by kernel_rfl) trivial ?_
    refine AWp.conv (inv := []) (vk := []) (e0 := []) (t := ⟨[(4, bV false)], [], 0⟩) (by kernel_rfl) ?_
    refine AWp.ret ?_
    obtain rfl := Option.some.inj H
    exact Exists.intro _ (And.intro (fun _ _ h => h) (And.intro (.inl rfl) (And.intro rfl (And.intro (by kernel_rfl) (by kernel_rfl)))))
  · replace H := (ifF c4084).symm.trans H
    refine AWp.skip ?_
    refine AWp.seq ?_
    refine AWp.seq ?_
    refine reg hP hn hm [(1, .any (iV .i64 (a0.length : Int)))] [0, 1, 12, 13] [] ⟨[(0, .im (.row (a0.map (encInt .i64)))), (1, .im (.row (a1.map (encInt .i64)))), (12, iV .i64 (a0.length : Int)), (13, iV .i64 0)], [], 0⟩ [((a0.map (encInt .i64)).length : Int) = (a0.length : Int)] (by kernel_rfl) ⟨by rw [len_map], trivial⟩ ?_
    refine AWp.block ?_
    obtain ⟨o4114, e4115, H⟩ := bind_of H
    refine AWp.loop (LWp.conv (inv := []) (vk := []) (e0 := []) (t := ⟨[(0, .im (.row (a0.map (encInt .i64)))), (1, .im (.row (a1.map (encInt .i64)))), (12, iV .i64 (a0.length : Int)), (13, iV .i64 0)], [], 0⟩) (by kernel_rfl) ?_)
    refine LWp.mono (Q := fun e s => (match (generalizing := false) o4114 with | .inl rr => e = .ret ∧ s.floor = 0 ∧ resOf Try.prog Try.f17 s = some (bV rr) ∧ ([] : List (Nat × Option MObj)) = [] | .inr _ => e = .exit 0 ∧ s = ⟨[], [], 0⟩)) (LWp.cv (withBody (fun body hbody => ?_))) ?_
    · refine f_pluviallaw17_ints.l0.partial_correctness a0 a1 (motive := fun x4099 o4114 => LWp Γ body (fun e s => ∃ t, Cv Γ s t ∧ (match (generalizing := false) o4114 with | .inl rr => e = .ret ∧ t.floor = 0 ∧ resOf Try.prog Try.f17 t = some (bV rr) ∧ ([] : List (Nat × Option MObj)) = [] | .inr _ => e = .exit 0 ∧ t = ⟨[], [], 0⟩)) ⟨[(0, .im (.row (a0.map (encInt .i64)))), (1, .im (.row (a1.map (encInt .i64)))), (12, iV .i64 (a0.length : Int)), (13, iV .i64 x4099)], [], 0⟩) ?_ _ _ e4115
      clear H e4115 o4114; intro self ih x4099 o4114 H
      subst hbody
      refine LWp.round ?_
      refine AWp.seq ?_
      refine reg hP hn hm [] [0, 1, 12, 13, 14] [] ⟨[(0, .im (.row (a0.map (encInt .i64)))), (1, .im (.row (a1.map (encInt .i64)))), (12, iV .i64 (a0.length : Int)), (13, iV .i64 x4099), (14, bV (decide (x4099 < (a0.length : Int))))], [], 0⟩ [] (by kernel_rfl) trivial ?_
      refine AWp.seq ?_
      refine AWp.cond (decide (x4099 < (a0.length : Int))) rfl (fun c4100 => ?_) (fun c4100 => ?_)
      · replace H := (ifT c4100).symm.trans H
        refine AWp.skip ?_
        refine AWp.seq ?_
        refine AWp.block ?_
        refine AWp.seq ?_
        refine reg hP hn hm [] [0, 1, 5, 12, 13] [] ⟨[(0, .im (.row (a0.map (encInt .i64)))), (1, .im (.row (a1.map (encInt .i64)))), (5, iV .i64 x4099), (12, iV .i64 (a0.length : Int)), (13, iV .i64 x4099)], [], 0⟩ [] (by kernel_rfl) trivial ?_
        refine AWp.seq ?_
        obtain ⟨b4107, p4108, q4109, H⟩ := at_of H
        obtain ⟨b4110, p4111, q4112, H⟩ := at_of H
        refine reg hP hn hm [(2, .c ((encInt .i64) b4107)), (6, .c ((encInt .i64) b4110))] [0, 1, 12, 13, 24] [] ⟨[(0, .im (.row (a0.map (encInt .i64)))), (1, .im (.row (a1.map (encInt .i64)))), (12, iV .i64 (a0.length : Int)), (13, iV .i64 x4099), (24, bV (b4107 != b4110))], [], 0⟩ [0 ≤ x4099, (a0.map (encInt .i64))[(Int.toNat (x4099))]? = some ((encInt .i64) b4107), 0 ≤ x4099, (a1.map (encInt .i64))[(Int.toNat (x4099))]? = some ((encInt .i64) b4110)] (by kernel_rfl) ⟨by exact p4108, by exact el_map (encInt .i64) q4109, by exact p4111, by exact el_map (encInt .i64) q4112, trivial⟩ ?_
        refine AWp.cond (b4107 != b4110) rfl (fun c4113 => ?_) (fun c4113 => ?_)
        · replace H := (ifT c4113).symm.trans H
          refine AWp.seq ?_
          refine reg hP hn hm [] [4] [] ⟨[(4, bV false)], [], 0⟩ [] (by kernel_rfl) trivial ?_
          refine AWp.conv (inv := []) (vk := []) (e0 := []) (t := ⟨[(4, bV false)], [], 0⟩) (by kernel_rfl) ?_
          refine AWp.ret ?_
          obtain rfl := Option.some.inj H
          exact Exists.intro _ (And.intro (fun _ _ h => h) (And.intro rfl (And.intro rfl (And.intro (by kernel_rfl) (by kernel_rfl)))))
        · replace H := (ifF c4113).symm.trans H
          refine AWp.skip ?_
          refine reg hP hn hm [] [0, 1, 12, 13] [] ⟨[(0, .im (.row (a0.map (encInt .i64)))), (1, .im (.row (a1.map (encInt .i64)))), (12, iV .i64 (a0.length : Int)), (13, iV .i64 (IntKind.i64.wrap (x4099 + (1 : Int))))], [], 0⟩ [] (by kernel_rfl) trivial ?_
          exact LWp.conv (inv := []) (vk := []) (e0 := []) (t := ⟨[(0, .im (.row (a0.map (encInt .i64)))), (1, .im (.row (a1.map (encInt .i64)))), (12, iV .i64 (a0.length : Int)), (13, iV .i64 (IntKind.i64.wrap (x4099 + (1 : Int))))], [], 0⟩) (by kernel_rfl) (ih _ _ H)
      · replace H := (ifF c4100).symm.trans H
        refine AWp.exit ?_
        obtain rfl := Option.some.inj H
        exact Exists.intro _ (And.intro (fun _ _ h => h.conv (inv := []) (vk := []) (e0 := []) (t := ⟨[], [], 0⟩) (by kernel_rfl)) (And.intro rfl rfl))
    · rcases o4114 with rr | _
      · skip
        rintro e s ⟨rfl, hfl, hres⟩
        obtain rfl := Option.some.inj H
        exact Exists.intro _ (And.intro (fun _ _ h => h) (And.intro (.inl rfl) (And.intro hfl hres)))
      · skip
        rintro e s ⟨rfl, rfl⟩
        refine AWp.seq ?_
        refine reg hP hn hm [] [4] [] ⟨[(4, bV true)], [], 0⟩ [] (by kernel_rfl) trivial ?_
        refine AWp.conv (inv := []) (vk := []) (e0 := []) (t := ⟨[(4, bV true)], [], 0⟩) (by kernel_rfl) ?_
        refine AWp.ret ?_
        obtain rfl := Option.some.inj H
        exact Exists.intro _ (And.intro (fun _ _ h => h) (And.intro (.inl rfl) (And.intro rfl (And.intro (by kernel_rfl) (by kernel_rfl)))))
def f_pluviallaw17_awake.f  : Option (Bool) := (f_pluviallaw17_To.f [(⟨1, 0, 0, 64⟩ : Tpluvialref17_Item), (⟨2, 0, 64, 128⟩ : Tpluvialref17_Item)]) >>= fun t4078 => (f_plan_Next.f t4078) >>= fun t4080 => ((if t4080.2 = true then (if (((t4080.1).f1) == (1 : Int)) = true then ((f_pluviallaw17_ints.f ((t4080.1).f0) [1, 2]) >>= fun t4120 => some t4120) else (some false)) else (some false)) : Option (Bool)) >>= fun x4122 => some x4122
theorem f_pluviallaw17_awake.ok  (r : Bool) (H : f_pluviallaw17_awake.f  = some r) : Pv.Fn Try.prog 13 [] [] 0 (fun x o => x = bV r ∧ o = []) := by
  unfold f_pluviallaw17_awake.f at H
  refine Fn.bodyK [] Try.func13 rfl rfl (fun Γ hP hn => ?_)
  have hm : Try.prog.follows .mixedOrders = true := by kernel_rfl
  replace hn : Γ.n = 23 := hn
  refine AWp.seq ?_
  refine reg hP hn hm [] [] [] ⟨[], [], 0⟩ [] (by kernel_rfl) trivial ?_
  refine AWp.seq ?_
  obtain ⟨t4078, e4079, H⟩ := bind_of H
  obtain ⟨t4080, e4081, H⟩ := bind_of H
  refine reg hP hn hm [(2, .app 0 ([(⟨1, 0, 0, 64⟩ : Tpluvialref17_Item), (⟨2, 0, 64, 128⟩ : Tpluvialref17_Item)].map epluvialref17_Item)), (3, .call [] [(0, 1)] [0] [1] 0 (.own 0) [(0, some (.row 4 89 (t4078.map eplan_Item)))]), (4, .call [] [(0, 2)] [1] [2] 0 (.tup [.agg [.own 0, iV .i64 ((t4080.1).f1)], bV t4080.2]) [(0, some (.row 1 3 (((t4080.1).f0).map (encInt .i64))))]), (8, .k 3)] [1, 2] [2, 3] ⟨[(1, .ptr 3 0 0), (2, bV t4080.2)], [(2, some (.row 1 3 (((t4080.1).f0).map (encInt .i64)))), (3, some (.box 33 [.own 2, iV .i64 ((t4080.1).f1)]))], 0⟩ [[(⟨1, 0, 0, 64⟩ : Tpluvialref17_Item), (⟨2, 0, 64, 128⟩ : Tpluvialref17_Item)].map epluvialref17_Item = [[iI .i64 1, iI .i64 0, iI .i64 0, iI .i64 64], [iI .i64 2, iI .i64 0, iI .i64 64, iI .i64 128]], Enters Try.prog 15, Pv.Fn Try.prog 15 [.im (.row ([(⟨1, 0, 0, 64⟩ : Tpluvialref17_Item), (⟨2, 0, 64, 128⟩ : Tpluvialref17_Item)].map epluvialref17_Item))] [] 0 (fun r o => r = .own 0 ∧ o = [(0, some (.row 4 89 (t4078.map eplan_Item)))]), Enters Try.prog 16, Pv.Fn Try.prog 16 [.im (.row (t4078.map eplan_Item))] [] 0 (fun r o => r = .tup [.agg [.own 0, iV .i64 ((t4080.1).f1)], bV t4080.2] ∧ o = [(0, some (.row 1 3 (((t4080.1).f0).map (encInt .i64))))])] (by kernel_rfl) ⟨by exact rfl, by exact Try.call15, by exact f_pluviallaw17_To.ok [(⟨1, 0, 0, 64⟩ : Tpluvialref17_Item), (⟨2, 0, 64, 128⟩ : Tpluvialref17_Item)] t4078 e4079, by exact Try.call16, by exact f_plan_Next.ok t4078 t4080 e4081, trivial⟩ ?_
  refine AWp.seq ?_
  obtain ⟨o4123, e4124, H⟩ := bind_of H
  refine AWp.mono (Q := fun e s => (match (generalizing := false) o4123 with | x4122 => e = .normal ∧ s = ⟨[(0, bV x4122)], [], 0⟩)) (AWp.cv ?_) ?_
  · replace H := e4124; clear e4124
    rcases Bool.eq_false_or_eq_true t4080.2 with c4118 | c4118
    · replace H := (ifT c4118).symm.trans H
      rcases Bool.eq_false_or_eq_true (((t4080.1).f1) == (1 : Int)) with c4119 | c4119
      · replace H := (ifT c4119).symm.trans H
        obtain ⟨t4120, e4121, H⟩ := bind_of H
        refine reg hP hn hm [(1, .b true), (6, .b true), (9, .app 4 ([1, 2].map (encInt .i64))), (10, .call [] [] [2, 4] [] 0 (bV t4120) [])] [0] [] ⟨[(0, bV t4120)], [], 0⟩ [t4080.2 = true, (((t4080.1).f1) == (1 : Int)) = true, [1, 2].map (encInt .i64) = [[iI .i64 1], [iI .i64 2]], Enters Try.prog 17, Pv.Fn Try.prog 17 [.im (.row (((t4080.1).f0).map (encInt .i64))), .im (.row ([1, 2].map (encInt .i64)))] [] 0 (fun r o => r = bV t4120 ∧ o = [])] (by kernel_rfl) ⟨by exact c4118, by exact c4119, by exact rfl, by exact Try.call17, by exact f_pluviallaw17_ints.ok ((t4080.1).f0) [1, 2] t4120 e4121, trivial⟩ ?_
        obtain rfl := Option.some.inj H
        exact Exists.intro _ (And.intro (fun _ _ h => h.conv (inv := []) (vk := []) (e0 := []) (t := ⟨[(0, bV t4120)], [], 0⟩) (by kernel_rfl)) (And.intro rfl rfl))
      · replace H := (ifF c4119).symm.trans H
        refine reg hP hn hm [(1, .b true), (6, .b false)] [0] [] ⟨[(0, bV false)], [], 0⟩ [t4080.2 = true, (((t4080.1).f1) == (1 : Int)) = false] (by kernel_rfl) ⟨by exact c4118, by exact c4119, trivial⟩ ?_
        obtain rfl := Option.some.inj H
        exact Exists.intro _ (And.intro (fun _ _ h => h.conv (inv := []) (vk := []) (e0 := []) (t := ⟨[(0, bV false)], [], 0⟩) (by kernel_rfl)) (And.intro rfl rfl))
    · replace H := (ifF c4118).symm.trans H
      refine reg hP hn hm [(1, .b false)] [0] [] ⟨[(0, bV false)], [], 0⟩ [t4080.2 = false] (by kernel_rfl) ⟨by exact c4118, trivial⟩ ?_
      obtain rfl := Option.some.inj H
      exact Exists.intro _ (And.intro (fun _ _ h => h.conv (inv := []) (vk := []) (e0 := []) (t := ⟨[(0, bV false)], [], 0⟩) (by kernel_rfl)) (And.intro rfl rfl))
  · obtain ⟨x4122, rfl⟩ : ∃ z, z = o4123 := ⟨_, rfl⟩
    rintro e s ⟨rfl, rfl⟩
    refine AWp.conv (inv := []) (vk := []) (e0 := []) (t := ⟨[(0, bV x4122)], [], 0⟩) (by kernel_rfl) ?_
    refine AWp.ret ?_
    obtain rfl := Option.some.inj H
    exact Exists.intro _ (And.intro (fun _ _ h => h) (And.intro (.inl rfl) (And.intro rfl (And.intro (by kernel_rfl) (by kernel_rfl)))))
def f_pluvialref17_Within.l1 (a0 : List Tpluvialref17_Item) (a1 : Int) (a2 : Int) (x4188 : List Int) (x4189 : Int) (x4221 : Int) : Option (Int) := ((if (decide (x4221 < (x4188.length : Int))) = true then ((at? x4188 x4221) >>= fun b4230 => (at? a0 x4189) >>= fun b4233 => some (decide (b4230 < b4233.f0))) else (some false)) : Option (Bool)) >>= fun x4236 => if x4236 = true then (f_pluvialref17_Within.l1 a0 a1 a2 x4188 x4189 (IntKind.i64.wrap (x4221 + (1 : Int)))) else (some x4221)
partial_fixpoint
def f_pluvialref17_Within.l0 (a0 : List Tpluvialref17_Item) (a1 : Int) (a2 : Int) (x4188 : List Int) (x4189 : Int) : Option (List Int) := if (decide (x4189 < (a0.length : Int))) = true then ((((((at? a0 x4189) >>= fun b4197 => if (decide (b4197.f2 < a2)) = true then (some true) else ((f_pluvialref16_Width.f a1) >>= fun t4201 => some (decide (b4197.f3 > (IntKind.i64.wrap (a2 + t4201)))))) : Option (Bool)) >>= fun x4203 => if x4203 = true then (some x4188) else ((f_pluvialref17_Within.l1 a0 a1 a2 x4188 x4189 0) >>= fun x4238 => (chk (0 ≤ (0 : Int) ∧ (0 : Int) ≤ x4238 ∧ x4238 ≤ (x4188.length : Int))) >>= fun _ => (chk ((([] : List Int).length + ((x4188.drop (Int.toNat ((0 : Int)))).take ((Int.toNat (x4238)) - (Int.toNat ((0 : Int))))).length) * 8 ≤ 140737488355328)) >>= fun _ => (at? a0 x4189) >>= fun b4249 => (chk ((((x4188.drop (Int.toNat ((0 : Int)))).take ((Int.toNat (x4238)) - (Int.toNat ((0 : Int))))).length + [b4249.f0].length) * 8 ≤ 140737488355328)) >>= fun _ => (chk (0 ≤ x4238 ∧ x4238 ≤ (x4188.length : Int) ∧ (x4188.length : Int) ≤ (x4188.length : Int))) >>= fun _ => (chk (((((x4188.drop (Int.toNat ((0 : Int)))).take ((Int.toNat (x4238)) - (Int.toNat ((0 : Int))))) ++ [b4249.f0]).length + ((x4188.drop (Int.toNat (x4238))).take ((Int.toNat ((x4188.length : Int))) - (Int.toNat (x4238)))).length) * 8 ≤ 140737488355328)) >>= fun _ => some ((((x4188.drop (Int.toNat ((0 : Int)))).take ((Int.toNat (x4238)) - (Int.toNat ((0 : Int))))) ++ [b4249.f0]) ++ ((x4188.drop (Int.toNat (x4238))).take ((Int.toNat ((x4188.length : Int))) - (Int.toNat (x4238))))))) : Option (List Int)) >>= fun x4257 => f_pluvialref17_Within.l0 a0 a1 a2 x4257 (IntKind.i64.wrap (x4189 + (1 : Int)))) else (some x4188)
partial_fixpoint
def f_pluvialref17_Within.f (a0 : List Tpluvialref17_Item) (a1 : Int) (a2 : Int) : Option (List Int) := (f_pluvialref17_Within.l0 a0 a1 a2 [] 0) >>= fun x4258 => some x4258
theorem f_pluvialref17_Within.ok (a0 : List Tpluvialref17_Item) (a1 : Int) (a2 : Int) (r : List Int) (H : f_pluvialref17_Within.f a0 a1 a2 = some r) : Pv.Fn Try.prog 23 [.im (.row (a0.map epluvialref17_Item)), iV .i64 a1, iV .i64 a2] [] 0 (fun x o => x = .own 0 ∧ o = [(0, some (.row 1 3 (r.map (encInt .i64))))]) := by
  unfold f_pluvialref17_Within.f at H
  refine Fn.bodyK [0] Try.func23 rfl rfl (fun Γ hP hn => ?_)
  have hm : Try.prog.follows .mixedOrders = true := by kernel_rfl
  replace hn : Γ.n = 73 := hn
  refine AWp.seq ?_
  refine reg hP hn hm [] [0, 1, 2] [] ⟨[(0, .im (.row (a0.map epluvialref17_Item))), (1, iV .i64 a1), (2, iV .i64 a2)], [], 0⟩ [] (by kernel_rfl) trivial ?_
  refine AWp.seq ?_
  refine reg hP hn hm [] [0, 1, 2, 7] [] ⟨[(0, .im (.row (a0.map epluvialref17_Item))), (1, iV .i64 a1), (2, iV .i64 a2), (7, .none0)], [], 0⟩ [] (by kernel_rfl) trivial ?_
  refine AWp.seq ?_
  refine AWp.seq ?_
  refine reg hP hn hm [] [0, 1, 2, 7, 8] [] ⟨[(0, .im (.row (a0.map epluvialref17_Item))), (1, iV .i64 a1), (2, iV .i64 a2), (7, .none0), (8, iV .i64 0)], [], 0⟩ [] (by kernel_rfl) trivial ?_
  refine AWp.block ?_
  obtain ⟨o4259, e4260, H⟩ := bind_of H
  refine AWp.loop (LWp.conv (inv := []) (vk := []) (e0 := [5]) (t := ⟨[(0, .im (.row (a0.map epluvialref17_Item))), (1, iV .i64 a1), (2, iV .i64 a2), (7, .own 5), (8, iV .i64 0)], [(5, some (.row 1 3 ([].map (encInt .i64))))], 0⟩) (by kernel_rfl) ?_)
  refine LWp.mono (Q := fun e s => (match (generalizing := false) o4259 with | x4258 => e = .exit 0 ∧ s = ⟨[(7, .own 16)], [(16, some (.row 1 3 (x4258.map (encInt .i64))))], 0⟩)) (LWp.cv (withBody (fun body hbody => ?_))) ?_
  · refine f_pluvialref17_Within.l0.partial_correctness a0 a1 a2 (motive := fun x4188 x4189 o4259 => LWp Γ body (fun e s => ∃ t, Cv Γ s t ∧ (match (generalizing := false) o4259 with | x4258 => e = .exit 0 ∧ t = ⟨[(7, .own 16)], [(16, some (.row 1 3 (x4258.map (encInt .i64))))], 0⟩)) ⟨[(0, .im (.row (a0.map epluvialref17_Item))), (1, iV .i64 a1), (2, iV .i64 a2), (7, .own 5), (8, iV .i64 x4189)], [(5, some (.row 1 3 (x4188.map (encInt .i64))))], 0⟩) ?_ _ _ _ e4260
    clear H e4260 o4259; intro self ih x4188 x4189 o4259 H
    subst hbody
    refine LWp.round ?_
    refine AWp.seq ?_
    refine AWp.seq ?_
    refine reg hP hn hm [(2, .any (iV .i64 (a0.length : Int)))] [0, 1, 2, 7, 8, 14] [5] ⟨[(0, .im (.row (a0.map epluvialref17_Item))), (1, iV .i64 a1), (2, iV .i64 a2), (7, .own 5), (8, iV .i64 x4189), (14, bV (decide (x4189 < (a0.length : Int))))], [(5, some (.row 1 3 (x4188.map (encInt .i64))))], 0⟩ [((a0.map epluvialref17_Item).length : Int) = (a0.length : Int)] (by kernel_rfl) ⟨by rw [len_map], trivial⟩ ?_
    refine AWp.cond (decide (x4189 < (a0.length : Int))) rfl (fun c4190 => ?_) (fun c4190 => ?_)
    · replace H := (ifT c4190).symm.trans H
      refine AWp.skip ?_
      refine AWp.seq ?_
      obtain ⟨o4261, e4262, H⟩ := bind_of H
      refine AWp.mono (Q := fun e s => (match (generalizing := false) o4261 with | x4257 => e = .normal ∧ s = ⟨[(0, .im (.row (a0.map epluvialref17_Item))), (1, iV .i64 a1), (2, iV .i64 a2), (7, .own 15), (8, iV .i64 x4189)], [(15, some (.row 1 3 (x4257.map (encInt .i64))))], 0⟩)) (AWp.cv ?_) ?_
      · replace H := e4262; clear e4262
        refine AWp.block ?_
        refine AWp.seq ?_
        refine AWp.seq ?_
        obtain ⟨o4263, e4264, H⟩ := bind_of H
        refine AWp.mono (Q := fun e s => (match (generalizing := false) o4263 with | x4203 => e = .normal ∧ s = ⟨[(0, .im (.row (a0.map epluvialref17_Item))), (1, iV .i64 a1), (2, iV .i64 a2), (7, .own 6), (8, iV .i64 x4189), (35, bV x4203)], [(6, some (.row 1 3 (x4188.map (encInt .i64))))], 0⟩)) (AWp.cv ?_) ?_
        · replace H := e4264; clear e4264
          obtain ⟨b4197, p4198, q4199, H⟩ := at_of H
          rcases Bool.eq_false_or_eq_true (decide (b4197.f2 < a2)) with c4200 | c4200
          · replace H := (ifT c4200).symm.trans H
            refine reg hP hn hm [(2, .c (epluvialref17_Item b4197)), (7, .b true)] [0, 1, 2, 7, 8, 35] [5] ⟨[(0, .im (.row (a0.map epluvialref17_Item))), (1, iV .i64 a1), (2, iV .i64 a2), (7, .own 5), (8, iV .i64 x4189), (35, bV true)], [(5, some (.row 1 3 (x4188.map (encInt .i64))))], 0⟩ [0 ≤ x4189, (a0.map epluvialref17_Item)[(Int.toNat (x4189))]? = some (epluvialref17_Item b4197), (decide (b4197.f2 < a2)) = true] (by kernel_rfl) ⟨by exact p4198, by exact el_map epluvialref17_Item q4199, by exact c4200, trivial⟩ ?_
            obtain rfl := Option.some.inj H
            exact Exists.intro _ (And.intro (fun _ _ h => h.conv (inv := [(5, 6)]) (vk := []) (e0 := []) (t := ⟨[(0, .im (.row (a0.map epluvialref17_Item))), (1, iV .i64 a1), (2, iV .i64 a2), (7, .own 6), (8, iV .i64 x4189), (35, bV true)], [(6, some (.row 1 3 (x4188.map (encInt .i64))))], 0⟩) (by kernel_rfl)) (And.intro rfl rfl))
          · replace H := (ifF c4200).symm.trans H
            obtain ⟨t4201, e4202, H⟩ := bind_of H
            refine reg hP hn hm [(2, .c (epluvialref17_Item b4197)), (7, .b false), (10, .c (epluvialref17_Item b4197)), (15, .call [] [] [] [] 0 (iV .i64 t4201) [])] [0, 1, 2, 7, 8, 25, 26, 27, 28, 29, 30, 31, 32, 33, 34, 35] [5] ⟨[(0, .im (.row (a0.map epluvialref17_Item))), (1, iV .i64 a1), (2, iV .i64 a2), (7, .own 5), (8, iV .i64 x4189), (25, .im (.row (a0.map epluvialref17_Item))), (26, iV .i64 x4189), (27, .ip [iI .i64 b4197.f0, iI .i64 b4197.f1, iI .i64 b4197.f2, iI .i64 b4197.f3]), (28, .ip [iI .i64 b4197.f3]), (29, iV .i64 b4197.f3), (30, iV .i64 a2), (31, iV .i64 a1), (32, iV .i64 t4201), (33, iV .i64 (IntKind.i64.wrap (a2 + t4201))), (34, bV (decide (b4197.f3 > (IntKind.i64.wrap (a2 + t4201))))), (35, bV (decide (b4197.f3 > (IntKind.i64.wrap (a2 + t4201)))))], [(5, some (.row 1 3 (x4188.map (encInt .i64))))], 0⟩ [0 ≤ x4189, (a0.map epluvialref17_Item)[(Int.toNat (x4189))]? = some (epluvialref17_Item b4197), (decide (b4197.f2 < a2)) = false, 0 ≤ x4189, (a0.map epluvialref17_Item)[(Int.toNat (x4189))]? = some (epluvialref17_Item b4197), Enters Try.prog 19, Pv.Fn Try.prog 19 [iV .i64 a1] [] 0 (fun r o => r = iV .i64 t4201 ∧ o = [])] (by kernel_rfl) ⟨by exact p4198, by exact el_map epluvialref17_Item q4199, by exact c4200, by exact p4198, by exact el_map epluvialref17_Item q4199, by exact Try.call19, by exact f_pluvialref16_Width.ok a1 t4201 e4202, trivial⟩ ?_
            obtain rfl := Option.some.inj H
            exact Exists.intro _ (And.intro (fun _ _ h => h.conv (inv := [(5, 6)]) (vk := []) (e0 := []) (t := ⟨[(0, .im (.row (a0.map epluvialref17_Item))), (1, iV .i64 a1), (2, iV .i64 a2), (7, .own 6), (8, iV .i64 x4189), (35, bV (decide (b4197.f3 > (IntKind.i64.wrap (a2 + t4201)))))], [(6, some (.row 1 3 (x4188.map (encInt .i64))))], 0⟩) (by kernel_rfl)) (And.intro rfl rfl))
        · obtain ⟨x4203, rfl⟩ : ∃ z, z = o4263 := ⟨_, rfl⟩
          rintro e s ⟨rfl, rfl⟩
          refine AWp.cond x4203 rfl (fun c4204 => ?_) (fun c4204 => ?_)
          · replace H := (ifT c4204).symm.trans H
            refine AWp.exit ?_
            obtain rfl := Option.some.inj H
            exact Exists.intro _ (And.intro (fun _ _ h => h.conv (inv := [(6, 15)]) (vk := []) (e0 := []) (t := ⟨[(0, .im (.row (a0.map epluvialref17_Item))), (1, iV .i64 a1), (2, iV .i64 a2), (7, .own 15), (8, iV .i64 x4189)], [(15, some (.row 1 3 (x4188.map (encInt .i64))))], 0⟩) (by kernel_rfl)) (And.intro rfl rfl))
          · replace H := (ifF c4204).symm.trans H
            refine AWp.skip ?_
            refine AWp.seq ?_
            refine reg hP hn hm [] [0, 1, 2, 7, 8, 9] [6] ⟨[(0, .im (.row (a0.map epluvialref17_Item))), (1, iV .i64 a1), (2, iV .i64 a2), (7, .own 6), (8, iV .i64 x4189), (9, iV .i64 0)], [(6, some (.row 1 3 (x4188.map (encInt .i64))))], 0⟩ [] (by kernel_rfl) trivial ?_
            refine AWp.seq ?_
            refine AWp.block ?_
            obtain ⟨o4265, e4266, H⟩ := bind_of H
            refine AWp.loop (LWp.conv (inv := [(6, 8)]) (vk := []) (e0 := []) (t := ⟨[(0, .im (.row (a0.map epluvialref17_Item))), (1, iV .i64 a1), (2, iV .i64 a2), (7, .own 8), (8, iV .i64 x4189), (9, iV .i64 0)], [(8, some (.row 1 3 (x4188.map (encInt .i64))))], 0⟩) (by kernel_rfl) ?_)
            refine LWp.mono (Q := fun e s => (match (generalizing := false) o4265 with | x4238 => e = .exit 2 ∧ s = ⟨[(0, .im (.row (a0.map epluvialref17_Item))), (1, iV .i64 a1), (2, iV .i64 a2), (7, .own 10), (8, iV .i64 x4189), (9, iV .i64 x4238)], [(10, some (.row 1 3 (x4188.map (encInt .i64))))], 0⟩)) (LWp.cv (withBody (fun body hbody => ?_))) ?_
            · refine f_pluvialref17_Within.l1.partial_correctness a0 a1 a2 x4188 x4189 (motive := fun x4221 o4265 => LWp Γ body (fun e s => ∃ t, Cv Γ s t ∧ (match (generalizing := false) o4265 with | x4238 => e = .exit 2 ∧ t = ⟨[(0, .im (.row (a0.map epluvialref17_Item))), (1, iV .i64 a1), (2, iV .i64 a2), (7, .own 10), (8, iV .i64 x4189), (9, iV .i64 x4238)], [(10, some (.row 1 3 (x4188.map (encInt .i64))))], 0⟩)) ⟨[(0, .im (.row (a0.map epluvialref17_Item))), (1, iV .i64 a1), (2, iV .i64 a2), (7, .own 8), (8, iV .i64 x4189), (9, iV .i64 x4221)], [(8, some (.row 1 3 (x4188.map (encInt .i64))))], 0⟩) ?_ _ _ e4266
              clear H e4266 o4265; intro self ih x4221 o4265 H
              subst hbody
              refine LWp.round ?_
              refine AWp.seq ?_
              refine AWp.seq ?_
              obtain ⟨o4267, e4268, H⟩ := bind_of H
              refine AWp.mono (Q := fun e s => (match (generalizing := false) o4267 with | x4236 => e = .normal ∧ s = ⟨[(0, .im (.row (a0.map epluvialref17_Item))), (1, iV .i64 a1), (2, iV .i64 a2), (7, .own 9), (8, iV .i64 x4189), (9, iV .i64 x4221), (51, bV x4236)], [(9, some (.row 1 3 (x4188.map (encInt .i64))))], 0⟩)) (AWp.cv ?_) ?_
              · replace H := e4268; clear e4268
                rcases Bool.eq_false_or_eq_true (decide (x4221 < (x4188.length : Int))) with c4229 | c4229
                · replace H := (ifT c4229).symm.trans H
                  obtain ⟨b4230, p4231, q4232, H⟩ := at_of H
                  obtain ⟨b4233, p4234, q4235, H⟩ := at_of H
                  refine reg hP hn hm [(2, .any (iV .i64 (x4188.length : Int))), (4, .b true), (8, .c ((encInt .i64) b4230)), (11, .c (epluvialref17_Item b4233))] [0, 1, 2, 7, 8, 9, 41, 42, 43, 44, 45, 46, 47, 48, 49, 50, 51] [8] ⟨[(0, .im (.row (a0.map epluvialref17_Item))), (1, iV .i64 a1), (2, iV .i64 a2), (7, .own 8), (8, iV .i64 x4189), (9, iV .i64 x4221), (41, .own 8), (42, iV .i64 x4221), (43, .ptr 8 (Int.toNat (x4221)) 0), (44, iV .i64 b4230), (45, .im (.row (a0.map epluvialref17_Item))), (46, iV .i64 x4189), (47, .ip [iI .i64 b4233.f0, iI .i64 b4233.f1, iI .i64 b4233.f2, iI .i64 b4233.f3]), (48, .ip [iI .i64 b4233.f0, iI .i64 b4233.f1, iI .i64 b4233.f2, iI .i64 b4233.f3]), (49, iV .i64 b4233.f0), (50, bV (decide (b4230 < b4233.f0))), (51, bV (decide (b4230 < b4233.f0)))], [(8, some (.row 1 3 (x4188.map (encInt .i64))))], 0⟩ [((x4188.map (encInt .i64)).length : Int) = (x4188.length : Int), (decide (x4221 < (x4188.length : Int))) = true, 0 ≤ x4221, x4221 < (((x4188.map (encInt .i64)).length : Nat) : Int), (x4188.map (encInt .i64))[(Int.toNat (x4221))]? = some ((encInt .i64) b4230), 0 ≤ x4189, (a0.map epluvialref17_Item)[(Int.toNat (x4189))]? = some (epluvialref17_Item b4233)] (by kernel_rfl) ⟨by rw [len_map], by exact c4229, by exact p4231, by exact el_lt (encInt .i64) p4231 q4232, by exact el_map (encInt .i64) q4232, by exact p4234, by exact el_map epluvialref17_Item q4235, trivial⟩ ?_
                  obtain rfl := Option.some.inj H
                  exact Exists.intro _ (And.intro (fun _ _ h => h.conv (inv := [(8, 9)]) (vk := []) (e0 := []) (t := ⟨[(0, .im (.row (a0.map epluvialref17_Item))), (1, iV .i64 a1), (2, iV .i64 a2), (7, .own 9), (8, iV .i64 x4189), (9, iV .i64 x4221), (51, bV (decide (b4230 < b4233.f0)))], [(9, some (.row 1 3 (x4188.map (encInt .i64))))], 0⟩) (by kernel_rfl)) (And.intro rfl rfl))
                · replace H := (ifF c4229).symm.trans H
                  refine reg hP hn hm [(2, .any (iV .i64 (x4188.length : Int))), (4, .b false)] [0, 1, 2, 7, 8, 9, 51] [8] ⟨[(0, .im (.row (a0.map epluvialref17_Item))), (1, iV .i64 a1), (2, iV .i64 a2), (7, .own 8), (8, iV .i64 x4189), (9, iV .i64 x4221), (51, bV false)], [(8, some (.row 1 3 (x4188.map (encInt .i64))))], 0⟩ [((x4188.map (encInt .i64)).length : Int) = (x4188.length : Int), (decide (x4221 < (x4188.length : Int))) = false] (by kernel_rfl) ⟨by rw [len_map], by exact c4229, trivial⟩ ?_
                  obtain rfl := Option.some.inj H
                  exact Exists.intro _ (And.intro (fun _ _ h => h.conv (inv := [(8, 9)]) (vk := []) (e0 := []) (t := ⟨[(0, .im (.row (a0.map epluvialref17_Item))), (1, iV .i64 a1), (2, iV .i64 a2), (7, .own 9), (8, iV .i64 x4189), (9, iV .i64 x4221), (51, bV false)], [(9, some (.row 1 3 (x4188.map (encInt .i64))))], 0⟩) (by kernel_rfl)) (And.intro rfl rfl))
              · obtain ⟨x4236, rfl⟩ : ∃ z, z = o4267 := ⟨_, rfl⟩
                rintro e s ⟨rfl, rfl⟩
                refine AWp.cond x4236 rfl (fun c4237 => ?_) (fun c4237 => ?_)
                · replace H := (ifT c4237).symm.trans H
                  refine AWp.skip ?_
                  refine AWp.block ?_
                  refine reg hP hn hm [] [0, 1, 2, 7, 8, 9] [9] ⟨[(0, .im (.row (a0.map epluvialref17_Item))), (1, iV .i64 a1), (2, iV .i64 a2), (7, .own 9), (8, iV .i64 x4189), (9, iV .i64 (IntKind.i64.wrap (x4221 + (1 : Int))))], [(9, some (.row 1 3 (x4188.map (encInt .i64))))], 0⟩ [] (by kernel_rfl) trivial ?_
                  exact LWp.conv (inv := [(9, 8)]) (vk := []) (e0 := []) (t := ⟨[(0, .im (.row (a0.map epluvialref17_Item))), (1, iV .i64 a1), (2, iV .i64 a2), (7, .own 8), (8, iV .i64 x4189), (9, iV .i64 (IntKind.i64.wrap (x4221 + (1 : Int))))], [(8, some (.row 1 3 (x4188.map (encInt .i64))))], 0⟩) (by kernel_rfl) (ih _ _ H)
                · replace H := (ifF c4237).symm.trans H
                  refine AWp.exit ?_
                  obtain rfl := Option.some.inj H
                  exact Exists.intro _ (And.intro (fun _ _ h => h.conv (inv := [(9, 10)]) (vk := []) (e0 := []) (t := ⟨[(0, .im (.row (a0.map epluvialref17_Item))), (1, iV .i64 a1), (2, iV .i64 a2), (7, .own 10), (8, iV .i64 x4189), (9, iV .i64 x4221)], [(10, some (.row 1 3 (x4188.map (encInt .i64))))], 0⟩) (by kernel_rfl)) (And.intro rfl rfl))
            · obtain ⟨x4238, rfl⟩ : ∃ z, z = o4265 := ⟨_, rfl⟩
              rintro e s ⟨rfl, rfl⟩
              refine AWp.seq ?_
              refine reg hP hn hm [] [0, 1, 2, 7, 8, 9, 10] [10] ⟨[(0, .im (.row (a0.map epluvialref17_Item))), (1, iV .i64 a1), (2, iV .i64 a2), (7, .own 10), (8, iV .i64 x4189), (9, iV .i64 x4238), (10, .none0)], [(10, some (.row 1 3 (x4188.map (encInt .i64))))], 0⟩ [] (by kernel_rfl) trivial ?_
              refine AWp.seq ?_
              refine AWp.conv (inv := []) (vk := [10]) (e0 := []) (t := ⟨[(0, .im (.row (a0.map epluvialref17_Item))), (1, iV .i64 a1), (2, iV .i64 a2), (7, .im (.row (x4188.map (encInt .i64)))), (8, iV .i64 x4189), (9, iV .i64 x4238), (10, .none0)], [], 0⟩) (by kernel_rfl) ?_
              obtain ⟨c4243, H⟩ := chk_of H
              obtain ⟨c4244, H⟩ := chk_of H
              refine reg hP hn hm [(3, .rows (((x4188.drop (Int.toNat ((0 : Int)))).take ((Int.toNat (x4238)) - (Int.toNat ((0 : Int))))).map (encInt .i64))), (4, .app 11 (((x4188.drop (Int.toNat ((0 : Int)))).take ((Int.toNat (x4238)) - (Int.toNat ((0 : Int))))).map (encInt .i64)))] [0, 1, 2, 7, 8, 9, 10] [11] ⟨[(0, .im (.row (a0.map epluvialref17_Item))), (1, iV .i64 a1), (2, iV .i64 a2), (7, .im (.row (x4188.map (encInt .i64)))), (8, iV .i64 x4189), (9, iV .i64 x4238), (10, .own 11)], [(11, some (.row 1 3 (((x4188.drop (Int.toNat ((0 : Int)))).take ((Int.toNat (x4238)) - (Int.toNat ((0 : Int))))).map (encInt .i64))))], 0⟩ [0 ≤ (0 : Int), (0 : Int) ≤ x4238, x4238 ≤ ((x4188.map (encInt .i64)).length : Int), ∀ c ∈ x4188.map (encInt .i64), c.length = 1, ((x4188.drop (Int.toNat ((0 : Int)))).take ((Int.toNat (x4238)) - (Int.toNat ((0 : Int))))).map (encInt .i64) = ((x4188.map (encInt .i64)).drop (Int.toNat ((0 : Int)))).take ((Int.toNat (x4238)) - (Int.toNat ((0 : Int)))), ((x4188.drop (Int.toNat ((0 : Int)))).take ((Int.toNat (x4238)) - (Int.toNat ((0 : Int))))).map (encInt .i64) = ([] : List (List Im)) ++ (((x4188.drop (Int.toNat ((0 : Int)))).take ((Int.toNat (x4238)) - (Int.toNat ((0 : Int))))).map (encInt .i64)), ∀ c ∈ (((x4188.drop (Int.toNat ((0 : Int)))).take ((Int.toNat (x4238)) - (Int.toNat ((0 : Int))))).map (encInt .i64)), c.length = 1, ∀ c ∈ (((x4188.drop (Int.toNat ((0 : Int)))).take ((Int.toNat (x4238)) - (Int.toNat ((0 : Int))))).map (encInt .i64)), leaves (c.map .im) = true, (([] : List (List Im)).length + (((x4188.drop (Int.toNat ((0 : Int)))).take ((Int.toNat (x4238)) - (Int.toNat ((0 : Int))))).map (encInt .i64)).length) * 8 ≤ 140737488355328] (by kernel_rfl) ⟨by exact c4243.1, by simpa using c4243.2.1, by simpa using c4243.2.2, by exact all_len _ _ _ (fun _ => rfl), by simp [cut1], by simp, by exact all_len _ _ _ (fun _ => rfl), by exact all_leaf _ _ (fun _ => rfl), by simpa using c4244, trivial⟩ ?_
              refine AWp.seq ?_
              obtain ⟨b4249, p4250, q4251, H⟩ := at_of H
              obtain ⟨c4252, H⟩ := chk_of H
              refine reg hP hn hm [(3, .c (epluvialref17_Item b4249)), (6, .app 12 ([b4249.f0].map (encInt .i64))), (7, .app 13 ((((x4188.drop (Int.toNat ((0 : Int)))).take ((Int.toNat (x4238)) - (Int.toNat ((0 : Int))))) ++ [b4249.f0]).map (encInt .i64)))] [0, 1, 2, 7, 8, 9, 10] [13] ⟨[(0, .im (.row (a0.map epluvialref17_Item))), (1, iV .i64 a1), (2, iV .i64 a2), (7, .im (.row (x4188.map (encInt .i64)))), (8, iV .i64 x4189), (9, iV .i64 x4238), (10, .own 13)], [(13, some (.row 1 3 ((((x4188.drop (Int.toNat ((0 : Int)))).take ((Int.toNat (x4238)) - (Int.toNat ((0 : Int))))) ++ [b4249.f0]).map (encInt .i64))))], 0⟩ [0 ≤ x4189, (a0.map epluvialref17_Item)[(Int.toNat (x4189))]? = some (epluvialref17_Item b4249), [b4249.f0].map (encInt .i64) = [[iI .i64 b4249.f0]], (((x4188.drop (Int.toNat ((0 : Int)))).take ((Int.toNat (x4238)) - (Int.toNat ((0 : Int))))) ++ [b4249.f0]).map (encInt .i64) = (((x4188.drop (Int.toNat ((0 : Int)))).take ((Int.toNat (x4238)) - (Int.toNat ((0 : Int))))).map (encInt .i64)) ++ ([b4249.f0].map (encInt .i64)), ∀ c ∈ ([b4249.f0].map (encInt .i64)), c.length = 1, ∀ c ∈ ([b4249.f0].map (encInt .i64)), leaves (c.map .im) = true, ((((x4188.drop (Int.toNat ((0 : Int)))).take ((Int.toNat (x4238)) - (Int.toNat ((0 : Int))))).map (encInt .i64)).length + ([b4249.f0].map (encInt .i64)).length) * 8 ≤ 140737488355328] (by kernel_rfl) ⟨by exact p4250, by exact el_map epluvialref17_Item q4251, by exact rfl, by simp, by exact all_len _ _ _ (fun _ => rfl), by exact all_leaf _ _ (fun _ => rfl), by simpa using c4252, trivial⟩ ?_
              obtain ⟨c4255, H⟩ := chk_of H
              obtain ⟨c4256, H⟩ := chk_of H
              refine reg hP hn hm [(3, .rows (((x4188.drop (Int.toNat (x4238))).take ((Int.toNat ((x4188.length : Int))) - (Int.toNat (x4238)))).map (encInt .i64))), (4, .app 14 (((((x4188.drop (Int.toNat ((0 : Int)))).take ((Int.toNat (x4238)) - (Int.toNat ((0 : Int))))) ++ [b4249.f0]) ++ ((x4188.drop (Int.toNat (x4238))).take ((Int.toNat ((x4188.length : Int))) - (Int.toNat (x4238))))).map (encInt .i64)))] [0, 1, 2, 7, 8] [14] ⟨[(0, .im (.row (a0.map epluvialref17_Item))), (1, iV .i64 a1), (2, iV .i64 a2), (7, .own 14), (8, iV .i64 x4189)], [(14, some (.row 1 3 (((((x4188.drop (Int.toNat ((0 : Int)))).take ((Int.toNat (x4238)) - (Int.toNat ((0 : Int))))) ++ [b4249.f0]) ++ ((x4188.drop (Int.toNat (x4238))).take ((Int.toNat ((x4188.length : Int))) - (Int.toNat (x4238))))).map (encInt .i64))))], 0⟩ [0 ≤ x4238, x4238 ≤ ((x4188.map (encInt .i64)).length : Int), ((x4188.map (encInt .i64)).length : Int) ≤ ((x4188.map (encInt .i64)).length : Int), ∀ c ∈ x4188.map (encInt .i64), c.length = 1, ((x4188.drop (Int.toNat (x4238))).take ((Int.toNat ((x4188.length : Int))) - (Int.toNat (x4238)))).map (encInt .i64) = ((x4188.map (encInt .i64)).drop (Int.toNat (x4238))).take ((Int.toNat (((x4188.map (encInt .i64)).length : Int))) - (Int.toNat (x4238))), ((((x4188.drop (Int.toNat ((0 : Int)))).take ((Int.toNat (x4238)) - (Int.toNat ((0 : Int))))) ++ [b4249.f0]) ++ ((x4188.drop (Int.toNat (x4238))).take ((Int.toNat ((x4188.length : Int))) - (Int.toNat (x4238))))).map (encInt .i64) = ((((x4188.drop (Int.toNat ((0 : Int)))).take ((Int.toNat (x4238)) - (Int.toNat ((0 : Int))))) ++ [b4249.f0]).map (encInt .i64)) ++ (((x4188.drop (Int.toNat (x4238))).take ((Int.toNat ((x4188.length : Int))) - (Int.toNat (x4238)))).map (encInt .i64)), ∀ c ∈ (((x4188.drop (Int.toNat (x4238))).take ((Int.toNat ((x4188.length : Int))) - (Int.toNat (x4238)))).map (encInt .i64)), c.length = 1, ∀ c ∈ (((x4188.drop (Int.toNat (x4238))).take ((Int.toNat ((x4188.length : Int))) - (Int.toNat (x4238)))).map (encInt .i64)), leaves (c.map .im) = true, (((((x4188.drop (Int.toNat ((0 : Int)))).take ((Int.toNat (x4238)) - (Int.toNat ((0 : Int))))) ++ [b4249.f0]).map (encInt .i64)).length + (((x4188.drop (Int.toNat (x4238))).take ((Int.toNat ((x4188.length : Int))) - (Int.toNat (x4238)))).map (encInt .i64)).length) * 8 ≤ 140737488355328] (by kernel_rfl) ⟨by exact c4255.1, by simpa using c4255.2.1, by simpa using c4255.2.2, by exact all_len _ _ _ (fun _ => rfl), by simp [cut1], by simp, by exact all_len _ _ _ (fun _ => rfl), by exact all_leaf _ _ (fun _ => rfl), by simpa using c4256, trivial⟩ ?_
              obtain rfl := Option.some.inj H
              exact Exists.intro _ (And.intro (fun _ _ h => h.conv (inv := [(14, 15)]) (vk := []) (e0 := []) (t := ⟨[(0, .im (.row (a0.map epluvialref17_Item))), (1, iV .i64 a1), (2, iV .i64 a2), (7, .own 15), (8, iV .i64 x4189)], [(15, some (.row 1 3 (((((x4188.drop (Int.toNat ((0 : Int)))).take ((Int.toNat (x4238)) - (Int.toNat ((0 : Int))))) ++ [b4249.f0]) ++ ((x4188.drop (Int.toNat (x4238))).take ((Int.toNat ((x4188.length : Int))) - (Int.toNat (x4238))))).map (encInt .i64))))], 0⟩) (by kernel_rfl)) (And.intro rfl rfl))
      · obtain ⟨x4257, rfl⟩ : ∃ z, z = o4261 := ⟨_, rfl⟩
        rintro e s ⟨rfl, rfl⟩
        refine reg hP hn hm [] [0, 1, 2, 7, 8] [15] ⟨[(0, .im (.row (a0.map epluvialref17_Item))), (1, iV .i64 a1), (2, iV .i64 a2), (7, .own 15), (8, iV .i64 (IntKind.i64.wrap (x4189 + (1 : Int))))], [(15, some (.row 1 3 (x4257.map (encInt .i64))))], 0⟩ [] (by kernel_rfl) trivial ?_
        exact LWp.conv (inv := [(15, 5)]) (vk := []) (e0 := []) (t := ⟨[(0, .im (.row (a0.map epluvialref17_Item))), (1, iV .i64 a1), (2, iV .i64 a2), (7, .own 5), (8, iV .i64 (IntKind.i64.wrap (x4189 + (1 : Int))))], [(5, some (.row 1 3 (x4257.map (encInt .i64))))], 0⟩) (by kernel_rfl) (ih _ _ _ H)
    · replace H := (ifF c4190).symm.trans H
      refine AWp.exit ?_
      obtain rfl := Option.some.inj H
      exact Exists.intro _ (And.intro (fun _ _ h => h.conv (inv := [(5, 16)]) (vk := []) (e0 := []) (t := ⟨[(7, .own 16)], [(16, some (.row 1 3 (x4188.map (encInt .i64))))], 0⟩) (by kernel_rfl)) (And.intro rfl rfl))
  · obtain ⟨x4258, rfl⟩ : ∃ z, z = o4259 := ⟨_, rfl⟩
    rintro e s ⟨rfl, rfl⟩
    refine AWp.seq ?_
    refine reg hP hn hm [] [6] [16] ⟨[(6, .own 16)], [(16, some (.row 1 3 (x4258.map (encInt .i64))))], 0⟩ [] (by kernel_rfl) trivial ?_
    refine AWp.conv (inv := [(16, 0)]) (vk := []) (e0 := []) (t := ⟨[(6, .own 0)], [(0, some (.row 1 3 (x4258.map (encInt .i64))))], 0⟩) (by kernel_rfl) ?_
    refine AWp.ret ?_
    obtain rfl := Option.some.inj H
    exact Exists.intro _ (And.intro (fun _ _ h => h) (And.intro (.inl rfl) (And.intro rfl (And.intro (by kernel_rfl) (by kernel_rfl)))))
def f_pluvialref17_Next.l1 (a0 : List Tpluvialref17_Item) (x4342 : Int) (x4370 : Int) (x4371 : Int) : Option (Int) := if (decide (x4371 < (a0.length : Int))) = true then ((((at? a0 x4371) >>= fun b4376 => (f_pluvialref16_Width.f x4342) >>= fun t4384 => (chk (t4384 ≠ 0)) >>= fun _ => (f_pluvialref16_Width.f x4342) >>= fun t4387 => ((if (decide (b4376.f1 > x4342)) = true then (some true) else ((f_pluvialref17_Within.f a0 x4342 (IntKind.i64.wrap ((IntKind.i64.wrap (Int.tdiv b4376.f2 t4384)) * t4387))) >>= fun t4393 => some (decide ((t4393.length : Int) < (2 : Int))))) : Option (Bool)) >>= fun x4395 => if x4395 = true then (some x4370) else (((if (decide (x4370 < (0 : Int))) = true then (some true) else ((at? a0 x4370) >>= fun b4404 => if (decide (b4376.f2 < b4404.f2)) = true then (some true) else (if (b4376.f2 == b4404.f2) = true then (some (decide (b4376.f0 < b4404.f0))) else (some false)))) : Option (Bool)) >>= fun x4409 => ((if x4409 = true then (some x4371) else (some x4370)) : Option (Int)) >>= fun x4411 => some x4411)) : Option (Int)) >>= fun x4412 => f_pluvialref17_Next.l1 a0 x4342 x4412 (IntKind.i64.wrap (x4371 + (1 : Int)))) else (some x4370)
partial_fixpoint
def f_pluvialref17_Next.l0 (a0 : List Tpluvialref17_Item) (x4342 : Int) : Option ((Int × (List Int) × Bool) ⊕ Unit) := if (decide (x4342 ≤ (4 : Int))) = true then ((f_pluvialref17_Next.l1 a0 x4342 (-1) 0) >>= fun x4413 => if (decide (x4413 ≥ (0 : Int))) = true then ((at? a0 x4413) >>= fun b4423 => (f_pluvialref16_Width.f x4342) >>= fun t4426 => (chk (t4426 ≠ 0)) >>= fun _ => (f_pluvialref16_Width.f x4342) >>= fun t4429 => (f_pluvialref17_Within.f a0 x4342 (IntKind.i64.wrap ((IntKind.i64.wrap (Int.tdiv b4423.f2 t4426)) * t4429))) >>= fun t4433 => some (.inl (x4342, t4433, true))) else (f_pluvialref17_Next.l0 a0 (IntKind.i64.wrap (x4342 + (1 : Int))))) else (some (.inr ()))
partial_fixpoint
def f_pluvialref17_Next.f (a0 : List Tpluvialref17_Item) : Option (Int × (List Int) × Bool) := (f_pluvialref17_Next.l0 a0 0) >>= fun oo => match oo with | .inl rr => (some rr) | .inr _ => (some (0, [], false))
theorem f_pluvialref17_Next.ok (a0 : List Tpluvialref17_Item) (r : Int × (List Int) × Bool) (H : f_pluvialref17_Next.f a0 = some r) : Pv.Fn Try.prog 20 [.im (.row (a0.map epluvialref17_Item))] [] 0 (fun x o => x = .tup [iV .i64 r.1, .own 0, bV r.2.2] ∧ o = [(0, some (.row 1 3 (r.2.1.map (encInt .i64))))]) := by
  unfold f_pluvialref17_Next.f at H
  refine Fn.bodyK [0] Try.func20 rfl rfl (fun Γ hP hn => ?_)
  have hm : Try.prog.follows .mixedOrders = true := by kernel_rfl
  replace hn : Γ.n = 96 := hn
  refine AWp.seq ?_
  refine reg hP hn hm [] [0] [] ⟨[(0, .im (.row (a0.map epluvialref17_Item)))], [], 0⟩ [] (by kernel_rfl) trivial ?_
  refine AWp.seq ?_
  refine AWp.seq ?_
  refine reg hP hn hm [] [0, 5] [] ⟨[(0, .im (.row (a0.map epluvialref17_Item))), (5, iV .i64 0)], [], 0⟩ [] (by kernel_rfl) trivial ?_
  refine AWp.block ?_
  obtain ⟨o4435, e4436, H⟩ := bind_of H
  refine AWp.loop (LWp.conv (inv := []) (vk := []) (e0 := []) (t := ⟨[(0, .im (.row (a0.map epluvialref17_Item))), (5, iV .i64 0)], [], 0⟩) (by kernel_rfl) ?_)
  refine LWp.mono (Q := fun e s => (match (generalizing := false) o4435 with | .inl rr => e = .ret ∧ s.floor = 0 ∧ resOf Try.prog Try.f20 s = some (.tup [iV .i64 rr.1, .own 0, bV rr.2.2]) ∧ ([(0, s.obj 0)] : List (Nat × Option MObj)) = [(0, some (.row 1 3 (rr.2.1.map (encInt .i64))))] | .inr _ => e = .exit 0 ∧ s = ⟨[], [], 0⟩)) (LWp.cv (withBody (fun body hbody => ?_))) ?_
  · refine f_pluvialref17_Next.l0.partial_correctness a0 (motive := fun x4342 o4435 => LWp Γ body (fun e s => ∃ t, Cv Γ s t ∧ (match (generalizing := false) o4435 with | .inl rr => e = .ret ∧ t.floor = 0 ∧ resOf Try.prog Try.f20 t = some (.tup [iV .i64 rr.1, .own 0, bV rr.2.2]) ∧ ([(0, t.obj 0)] : List (Nat × Option MObj)) = [(0, some (.row 1 3 (rr.2.1.map (encInt .i64))))] | .inr _ => e = .exit 0 ∧ t = ⟨[], [], 0⟩)) ⟨[(0, .im (.row (a0.map epluvialref17_Item))), (5, iV .i64 x4342)], [], 0⟩) ?_ _ _ e4436
    clear H e4436 o4435; intro self ih x4342 o4435 H
    subst hbody
    refine LWp.round ?_
    refine AWp.seq ?_
    refine AWp.seq ?_
    refine reg hP hn hm [] [0, 5, 12] [] ⟨[(0, .im (.row (a0.map epluvialref17_Item))), (5, iV .i64 x4342), (12, bV (decide (x4342 ≤ (4 : Int))))], [], 0⟩ [] (by kernel_rfl) trivial ?_
    refine AWp.cond (decide (x4342 ≤ (4 : Int))) rfl (fun c4343 => ?_) (fun c4343 => ?_)
    · replace H := (ifT c4343).symm.trans H
      refine AWp.skip ?_
      refine AWp.seq ?_
      refine AWp.block ?_
      refine AWp.seq ?_
      refine reg hP hn hm [] [0, 5, 6] [] ⟨[(0, .im (.row (a0.map epluvialref17_Item))), (5, iV .i64 x4342), (6, iV .i64 (-1))], [], 0⟩ [] (by kernel_rfl) trivial ?_
      refine AWp.seq ?_
      refine AWp.seq ?_
      refine reg hP hn hm [] [0, 5, 6, 7] [] ⟨[(0, .im (.row (a0.map epluvialref17_Item))), (5, iV .i64 x4342), (6, iV .i64 (-1)), (7, iV .i64 0)], [], 0⟩ [] (by kernel_rfl) trivial ?_
      refine AWp.block ?_
      obtain ⟨o4437, e4438, H⟩ := bind_of H
      refine AWp.loop (LWp.conv (inv := []) (vk := []) (e0 := []) (t := ⟨[(0, .im (.row (a0.map epluvialref17_Item))), (5, iV .i64 x4342), (6, iV .i64 (-1)), (7, iV .i64 0)], [], 0⟩) (by kernel_rfl) ?_)
      refine LWp.mono (Q := fun e s => (match (generalizing := false) o4437 with | x4413 => e = .exit 2 ∧ s = ⟨[(0, .im (.row (a0.map epluvialref17_Item))), (5, iV .i64 x4342), (6, iV .i64 x4413)], [], 0⟩)) (LWp.cv (withBody (fun body hbody => ?_))) ?_
      · refine f_pluvialref17_Next.l1.partial_correctness a0 x4342 (motive := fun x4370 x4371 o4437 => LWp Γ body (fun e s => ∃ t, Cv Γ s t ∧ (match (generalizing := false) o4437 with | x4413 => e = .exit 2 ∧ t = ⟨[(0, .im (.row (a0.map epluvialref17_Item))), (5, iV .i64 x4342), (6, iV .i64 x4413)], [], 0⟩)) ⟨[(0, .im (.row (a0.map epluvialref17_Item))), (5, iV .i64 x4342), (6, iV .i64 x4370), (7, iV .i64 x4371)], [], 0⟩) ?_ _ _ _ e4438
        clear H e4438 o4437; intro self ih x4370 x4371 o4437 H
        subst hbody
        refine LWp.round ?_
        refine AWp.seq ?_
        refine AWp.seq ?_
        refine reg hP hn hm [(2, .any (iV .i64 (a0.length : Int)))] [0, 5, 6, 7, 18] [] ⟨[(0, .im (.row (a0.map epluvialref17_Item))), (5, iV .i64 x4342), (6, iV .i64 x4370), (7, iV .i64 x4371), (18, bV (decide (x4371 < (a0.length : Int))))], [], 0⟩ [((a0.map epluvialref17_Item).length : Int) = (a0.length : Int)] (by kernel_rfl) ⟨by rw [len_map], trivial⟩ ?_
        refine AWp.cond (decide (x4371 < (a0.length : Int))) rfl (fun c4372 => ?_) (fun c4372 => ?_)
        · replace H := (ifT c4372).symm.trans H
          refine AWp.skip ?_
          refine AWp.seq ?_
          obtain ⟨o4439, e4440, H⟩ := bind_of H
          refine AWp.mono (Q := fun e s => (match (generalizing := false) o4439 with | x4412 => e = .normal ∧ s = ⟨[(0, .im (.row (a0.map epluvialref17_Item))), (5, iV .i64 x4342), (6, iV .i64 x4412), (7, iV .i64 x4371)], [], 0⟩)) (AWp.cv ?_) ?_
          · replace H := e4440; clear e4440
            refine AWp.block ?_
            refine AWp.seq ?_
            obtain ⟨b4376, p4377, q4378, H⟩ := at_of H
            refine reg hP hn hm [(2, .c (epluvialref17_Item b4376)), (4, .k 10)] [0, 5, 6, 7, 8] [10] ⟨[(0, .im (.row (a0.map epluvialref17_Item))), (5, iV .i64 x4342), (6, iV .i64 x4370), (7, iV .i64 x4371), (8, .ptr 10 0 0)], [(10, some (.box 31 (apluvialref17_Item b4376)))], 0⟩ [0 ≤ x4371, (a0.map epluvialref17_Item)[(Int.toNat (x4371))]? = some (epluvialref17_Item b4376)] (by kernel_rfl) ⟨by exact p4377, by exact el_map epluvialref17_Item q4378, trivial⟩ ?_
            refine AWp.seq ?_
            obtain ⟨t4384, e4385, H⟩ := bind_of H
            obtain ⟨c4386, H⟩ := chk_of H
            obtain ⟨t4387, e4388, H⟩ := bind_of H
            refine reg hP hn hm [(3, .call [] [] [] [] 0 (iV .i64 t4384) []), (6, .call [] [] [] [] 0 (iV .i64 t4387) [])] [0, 5, 6, 7, 8, 9] [10] ⟨[(0, .im (.row (a0.map epluvialref17_Item))), (5, iV .i64 x4342), (6, iV .i64 x4370), (7, iV .i64 x4371), (8, .ptr 10 0 0), (9, iV .i64 (IntKind.i64.wrap ((IntKind.i64.wrap (Int.tdiv b4376.f2 t4384)) * t4387)))], [(10, some (.box 31 (apluvialref17_Item b4376)))], 0⟩ [Enters Try.prog 19, Pv.Fn Try.prog 19 [iV .i64 x4342] [] 0 (fun r o => r = iV .i64 t4384 ∧ o = []), t4384 ≠ 0, Enters Try.prog 19, Pv.Fn Try.prog 19 [iV .i64 x4342] [] 0 (fun r o => r = iV .i64 t4387 ∧ o = [])] (by kernel_rfl) ⟨by exact Try.call19, by exact f_pluvialref16_Width.ok x4342 t4384 e4385, by exact c4386, by exact Try.call19, by exact f_pluvialref16_Width.ok x4342 t4387 e4388, trivial⟩ ?_
            refine AWp.seq ?_
            refine AWp.seq ?_
            obtain ⟨o4441, e4442, H⟩ := bind_of H
            refine AWp.mono (Q := fun e s => (match (generalizing := false) o4441 with | x4395 => e = .normal ∧ s = ⟨[(0, .im (.row (a0.map epluvialref17_Item))), (5, iV .i64 x4342), (6, iV .i64 x4370), (7, iV .i64 x4371), (8, .ptr 12 0 0), (44, bV x4395)], [(12, some (.box 31 (apluvialref17_Item b4376)))], 0⟩)) (AWp.cv ?_) ?_
            · replace H := e4442; clear e4442
              rcases Bool.eq_false_or_eq_true (decide (b4376.f1 > x4342)) with c4392 | c4392
              · replace H := (ifT c4392).symm.trans H
                refine reg hP hn hm [(4, .b true)] [0, 5, 6, 7, 8, 44] [10] ⟨[(0, .im (.row (a0.map epluvialref17_Item))), (5, iV .i64 x4342), (6, iV .i64 x4370), (7, iV .i64 x4371), (8, .ptr 10 0 0), (44, bV true)], [(10, some (.box 31 (apluvialref17_Item b4376)))], 0⟩ [(decide (b4376.f1 > x4342)) = true] (by kernel_rfl) ⟨by exact c4392, trivial⟩ ?_
                obtain rfl := Option.some.inj H
                exact Exists.intro _ (And.intro (fun _ _ h => h.conv (inv := [(10, 12)]) (vk := []) (e0 := []) (t := ⟨[(0, .im (.row (a0.map epluvialref17_Item))), (5, iV .i64 x4342), (6, iV .i64 x4370), (7, iV .i64 x4371), (8, .ptr 12 0 0), (44, bV true)], [(12, some (.box 31 (apluvialref17_Item b4376)))], 0⟩) (by kernel_rfl)) (And.intro rfl rfl))
              · replace H := (ifF c4392).symm.trans H
                obtain ⟨t4393, e4394, H⟩ := bind_of H
                refine reg hP hn hm [(4, .b false), (8, .call [] [(0, 11)] [] [11] 0 (.own 0) [(0, some (.row 1 3 (t4393.map (encInt .i64))))]), (9, .any (iV .i64 (t4393.length : Int)))] [0, 5, 6, 7, 8, 38, 39, 40, 41, 42, 43, 44] [10, 11] ⟨[(0, .im (.row (a0.map epluvialref17_Item))), (5, iV .i64 x4342), (6, iV .i64 x4370), (7, iV .i64 x4371), (8, .ptr 10 0 0), (38, .im (.row (a0.map epluvialref17_Item))), (39, iV .i64 x4342), (40, iV .i64 (IntKind.i64.wrap ((IntKind.i64.wrap (Int.tdiv b4376.f2 t4384)) * t4387))), (41, .own 11), (42, iV .i64 (t4393.length : Int)), (43, bV (decide ((t4393.length : Int) < (2 : Int)))), (44, bV (decide ((t4393.length : Int) < (2 : Int))))], [(10, some (.box 31 (apluvialref17_Item b4376))), (11, some (.row 1 3 (t4393.map (encInt .i64))))], 0⟩ [(decide (b4376.f1 > x4342)) = false, Enters Try.prog 23, Pv.Fn Try.prog 23 [.im (.row (a0.map epluvialref17_Item)), iV .i64 x4342, iV .i64 (IntKind.i64.wrap ((IntKind.i64.wrap (Int.tdiv b4376.f2 t4384)) * t4387))] [] 0 (fun r o => r = .own 0 ∧ o = [(0, some (.row 1 3 (t4393.map (encInt .i64))))]), ((t4393.map (encInt .i64)).length : Int) = (t4393.length : Int)] (by kernel_rfl) ⟨by exact c4392, by exact Try.call23, by exact f_pluvialref17_Within.ok a0 x4342 (IntKind.i64.wrap ((IntKind.i64.wrap (Int.tdiv b4376.f2 t4384)) * t4387)) t4393 e4394, by rw [len_map], trivial⟩ ?_
                obtain rfl := Option.some.inj H
                exact Exists.intro _ (And.intro (fun _ _ h => h.conv (inv := [(10, 12)]) (vk := []) (e0 := []) (t := ⟨[(0, .im (.row (a0.map epluvialref17_Item))), (5, iV .i64 x4342), (6, iV .i64 x4370), (7, iV .i64 x4371), (8, .ptr 12 0 0), (44, bV (decide ((t4393.length : Int) < (2 : Int))))], [(12, some (.box 31 (apluvialref17_Item b4376)))], 0⟩) (by kernel_rfl)) (And.intro rfl rfl))
            · obtain ⟨x4395, rfl⟩ : ∃ z, z = o4441 := ⟨_, rfl⟩
              rintro e s ⟨rfl, rfl⟩
              refine AWp.cond x4395 rfl (fun c4396 => ?_) (fun c4396 => ?_)
              · replace H := (ifT c4396).symm.trans H
                refine AWp.exit ?_
                obtain rfl := Option.some.inj H
                exact Exists.intro _ (And.intro (fun _ _ h => h.conv (inv := []) (vk := []) (e0 := []) (t := ⟨[(0, .im (.row (a0.map epluvialref17_Item))), (5, iV .i64 x4342), (6, iV .i64 x4370), (7, iV .i64 x4371)], [], 0⟩) (by kernel_rfl)) (And.intro rfl rfl))
              · replace H := (ifF c4396).symm.trans H
                refine AWp.skip ?_
                refine AWp.seq ?_
                obtain ⟨o4443, e4444, H⟩ := bind_of H
                refine AWp.mono (Q := fun e s => (match (generalizing := false) o4443 with | x4409 => e = .normal ∧ s = ⟨[(0, .im (.row (a0.map epluvialref17_Item))), (5, iV .i64 x4342), (6, iV .i64 x4370), (7, iV .i64 x4371), (76, bV x4409)], [], 0⟩)) (AWp.cv ?_) ?_
                · replace H := e4444; clear e4444
                  rcases Bool.eq_false_or_eq_true (decide (x4370 < (0 : Int))) with c4403 | c4403
                  · replace H := (ifT c4403).symm.trans H
                    refine reg hP hn hm [(2, .b true)] [0, 5, 6, 7, 76] [] ⟨[(0, .im (.row (a0.map epluvialref17_Item))), (5, iV .i64 x4342), (6, iV .i64 x4370), (7, iV .i64 x4371), (76, bV true)], [], 0⟩ [(decide (x4370 < (0 : Int))) = true] (by kernel_rfl) ⟨by exact c4403, trivial⟩ ?_
                    obtain rfl := Option.some.inj H
                    exact Exists.intro _ (And.intro (fun _ _ h => h.conv (inv := []) (vk := []) (e0 := []) (t := ⟨[(0, .im (.row (a0.map epluvialref17_Item))), (5, iV .i64 x4342), (6, iV .i64 x4370), (7, iV .i64 x4371), (76, bV true)], [], 0⟩) (by kernel_rfl)) (And.intro rfl rfl))
                  · replace H := (ifF c4403).symm.trans H
                    obtain ⟨b4404, p4405, q4406, H⟩ := at_of H
                    rcases Bool.eq_false_or_eq_true (decide (b4376.f2 < b4404.f2)) with c4407 | c4407
                    · replace H := (ifT c4407).symm.trans H
                      refine reg hP hn hm [(2, .b false), (7, .c (epluvialref17_Item b4404)), (12, .b true)] [0, 5, 6, 7, 48, 49, 50, 51, 52, 53, 54, 55, 76] [12] ⟨[(0, .im (.row (a0.map epluvialref17_Item))), (5, iV .i64 x4342), (6, iV .i64 x4370), (7, iV .i64 x4371), (48, .ptr 12 0 2), (49, iV .i64 b4376.f2), (50, .im (.row (a0.map epluvialref17_Item))), (51, iV .i64 x4370), (52, .ip [iI .i64 b4404.f0, iI .i64 b4404.f1, iI .i64 b4404.f2, iI .i64 b4404.f3]), (53, .ip [iI .i64 b4404.f2, iI .i64 b4404.f3]), (54, iV .i64 b4404.f2), (55, bV (decide (b4376.f2 < b4404.f2))), (76, bV true)], [(12, some (.box 31 (apluvialref17_Item b4376)))], 0⟩ [(decide (x4370 < (0 : Int))) = false, 0 ≤ x4370, (a0.map epluvialref17_Item)[(Int.toNat (x4370))]? = some (epluvialref17_Item b4404), (decide (b4376.f2 < b4404.f2)) = true] (by kernel_rfl) ⟨by exact c4403, by exact p4405, by exact el_map epluvialref17_Item q4406, by exact c4407, trivial⟩ ?_
                      obtain rfl := Option.some.inj H
                      exact Exists.intro _ (And.intro (fun _ _ h => h.conv (inv := []) (vk := []) (e0 := []) (t := ⟨[(0, .im (.row (a0.map epluvialref17_Item))), (5, iV .i64 x4342), (6, iV .i64 x4370), (7, iV .i64 x4371), (76, bV true)], [], 0⟩) (by kernel_rfl)) (And.intro rfl rfl))
                    · replace H := (ifF c4407).symm.trans H
                      rcases Bool.eq_false_or_eq_true (b4376.f2 == b4404.f2) with c4408 | c4408
                      · replace H := (ifT c4408).symm.trans H
                        refine reg hP hn hm [(2, .b false), (7, .c (epluvialref17_Item b4404)), (12, .b false), (17, .c (epluvialref17_Item b4404)), (21, .b true), (26, .c (epluvialref17_Item b4404))] [0, 5, 6, 7, 48, 49, 50, 51, 52, 53, 54, 55, 58, 59, 60, 61, 62, 63, 64, 65, 66, 67, 68, 69, 70, 71, 72, 73, 74, 75, 76] [12] ⟨[(0, .im (.row (a0.map epluvialref17_Item))), (5, iV .i64 x4342), (6, iV .i64 x4370), (7, iV .i64 x4371), (48, .ptr 12 0 2), (49, iV .i64 b4376.f2), (50, .im (.row (a0.map epluvialref17_Item))), (51, iV .i64 x4370), (52, .ip [iI .i64 b4404.f0, iI .i64 b4404.f1, iI .i64 b4404.f2, iI .i64 b4404.f3]), (53, .ip [iI .i64 b4404.f2, iI .i64 b4404.f3]), (54, iV .i64 b4404.f2), (55, bV (decide (b4376.f2 < b4404.f2))), (58, .ptr 12 0 2), (59, iV .i64 b4376.f2), (60, .im (.row (a0.map epluvialref17_Item))), (61, iV .i64 x4370), (62, .ip [iI .i64 b4404.f0, iI .i64 b4404.f1, iI .i64 b4404.f2, iI .i64 b4404.f3]), (63, .ip [iI .i64 b4404.f2, iI .i64 b4404.f3]), (64, iV .i64 b4404.f2), (65, bV (b4376.f2 == b4404.f2)), (66, bV true), (67, .ptr 12 0 0), (68, iV .i64 b4376.f0), (69, .im (.row (a0.map epluvialref17_Item))), (70, iV .i64 x4370), (71, .ip [iI .i64 b4404.f0, iI .i64 b4404.f1, iI .i64 b4404.f2, iI .i64 b4404.f3]), (72, .ip [iI .i64 b4404.f0, iI .i64 b4404.f1, iI .i64 b4404.f2, iI .i64 b4404.f3]), (73, iV .i64 b4404.f0), (74, bV (decide (b4376.f0 < b4404.f0))), (75, bV (decide (b4376.f0 < b4404.f0))), (76, bV (decide (b4376.f0 < b4404.f0)))], [(12, some (.box 31 (apluvialref17_Item b4376)))], 0⟩ [(decide (x4370 < (0 : Int))) = false, 0 ≤ x4370, (a0.map epluvialref17_Item)[(Int.toNat (x4370))]? = some (epluvialref17_Item b4404), (decide (b4376.f2 < b4404.f2)) = false, 0 ≤ x4370, (a0.map epluvialref17_Item)[(Int.toNat (x4370))]? = some (epluvialref17_Item b4404), (b4376.f2 == b4404.f2) = true, 0 ≤ x4370, (a0.map epluvialref17_Item)[(Int.toNat (x4370))]? = some (epluvialref17_Item b4404)] (by kernel_rfl) ⟨by exact c4403, by exact p4405, by exact el_map epluvialref17_Item q4406, by exact c4407, by exact p4405, by exact el_map epluvialref17_Item q4406, by exact c4408, by exact p4405, by exact el_map epluvialref17_Item q4406, trivial⟩ ?_
                        obtain rfl := Option.some.inj H
                        exact Exists.intro _ (And.intro (fun _ _ h => h.conv (inv := []) (vk := []) (e0 := []) (t := ⟨[(0, .im (.row (a0.map epluvialref17_Item))), (5, iV .i64 x4342), (6, iV .i64 x4370), (7, iV .i64 x4371), (76, bV (decide (b4376.f0 < b4404.f0)))], [], 0⟩) (by kernel_rfl)) (And.intro rfl rfl))
                      · replace H := (ifF c4408).symm.trans H
                        refine reg hP hn hm [(2, .b false), (7, .c (epluvialref17_Item b4404)), (12, .b false), (17, .c (epluvialref17_Item b4404)), (21, .b false)] [0, 5, 6, 7, 48, 49, 50, 51, 52, 53, 54, 55, 58, 59, 60, 61, 62, 63, 64, 65, 66, 75, 76] [12] ⟨[(0, .im (.row (a0.map epluvialref17_Item))), (5, iV .i64 x4342), (6, iV .i64 x4370), (7, iV .i64 x4371), (48, .ptr 12 0 2), (49, iV .i64 b4376.f2), (50, .im (.row (a0.map epluvialref17_Item))), (51, iV .i64 x4370), (52, .ip [iI .i64 b4404.f0, iI .i64 b4404.f1, iI .i64 b4404.f2, iI .i64 b4404.f3]), (53, .ip [iI .i64 b4404.f2, iI .i64 b4404.f3]), (54, iV .i64 b4404.f2), (55, bV (decide (b4376.f2 < b4404.f2))), (58, .ptr 12 0 2), (59, iV .i64 b4376.f2), (60, .im (.row (a0.map epluvialref17_Item))), (61, iV .i64 x4370), (62, .ip [iI .i64 b4404.f0, iI .i64 b4404.f1, iI .i64 b4404.f2, iI .i64 b4404.f3]), (63, .ip [iI .i64 b4404.f2, iI .i64 b4404.f3]), (64, iV .i64 b4404.f2), (65, bV (b4376.f2 == b4404.f2)), (66, bV false), (75, bV false), (76, bV false)], [(12, some (.box 31 (apluvialref17_Item b4376)))], 0⟩ [(decide (x4370 < (0 : Int))) = false, 0 ≤ x4370, (a0.map epluvialref17_Item)[(Int.toNat (x4370))]? = some (epluvialref17_Item b4404), (decide (b4376.f2 < b4404.f2)) = false, 0 ≤ x4370, (a0.map epluvialref17_Item)[(Int.toNat (x4370))]? = some (epluvialref17_Item b4404), (b4376.f2 == b4404.f2) = false] (by kernel_rfl) ⟨by exact c4403, by exact p4405, by exact el_map epluvialref17_Item q4406, by exact c4407, by exact p4405, by exact el_map epluvialref17_Item q4406, by exact c4408, trivial⟩ ?_
                        obtain rfl := Option.some.inj H
                        exact Exists.intro _ (And.intro (fun _ _ h => h.conv (inv := []) (vk := []) (e0 := []) (t := ⟨[(0, .im (.row (a0.map epluvialref17_Item))), (5, iV .i64 x4342), (6, iV .i64 x4370), (7, iV .i64 x4371), (76, bV false)], [], 0⟩) (by kernel_rfl)) (And.intro rfl rfl))
                · obtain ⟨x4409, rfl⟩ : ∃ z, z = o4443 := ⟨_, rfl⟩
                  rintro e s ⟨rfl, rfl⟩
                  obtain ⟨o4445, e4446, H⟩ := bind_of H
                  refine AWp.mono (Q := fun e s => (match (generalizing := false) o4445 with | x4411 => e = .normal ∧ s = ⟨[(0, .im (.row (a0.map epluvialref17_Item))), (5, iV .i64 x4342), (6, iV .i64 x4411), (7, iV .i64 x4371)], [], 0⟩)) (AWp.cv ?_) ?_
                  · replace H := e4446; clear e4446
                    refine AWp.cond x4409 rfl (fun c4410 => ?_) (fun c4410 => ?_)
                    · replace H := (ifT c4410).symm.trans H
                      refine reg hP hn hm [] [0, 5, 6, 7] [] ⟨[(0, .im (.row (a0.map epluvialref17_Item))), (5, iV .i64 x4342), (6, iV .i64 x4371), (7, iV .i64 x4371)], [], 0⟩ [] (by kernel_rfl) trivial ?_
                      obtain rfl := Option.some.inj H
                      exact Exists.intro _ (And.intro (fun _ _ h => h.conv (inv := []) (vk := []) (e0 := []) (t := ⟨[(0, .im (.row (a0.map epluvialref17_Item))), (5, iV .i64 x4342), (6, iV .i64 x4371), (7, iV .i64 x4371)], [], 0⟩) (by kernel_rfl)) (And.intro rfl rfl))
                    · replace H := (ifF c4410).symm.trans H
                      refine AWp.skip ?_
                      obtain rfl := Option.some.inj H
                      exact Exists.intro _ (And.intro (fun _ _ h => h.conv (inv := []) (vk := []) (e0 := []) (t := ⟨[(0, .im (.row (a0.map epluvialref17_Item))), (5, iV .i64 x4342), (6, iV .i64 x4370), (7, iV .i64 x4371)], [], 0⟩) (by kernel_rfl)) (And.intro rfl rfl))
                  · obtain ⟨x4411, rfl⟩ : ∃ z, z = o4445 := ⟨_, rfl⟩
                    rintro e s ⟨rfl, rfl⟩
                    obtain rfl := Option.some.inj H
                    exact Exists.intro _ (And.intro (fun _ _ h => h.conv (inv := []) (vk := []) (e0 := []) (t := ⟨[(0, .im (.row (a0.map epluvialref17_Item))), (5, iV .i64 x4342), (6, iV .i64 x4411), (7, iV .i64 x4371)], [], 0⟩) (by kernel_rfl)) (And.intro rfl rfl))
          · obtain ⟨x4412, rfl⟩ : ∃ z, z = o4439 := ⟨_, rfl⟩
            rintro e s ⟨rfl, rfl⟩
            refine reg hP hn hm [] [0, 5, 6, 7] [] ⟨[(0, .im (.row (a0.map epluvialref17_Item))), (5, iV .i64 x4342), (6, iV .i64 x4412), (7, iV .i64 (IntKind.i64.wrap (x4371 + (1 : Int))))], [], 0⟩ [] (by kernel_rfl) trivial ?_
            exact LWp.conv (inv := []) (vk := []) (e0 := []) (t := ⟨[(0, .im (.row (a0.map epluvialref17_Item))), (5, iV .i64 x4342), (6, iV .i64 x4412), (7, iV .i64 (IntKind.i64.wrap (x4371 + (1 : Int))))], [], 0⟩) (by kernel_rfl) (ih _ _ _ H)
        · replace H := (ifF c4372).symm.trans H
          refine AWp.exit ?_
          obtain rfl := Option.some.inj H
          exact Exists.intro _ (And.intro (fun _ _ h => h.conv (inv := []) (vk := []) (e0 := []) (t := ⟨[(0, .im (.row (a0.map epluvialref17_Item))), (5, iV .i64 x4342), (6, iV .i64 x4370)], [], 0⟩) (by kernel_rfl)) (And.intro rfl rfl))
      · obtain ⟨x4413, rfl⟩ : ∃ z, z = o4437 := ⟨_, rfl⟩
        rintro e s ⟨rfl, rfl⟩
        refine AWp.seq ?_
        refine reg hP hn hm [] [0, 5, 6, 79] [] ⟨[(0, .im (.row (a0.map epluvialref17_Item))), (5, iV .i64 x4342), (6, iV .i64 x4413), (79, bV (decide (x4413 ≥ (0 : Int))))], [], 0⟩ [] (by kernel_rfl) trivial ?_
        refine AWp.cond (decide (x4413 ≥ (0 : Int))) rfl (fun c4414 => ?_) (fun c4414 => ?_)
        · replace H := (ifT c4414).symm.trans H
          refine AWp.seq ?_
          obtain ⟨b4423, p4424, q4425, H⟩ := at_of H
          obtain ⟨t4426, e4427, H⟩ := bind_of H
          obtain ⟨c4428, H⟩ := chk_of H
          obtain ⟨t4429, e4430, H⟩ := bind_of H
          refine reg hP hn hm [(2, .c (epluvialref17_Item b4423)), (6, .call [] [] [] [] 0 (iV .i64 t4426) []), (9, .call [] [] [] [] 0 (iV .i64 t4429) [])] [0, 5, 10] [] ⟨[(0, .im (.row (a0.map epluvialref17_Item))), (5, iV .i64 x4342), (10, iV .i64 (IntKind.i64.wrap ((IntKind.i64.wrap (Int.tdiv b4423.f2 t4426)) * t4429)))], [], 0⟩ [0 ≤ x4413, (a0.map epluvialref17_Item)[(Int.toNat (x4413))]? = some (epluvialref17_Item b4423), Enters Try.prog 19, Pv.Fn Try.prog 19 [iV .i64 x4342] [] 0 (fun r o => r = iV .i64 t4426 ∧ o = []), t4426 ≠ 0, Enters Try.prog 19, Pv.Fn Try.prog 19 [iV .i64 x4342] [] 0 (fun r o => r = iV .i64 t4429 ∧ o = [])] (by kernel_rfl) ⟨by exact p4424, by exact el_map epluvialref17_Item q4425, by exact Try.call19, by exact f_pluvialref16_Width.ok x4342 t4426 e4427, by exact c4428, by exact Try.call19, by exact f_pluvialref16_Width.ok x4342 t4429 e4430, trivial⟩ ?_
          refine AWp.seq ?_
          obtain ⟨t4433, e4434, H⟩ := bind_of H
          refine reg hP hn hm [(4, .call [] [(0, 13)] [] [13] 0 (.own 0) [(0, some (.row 1 3 (t4433.map (encInt .i64))))])] [2, 3, 4] [13] ⟨[(2, iV .i64 x4342), (3, .own 13), (4, bV true)], [(13, some (.row 1 3 (t4433.map (encInt .i64))))], 0⟩ [Enters Try.prog 23, Pv.Fn Try.prog 23 [.im (.row (a0.map epluvialref17_Item)), iV .i64 x4342, iV .i64 (IntKind.i64.wrap ((IntKind.i64.wrap (Int.tdiv b4423.f2 t4426)) * t4429))] [] 0 (fun r o => r = .own 0 ∧ o = [(0, some (.row 1 3 (t4433.map (encInt .i64))))])] (by kernel_rfl) ⟨by exact Try.call23, by exact f_pluvialref17_Within.ok a0 x4342 (IntKind.i64.wrap ((IntKind.i64.wrap (Int.tdiv b4423.f2 t4426)) * t4429)) t4433 e4434, trivial⟩ ?_
          refine AWp.conv (inv := [(13, 0)]) (vk := []) (e0 := []) (t := ⟨[(2, iV .i64 x4342), (3, .own 0), (4, bV true)], [(0, some (.row 1 3 (t4433.map (encInt .i64))))], 0⟩) (by kernel_rfl) ?_
          refine AWp.ret ?_
          obtain rfl := Option.some.inj H
          exact Exists.intro _ (And.intro (fun _ _ h => h) (And.intro rfl (And.intro rfl (And.intro (by kernel_rfl) (by kernel_rfl)))))
        · replace H := (ifF c4414).symm.trans H
          refine AWp.skip ?_
          refine reg hP hn hm [] [0, 5] [] ⟨[(0, .im (.row (a0.map epluvialref17_Item))), (5, iV .i64 (IntKind.i64.wrap (x4342 + (1 : Int))))], [], 0⟩ [] (by kernel_rfl) trivial ?_
          exact LWp.conv (inv := []) (vk := []) (e0 := []) (t := ⟨[(0, .im (.row (a0.map epluvialref17_Item))), (5, iV .i64 (IntKind.i64.wrap (x4342 + (1 : Int))))], [], 0⟩) (by kernel_rfl) (ih _ _ H)
    · replace H := (ifF c4343).symm.trans H
      refine AWp.exit ?_
      obtain rfl := Option.some.inj H
      exact Exists.intro _ (And.intro (fun _ _ h => h.conv (inv := []) (vk := []) (e0 := []) (t := ⟨[], [], 0⟩) (by kernel_rfl)) (And.intro rfl rfl))
  · rcases o4435 with rr | _
    · skip
      rintro e s ⟨rfl, hfl, hres⟩
      obtain rfl := Option.some.inj H
      exact Exists.intro _ (And.intro (fun _ _ h => h) (And.intro (.inl rfl) (And.intro hfl hres)))
    · skip
      rintro e s ⟨rfl, rfl⟩
      refine AWp.seq ?_
      refine reg hP hn hm [] [2, 3, 4] [] ⟨[(2, iV .i64 0), (3, .none0), (4, bV false)], [], 0⟩ [] (by kernel_rfl) trivial ?_
      refine AWp.conv (inv := []) (vk := []) (e0 := [0]) (t := ⟨[(2, iV .i64 0), (3, .own 0), (4, bV false)], [(0, some (.row 1 3 ([].map (encInt .i64))))], 0⟩) (by kernel_rfl) ?_
      refine AWp.ret ?_
      obtain rfl := Option.some.inj H
      exact Exists.intro _ (And.intro (fun _ _ h => h) (And.intro (.inl rfl) (And.intro rfl (And.intro (by kernel_rfl) (by kernel_rfl)))))
def f_plan_Apart.l0 (t4458 : List Tplan_Item) (x4467 : Int) (x4468 : Int) : Option (Bool ⊕ Unit) := if (decide (x4468 < (t4458.length : Int))) = true then ((at? t4458 x4468) >>= fun b4473 => ((if (decide (x4468 > (0 : Int))) = true then (some (decide (b4473.f1.f0 < x4467))) else (some false)) : Option (Bool)) >>= fun x4478 => if x4478 = true then (some (.inl false)) else (f_plan_Apart.l0 t4458 (if b4473.f1.f1 > x4467 then b4473.f1.f1 else x4467) (IntKind.i64.wrap (x4468 + (1 : Int))))) else (some (.inr ()))
partial_fixpoint
def f_plan_Apart.f (a0 : List Tplan_Item) : Option (Bool) := (f_plan_sorted.f a0) >>= fun t4458 => (f_plan_Apart.l0 t4458 0 0) >>= fun oo => match oo with | .inl rr => (some rr) | .inr _ => (some true)
theorem f_plan_Apart.ok (a0 : List Tplan_Item) (r : Bool) (H : f_plan_Apart.f a0 = some r) : Pv.Fn Try.prog 18 [.im (.row (a0.map eplan_Item))] [] 0 (fun x o => x = bV r ∧ o = []) := by
  unfold f_plan_Apart.f at H
  refine Fn.bodyK [] Try.func18 rfl rfl (fun Γ hP hn => ?_)
  have hm : Try.prog.follows .mixedOrders = true := by kernel_rfl
  replace hn : Γ.n = 30 := hn
  refine AWp.seq ?_
  refine reg hP hn hm [] [0] [] ⟨[(0, .im (.row (a0.map eplan_Item)))], [], 0⟩ [] (by kernel_rfl) trivial ?_
  refine AWp.seq ?_
  obtain ⟨t4458, e4459, H⟩ := bind_of H
  refine reg hP hn hm [(1, .call [] [(0, 0)] [] [0] 0 (.own 0) [(0, some (.row 4 89 (t4458.map eplan_Item)))])] [0] [0] ⟨[(0, .own 0)], [(0, some (.row 4 89 (t4458.map eplan_Item)))], 0⟩ [Enters Try.prog 35, Pv.Fn Try.prog 35 [.im (.row (a0.map eplan_Item))] [] 0 (fun r o => r = .own 0 ∧ o = [(0, some (.row 4 89 (t4458.map eplan_Item)))])] (by kernel_rfl) ⟨by exact Try.call35, by exact f_plan_sorted.ok a0 t4458 e4459, trivial⟩ ?_
  refine AWp.seq ?_
  refine reg hP hn hm [] [0, 3] [0] ⟨[(0, .own 0), (3, iV .i64 0)], [(0, some (.row 4 89 (t4458.map eplan_Item)))], 0⟩ [] (by kernel_rfl) trivial ?_
  refine AWp.seq ?_
  refine AWp.seq ?_
  refine reg hP hn hm [(1, .any (iV .i64 (t4458.length : Int)))] [3, 8, 9, 10] [0] ⟨[(3, iV .i64 0), (8, .own 0), (9, iV .i64 (t4458.length : Int)), (10, iV .i64 0)], [(0, some (.row 4 89 (t4458.map eplan_Item)))], 0⟩ [((t4458.map eplan_Item).length : Int) = (t4458.length : Int)] (by kernel_rfl) ⟨by rw [len_map], trivial⟩ ?_
  refine AWp.block ?_
  obtain ⟨o4480, e4481, H⟩ := bind_of H
  refine AWp.loop (LWp.conv (inv := [(0, 2)]) (vk := []) (e0 := []) (t := ⟨[(3, iV .i64 0), (8, .own 2), (9, iV .i64 (t4458.length : Int)), (10, iV .i64 0)], [(2, some (.row 4 89 (t4458.map eplan_Item)))], 0⟩) (by kernel_rfl) ?_)
  refine LWp.mono (Q := fun e s => (match (generalizing := false) o4480 with | .inl rr => e = .ret ∧ s.floor = 0 ∧ resOf Try.prog Try.f18 s = some (bV rr) ∧ ([] : List (Nat × Option MObj)) = [] | .inr _ => e = .exit 0 ∧ s = ⟨[], [], 0⟩)) (LWp.cv (withBody (fun body hbody => ?_))) ?_
  · refine f_plan_Apart.l0.partial_correctness t4458 (motive := fun x4467 x4468 o4480 => LWp Γ body (fun e s => ∃ t, Cv Γ s t ∧ (match (generalizing := false) o4480 with | .inl rr => e = .ret ∧ t.floor = 0 ∧ resOf Try.prog Try.f18 t = some (bV rr) ∧ ([] : List (Nat × Option MObj)) = [] | .inr _ => e = .exit 0 ∧ t = ⟨[], [], 0⟩)) ⟨[(3, iV .i64 x4467), (8, .own 2), (9, iV .i64 (t4458.length : Int)), (10, iV .i64 x4468)], [(2, some (.row 4 89 (t4458.map eplan_Item)))], 0⟩) ?_ _ _ _ e4481
    clear H e4481 o4480; intro self ih x4467 x4468 o4480 H
    subst hbody
    refine LWp.round ?_
    refine AWp.seq ?_
    refine reg hP hn hm [] [3, 8, 9, 10, 11] [2] ⟨[(3, iV .i64 x4467), (8, .own 2), (9, iV .i64 (t4458.length : Int)), (10, iV .i64 x4468), (11, bV (decide (x4468 < (t4458.length : Int))))], [(2, some (.row 4 89 (t4458.map eplan_Item)))], 0⟩ [] (by kernel_rfl) trivial ?_
    refine AWp.seq ?_
    refine AWp.cond (decide (x4468 < (t4458.length : Int))) rfl (fun c4469 => ?_) (fun c4469 => ?_)
    · replace H := (ifT c4469).symm.trans H
      refine AWp.skip ?_
      refine AWp.seq ?_
      refine AWp.block ?_
      refine AWp.seq ?_
      obtain ⟨b4473, p4474, q4475, H⟩ := at_of H
      refine reg hP hn hm [(2, .c (eplan_Item b4473)), (3, .k 3)] [3, 4, 5, 8, 9, 10] [2, 3] ⟨[(3, iV .i64 x4467), (4, iV .i64 x4468), (5, .ptr 3 0 0), (8, .own 2), (9, iV .i64 (t4458.length : Int)), (10, iV .i64 x4468)], [(2, some (.row 4 89 (t4458.map eplan_Item))), (3, some (.box 89 [iV .i64 b4473.f0, iV .i64 b4473.f1.f0, iV .i64 b4473.f1.f1, iV .i64 b4473.f1.f2]))], 0⟩ [0 ≤ x4468, x4468 < (((t4458.map eplan_Item).length : Nat) : Int), (t4458.map eplan_Item)[(Int.toNat (x4468))]? = some (eplan_Item b4473)] (by kernel_rfl) ⟨by exact p4474, by exact el_lt eplan_Item p4474 q4475, by exact el_map eplan_Item q4475, trivial⟩ ?_
      refine AWp.seq ?_
      refine AWp.seq ?_
      obtain ⟨o4482, e4483, H⟩ := bind_of H
      refine AWp.mono (Q := fun e s => (match (generalizing := false) o4482 with | x4478 => e = .normal ∧ s = ⟨[(3, iV .i64 x4467), (5, .ptr 4 0 0), (8, .own 5), (9, iV .i64 (t4458.length : Int)), (10, iV .i64 x4468), (23, bV x4478)], [(4, some (.box 89 [iV .i64 b4473.f0, iV .i64 b4473.f1.f0, iV .i64 b4473.f1.f1, iV .i64 b4473.f1.f2])), (5, some (.row 4 89 (t4458.map eplan_Item)))], 0⟩)) (AWp.cv ?_) ?_
      · replace H := e4483; clear e4483
        rcases Bool.eq_false_or_eq_true (decide (x4468 > (0 : Int))) with c4477 | c4477
        · replace H := (ifT c4477).symm.trans H
          refine reg hP hn hm [(2, .b true)] [3, 5, 8, 9, 10, 18, 19, 20, 21, 22, 23] [2, 3] ⟨[(3, iV .i64 x4467), (5, .ptr 3 0 0), (8, .own 2), (9, iV .i64 (t4458.length : Int)), (10, iV .i64 x4468), (18, .ptr 3 0 1), (19, .ptr 3 0 1), (20, iV .i64 b4473.f1.f0), (21, iV .i64 x4467), (22, bV (decide (b4473.f1.f0 < x4467))), (23, bV (decide (b4473.f1.f0 < x4467)))], [(2, some (.row 4 89 (t4458.map eplan_Item))), (3, some (.box 89 [iV .i64 b4473.f0, iV .i64 b4473.f1.f0, iV .i64 b4473.f1.f1, iV .i64 b4473.f1.f2]))], 0⟩ [(decide (x4468 > (0 : Int))) = true] (by kernel_rfl) ⟨by exact c4477, trivial⟩ ?_
          obtain rfl := Option.some.inj H
          exact Exists.intro _ (And.intro (fun _ _ h => h.conv (inv := [(3, 4), (2, 5)]) (vk := []) (e0 := []) (t := ⟨[(3, iV .i64 x4467), (5, .ptr 4 0 0), (8, .own 5), (9, iV .i64 (t4458.length : Int)), (10, iV .i64 x4468), (23, bV (decide (b4473.f1.f0 < x4467)))], [(4, some (.box 89 [iV .i64 b4473.f0, iV .i64 b4473.f1.f0, iV .i64 b4473.f1.f1, iV .i64 b4473.f1.f2])), (5, some (.row 4 89 (t4458.map eplan_Item)))], 0⟩) (by kernel_rfl)) (And.intro rfl rfl))
        · replace H := (ifF c4477).symm.trans H
          refine reg hP hn hm [(2, .b false)] [3, 5, 8, 9, 10, 23] [2, 3] ⟨[(3, iV .i64 x4467), (5, .ptr 3 0 0), (8, .own 2), (9, iV .i64 (t4458.length : Int)), (10, iV .i64 x4468), (23, bV false)], [(2, some (.row 4 89 (t4458.map eplan_Item))), (3, some (.box 89 [iV .i64 b4473.f0, iV .i64 b4473.f1.f0, iV .i64 b4473.f1.f1, iV .i64 b4473.f1.f2]))], 0⟩ [(decide (x4468 > (0 : Int))) = false] (by kernel_rfl) ⟨by exact c4477, trivial⟩ ?_
          obtain rfl := Option.some.inj H
          exact Exists.intro _ (And.intro (fun _ _ h => h.conv (inv := [(3, 4), (2, 5)]) (vk := []) (e0 := []) (t := ⟨[(3, iV .i64 x4467), (5, .ptr 4 0 0), (8, .own 5), (9, iV .i64 (t4458.length : Int)), (10, iV .i64 x4468), (23, bV false)], [(4, some (.box 89 [iV .i64 b4473.f0, iV .i64 b4473.f1.f0, iV .i64 b4473.f1.f1, iV .i64 b4473.f1.f2])), (5, some (.row 4 89 (t4458.map eplan_Item)))], 0⟩) (by kernel_rfl)) (And.intro rfl rfl))
      · obtain ⟨x4478, rfl⟩ : ∃ z, z = o4482 := ⟨_, rfl⟩
        rintro e s ⟨rfl, rfl⟩
        refine AWp.cond x4478 rfl (fun c4479 => ?_) (fun c4479 => ?_)
        · replace H := (ifT c4479).symm.trans H
          refine AWp.seq ?_
          refine reg hP hn hm [] [2] [] ⟨[(2, bV false)], [], 0⟩ [] (by kernel_rfl) trivial ?_
          refine AWp.conv (inv := []) (vk := []) (e0 := []) (t := ⟨[(2, bV false)], [], 0⟩) (by kernel_rfl) ?_
          refine AWp.ret ?_
          obtain rfl := Option.some.inj H
          exact Exists.intro _ (And.intro (fun _ _ h => h) (And.intro rfl (And.intro rfl (And.intro (by kernel_rfl) (by kernel_rfl)))))
        · replace H := (ifF c4479).symm.trans H
          refine AWp.skip ?_
          refine reg hP hn hm [(4, .more xMax)] [3, 8, 9, 10] [5] ⟨[(3, iV .i64 (if b4473.f1.f1 > x4467 then b4473.f1.f1 else x4467)), (8, .own 5), (9, iV .i64 (t4458.length : Int)), (10, iV .i64 x4468)], [(5, some (.row 4 89 (t4458.map eplan_Item)))], 0⟩ [] (by kernel_rfl) trivial ?_
          refine reg hP hn hm [] [3, 8, 9, 10] [5] ⟨[(3, iV .i64 (if b4473.f1.f1 > x4467 then b4473.f1.f1 else x4467)), (8, .own 5), (9, iV .i64 (t4458.length : Int)), (10, iV .i64 (IntKind.i64.wrap (x4468 + (1 : Int))))], [(5, some (.row 4 89 (t4458.map eplan_Item)))], 0⟩ [] (by kernel_rfl) trivial ?_
          exact LWp.conv (inv := [(5, 2)]) (vk := []) (e0 := []) (t := ⟨[(3, iV .i64 (if b4473.f1.f1 > x4467 then b4473.f1.f1 else x4467)), (8, .own 2), (9, iV .i64 (t4458.length : Int)), (10, iV .i64 (IntKind.i64.wrap (x4468 + (1 : Int))))], [(2, some (.row 4 89 (t4458.map eplan_Item)))], 0⟩) (by kernel_rfl) (ih _ _ _ H)
    · replace H := (ifF c4469).symm.trans H
      refine AWp.exit ?_
      obtain rfl := Option.some.inj H
      exact Exists.intro _ (And.intro (fun _ _ h => h.conv (inv := []) (vk := []) (e0 := []) (t := ⟨[], [], 0⟩) (by kernel_rfl)) (And.intro rfl rfl))
  · rcases o4480 with rr | _
    · skip
      rintro e s ⟨rfl, hfl, hres⟩
      obtain rfl := Option.some.inj H
      exact Exists.intro _ (And.intro (fun _ _ h => h) (And.intro (.inl rfl) (And.intro hfl hres)))
    · skip
      rintro e s ⟨rfl, rfl⟩
      refine AWp.seq ?_
      refine reg hP hn hm [] [2] [] ⟨[(2, bV true)], [], 0⟩ [] (by kernel_rfl) trivial ?_
      refine AWp.conv (inv := []) (vk := []) (e0 := []) (t := ⟨[(2, bV true)], [], 0⟩) (by kernel_rfl) ?_
      refine AWp.ret ?_
      obtain rfl := Option.some.inj H
      exact Exists.intro _ (And.intro (fun _ _ h => h) (And.intro (.inl rfl) (And.intro rfl (And.intro (by kernel_rfl) (by kernel_rfl)))))
def f_pluvialref17_Apart.l1 (a0 : List Tpluvialref17_Item) (x4488 : Int) (x4507 : Int) : Option (Bool ⊕ Unit) := if (decide (x4507 < x4488)) = true then ((((at? a0 x4488) >>= fun b4516 => (at? a0 x4507) >>= fun b4519 => if (decide (b4516.f2 < b4519.f3)) = true then (some (decide (b4519.f2 < b4516.f3))) else (some false)) : Option (Bool)) >>= fun x4523 => if x4523 = true then (some (.inl false)) else (f_pluvialref17_Apart.l1 a0 x4488 (IntKind.i64.wrap (x4507 + (1 : Int))))) else (some (.inr ()))
partial_fixpoint
def f_pluvialref17_Apart.l0 (a0 : List Tpluvialref17_Item) (x4488 : Int) : Option (Bool ⊕ Unit) := if (decide (x4488 < (a0.length : Int))) = true then ((f_pluvialref17_Apart.l1 a0 x4488 0) >>= fun oo => match oo with | .inl rr => (some (.inl rr)) | .inr _ => (f_pluvialref17_Apart.l0 a0 (IntKind.i64.wrap (x4488 + (1 : Int))))) else (some (.inr ()))
partial_fixpoint
def f_pluvialref17_Apart.f (a0 : List Tpluvialref17_Item) : Option (Bool) := (f_pluvialref17_Apart.l0 a0 0) >>= fun oo => match oo with | .inl rr => (some rr) | .inr _ => (some true)
theorem f_pluvialref17_Apart.ok (a0 : List Tpluvialref17_Item) (r : Bool) (H : f_pluvialref17_Apart.f a0 = some r) : Pv.Fn Try.prog 21 [.im (.row (a0.map epluvialref17_Item))] [] 0 (fun x o => x = bV r ∧ o = []) := by
  unfold f_pluvialref17_Apart.f at H
  refine Fn.bodyK [] Try.func21 rfl rfl (fun Γ hP hn => ?_)
  have hm : Try.prog.follows .mixedOrders = true := by kernel_rfl
  replace hn : Γ.n = 40 := hn
  refine AWp.seq ?_
  refine reg hP hn hm [] [0] [] ⟨[(0, .im (.row (a0.map epluvialref17_Item)))], [], 0⟩ [] (by kernel_rfl) trivial ?_
  refine AWp.seq ?_
  refine AWp.seq ?_
  refine reg hP hn hm [] [0, 3] [] ⟨[(0, .im (.row (a0.map epluvialref17_Item))), (3, iV .i64 0)], [], 0⟩ [] (by kernel_rfl) trivial ?_
  refine AWp.block ?_
  obtain ⟨o4525, e4526, H⟩ := bind_of H
  refine AWp.loop (LWp.conv (inv := []) (vk := []) (e0 := []) (t := ⟨[(0, .im (.row (a0.map epluvialref17_Item))), (3, iV .i64 0)], [], 0⟩) (by kernel_rfl) ?_)
  refine LWp.mono (Q := fun e s => (match (generalizing := false) o4525 with | .inl rr => e = .ret ∧ s.floor = 0 ∧ resOf Try.prog Try.f21 s = some (bV rr) ∧ ([] : List (Nat × Option MObj)) = [] | .inr _ => e = .exit 0 ∧ s = ⟨[], [], 0⟩)) (LWp.cv (withBody (fun body hbody => ?_))) ?_
  · refine f_pluvialref17_Apart.l0.partial_correctness a0 (motive := fun x4488 o4525 => LWp Γ body (fun e s => ∃ t, Cv Γ s t ∧ (match (generalizing := false) o4525 with | .inl rr => e = .ret ∧ t.floor = 0 ∧ resOf Try.prog Try.f21 t = some (bV rr) ∧ ([] : List (Nat × Option MObj)) = [] | .inr _ => e = .exit 0 ∧ t = ⟨[], [], 0⟩)) ⟨[(0, .im (.row (a0.map epluvialref17_Item))), (3, iV .i64 x4488)], [], 0⟩) ?_ _ _ e4526
    clear H e4526 o4525; intro self ih x4488 o4525 H
    subst hbody
    refine LWp.round ?_
    refine AWp.seq ?_
    refine AWp.seq ?_
    refine reg hP hn hm [(2, .any (iV .i64 (a0.length : Int)))] [0, 3, 8] [] ⟨[(0, .im (.row (a0.map epluvialref17_Item))), (3, iV .i64 x4488), (8, bV (decide (x4488 < (a0.length : Int))))], [], 0⟩ [((a0.map epluvialref17_Item).length : Int) = (a0.length : Int)] (by kernel_rfl) ⟨by rw [len_map], trivial⟩ ?_
    refine AWp.cond (decide (x4488 < (a0.length : Int))) rfl (fun c4489 => ?_) (fun c4489 => ?_)
    · replace H := (ifT c4489).symm.trans H
      refine AWp.skip ?_
      refine AWp.seq ?_
      refine AWp.block ?_
      refine AWp.seq ?_
      refine reg hP hn hm [] [0, 3, 4] [] ⟨[(0, .im (.row (a0.map epluvialref17_Item))), (3, iV .i64 x4488), (4, iV .i64 0)], [], 0⟩ [] (by kernel_rfl) trivial ?_
      refine AWp.block ?_
      obtain ⟨o4527, e4528, H⟩ := bind_of H
      refine AWp.loop (LWp.conv (inv := []) (vk := []) (e0 := []) (t := ⟨[(0, .im (.row (a0.map epluvialref17_Item))), (3, iV .i64 x4488), (4, iV .i64 0)], [], 0⟩) (by kernel_rfl) ?_)
      refine LWp.mono (Q := fun e s => (match (generalizing := false) o4527 with | .inl rr => e = .ret ∧ s.floor = 0 ∧ resOf Try.prog Try.f21 s = some (bV rr) ∧ ([] : List (Nat × Option MObj)) = [] | .inr _ => e = .exit 2 ∧ s = ⟨[(0, .im (.row (a0.map epluvialref17_Item))), (3, iV .i64 x4488)], [], 0⟩)) (LWp.cv (withBody (fun body hbody => ?_))) ?_
      · refine f_pluvialref17_Apart.l1.partial_correctness a0 x4488 (motive := fun x4507 o4527 => LWp Γ body (fun e s => ∃ t, Cv Γ s t ∧ (match (generalizing := false) o4527 with | .inl rr => e = .ret ∧ t.floor = 0 ∧ resOf Try.prog Try.f21 t = some (bV rr) ∧ ([] : List (Nat × Option MObj)) = [] | .inr _ => e = .exit 2 ∧ t = ⟨[(0, .im (.row (a0.map epluvialref17_Item))), (3, iV .i64 x4488)], [], 0⟩)) ⟨[(0, .im (.row (a0.map epluvialref17_Item))), (3, iV .i64 x4488), (4, iV .i64 x4507)], [], 0⟩) ?_ _ _ e4528
        clear H e4528 o4527; intro self ih x4507 o4527 H
        subst hbody
        refine LWp.round ?_
        refine AWp.seq ?_
        refine AWp.seq ?_
        refine reg hP hn hm [] [0, 3, 4, 13] [] ⟨[(0, .im (.row (a0.map epluvialref17_Item))), (3, iV .i64 x4488), (4, iV .i64 x4507), (13, bV (decide (x4507 < x4488)))], [], 0⟩ [] (by kernel_rfl) trivial ?_
        refine AWp.cond (decide (x4507 < x4488)) rfl (fun c4508 => ?_) (fun c4508 => ?_)
        · replace H := (ifT c4508).symm.trans H
          refine AWp.skip ?_
          refine AWp.seq ?_
          refine AWp.block ?_
          refine AWp.seq ?_
          obtain ⟨o4529, e4530, H⟩ := bind_of H
          refine AWp.mono (Q := fun e s => (match (generalizing := false) o4529 with | x4523 => e = .normal ∧ s = ⟨[(0, .im (.row (a0.map epluvialref17_Item))), (3, iV .i64 x4488), (4, iV .i64 x4507), (39, bV x4523)], [], 0⟩)) (AWp.cv ?_) ?_
          · replace H := e4530; clear e4530
            obtain ⟨b4516, p4517, q4518, H⟩ := at_of H
            obtain ⟨b4519, p4520, q4521, H⟩ := at_of H
            rcases Bool.eq_false_or_eq_true (decide (b4516.f2 < b4519.f3)) with c4522 | c4522
            · replace H := (ifT c4522).symm.trans H
              refine reg hP hn hm [(2, .c (epluvialref17_Item b4516)), (7, .c (epluvialref17_Item b4519)), (11, .b true), (14, .c (epluvialref17_Item b4519)), (19, .c (epluvialref17_Item b4516))] [0, 3, 4, 28, 29, 30, 31, 32, 33, 34, 35, 36, 37, 38, 39] [] ⟨[(0, .im (.row (a0.map epluvialref17_Item))), (3, iV .i64 x4488), (4, iV .i64 x4507), (28, .im (.row (a0.map epluvialref17_Item))), (29, iV .i64 x4507), (30, .ip [iI .i64 b4519.f0, iI .i64 b4519.f1, iI .i64 b4519.f2, iI .i64 b4519.f3]), (31, .ip [iI .i64 b4519.f2, iI .i64 b4519.f3]), (32, iV .i64 b4519.f2), (33, .im (.row (a0.map epluvialref17_Item))), (34, iV .i64 x4488), (35, .ip [iI .i64 b4516.f0, iI .i64 b4516.f1, iI .i64 b4516.f2, iI .i64 b4516.f3]), (36, .ip [iI .i64 b4516.f3]), (37, iV .i64 b4516.f3), (38, bV (decide (b4519.f2 < b4516.f3))), (39, bV (decide (b4519.f2 < b4516.f3)))], [], 0⟩ [0 ≤ x4488, (a0.map epluvialref17_Item)[(Int.toNat (x4488))]? = some (epluvialref17_Item b4516), 0 ≤ x4507, (a0.map epluvialref17_Item)[(Int.toNat (x4507))]? = some (epluvialref17_Item b4519), (decide (b4516.f2 < b4519.f3)) = true, 0 ≤ x4507, (a0.map epluvialref17_Item)[(Int.toNat (x4507))]? = some (epluvialref17_Item b4519), 0 ≤ x4488, (a0.map epluvialref17_Item)[(Int.toNat (x4488))]? = some (epluvialref17_Item b4516)] (by kernel_rfl) ⟨by exact p4517, by exact el_map epluvialref17_Item q4518, by exact p4520, by exact el_map epluvialref17_Item q4521, by exact c4522, by exact p4520, by exact el_map epluvialref17_Item q4521, by exact p4517, by exact el_map epluvialref17_Item q4518, trivial⟩ ?_
              obtain rfl := Option.some.inj H
              exact Exists.intro _ (And.intro (fun _ _ h => h.conv (inv := []) (vk := []) (e0 := []) (t := ⟨[(0, .im (.row (a0.map epluvialref17_Item))), (3, iV .i64 x4488), (4, iV .i64 x4507), (39, bV (decide (b4519.f2 < b4516.f3)))], [], 0⟩) (by kernel_rfl)) (And.intro rfl rfl))
            · replace H := (ifF c4522).symm.trans H
              refine reg hP hn hm [(2, .c (epluvialref17_Item b4516)), (7, .c (epluvialref17_Item b4519)), (11, .b false)] [0, 3, 4, 39] [] ⟨[(0, .im (.row (a0.map epluvialref17_Item))), (3, iV .i64 x4488), (4, iV .i64 x4507), (39, bV false)], [], 0⟩ [0 ≤ x4488, (a0.map epluvialref17_Item)[(Int.toNat (x4488))]? = some (epluvialref17_Item b4516), 0 ≤ x4507, (a0.map epluvialref17_Item)[(Int.toNat (x4507))]? = some (epluvialref17_Item b4519), (decide (b4516.f2 < b4519.f3)) = false] (by kernel_rfl) ⟨by exact p4517, by exact el_map epluvialref17_Item q4518, by exact p4520, by exact el_map epluvialref17_Item q4521, by exact c4522, trivial⟩ ?_
              obtain rfl := Option.some.inj H
              exact Exists.intro _ (And.intro (fun _ _ h => h.conv (inv := []) (vk := []) (e0 := []) (t := ⟨[(0, .im (.row (a0.map epluvialref17_Item))), (3, iV .i64 x4488), (4, iV .i64 x4507), (39, bV false)], [], 0⟩) (by kernel_rfl)) (And.intro rfl rfl))
          · obtain ⟨x4523, rfl⟩ : ∃ z, z = o4529 := ⟨_, rfl⟩
            rintro e s ⟨rfl, rfl⟩
            refine AWp.cond x4523 rfl (fun c4524 => ?_) (fun c4524 => ?_)
            · replace H := (ifT c4524).symm.trans H
              refine AWp.seq ?_
              refine reg hP hn hm [] [2] [] ⟨[(2, bV false)], [], 0⟩ [] (by kernel_rfl) trivial ?_
              refine AWp.conv (inv := []) (vk := []) (e0 := []) (t := ⟨[(2, bV false)], [], 0⟩) (by kernel_rfl) ?_
              refine AWp.ret ?_
              obtain rfl := Option.some.inj H
              exact Exists.intro _ (And.intro (fun _ _ h => h) (And.intro rfl (And.intro rfl (And.intro (by kernel_rfl) (by kernel_rfl)))))
            · replace H := (ifF c4524).symm.trans H
              refine AWp.skip ?_
              refine reg hP hn hm [] [0, 3, 4] [] ⟨[(0, .im (.row (a0.map epluvialref17_Item))), (3, iV .i64 x4488), (4, iV .i64 (IntKind.i64.wrap (x4507 + (1 : Int))))], [], 0⟩ [] (by kernel_rfl) trivial ?_
              exact LWp.conv (inv := []) (vk := []) (e0 := []) (t := ⟨[(0, .im (.row (a0.map epluvialref17_Item))), (3, iV .i64 x4488), (4, iV .i64 (IntKind.i64.wrap (x4507 + (1 : Int))))], [], 0⟩) (by kernel_rfl) (ih _ _ H)
        · replace H := (ifF c4508).symm.trans H
          refine AWp.exit ?_
          obtain rfl := Option.some.inj H
          exact Exists.intro _ (And.intro (fun _ _ h => h.conv (inv := []) (vk := []) (e0 := []) (t := ⟨[(0, .im (.row (a0.map epluvialref17_Item))), (3, iV .i64 x4488)], [], 0⟩) (by kernel_rfl)) (And.intro rfl rfl))
      · rcases o4527 with rr | _
        · skip
          rintro e s ⟨rfl, hfl, hres⟩
          obtain rfl := Option.some.inj H
          exact Exists.intro _ (And.intro (fun _ _ h => h) (And.intro rfl (And.intro hfl hres)))
        · skip
          rintro e s ⟨rfl, rfl⟩
          refine reg hP hn hm [] [0, 3] [] ⟨[(0, .im (.row (a0.map epluvialref17_Item))), (3, iV .i64 (IntKind.i64.wrap (x4488 + (1 : Int))))], [], 0⟩ [] (by kernel_rfl) trivial ?_
          exact LWp.conv (inv := []) (vk := []) (e0 := []) (t := ⟨[(0, .im (.row (a0.map epluvialref17_Item))), (3, iV .i64 (IntKind.i64.wrap (x4488 + (1 : Int))))], [], 0⟩) (by kernel_rfl) (ih _ _ H)
    · replace H := (ifF c4489).symm.trans H
      refine AWp.exit ?_
      obtain rfl := Option.some.inj H
      exact Exists.intro _ (And.intro (fun _ _ h => h.conv (inv := []) (vk := []) (e0 := []) (t := ⟨[], [], 0⟩) (by kernel_rfl)) (And.intro rfl rfl))
  · rcases o4525 with rr | _
    · skip
      rintro e s ⟨rfl, hfl, hres⟩
      obtain rfl := Option.some.inj H
      exact Exists.intro _ (And.intro (fun _ _ h => h) (And.intro (.inl rfl) (And.intro hfl hres)))
    · skip
      rintro e s ⟨rfl, rfl⟩
      refine AWp.seq ?_
      refine reg hP hn hm [] [2] [] ⟨[(2, bV true)], [], 0⟩ [] (by kernel_rfl) trivial ?_
      refine AWp.conv (inv := []) (vk := []) (e0 := []) (t := ⟨[(2, bV true)], [], 0⟩) (by kernel_rfl) ?_
      refine AWp.ret ?_
      obtain rfl := Option.some.inj H
      exact Exists.intro _ (And.intro (fun _ _ h => h) (And.intro (.inl rfl) (And.intro rfl (And.intro (by kernel_rfl) (by kernel_rfl)))))
def f_plan_Below.l0 (a0 : List Tplan_Item) (a1 : Int) (x4555 : List Int) (x4556 : Int) : Option (List Int) := if (decide (x4556 < (a0.length : Int))) = true then ((at? a0 x4556) >>= fun b4561 => ((if (decide (b4561.f1.f1 ≤ a1)) = true then ((chk ((x4555.length + [b4561.f0].length) * 8 ≤ 140737488355328)) >>= fun _ => some (x4555 ++ [b4561.f0])) else (some x4555)) : Option (List Int)) >>= fun x4567 => f_plan_Below.l0 a0 a1 x4567 (IntKind.i64.wrap (x4556 + (1 : Int)))) else (some x4555)
partial_fixpoint
def f_plan_Below.f (a0 : List Tplan_Item) (a1 : Int) : Option (List Int) := (f_plan_Below.l0 a0 a1 [] 0) >>= fun x4568 => (f_slices_Sort_int.f x4568) >>= fun t4571 => some t4571
theorem f_plan_Below.ok (a0 : List Tplan_Item) (a1 : Int) (r : List Int) (H : f_plan_Below.f a0 a1 = some r) : Pv.Fn Try.prog 14 [.im (.row (a0.map eplan_Item)), iV .i64 a1] [] 0 (fun x o => x = .own 0 ∧ o = [(0, some (.row 1 3 (r.map (encInt .i64))))]) := by
  unfold f_plan_Below.f at H
  refine Fn.bodyK [0] Try.func14 rfl rfl (fun Γ hP hn => ?_)
  have hm : Try.prog.follows .mixedOrders = true := by kernel_rfl
  replace hn : Γ.n = 28 := hn
  refine AWp.seq ?_
  refine reg hP hn hm [] [0, 1] [] ⟨[(0, .im (.row (a0.map eplan_Item))), (1, iV .i64 a1)], [], 0⟩ [] (by kernel_rfl) trivial ?_
  refine AWp.seq ?_
  refine reg hP hn hm [] [0, 1, 5] [] ⟨[(0, .im (.row (a0.map eplan_Item))), (1, iV .i64 a1), (5, .none0)], [], 0⟩ [] (by kernel_rfl) trivial ?_
  refine AWp.seq ?_
  refine AWp.seq ?_
  refine reg hP hn hm [(1, .any (iV .i64 (a0.length : Int)))] [1, 5, 8, 9, 10] [] ⟨[(1, iV .i64 a1), (5, .none0), (8, .im (.row (a0.map eplan_Item))), (9, iV .i64 (a0.length : Int)), (10, iV .i64 0)], [], 0⟩ [((a0.map eplan_Item).length : Int) = (a0.length : Int)] (by kernel_rfl) ⟨by rw [len_map], trivial⟩ ?_
  refine AWp.block ?_
  obtain ⟨o4573, e4574, H⟩ := bind_of H
  refine AWp.loop (LWp.conv (inv := []) (vk := []) (e0 := [4]) (t := ⟨[(1, iV .i64 a1), (5, .own 4), (8, .im (.row (a0.map eplan_Item))), (9, iV .i64 (a0.length : Int)), (10, iV .i64 0)], [(4, some (.row 1 3 ([].map (encInt .i64))))], 0⟩) (by kernel_rfl) ?_)
  refine LWp.mono (Q := fun e s => (match (generalizing := false) o4573 with | x4568 => e = .exit 0 ∧ s = ⟨[(5, .own 9)], [(9, some (.row 1 3 (x4568.map (encInt .i64))))], 0⟩)) (LWp.cv (withBody (fun body hbody => ?_))) ?_
  · refine f_plan_Below.l0.partial_correctness a0 a1 (motive := fun x4555 x4556 o4573 => LWp Γ body (fun e s => ∃ t, Cv Γ s t ∧ (match (generalizing := false) o4573 with | x4568 => e = .exit 0 ∧ t = ⟨[(5, .own 9)], [(9, some (.row 1 3 (x4568.map (encInt .i64))))], 0⟩)) ⟨[(1, iV .i64 a1), (5, .own 4), (8, .im (.row (a0.map eplan_Item))), (9, iV .i64 (a0.length : Int)), (10, iV .i64 x4556)], [(4, some (.row 1 3 (x4555.map (encInt .i64))))], 0⟩) ?_ _ _ _ e4574
    clear H e4574 o4573; intro self ih x4555 x4556 o4573 H
    subst hbody
    refine LWp.round ?_
    refine AWp.seq ?_
    refine reg hP hn hm [] [1, 5, 8, 9, 10, 11] [4] ⟨[(1, iV .i64 a1), (5, .own 4), (8, .im (.row (a0.map eplan_Item))), (9, iV .i64 (a0.length : Int)), (10, iV .i64 x4556), (11, bV (decide (x4556 < (a0.length : Int))))], [(4, some (.row 1 3 (x4555.map (encInt .i64))))], 0⟩ [] (by kernel_rfl) trivial ?_
    refine AWp.seq ?_
    refine AWp.cond (decide (x4556 < (a0.length : Int))) rfl (fun c4557 => ?_) (fun c4557 => ?_)
    · replace H := (ifT c4557).symm.trans H
      refine AWp.skip ?_
      refine AWp.seq ?_
      refine AWp.block ?_
      refine AWp.seq ?_
      obtain ⟨b4561, p4562, q4563, H⟩ := at_of H
      refine reg hP hn hm [(0, .c (eplan_Item b4561)), (2, .k 5)] [1, 5, 7, 8, 9, 10] [4, 5] ⟨[(1, iV .i64 a1), (5, .own 4), (7, .ptr 5 0 0), (8, .im (.row (a0.map eplan_Item))), (9, iV .i64 (a0.length : Int)), (10, iV .i64 x4556)], [(4, some (.row 1 3 (x4555.map (encInt .i64)))), (5, some (.box 89 [iV .i64 b4561.f0, iV .i64 b4561.f1.f0, iV .i64 b4561.f1.f1, iV .i64 b4561.f1.f2]))], 0⟩ [0 ≤ x4556, (a0.map eplan_Item)[(Int.toNat (x4556))]? = some (eplan_Item b4561)] (by kernel_rfl) ⟨by exact p4562, by exact el_map eplan_Item q4563, trivial⟩ ?_
      refine AWp.seq ?_
      refine reg hP hn hm [] [1, 5, 7, 8, 9, 10, 18] [4, 5] ⟨[(1, iV .i64 a1), (5, .own 4), (7, .ptr 5 0 0), (8, .im (.row (a0.map eplan_Item))), (9, iV .i64 (a0.length : Int)), (10, iV .i64 x4556), (18, bV (decide (b4561.f1.f1 ≤ a1)))], [(4, some (.row 1 3 (x4555.map (encInt .i64)))), (5, some (.box 89 [iV .i64 b4561.f0, iV .i64 b4561.f1.f0, iV .i64 b4561.f1.f1, iV .i64 b4561.f1.f2]))], 0⟩ [] (by kernel_rfl) trivial ?_
      obtain ⟨o4575, e4576, H⟩ := bind_of H
      refine AWp.mono (Q := fun e s => (match (generalizing := false) o4575 with | x4567 => e = .normal ∧ s = ⟨[(1, iV .i64 a1), (5, .own 8), (8, .im (.row (a0.map eplan_Item))), (9, iV .i64 (a0.length : Int)), (10, iV .i64 x4556)], [(8, some (.row 1 3 (x4567.map (encInt .i64))))], 0⟩)) (AWp.cv ?_) ?_
      · replace H := e4576; clear e4576
        refine AWp.cond (decide (b4561.f1.f1 ≤ a1)) rfl (fun c4564 => ?_) (fun c4564 => ?_)
        · replace H := (ifT c4564).symm.trans H
          obtain ⟨c4566, H⟩ := chk_of H
          refine reg hP hn hm [(3, .app 6 ([b4561.f0].map (encInt .i64))), (4, .app 7 ((x4555 ++ [b4561.f0]).map (encInt .i64)))] [1, 5, 8, 9, 10] [7] ⟨[(1, iV .i64 a1), (5, .own 7), (8, .im (.row (a0.map eplan_Item))), (9, iV .i64 (a0.length : Int)), (10, iV .i64 x4556)], [(7, some (.row 1 3 ((x4555 ++ [b4561.f0]).map (encInt .i64))))], 0⟩ [[b4561.f0].map (encInt .i64) = [[iI .i64 b4561.f0]], (x4555 ++ [b4561.f0]).map (encInt .i64) = (x4555.map (encInt .i64)) ++ ([b4561.f0].map (encInt .i64)), ∀ c ∈ ([b4561.f0].map (encInt .i64)), c.length = 1, ∀ c ∈ ([b4561.f0].map (encInt .i64)), leaves (c.map .im) = true, ((x4555.map (encInt .i64)).length + ([b4561.f0].map (encInt .i64)).length) * 8 ≤ 140737488355328] (by kernel_rfl) ⟨by exact rfl, by simp, by exact all_len _ _ _ (fun _ => rfl), by exact all_leaf _ _ (fun _ => rfl), by simpa using c4566, trivial⟩ ?_
          obtain rfl := Option.some.inj H
          exact Exists.intro _ (And.intro (fun _ _ h => h.conv (inv := [(7, 8)]) (vk := []) (e0 := []) (t := ⟨[(1, iV .i64 a1), (5, .own 8), (8, .im (.row (a0.map eplan_Item))), (9, iV .i64 (a0.length : Int)), (10, iV .i64 x4556)], [(8, some (.row 1 3 ((x4555 ++ [b4561.f0]).map (encInt .i64))))], 0⟩) (by kernel_rfl)) (And.intro rfl rfl))
        · replace H := (ifF c4564).symm.trans H
          refine AWp.skip ?_
          obtain rfl := Option.some.inj H
          exact Exists.intro _ (And.intro (fun _ _ h => h.conv (inv := [(4, 8)]) (vk := []) (e0 := []) (t := ⟨[(1, iV .i64 a1), (5, .own 8), (8, .im (.row (a0.map eplan_Item))), (9, iV .i64 (a0.length : Int)), (10, iV .i64 x4556)], [(8, some (.row 1 3 (x4555.map (encInt .i64))))], 0⟩) (by kernel_rfl)) (And.intro rfl rfl))
      · obtain ⟨x4567, rfl⟩ : ∃ z, z = o4575 := ⟨_, rfl⟩
        rintro e s ⟨rfl, rfl⟩
        refine reg hP hn hm [] [1, 5, 8, 9, 10] [8] ⟨[(1, iV .i64 a1), (5, .own 8), (8, .im (.row (a0.map eplan_Item))), (9, iV .i64 (a0.length : Int)), (10, iV .i64 (IntKind.i64.wrap (x4556 + (1 : Int))))], [(8, some (.row 1 3 (x4567.map (encInt .i64))))], 0⟩ [] (by kernel_rfl) trivial ?_
        exact LWp.conv (inv := [(8, 4)]) (vk := []) (e0 := []) (t := ⟨[(1, iV .i64 a1), (5, .own 4), (8, .im (.row (a0.map eplan_Item))), (9, iV .i64 (a0.length : Int)), (10, iV .i64 (IntKind.i64.wrap (x4556 + (1 : Int))))], [(4, some (.row 1 3 (x4567.map (encInt .i64))))], 0⟩) (by kernel_rfl) (ih _ _ _ H)
    · replace H := (ifF c4557).symm.trans H
      refine AWp.exit ?_
      obtain rfl := Option.some.inj H
      exact Exists.intro _ (And.intro (fun _ _ h => h.conv (inv := [(4, 9)]) (vk := []) (e0 := []) (t := ⟨[(5, .own 9)], [(9, some (.row 1 3 (x4555.map (encInt .i64))))], 0⟩) (by kernel_rfl)) (And.intro rfl rfl))
  · obtain ⟨x4568, rfl⟩ : ∃ z, z = o4573 := ⟨_, rfl⟩
    rintro e s ⟨rfl, rfl⟩
    refine AWp.seq ?_
    obtain ⟨t4571, e4572, H⟩ := bind_of H
    refine reg hP hn hm [(1, .call [(9, 0)] [(0, 9)] [] [] 1 (.tup []) [(0, some (.row 1 3 (t4571.map (encInt .i64))))])] [5] [9] ⟨[(5, .own 9)], [(9, some (.row 1 3 (t4571.map (encInt .i64))))], 0⟩ [Enters Try.prog 34, Pv.Fn Try.prog 34 [.own 0] [(0, some (.row 1 3 (x4568.map (encInt .i64))))] 1 (fun r o => r = .tup [] ∧ o = [(0, some (.row 1 3 (t4571.map (encInt .i64))))])] (by kernel_rfl) ⟨by exact Try.call34, by exact f_slices_Sort_int.ok x4568 t4571 e4572, trivial⟩ ?_
    refine AWp.seq ?_
    refine reg hP hn hm [] [4] [9] ⟨[(4, .own 9)], [(9, some (.row 1 3 (t4571.map (encInt .i64))))], 0⟩ [] (by kernel_rfl) trivial ?_
    refine AWp.conv (inv := [(9, 0)]) (vk := []) (e0 := []) (t := ⟨[(4, .own 0)], [(0, some (.row 1 3 (t4571.map (encInt .i64))))], 0⟩) (by kernel_rfl) ?_
    refine AWp.ret ?_
    obtain rfl := Option.some.inj H
    exact Exists.intro _ (And.intro (fun _ _ h => h) (And.intro (.inl rfl) (And.intro rfl (And.intro (by kernel_rfl) (by kernel_rfl)))))
def f_pluviallaw17_PlanNext.l1 (a0 : List Tpluvialref17_Item) (a1 : Int) (a2 : Int) (a3 : Int) (b4621 : Int) (t4131 : List Tplan_Item) (t4579 : List Int) (x4616 : Int) (x4646 : Int) (x4647 : Int) : Option (Int) := if (decide (x4647 < (a0.length : Int))) = true then ((at? a0 x4647) >>= fun b4652 => ((if (b4652.f0 == b4621) = true then (some (decide (b4652.f3 ≤ a3))) else (some false)) : Option (Bool)) >>= fun x4657 => ((if x4657 = true then (some (IntKind.i64.wrap (x4646 + (1 : Int)))) else (some x4646)) : Option (Int)) >>= fun x4659 => f_pluviallaw17_PlanNext.l1 a0 a1 a2 a3 b4621 t4131 t4579 x4616 x4659 (IntKind.i64.wrap (x4647 + (1 : Int)))) else (some x4646)
partial_fixpoint
def f_pluviallaw17_PlanNext.l0 (a0 : List Tpluvialref17_Item) (a1 : Int) (a2 : Int) (a3 : Int) (t4131 : List Tplan_Item) (t4579 : List Int) (x4615 : Int) (x4616 : Int) : Option (Bool ⊕ Int) := if (decide (x4616 < (t4579.length : Int))) = true then ((at? t4579 x4616) >>= fun b4621 => ((if (decide (x4616 > (0 : Int))) = true then ((at? t4579 (IntKind.i64.wrap (x4616 - (1 : Int)))) >>= fun b4629 => some (decide (b4629 ≥ b4621))) else (some false)) : Option (Bool)) >>= fun x4632 => if x4632 = true then (some (.inl false)) else ((f_pluviallaw17_PlanNext.l1 a0 a1 a2 a3 b4621 t4131 t4579 x4616 x4615 0) >>= fun x4660 => f_pluviallaw17_PlanNext.l0 a0 a1 a2 a3 t4131 t4579 x4660 (IntKind.i64.wrap (x4616 + (1 : Int))))) else (some (.inr x4615))
partial_fixpoint
def f_pluviallaw17_PlanNext.l2 (a0 : List Tpluvialref17_Item) (a1 : Int) (a2 : Int) (a3 : Int) (t4131 : List Tplan_Item) (t4579 : List Int) (x4661 : Int) (x4671 : Int) (x4672 : Int) : Option (Int) := if (decide (x4672 < (a0.length : Int))) = true then ((at? a0 x4672) >>= fun b4677 => ((if (decide (b4677.f3 ≤ a3)) = true then (some (IntKind.i64.wrap (x4671 + (1 : Int)))) else (some x4671)) : Option (Int)) >>= fun x4681 => f_pluviallaw17_PlanNext.l2 a0 a1 a2 a3 t4131 t4579 x4661 x4681 (IntKind.i64.wrap (x4672 + (1 : Int)))) else (some x4671)
partial_fixpoint
def f_pluviallaw17_PlanNext.f (a0 : List Tpluvialref17_Item) (a1 : Int) (a2 : Int) (a3 : Int) : Option (Bool) := ((if (decide ((a0.length : Int) > (60 : Int))) = true then (some true) else ((f_pluvialref17_Right.f a0) >>= fun t117 => if (!t117) = true then (some true) else (if (decide (a2 > (1125899906842624 : Int))) = true then (some true) else (some (decide (a2 < (-1125899906842624))))))) : Option (Bool)) >>= fun x121 => if x121 = true then ((f_pluviallaw17_awake.f) >>= fun t4127 => some t4127) else ((f_pluviallaw17_To.f a0) >>= fun t4131 => (f_plan_Next.f t4131) >>= fun t4137 => (f_pluvialref17_Next.f a0) >>= fun t4449 => ((if (!(t4137.2 == t4449.2.2)) = true then (some true) else (if (((t4137.1).f1) != t4449.1) = true then (some true) else ((f_pluviallaw17_ints.f ((t4137.1).f0) t4449.2.1) >>= fun t4535 => if (!t4535) = true then (some true) else ((f_plan_Apart.f t4131) >>= fun t4538 => (f_pluvialref17_Apart.f a0) >>= fun t4540 => some (!(t4538 == t4540)))))) : Option (Bool)) >>= fun x4542 => if x4542 = true then (some false) else ((f_plan_Below.f t4131 a3) >>= fun t4579 => (f_pluviallaw17_PlanNext.l0 a0 a1 a2 a3 t4131 t4579 0 0) >>= fun oo => match oo with | .inl rr => (some rr) | .inr x4661 => ((f_pluviallaw17_PlanNext.l2 a0 a1 a2 a3 t4131 t4579 x4661 0 0) >>= fun x4682 => (((f_pluviallaw17_awake.f) >>= fun t4694 => if t4694 = true then ((f_plan_Within.f t4131 (IntKind.i64.wrap (Int.tmod a1 (5 : Int))) a2) >>= fun t4697 => (f_pluvialref17_Within.f a0 (IntKind.i64.wrap (Int.tmod a1 (5 : Int))) a2) >>= fun t4699 => (f_pluviallaw17_ints.f t4697 t4699) >>= fun t4701 => if t4701 = true then (if (x4661 == x4682) = true then (some ((t4579.length : Int) == x4682)) else (some false)) else (some false)) else (some false)) : Option (Bool)) >>= fun x4705 => some x4705)))
theorem f_pluviallaw17_PlanNext.ok (a0 : List Tpluvialref17_Item) (a1 : Int) (a2 : Int) (a3 : Int) (r : Bool) (H : f_pluviallaw17_PlanNext.f a0 a1 a2 a3 = some r) : Pv.Fn Try.prog 5 [.im (.row (a0.map epluvialref17_Item)), iV .u8 a1, iV .i64 a2, iV .i64 a3] [] 0 (fun x o => x = bV r ∧ o = []) := by
  unfold f_pluviallaw17_PlanNext.f at H
  refine Fn.bodyK [] Try.func5 rfl rfl (fun Γ hP hn => ?_)
  have hm : Try.prog.follows .mixedOrders = true := by kernel_rfl
  replace hn : Γ.n = 158 := hn
  refine AWp.seq ?_
  refine reg hP hn hm [] [0, 1, 2, 3] [] ⟨[(0, .im (.row (a0.map epluvialref17_Item))), (1, iV .u8 a1), (2, iV .i64 a2), (3, iV .i64 a3)], [], 0⟩ [] (by kernel_rfl) trivial ?_
  refine AWp.seq ?_
  refine AWp.seq ?_
  obtain ⟨o4706, e4707, H⟩ := bind_of H
  refine AWp.mono (Q := fun e s => (match (generalizing := false) o4706 with | x121 => e = .normal ∧ s = ⟨[(0, .im (.row (a0.map epluvialref17_Item))), (1, iV .u8 a1), (2, iV .i64 a2), (3, iV .i64 a3), (40, bV x121)], [], 0⟩)) (AWp.cv ?_) ?_
  · replace H := e4707; clear e4707
    rcases Bool.eq_false_or_eq_true (decide ((a0.length : Int) > (60 : Int))) with c116 | c116
    · replace H := (ifT c116).symm.trans H
      refine reg hP hn hm [(1, .any (iV .i64 (a0.length : Int))), (3, .b true)] [0, 1, 2, 3, 40] [] ⟨[(0, .im (.row (a0.map epluvialref17_Item))), (1, iV .u8 a1), (2, iV .i64 a2), (3, iV .i64 a3), (40, bV true)], [], 0⟩ [((a0.map epluvialref17_Item).length : Int) = (a0.length : Int), (decide ((a0.length : Int) > (60 : Int))) = true] (by kernel_rfl) ⟨by rw [len_map], by exact c116, trivial⟩ ?_
      obtain rfl := Option.some.inj H
      exact Exists.intro _ (And.intro (fun _ _ h => h.conv (inv := []) (vk := []) (e0 := []) (t := ⟨[(0, .im (.row (a0.map epluvialref17_Item))), (1, iV .u8 a1), (2, iV .i64 a2), (3, iV .i64 a3), (40, bV true)], [], 0⟩) (by kernel_rfl)) (And.intro rfl rfl))
    · replace H := (ifF c116).symm.trans H
      obtain ⟨t117, e118, H⟩ := bind_of H
      rcases Bool.eq_false_or_eq_true (!t117) with c119 | c119
      · replace H := (ifT c119).symm.trans H
        refine reg hP hn hm [(1, .any (iV .i64 (a0.length : Int))), (3, .b false), (5, .call [] [] [] [] 0 (bV t117) []), (8, .b true)] [0, 1, 2, 3, 40] [] ⟨[(0, .im (.row (a0.map epluvialref17_Item))), (1, iV .u8 a1), (2, iV .i64 a2), (3, iV .i64 a3), (40, bV true)], [], 0⟩ [((a0.map epluvialref17_Item).length : Int) = (a0.length : Int), (decide ((a0.length : Int) > (60 : Int))) = false, Enters Try.prog 12, Pv.Fn Try.prog 12 [.im (.row (a0.map epluvialref17_Item))] [] 0 (fun r o => r = bV t117 ∧ o = []), (!t117) = true] (by kernel_rfl) ⟨by rw [len_map], by exact c116, by exact Try.call12, by exact f_pluvialref17_Right.ok a0 t117 e118, by exact c119, trivial⟩ ?_
        obtain rfl := Option.some.inj H
        exact Exists.intro _ (And.intro (fun _ _ h => h.conv (inv := []) (vk := []) (e0 := []) (t := ⟨[(0, .im (.row (a0.map epluvialref17_Item))), (1, iV .u8 a1), (2, iV .i64 a2), (3, iV .i64 a3), (40, bV true)], [], 0⟩) (by kernel_rfl)) (And.intro rfl rfl))
      · replace H := (ifF c119).symm.trans H
        rcases Bool.eq_false_or_eq_true (decide (a2 > (1125899906842624 : Int))) with c120 | c120
        · replace H := (ifT c120).symm.trans H
          refine reg hP hn hm [(1, .any (iV .i64 (a0.length : Int))), (3, .b false), (5, .call [] [] [] [] 0 (bV t117) []), (8, .b false), (12, .b true)] [0, 1, 2, 3, 40] [] ⟨[(0, .im (.row (a0.map epluvialref17_Item))), (1, iV .u8 a1), (2, iV .i64 a2), (3, iV .i64 a3), (40, bV true)], [], 0⟩ [((a0.map epluvialref17_Item).length : Int) = (a0.length : Int), (decide ((a0.length : Int) > (60 : Int))) = false, Enters Try.prog 12, Pv.Fn Try.prog 12 [.im (.row (a0.map epluvialref17_Item))] [] 0 (fun r o => r = bV t117 ∧ o = []), (!t117) = false, (decide (a2 > (1125899906842624 : Int))) = true] (by kernel_rfl) ⟨by rw [len_map], by exact c116, by exact Try.call12, by exact f_pluvialref17_Right.ok a0 t117 e118, by exact c119, by exact c120, trivial⟩ ?_
          obtain rfl := Option.some.inj H
          exact Exists.intro _ (And.intro (fun _ _ h => h.conv (inv := []) (vk := []) (e0 := []) (t := ⟨[(0, .im (.row (a0.map epluvialref17_Item))), (1, iV .u8 a1), (2, iV .i64 a2), (3, iV .i64 a3), (40, bV true)], [], 0⟩) (by kernel_rfl)) (And.intro rfl rfl))
        · replace H := (ifF c120).symm.trans H
          refine reg hP hn hm [(1, .any (iV .i64 (a0.length : Int))), (3, .b false), (5, .call [] [] [] [] 0 (bV t117) []), (8, .b false), (12, .b false)] [0, 1, 2, 3, 40] [] ⟨[(0, .im (.row (a0.map epluvialref17_Item))), (1, iV .u8 a1), (2, iV .i64 a2), (3, iV .i64 a3), (40, bV (decide (a2 < (-1125899906842624))))], [], 0⟩ [((a0.map epluvialref17_Item).length : Int) = (a0.length : Int), (decide ((a0.length : Int) > (60 : Int))) = false, Enters Try.prog 12, Pv.Fn Try.prog 12 [.im (.row (a0.map epluvialref17_Item))] [] 0 (fun r o => r = bV t117 ∧ o = []), (!t117) = false, (decide (a2 > (1125899906842624 : Int))) = false] (by kernel_rfl) ⟨by rw [len_map], by exact c116, by exact Try.call12, by exact f_pluvialref17_Right.ok a0 t117 e118, by exact c119, by exact c120, trivial⟩ ?_
          obtain rfl := Option.some.inj H
          exact Exists.intro _ (And.intro (fun _ _ h => h.conv (inv := []) (vk := []) (e0 := []) (t := ⟨[(0, .im (.row (a0.map epluvialref17_Item))), (1, iV .u8 a1), (2, iV .i64 a2), (3, iV .i64 a3), (40, bV (decide (a2 < (-1125899906842624))))], [], 0⟩) (by kernel_rfl)) (And.intro rfl rfl))
  · obtain ⟨x121, rfl⟩ : ∃ z, z = o4706 := ⟨_, rfl⟩
    rintro e s ⟨rfl, rfl⟩
    refine AWp.cond x121 rfl (fun c122 => ?_) (fun c122 => ?_)
    · replace H := (ifT c122).symm.trans H
      refine AWp.seq ?_
      obtain ⟨t4127, e4128, H⟩ := bind_of H
      refine reg hP hn hm [(0, .call [] [] [] [] 0 (bV t4127) [])] [8] [] ⟨[(8, bV t4127)], [], 0⟩ [Enters Try.prog 13, Pv.Fn Try.prog 13 [] [] 0 (fun r o => r = bV t4127 ∧ o = [])] (by kernel_rfl) ⟨by exact Try.call13, by exact f_pluviallaw17_awake.ok  t4127 e4128, trivial⟩ ?_
      refine AWp.conv (inv := []) (vk := []) (e0 := []) (t := ⟨[(8, bV t4127)], [], 0⟩) (by kernel_rfl) ?_
      refine AWp.ret ?_
      obtain rfl := Option.some.inj H
      exact Exists.intro _ (And.intro (fun _ _ h => h) (And.intro (.inl rfl) (And.intro rfl (And.intro (by kernel_rfl) (by kernel_rfl)))))
    · replace H := (ifF c122).symm.trans H
      refine AWp.skip ?_
      refine AWp.seq ?_
      obtain ⟨t4131, e4132, H⟩ := bind_of H
      refine reg hP hn hm [(1, .call [] [(0, 0)] [] [0] 0 (.own 0) [(0, some (.row 4 89 (t4131.map eplan_Item)))])] [0, 1, 2, 3, 9] [0] ⟨[(0, .im (.row (a0.map epluvialref17_Item))), (1, iV .u8 a1), (2, iV .i64 a2), (3, iV .i64 a3), (9, .own 0)], [(0, some (.row 4 89 (t4131.map eplan_Item)))], 0⟩ [Enters Try.prog 15, Pv.Fn Try.prog 15 [.im (.row (a0.map epluvialref17_Item))] [] 0 (fun r o => r = .own 0 ∧ o = [(0, some (.row 4 89 (t4131.map eplan_Item)))])] (by kernel_rfl) ⟨by exact Try.call15, by exact f_pluviallaw17_To.ok a0 t4131 e4132, trivial⟩ ?_
      refine AWp.seq ?_
      refine AWp.conv (inv := []) (vk := [0]) (e0 := []) (t := ⟨[(0, .im (.row (a0.map epluvialref17_Item))), (1, iV .u8 a1), (2, iV .i64 a2), (3, iV .i64 a3), (9, .im (.row (t4131.map eplan_Item)))], [], 0⟩) (by kernel_rfl) ?_
      obtain ⟨t4137, e4138, H⟩ := bind_of H
      refine reg hP hn hm [(1, .call [] [(0, 1)] [] [1] 0 (.tup [.agg [.own 0, iV .i64 ((t4137.1).f1)], bV t4137.2]) [(0, some (.row 1 3 (((t4137.1).f0).map (encInt .i64))))]), (5, .k 2)] [0, 1, 2, 3, 9, 10, 11] [1, 2] ⟨[(0, .im (.row (a0.map epluvialref17_Item))), (1, iV .u8 a1), (2, iV .i64 a2), (3, iV .i64 a3), (9, .im (.row (t4131.map eplan_Item))), (10, .ptr 2 0 0), (11, bV t4137.2)], [(1, some (.row 1 3 (((t4137.1).f0).map (encInt .i64)))), (2, some (.box 33 [.own 1, iV .i64 ((t4137.1).f1)]))], 0⟩ [Enters Try.prog 16, Pv.Fn Try.prog 16 [.im (.row (t4131.map eplan_Item))] [] 0 (fun r o => r = .tup [.agg [.own 0, iV .i64 ((t4137.1).f1)], bV t4137.2] ∧ o = [(0, some (.row 1 3 (((t4137.1).f0).map (encInt .i64))))])] (by kernel_rfl) ⟨by exact Try.call16, by exact f_plan_Next.ok t4131 t4137 e4138, trivial⟩ ?_
      refine AWp.seq ?_
      obtain ⟨t4449, e4450, H⟩ := bind_of H
      refine reg hP hn hm [(1, .call [] [(0, 3)] [] [3] 0 (.tup [iV .i64 t4449.1, .own 0, bV t4449.2.2]) [(0, some (.row 1 3 (t4449.2.1.map (encInt .i64))))])] [0, 1, 2, 3, 9, 10, 11, 12, 13, 14] [1, 2, 3] ⟨[(0, .im (.row (a0.map epluvialref17_Item))), (1, iV .u8 a1), (2, iV .i64 a2), (3, iV .i64 a3), (9, .im (.row (t4131.map eplan_Item))), (10, .ptr 2 0 0), (11, bV t4137.2), (12, iV .i64 t4449.1), (13, .own 3), (14, bV t4449.2.2)], [(1, some (.row 1 3 (((t4137.1).f0).map (encInt .i64)))), (2, some (.box 33 [.own 1, iV .i64 ((t4137.1).f1)])), (3, some (.row 1 3 (t4449.2.1.map (encInt .i64))))], 0⟩ [Enters Try.prog 20, Pv.Fn Try.prog 20 [.im (.row (a0.map epluvialref17_Item))] [] 0 (fun r o => r = .tup [iV .i64 t4449.1, .own 0, bV t4449.2.2] ∧ o = [(0, some (.row 1 3 (t4449.2.1.map (encInt .i64))))])] (by kernel_rfl) ⟨by exact Try.call20, by exact f_pluvialref17_Next.ok a0 t4449 e4450, trivial⟩ ?_
      refine AWp.seq ?_
      refine AWp.seq ?_
      obtain ⟨o4708, e4709, H⟩ := bind_of H
      refine AWp.mono (Q := fun e s => (match (generalizing := false) o4708 with | x4542 => e = .normal ∧ s = ⟨[(0, .im (.row (a0.map epluvialref17_Item))), (1, iV .u8 a1), (2, iV .i64 a2), (3, iV .i64 a3), (9, .im (.row (t4131.map eplan_Item))), (77, bV x4542)], [], 0⟩)) (AWp.cv ?_) ?_
      · replace H := e4709; clear e4709
        rcases Bool.eq_false_or_eq_true (!(t4137.2 == t4449.2.2)) with c4533 | c4533
        · replace H := (ifT c4533).symm.trans H
          refine reg hP hn hm [(3, .b true)] [0, 1, 2, 3, 9, 77] [] ⟨[(0, .im (.row (a0.map epluvialref17_Item))), (1, iV .u8 a1), (2, iV .i64 a2), (3, iV .i64 a3), (9, .im (.row (t4131.map eplan_Item))), (77, bV true)], [], 0⟩ [(!(t4137.2 == t4449.2.2)) = true] (by kernel_rfl) ⟨by exact c4533, trivial⟩ ?_
          obtain rfl := Option.some.inj H
          exact Exists.intro _ (And.intro (fun _ _ h => h.conv (inv := []) (vk := []) (e0 := []) (t := ⟨[(0, .im (.row (a0.map epluvialref17_Item))), (1, iV .u8 a1), (2, iV .i64 a2), (3, iV .i64 a3), (9, .im (.row (t4131.map eplan_Item))), (77, bV true)], [], 0⟩) (by kernel_rfl)) (And.intro rfl rfl))
        · replace H := (ifF c4533).symm.trans H
          rcases Bool.eq_false_or_eq_true (((t4137.1).f1) != t4449.1) with c4534 | c4534
          · replace H := (ifT c4534).symm.trans H
            refine reg hP hn hm [(3, .b false), (9, .b true)] [0, 1, 2, 3, 9, 77] [] ⟨[(0, .im (.row (a0.map epluvialref17_Item))), (1, iV .u8 a1), (2, iV .i64 a2), (3, iV .i64 a3), (9, .im (.row (t4131.map eplan_Item))), (77, bV true)], [], 0⟩ [(!(t4137.2 == t4449.2.2)) = false, (((t4137.1).f1) != t4449.1) = true] (by kernel_rfl) ⟨by exact c4533, by exact c4534, trivial⟩ ?_
            obtain rfl := Option.some.inj H
            exact Exists.intro _ (And.intro (fun _ _ h => h.conv (inv := []) (vk := []) (e0 := []) (t := ⟨[(0, .im (.row (a0.map epluvialref17_Item))), (1, iV .u8 a1), (2, iV .i64 a2), (3, iV .i64 a3), (9, .im (.row (t4131.map eplan_Item))), (77, bV true)], [], 0⟩) (by kernel_rfl)) (And.intro rfl rfl))
          · replace H := (ifF c4534).symm.trans H
            obtain ⟨t4535, e4536, H⟩ := bind_of H
            rcases Bool.eq_false_or_eq_true (!t4535) with c4537 | c4537
            · replace H := (ifT c4537).symm.trans H
              refine reg hP hn hm [(3, .b false), (9, .b false), (13, .call [] [] [1, 3] [] 0 (bV t4535) []), (16, .b true)] [0, 1, 2, 3, 9, 77] [] ⟨[(0, .im (.row (a0.map epluvialref17_Item))), (1, iV .u8 a1), (2, iV .i64 a2), (3, iV .i64 a3), (9, .im (.row (t4131.map eplan_Item))), (77, bV true)], [], 0⟩ [(!(t4137.2 == t4449.2.2)) = false, (((t4137.1).f1) != t4449.1) = false, Enters Try.prog 17, Pv.Fn Try.prog 17 [.im (.row (((t4137.1).f0).map (encInt .i64))), .im (.row (t4449.2.1.map (encInt .i64)))] [] 0 (fun r o => r = bV t4535 ∧ o = []), (!t4535) = true] (by kernel_rfl) ⟨by exact c4533, by exact c4534, by exact Try.call17, by exact f_pluviallaw17_ints.ok ((t4137.1).f0) t4449.2.1 t4535 e4536, by exact c4537, trivial⟩ ?_
              obtain rfl := Option.some.inj H
              exact Exists.intro _ (And.intro (fun _ _ h => h.conv (inv := []) (vk := []) (e0 := []) (t := ⟨[(0, .im (.row (a0.map epluvialref17_Item))), (1, iV .u8 a1), (2, iV .i64 a2), (3, iV .i64 a3), (9, .im (.row (t4131.map eplan_Item))), (77, bV true)], [], 0⟩) (by kernel_rfl)) (And.intro rfl rfl))
            · replace H := (ifF c4537).symm.trans H
              obtain ⟨t4538, e4539, H⟩ := bind_of H
              obtain ⟨t4540, e4541, H⟩ := bind_of H
              refine reg hP hn hm [(3, .b false), (9, .b false), (13, .call [] [] [1, 3] [] 0 (bV t4535) []), (16, .b false), (18, .call [] [] [] [] 0 (bV t4538) []), (20, .call [] [] [] [] 0 (bV t4540) [])] [0, 1, 2, 3, 9, 77] [] ⟨[(0, .im (.row (a0.map epluvialref17_Item))), (1, iV .u8 a1), (2, iV .i64 a2), (3, iV .i64 a3), (9, .im (.row (t4131.map eplan_Item))), (77, bV (!(t4538 == t4540)))], [], 0⟩ [(!(t4137.2 == t4449.2.2)) = false, (((t4137.1).f1) != t4449.1) = false, Enters Try.prog 17, Pv.Fn Try.prog 17 [.im (.row (((t4137.1).f0).map (encInt .i64))), .im (.row (t4449.2.1.map (encInt .i64)))] [] 0 (fun r o => r = bV t4535 ∧ o = []), (!t4535) = false, Enters Try.prog 18, Pv.Fn Try.prog 18 [.im (.row (t4131.map eplan_Item))] [] 0 (fun r o => r = bV t4538 ∧ o = []), Enters Try.prog 21, Pv.Fn Try.prog 21 [.im (.row (a0.map epluvialref17_Item))] [] 0 (fun r o => r = bV t4540 ∧ o = [])] (by kernel_rfl) ⟨by exact c4533, by exact c4534, by exact Try.call17, by exact f_pluviallaw17_ints.ok ((t4137.1).f0) t4449.2.1 t4535 e4536, by exact c4537, by exact Try.call18, by exact f_plan_Apart.ok t4131 t4538 e4539, by exact Try.call21, by exact f_pluvialref17_Apart.ok a0 t4540 e4541, trivial⟩ ?_
              obtain rfl := Option.some.inj H
              exact Exists.intro _ (And.intro (fun _ _ h => h.conv (inv := []) (vk := []) (e0 := []) (t := ⟨[(0, .im (.row (a0.map epluvialref17_Item))), (1, iV .u8 a1), (2, iV .i64 a2), (3, iV .i64 a3), (9, .im (.row (t4131.map eplan_Item))), (77, bV (!(t4538 == t4540)))], [], 0⟩) (by kernel_rfl)) (And.intro rfl rfl))
      · obtain ⟨x4542, rfl⟩ : ∃ z, z = o4708 := ⟨_, rfl⟩
        rintro e s ⟨rfl, rfl⟩
        refine AWp.cond x4542 rfl (fun c4543 => ?_) (fun c4543 => ?_)
        · replace H := (ifT c4543).symm.trans H
          refine AWp.seq ?_
          refine reg hP hn hm [] [8] [] ⟨[(8, bV false)], [], 0⟩ [] (by kernel_rfl) trivial ?_
          refine AWp.conv (inv := []) (vk := []) (e0 := []) (t := ⟨[(8, bV false)], [], 0⟩) (by kernel_rfl) ?_
          refine AWp.ret ?_
          obtain rfl := Option.some.inj H
          exact Exists.intro _ (And.intro (fun _ _ h => h) (And.intro (.inl rfl) (And.intro rfl (And.intro (by kernel_rfl) (by kernel_rfl)))))
        · replace H := (ifF c4543).symm.trans H
          refine AWp.skip ?_
          refine AWp.seq ?_
          refine reg hP hn hm [] [0, 2, 3, 9, 15] [] ⟨[(0, .im (.row (a0.map epluvialref17_Item))), (2, iV .i64 a2), (3, iV .i64 a3), (9, .im (.row (t4131.map eplan_Item))), (15, iV .i64 (IntKind.i64.wrap (Int.tmod a1 (5 : Int))))], [], 0⟩ [(5 : Int) ≠ 0] (by kernel_rfl) ⟨by decide, trivial⟩ ?_
          refine AWp.seq ?_
          obtain ⟨t4579, e4580, H⟩ := bind_of H
          refine reg hP hn hm [(2, .call [] [(0, 4)] [] [4] 0 (.own 0) [(0, some (.row 1 3 (t4579.map (encInt .i64))))])] [0, 2, 3, 9, 15, 16] [4] ⟨[(0, .im (.row (a0.map epluvialref17_Item))), (2, iV .i64 a2), (3, iV .i64 a3), (9, .im (.row (t4131.map eplan_Item))), (15, iV .i64 (IntKind.i64.wrap (Int.tmod a1 (5 : Int)))), (16, .own 4)], [(4, some (.row 1 3 (t4579.map (encInt .i64))))], 0⟩ [Enters Try.prog 14, Pv.Fn Try.prog 14 [.im (.row (t4131.map eplan_Item)), iV .i64 a3] [] 0 (fun r o => r = .own 0 ∧ o = [(0, some (.row 1 3 (t4579.map (encInt .i64))))])] (by kernel_rfl) ⟨by exact Try.call14, by exact f_plan_Below.ok t4131 a3 t4579 e4580, trivial⟩ ?_
          refine AWp.seq ?_
          refine reg hP hn hm [] [0, 2, 3, 9, 15, 16, 17] [4] ⟨[(0, .im (.row (a0.map epluvialref17_Item))), (2, iV .i64 a2), (3, iV .i64 a3), (9, .im (.row (t4131.map eplan_Item))), (15, iV .i64 (IntKind.i64.wrap (Int.tmod a1 (5 : Int)))), (16, .own 4), (17, iV .i64 0)], [(4, some (.row 1 3 (t4579.map (encInt .i64))))], 0⟩ [] (by kernel_rfl) trivial ?_
          refine AWp.seq ?_
          refine AWp.seq ?_
          refine reg hP hn hm [(1, .any (iV .i64 (t4579.length : Int)))] [0, 2, 3, 9, 15, 16, 17, 84, 85, 86] [4] ⟨[(0, .im (.row (a0.map epluvialref17_Item))), (2, iV .i64 a2), (3, iV .i64 a3), (9, .im (.row (t4131.map eplan_Item))), (15, iV .i64 (IntKind.i64.wrap (Int.tmod a1 (5 : Int)))), (16, .own 4), (17, iV .i64 0), (84, .own 4), (85, iV .i64 (t4579.length : Int)), (86, iV .i64 0)], [(4, some (.row 1 3 (t4579.map (encInt .i64))))], 0⟩ [((t4579.map (encInt .i64)).length : Int) = (t4579.length : Int)] (by kernel_rfl) ⟨by rw [len_map], trivial⟩ ?_
          refine AWp.block ?_
          obtain ⟨o4710, e4711, H⟩ := bind_of H
          refine AWp.loop (LWp.conv (inv := [(4, 13)]) (vk := []) (e0 := []) (t := ⟨[(0, .im (.row (a0.map epluvialref17_Item))), (2, iV .i64 a2), (3, iV .i64 a3), (9, .im (.row (t4131.map eplan_Item))), (15, iV .i64 (IntKind.i64.wrap (Int.tmod a1 (5 : Int)))), (16, .own 13), (17, iV .i64 0), (84, .own 13), (85, iV .i64 (t4579.length : Int)), (86, iV .i64 0)], [(13, some (.row 1 3 (t4579.map (encInt .i64))))], 0⟩) (by kernel_rfl) ?_)
          refine LWp.mono (Q := fun e s => (match (generalizing := false) o4710 with | .inl rr => e = .ret ∧ s.floor = 0 ∧ resOf Try.prog Try.f5 s = some (bV rr) ∧ ([] : List (Nat × Option MObj)) = [] | .inr x4661 => e = .exit 0 ∧ s = ⟨[(0, .im (.row (a0.map epluvialref17_Item))), (2, iV .i64 a2), (3, iV .i64 a3), (9, .im (.row (t4131.map eplan_Item))), (15, iV .i64 (IntKind.i64.wrap (Int.tmod a1 (5 : Int)))), (16, .own 23), (17, iV .i64 x4661)], [(23, some (.row 1 3 (t4579.map (encInt .i64))))], 0⟩)) (LWp.cv (withBody (fun body hbody => ?_))) ?_
          · refine f_pluviallaw17_PlanNext.l0.partial_correctness a0 a1 a2 a3 t4131 t4579 (motive := fun x4615 x4616 o4710 => LWp Γ body (fun e s => ∃ t, Cv Γ s t ∧ (match (generalizing := false) o4710 with | .inl rr => e = .ret ∧ t.floor = 0 ∧ resOf Try.prog Try.f5 t = some (bV rr) ∧ ([] : List (Nat × Option MObj)) = [] | .inr x4661 => e = .exit 0 ∧ t = ⟨[(0, .im (.row (a0.map epluvialref17_Item))), (2, iV .i64 a2), (3, iV .i64 a3), (9, .im (.row (t4131.map eplan_Item))), (15, iV .i64 (IntKind.i64.wrap (Int.tmod a1 (5 : Int)))), (16, .own 23), (17, iV .i64 x4661)], [(23, some (.row 1 3 (t4579.map (encInt .i64))))], 0⟩)) ⟨[(0, .im (.row (a0.map epluvialref17_Item))), (2, iV .i64 a2), (3, iV .i64 a3), (9, .im (.row (t4131.map eplan_Item))), (15, iV .i64 (IntKind.i64.wrap (Int.tmod a1 (5 : Int)))), (16, .own 13), (17, iV .i64 x4615), (84, .own 13), (85, iV .i64 (t4579.length : Int)), (86, iV .i64 x4616)], [(13, some (.row 1 3 (t4579.map (encInt .i64))))], 0⟩) ?_ _ _ _ e4711
            clear H e4711 o4710; intro self ih x4615 x4616 o4710 H
            subst hbody
            refine LWp.round ?_
            refine AWp.seq ?_
            refine reg hP hn hm [] [0, 2, 3, 9, 15, 16, 17, 84, 85, 86, 87] [13] ⟨[(0, .im (.row (a0.map epluvialref17_Item))), (2, iV .i64 a2), (3, iV .i64 a3), (9, .im (.row (t4131.map eplan_Item))), (15, iV .i64 (IntKind.i64.wrap (Int.tmod a1 (5 : Int)))), (16, .own 13), (17, iV .i64 x4615), (84, .own 13), (85, iV .i64 (t4579.length : Int)), (86, iV .i64 x4616), (87, bV (decide (x4616 < (t4579.length : Int))))], [(13, some (.row 1 3 (t4579.map (encInt .i64))))], 0⟩ [] (by kernel_rfl) trivial ?_
            refine AWp.seq ?_
            refine AWp.cond (decide (x4616 < (t4579.length : Int))) rfl (fun c4617 => ?_) (fun c4617 => ?_)
            · replace H := (ifT c4617).symm.trans H
              refine AWp.skip ?_
              refine AWp.seq ?_
              refine AWp.block ?_
              refine AWp.seq ?_
              obtain ⟨b4621, p4622, q4623, H⟩ := at_of H
              refine reg hP hn hm [(2, .c ((encInt .i64) b4621))] [0, 2, 3, 9, 15, 16, 17, 18, 19, 84, 85, 86] [13] ⟨[(0, .im (.row (a0.map epluvialref17_Item))), (2, iV .i64 a2), (3, iV .i64 a3), (9, .im (.row (t4131.map eplan_Item))), (15, iV .i64 (IntKind.i64.wrap (Int.tmod a1 (5 : Int)))), (16, .own 13), (17, iV .i64 x4615), (18, iV .i64 x4616), (19, iV .i64 b4621), (84, .own 13), (85, iV .i64 (t4579.length : Int)), (86, iV .i64 x4616)], [(13, some (.row 1 3 (t4579.map (encInt .i64))))], 0⟩ [0 ≤ x4616, x4616 < (((t4579.map (encInt .i64)).length : Nat) : Int), (t4579.map (encInt .i64))[(Int.toNat (x4616))]? = some ((encInt .i64) b4621)] (by kernel_rfl) ⟨by exact p4622, by exact el_lt (encInt .i64) p4622 q4623, by exact el_map (encInt .i64) q4623, trivial⟩ ?_
              refine AWp.seq ?_
              refine AWp.seq ?_
              obtain ⟨o4712, e4713, H⟩ := bind_of H
              refine AWp.mono (Q := fun e s => (match (generalizing := false) o4712 with | x4632 => e = .normal ∧ s = ⟨[(0, .im (.row (a0.map epluvialref17_Item))), (2, iV .i64 a2), (3, iV .i64 a3), (9, .im (.row (t4131.map eplan_Item))), (15, iV .i64 (IntKind.i64.wrap (Int.tmod a1 (5 : Int)))), (16, .own 14), (17, iV .i64 x4615), (19, iV .i64 b4621), (84, .own 14), (85, iV .i64 (t4579.length : Int)), (86, iV .i64 x4616), (101, bV x4632)], [(14, some (.row 1 3 (t4579.map (encInt .i64))))], 0⟩)) (AWp.cv ?_) ?_
              · replace H := e4713; clear e4713
                rcases Bool.eq_false_or_eq_true (decide (x4616 > (0 : Int))) with c4628 | c4628
                · replace H := (ifT c4628).symm.trans H
                  obtain ⟨b4629, p4630, q4631, H⟩ := at_of H
                  refine reg hP hn hm [(2, .b true), (7, .c ((encInt .i64) b4629))] [0, 2, 3, 9, 15, 16, 17, 19, 84, 85, 86, 94, 95, 96, 97, 98, 99, 100, 101] [13] ⟨[(0, .im (.row (a0.map epluvialref17_Item))), (2, iV .i64 a2), (3, iV .i64 a3), (9, .im (.row (t4131.map eplan_Item))), (15, iV .i64 (IntKind.i64.wrap (Int.tmod a1 (5 : Int)))), (16, .own 13), (17, iV .i64 x4615), (19, iV .i64 b4621), (84, .own 13), (85, iV .i64 (t4579.length : Int)), (86, iV .i64 x4616), (94, .own 13), (95, iV .i64 x4616), (96, iV .i64 (IntKind.i64.wrap (x4616 - (1 : Int)))), (97, .ptr 13 (Int.toNat (IntKind.i64.wrap (x4616 - (1 : Int)))) 0), (98, iV .i64 b4629), (99, iV .i64 b4621), (100, bV (decide (b4629 ≥ b4621))), (101, bV (decide (b4629 ≥ b4621)))], [(13, some (.row 1 3 (t4579.map (encInt .i64))))], 0⟩ [(decide (x4616 > (0 : Int))) = true, 0 ≤ (IntKind.i64.wrap (x4616 - (1 : Int))), IntKind.i64.wrap (x4616 - (1 : Int)) < (((t4579.map (encInt .i64)).length : Nat) : Int), (t4579.map (encInt .i64))[(Int.toNat (IntKind.i64.wrap (x4616 - (1 : Int))))]? = some ((encInt .i64) b4629)] (by kernel_rfl) ⟨by exact c4628, by exact p4630, by exact el_lt (encInt .i64) p4630 q4631, by exact el_map (encInt .i64) q4631, trivial⟩ ?_
                  obtain rfl := Option.some.inj H
                  exact Exists.intro _ (And.intro (fun _ _ h => h.conv (inv := [(13, 14)]) (vk := []) (e0 := []) (t := ⟨[(0, .im (.row (a0.map epluvialref17_Item))), (2, iV .i64 a2), (3, iV .i64 a3), (9, .im (.row (t4131.map eplan_Item))), (15, iV .i64 (IntKind.i64.wrap (Int.tmod a1 (5 : Int)))), (16, .own 14), (17, iV .i64 x4615), (19, iV .i64 b4621), (84, .own 14), (85, iV .i64 (t4579.length : Int)), (86, iV .i64 x4616), (101, bV (decide (b4629 ≥ b4621)))], [(14, some (.row 1 3 (t4579.map (encInt .i64))))], 0⟩) (by kernel_rfl)) (And.intro rfl rfl))
                · replace H := (ifF c4628).symm.trans H
                  refine reg hP hn hm [(2, .b false)] [0, 2, 3, 9, 15, 16, 17, 19, 84, 85, 86, 101] [13] ⟨[(0, .im (.row (a0.map epluvialref17_Item))), (2, iV .i64 a2), (3, iV .i64 a3), (9, .im (.row (t4131.map eplan_Item))), (15, iV .i64 (IntKind.i64.wrap (Int.tmod a1 (5 : Int)))), (16, .own 13), (17, iV .i64 x4615), (19, iV .i64 b4621), (84, .own 13), (85, iV .i64 (t4579.length : Int)), (86, iV .i64 x4616), (101, bV false)], [(13, some (.row 1 3 (t4579.map (encInt .i64))))], 0⟩ [(decide (x4616 > (0 : Int))) = false] (by kernel_rfl) ⟨by exact c4628, trivial⟩ ?_
                  obtain rfl := Option.some.inj H
                  exact Exists.intro _ (And.intro (fun _ _ h => h.conv (inv := [(13, 14)]) (vk := []) (e0 := []) (t := ⟨[(0, .im (.row (a0.map epluvialref17_Item))), (2, iV .i64 a2), (3, iV .i64 a3), (9, .im (.row (t4131.map eplan_Item))), (15, iV .i64 (IntKind.i64.wrap (Int.tmod a1 (5 : Int)))), (16, .own 14), (17, iV .i64 x4615), (19, iV .i64 b4621), (84, .own 14), (85, iV .i64 (t4579.length : Int)), (86, iV .i64 x4616), (101, bV false)], [(14, some (.row 1 3 (t4579.map (encInt .i64))))], 0⟩) (by kernel_rfl)) (And.intro rfl rfl))
              · obtain ⟨x4632, rfl⟩ : ∃ z, z = o4712 := ⟨_, rfl⟩
                rintro e s ⟨rfl, rfl⟩
                refine AWp.cond x4632 rfl (fun c4633 => ?_) (fun c4633 => ?_)
                · replace H := (ifT c4633).symm.trans H
                  refine AWp.seq ?_
                  refine reg hP hn hm [] [8] [] ⟨[(8, bV false)], [], 0⟩ [] (by kernel_rfl) trivial ?_
                  refine AWp.conv (inv := []) (vk := []) (e0 := []) (t := ⟨[(8, bV false)], [], 0⟩) (by kernel_rfl) ?_
                  refine AWp.ret ?_
                  obtain rfl := Option.some.inj H
                  exact Exists.intro _ (And.intro (fun _ _ h => h) (And.intro rfl (And.intro rfl (And.intro (by kernel_rfl) (by kernel_rfl)))))
                · replace H := (ifF c4633).symm.trans H
                  refine AWp.skip ?_
                  refine AWp.seq ?_
                  refine reg hP hn hm [(1, .any (iV .i64 (a0.length : Int)))] [0, 2, 3, 9, 15, 16, 17, 19, 84, 85, 86, 102, 103, 104] [14] ⟨[(0, .im (.row (a0.map epluvialref17_Item))), (2, iV .i64 a2), (3, iV .i64 a3), (9, .im (.row (t4131.map eplan_Item))), (15, iV .i64 (IntKind.i64.wrap (Int.tmod a1 (5 : Int)))), (16, .own 14), (17, iV .i64 x4615), (19, iV .i64 b4621), (84, .own 14), (85, iV .i64 (t4579.length : Int)), (86, iV .i64 x4616), (102, .im (.row (a0.map epluvialref17_Item))), (103, iV .i64 (a0.length : Int)), (104, iV .i64 0)], [(14, some (.row 1 3 (t4579.map (encInt .i64))))], 0⟩ [((a0.map epluvialref17_Item).length : Int) = (a0.length : Int)] (by kernel_rfl) ⟨by rw [len_map], trivial⟩ ?_
                  refine AWp.block ?_
                  obtain ⟨o4714, e4715, H⟩ := bind_of H
                  refine AWp.loop (LWp.conv (inv := [(14, 18)]) (vk := []) (e0 := []) (t := ⟨[(0, .im (.row (a0.map epluvialref17_Item))), (2, iV .i64 a2), (3, iV .i64 a3), (9, .im (.row (t4131.map eplan_Item))), (15, iV .i64 (IntKind.i64.wrap (Int.tmod a1 (5 : Int)))), (16, .own 18), (17, iV .i64 x4615), (19, iV .i64 b4621), (84, .own 18), (85, iV .i64 (t4579.length : Int)), (86, iV .i64 x4616), (102, .im (.row (a0.map epluvialref17_Item))), (103, iV .i64 (a0.length : Int)), (104, iV .i64 0)], [(18, some (.row 1 3 (t4579.map (encInt .i64))))], 0⟩) (by kernel_rfl) ?_)
                  refine LWp.mono (Q := fun e s => (match (generalizing := false) o4714 with | x4660 => e = .exit 2 ∧ s = ⟨[(0, .im (.row (a0.map epluvialref17_Item))), (2, iV .i64 a2), (3, iV .i64 a3), (9, .im (.row (t4131.map eplan_Item))), (15, iV .i64 (IntKind.i64.wrap (Int.tmod a1 (5 : Int)))), (16, .own 22), (17, iV .i64 x4660), (84, .own 22), (85, iV .i64 (t4579.length : Int)), (86, iV .i64 x4616)], [(22, some (.row 1 3 (t4579.map (encInt .i64))))], 0⟩)) (LWp.cv (withBody (fun body hbody => ?_))) ?_
                  · refine f_pluviallaw17_PlanNext.l1.partial_correctness a0 a1 a2 a3 b4621 t4131 t4579 x4616 (motive := fun x4646 x4647 o4714 => LWp Γ body (fun e s => ∃ t, Cv Γ s t ∧ (match (generalizing := false) o4714 with | x4660 => e = .exit 2 ∧ t = ⟨[(0, .im (.row (a0.map epluvialref17_Item))), (2, iV .i64 a2), (3, iV .i64 a3), (9, .im (.row (t4131.map eplan_Item))), (15, iV .i64 (IntKind.i64.wrap (Int.tmod a1 (5 : Int)))), (16, .own 22), (17, iV .i64 x4660), (84, .own 22), (85, iV .i64 (t4579.length : Int)), (86, iV .i64 x4616)], [(22, some (.row 1 3 (t4579.map (encInt .i64))))], 0⟩)) ⟨[(0, .im (.row (a0.map epluvialref17_Item))), (2, iV .i64 a2), (3, iV .i64 a3), (9, .im (.row (t4131.map eplan_Item))), (15, iV .i64 (IntKind.i64.wrap (Int.tmod a1 (5 : Int)))), (16, .own 18), (17, iV .i64 x4646), (19, iV .i64 b4621), (84, .own 18), (85, iV .i64 (t4579.length : Int)), (86, iV .i64 x4616), (102, .im (.row (a0.map epluvialref17_Item))), (103, iV .i64 (a0.length : Int)), (104, iV .i64 x4647)], [(18, some (.row 1 3 (t4579.map (encInt .i64))))], 0⟩) ?_ _ _ _ e4715
                    clear H e4715 o4714; intro self ih x4646 x4647 o4714 H
                    subst hbody
                    refine LWp.round ?_
                    refine AWp.seq ?_
                    refine reg hP hn hm [] [0, 2, 3, 9, 15, 16, 17, 19, 84, 85, 86, 102, 103, 104, 105] [18] ⟨[(0, .im (.row (a0.map epluvialref17_Item))), (2, iV .i64 a2), (3, iV .i64 a3), (9, .im (.row (t4131.map eplan_Item))), (15, iV .i64 (IntKind.i64.wrap (Int.tmod a1 (5 : Int)))), (16, .own 18), (17, iV .i64 x4646), (19, iV .i64 b4621), (84, .own 18), (85, iV .i64 (t4579.length : Int)), (86, iV .i64 x4616), (102, .im (.row (a0.map epluvialref17_Item))), (103, iV .i64 (a0.length : Int)), (104, iV .i64 x4647), (105, bV (decide (x4647 < (a0.length : Int))))], [(18, some (.row 1 3 (t4579.map (encInt .i64))))], 0⟩ [] (by kernel_rfl) trivial ?_
                    refine AWp.seq ?_
                    refine AWp.cond (decide (x4647 < (a0.length : Int))) rfl (fun c4648 => ?_) (fun c4648 => ?_)
                    · replace H := (ifT c4648).symm.trans H
                      refine AWp.skip ?_
                      refine AWp.seq ?_
                      refine AWp.block ?_
                      refine AWp.seq ?_
                      obtain ⟨b4652, p4653, q4654, H⟩ := at_of H
                      refine reg hP hn hm [(0, .c (epluvialref17_Item b4652)), (2, .k 19)] [0, 2, 3, 9, 15, 16, 17, 19, 21, 84, 85, 86, 102, 103, 104] [18, 19] ⟨[(0, .im (.row (a0.map epluvialref17_Item))), (2, iV .i64 a2), (3, iV .i64 a3), (9, .im (.row (t4131.map eplan_Item))), (15, iV .i64 (IntKind.i64.wrap (Int.tmod a1 (5 : Int)))), (16, .own 18), (17, iV .i64 x4646), (19, iV .i64 b4621), (21, .ptr 19 0 0), (84, .own 18), (85, iV .i64 (t4579.length : Int)), (86, iV .i64 x4616), (102, .im (.row (a0.map epluvialref17_Item))), (103, iV .i64 (a0.length : Int)), (104, iV .i64 x4647)], [(18, some (.row 1 3 (t4579.map (encInt .i64)))), (19, some (.box 31 (apluvialref17_Item b4652)))], 0⟩ [0 ≤ x4647, (a0.map epluvialref17_Item)[(Int.toNat (x4647))]? = some (epluvialref17_Item b4652)] (by kernel_rfl) ⟨by exact p4653, by exact el_map epluvialref17_Item q4654, trivial⟩ ?_
                      refine AWp.seq ?_
                      obtain ⟨o4716, e4717, H⟩ := bind_of H
                      refine AWp.mono (Q := fun e s => (match (generalizing := false) o4716 with | x4657 => e = .normal ∧ s = ⟨[(0, .im (.row (a0.map epluvialref17_Item))), (2, iV .i64 a2), (3, iV .i64 a3), (9, .im (.row (t4131.map eplan_Item))), (15, iV .i64 (IntKind.i64.wrap (Int.tmod a1 (5 : Int)))), (16, .own 20), (17, iV .i64 x4646), (19, iV .i64 b4621), (84, .own 20), (85, iV .i64 (t4579.length : Int)), (86, iV .i64 x4616), (102, .im (.row (a0.map epluvialref17_Item))), (103, iV .i64 (a0.length : Int)), (104, iV .i64 x4647), (117, bV x4657)], [(20, some (.row 1 3 (t4579.map (encInt .i64))))], 0⟩)) (AWp.cv ?_) ?_
                      · replace H := e4717; clear e4717
                        rcases Bool.eq_false_or_eq_true (b4652.f0 == b4621) with c4656 | c4656
                        · replace H := (ifT c4656).symm.trans H
                          refine reg hP hn hm [(4, .b true)] [0, 2, 3, 9, 15, 16, 17, 19, 84, 85, 86, 102, 103, 104, 113, 114, 115, 116, 117] [18, 19] ⟨[(0, .im (.row (a0.map epluvialref17_Item))), (2, iV .i64 a2), (3, iV .i64 a3), (9, .im (.row (t4131.map eplan_Item))), (15, iV .i64 (IntKind.i64.wrap (Int.tmod a1 (5 : Int)))), (16, .own 18), (17, iV .i64 x4646), (19, iV .i64 b4621), (84, .own 18), (85, iV .i64 (t4579.length : Int)), (86, iV .i64 x4616), (102, .im (.row (a0.map epluvialref17_Item))), (103, iV .i64 (a0.length : Int)), (104, iV .i64 x4647), (113, .ptr 19 0 3), (114, iV .i64 b4652.f3), (115, iV .i64 a3), (116, bV (decide (b4652.f3 ≤ a3))), (117, bV (decide (b4652.f3 ≤ a3)))], [(18, some (.row 1 3 (t4579.map (encInt .i64)))), (19, some (.box 31 (apluvialref17_Item b4652)))], 0⟩ [(b4652.f0 == b4621) = true] (by kernel_rfl) ⟨by exact c4656, trivial⟩ ?_
                          obtain rfl := Option.some.inj H
                          exact Exists.intro _ (And.intro (fun _ _ h => h.conv (inv := [(18, 20)]) (vk := []) (e0 := []) (t := ⟨[(0, .im (.row (a0.map epluvialref17_Item))), (2, iV .i64 a2), (3, iV .i64 a3), (9, .im (.row (t4131.map eplan_Item))), (15, iV .i64 (IntKind.i64.wrap (Int.tmod a1 (5 : Int)))), (16, .own 20), (17, iV .i64 x4646), (19, iV .i64 b4621), (84, .own 20), (85, iV .i64 (t4579.length : Int)), (86, iV .i64 x4616), (102, .im (.row (a0.map epluvialref17_Item))), (103, iV .i64 (a0.length : Int)), (104, iV .i64 x4647), (117, bV (decide (b4652.f3 ≤ a3)))], [(20, some (.row 1 3 (t4579.map (encInt .i64))))], 0⟩) (by kernel_rfl)) (And.intro rfl rfl))
                        · replace H := (ifF c4656).symm.trans H
                          refine reg hP hn hm [(4, .b false)] [0, 2, 3, 9, 15, 16, 17, 19, 84, 85, 86, 102, 103, 104, 117] [18] ⟨[(0, .im (.row (a0.map epluvialref17_Item))), (2, iV .i64 a2), (3, iV .i64 a3), (9, .im (.row (t4131.map eplan_Item))), (15, iV .i64 (IntKind.i64.wrap (Int.tmod a1 (5 : Int)))), (16, .own 18), (17, iV .i64 x4646), (19, iV .i64 b4621), (84, .own 18), (85, iV .i64 (t4579.length : Int)), (86, iV .i64 x4616), (102, .im (.row (a0.map epluvialref17_Item))), (103, iV .i64 (a0.length : Int)), (104, iV .i64 x4647), (117, bV false)], [(18, some (.row 1 3 (t4579.map (encInt .i64))))], 0⟩ [(b4652.f0 == b4621) = false] (by kernel_rfl) ⟨by exact c4656, trivial⟩ ?_
                          obtain rfl := Option.some.inj H
                          exact Exists.intro _ (And.intro (fun _ _ h => h.conv (inv := [(18, 20)]) (vk := []) (e0 := []) (t := ⟨[(0, .im (.row (a0.map epluvialref17_Item))), (2, iV .i64 a2), (3, iV .i64 a3), (9, .im (.row (t4131.map eplan_Item))), (15, iV .i64 (IntKind.i64.wrap (Int.tmod a1 (5 : Int)))), (16, .own 20), (17, iV .i64 x4646), (19, iV .i64 b4621), (84, .own 20), (85, iV .i64 (t4579.length : Int)), (86, iV .i64 x4616), (102, .im (.row (a0.map epluvialref17_Item))), (103, iV .i64 (a0.length : Int)), (104, iV .i64 x4647), (117, bV false)], [(20, some (.row 1 3 (t4579.map (encInt .i64))))], 0⟩) (by kernel_rfl)) (And.intro rfl rfl))
                      · obtain ⟨x4657, rfl⟩ : ∃ z, z = o4716 := ⟨_, rfl⟩
                        rintro e s ⟨rfl, rfl⟩
                        obtain ⟨o4718, e4719, H⟩ := bind_of H
                        refine AWp.mono (Q := fun e s => (match (generalizing := false) o4718 with | x4659 => e = .normal ∧ s = ⟨[(0, .im (.row (a0.map epluvialref17_Item))), (2, iV .i64 a2), (3, iV .i64 a3), (9, .im (.row (t4131.map eplan_Item))), (15, iV .i64 (IntKind.i64.wrap (Int.tmod a1 (5 : Int)))), (16, .own 21), (17, iV .i64 x4659), (19, iV .i64 b4621), (84, .own 21), (85, iV .i64 (t4579.length : Int)), (86, iV .i64 x4616), (102, .im (.row (a0.map epluvialref17_Item))), (103, iV .i64 (a0.length : Int)), (104, iV .i64 x4647)], [(21, some (.row 1 3 (t4579.map (encInt .i64))))], 0⟩)) (AWp.cv ?_) ?_
                        · replace H := e4719; clear e4719
                          refine AWp.cond x4657 rfl (fun c4658 => ?_) (fun c4658 => ?_)
                          · replace H := (ifT c4658).symm.trans H
                            refine reg hP hn hm [] [0, 2, 3, 9, 15, 16, 17, 19, 84, 85, 86, 102, 103, 104] [20] ⟨[(0, .im (.row (a0.map epluvialref17_Item))), (2, iV .i64 a2), (3, iV .i64 a3), (9, .im (.row (t4131.map eplan_Item))), (15, iV .i64 (IntKind.i64.wrap (Int.tmod a1 (5 : Int)))), (16, .own 20), (17, iV .i64 (IntKind.i64.wrap (x4646 + (1 : Int)))), (19, iV .i64 b4621), (84, .own 20), (85, iV .i64 (t4579.length : Int)), (86, iV .i64 x4616), (102, .im (.row (a0.map epluvialref17_Item))), (103, iV .i64 (a0.length : Int)), (104, iV .i64 x4647)], [(20, some (.row 1 3 (t4579.map (encInt .i64))))], 0⟩ [] (by kernel_rfl) trivial ?_
                            obtain rfl := Option.some.inj H
                            exact Exists.intro _ (And.intro (fun _ _ h => h.conv (inv := [(20, 21)]) (vk := []) (e0 := []) (t := ⟨[(0, .im (.row (a0.map epluvialref17_Item))), (2, iV .i64 a2), (3, iV .i64 a3), (9, .im (.row (t4131.map eplan_Item))), (15, iV .i64 (IntKind.i64.wrap (Int.tmod a1 (5 : Int)))), (16, .own 21), (17, iV .i64 (IntKind.i64.wrap (x4646 + (1 : Int)))), (19, iV .i64 b4621), (84, .own 21), (85, iV .i64 (t4579.length : Int)), (86, iV .i64 x4616), (102, .im (.row (a0.map epluvialref17_Item))), (103, iV .i64 (a0.length : Int)), (104, iV .i64 x4647)], [(21, some (.row 1 3 (t4579.map (encInt .i64))))], 0⟩) (by kernel_rfl)) (And.intro rfl rfl))
                          · replace H := (ifF c4658).symm.trans H
                            refine AWp.skip ?_
                            obtain rfl := Option.some.inj H
                            exact Exists.intro _ (And.intro (fun _ _ h => h.conv (inv := [(20, 21)]) (vk := []) (e0 := []) (t := ⟨[(0, .im (.row (a0.map epluvialref17_Item))), (2, iV .i64 a2), (3, iV .i64 a3), (9, .im (.row (t4131.map eplan_Item))), (15, iV .i64 (IntKind.i64.wrap (Int.tmod a1 (5 : Int)))), (16, .own 21), (17, iV .i64 x4646), (19, iV .i64 b4621), (84, .own 21), (85, iV .i64 (t4579.length : Int)), (86, iV .i64 x4616), (102, .im (.row (a0.map epluvialref17_Item))), (103, iV .i64 (a0.length : Int)), (104, iV .i64 x4647)], [(21, some (.row 1 3 (t4579.map (encInt .i64))))], 0⟩) (by kernel_rfl)) (And.intro rfl rfl))
                        · obtain ⟨x4659, rfl⟩ : ∃ z, z = o4718 := ⟨_, rfl⟩
                          rintro e s ⟨rfl, rfl⟩
                          refine reg hP hn hm [] [0, 2, 3, 9, 15, 16, 17, 19, 84, 85, 86, 102, 103, 104] [21] ⟨[(0, .im (.row (a0.map epluvialref17_Item))), (2, iV .i64 a2), (3, iV .i64 a3), (9, .im (.row (t4131.map eplan_Item))), (15, iV .i64 (IntKind.i64.wrap (Int.tmod a1 (5 : Int)))), (16, .own 21), (17, iV .i64 x4659), (19, iV .i64 b4621), (84, .own 21), (85, iV .i64 (t4579.length : Int)), (86, iV .i64 x4616), (102, .im (.row (a0.map epluvialref17_Item))), (103, iV .i64 (a0.length : Int)), (104, iV .i64 (IntKind.i64.wrap (x4647 + (1 : Int))))], [(21, some (.row 1 3 (t4579.map (encInt .i64))))], 0⟩ [] (by kernel_rfl) trivial ?_
                          exact LWp.conv (inv := [(21, 18)]) (vk := []) (e0 := []) (t := ⟨[(0, .im (.row (a0.map epluvialref17_Item))), (2, iV .i64 a2), (3, iV .i64 a3), (9, .im (.row (t4131.map eplan_Item))), (15, iV .i64 (IntKind.i64.wrap (Int.tmod a1 (5 : Int)))), (16, .own 18), (17, iV .i64 x4659), (19, iV .i64 b4621), (84, .own 18), (85, iV .i64 (t4579.length : Int)), (86, iV .i64 x4616), (102, .im (.row (a0.map epluvialref17_Item))), (103, iV .i64 (a0.length : Int)), (104, iV .i64 (IntKind.i64.wrap (x4647 + (1 : Int))))], [(18, some (.row 1 3 (t4579.map (encInt .i64))))], 0⟩) (by kernel_rfl) (ih _ _ _ H)
                    · replace H := (ifF c4648).symm.trans H
                      refine AWp.exit ?_
                      obtain rfl := Option.some.inj H
                      exact Exists.intro _ (And.intro (fun _ _ h => h.conv (inv := [(18, 22)]) (vk := []) (e0 := []) (t := ⟨[(0, .im (.row (a0.map epluvialref17_Item))), (2, iV .i64 a2), (3, iV .i64 a3), (9, .im (.row (t4131.map eplan_Item))), (15, iV .i64 (IntKind.i64.wrap (Int.tmod a1 (5 : Int)))), (16, .own 22), (17, iV .i64 x4646), (84, .own 22), (85, iV .i64 (t4579.length : Int)), (86, iV .i64 x4616)], [(22, some (.row 1 3 (t4579.map (encInt .i64))))], 0⟩) (by kernel_rfl)) (And.intro rfl rfl))
                  · obtain ⟨x4660, rfl⟩ : ∃ z, z = o4714 := ⟨_, rfl⟩
                    rintro e s ⟨rfl, rfl⟩
                    refine reg hP hn hm [] [0, 2, 3, 9, 15, 16, 17, 84, 85, 86] [22] ⟨[(0, .im (.row (a0.map epluvialref17_Item))), (2, iV .i64 a2), (3, iV .i64 a3), (9, .im (.row (t4131.map eplan_Item))), (15, iV .i64 (IntKind.i64.wrap (Int.tmod a1 (5 : Int)))), (16, .own 22), (17, iV .i64 x4660), (84, .own 22), (85, iV .i64 (t4579.length : Int)), (86, iV .i64 (IntKind.i64.wrap (x4616 + (1 : Int))))], [(22, some (.row 1 3 (t4579.map (encInt .i64))))], 0⟩ [] (by kernel_rfl) trivial ?_
                    exact LWp.conv (inv := [(22, 13)]) (vk := []) (e0 := []) (t := ⟨[(0, .im (.row (a0.map epluvialref17_Item))), (2, iV .i64 a2), (3, iV .i64 a3), (9, .im (.row (t4131.map eplan_Item))), (15, iV .i64 (IntKind.i64.wrap (Int.tmod a1 (5 : Int)))), (16, .own 13), (17, iV .i64 x4660), (84, .own 13), (85, iV .i64 (t4579.length : Int)), (86, iV .i64 (IntKind.i64.wrap (x4616 + (1 : Int))))], [(13, some (.row 1 3 (t4579.map (encInt .i64))))], 0⟩) (by kernel_rfl) (ih _ _ _ H)
            · replace H := (ifF c4617).symm.trans H
              refine AWp.exit ?_
              obtain rfl := Option.some.inj H
              exact Exists.intro _ (And.intro (fun _ _ h => h.conv (inv := [(13, 23)]) (vk := []) (e0 := []) (t := ⟨[(0, .im (.row (a0.map epluvialref17_Item))), (2, iV .i64 a2), (3, iV .i64 a3), (9, .im (.row (t4131.map eplan_Item))), (15, iV .i64 (IntKind.i64.wrap (Int.tmod a1 (5 : Int)))), (16, .own 23), (17, iV .i64 x4615)], [(23, some (.row 1 3 (t4579.map (encInt .i64))))], 0⟩) (by kernel_rfl)) (And.intro rfl rfl))
          · rcases o4710 with rr | x4661
            · skip
              rintro e s ⟨rfl, hfl, hres⟩
              obtain rfl := Option.some.inj H
              exact Exists.intro _ (And.intro (fun _ _ h => h) (And.intro (.inl rfl) (And.intro hfl hres)))
            · skip
              rintro e s ⟨rfl, rfl⟩
              refine AWp.seq ?_
              refine reg hP hn hm [] [0, 2, 3, 9, 15, 16, 17, 22] [23] ⟨[(0, .im (.row (a0.map epluvialref17_Item))), (2, iV .i64 a2), (3, iV .i64 a3), (9, .im (.row (t4131.map eplan_Item))), (15, iV .i64 (IntKind.i64.wrap (Int.tmod a1 (5 : Int)))), (16, .own 23), (17, iV .i64 x4661), (22, iV .i64 0)], [(23, some (.row 1 3 (t4579.map (encInt .i64))))], 0⟩ [] (by kernel_rfl) trivial ?_
              refine AWp.seq ?_
              refine AWp.seq ?_
              refine reg hP hn hm [(1, .any (iV .i64 (a0.length : Int)))] [0, 2, 3, 9, 15, 16, 17, 22, 122, 123, 124] [23] ⟨[(0, .im (.row (a0.map epluvialref17_Item))), (2, iV .i64 a2), (3, iV .i64 a3), (9, .im (.row (t4131.map eplan_Item))), (15, iV .i64 (IntKind.i64.wrap (Int.tmod a1 (5 : Int)))), (16, .own 23), (17, iV .i64 x4661), (22, iV .i64 0), (122, .im (.row (a0.map epluvialref17_Item))), (123, iV .i64 (a0.length : Int)), (124, iV .i64 0)], [(23, some (.row 1 3 (t4579.map (encInt .i64))))], 0⟩ [((a0.map epluvialref17_Item).length : Int) = (a0.length : Int)] (by kernel_rfl) ⟨by rw [len_map], trivial⟩ ?_
              refine AWp.block ?_
              obtain ⟨o4720, e4721, H⟩ := bind_of H
              refine AWp.loop (LWp.conv (inv := [(23, 26)]) (vk := []) (e0 := []) (t := ⟨[(0, .im (.row (a0.map epluvialref17_Item))), (2, iV .i64 a2), (3, iV .i64 a3), (9, .im (.row (t4131.map eplan_Item))), (15, iV .i64 (IntKind.i64.wrap (Int.tmod a1 (5 : Int)))), (16, .own 26), (17, iV .i64 x4661), (22, iV .i64 0), (122, .im (.row (a0.map epluvialref17_Item))), (123, iV .i64 (a0.length : Int)), (124, iV .i64 0)], [(26, some (.row 1 3 (t4579.map (encInt .i64))))], 0⟩) (by kernel_rfl) ?_)
              refine LWp.mono (Q := fun e s => (match (generalizing := false) o4720 with | x4682 => e = .exit 4 ∧ s = ⟨[(0, .im (.row (a0.map epluvialref17_Item))), (2, iV .i64 a2), (9, .im (.row (t4131.map eplan_Item))), (15, iV .i64 (IntKind.i64.wrap (Int.tmod a1 (5 : Int)))), (16, .own 29), (17, iV .i64 x4661), (22, iV .i64 x4682)], [(29, some (.row 1 3 (t4579.map (encInt .i64))))], 0⟩)) (LWp.cv (withBody (fun body hbody => ?_))) ?_
              · refine f_pluviallaw17_PlanNext.l2.partial_correctness a0 a1 a2 a3 t4131 t4579 x4661 (motive := fun x4671 x4672 o4720 => LWp Γ body (fun e s => ∃ t, Cv Γ s t ∧ (match (generalizing := false) o4720 with | x4682 => e = .exit 4 ∧ t = ⟨[(0, .im (.row (a0.map epluvialref17_Item))), (2, iV .i64 a2), (9, .im (.row (t4131.map eplan_Item))), (15, iV .i64 (IntKind.i64.wrap (Int.tmod a1 (5 : Int)))), (16, .own 29), (17, iV .i64 x4661), (22, iV .i64 x4682)], [(29, some (.row 1 3 (t4579.map (encInt .i64))))], 0⟩)) ⟨[(0, .im (.row (a0.map epluvialref17_Item))), (2, iV .i64 a2), (3, iV .i64 a3), (9, .im (.row (t4131.map eplan_Item))), (15, iV .i64 (IntKind.i64.wrap (Int.tmod a1 (5 : Int)))), (16, .own 26), (17, iV .i64 x4661), (22, iV .i64 x4671), (122, .im (.row (a0.map epluvialref17_Item))), (123, iV .i64 (a0.length : Int)), (124, iV .i64 x4672)], [(26, some (.row 1 3 (t4579.map (encInt .i64))))], 0⟩) ?_ _ _ _ e4721
                clear H e4721 o4720; intro self ih x4671 x4672 o4720 H
                subst hbody
                refine LWp.round ?_
                refine AWp.seq ?_
                refine reg hP hn hm [] [0, 2, 3, 9, 15, 16, 17, 22, 122, 123, 124, 125] [26] ⟨[(0, .im (.row (a0.map epluvialref17_Item))), (2, iV .i64 a2), (3, iV .i64 a3), (9, .im (.row (t4131.map eplan_Item))), (15, iV .i64 (IntKind.i64.wrap (Int.tmod a1 (5 : Int)))), (16, .own 26), (17, iV .i64 x4661), (22, iV .i64 x4671), (122, .im (.row (a0.map epluvialref17_Item))), (123, iV .i64 (a0.length : Int)), (124, iV .i64 x4672), (125, bV (decide (x4672 < (a0.length : Int))))], [(26, some (.row 1 3 (t4579.map (encInt .i64))))], 0⟩ [] (by kernel_rfl) trivial ?_
                refine AWp.seq ?_
                refine AWp.cond (decide (x4672 < (a0.length : Int))) rfl (fun c4673 => ?_) (fun c4673 => ?_)
                · replace H := (ifT c4673).symm.trans H
                  refine AWp.skip ?_
                  refine AWp.seq ?_
                  refine AWp.block ?_
                  refine AWp.seq ?_
                  obtain ⟨b4677, p4678, q4679, H⟩ := at_of H
                  refine reg hP hn hm [(0, .c (epluvialref17_Item b4677)), (2, .k 27)] [0, 2, 3, 9, 15, 16, 17, 22, 24, 122, 123, 124] [26, 27] ⟨[(0, .im (.row (a0.map epluvialref17_Item))), (2, iV .i64 a2), (3, iV .i64 a3), (9, .im (.row (t4131.map eplan_Item))), (15, iV .i64 (IntKind.i64.wrap (Int.tmod a1 (5 : Int)))), (16, .own 26), (17, iV .i64 x4661), (22, iV .i64 x4671), (24, .ptr 27 0 0), (122, .im (.row (a0.map epluvialref17_Item))), (123, iV .i64 (a0.length : Int)), (124, iV .i64 x4672)], [(26, some (.row 1 3 (t4579.map (encInt .i64)))), (27, some (.box 31 (apluvialref17_Item b4677)))], 0⟩ [0 ≤ x4672, (a0.map epluvialref17_Item)[(Int.toNat (x4672))]? = some (epluvialref17_Item b4677)] (by kernel_rfl) ⟨by exact p4678, by exact el_map epluvialref17_Item q4679, trivial⟩ ?_
                  refine AWp.seq ?_
                  refine reg hP hn hm [] [0, 2, 3, 9, 15, 16, 17, 22, 122, 123, 124, 131] [26] ⟨[(0, .im (.row (a0.map epluvialref17_Item))), (2, iV .i64 a2), (3, iV .i64 a3), (9, .im (.row (t4131.map eplan_Item))), (15, iV .i64 (IntKind.i64.wrap (Int.tmod a1 (5 : Int)))), (16, .own 26), (17, iV .i64 x4661), (22, iV .i64 x4671), (122, .im (.row (a0.map epluvialref17_Item))), (123, iV .i64 (a0.length : Int)), (124, iV .i64 x4672), (131, bV (decide (b4677.f3 ≤ a3)))], [(26, some (.row 1 3 (t4579.map (encInt .i64))))], 0⟩ [] (by kernel_rfl) trivial ?_
                  obtain ⟨o4722, e4723, H⟩ := bind_of H
                  refine AWp.mono (Q := fun e s => (match (generalizing := false) o4722 with | x4681 => e = .normal ∧ s = ⟨[(0, .im (.row (a0.map epluvialref17_Item))), (2, iV .i64 a2), (3, iV .i64 a3), (9, .im (.row (t4131.map eplan_Item))), (15, iV .i64 (IntKind.i64.wrap (Int.tmod a1 (5 : Int)))), (16, .own 28), (17, iV .i64 x4661), (22, iV .i64 x4681), (122, .im (.row (a0.map epluvialref17_Item))), (123, iV .i64 (a0.length : Int)), (124, iV .i64 x4672)], [(28, some (.row 1 3 (t4579.map (encInt .i64))))], 0⟩)) (AWp.cv ?_) ?_
                  · replace H := e4723; clear e4723
                    refine AWp.cond (decide (b4677.f3 ≤ a3)) rfl (fun c4680 => ?_) (fun c4680 => ?_)
                    · replace H := (ifT c4680).symm.trans H
                      refine reg hP hn hm [] [0, 2, 3, 9, 15, 16, 17, 22, 122, 123, 124] [26] ⟨[(0, .im (.row (a0.map epluvialref17_Item))), (2, iV .i64 a2), (3, iV .i64 a3), (9, .im (.row (t4131.map eplan_Item))), (15, iV .i64 (IntKind.i64.wrap (Int.tmod a1 (5 : Int)))), (16, .own 26), (17, iV .i64 x4661), (22, iV .i64 (IntKind.i64.wrap (x4671 + (1 : Int)))), (122, .im (.row (a0.map epluvialref17_Item))), (123, iV .i64 (a0.length : Int)), (124, iV .i64 x4672)], [(26, some (.row 1 3 (t4579.map (encInt .i64))))], 0⟩ [] (by kernel_rfl) trivial ?_
                      obtain rfl := Option.some.inj H
                      exact Exists.intro _ (And.intro (fun _ _ h => h.conv (inv := [(26, 28)]) (vk := []) (e0 := []) (t := ⟨[(0, .im (.row (a0.map epluvialref17_Item))), (2, iV .i64 a2), (3, iV .i64 a3), (9, .im (.row (t4131.map eplan_Item))), (15, iV .i64 (IntKind.i64.wrap (Int.tmod a1 (5 : Int)))), (16, .own 28), (17, iV .i64 x4661), (22, iV .i64 (IntKind.i64.wrap (x4671 + (1 : Int)))), (122, .im (.row (a0.map epluvialref17_Item))), (123, iV .i64 (a0.length : Int)), (124, iV .i64 x4672)], [(28, some (.row 1 3 (t4579.map (encInt .i64))))], 0⟩) (by kernel_rfl)) (And.intro rfl rfl))
                    · replace H := (ifF c4680).symm.trans H
                      refine AWp.skip ?_
                      obtain rfl := Option.some.inj H
                      exact Exists.intro _ (And.intro (fun _ _ h => h.conv (inv := [(26, 28)]) (vk := []) (e0 := []) (t := ⟨[(0, .im (.row (a0.map epluvialref17_Item))), (2, iV .i64 a2), (3, iV .i64 a3), (9, .im (.row (t4131.map eplan_Item))), (15, iV .i64 (IntKind.i64.wrap (Int.tmod a1 (5 : Int)))), (16, .own 28), (17, iV .i64 x4661), (22, iV .i64 x4671), (122, .im (.row (a0.map epluvialref17_Item))), (123, iV .i64 (a0.length : Int)), (124, iV .i64 x4672)], [(28, some (.row 1 3 (t4579.map (encInt .i64))))], 0⟩) (by kernel_rfl)) (And.intro rfl rfl))
                  · obtain ⟨x4681, rfl⟩ : ∃ z, z = o4722 := ⟨_, rfl⟩
                    rintro e s ⟨rfl, rfl⟩
                    refine reg hP hn hm [] [0, 2, 3, 9, 15, 16, 17, 22, 122, 123, 124] [28] ⟨[(0, .im (.row (a0.map epluvialref17_Item))), (2, iV .i64 a2), (3, iV .i64 a3), (9, .im (.row (t4131.map eplan_Item))), (15, iV .i64 (IntKind.i64.wrap (Int.tmod a1 (5 : Int)))), (16, .own 28), (17, iV .i64 x4661), (22, iV .i64 x4681), (122, .im (.row (a0.map epluvialref17_Item))), (123, iV .i64 (a0.length : Int)), (124, iV .i64 (IntKind.i64.wrap (x4672 + (1 : Int))))], [(28, some (.row 1 3 (t4579.map (encInt .i64))))], 0⟩ [] (by kernel_rfl) trivial ?_
                    exact LWp.conv (inv := [(28, 26)]) (vk := []) (e0 := []) (t := ⟨[(0, .im (.row (a0.map epluvialref17_Item))), (2, iV .i64 a2), (3, iV .i64 a3), (9, .im (.row (t4131.map eplan_Item))), (15, iV .i64 (IntKind.i64.wrap (Int.tmod a1 (5 : Int)))), (16, .own 26), (17, iV .i64 x4661), (22, iV .i64 x4681), (122, .im (.row (a0.map epluvialref17_Item))), (123, iV .i64 (a0.length : Int)), (124, iV .i64 (IntKind.i64.wrap (x4672 + (1 : Int))))], [(26, some (.row 1 3 (t4579.map (encInt .i64))))], 0⟩) (by kernel_rfl) (ih _ _ _ H)
                · replace H := (ifF c4673).symm.trans H
                  refine AWp.exit ?_
                  obtain rfl := Option.some.inj H
                  exact Exists.intro _ (And.intro (fun _ _ h => h.conv (inv := [(26, 29)]) (vk := []) (e0 := []) (t := ⟨[(0, .im (.row (a0.map epluvialref17_Item))), (2, iV .i64 a2), (9, .im (.row (t4131.map eplan_Item))), (15, iV .i64 (IntKind.i64.wrap (Int.tmod a1 (5 : Int)))), (16, .own 29), (17, iV .i64 x4661), (22, iV .i64 x4671)], [(29, some (.row 1 3 (t4579.map (encInt .i64))))], 0⟩) (by kernel_rfl)) (And.intro rfl rfl))
              · obtain ⟨x4682, rfl⟩ : ∃ z, z = o4720 := ⟨_, rfl⟩
                rintro e s ⟨rfl, rfl⟩
                refine AWp.seq ?_
                obtain ⟨o4724, e4725, H⟩ := bind_of H
                refine AWp.mono (Q := fun e s => (match (generalizing := false) o4724 with | x4705 => e = .normal ∧ s = ⟨[(8, bV x4705)], [], 0⟩)) (AWp.cv ?_) ?_
                · replace H := e4725; clear e4725
                  obtain ⟨t4694, e4695, H⟩ := bind_of H
                  rcases Bool.eq_false_or_eq_true t4694 with c4696 | c4696
                  · replace H := (ifT c4696).symm.trans H
                    obtain ⟨t4697, e4698, H⟩ := bind_of H
                    obtain ⟨t4699, e4700, H⟩ := bind_of H
                    obtain ⟨t4701, e4702, H⟩ := bind_of H
                    rcases Bool.eq_false_or_eq_true t4701 with c4703 | c4703
                    · replace H := (ifT c4703).symm.trans H
                      rcases Bool.eq_false_or_eq_true (x4661 == x4682) with c4704 | c4704
                      · replace H := (ifT c4704).symm.trans H
                        refine reg hP hn hm [(0, .call [] [] [] [] 0 (bV t4694) []), (1, .b true), (5, .call [] [(0, 30)] [] [30] 0 (.own 0) [(0, some (.row 1 3 (t4697.map (encInt .i64))))]), (9, .call [] [(0, 31)] [] [31] 0 (.own 0) [(0, some (.row 1 3 (t4699.map (encInt .i64))))]), (10, .call [] [] [30, 31] [] 0 (bV t4701) []), (12, .b true), (17, .b true), (19, .any (iV .i64 (t4579.length : Int)))] [8] [] ⟨[(8, bV ((t4579.length : Int) == x4682))], [], 0⟩ [Enters Try.prog 13, Pv.Fn Try.prog 13 [] [] 0 (fun r o => r = bV t4694 ∧ o = []), t4694 = true, Enters Try.prog 22, Pv.Fn Try.prog 22 [.im (.row (t4131.map eplan_Item)), iV .i64 (IntKind.i64.wrap (Int.tmod a1 (5 : Int))), iV .i64 a2] [] 0 (fun r o => r = .own 0 ∧ o = [(0, some (.row 1 3 (t4697.map (encInt .i64))))]), Enters Try.prog 23, Pv.Fn Try.prog 23 [.im (.row (a0.map epluvialref17_Item)), iV .i64 (IntKind.i64.wrap (Int.tmod a1 (5 : Int))), iV .i64 a2] [] 0 (fun r o => r = .own 0 ∧ o = [(0, some (.row 1 3 (t4699.map (encInt .i64))))]), Enters Try.prog 17, Pv.Fn Try.prog 17 [.im (.row (t4697.map (encInt .i64))), .im (.row (t4699.map (encInt .i64)))] [] 0 (fun r o => r = bV t4701 ∧ o = []), t4701 = true, (x4661 == x4682) = true, ((t4579.map (encInt .i64)).length : Int) = (t4579.length : Int)] (by kernel_rfl) ⟨by exact Try.call13, by exact f_pluviallaw17_awake.ok  t4694 e4695, by exact c4696, by exact Try.call22, by exact f_plan_Within.ok t4131 (IntKind.i64.wrap (Int.tmod a1 (5 : Int))) a2 t4697 e4698, by exact Try.call23, by exact f_pluvialref17_Within.ok a0 (IntKind.i64.wrap (Int.tmod a1 (5 : Int))) a2 t4699 e4700, by exact Try.call17, by exact f_pluviallaw17_ints.ok t4697 t4699 t4701 e4702, by exact c4703, by exact c4704, by rw [len_map], trivial⟩ ?_
                        obtain rfl := Option.some.inj H
                        exact Exists.intro _ (And.intro (fun _ _ h => h.conv (inv := []) (vk := []) (e0 := []) (t := ⟨[(8, bV ((t4579.length : Int) == x4682))], [], 0⟩) (by kernel_rfl)) (And.intro rfl rfl))
                      · replace H := (ifF c4704).symm.trans H
                        refine reg hP hn hm [(0, .call [] [] [] [] 0 (bV t4694) []), (1, .b true), (5, .call [] [(0, 30)] [] [30] 0 (.own 0) [(0, some (.row 1 3 (t4697.map (encInt .i64))))]), (9, .call [] [(0, 31)] [] [31] 0 (.own 0) [(0, some (.row 1 3 (t4699.map (encInt .i64))))]), (10, .call [] [] [30, 31] [] 0 (bV t4701) []), (12, .b true), (17, .b false)] [8] [] ⟨[(8, bV false)], [], 0⟩ [Enters Try.prog 13, Pv.Fn Try.prog 13 [] [] 0 (fun r o => r = bV t4694 ∧ o = []), t4694 = true, Enters Try.prog 22, Pv.Fn Try.prog 22 [.im (.row (t4131.map eplan_Item)), iV .i64 (IntKind.i64.wrap (Int.tmod a1 (5 : Int))), iV .i64 a2] [] 0 (fun r o => r = .own 0 ∧ o = [(0, some (.row 1 3 (t4697.map (encInt .i64))))]), Enters Try.prog 23, Pv.Fn Try.prog 23 [.im (.row (a0.map epluvialref17_Item)), iV .i64 (IntKind.i64.wrap (Int.tmod a1 (5 : Int))), iV .i64 a2] [] 0 (fun r o => r = .own 0 ∧ o = [(0, some (.row 1 3 (t4699.map (encInt .i64))))]), Enters Try.prog 17, Pv.Fn Try.prog 17 [.im (.row (t4697.map (encInt .i64))), .im (.row (t4699.map (encInt .i64)))] [] 0 (fun r o => r = bV t4701 ∧ o = []), t4701 = true, (x4661 == x4682) = false] (by kernel_rfl) ⟨by exact Try.call13, by exact f_pluviallaw17_awake.ok  t4694 e4695, by exact c4696, by exact Try.call22, by exact f_plan_Within.ok t4131 (IntKind.i64.wrap (Int.tmod a1 (5 : Int))) a2 t4697 e4698, by exact Try.call23, by exact f_pluvialref17_Within.ok a0 (IntKind.i64.wrap (Int.tmod a1 (5 : Int))) a2 t4699 e4700, by exact Try.call17, by exact f_pluviallaw17_ints.ok t4697 t4699 t4701 e4702, by exact c4703, by exact c4704, trivial⟩ ?_
                        obtain rfl := Option.some.inj H
                        exact Exists.intro _ (And.intro (fun _ _ h => h.conv (inv := []) (vk := []) (e0 := []) (t := ⟨[(8, bV false)], [], 0⟩) (by kernel_rfl)) (And.intro rfl rfl))
                    · replace H := (ifF c4703).symm.trans H
                      refine reg hP hn hm [(0, .call [] [] [] [] 0 (bV t4694) []), (1, .b true), (5, .call [] [(0, 30)] [] [30] 0 (.own 0) [(0, some (.row 1 3 (t4697.map (encInt .i64))))]), (9, .call [] [(0, 31)] [] [31] 0 (.own 0) [(0, some (.row 1 3 (t4699.map (encInt .i64))))]), (10, .call [] [] [30, 31] [] 0 (bV t4701) []), (12, .b false)] [8] [] ⟨[(8, bV false)], [], 0⟩ [Enters Try.prog 13, Pv.Fn Try.prog 13 [] [] 0 (fun r o => r = bV t4694 ∧ o = []), t4694 = true, Enters Try.prog 22, Pv.Fn Try.prog 22 [.im (.row (t4131.map eplan_Item)), iV .i64 (IntKind.i64.wrap (Int.tmod a1 (5 : Int))), iV .i64 a2] [] 0 (fun r o => r = .own 0 ∧ o = [(0, some (.row 1 3 (t4697.map (encInt .i64))))]), Enters Try.prog 23, Pv.Fn Try.prog 23 [.im (.row (a0.map epluvialref17_Item)), iV .i64 (IntKind.i64.wrap (Int.tmod a1 (5 : Int))), iV .i64 a2] [] 0 (fun r o => r = .own 0 ∧ o = [(0, some (.row 1 3 (t4699.map (encInt .i64))))]), Enters Try.prog 17, Pv.Fn Try.prog 17 [.im (.row (t4697.map (encInt .i64))), .im (.row (t4699.map (encInt .i64)))] [] 0 (fun r o => r = bV t4701 ∧ o = []), t4701 = false] (by kernel_rfl) ⟨by exact Try.call13, by exact f_pluviallaw17_awake.ok  t4694 e4695, by exact c4696, by exact Try.call22, by exact f_plan_Within.ok t4131 (IntKind.i64.wrap (Int.tmod a1 (5 : Int))) a2 t4697 e4698, by exact Try.call23, by exact f_pluvialref17_Within.ok a0 (IntKind.i64.wrap (Int.tmod a1 (5 : Int))) a2 t4699 e4700, by exact Try.call17, by exact f_pluviallaw17_ints.ok t4697 t4699 t4701 e4702, by exact c4703, trivial⟩ ?_
                      obtain rfl := Option.some.inj H
                      exact Exists.intro _ (And.intro (fun _ _ h => h.conv (inv := []) (vk := []) (e0 := []) (t := ⟨[(8, bV false)], [], 0⟩) (by kernel_rfl)) (And.intro rfl rfl))
                  · replace H := (ifF c4696).symm.trans H
                    refine reg hP hn hm [(0, .call [] [] [] [] 0 (bV t4694) []), (1, .b false)] [8] [] ⟨[(8, bV false)], [], 0⟩ [Enters Try.prog 13, Pv.Fn Try.prog 13 [] [] 0 (fun r o => r = bV t4694 ∧ o = []), t4694 = false] (by kernel_rfl) ⟨by exact Try.call13, by exact f_pluviallaw17_awake.ok  t4694 e4695, by exact c4696, trivial⟩ ?_
                    obtain rfl := Option.some.inj H
                    exact Exists.intro _ (And.intro (fun _ _ h => h.conv (inv := []) (vk := []) (e0 := []) (t := ⟨[(8, bV false)], [], 0⟩) (by kernel_rfl)) (And.intro rfl rfl))
                · obtain ⟨x4705, rfl⟩ : ∃ z, z = o4724 := ⟨_, rfl⟩
                  rintro e s ⟨rfl, rfl⟩
                  refine AWp.conv (inv := []) (vk := []) (e0 := []) (t := ⟨[(8, bV x4705)], [], 0⟩) (by kernel_rfl) ?_
                  refine AWp.ret ?_
                  obtain rfl := Option.some.inj H
                  exact Exists.intro _ (And.intro (fun _ _ h => h) (And.intro (.inl rfl) (And.intro rfl (And.intro (by kernel_rfl) (by kernel_rfl)))))
end Go.Proofs.Ytfkppdcfgmgllaa.PvGD2
