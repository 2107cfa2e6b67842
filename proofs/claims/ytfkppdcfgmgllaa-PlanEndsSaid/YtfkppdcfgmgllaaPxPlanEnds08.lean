import Derived.Test.YtfkppdcfgmgllaaProg
import Derived.Test.YtfkppdcfgmgllaaPxPlanEnds07
set_option linter.unusedVariables false
set_option linter.unnecessarySimpa false
set_option linter.unusedSimpArgs false
set_option maxRecDepth 10000
namespace Go.Proofs.Ytfkppdcfgmgllaa.PvGD1
open Go Go.Pv
def f_plan_Within.l0 (a0 : List Tplan_Item) (a1 : Int) (a2 : Int) (x2054 : List Int) (x2055 : Int) : Option (List Int) := if (decide (x2055 < (a0.length : Int))) = true then ((at? a0 x2055) >>= fun b2060 => ((if (decide (b2060.f1.f0 ≥ a2)) = true then ((f_block_Width.f a1) >>= fun t2067 => some (decide (b2060.f1.f1 ≤ (IntKind.i64.wrap (a2 + (IntKind.i64.wrap ((64 : Int) * 2 ^ (min (Int.toNat (IntKind.u64.wrap ((2 : Int) * (IntKind.u64.wrap ((if (if (4 : Int) < a1 then (4 : Int) else a1) > (0 : Int) then (if (4 : Int) < a1 then (4 : Int) else a1) else (0 : Int))))))) 64)))))))) else (some false)) : Option (Bool)) >>= fun x2069 => ((if x2069 = true then ((chk ((x2054.length + [b2060.f0].length) * 8 ≤ 140737488355328)) >>= fun _ => some (x2054 ++ [b2060.f0])) else (some x2054)) : Option (List Int)) >>= fun x2073 => f_plan_Within.l0 a0 a1 a2 x2073 (IntKind.i64.wrap (x2055 + (1 : Int)))) else (some x2054)
partial_fixpoint
def f_plan_Within.f (a0 : List Tplan_Item) (a1 : Int) (a2 : Int) : Option (List Int) := (f_plan_Within.l0 a0 a1 a2 [] 0) >>= fun x2074 => (f_slices_Sort_int.f x2074) >>= fun t3867 => some t3867
theorem f_plan_Within.ok (a0 : List Tplan_Item) (a1 : Int) (a2 : Int) (r : List Int) (H : f_plan_Within.f a0 a1 a2 = some r) : Pv.Fn Try.prog 22 [.im (.row (a0.map eplan_Item)), iV .i64 a1, iV .i64 a2] [] 0 (fun x o => x = .own 0 ∧ o = [(0, some (.row 1 3 (r.map (encInt .i64))))]) := by
  unfold f_plan_Within.f at H
  refine Fn.bodyK [0] Try.func22 rfl rfl (fun Γ hP hn => ?_)
  have hm : Try.prog.follows .mixedOrders = true := by kernel_rfl
  replace hn : Γ.n = 40 := hn
  refine AWp.seq ?_
  refine reg hP hn hm [] [0, 1, 2] [] ⟨[(0, .im (.row (a0.map eplan_Item))), (1, iV .i64 a1), (2, iV .i64 a2)], [], 0⟩ [] (by kernel_rfl) trivial ?_
  refine AWp.seq ?_
  refine reg hP hn hm [] [0, 1, 2, 7] [] ⟨[(0, .im (.row (a0.map eplan_Item))), (1, iV .i64 a1), (2, iV .i64 a2), (7, .none0)], [], 0⟩ [] (by kernel_rfl) trivial ?_
  refine AWp.seq ?_
  refine AWp.seq ?_
  refine reg hP hn hm [(1, .any (iV .i64 (a0.length : Int)))] [1, 2, 7, 10, 11, 12] [] ⟨[(1, iV .i64 a1), (2, iV .i64 a2), (7, .none0), (10, .im (.row (a0.map eplan_Item))), (11, iV .i64 (a0.length : Int)), (12, iV .i64 0)], [], 0⟩ [((a0.map eplan_Item).length : Int) = (a0.length : Int)] (by kernel_rfl) ⟨by rw [len_map], trivial⟩ ?_
  refine AWp.block ?_
  obtain ⟨o3869, e3870, H⟩ := bind_of H
  refine AWp.loop (LWp.conv (inv := []) (vk := []) (e0 := [5]) (t := ⟨[(1, iV .i64 a1), (2, iV .i64 a2), (7, .own 5), (10, .im (.row (a0.map eplan_Item))), (11, iV .i64 (a0.length : Int)), (12, iV .i64 0)], [(5, some (.row 1 3 ([].map (encInt .i64))))], 0⟩) (by kernel_rfl) ?_)
  refine LWp.mono (Q := fun e s => (match (generalizing := false) o3869 with | x2074 => e = .exit 0 ∧ s = ⟨[(7, .own 12)], [(12, some (.row 1 3 (x2074.map (encInt .i64))))], 0⟩)) (LWp.cv (withBody (fun body hbody => ?_))) ?_
  · refine f_plan_Within.l0.partial_correctness a0 a1 a2 (motive := fun x2054 x2055 o3869 => LWp Γ body (fun e s => ∃ t, Cv Γ s t ∧ (match (generalizing := false) o3869 with | x2074 => e = .exit 0 ∧ t = ⟨[(7, .own 12)], [(12, some (.row 1 3 (x2074.map (encInt .i64))))], 0⟩)) ⟨[(1, iV .i64 a1), (2, iV .i64 a2), (7, .own 5), (10, .im (.row (a0.map eplan_Item))), (11, iV .i64 (a0.length : Int)), (12, iV .i64 x2055)], [(5, some (.row 1 3 (x2054.map (encInt .i64))))], 0⟩) ?_ _ _ _ e3870
    clear H e3870 o3869; intro self ih x2054 x2055 o3869 H
    subst hbody
    refine LWp.round ?_
    refine AWp.seq ?_
    refine reg hP hn hm [] [1, 2, 7, 10, 11, 12, 13] [5] ⟨[(1, iV .i64 a1), (2, iV .i64 a2), (7, .own 5), (10, .im (.row (a0.map eplan_Item))), (11, iV .i64 (a0.length : Int)), (12, iV .i64 x2055), (13, bV (decide (x2055 < (a0.length : Int))))], [(5, some (.row 1 3 (x2054.map (encInt .i64))))], 0⟩ [] (by kernel_rfl) trivial ?_
    refine AWp.seq ?_
    refine AWp.cond (decide (x2055 < (a0.length : Int))) rfl (fun c2056 => ?_) (fun c2056 => ?_)
    · replace H := (ifT c2056).symm.trans H
      refine AWp.skip ?_
      refine AWp.seq ?_
      refine AWp.block ?_
      refine AWp.seq ?_
      obtain ⟨b2060, p2061, q2062, H⟩ := at_of H
      refine reg hP hn hm [(0, .c (eplan_Item b2060)), (2, .k 6)] [1, 2, 7, 9, 10, 11, 12] [5, 6] ⟨[(1, iV .i64 a1), (2, iV .i64 a2), (7, .own 5), (9, .ptr 6 0 0), (10, .im (.row (a0.map eplan_Item))), (11, iV .i64 (a0.length : Int)), (12, iV .i64 x2055)], [(5, some (.row 1 3 (x2054.map (encInt .i64)))), (6, some (.box 89 [iV .i64 b2060.f0, iV .i64 b2060.f1.f0, iV .i64 b2060.f1.f1, iV .i64 b2060.f1.f2]))], 0⟩ [0 ≤ x2055, (a0.map eplan_Item)[(Int.toNat (x2055))]? = some (eplan_Item b2060)] (by kernel_rfl) ⟨by exact p2061, by exact el_map eplan_Item q2062, trivial⟩ ?_
      refine AWp.seq ?_
      obtain ⟨o3871, e3872, H⟩ := bind_of H
      refine AWp.mono (Q := fun e s => (match (generalizing := false) o3871 with | x2069 => e = .normal ∧ s = ⟨[(1, iV .i64 a1), (2, iV .i64 a2), (7, .own 7), (9, .ptr 8 0 0), (10, .im (.row (a0.map eplan_Item))), (11, iV .i64 (a0.length : Int)), (12, iV .i64 x2055), (30, bV x2069)], [(7, some (.row 1 3 (x2054.map (encInt .i64)))), (8, some (.box 89 [iV .i64 b2060.f0, iV .i64 b2060.f1.f0, iV .i64 b2060.f1.f1, iV .i64 b2060.f1.f2]))], 0⟩)) (AWp.cv ?_) ?_
      · replace H := e3872; clear e3872
        rcases Bool.eq_false_or_eq_true (decide (b2060.f1.f0 ≥ a2)) with c2066 | c2066
        · replace H := (ifT c2066).symm.trans H
          obtain ⟨t2067, e2068, H⟩ := bind_of H
          refine reg hP hn hm [(5, .b true), (11, .call [] [] [] [] 0 (iV .i64 (IntKind.i64.wrap ((64 : Int) * 2 ^ (min (Int.toNat (IntKind.u64.wrap ((2 : Int) * (IntKind.u64.wrap ((if (if (4 : Int) < a1 then (4 : Int) else a1) > (0 : Int) then (if (4 : Int) < a1 then (4 : Int) else a1) else (0 : Int))))))) 64)))) [])] [1, 2, 7, 9, 10, 11, 12, 22, 23, 24, 25, 26, 27, 28, 29, 30] [5, 6] ⟨[(1, iV .i64 a1), (2, iV .i64 a2), (7, .own 5), (9, .ptr 6 0 0), (10, .im (.row (a0.map eplan_Item))), (11, iV .i64 (a0.length : Int)), (12, iV .i64 x2055), (22, .ptr 6 0 1), (23, .ptr 6 0 2), (24, iV .i64 b2060.f1.f1), (25, iV .i64 a2), (26, iV .i64 a1), (27, iV .i64 (IntKind.i64.wrap ((64 : Int) * 2 ^ (min (Int.toNat (IntKind.u64.wrap ((2 : Int) * (IntKind.u64.wrap ((if (if (4 : Int) < a1 then (4 : Int) else a1) > (0 : Int) then (if (4 : Int) < a1 then (4 : Int) else a1) else (0 : Int))))))) 64)))), (28, iV .i64 (IntKind.i64.wrap (a2 + (IntKind.i64.wrap ((64 : Int) * 2 ^ (min (Int.toNat (IntKind.u64.wrap ((2 : Int) * (IntKind.u64.wrap ((if (if (4 : Int) < a1 then (4 : Int) else a1) > (0 : Int) then (if (4 : Int) < a1 then (4 : Int) else a1) else (0 : Int))))))) 64)))))), (29, bV (decide (b2060.f1.f1 ≤ (IntKind.i64.wrap (a2 + (IntKind.i64.wrap ((64 : Int) * 2 ^ (min (Int.toNat (IntKind.u64.wrap ((2 : Int) * (IntKind.u64.wrap ((if (if (4 : Int) < a1 then (4 : Int) else a1) > (0 : Int) then (if (4 : Int) < a1 then (4 : Int) else a1) else (0 : Int))))))) 64)))))))), (30, bV (decide (b2060.f1.f1 ≤ (IntKind.i64.wrap (a2 + (IntKind.i64.wrap ((64 : Int) * 2 ^ (min (Int.toNat (IntKind.u64.wrap ((2 : Int) * (IntKind.u64.wrap ((if (if (4 : Int) < a1 then (4 : Int) else a1) > (0 : Int) then (if (4 : Int) < a1 then (4 : Int) else a1) else (0 : Int))))))) 64))))))))], [(5, some (.row 1 3 (x2054.map (encInt .i64)))), (6, some (.box 89 [iV .i64 b2060.f0, iV .i64 b2060.f1.f0, iV .i64 b2060.f1.f1, iV .i64 b2060.f1.f2]))], 0⟩ [(decide (b2060.f1.f0 ≥ a2)) = true, Enters Try.prog 37, Pv.Fn Try.prog 37 [iV .i64 a1] [] 0 (fun r o => r = iV .i64 (IntKind.i64.wrap ((64 : Int) * 2 ^ (min (Int.toNat (IntKind.u64.wrap ((2 : Int) * (IntKind.u64.wrap ((if (if (4 : Int) < a1 then (4 : Int) else a1) > (0 : Int) then (if (4 : Int) < a1 then (4 : Int) else a1) else (0 : Int))))))) 64))) ∧ o = [])] (by kernel_rfl) ⟨by exact c2066, by exact Try.call37, by exact f_block_Width.ok a1 t2067 e2068, trivial⟩ ?_
          obtain rfl := Option.some.inj H
          exact Exists.intro _ (And.intro (fun _ _ h => h.conv (inv := [(5, 7), (6, 8)]) (vk := []) (e0 := []) (t := ⟨[(1, iV .i64 a1), (2, iV .i64 a2), (7, .own 7), (9, .ptr 8 0 0), (10, .im (.row (a0.map eplan_Item))), (11, iV .i64 (a0.length : Int)), (12, iV .i64 x2055), (30, bV (decide (b2060.f1.f1 ≤ (IntKind.i64.wrap (a2 + (IntKind.i64.wrap ((64 : Int) * 2 ^ (min (Int.toNat (IntKind.u64.wrap ((2 : Int) * (IntKind.u64.wrap ((if (if (4 : Int) < a1 then (4 : Int) else a1) > (0 : Int) then (if (4 : Int) < a1 then (4 : Int) else a1) else (0 : Int))))))) 64))))))))], [(7, some (.row 1 3 (x2054.map (encInt .i64)))), (8, some (.box 89 [iV .i64 b2060.f0, iV .i64 b2060.f1.f0, iV .i64 b2060.f1.f1, iV .i64 b2060.f1.f2]))], 0⟩) (by kernel_rfl)) (And.intro rfl rfl))
        · replace H := (ifF c2066).symm.trans H
          refine reg hP hn hm [(5, .b false)] [1, 2, 7, 9, 10, 11, 12, 30] [5, 6] ⟨[(1, iV .i64 a1), (2, iV .i64 a2), (7, .own 5), (9, .ptr 6 0 0), (10, .im (.row (a0.map eplan_Item))), (11, iV .i64 (a0.length : Int)), (12, iV .i64 x2055), (30, bV false)], [(5, some (.row 1 3 (x2054.map (encInt .i64)))), (6, some (.box 89 [iV .i64 b2060.f0, iV .i64 b2060.f1.f0, iV .i64 b2060.f1.f1, iV .i64 b2060.f1.f2]))], 0⟩ [(decide (b2060.f1.f0 ≥ a2)) = false] (by kernel_rfl) ⟨by exact c2066, trivial⟩ ?_
          obtain rfl := Option.some.inj H
          exact Exists.intro _ (And.intro (fun _ _ h => h.conv (inv := [(5, 7), (6, 8)]) (vk := []) (e0 := []) (t := ⟨[(1, iV .i64 a1), (2, iV .i64 a2), (7, .own 7), (9, .ptr 8 0 0), (10, .im (.row (a0.map eplan_Item))), (11, iV .i64 (a0.length : Int)), (12, iV .i64 x2055), (30, bV false)], [(7, some (.row 1 3 (x2054.map (encInt .i64)))), (8, some (.box 89 [iV .i64 b2060.f0, iV .i64 b2060.f1.f0, iV .i64 b2060.f1.f1, iV .i64 b2060.f1.f2]))], 0⟩) (by kernel_rfl)) (And.intro rfl rfl))
      · obtain ⟨x2069, rfl⟩ : ∃ z, z = o3871 := ⟨_, rfl⟩
        rintro e s ⟨rfl, rfl⟩
        obtain ⟨o3873, e3874, H⟩ := bind_of H
        refine AWp.mono (Q := fun e s => (match (generalizing := false) o3873 with | x2073 => e = .normal ∧ s = ⟨[(1, iV .i64 a1), (2, iV .i64 a2), (7, .own 11), (10, .im (.row (a0.map eplan_Item))), (11, iV .i64 (a0.length : Int)), (12, iV .i64 x2055)], [(11, some (.row 1 3 (x2073.map (encInt .i64))))], 0⟩)) (AWp.cv ?_) ?_
        · replace H := e3874; clear e3874
          refine AWp.cond x2069 rfl (fun c2070 => ?_) (fun c2070 => ?_)
          · replace H := (ifT c2070).symm.trans H
            obtain ⟨c2072, H⟩ := chk_of H
            refine reg hP hn hm [(3, .app 9 ([b2060.f0].map (encInt .i64))), (4, .app 10 ((x2054 ++ [b2060.f0]).map (encInt .i64)))] [1, 2, 7, 10, 11, 12] [10] ⟨[(1, iV .i64 a1), (2, iV .i64 a2), (7, .own 10), (10, .im (.row (a0.map eplan_Item))), (11, iV .i64 (a0.length : Int)), (12, iV .i64 x2055)], [(10, some (.row 1 3 ((x2054 ++ [b2060.f0]).map (encInt .i64))))], 0⟩ [[b2060.f0].map (encInt .i64) = [[iI .i64 b2060.f0]], (x2054 ++ [b2060.f0]).map (encInt .i64) = (x2054.map (encInt .i64)) ++ ([b2060.f0].map (encInt .i64)), ∀ c ∈ ([b2060.f0].map (encInt .i64)), c.length = 1, ∀ c ∈ ([b2060.f0].map (encInt .i64)), leaves (c.map .im) = true, ((x2054.map (encInt .i64)).length + ([b2060.f0].map (encInt .i64)).length) * 8 ≤ 140737488355328] (by kernel_rfl) ⟨by exact rfl, by simp, by exact all_len _ _ _ (fun _ => rfl), by exact all_leaf _ _ (fun _ => rfl), by simpa using c2072, trivial⟩ ?_
            obtain rfl := Option.some.inj H
            exact Exists.intro _ (And.intro (fun _ _ h => h.conv (inv := [(10, 11)]) (vk := []) (e0 := []) (t := ⟨[(1, iV .i64 a1), (2, iV .i64 a2), (7, .own 11), (10, .im (.row (a0.map eplan_Item))), (11, iV .i64 (a0.length : Int)), (12, iV .i64 x2055)], [(11, some (.row 1 3 ((x2054 ++ [b2060.f0]).map (encInt .i64))))], 0⟩) (by kernel_rfl)) (And.intro rfl rfl))
          · replace H := (ifF c2070).symm.trans H
            refine AWp.skip ?_
            obtain rfl := Option.some.inj H
            exact Exists.intro _ (And.intro (fun _ _ h => h.conv (inv := [(7, 11)]) (vk := []) (e0 := []) (t := ⟨[(1, iV .i64 a1), (2, iV .i64 a2), (7, .own 11), (10, .im (.row (a0.map eplan_Item))), (11, iV .i64 (a0.length : Int)), (12, iV .i64 x2055)], [(11, some (.row 1 3 (x2054.map (encInt .i64))))], 0⟩) (by kernel_rfl)) (And.intro rfl rfl))
        · obtain ⟨x2073, rfl⟩ : ∃ z, z = o3873 := ⟨_, rfl⟩
          rintro e s ⟨rfl, rfl⟩
          refine reg hP hn hm [] [1, 2, 7, 10, 11, 12] [11] ⟨[(1, iV .i64 a1), (2, iV .i64 a2), (7, .own 11), (10, .im (.row (a0.map eplan_Item))), (11, iV .i64 (a0.length : Int)), (12, iV .i64 (IntKind.i64.wrap (x2055 + (1 : Int))))], [(11, some (.row 1 3 (x2073.map (encInt .i64))))], 0⟩ [] (by kernel_rfl) trivial ?_
          exact LWp.conv (inv := [(11, 5)]) (vk := []) (e0 := []) (t := ⟨[(1, iV .i64 a1), (2, iV .i64 a2), (7, .own 5), (10, .im (.row (a0.map eplan_Item))), (11, iV .i64 (a0.length : Int)), (12, iV .i64 (IntKind.i64.wrap (x2055 + (1 : Int))))], [(5, some (.row 1 3 (x2073.map (encInt .i64))))], 0⟩) (by kernel_rfl) (ih _ _ _ H)
    · replace H := (ifF c2056).symm.trans H
      refine AWp.exit ?_
      obtain rfl := Option.some.inj H
      exact Exists.intro _ (And.intro (fun _ _ h => h.conv (inv := [(5, 12)]) (vk := []) (e0 := []) (t := ⟨[(7, .own 12)], [(12, some (.row 1 3 (x2054.map (encInt .i64))))], 0⟩) (by kernel_rfl)) (And.intro rfl rfl))
  · obtain ⟨x2074, rfl⟩ : ∃ z, z = o3869 := ⟨_, rfl⟩
    rintro e s ⟨rfl, rfl⟩
    refine AWp.seq ?_
    obtain ⟨t3867, e3868, H⟩ := bind_of H
    refine reg hP hn hm [(1, .call [(12, 0)] [(0, 12)] [] [] 1 (.tup []) [(0, some (.row 1 3 (t3867.map (encInt .i64))))])] [7] [12] ⟨[(7, .own 12)], [(12, some (.row 1 3 (t3867.map (encInt .i64))))], 0⟩ [Enters Try.prog 34, Pv.Fn Try.prog 34 [.own 0] [(0, some (.row 1 3 (x2074.map (encInt .i64))))] 1 (fun r o => r = .tup [] ∧ o = [(0, some (.row 1 3 (t3867.map (encInt .i64))))])] (by kernel_rfl) ⟨by exact Try.call34, by exact f_slices_Sort_int.ok x2074 t3867 e3868, trivial⟩ ?_
    refine AWp.seq ?_
    refine reg hP hn hm [] [6] [12] ⟨[(6, .own 12)], [(12, some (.row 1 3 (t3867.map (encInt .i64))))], 0⟩ [] (by kernel_rfl) trivial ?_
    refine AWp.conv (inv := [(12, 0)]) (vk := []) (e0 := []) (t := ⟨[(6, .own 0)], [(0, some (.row 1 3 (t3867.map (encInt .i64))))], 0⟩) (by kernel_rfl) ?_
    refine AWp.ret ?_
    obtain rfl := Option.some.inj H
    exact Exists.intro _ (And.intro (fun _ _ h => h) (And.intro (.inl rfl) (And.intro rfl (And.intro (by kernel_rfl) (by kernel_rfl)))))
def f_plan_Next.l1 (t2015 : List Tplan_Item) (x4027 : Int) (x4048 : Int) : Option ((Tplan_Step × Bool) ⊕ Unit) := if (decide (x4048 < (t2015.length : Int))) = true then ((at? t2015 x4048) >>= fun b4053 => (f_block_Low.f x4027 (if (0 : Int) > b4053.f1.f0 then (0 : Int) else b4053.f1.f0)) >>= fun t4058 => (f_plan_Within.f t2015 x4027 (IntKind.i64.wrap ((if (0 : Int) > b4053.f1.f0 then (0 : Int) else b4053.f1.f0) - (Int.tmod (if (0 : Int) > b4053.f1.f0 then (0 : Int) else b4053.f1.f0) (IntKind.i64.wrap ((64 : Int) * 2 ^ (min (Int.toNat (IntKind.u64.wrap ((2 : Int) * (IntKind.u64.wrap ((if (if (4 : Int) < x4027 then (4 : Int) else x4027) > (0 : Int) then (if (4 : Int) < x4027 then (4 : Int) else x4027) else (0 : Int))))))) 64))))))) >>= fun t4062 => ((if (decide (b4053.f1.f2 ≤ x4027)) = true then (some (decide ((t4062.length : Int) > (1 : Int)))) else (some false)) : Option (Bool)) >>= fun x4066 => if x4066 = true then (some (.inl ((⟨t4062, x4027⟩ : Tplan_Step), true))) else (f_plan_Next.l1 t2015 x4027 (IntKind.i64.wrap (x4048 + (1 : Int))))) else (some (.inr ()))
partial_fixpoint
def f_plan_Next.l0 (t2015 : List Tplan_Item) (x4027 : Int) : Option ((Tplan_Step × Bool) ⊕ Unit) := if (decide (x4027 ≤ (4 : Int))) = true then ((f_plan_Next.l1 t2015 x4027 0) >>= fun oo => match oo with | .inl rr => (some (.inl rr)) | .inr _ => (f_plan_Next.l0 t2015 (IntKind.i64.wrap (x4027 + (1 : Int))))) else (some (.inr ()))
partial_fixpoint
def f_plan_Next.f (a0 : List Tplan_Item) : Option (Tplan_Step × Bool) := (f_plan_sorted.f a0) >>= fun t2015 => (f_plan_Next.l0 t2015 0) >>= fun oo => match oo with | .inl rr => (some rr) | .inr _ => (some ((⟨[], 0⟩ : Tplan_Step), false))
theorem f_plan_Next.ok (a0 : List Tplan_Item) (r : Tplan_Step × Bool) (H : f_plan_Next.f a0 = some r) : Pv.Fn Try.prog 16 [.im (.row (a0.map eplan_Item))] [] 0 (fun x o => x = .tup [.agg [.own 0, iV .i64 ((r.1).f1)], bV r.2] ∧ o = [(0, some (.row 1 3 (((r.1).f0).map (encInt .i64))))]) := by
  unfold f_plan_Next.f at H
  refine Fn.bodyK [0] Try.func16 rfl rfl (fun Γ hP hn => ?_)
  have hm : Try.prog.follows .mixedOrders = true := by kernel_rfl
  replace hn : Γ.n = 46 := hn
  refine AWp.seq ?_
  refine reg hP hn hm [(0, .k 0)] [0, 2] [0] ⟨[(0, .im (.row (a0.map eplan_Item))), (2, .ptr 0 0 0)], [(0, some (.box 33 [.none0, iV .i64 0]))], 0⟩ [] (by kernel_rfl) trivial ?_
  refine AWp.seq ?_
  obtain ⟨t2015, e2016, H⟩ := bind_of H
  refine reg hP hn hm [(1, .call [] [(0, 1)] [] [1] 0 (.own 0) [(0, some (.row 4 89 (t2015.map eplan_Item)))])] [0, 2] [0, 1] ⟨[(0, .own 1), (2, .ptr 0 0 0)], [(0, some (.box 33 [.none0, iV .i64 0])), (1, some (.row 4 89 (t2015.map eplan_Item)))], 0⟩ [Enters Try.prog 35, Pv.Fn Try.prog 35 [.im (.row (a0.map eplan_Item))] [] 0 (fun r o => r = .own 0 ∧ o = [(0, some (.row 4 89 (t2015.map eplan_Item)))])] (by kernel_rfl) ⟨by exact Try.call35, by exact f_plan_sorted.ok a0 t2015 e2016, trivial⟩ ?_
  refine AWp.seq ?_
  refine AWp.seq ?_
  refine reg hP hn hm [] [0, 2, 4] [0, 1] ⟨[(0, .own 1), (2, .ptr 0 0 0), (4, iV .i64 0)], [(0, some (.box 33 [.none0, iV .i64 0])), (1, some (.row 4 89 (t2015.map eplan_Item)))], 0⟩ [] (by kernel_rfl) trivial ?_
  refine AWp.block ?_
  obtain ⟨o4068, e4069, H⟩ := bind_of H
  refine AWp.loop (LWp.conv (inv := [(0, 42)]) (vk := [1]) (e0 := []) (t := ⟨[(0, .im (.row (t2015.map eplan_Item))), (2, .ptr 42 0 0), (4, iV .i64 0)], [(42, some (.box 33 [.none0, iV .i64 0]))], 0⟩) (by kernel_rfl) ?_)
  refine LWp.mono (Q := fun e s => (match (generalizing := false) o4068 with | .inl rr => e = .ret ∧ s.floor = 0 ∧ resOf Try.prog Try.f16 s = some (.tup [.agg [.own 0, iV .i64 ((rr.1).f1)], bV rr.2]) ∧ ([(0, s.obj 0)] : List (Nat × Option MObj)) = [(0, some (.row 1 3 (((rr.1).f0).map (encInt .i64))))] | .inr _ => e = .exit 0 ∧ s = ⟨[(2, .ptr 53 0 0)], [(53, some (.box 33 [.none0, iV .i64 0]))], 0⟩)) (LWp.cv (withBody (fun body hbody => ?_))) ?_
  · refine f_plan_Next.l0.partial_correctness t2015 (motive := fun x4027 o4068 => LWp Γ body (fun e s => ∃ t, Cv Γ s t ∧ (match (generalizing := false) o4068 with | .inl rr => e = .ret ∧ t.floor = 0 ∧ resOf Try.prog Try.f16 t = some (.tup [.agg [.own 0, iV .i64 ((rr.1).f1)], bV rr.2]) ∧ ([(0, t.obj 0)] : List (Nat × Option MObj)) = [(0, some (.row 1 3 (((rr.1).f0).map (encInt .i64))))] | .inr _ => e = .exit 0 ∧ t = ⟨[(2, .ptr 53 0 0)], [(53, some (.box 33 [.none0, iV .i64 0]))], 0⟩)) ⟨[(0, .im (.row (t2015.map eplan_Item))), (2, .ptr 42 0 0), (4, iV .i64 x4027)], [(42, some (.box 33 [.none0, iV .i64 0]))], 0⟩) ?_ _ _ e4069
    clear H e4069 o4068; intro self ih x4027 o4068 H
    subst hbody
    refine LWp.round ?_
    refine AWp.seq ?_
    refine AWp.seq ?_
    refine reg hP hn hm [] [0, 2, 4, 12] [42] ⟨[(0, .im (.row (t2015.map eplan_Item))), (2, .ptr 42 0 0), (4, iV .i64 x4027), (12, bV (decide (x4027 ≤ (4 : Int))))], [(42, some (.box 33 [.none0, iV .i64 0]))], 0⟩ [] (by kernel_rfl) trivial ?_
    refine AWp.cond (decide (x4027 ≤ (4 : Int))) rfl (fun c4028 => ?_) (fun c4028 => ?_)
    · replace H := (ifT c4028).symm.trans H
      refine AWp.skip ?_
      refine AWp.seq ?_
      refine AWp.block ?_
      refine AWp.seq ?_
      refine reg hP hn hm [(1, .any (iV .i64 (t2015.length : Int)))] [0, 2, 4, 15, 16, 17] [42] ⟨[(0, .im (.row (t2015.map eplan_Item))), (2, .ptr 42 0 0), (4, iV .i64 x4027), (15, .im (.row (t2015.map eplan_Item))), (16, iV .i64 (t2015.length : Int)), (17, iV .i64 0)], [(42, some (.box 33 [.none0, iV .i64 0]))], 0⟩ [((t2015.map eplan_Item).length : Int) = (t2015.length : Int)] (by kernel_rfl) ⟨by rw [len_map], trivial⟩ ?_
      refine AWp.block ?_
      obtain ⟨o4070, e4071, H⟩ := bind_of H
      refine AWp.loop (LWp.conv (inv := [(42, 47)]) (vk := []) (e0 := []) (t := ⟨[(0, .im (.row (t2015.map eplan_Item))), (2, .ptr 47 0 0), (4, iV .i64 x4027), (15, .im (.row (t2015.map eplan_Item))), (16, iV .i64 (t2015.length : Int)), (17, iV .i64 0)], [(47, some (.box 33 [.none0, iV .i64 0]))], 0⟩) (by kernel_rfl) ?_)
      refine LWp.mono (Q := fun e s => (match (generalizing := false) o4070 with | .inl rr => e = .ret ∧ s.floor = 0 ∧ resOf Try.prog Try.f16 s = some (.tup [.agg [.own 0, iV .i64 ((rr.1).f1)], bV rr.2]) ∧ ([(0, s.obj 0)] : List (Nat × Option MObj)) = [(0, some (.row 1 3 (((rr.1).f0).map (encInt .i64))))] | .inr _ => e = .exit 2 ∧ s = ⟨[(0, .im (.row (t2015.map eplan_Item))), (2, .ptr 52 0 0), (4, iV .i64 x4027)], [(52, some (.box 33 [.none0, iV .i64 0]))], 0⟩)) (LWp.cv (withBody (fun body hbody => ?_))) ?_
      · refine f_plan_Next.l1.partial_correctness t2015 x4027 (motive := fun x4048 o4070 => LWp Γ body (fun e s => ∃ t, Cv Γ s t ∧ (match (generalizing := false) o4070 with | .inl rr => e = .ret ∧ t.floor = 0 ∧ resOf Try.prog Try.f16 t = some (.tup [.agg [.own 0, iV .i64 ((rr.1).f1)], bV rr.2]) ∧ ([(0, t.obj 0)] : List (Nat × Option MObj)) = [(0, some (.row 1 3 (((rr.1).f0).map (encInt .i64))))] | .inr _ => e = .exit 2 ∧ t = ⟨[(0, .im (.row (t2015.map eplan_Item))), (2, .ptr 52 0 0), (4, iV .i64 x4027)], [(52, some (.box 33 [.none0, iV .i64 0]))], 0⟩)) ⟨[(0, .im (.row (t2015.map eplan_Item))), (2, .ptr 47 0 0), (4, iV .i64 x4027), (15, .im (.row (t2015.map eplan_Item))), (16, iV .i64 (t2015.length : Int)), (17, iV .i64 x4048)], [(47, some (.box 33 [.none0, iV .i64 0]))], 0⟩) ?_ _ _ e4071
        clear H e4071 o4070; intro self ih x4048 o4070 H
        subst hbody
        refine LWp.round ?_
        refine AWp.seq ?_
        refine reg hP hn hm [] [0, 2, 4, 15, 16, 17, 18] [47] ⟨[(0, .im (.row (t2015.map eplan_Item))), (2, .ptr 47 0 0), (4, iV .i64 x4027), (15, .im (.row (t2015.map eplan_Item))), (16, iV .i64 (t2015.length : Int)), (17, iV .i64 x4048), (18, bV (decide (x4048 < (t2015.length : Int))))], [(47, some (.box 33 [.none0, iV .i64 0]))], 0⟩ [] (by kernel_rfl) trivial ?_
        refine AWp.seq ?_
        refine AWp.cond (decide (x4048 < (t2015.length : Int))) rfl (fun c4049 => ?_) (fun c4049 => ?_)
        · replace H := (ifT c4049).symm.trans H
          refine AWp.skip ?_
          refine AWp.seq ?_
          refine AWp.block ?_
          refine AWp.seq ?_
          obtain ⟨b4053, p4054, q4055, H⟩ := at_of H
          refine reg hP hn hm [(0, .c (eplan_Item b4053)), (2, .k 48)] [0, 2, 4, 6, 15, 16, 17] [47, 48] ⟨[(0, .im (.row (t2015.map eplan_Item))), (2, .ptr 47 0 0), (4, iV .i64 x4027), (6, .ptr 48 0 0), (15, .im (.row (t2015.map eplan_Item))), (16, iV .i64 (t2015.length : Int)), (17, iV .i64 x4048)], [(47, some (.box 33 [.none0, iV .i64 0])), (48, some (.box 89 [iV .i64 b4053.f0, iV .i64 b4053.f1.f0, iV .i64 b4053.f1.f1, iV .i64 b4053.f1.f2]))], 0⟩ [0 ≤ x4048, (t2015.map eplan_Item)[(Int.toNat (x4048))]? = some (eplan_Item b4053)] (by kernel_rfl) ⟨by exact p4054, by exact el_map eplan_Item q4055, trivial⟩ ?_
          refine AWp.seq ?_
          obtain ⟨t4058, e4059, H⟩ := bind_of H
          refine reg hP hn hm [(4, .more xMax), (5, .call [] [] [] [] 0 (iV .i64 (IntKind.i64.wrap ((if (0 : Int) > b4053.f1.f0 then (0 : Int) else b4053.f1.f0) - (Int.tmod (if (0 : Int) > b4053.f1.f0 then (0 : Int) else b4053.f1.f0) (IntKind.i64.wrap ((64 : Int) * 2 ^ (min (Int.toNat (IntKind.u64.wrap ((2 : Int) * (IntKind.u64.wrap ((if (if (4 : Int) < x4027 then (4 : Int) else x4027) > (0 : Int) then (if (4 : Int) < x4027 then (4 : Int) else x4027) else (0 : Int))))))) 64))))))) [])] [0, 2, 4, 6, 7, 15, 16, 17] [47, 48] ⟨[(0, .im (.row (t2015.map eplan_Item))), (2, .ptr 47 0 0), (4, iV .i64 x4027), (6, .ptr 48 0 0), (7, iV .i64 (IntKind.i64.wrap ((if (0 : Int) > b4053.f1.f0 then (0 : Int) else b4053.f1.f0) - (Int.tmod (if (0 : Int) > b4053.f1.f0 then (0 : Int) else b4053.f1.f0) (IntKind.i64.wrap ((64 : Int) * 2 ^ (min (Int.toNat (IntKind.u64.wrap ((2 : Int) * (IntKind.u64.wrap ((if (if (4 : Int) < x4027 then (4 : Int) else x4027) > (0 : Int) then (if (4 : Int) < x4027 then (4 : Int) else x4027) else (0 : Int))))))) 64))))))), (15, .im (.row (t2015.map eplan_Item))), (16, iV .i64 (t2015.length : Int)), (17, iV .i64 x4048)], [(47, some (.box 33 [.none0, iV .i64 0])), (48, some (.box 89 [iV .i64 b4053.f0, iV .i64 b4053.f1.f0, iV .i64 b4053.f1.f1, iV .i64 b4053.f1.f2]))], 0⟩ [Enters Try.prog 36, Pv.Fn Try.prog 36 [iV .i64 x4027, iV .i64 (if (0 : Int) > b4053.f1.f0 then (0 : Int) else b4053.f1.f0)] [] 0 (fun r o => r = iV .i64 (IntKind.i64.wrap ((if (0 : Int) > b4053.f1.f0 then (0 : Int) else b4053.f1.f0) - (Int.tmod (if (0 : Int) > b4053.f1.f0 then (0 : Int) else b4053.f1.f0) (IntKind.i64.wrap ((64 : Int) * 2 ^ (min (Int.toNat (IntKind.u64.wrap ((2 : Int) * (IntKind.u64.wrap ((if (if (4 : Int) < x4027 then (4 : Int) else x4027) > (0 : Int) then (if (4 : Int) < x4027 then (4 : Int) else x4027) else (0 : Int))))))) 64)))))) ∧ o = [])] (by kernel_rfl) ⟨by exact Try.call36, by exact f_block_Low.ok x4027 (if (0 : Int) > b4053.f1.f0 then (0 : Int) else b4053.f1.f0) t4058 e4059, trivial⟩ ?_
          refine AWp.seq ?_
          obtain ⟨t4062, e4063, H⟩ := bind_of H
          refine reg hP hn hm [(3, .call [] [(0, 49)] [] [49] 0 (.own 0) [(0, some (.row 1 3 (t4062.map (encInt .i64))))])] [0, 2, 4, 6, 8, 15, 16, 17] [47, 48, 49] ⟨[(0, .im (.row (t2015.map eplan_Item))), (2, .ptr 47 0 0), (4, iV .i64 x4027), (6, .ptr 48 0 0), (8, .own 49), (15, .im (.row (t2015.map eplan_Item))), (16, iV .i64 (t2015.length : Int)), (17, iV .i64 x4048)], [(47, some (.box 33 [.none0, iV .i64 0])), (48, some (.box 89 [iV .i64 b4053.f0, iV .i64 b4053.f1.f0, iV .i64 b4053.f1.f1, iV .i64 b4053.f1.f2])), (49, some (.row 1 3 (t4062.map (encInt .i64))))], 0⟩ [Enters Try.prog 22, Pv.Fn Try.prog 22 [.im (.row (t2015.map eplan_Item)), iV .i64 x4027, iV .i64 (IntKind.i64.wrap ((if (0 : Int) > b4053.f1.f0 then (0 : Int) else b4053.f1.f0) - (Int.tmod (if (0 : Int) > b4053.f1.f0 then (0 : Int) else b4053.f1.f0) (IntKind.i64.wrap ((64 : Int) * 2 ^ (min (Int.toNat (IntKind.u64.wrap ((2 : Int) * (IntKind.u64.wrap ((if (if (4 : Int) < x4027 then (4 : Int) else x4027) > (0 : Int) then (if (4 : Int) < x4027 then (4 : Int) else x4027) else (0 : Int))))))) 64))))))] [] 0 (fun r o => r = .own 0 ∧ o = [(0, some (.row 1 3 (t4062.map (encInt .i64))))])] (by kernel_rfl) ⟨by exact Try.call22, by exact f_plan_Within.ok t2015 x4027 (IntKind.i64.wrap ((if (0 : Int) > b4053.f1.f0 then (0 : Int) else b4053.f1.f0) - (Int.tmod (if (0 : Int) > b4053.f1.f0 then (0 : Int) else b4053.f1.f0) (IntKind.i64.wrap ((64 : Int) * 2 ^ (min (Int.toNat (IntKind.u64.wrap ((2 : Int) * (IntKind.u64.wrap ((if (if (4 : Int) < x4027 then (4 : Int) else x4027) > (0 : Int) then (if (4 : Int) < x4027 then (4 : Int) else x4027) else (0 : Int))))))) 64)))))) t4062 e4063, trivial⟩ ?_
          refine AWp.seq ?_
          obtain ⟨o4072, e4073, H⟩ := bind_of H
          refine AWp.mono (Q := fun e s => (match (generalizing := false) o4072 with | x4066 => e = .normal ∧ s = ⟨[(0, .im (.row (t2015.map eplan_Item))), (2, .ptr 50 0 0), (4, iV .i64 x4027), (8, .own 51), (15, .im (.row (t2015.map eplan_Item))), (16, iV .i64 (t2015.length : Int)), (17, iV .i64 x4048), (40, bV x4066)], [(50, some (.box 33 [.none0, iV .i64 0])), (51, some (.row 1 3 (t4062.map (encInt .i64))))], 0⟩)) (AWp.cv ?_) ?_
          · replace H := e4073; clear e4073
            rcases Bool.eq_false_or_eq_true (decide (b4053.f1.f2 ≤ x4027)) with c4065 | c4065
            · replace H := (ifT c4065).symm.trans H
              refine reg hP hn hm [(5, .b true), (7, .any (iV .i64 (t4062.length : Int)))] [0, 2, 4, 8, 15, 16, 17, 37, 38, 39, 40] [47, 49] ⟨[(0, .im (.row (t2015.map eplan_Item))), (2, .ptr 47 0 0), (4, iV .i64 x4027), (8, .own 49), (15, .im (.row (t2015.map eplan_Item))), (16, iV .i64 (t2015.length : Int)), (17, iV .i64 x4048), (37, .own 49), (38, iV .i64 (t4062.length : Int)), (39, bV (decide ((t4062.length : Int) > (1 : Int)))), (40, bV (decide ((t4062.length : Int) > (1 : Int))))], [(47, some (.box 33 [.none0, iV .i64 0])), (49, some (.row 1 3 (t4062.map (encInt .i64))))], 0⟩ [(decide (b4053.f1.f2 ≤ x4027)) = true, ((t4062.map (encInt .i64)).length : Int) = (t4062.length : Int)] (by kernel_rfl) ⟨by exact c4065, by rw [len_map], trivial⟩ ?_
              obtain rfl := Option.some.inj H
              exact Exists.intro _ (And.intro (fun _ _ h => h.conv (inv := [(47, 50), (49, 51)]) (vk := []) (e0 := []) (t := ⟨[(0, .im (.row (t2015.map eplan_Item))), (2, .ptr 50 0 0), (4, iV .i64 x4027), (8, .own 51), (15, .im (.row (t2015.map eplan_Item))), (16, iV .i64 (t2015.length : Int)), (17, iV .i64 x4048), (40, bV (decide ((t4062.length : Int) > (1 : Int))))], [(50, some (.box 33 [.none0, iV .i64 0])), (51, some (.row 1 3 (t4062.map (encInt .i64))))], 0⟩) (by kernel_rfl)) (And.intro rfl rfl))
            · replace H := (ifF c4065).symm.trans H
              refine reg hP hn hm [(5, .b false)] [0, 2, 4, 8, 15, 16, 17, 40] [47, 49] ⟨[(0, .im (.row (t2015.map eplan_Item))), (2, .ptr 47 0 0), (4, iV .i64 x4027), (8, .own 49), (15, .im (.row (t2015.map eplan_Item))), (16, iV .i64 (t2015.length : Int)), (17, iV .i64 x4048), (40, bV false)], [(47, some (.box 33 [.none0, iV .i64 0])), (49, some (.row 1 3 (t4062.map (encInt .i64))))], 0⟩ [(decide (b4053.f1.f2 ≤ x4027)) = false] (by kernel_rfl) ⟨by exact c4065, trivial⟩ ?_
              obtain rfl := Option.some.inj H
              exact Exists.intro _ (And.intro (fun _ _ h => h.conv (inv := [(47, 50), (49, 51)]) (vk := []) (e0 := []) (t := ⟨[(0, .im (.row (t2015.map eplan_Item))), (2, .ptr 50 0 0), (4, iV .i64 x4027), (8, .own 51), (15, .im (.row (t2015.map eplan_Item))), (16, iV .i64 (t2015.length : Int)), (17, iV .i64 x4048), (40, bV false)], [(50, some (.box 33 [.none0, iV .i64 0])), (51, some (.row 1 3 (t4062.map (encInt .i64))))], 0⟩) (by kernel_rfl)) (And.intro rfl rfl))
          · obtain ⟨x4066, rfl⟩ : ∃ z, z = o4072 := ⟨_, rfl⟩
            rintro e s ⟨rfl, rfl⟩
            refine AWp.cond x4066 rfl (fun c4067 => ?_) (fun c4067 => ?_)
            · replace H := (ifT c4067).symm.trans H
              refine AWp.seq ?_
              refine reg hP hn hm [] [2, 3] [50, 51] ⟨[(2, .ptr 50 0 0), (3, bV true)], [(50, some (.box 33 [.own 51, iV .i64 x4027])), (51, some (.row 1 3 (t4062.map (encInt .i64))))], 0⟩ [] (by kernel_rfl) trivial ?_
              refine AWp.conv (inv := [(50, 1), (51, 0)]) (vk := []) (e0 := []) (t := ⟨[(2, .ptr 1 0 0), (3, bV true)], [(0, some (.row 1 3 ((((⟨t4062, x4027⟩ : Tplan_Step)).f0).map (encInt .i64)))), (1, some (.box 33 [.own 0, iV .i64 (((⟨t4062, x4027⟩ : Tplan_Step)).f1)]))], 0⟩) (by kernel_rfl) ?_
              refine AWp.ret ?_
              obtain rfl := Option.some.inj H
              exact Exists.intro _ (And.intro (fun _ _ h => h) (And.intro rfl (And.intro rfl (And.intro (by kernel_rfl) (by kernel_rfl)))))
            · replace H := (ifF c4067).symm.trans H
              refine AWp.skip ?_
              refine reg hP hn hm [] [0, 2, 4, 15, 16, 17] [50] ⟨[(0, .im (.row (t2015.map eplan_Item))), (2, .ptr 50 0 0), (4, iV .i64 x4027), (15, .im (.row (t2015.map eplan_Item))), (16, iV .i64 (t2015.length : Int)), (17, iV .i64 (IntKind.i64.wrap (x4048 + (1 : Int))))], [(50, some (.box 33 [.none0, iV .i64 0]))], 0⟩ [] (by kernel_rfl) trivial ?_
              exact LWp.conv (inv := [(50, 47)]) (vk := []) (e0 := []) (t := ⟨[(0, .im (.row (t2015.map eplan_Item))), (2, .ptr 47 0 0), (4, iV .i64 x4027), (15, .im (.row (t2015.map eplan_Item))), (16, iV .i64 (t2015.length : Int)), (17, iV .i64 (IntKind.i64.wrap (x4048 + (1 : Int))))], [(47, some (.box 33 [.none0, iV .i64 0]))], 0⟩) (by kernel_rfl) (ih _ _ H)
        · replace H := (ifF c4049).symm.trans H
          refine AWp.exit ?_
          obtain rfl := Option.some.inj H
          exact Exists.intro _ (And.intro (fun _ _ h => h.conv (inv := [(47, 52)]) (vk := []) (e0 := []) (t := ⟨[(0, .im (.row (t2015.map eplan_Item))), (2, .ptr 52 0 0), (4, iV .i64 x4027)], [(52, some (.box 33 [.none0, iV .i64 0]))], 0⟩) (by kernel_rfl)) (And.intro rfl rfl))
      · rcases o4070 with rr | _
        · skip
          rintro e s ⟨rfl, hfl, hres⟩
          obtain rfl := Option.some.inj H
          exact Exists.intro _ (And.intro (fun _ _ h => h) (And.intro rfl (And.intro hfl hres)))
        · skip
          rintro e s ⟨rfl, rfl⟩
          refine reg hP hn hm [] [0, 2, 4] [52] ⟨[(0, .im (.row (t2015.map eplan_Item))), (2, .ptr 52 0 0), (4, iV .i64 (IntKind.i64.wrap (x4027 + (1 : Int))))], [(52, some (.box 33 [.none0, iV .i64 0]))], 0⟩ [] (by kernel_rfl) trivial ?_
          exact LWp.conv (inv := [(52, 42)]) (vk := []) (e0 := []) (t := ⟨[(0, .im (.row (t2015.map eplan_Item))), (2, .ptr 42 0 0), (4, iV .i64 (IntKind.i64.wrap (x4027 + (1 : Int))))], [(42, some (.box 33 [.none0, iV .i64 0]))], 0⟩) (by kernel_rfl) (ih _ _ H)
    · replace H := (ifF c4028).symm.trans H
      refine AWp.exit ?_
      obtain rfl := Option.some.inj H
      exact Exists.intro _ (And.intro (fun _ _ h => h.conv (inv := [(42, 53)]) (vk := []) (e0 := []) (t := ⟨[(2, .ptr 53 0 0)], [(53, some (.box 33 [.none0, iV .i64 0]))], 0⟩) (by kernel_rfl)) (And.intro rfl rfl))
  · rcases o4068 with rr | _
    · skip
      rintro e s ⟨rfl, hfl, hres⟩
      obtain rfl := Option.some.inj H
      exact Exists.intro _ (And.intro (fun _ _ h => h) (And.intro (.inl rfl) (And.intro hfl hres)))
    · skip
      rintro e s ⟨rfl, rfl⟩
      refine AWp.seq ?_
      refine reg hP hn hm [] [2, 3] [53] ⟨[(2, .ptr 53 0 0), (3, bV false)], [(53, some (.box 33 [.none0, iV .i64 0]))], 0⟩ [] (by kernel_rfl) trivial ?_
      refine AWp.conv (inv := [(53, 1)]) (vk := []) (e0 := [0]) (t := ⟨[(2, .ptr 1 0 0), (3, bV false)], [(0, some (.row 1 3 ((((⟨[], 0⟩ : Tplan_Step)).f0).map (encInt .i64)))), (1, some (.box 33 [.own 0, iV .i64 (((⟨[], 0⟩ : Tplan_Step)).f1)]))], 0⟩) (by kernel_rfl) ?_
      refine AWp.ret ?_
      obtain rfl := Option.some.inj H
      exact Exists.intro _ (And.intro (fun _ _ h => h) (And.intro (.inl rfl) (And.intro rfl (And.intro (by kernel_rfl) (by kernel_rfl)))))
def f_pluviallaw17_ints.l0 (a0 : List Int) (a1 : List Int) (x4097 : Int) : Option (Bool ⊕ Unit) := if (decide (x4097 < (a0.length : Int))) = true then ((at? a0 x4097) >>= fun b4105 => (at? a1 x4097) >>= fun b4108 => if (b4105 != b4108) = true then (some (.inl false)) else (f_pluviallaw17_ints.l0 a0 a1 (IntKind.i64.wrap (x4097 + (1 : Int))))) else (some (.inr ()))
partial_fixpoint
def f_pluviallaw17_ints.f (a0 : List Int) (a1 : List Int) : Option (Bool) := if ((a0.length : Int) != (a1.length : Int)) = true then (some false) else ((f_pluviallaw17_ints.l0 a0 a1 0) >>= fun oo => match oo with | .inl rr => (some rr) | .inr _ => (some true))
theorem f_pluviallaw17_ints.ok (a0 : List Int) (a1 : List Int) (r : Bool) (H : f_pluviallaw17_ints.f a0 a1 = some r) : Pv.Fn Try.prog 17 [.im (.row (a0.map (encInt .i64))), .im (.row (a1.map (encInt .i64)))] [] 0 (fun x o => x = bV r ∧ o = []) := by
  unfold f_pluviallaw17_ints.f at H
  refine Fn.bodyK [] Try.func17 rfl rfl (fun Γ hP hn => ?_)
  have hm : Try.prog.follows .mixedOrders = true := by kernel_rfl
  replace hn : Γ.n = 26 := hn
  refine AWp.seq ?_
  refine reg hP hn hm [] [0, 1] [] ⟨[(0, .im (.row (a0.map (encInt .i64)))), (1, .im (.row (a1.map (encInt .i64))))], [], 0⟩ [] (by kernel_rfl) trivial ?_
  refine AWp.seq ?_
  refine AWp.seq ?_
  refine reg hP hn hm [(1, .any (iV .i64 (a0.length : Int))), (3, .any (iV .i64 (a1.length : Int)))] [0, 1, 10] [] ⟨[(0, .im (.row (a0.map (encInt .i64)))), (1, .im (.row (a1.map (encInt .i64)))), (10, bV ((a0.length : Int) != (a1.length : Int)))], [], 0⟩ [((a0.map (encInt .i64)).length : Int) = (a0.length : Int), ((a1.map (encInt .i64)).length : Int) = (a1.length : Int)] (by kernel_rfl) ⟨by rw [len_map], by rw [len_map], trivial⟩ ?_
  refine AWp.cond ((a0.length : Int) != (a1.length : Int)) rfl (fun c4082 => ?_) (fun c4082 => ?_)
  · replace H := (ifT c4082).symm.trans H
    refine AWp.seq ?_
    refine reg hP hn hm [] [4] [] ⟨[(4, bV false)], [], 0⟩ [] (by kernel_rfl) trivial ?_
    refine AWp.conv (inv := []) (vk := []) (e0 := []) (t := ⟨[(4, bV false)], [], 0⟩) (by kernel_rfl) ?_
    refine AWp.ret ?_
    obtain rfl := Option.some.inj H
    exact Exists.intro _ (And.intro (fun _ _ h => h) (And.intro (.inl rfl) (And.intro rfl (And.intro (by kernel_rfl) (by kernel_rfl)))))
  · replace H := (ifF c4082).symm.trans H
    refine AWp.skip ?_
    refine AWp.seq ?_
    refine AWp.seq ?_
    refine reg hP hn hm [(1, .any (iV .i64 (a0.length : Int)))] [0, 1, 12, 13] [] ⟨[(0, .im (.row (a0.map (encInt .i64)))), (1, .im (.row (a1.map (encInt .i64)))), (12, iV .i64 (a0.length : Int)), (13, iV .i64 0)], [], 0⟩ [((a0.map (encInt .i64)).length : Int) = (a0.length : Int)] (by kernel_rfl) ⟨by rw [len_map], trivial⟩ ?_
    refine AWp.block ?_
    obtain ⟨o4112, e4113, H⟩ := bind_of H
    refine AWp.loop (LWp.conv (inv := []) (vk := []) (e0 := []) (t := ⟨[(0, .im (.row (a0.map (encInt .i64)))), (1, .im (.row (a1.map (encInt .i64)))), (12, iV .i64 (a0.length : Int)), (13, iV .i64 0)], [], 0⟩) (by kernel_rfl) ?_)
    refine LWp.mono (Q := fun e s => (match (generalizing := false) o4112 with | .inl rr => e = .ret ∧ s.floor = 0 ∧ resOf Try.prog Try.f17 s = some (bV rr) ∧ ([] : List (Nat × Option MObj)) = [] | .inr _ => e = .exit 0 ∧ s = ⟨[], [], 0⟩)) (LWp.cv (withBody (fun body hbody => ?_))) ?_
    · refine f_pluviallaw17_ints.l0.partial_correctness a0 a1 (motive := fun x4097 o4112 => LWp Γ body (fun e s => ∃ t, Cv Γ s t ∧ (match (generalizing := false) o4112 with | .inl rr => e = .ret ∧ t.floor = 0 ∧ resOf Try.prog Try.f17 t = some (bV rr) ∧ ([] : List (Nat × Option MObj)) = [] | .inr _ => e = .exit 0 ∧ t = ⟨[], [], 0⟩)) ⟨[(0, .im (.row (a0.map (encInt .i64)))), (1, .im (.row (a1.map (encInt .i64)))), (12, iV .i64 (a0.length : Int)), (13, iV .i64 x4097)], [], 0⟩) ?_ _ _ e4113
      clear H e4113 o4112; intro self ih x4097 o4112 H
      subst hbody
      refine LWp.round ?_
      refine AWp.seq ?_
      refine reg hP hn hm [] [0, 1, 12, 13, 14] [] ⟨[(0, .im (.row (a0.map (encInt .i64)))), (1, .im (.row (a1.map (encInt .i64)))), (12, iV .i64 (a0.length : Int)), (13, iV .i64 x4097), (14, bV (decide (x4097 < (a0.length : Int))))], [], 0⟩ [] (by kernel_rfl) trivial ?_
      refine AWp.seq ?_
      refine AWp.cond (decide (x4097 < (a0.length : Int))) rfl (fun c4098 => ?_) (fun c4098 => ?_)
      · replace H := (ifT c4098).symm.trans H
        refine AWp.skip ?_
        refine AWp.seq ?_
        refine AWp.block ?_
        refine AWp.seq ?_
        refine reg hP hn hm [] [0, 1, 5, 12, 13] [] ⟨[(0, .im (.row (a0.map (encInt .i64)))), (1, .im (.row (a1.map (encInt .i64)))), (5, iV .i64 x4097), (12, iV .i64 (a0.length : Int)), (13, iV .i64 x4097)], [], 0⟩ [] (by kernel_rfl) trivial ?_
        refine AWp.seq ?_
        obtain ⟨b4105, p4106, q4107, H⟩ := at_of H
        obtain ⟨b4108, p4109, q4110, H⟩ := at_of H
        refine reg hP hn hm [(2, .c ((encInt .i64) b4105)), (6, .c ((encInt .i64) b4108))] [0, 1, 12, 13, 24] [] ⟨[(0, .im (.row (a0.map (encInt .i64)))), (1, .im (.row (a1.map (encInt .i64)))), (12, iV .i64 (a0.length : Int)), (13, iV .i64 x4097), (24, bV (b4105 != b4108))], [], 0⟩ [0 ≤ x4097, (a0.map (encInt .i64))[(Int.toNat (x4097))]? = some ((encInt .i64) b4105), 0 ≤ x4097, (a1.map (encInt .i64))[(Int.toNat (x4097))]? = some ((encInt .i64) b4108)] (by kernel_rfl) ⟨by exact p4106, by exact el_map (encInt .i64) q4107, by exact p4109, by exact el_map (encInt .i64) q4110, trivial⟩ ?_
        refine AWp.cond (b4105 != b4108) rfl (fun c4111 => ?_) (fun c4111 => ?_)
        · replace H := (ifT c4111).symm.trans H
          refine AWp.seq ?_
          refine reg hP hn hm [] [4] [] ⟨[(4, bV false)], [], 0⟩ [] (by kernel_rfl) trivial ?_
          refine AWp.conv (inv := []) (vk := []) (e0 := []) (t := ⟨[(4, bV false)], [], 0⟩) (by kernel_rfl) ?_
          refine AWp.ret ?_
          obtain rfl := Option.some.inj H
          exact Exists.intro _ (And.intro (fun _ _ h => h) (And.intro rfl (And.intro rfl (And.intro (by kernel_rfl) (by kernel_rfl)))))
        · replace H := (ifF c4111).symm.trans H
          refine AWp.skip ?_
          refine reg hP hn hm [] [0, 1, 12, 13] [] ⟨[(0, .im (.row (a0.map (encInt .i64)))), (1, .im (.row (a1.map (encInt .i64)))), (12, iV .i64 (a0.length : Int)), (13, iV .i64 (IntKind.i64.wrap (x4097 + (1 : Int))))], [], 0⟩ [] (by kernel_rfl) trivial ?_
          exact LWp.conv (inv := []) (vk := []) (e0 := []) (t := ⟨[(0, .im (.row (a0.map (encInt .i64)))), (1, .im (.row (a1.map (encInt .i64)))), (12, iV .i64 (a0.length : Int)), (13, iV .i64 (IntKind.i64.wrap (x4097 + (1 : Int))))], [], 0⟩) (by kernel_rfl) (ih _ _ H)
      · replace H := (ifF c4098).symm.trans H
        refine AWp.exit ?_
        obtain rfl := Option.some.inj H
        exact Exists.intro _ (And.intro (fun _ _ h => h.conv (inv := []) (vk := []) (e0 := []) (t := ⟨[], [], 0⟩) (by kernel_rfl)) (And.intro rfl rfl))
    · rcases o4112 with rr | _
      · skip
        rintro e s ⟨rfl, hfl, hres⟩
        obtain rfl := Option.some.inj H
        exact Exists.intro _ (And.intro (fun _ _ h => h) (And.intro (.inl rfl) (And.intro hfl hres)))
      · skip
        rintro e s ⟨rfl, rfl⟩
        refine AWp.seq ?_
        refine reg hP hn hm [] [4] [] ⟨[(4, bV true)], [], 0⟩ [] (by kernel_rfl) trivial ?_
        refine AWp.conv (inv := []) (vk := []) (e0 := []) (t := ⟨[(4, bV true)], [], 0⟩) (by kernel_rfl) ?_
        refine AWp.ret ?_
        obtain rfl := Option.some.inj H
        exact Exists.intro _ (And.intro (fun _ _ h => h) (And.intro (.inl rfl) (And.intro rfl (And.intro (by kernel_rfl) (by kernel_rfl)))))
def f_pluviallaw17_awake.f  : Option (Bool) := (f_pluviallaw17_To.f [(⟨1, 0, 0, 64⟩ : Tpluvialref17_Item), (⟨2, 0, 64, 128⟩ : Tpluvialref17_Item)]) >>= fun t4076 => (f_plan_Next.f t4076) >>= fun t4078 => ((if t4078.2 = true then (if (((t4078.1).f1) == (1 : Int)) = true then ((f_pluviallaw17_ints.f ((t4078.1).f0) [1, 2]) >>= fun t4118 => some t4118) else (some false)) else (some false)) : Option (Bool)) >>= fun x4120 => some x4120
theorem f_pluviallaw17_awake.ok  (r : Bool) (H : f_pluviallaw17_awake.f  = some r) : Pv.Fn Try.prog 13 [] [] 0 (fun x o => x = bV r ∧ o = []) := by
  unfold f_pluviallaw17_awake.f at H
  refine Fn.bodyK [] Try.func13 rfl rfl (fun Γ hP hn => ?_)
  have hm : Try.prog.follows .mixedOrders = true := by kernel_rfl
  replace hn : Γ.n = 23 := hn
  refine AWp.seq ?_
  refine reg hP hn hm [] [] [] ⟨[], [], 0⟩ [] (by kernel_rfl) trivial ?_
  refine AWp.seq ?_
  obtain ⟨t4076, e4077, H⟩ := bind_of H
  obtain ⟨t4078, e4079, H⟩ := bind_of H
  refine reg hP hn hm [(2, .app 0 ([(⟨1, 0, 0, 64⟩ : Tpluvialref17_Item), (⟨2, 0, 64, 128⟩ : Tpluvialref17_Item)].map epluvialref17_Item)), (3, .call [] [(0, 1)] [0] [1] 0 (.own 0) [(0, some (.row 4 89 (t4076.map eplan_Item)))]), (4, .call [] [(0, 2)] [1] [2] 0 (.tup [.agg [.own 0, iV .i64 ((t4078.1).f1)], bV t4078.2]) [(0, some (.row 1 3 (((t4078.1).f0).map (encInt .i64))))]), (8, .k 3)] [1, 2] [2, 3] ⟨[(1, .ptr 3 0 0), (2, bV t4078.2)], [(2, some (.row 1 3 (((t4078.1).f0).map (encInt .i64)))), (3, some (.box 33 [.own 2, iV .i64 ((t4078.1).f1)]))], 0⟩ [[(⟨1, 0, 0, 64⟩ : Tpluvialref17_Item), (⟨2, 0, 64, 128⟩ : Tpluvialref17_Item)].map epluvialref17_Item = [[iI .i64 1, iI .i64 0, iI .i64 0, iI .i64 64], [iI .i64 2, iI .i64 0, iI .i64 64, iI .i64 128]], Enters Try.prog 15, Pv.Fn Try.prog 15 [.im (.row ([(⟨1, 0, 0, 64⟩ : Tpluvialref17_Item), (⟨2, 0, 64, 128⟩ : Tpluvialref17_Item)].map epluvialref17_Item))] [] 0 (fun r o => r = .own 0 ∧ o = [(0, some (.row 4 89 (t4076.map eplan_Item)))]), Enters Try.prog 16, Pv.Fn Try.prog 16 [.im (.row (t4076.map eplan_Item))] [] 0 (fun r o => r = .tup [.agg [.own 0, iV .i64 ((t4078.1).f1)], bV t4078.2] ∧ o = [(0, some (.row 1 3 (((t4078.1).f0).map (encInt .i64))))])] (by kernel_rfl) ⟨by exact rfl, by exact Try.call15, by exact f_pluviallaw17_To.ok [(⟨1, 0, 0, 64⟩ : Tpluvialref17_Item), (⟨2, 0, 64, 128⟩ : Tpluvialref17_Item)] t4076 e4077, by exact Try.call16, by exact f_plan_Next.ok t4076 t4078 e4079, trivial⟩ ?_
  refine AWp.seq ?_
  obtain ⟨o4121, e4122, H⟩ := bind_of H
  refine AWp.mono (Q := fun e s => (match (generalizing := false) o4121 with | x4120 => e = .normal ∧ s = ⟨[(0, bV x4120)], [], 0⟩)) (AWp.cv ?_) ?_
  · replace H := e4122; clear e4122
    rcases Bool.eq_false_or_eq_true t4078.2 with c4116 | c4116
    · replace H := (ifT c4116).symm.trans H
      rcases Bool.eq_false_or_eq_true (((t4078.1).f1) == (1 : Int)) with c4117 | c4117
      · replace H := (ifT c4117).symm.trans H
        obtain ⟨t4118, e4119, H⟩ := bind_of H
        refine reg hP hn hm [(1, .b true), (6, .b true), (9, .app 4 ([1, 2].map (encInt .i64))), (10, .call [] [] [2, 4] [] 0 (bV t4118) [])] [0] [] ⟨[(0, bV t4118)], [], 0⟩ [t4078.2 = true, (((t4078.1).f1) == (1 : Int)) = true, [1, 2].map (encInt .i64) = [[iI .i64 1], [iI .i64 2]], Enters Try.prog 17, Pv.Fn Try.prog 17 [.im (.row (((t4078.1).f0).map (encInt .i64))), .im (.row ([1, 2].map (encInt .i64)))] [] 0 (fun r o => r = bV t4118 ∧ o = [])] (by kernel_rfl) ⟨by exact c4116, by exact c4117, by exact rfl, by exact Try.call17, by exact f_pluviallaw17_ints.ok ((t4078.1).f0) [1, 2] t4118 e4119, trivial⟩ ?_
        obtain rfl := Option.some.inj H
        exact Exists.intro _ (And.intro (fun _ _ h => h.conv (inv := []) (vk := []) (e0 := []) (t := ⟨[(0, bV t4118)], [], 0⟩) (by kernel_rfl)) (And.intro rfl rfl))
      · replace H := (ifF c4117).symm.trans H
        refine reg hP hn hm [(1, .b true), (6, .b false)] [0] [] ⟨[(0, bV false)], [], 0⟩ [t4078.2 = true, (((t4078.1).f1) == (1 : Int)) = false] (by kernel_rfl) ⟨by exact c4116, by exact c4117, trivial⟩ ?_
        obtain rfl := Option.some.inj H
        exact Exists.intro _ (And.intro (fun _ _ h => h.conv (inv := []) (vk := []) (e0 := []) (t := ⟨[(0, bV false)], [], 0⟩) (by kernel_rfl)) (And.intro rfl rfl))
    · replace H := (ifF c4116).symm.trans H
      refine reg hP hn hm [(1, .b false)] [0] [] ⟨[(0, bV false)], [], 0⟩ [t4078.2 = false] (by kernel_rfl) ⟨by exact c4116, trivial⟩ ?_
      obtain rfl := Option.some.inj H
      exact Exists.intro _ (And.intro (fun _ _ h => h.conv (inv := []) (vk := []) (e0 := []) (t := ⟨[(0, bV false)], [], 0⟩) (by kernel_rfl)) (And.intro rfl rfl))
  · obtain ⟨x4120, rfl⟩ : ∃ z, z = o4121 := ⟨_, rfl⟩
    rintro e s ⟨rfl, rfl⟩
    refine AWp.conv (inv := []) (vk := []) (e0 := []) (t := ⟨[(0, bV x4120)], [], 0⟩) (by kernel_rfl) ?_
    refine AWp.ret ?_
    obtain rfl := Option.some.inj H
    exact Exists.intro _ (And.intro (fun _ _ h => h) (And.intro (.inl rfl) (And.intro rfl (And.intro (by kernel_rfl) (by kernel_rfl)))))
def f_plan_Apart.l0 (t4182 : List Tplan_Item) (x4191 : Int) (x4192 : Int) : Option (Bool ⊕ Unit) := if (decide (x4192 < (t4182.length : Int))) = true then ((at? t4182 x4192) >>= fun b4197 => ((if (decide (x4192 > (0 : Int))) = true then (some (decide (b4197.f1.f0 < x4191))) else (some false)) : Option (Bool)) >>= fun x4202 => if x4202 = true then (some (.inl false)) else (f_plan_Apart.l0 t4182 (if b4197.f1.f1 > x4191 then b4197.f1.f1 else x4191) (IntKind.i64.wrap (x4192 + (1 : Int))))) else (some (.inr ()))
partial_fixpoint
def f_plan_Apart.f (a0 : List Tplan_Item) : Option (Bool) := (f_plan_sorted.f a0) >>= fun t4182 => (f_plan_Apart.l0 t4182 0 0) >>= fun oo => match oo with | .inl rr => (some rr) | .inr _ => (some true)
theorem f_plan_Apart.ok (a0 : List Tplan_Item) (r : Bool) (H : f_plan_Apart.f a0 = some r) : Pv.Fn Try.prog 18 [.im (.row (a0.map eplan_Item))] [] 0 (fun x o => x = bV r ∧ o = []) := by
  unfold f_plan_Apart.f at H
  refine Fn.bodyK [] Try.func18 rfl rfl (fun Γ hP hn => ?_)
  have hm : Try.prog.follows .mixedOrders = true := by kernel_rfl
  replace hn : Γ.n = 30 := hn
  refine AWp.seq ?_
  refine reg hP hn hm [] [0] [] ⟨[(0, .im (.row (a0.map eplan_Item)))], [], 0⟩ [] (by kernel_rfl) trivial ?_
  refine AWp.seq ?_
  obtain ⟨t4182, e4183, H⟩ := bind_of H
  refine reg hP hn hm [(1, .call [] [(0, 0)] [] [0] 0 (.own 0) [(0, some (.row 4 89 (t4182.map eplan_Item)))])] [0] [0] ⟨[(0, .own 0)], [(0, some (.row 4 89 (t4182.map eplan_Item)))], 0⟩ [Enters Try.prog 35, Pv.Fn Try.prog 35 [.im (.row (a0.map eplan_Item))] [] 0 (fun r o => r = .own 0 ∧ o = [(0, some (.row 4 89 (t4182.map eplan_Item)))])] (by kernel_rfl) ⟨by exact Try.call35, by exact f_plan_sorted.ok a0 t4182 e4183, trivial⟩ ?_
  refine AWp.seq ?_
  refine reg hP hn hm [] [0, 3] [0] ⟨[(0, .own 0), (3, iV .i64 0)], [(0, some (.row 4 89 (t4182.map eplan_Item)))], 0⟩ [] (by kernel_rfl) trivial ?_
  refine AWp.seq ?_
  refine AWp.seq ?_
  refine reg hP hn hm [(1, .any (iV .i64 (t4182.length : Int)))] [3, 8, 9, 10] [0] ⟨[(3, iV .i64 0), (8, .own 0), (9, iV .i64 (t4182.length : Int)), (10, iV .i64 0)], [(0, some (.row 4 89 (t4182.map eplan_Item)))], 0⟩ [((t4182.map eplan_Item).length : Int) = (t4182.length : Int)] (by kernel_rfl) ⟨by rw [len_map], trivial⟩ ?_
  refine AWp.block ?_
  obtain ⟨o4204, e4205, H⟩ := bind_of H
  refine AWp.loop (LWp.conv (inv := [(0, 2)]) (vk := []) (e0 := []) (t := ⟨[(3, iV .i64 0), (8, .own 2), (9, iV .i64 (t4182.length : Int)), (10, iV .i64 0)], [(2, some (.row 4 89 (t4182.map eplan_Item)))], 0⟩) (by kernel_rfl) ?_)
  refine LWp.mono (Q := fun e s => (match (generalizing := false) o4204 with | .inl rr => e = .ret ∧ s.floor = 0 ∧ resOf Try.prog Try.f18 s = some (bV rr) ∧ ([] : List (Nat × Option MObj)) = [] | .inr _ => e = .exit 0 ∧ s = ⟨[], [], 0⟩)) (LWp.cv (withBody (fun body hbody => ?_))) ?_
  · refine f_plan_Apart.l0.partial_correctness t4182 (motive := fun x4191 x4192 o4204 => LWp Γ body (fun e s => ∃ t, Cv Γ s t ∧ (match (generalizing := false) o4204 with | .inl rr => e = .ret ∧ t.floor = 0 ∧ resOf Try.prog Try.f18 t = some (bV rr) ∧ ([] : List (Nat × Option MObj)) = [] | .inr _ => e = .exit 0 ∧ t = ⟨[], [], 0⟩)) ⟨[(3, iV .i64 x4191), (8, .own 2), (9, iV .i64 (t4182.length : Int)), (10, iV .i64 x4192)], [(2, some (.row 4 89 (t4182.map eplan_Item)))], 0⟩) ?_ _ _ _ e4205
    clear H e4205 o4204; intro self ih x4191 x4192 o4204 H
    subst hbody
    refine LWp.round ?_
    refine AWp.seq ?_
    refine reg hP hn hm [] [3, 8, 9, 10, 11] [2] ⟨[(3, iV .i64 x4191), (8, .own 2), (9, iV .i64 (t4182.length : Int)), (10, iV .i64 x4192), (11, bV (decide (x4192 < (t4182.length : Int))))], [(2, some (.row 4 89 (t4182.map eplan_Item)))], 0⟩ [] (by kernel_rfl) trivial ?_
    refine AWp.seq ?_
    refine AWp.cond (decide (x4192 < (t4182.length : Int))) rfl (fun c4193 => ?_) (fun c4193 => ?_)
    · replace H := (ifT c4193).symm.trans H
      refine AWp.skip ?_
      refine AWp.seq ?_
      refine AWp.block ?_
      refine AWp.seq ?_
      obtain ⟨b4197, p4198, q4199, H⟩ := at_of H
      refine reg hP hn hm [(2, .c (eplan_Item b4197)), (3, .k 3)] [3, 4, 5, 8, 9, 10] [2, 3] ⟨[(3, iV .i64 x4191), (4, iV .i64 x4192), (5, .ptr 3 0 0), (8, .own 2), (9, iV .i64 (t4182.length : Int)), (10, iV .i64 x4192)], [(2, some (.row 4 89 (t4182.map eplan_Item))), (3, some (.box 89 [iV .i64 b4197.f0, iV .i64 b4197.f1.f0, iV .i64 b4197.f1.f1, iV .i64 b4197.f1.f2]))], 0⟩ [0 ≤ x4192, x4192 < (((t4182.map eplan_Item).length : Nat) : Int), (t4182.map eplan_Item)[(Int.toNat (x4192))]? = some (eplan_Item b4197)] (by kernel_rfl) ⟨by exact p4198, by exact el_lt eplan_Item p4198 q4199, by exact el_map eplan_Item q4199, trivial⟩ ?_
      refine AWp.seq ?_
      refine AWp.seq ?_
      obtain ⟨o4206, e4207, H⟩ := bind_of H
      refine AWp.mono (Q := fun e s => (match (generalizing := false) o4206 with | x4202 => e = .normal ∧ s = ⟨[(3, iV .i64 x4191), (5, .ptr 4 0 0), (8, .own 5), (9, iV .i64 (t4182.length : Int)), (10, iV .i64 x4192), (23, bV x4202)], [(4, some (.box 89 [iV .i64 b4197.f0, iV .i64 b4197.f1.f0, iV .i64 b4197.f1.f1, iV .i64 b4197.f1.f2])), (5, some (.row 4 89 (t4182.map eplan_Item)))], 0⟩)) (AWp.cv ?_) ?_
      · replace H := e4207; clear e4207
        rcases Bool.eq_false_or_eq_true (decide (x4192 > (0 : Int))) with c4201 | c4201
        · replace H := (ifT c4201).symm.trans H
          refine reg hP hn hm [(2, .b true)] [3, 5, 8, 9, 10, 18, 19, 20, 21, 22, 23] [2, 3] ⟨[(3, iV .i64 x4191), (5, .ptr 3 0 0), (8, .own 2), (9, iV .i64 (t4182.length : Int)), (10, iV .i64 x4192), (18, .ptr 3 0 1), (19, .ptr 3 0 1), (20, iV .i64 b4197.f1.f0), (21, iV .i64 x4191), (22, bV (decide (b4197.f1.f0 < x4191))), (23, bV (decide (b4197.f1.f0 < x4191)))], [(2, some (.row 4 89 (t4182.map eplan_Item))), (3, some (.box 89 [iV .i64 b4197.f0, iV .i64 b4197.f1.f0, iV .i64 b4197.f1.f1, iV .i64 b4197.f1.f2]))], 0⟩ [(decide (x4192 > (0 : Int))) = true] (by kernel_rfl) ⟨by exact c4201, trivial⟩ ?_
          obtain rfl := Option.some.inj H
          exact Exists.intro _ (And.intro (fun _ _ h => h.conv (inv := [(3, 4), (2, 5)]) (vk := []) (e0 := []) (t := ⟨[(3, iV .i64 x4191), (5, .ptr 4 0 0), (8, .own 5), (9, iV .i64 (t4182.length : Int)), (10, iV .i64 x4192), (23, bV (decide (b4197.f1.f0 < x4191)))], [(4, some (.box 89 [iV .i64 b4197.f0, iV .i64 b4197.f1.f0, iV .i64 b4197.f1.f1, iV .i64 b4197.f1.f2])), (5, some (.row 4 89 (t4182.map eplan_Item)))], 0⟩) (by kernel_rfl)) (And.intro rfl rfl))
        · replace H := (ifF c4201).symm.trans H
          refine reg hP hn hm [(2, .b false)] [3, 5, 8, 9, 10, 23] [2, 3] ⟨[(3, iV .i64 x4191), (5, .ptr 3 0 0), (8, .own 2), (9, iV .i64 (t4182.length : Int)), (10, iV .i64 x4192), (23, bV false)], [(2, some (.row 4 89 (t4182.map eplan_Item))), (3, some (.box 89 [iV .i64 b4197.f0, iV .i64 b4197.f1.f0, iV .i64 b4197.f1.f1, iV .i64 b4197.f1.f2]))], 0⟩ [(decide (x4192 > (0 : Int))) = false] (by kernel_rfl) ⟨by exact c4201, trivial⟩ ?_
          obtain rfl := Option.some.inj H
          exact Exists.intro _ (And.intro (fun _ _ h => h.conv (inv := [(3, 4), (2, 5)]) (vk := []) (e0 := []) (t := ⟨[(3, iV .i64 x4191), (5, .ptr 4 0 0), (8, .own 5), (9, iV .i64 (t4182.length : Int)), (10, iV .i64 x4192), (23, bV false)], [(4, some (.box 89 [iV .i64 b4197.f0, iV .i64 b4197.f1.f0, iV .i64 b4197.f1.f1, iV .i64 b4197.f1.f2])), (5, some (.row 4 89 (t4182.map eplan_Item)))], 0⟩) (by kernel_rfl)) (And.intro rfl rfl))
      · obtain ⟨x4202, rfl⟩ : ∃ z, z = o4206 := ⟨_, rfl⟩
        rintro e s ⟨rfl, rfl⟩
        refine AWp.cond x4202 rfl (fun c4203 => ?_) (fun c4203 => ?_)
        · replace H := (ifT c4203).symm.trans H
          refine AWp.seq ?_
          refine reg hP hn hm [] [2] [] ⟨[(2, bV false)], [], 0⟩ [] (by kernel_rfl) trivial ?_
          refine AWp.conv (inv := []) (vk := []) (e0 := []) (t := ⟨[(2, bV false)], [], 0⟩) (by kernel_rfl) ?_
          refine AWp.ret ?_
          obtain rfl := Option.some.inj H
          exact Exists.intro _ (And.intro (fun _ _ h => h) (And.intro rfl (And.intro rfl (And.intro (by kernel_rfl) (by kernel_rfl)))))
        · replace H := (ifF c4203).symm.trans H
          refine AWp.skip ?_
          refine reg hP hn hm [(4, .more xMax)] [3, 8, 9, 10] [5] ⟨[(3, iV .i64 (if b4197.f1.f1 > x4191 then b4197.f1.f1 else x4191)), (8, .own 5), (9, iV .i64 (t4182.length : Int)), (10, iV .i64 x4192)], [(5, some (.row 4 89 (t4182.map eplan_Item)))], 0⟩ [] (by kernel_rfl) trivial ?_
          refine reg hP hn hm [] [3, 8, 9, 10] [5] ⟨[(3, iV .i64 (if b4197.f1.f1 > x4191 then b4197.f1.f1 else x4191)), (8, .own 5), (9, iV .i64 (t4182.length : Int)), (10, iV .i64 (IntKind.i64.wrap (x4192 + (1 : Int))))], [(5, some (.row 4 89 (t4182.map eplan_Item)))], 0⟩ [] (by kernel_rfl) trivial ?_
          exact LWp.conv (inv := [(5, 2)]) (vk := []) (e0 := []) (t := ⟨[(3, iV .i64 (if b4197.f1.f1 > x4191 then b4197.f1.f1 else x4191)), (8, .own 2), (9, iV .i64 (t4182.length : Int)), (10, iV .i64 (IntKind.i64.wrap (x4192 + (1 : Int))))], [(2, some (.row 4 89 (t4182.map eplan_Item)))], 0⟩) (by kernel_rfl) (ih _ _ _ H)
    · replace H := (ifF c4193).symm.trans H
      refine AWp.exit ?_
      obtain rfl := Option.some.inj H
      exact Exists.intro _ (And.intro (fun _ _ h => h.conv (inv := []) (vk := []) (e0 := []) (t := ⟨[], [], 0⟩) (by kernel_rfl)) (And.intro rfl rfl))
  · rcases o4204 with rr | _
    · skip
      rintro e s ⟨rfl, hfl, hres⟩
      obtain rfl := Option.some.inj H
      exact Exists.intro _ (And.intro (fun _ _ h => h) (And.intro (.inl rfl) (And.intro hfl hres)))
    · skip
      rintro e s ⟨rfl, rfl⟩
      refine AWp.seq ?_
      refine reg hP hn hm [] [2] [] ⟨[(2, bV true)], [], 0⟩ [] (by kernel_rfl) trivial ?_
      refine AWp.conv (inv := []) (vk := []) (e0 := []) (t := ⟨[(2, bV true)], [], 0⟩) (by kernel_rfl) ?_
      refine AWp.ret ?_
      obtain rfl := Option.some.inj H
      exact Exists.intro _ (And.intro (fun _ _ h => h) (And.intro (.inl rfl) (And.intro rfl (And.intro (by kernel_rfl) (by kernel_rfl)))))
def f_slices_Index_int.l0 (a0 : List Int) (a1 : Int) (x4395 : Int) : Option (Int ⊕ Unit) := if (decide (x4395 < (a0.length : Int))) = true then ((at? a0 x4395) >>= fun b4400 => if (a1 == b4400) = true then (some (.inl x4395)) else (f_slices_Index_int.l0 a0 a1 (IntKind.i64.wrap (x4395 + (1 : Int))))) else (some (.inr ()))
partial_fixpoint
def f_slices_Index_int.f (a0 : List Int) (a1 : Int) : Option (Int) := (f_slices_Index_int.l0 a0 a1 0) >>= fun oo => match oo with | .inl rr => (some rr) | .inr _ => (some (-1))
theorem f_slices_Index_int.ok (a0 : List Int) (a1 : Int) (r : Int) (H : f_slices_Index_int.f a0 a1 = some r) : Pv.Fn Try.prog 54 [.im (.row (a0.map (encInt .i64))), iV .i64 a1] [] 0 (fun x o => x = iV .i64 r ∧ o = []) := by
  unfold f_slices_Index_int.f at H
  refine Fn.bodyK [] Try.func54 rfl rfl (fun Γ hP hn => ?_)
  have hm : Try.prog.follows .mixedOrders = true := by kernel_rfl
  replace hn : Γ.n = 19 := hn
  refine AWp.seq ?_
  refine reg hP hn hm [] [0, 1] [] ⟨[(0, .im (.row (a0.map (encInt .i64)))), (1, iV .i64 a1)], [], 0⟩ [] (by kernel_rfl) trivial ?_
  refine AWp.seq ?_
  refine AWp.seq ?_
  refine reg hP hn hm [(1, .any (iV .i64 (a0.length : Int)))] [0, 1, 7, 8] [] ⟨[(0, .im (.row (a0.map (encInt .i64)))), (1, iV .i64 a1), (7, iV .i64 (a0.length : Int)), (8, iV .i64 0)], [], 0⟩ [((a0.map (encInt .i64)).length : Int) = (a0.length : Int)] (by kernel_rfl) ⟨by rw [len_map], trivial⟩ ?_
  refine AWp.block ?_
  obtain ⟨o4404, e4405, H⟩ := bind_of H
  refine AWp.loop (LWp.conv (inv := []) (vk := []) (e0 := []) (t := ⟨[(0, .im (.row (a0.map (encInt .i64)))), (1, iV .i64 a1), (7, iV .i64 (a0.length : Int)), (8, iV .i64 0)], [], 0⟩) (by kernel_rfl) ?_)
  refine LWp.mono (Q := fun e s => (match (generalizing := false) o4404 with | .inl rr => e = .ret ∧ s.floor = 0 ∧ resOf Try.prog Try.f54 s = some (iV .i64 rr) ∧ ([] : List (Nat × Option MObj)) = [] | .inr _ => e = .exit 0 ∧ s = ⟨[], [], 0⟩)) (LWp.cv (withBody (fun body hbody => ?_))) ?_
  · refine f_slices_Index_int.l0.partial_correctness a0 a1 (motive := fun x4395 o4404 => LWp Γ body (fun e s => ∃ t, Cv Γ s t ∧ (match (generalizing := false) o4404 with | .inl rr => e = .ret ∧ t.floor = 0 ∧ resOf Try.prog Try.f54 t = some (iV .i64 rr) ∧ ([] : List (Nat × Option MObj)) = [] | .inr _ => e = .exit 0 ∧ t = ⟨[], [], 0⟩)) ⟨[(0, .im (.row (a0.map (encInt .i64)))), (1, iV .i64 a1), (7, iV .i64 (a0.length : Int)), (8, iV .i64 x4395)], [], 0⟩) ?_ _ _ e4405
    clear H e4405 o4404; intro self ih x4395 o4404 H
    subst hbody
    refine LWp.round ?_
    refine AWp.seq ?_
    refine reg hP hn hm [] [0, 1, 7, 8, 9] [] ⟨[(0, .im (.row (a0.map (encInt .i64)))), (1, iV .i64 a1), (7, iV .i64 (a0.length : Int)), (8, iV .i64 x4395), (9, bV (decide (x4395 < (a0.length : Int))))], [], 0⟩ [] (by kernel_rfl) trivial ?_
    refine AWp.seq ?_
    refine AWp.cond (decide (x4395 < (a0.length : Int))) rfl (fun c4396 => ?_) (fun c4396 => ?_)
    · replace H := (ifT c4396).symm.trans H
      refine AWp.skip ?_
      refine AWp.seq ?_
      refine AWp.block ?_
      refine AWp.seq ?_
      refine reg hP hn hm [] [0, 1, 5, 7, 8] [] ⟨[(0, .im (.row (a0.map (encInt .i64)))), (1, iV .i64 a1), (5, iV .i64 x4395), (7, iV .i64 (a0.length : Int)), (8, iV .i64 x4395)], [], 0⟩ [] (by kernel_rfl) trivial ?_
      refine AWp.seq ?_
      obtain ⟨b4400, p4401, q4402, H⟩ := at_of H
      refine reg hP hn hm [(3, .c ((encInt .i64) b4400))] [0, 1, 5, 7, 8, 16] [] ⟨[(0, .im (.row (a0.map (encInt .i64)))), (1, iV .i64 a1), (5, iV .i64 x4395), (7, iV .i64 (a0.length : Int)), (8, iV .i64 x4395), (16, bV (a1 == b4400))], [], 0⟩ [0 ≤ x4395, (a0.map (encInt .i64))[(Int.toNat (x4395))]? = some ((encInt .i64) b4400)] (by kernel_rfl) ⟨by exact p4401, by exact el_map (encInt .i64) q4402, trivial⟩ ?_
      refine AWp.cond (a1 == b4400) rfl (fun c4403 => ?_) (fun c4403 => ?_)
      · replace H := (ifT c4403).symm.trans H
        refine AWp.seq ?_
        refine reg hP hn hm [] [4] [] ⟨[(4, iV .i64 x4395)], [], 0⟩ [] (by kernel_rfl) trivial ?_
        refine AWp.conv (inv := []) (vk := []) (e0 := []) (t := ⟨[(4, iV .i64 x4395)], [], 0⟩) (by kernel_rfl) ?_
        refine AWp.ret ?_
        obtain rfl := Option.some.inj H
        exact Exists.intro _ (And.intro (fun _ _ h => h) (And.intro rfl (And.intro rfl (And.intro (by kernel_rfl) (by kernel_rfl)))))
      · replace H := (ifF c4403).symm.trans H
        refine AWp.skip ?_
        refine reg hP hn hm [] [0, 1, 7, 8] [] ⟨[(0, .im (.row (a0.map (encInt .i64)))), (1, iV .i64 a1), (7, iV .i64 (a0.length : Int)), (8, iV .i64 (IntKind.i64.wrap (x4395 + (1 : Int))))], [], 0⟩ [] (by kernel_rfl) trivial ?_
        exact LWp.conv (inv := []) (vk := []) (e0 := []) (t := ⟨[(0, .im (.row (a0.map (encInt .i64)))), (1, iV .i64 a1), (7, iV .i64 (a0.length : Int)), (8, iV .i64 (IntKind.i64.wrap (x4395 + (1 : Int))))], [], 0⟩) (by kernel_rfl) (ih _ _ H)
    · replace H := (ifF c4396).symm.trans H
      refine AWp.exit ?_
      obtain rfl := Option.some.inj H
      exact Exists.intro _ (And.intro (fun _ _ h => h.conv (inv := []) (vk := []) (e0 := []) (t := ⟨[], [], 0⟩) (by kernel_rfl)) (And.intro rfl rfl))
  · rcases o4404 with rr | _
    · skip
      rintro e s ⟨rfl, hfl, hres⟩
      obtain rfl := Option.some.inj H
      exact Exists.intro _ (And.intro (fun _ _ h => h) (And.intro (.inl rfl) (And.intro hfl hres)))
    · skip
      rintro e s ⟨rfl, rfl⟩
      refine AWp.seq ?_
      refine reg hP hn hm [] [4] [] ⟨[(4, iV .i64 (-1))], [], 0⟩ [] (by kernel_rfl) trivial ?_
      refine AWp.conv (inv := []) (vk := []) (e0 := []) (t := ⟨[(4, iV .i64 (-1))], [], 0⟩) (by kernel_rfl) ?_
      refine AWp.ret ?_
      obtain rfl := Option.some.inj H
      exact Exists.intro _ (And.intro (fun _ _ h => h) (And.intro (.inl rfl) (And.intro rfl (And.intro (by kernel_rfl) (by kernel_rfl)))))
def f_slices_Contains_int.f (a0 : List Int) (a1 : Int) : Option (Bool) := (f_slices_Index_int.f a0 a1) >>= fun t4408 => some (decide (t4408 ≥ (0 : Int)))
theorem f_slices_Contains_int.ok (a0 : List Int) (a1 : Int) (r : Bool) (H : f_slices_Contains_int.f a0 a1 = some r) : Pv.Fn Try.prog 38 [.im (.row (a0.map (encInt .i64))), iV .i64 a1] [] 0 (fun x o => x = bV r ∧ o = []) := by
  unfold f_slices_Contains_int.f at H
  refine Fn.bodyK [] Try.func38 rfl rfl (fun Γ hP hn => ?_)
  have hm : Try.prog.follows .mixedOrders = true := by kernel_rfl
  replace hn : Γ.n = 9 := hn
  refine AWp.seq ?_
  refine reg hP hn hm [] [0, 1] [] ⟨[(0, .im (.row (a0.map (encInt .i64)))), (1, iV .i64 a1)], [], 0⟩ [] (by kernel_rfl) trivial ?_
  refine AWp.seq ?_
  obtain ⟨t4408, e4409, H⟩ := bind_of H
  refine reg hP hn hm [(2, .call [] [] [] [] 0 (iV .i64 t4408) [])] [4] [] ⟨[(4, bV (decide (t4408 ≥ (0 : Int))))], [], 0⟩ [Enters Try.prog 54, Pv.Fn Try.prog 54 [.im (.row (a0.map (encInt .i64))), iV .i64 a1] [] 0 (fun r o => r = iV .i64 t4408 ∧ o = [])] (by kernel_rfl) ⟨by exact Try.call54, by exact f_slices_Index_int.ok a0 a1 t4408 e4409, trivial⟩ ?_
  refine AWp.conv (inv := []) (vk := []) (e0 := []) (t := ⟨[(4, bV (decide (t4408 ≥ (0 : Int))))], [], 0⟩) (by kernel_rfl) ?_
  refine AWp.ret ?_
  obtain rfl := Option.some.inj H
  exact Exists.intro _ (And.intro (fun _ _ h => h) (And.intro (.inl rfl) (And.intro rfl (And.intro (by kernel_rfl) (by kernel_rfl)))))
def f_plan_Do.l0 (a0 : List Tplan_Item) (a1 : Tplan_Step) (a2 : Int) (x4423 : List Tplan_Item) (x4424 : Int) (x4425 : Int) : Option ((List Tplan_Item) × Int) := if (decide (x4425 < (a0.length : Int))) = true then ((((at? a0 x4425) >>= fun b4430 => (f_slices_Contains_int.f a1.f0 b4430.f0) >>= fun t4435 => if (!t4435) = true then ((chk ((x4423.length + [b4430].length) * 32 ≤ 140737488355328)) >>= fun _ => some (x4423 ++ [b4430], x4424)) else ((f_block_Low.f a1.f1 (if (0 : Int) > b4430.f1.f0 then (0 : Int) else b4430.f1.f0)) >>= fun t4442 => ((if (decide (x4424 < (0 : Int))) = true then (some true) else (some (decide ((IntKind.i64.wrap ((if (0 : Int) > b4430.f1.f0 then (0 : Int) else b4430.f1.f0) - (Int.tmod (if (0 : Int) > b4430.f1.f0 then (0 : Int) else b4430.f1.f0) (IntKind.i64.wrap ((64 : Int) * 2 ^ (min (Int.toNat (IntKind.u64.wrap ((2 : Int) * (IntKind.u64.wrap ((if (if (4 : Int) < a1.f1 then (4 : Int) else a1.f1) > (0 : Int) then (if (4 : Int) < a1.f1 then (4 : Int) else a1.f1) else (0 : Int))))))) 64)))))) < x4424)))) : Option (Bool)) >>= fun x4446 => ((if x4446 = true then (some (IntKind.i64.wrap ((if (0 : Int) > b4430.f1.f0 then (0 : Int) else b4430.f1.f0) - (Int.tmod (if (0 : Int) > b4430.f1.f0 then (0 : Int) else b4430.f1.f0) (IntKind.i64.wrap ((64 : Int) * 2 ^ (min (Int.toNat (IntKind.u64.wrap ((2 : Int) * (IntKind.u64.wrap ((if (if (4 : Int) < a1.f1 then (4 : Int) else a1.f1) > (0 : Int) then (if (4 : Int) < a1.f1 then (4 : Int) else a1.f1) else (0 : Int))))))) 64))))))) else (some x4424)) : Option (Int)) >>= fun x4448 => some (x4423, x4448))) : Option ((List Tplan_Item) × Int)) >>= fun oo => match oo with | (x4449, x4450) => (f_plan_Do.l0 a0 a1 a2 x4449 x4450 (IntKind.i64.wrap (x4425 + (1 : Int))))) else (some (x4423, x4424))
partial_fixpoint
def f_plan_Do.f (a0 : List Tplan_Item) (a1 : Tplan_Step) (a2 : Int) : Option (List Tplan_Item) := (f_plan_Do.l0 a0 a1 a2 [] (-1) 0) >>= fun oo => match oo with | (x4451, x4452) => (if (decide (x4452 < (0 : Int))) = true then (some x4451) else ((f_block_Width.f a1.f1) >>= fun t4457 => (chk ((x4451.length + [(⟨a2, (⟨x4452, IntKind.i64.wrap (x4452 + (IntKind.i64.wrap ((64 : Int) * 2 ^ (min (Int.toNat (IntKind.u64.wrap ((2 : Int) * (IntKind.u64.wrap ((if (if (4 : Int) < a1.f1 then (4 : Int) else a1.f1) > (0 : Int) then (if (4 : Int) < a1.f1 then (4 : Int) else a1.f1) else (0 : Int))))))) 64)))), a1.f1⟩ : Tblock_Meta)⟩ : Tplan_Item)].length) * 32 ≤ 140737488355328)) >>= fun _ => some (x4451 ++ [(⟨a2, (⟨x4452, IntKind.i64.wrap (x4452 + (IntKind.i64.wrap ((64 : Int) * 2 ^ (min (Int.toNat (IntKind.u64.wrap ((2 : Int) * (IntKind.u64.wrap ((if (if (4 : Int) < a1.f1 then (4 : Int) else a1.f1) > (0 : Int) then (if (4 : Int) < a1.f1 then (4 : Int) else a1.f1) else (0 : Int))))))) 64)))), a1.f1⟩ : Tblock_Meta)⟩ : Tplan_Item)])))
theorem f_plan_Do.ok (a0 : List Tplan_Item) (a1 : Tplan_Step) (a2 : Int) (r : List Tplan_Item) (H : f_plan_Do.f a0 a1 a2 = some r) : Pv.Fn Try.prog 25 [.im (.row (a0.map eplan_Item)), .agg (aplan_Step a1), iV .i64 a2] [] 0 (fun x o => x = .own 0 ∧ o = [(0, some (.row 4 89 (r.map eplan_Item)))]) := by
  unfold f_plan_Do.f at H
  refine Fn.bodyK [0] Try.func25 rfl rfl (fun Γ hP hn => ?_)
  have hm : Try.prog.follows .mixedOrders = true := by kernel_rfl
  replace hn : Γ.n = 61 := hn
  refine AWp.seq ?_
  refine reg hP hn hm [(0, .k 0)] [0, 2, 4] [0] ⟨[(0, .im (.row (a0.map eplan_Item))), (2, iV .i64 a2), (4, .ptr 0 0 0)], [(0, some (.box 33 (aplan_Step a1)))], 0⟩ [] (by kernel_rfl) trivial ?_
  refine AWp.seq ?_
  refine reg hP hn hm [] [0, 2, 4, 7] [0] ⟨[(0, .im (.row (a0.map eplan_Item))), (2, iV .i64 a2), (4, .ptr 0 0 0), (7, .none0)], [(0, some (.box 33 (aplan_Step a1)))], 0⟩ [] (by kernel_rfl) trivial ?_
  refine AWp.seq ?_
  refine reg hP hn hm [] [0, 2, 4, 7, 8] [0] ⟨[(0, .im (.row (a0.map eplan_Item))), (2, iV .i64 a2), (4, .ptr 0 0 0), (7, .none0), (8, iV .i64 (-1))], [(0, some (.box 33 (aplan_Step a1)))], 0⟩ [] (by kernel_rfl) trivial ?_
  refine AWp.seq ?_
  refine AWp.seq ?_
  refine reg hP hn hm [(1, .any (iV .i64 (a0.length : Int)))] [2, 4, 7, 8, 12, 13, 14] [0] ⟨[(2, iV .i64 a2), (4, .ptr 0 0 0), (7, .none0), (8, iV .i64 (-1)), (12, .im (.row (a0.map eplan_Item))), (13, iV .i64 (a0.length : Int)), (14, iV .i64 0)], [(0, some (.box 33 (aplan_Step a1)))], 0⟩ [((a0.map eplan_Item).length : Int) = (a0.length : Int)] (by kernel_rfl) ⟨by rw [len_map], trivial⟩ ?_
  refine AWp.block ?_
  obtain ⟨o4460, e4461, H⟩ := bind_of H
  refine AWp.loop (LWp.conv (inv := [(0, 6)]) (vk := []) (e0 := [7]) (t := ⟨[(2, iV .i64 a2), (4, .ptr 6 0 0), (7, .own 7), (8, iV .i64 (-1)), (12, .im (.row (a0.map eplan_Item))), (13, iV .i64 (a0.length : Int)), (14, iV .i64 0)], [(6, some (.box 33 (aplan_Step a1))), (7, some (.row 4 89 ([].map eplan_Item)))], 0⟩) (by kernel_rfl) ?_)
  refine LWp.mono (Q := fun e s => (match (generalizing := false) o4460 with | (x4451, x4452) => e = .exit 0 ∧ s = ⟨[(2, iV .i64 a2), (4, .ptr 17 0 0), (7, .own 18), (8, iV .i64 x4452)], [(17, some (.box 33 (aplan_Step a1))), (18, some (.row 4 89 (x4451.map eplan_Item)))], 0⟩)) (LWp.cv (withBody (fun body hbody => ?_))) ?_
  · refine f_plan_Do.l0.partial_correctness a0 a1 a2 (motive := fun x4423 x4424 x4425 o4460 => LWp Γ body (fun e s => ∃ t, Cv Γ s t ∧ (match (generalizing := false) o4460 with | (x4451, x4452) => e = .exit 0 ∧ t = ⟨[(2, iV .i64 a2), (4, .ptr 17 0 0), (7, .own 18), (8, iV .i64 x4452)], [(17, some (.box 33 (aplan_Step a1))), (18, some (.row 4 89 (x4451.map eplan_Item)))], 0⟩)) ⟨[(2, iV .i64 a2), (4, .ptr 6 0 0), (7, .own 7), (8, iV .i64 x4424), (12, .im (.row (a0.map eplan_Item))), (13, iV .i64 (a0.length : Int)), (14, iV .i64 x4425)], [(6, some (.box 33 (aplan_Step a1))), (7, some (.row 4 89 (x4423.map eplan_Item)))], 0⟩) ?_ _ _ _ _ e4461
    clear H e4461 o4460; intro self ih x4423 x4424 x4425 o4460 H
    subst hbody
    refine LWp.round ?_
    refine AWp.seq ?_
    refine reg hP hn hm [] [2, 4, 7, 8, 12, 13, 14, 15] [6, 7] ⟨[(2, iV .i64 a2), (4, .ptr 6 0 0), (7, .own 7), (8, iV .i64 x4424), (12, .im (.row (a0.map eplan_Item))), (13, iV .i64 (a0.length : Int)), (14, iV .i64 x4425), (15, bV (decide (x4425 < (a0.length : Int))))], [(6, some (.box 33 (aplan_Step a1))), (7, some (.row 4 89 (x4423.map eplan_Item)))], 0⟩ [] (by kernel_rfl) trivial ?_
    refine AWp.seq ?_
    refine AWp.cond (decide (x4425 < (a0.length : Int))) rfl (fun c4426 => ?_) (fun c4426 => ?_)
    · replace H := (ifT c4426).symm.trans H
      refine AWp.skip ?_
      refine AWp.seq ?_
      obtain ⟨o4462, e4463, H⟩ := bind_of H
      refine AWp.mono (Q := fun e s => (match (generalizing := false) o4462 with | (x4449, x4450) => e = .normal ∧ s = ⟨[(2, iV .i64 a2), (4, .ptr 15 0 0), (7, .own 16), (8, iV .i64 x4450), (12, .im (.row (a0.map eplan_Item))), (13, iV .i64 (a0.length : Int)), (14, iV .i64 x4425)], [(15, some (.box 33 (aplan_Step a1))), (16, some (.row 4 89 (x4449.map eplan_Item)))], 0⟩)) (AWp.cv ?_) ?_
      · replace H := e4463; clear e4463
        refine AWp.block ?_
        refine AWp.seq ?_
        obtain ⟨b4430, p4431, q4432, H⟩ := at_of H
        refine reg hP hn hm [(0, .c (eplan_Item b4430)), (2, .k 8)] [2, 4, 7, 8, 10, 12, 13, 14] [6, 7, 8] ⟨[(2, iV .i64 a2), (4, .ptr 6 0 0), (7, .own 7), (8, iV .i64 x4424), (10, .ptr 8 0 0), (12, .im (.row (a0.map eplan_Item))), (13, iV .i64 (a0.length : Int)), (14, iV .i64 x4425)], [(6, some (.box 33 (aplan_Step a1))), (7, some (.row 4 89 (x4423.map eplan_Item))), (8, some (.box 89 [iV .i64 b4430.f0, iV .i64 b4430.f1.f0, iV .i64 b4430.f1.f1, iV .i64 b4430.f1.f2]))], 0⟩ [0 ≤ x4425, (a0.map eplan_Item)[(Int.toNat (x4425))]? = some (eplan_Item b4430)] (by kernel_rfl) ⟨by exact p4431, by exact el_map eplan_Item q4432, trivial⟩ ?_
        refine AWp.seq ?_
        refine AWp.seq ?_
        obtain ⟨t4435, e4436, H⟩ := bind_of H
        refine reg hP hn hm [(4, .call [] [] [] [] 0 (bV t4435) [])] [2, 4, 7, 8, 10, 12, 13, 14, 23] [6, 7, 8] ⟨[(2, iV .i64 a2), (4, .ptr 6 0 0), (7, .own 7), (8, iV .i64 x4424), (10, .ptr 8 0 0), (12, .im (.row (a0.map eplan_Item))), (13, iV .i64 (a0.length : Int)), (14, iV .i64 x4425), (23, bV (!t4435))], [(6, some (.box 33 (aplan_Step a1))), (7, some (.row 4 89 (x4423.map eplan_Item))), (8, some (.box 89 [iV .i64 b4430.f0, iV .i64 b4430.f1.f0, iV .i64 b4430.f1.f1, iV .i64 b4430.f1.f2]))], 0⟩ [Enters Try.prog 38, Pv.Fn Try.prog 38 [.im (.row (a1.f0.map (encInt .i64))), iV .i64 b4430.f0] [] 0 (fun r o => r = bV t4435 ∧ o = [])] (by kernel_rfl) ⟨by exact Try.call38, by exact f_slices_Contains_int.ok a1.f0 b4430.f0 t4435 e4436, trivial⟩ ?_
        refine AWp.cond (!t4435) rfl (fun c4437 => ?_) (fun c4437 => ?_)
        · replace H := (ifT c4437).symm.trans H
          refine AWp.seq ?_
          obtain ⟨c4439, H⟩ := chk_of H
          refine reg hP hn hm [(2, .app 9 ([b4430].map eplan_Item)), (3, .app 10 ((x4423 ++ [b4430]).map eplan_Item))] [2, 4, 7, 8, 12, 13, 14] [6, 10] ⟨[(2, iV .i64 a2), (4, .ptr 6 0 0), (7, .own 10), (8, iV .i64 x4424), (12, .im (.row (a0.map eplan_Item))), (13, iV .i64 (a0.length : Int)), (14, iV .i64 x4425)], [(6, some (.box 33 (aplan_Step a1))), (10, some (.row 4 89 ((x4423 ++ [b4430]).map eplan_Item)))], 0⟩ [[b4430].map eplan_Item = [[iI .i64 b4430.f0, iI .i64 b4430.f1.f0, iI .i64 b4430.f1.f1, iI .i64 b4430.f1.f2]], (x4423 ++ [b4430]).map eplan_Item = (x4423.map eplan_Item) ++ ([b4430].map eplan_Item), ∀ c ∈ ([b4430].map eplan_Item), c.length = 4, ∀ c ∈ ([b4430].map eplan_Item), leaves (c.map .im) = true, ((x4423.map eplan_Item).length + ([b4430].map eplan_Item).length) * 32 ≤ 140737488355328] (by kernel_rfl) ⟨by exact rfl, by simp, by exact all_len _ _ _ (fun _ => rfl), by exact all_leaf _ _ (fun _ => rfl), by simpa using c4439, trivial⟩ ?_
          refine AWp.exit ?_
          obtain rfl := Option.some.inj H
          exact Exists.intro _ (And.intro (fun _ _ h => h.conv (inv := [(6, 15), (10, 16)]) (vk := []) (e0 := []) (t := ⟨[(2, iV .i64 a2), (4, .ptr 15 0 0), (7, .own 16), (8, iV .i64 x4424), (12, .im (.row (a0.map eplan_Item))), (13, iV .i64 (a0.length : Int)), (14, iV .i64 x4425)], [(15, some (.box 33 (aplan_Step a1))), (16, some (.row 4 89 ((x4423 ++ [b4430]).map eplan_Item)))], 0⟩) (by kernel_rfl)) (And.intro rfl rfl))
        · replace H := (ifF c4437).symm.trans H
          refine AWp.skip ?_
          refine AWp.seq ?_
          obtain ⟨t4442, e4443, H⟩ := bind_of H
          refine reg hP hn hm [(5, .more xMax), (6, .call [] [] [] [] 0 (iV .i64 (IntKind.i64.wrap ((if (0 : Int) > b4430.f1.f0 then (0 : Int) else b4430.f1.f0) - (Int.tmod (if (0 : Int) > b4430.f1.f0 then (0 : Int) else b4430.f1.f0) (IntKind.i64.wrap ((64 : Int) * 2 ^ (min (Int.toNat (IntKind.u64.wrap ((2 : Int) * (IntKind.u64.wrap ((if (if (4 : Int) < a1.f1 then (4 : Int) else a1.f1) > (0 : Int) then (if (4 : Int) < a1.f1 then (4 : Int) else a1.f1) else (0 : Int))))))) 64))))))) [])] [2, 4, 7, 8, 11, 12, 13, 14] [6, 7] ⟨[(2, iV .i64 a2), (4, .ptr 6 0 0), (7, .own 7), (8, iV .i64 x4424), (11, iV .i64 (IntKind.i64.wrap ((if (0 : Int) > b4430.f1.f0 then (0 : Int) else b4430.f1.f0) - (Int.tmod (if (0 : Int) > b4430.f1.f0 then (0 : Int) else b4430.f1.f0) (IntKind.i64.wrap ((64 : Int) * 2 ^ (min (Int.toNat (IntKind.u64.wrap ((2 : Int) * (IntKind.u64.wrap ((if (if (4 : Int) < a1.f1 then (4 : Int) else a1.f1) > (0 : Int) then (if (4 : Int) < a1.f1 then (4 : Int) else a1.f1) else (0 : Int))))))) 64))))))), (12, .im (.row (a0.map eplan_Item))), (13, iV .i64 (a0.length : Int)), (14, iV .i64 x4425)], [(6, some (.box 33 (aplan_Step a1))), (7, some (.row 4 89 (x4423.map eplan_Item)))], 0⟩ [Enters Try.prog 36, Pv.Fn Try.prog 36 [iV .i64 a1.f1, iV .i64 (if (0 : Int) > b4430.f1.f0 then (0 : Int) else b4430.f1.f0)] [] 0 (fun r o => r = iV .i64 (IntKind.i64.wrap ((if (0 : Int) > b4430.f1.f0 then (0 : Int) else b4430.f1.f0) - (Int.tmod (if (0 : Int) > b4430.f1.f0 then (0 : Int) else b4430.f1.f0) (IntKind.i64.wrap ((64 : Int) * 2 ^ (min (Int.toNat (IntKind.u64.wrap ((2 : Int) * (IntKind.u64.wrap ((if (if (4 : Int) < a1.f1 then (4 : Int) else a1.f1) > (0 : Int) then (if (4 : Int) < a1.f1 then (4 : Int) else a1.f1) else (0 : Int))))))) 64)))))) ∧ o = [])] (by kernel_rfl) ⟨by exact Try.call36, by exact f_block_Low.ok a1.f1 (if (0 : Int) > b4430.f1.f0 then (0 : Int) else b4430.f1.f0) t4442 e4443, trivial⟩ ?_
          refine AWp.seq ?_
          obtain ⟨o4464, e4465, H⟩ := bind_of H
          refine AWp.mono (Q := fun e s => (match (generalizing := false) o4464 with | x4446 => e = .normal ∧ s = ⟨[(2, iV .i64 a2), (4, .ptr 11 0 0), (7, .own 12), (8, iV .i64 x4424), (11, iV .i64 (IntKind.i64.wrap ((if (0 : Int) > b4430.f1.f0 then (0 : Int) else b4430.f1.f0) - (Int.tmod (if (0 : Int) > b4430.f1.f0 then (0 : Int) else b4430.f1.f0) (IntKind.i64.wrap ((64 : Int) * 2 ^ (min (Int.toNat (IntKind.u64.wrap ((2 : Int) * (IntKind.u64.wrap ((if (if (4 : Int) < a1.f1 then (4 : Int) else a1.f1) > (0 : Int) then (if (4 : Int) < a1.f1 then (4 : Int) else a1.f1) else (0 : Int))))))) 64))))))), (12, .im (.row (a0.map eplan_Item))), (13, iV .i64 (a0.length : Int)), (14, iV .i64 x4425), (41, bV x4446)], [(11, some (.box 33 (aplan_Step a1))), (12, some (.row 4 89 (x4423.map eplan_Item)))], 0⟩)) (AWp.cv ?_) ?_
          · replace H := e4465; clear e4465
            rcases Bool.eq_false_or_eq_true (decide (x4424 < (0 : Int))) with c4445 | c4445
            · replace H := (ifT c4445).symm.trans H
              refine reg hP hn hm [(2, .b true)] [2, 4, 7, 8, 11, 12, 13, 14, 41] [6, 7] ⟨[(2, iV .i64 a2), (4, .ptr 6 0 0), (7, .own 7), (8, iV .i64 x4424), (11, iV .i64 (IntKind.i64.wrap ((if (0 : Int) > b4430.f1.f0 then (0 : Int) else b4430.f1.f0) - (Int.tmod (if (0 : Int) > b4430.f1.f0 then (0 : Int) else b4430.f1.f0) (IntKind.i64.wrap ((64 : Int) * 2 ^ (min (Int.toNat (IntKind.u64.wrap ((2 : Int) * (IntKind.u64.wrap ((if (if (4 : Int) < a1.f1 then (4 : Int) else a1.f1) > (0 : Int) then (if (4 : Int) < a1.f1 then (4 : Int) else a1.f1) else (0 : Int))))))) 64))))))), (12, .im (.row (a0.map eplan_Item))), (13, iV .i64 (a0.length : Int)), (14, iV .i64 x4425), (41, bV true)], [(6, some (.box 33 (aplan_Step a1))), (7, some (.row 4 89 (x4423.map eplan_Item)))], 0⟩ [(decide (x4424 < (0 : Int))) = true] (by kernel_rfl) ⟨by exact c4445, trivial⟩ ?_
              obtain rfl := Option.some.inj H
              exact Exists.intro _ (And.intro (fun _ _ h => h.conv (inv := [(6, 11), (7, 12)]) (vk := []) (e0 := []) (t := ⟨[(2, iV .i64 a2), (4, .ptr 11 0 0), (7, .own 12), (8, iV .i64 x4424), (11, iV .i64 (IntKind.i64.wrap ((if (0 : Int) > b4430.f1.f0 then (0 : Int) else b4430.f1.f0) - (Int.tmod (if (0 : Int) > b4430.f1.f0 then (0 : Int) else b4430.f1.f0) (IntKind.i64.wrap ((64 : Int) * 2 ^ (min (Int.toNat (IntKind.u64.wrap ((2 : Int) * (IntKind.u64.wrap ((if (if (4 : Int) < a1.f1 then (4 : Int) else a1.f1) > (0 : Int) then (if (4 : Int) < a1.f1 then (4 : Int) else a1.f1) else (0 : Int))))))) 64))))))), (12, .im (.row (a0.map eplan_Item))), (13, iV .i64 (a0.length : Int)), (14, iV .i64 x4425), (41, bV true)], [(11, some (.box 33 (aplan_Step a1))), (12, some (.row 4 89 (x4423.map eplan_Item)))], 0⟩) (by kernel_rfl)) (And.intro rfl rfl))
            · replace H := (ifF c4445).symm.trans H
              refine reg hP hn hm [(2, .b false)] [2, 4, 7, 8, 11, 12, 13, 14, 38, 39, 40, 41] [6, 7] ⟨[(2, iV .i64 a2), (4, .ptr 6 0 0), (7, .own 7), (8, iV .i64 x4424), (11, iV .i64 (IntKind.i64.wrap ((if (0 : Int) > b4430.f1.f0 then (0 : Int) else b4430.f1.f0) - (Int.tmod (if (0 : Int) > b4430.f1.f0 then (0 : Int) else b4430.f1.f0) (IntKind.i64.wrap ((64 : Int) * 2 ^ (min (Int.toNat (IntKind.u64.wrap ((2 : Int) * (IntKind.u64.wrap ((if (if (4 : Int) < a1.f1 then (4 : Int) else a1.f1) > (0 : Int) then (if (4 : Int) < a1.f1 then (4 : Int) else a1.f1) else (0 : Int))))))) 64))))))), (12, .im (.row (a0.map eplan_Item))), (13, iV .i64 (a0.length : Int)), (14, iV .i64 x4425), (38, iV .i64 (IntKind.i64.wrap ((if (0 : Int) > b4430.f1.f0 then (0 : Int) else b4430.f1.f0) - (Int.tmod (if (0 : Int) > b4430.f1.f0 then (0 : Int) else b4430.f1.f0) (IntKind.i64.wrap ((64 : Int) * 2 ^ (min (Int.toNat (IntKind.u64.wrap ((2 : Int) * (IntKind.u64.wrap ((if (if (4 : Int) < a1.f1 then (4 : Int) else a1.f1) > (0 : Int) then (if (4 : Int) < a1.f1 then (4 : Int) else a1.f1) else (0 : Int))))))) 64))))))), (39, iV .i64 x4424), (40, bV (decide ((IntKind.i64.wrap ((if (0 : Int) > b4430.f1.f0 then (0 : Int) else b4430.f1.f0) - (Int.tmod (if (0 : Int) > b4430.f1.f0 then (0 : Int) else b4430.f1.f0) (IntKind.i64.wrap ((64 : Int) * 2 ^ (min (Int.toNat (IntKind.u64.wrap ((2 : Int) * (IntKind.u64.wrap ((if (if (4 : Int) < a1.f1 then (4 : Int) else a1.f1) > (0 : Int) then (if (4 : Int) < a1.f1 then (4 : Int) else a1.f1) else (0 : Int))))))) 64)))))) < x4424))), (41, bV (decide ((IntKind.i64.wrap ((if (0 : Int) > b4430.f1.f0 then (0 : Int) else b4430.f1.f0) - (Int.tmod (if (0 : Int) > b4430.f1.f0 then (0 : Int) else b4430.f1.f0) (IntKind.i64.wrap ((64 : Int) * 2 ^ (min (Int.toNat (IntKind.u64.wrap ((2 : Int) * (IntKind.u64.wrap ((if (if (4 : Int) < a1.f1 then (4 : Int) else a1.f1) > (0 : Int) then (if (4 : Int) < a1.f1 then (4 : Int) else a1.f1) else (0 : Int))))))) 64)))))) < x4424)))], [(6, some (.box 33 (aplan_Step a1))), (7, some (.row 4 89 (x4423.map eplan_Item)))], 0⟩ [(decide (x4424 < (0 : Int))) = false] (by kernel_rfl) ⟨by exact c4445, trivial⟩ ?_
              obtain rfl := Option.some.inj H
              exact Exists.intro _ (And.intro (fun _ _ h => h.conv (inv := [(6, 11), (7, 12)]) (vk := []) (e0 := []) (t := ⟨[(2, iV .i64 a2), (4, .ptr 11 0 0), (7, .own 12), (8, iV .i64 x4424), (11, iV .i64 (IntKind.i64.wrap ((if (0 : Int) > b4430.f1.f0 then (0 : Int) else b4430.f1.f0) - (Int.tmod (if (0 : Int) > b4430.f1.f0 then (0 : Int) else b4430.f1.f0) (IntKind.i64.wrap ((64 : Int) * 2 ^ (min (Int.toNat (IntKind.u64.wrap ((2 : Int) * (IntKind.u64.wrap ((if (if (4 : Int) < a1.f1 then (4 : Int) else a1.f1) > (0 : Int) then (if (4 : Int) < a1.f1 then (4 : Int) else a1.f1) else (0 : Int))))))) 64))))))), (12, .im (.row (a0.map eplan_Item))), (13, iV .i64 (a0.length : Int)), (14, iV .i64 x4425), (41, bV (decide ((IntKind.i64.wrap ((if (0 : Int) > b4430.f1.f0 then (0 : Int) else b4430.f1.f0) - (Int.tmod (if (0 : Int) > b4430.f1.f0 then (0 : Int) else b4430.f1.f0) (IntKind.i64.wrap ((64 : Int) * 2 ^ (min (Int.toNat (IntKind.u64.wrap ((2 : Int) * (IntKind.u64.wrap ((if (if (4 : Int) < a1.f1 then (4 : Int) else a1.f1) > (0 : Int) then (if (4 : Int) < a1.f1 then (4 : Int) else a1.f1) else (0 : Int))))))) 64)))))) < x4424)))], [(11, some (.box 33 (aplan_Step a1))), (12, some (.row 4 89 (x4423.map eplan_Item)))], 0⟩) (by kernel_rfl)) (And.intro rfl rfl))
          · obtain ⟨x4446, rfl⟩ : ∃ z, z = o4464 := ⟨_, rfl⟩
            rintro e s ⟨rfl, rfl⟩
            obtain ⟨o4466, e4467, H⟩ := bind_of H
            refine AWp.mono (Q := fun e s => (match (generalizing := false) o4466 with | x4448 => e = .normal ∧ s = ⟨[(2, iV .i64 a2), (4, .ptr 13 0 0), (7, .own 14), (8, iV .i64 x4448), (12, .im (.row (a0.map eplan_Item))), (13, iV .i64 (a0.length : Int)), (14, iV .i64 x4425)], [(13, some (.box 33 (aplan_Step a1))), (14, some (.row 4 89 (x4423.map eplan_Item)))], 0⟩)) (AWp.cv ?_) ?_
            · replace H := e4467; clear e4467
              refine AWp.cond x4446 rfl (fun c4447 => ?_) (fun c4447 => ?_)
              · replace H := (ifT c4447).symm.trans H
                refine reg hP hn hm [] [2, 4, 7, 8, 12, 13, 14] [11, 12] ⟨[(2, iV .i64 a2), (4, .ptr 11 0 0), (7, .own 12), (8, iV .i64 (IntKind.i64.wrap ((if (0 : Int) > b4430.f1.f0 then (0 : Int) else b4430.f1.f0) - (Int.tmod (if (0 : Int) > b4430.f1.f0 then (0 : Int) else b4430.f1.f0) (IntKind.i64.wrap ((64 : Int) * 2 ^ (min (Int.toNat (IntKind.u64.wrap ((2 : Int) * (IntKind.u64.wrap ((if (if (4 : Int) < a1.f1 then (4 : Int) else a1.f1) > (0 : Int) then (if (4 : Int) < a1.f1 then (4 : Int) else a1.f1) else (0 : Int))))))) 64))))))), (12, .im (.row (a0.map eplan_Item))), (13, iV .i64 (a0.length : Int)), (14, iV .i64 x4425)], [(11, some (.box 33 (aplan_Step a1))), (12, some (.row 4 89 (x4423.map eplan_Item)))], 0⟩ [] (by kernel_rfl) trivial ?_
                obtain rfl := Option.some.inj H
                exact Exists.intro _ (And.intro (fun _ _ h => h.conv (inv := [(11, 13), (12, 14)]) (vk := []) (e0 := []) (t := ⟨[(2, iV .i64 a2), (4, .ptr 13 0 0), (7, .own 14), (8, iV .i64 (IntKind.i64.wrap ((if (0 : Int) > b4430.f1.f0 then (0 : Int) else b4430.f1.f0) - (Int.tmod (if (0 : Int) > b4430.f1.f0 then (0 : Int) else b4430.f1.f0) (IntKind.i64.wrap ((64 : Int) * 2 ^ (min (Int.toNat (IntKind.u64.wrap ((2 : Int) * (IntKind.u64.wrap ((if (if (4 : Int) < a1.f1 then (4 : Int) else a1.f1) > (0 : Int) then (if (4 : Int) < a1.f1 then (4 : Int) else a1.f1) else (0 : Int))))))) 64))))))), (12, .im (.row (a0.map eplan_Item))), (13, iV .i64 (a0.length : Int)), (14, iV .i64 x4425)], [(13, some (.box 33 (aplan_Step a1))), (14, some (.row 4 89 (x4423.map eplan_Item)))], 0⟩) (by kernel_rfl)) (And.intro rfl rfl))
              · replace H := (ifF c4447).symm.trans H
                refine AWp.skip ?_
                obtain rfl := Option.some.inj H
                exact Exists.intro _ (And.intro (fun _ _ h => h.conv (inv := [(11, 13), (12, 14)]) (vk := []) (e0 := []) (t := ⟨[(2, iV .i64 a2), (4, .ptr 13 0 0), (7, .own 14), (8, iV .i64 x4424), (12, .im (.row (a0.map eplan_Item))), (13, iV .i64 (a0.length : Int)), (14, iV .i64 x4425)], [(13, some (.box 33 (aplan_Step a1))), (14, some (.row 4 89 (x4423.map eplan_Item)))], 0⟩) (by kernel_rfl)) (And.intro rfl rfl))
            · obtain ⟨x4448, rfl⟩ : ∃ z, z = o4466 := ⟨_, rfl⟩
              rintro e s ⟨rfl, rfl⟩
              obtain rfl := Option.some.inj H
              exact Exists.intro _ (And.intro (fun _ _ h => h.conv (inv := [(13, 15), (14, 16)]) (vk := []) (e0 := []) (t := ⟨[(2, iV .i64 a2), (4, .ptr 15 0 0), (7, .own 16), (8, iV .i64 x4448), (12, .im (.row (a0.map eplan_Item))), (13, iV .i64 (a0.length : Int)), (14, iV .i64 x4425)], [(15, some (.box 33 (aplan_Step a1))), (16, some (.row 4 89 (x4423.map eplan_Item)))], 0⟩) (by kernel_rfl)) (And.intro rfl rfl))
      · obtain ⟨x4449, x4450⟩ := o4462
        rintro e s ⟨rfl, rfl⟩
        refine reg hP hn hm [] [2, 4, 7, 8, 12, 13, 14] [15, 16] ⟨[(2, iV .i64 a2), (4, .ptr 15 0 0), (7, .own 16), (8, iV .i64 x4450), (12, .im (.row (a0.map eplan_Item))), (13, iV .i64 (a0.length : Int)), (14, iV .i64 (IntKind.i64.wrap (x4425 + (1 : Int))))], [(15, some (.box 33 (aplan_Step a1))), (16, some (.row 4 89 (x4449.map eplan_Item)))], 0⟩ [] (by kernel_rfl) trivial ?_
        exact LWp.conv (inv := [(15, 6), (16, 7)]) (vk := []) (e0 := []) (t := ⟨[(2, iV .i64 a2), (4, .ptr 6 0 0), (7, .own 7), (8, iV .i64 x4450), (12, .im (.row (a0.map eplan_Item))), (13, iV .i64 (a0.length : Int)), (14, iV .i64 (IntKind.i64.wrap (x4425 + (1 : Int))))], [(6, some (.box 33 (aplan_Step a1))), (7, some (.row 4 89 (x4449.map eplan_Item)))], 0⟩) (by kernel_rfl) (ih _ _ _ _ H)
    · replace H := (ifF c4426).symm.trans H
      refine AWp.exit ?_
      obtain rfl := Option.some.inj H
      exact Exists.intro _ (And.intro (fun _ _ h => h.conv (inv := [(6, 17), (7, 18)]) (vk := []) (e0 := []) (t := ⟨[(2, iV .i64 a2), (4, .ptr 17 0 0), (7, .own 18), (8, iV .i64 x4424)], [(17, some (.box 33 (aplan_Step a1))), (18, some (.row 4 89 (x4423.map eplan_Item)))], 0⟩) (by kernel_rfl)) (And.intro rfl rfl))
  · obtain ⟨x4451, x4452⟩ := o4460
    rintro e s ⟨rfl, rfl⟩
    refine AWp.seq ?_
    refine AWp.seq ?_
    refine reg hP hn hm [] [2, 4, 7, 8, 45] [17, 18] ⟨[(2, iV .i64 a2), (4, .ptr 17 0 0), (7, .own 18), (8, iV .i64 x4452), (45, bV (decide (x4452 < (0 : Int))))], [(17, some (.box 33 (aplan_Step a1))), (18, some (.row 4 89 (x4451.map eplan_Item)))], 0⟩ [] (by kernel_rfl) trivial ?_
    refine AWp.cond (decide (x4452 < (0 : Int))) rfl (fun c4453 => ?_) (fun c4453 => ?_)
    · replace H := (ifT c4453).symm.trans H
      refine AWp.seq ?_
      refine reg hP hn hm [] [6] [18] ⟨[(6, .own 18)], [(18, some (.row 4 89 (x4451.map eplan_Item)))], 0⟩ [] (by kernel_rfl) trivial ?_
      refine AWp.conv (inv := [(18, 0)]) (vk := []) (e0 := []) (t := ⟨[(6, .own 0)], [(0, some (.row 4 89 (x4451.map eplan_Item)))], 0⟩) (by kernel_rfl) ?_
      refine AWp.ret ?_
      obtain rfl := Option.some.inj H
      exact Exists.intro _ (And.intro (fun _ _ h => h) (And.intro (.inl rfl) (And.intro rfl (And.intro (by kernel_rfl) (by kernel_rfl)))))
    · replace H := (ifF c4453).symm.trans H
      refine AWp.skip ?_
      refine AWp.seq ?_
      obtain ⟨t4457, e4458, H⟩ := bind_of H
      obtain ⟨c4459, H⟩ := chk_of H
      refine reg hP hn hm [(6, .call [] [] [] [] 0 (iV .i64 (IntKind.i64.wrap ((64 : Int) * 2 ^ (min (Int.toNat (IntKind.u64.wrap ((2 : Int) * (IntKind.u64.wrap ((if (if (4 : Int) < a1.f1 then (4 : Int) else a1.f1) > (0 : Int) then (if (4 : Int) < a1.f1 then (4 : Int) else a1.f1) else (0 : Int))))))) 64)))) []), (12, .app 19 ([(⟨a2, (⟨x4452, IntKind.i64.wrap (x4452 + (IntKind.i64.wrap ((64 : Int) * 2 ^ (min (Int.toNat (IntKind.u64.wrap ((2 : Int) * (IntKind.u64.wrap ((if (if (4 : Int) < a1.f1 then (4 : Int) else a1.f1) > (0 : Int) then (if (4 : Int) < a1.f1 then (4 : Int) else a1.f1) else (0 : Int))))))) 64)))), a1.f1⟩ : Tblock_Meta)⟩ : Tplan_Item)].map eplan_Item)), (13, .app 20 ((x4451 ++ [(⟨a2, (⟨x4452, IntKind.i64.wrap (x4452 + (IntKind.i64.wrap ((64 : Int) * 2 ^ (min (Int.toNat (IntKind.u64.wrap ((2 : Int) * (IntKind.u64.wrap ((if (if (4 : Int) < a1.f1 then (4 : Int) else a1.f1) > (0 : Int) then (if (4 : Int) < a1.f1 then (4 : Int) else a1.f1) else (0 : Int))))))) 64)))), a1.f1⟩ : Tblock_Meta)⟩ : Tplan_Item)]).map eplan_Item))] [6] [20] ⟨[(6, .own 20)], [(20, some (.row 4 89 ((x4451 ++ [(⟨a2, (⟨x4452, IntKind.i64.wrap (x4452 + (IntKind.i64.wrap ((64 : Int) * 2 ^ (min (Int.toNat (IntKind.u64.wrap ((2 : Int) * (IntKind.u64.wrap ((if (if (4 : Int) < a1.f1 then (4 : Int) else a1.f1) > (0 : Int) then (if (4 : Int) < a1.f1 then (4 : Int) else a1.f1) else (0 : Int))))))) 64)))), a1.f1⟩ : Tblock_Meta)⟩ : Tplan_Item)]).map eplan_Item)))], 0⟩ [Enters Try.prog 37, Pv.Fn Try.prog 37 [iV .i64 a1.f1] [] 0 (fun r o => r = iV .i64 (IntKind.i64.wrap ((64 : Int) * 2 ^ (min (Int.toNat (IntKind.u64.wrap ((2 : Int) * (IntKind.u64.wrap ((if (if (4 : Int) < a1.f1 then (4 : Int) else a1.f1) > (0 : Int) then (if (4 : Int) < a1.f1 then (4 : Int) else a1.f1) else (0 : Int))))))) 64))) ∧ o = []), [(⟨a2, (⟨x4452, IntKind.i64.wrap (x4452 + (IntKind.i64.wrap ((64 : Int) * 2 ^ (min (Int.toNat (IntKind.u64.wrap ((2 : Int) * (IntKind.u64.wrap ((if (if (4 : Int) < a1.f1 then (4 : Int) else a1.f1) > (0 : Int) then (if (4 : Int) < a1.f1 then (4 : Int) else a1.f1) else (0 : Int))))))) 64)))), a1.f1⟩ : Tblock_Meta)⟩ : Tplan_Item)].map eplan_Item = [[iI .i64 a2, iI .i64 x4452, iI .i64 (IntKind.i64.wrap (x4452 + (IntKind.i64.wrap ((64 : Int) * 2 ^ (min (Int.toNat (IntKind.u64.wrap ((2 : Int) * (IntKind.u64.wrap ((if (if (4 : Int) < a1.f1 then (4 : Int) else a1.f1) > (0 : Int) then (if (4 : Int) < a1.f1 then (4 : Int) else a1.f1) else (0 : Int))))))) 64))))), iI .i64 a1.f1]], (x4451 ++ [(⟨a2, (⟨x4452, IntKind.i64.wrap (x4452 + (IntKind.i64.wrap ((64 : Int) * 2 ^ (min (Int.toNat (IntKind.u64.wrap ((2 : Int) * (IntKind.u64.wrap ((if (if (4 : Int) < a1.f1 then (4 : Int) else a1.f1) > (0 : Int) then (if (4 : Int) < a1.f1 then (4 : Int) else a1.f1) else (0 : Int))))))) 64)))), a1.f1⟩ : Tblock_Meta)⟩ : Tplan_Item)]).map eplan_Item = (x4451.map eplan_Item) ++ ([(⟨a2, (⟨x4452, IntKind.i64.wrap (x4452 + (IntKind.i64.wrap ((64 : Int) * 2 ^ (min (Int.toNat (IntKind.u64.wrap ((2 : Int) * (IntKind.u64.wrap ((if (if (4 : Int) < a1.f1 then (4 : Int) else a1.f1) > (0 : Int) then (if (4 : Int) < a1.f1 then (4 : Int) else a1.f1) else (0 : Int))))))) 64)))), a1.f1⟩ : Tblock_Meta)⟩ : Tplan_Item)].map eplan_Item), ∀ c ∈ ([(⟨a2, (⟨x4452, IntKind.i64.wrap (x4452 + (IntKind.i64.wrap ((64 : Int) * 2 ^ (min (Int.toNat (IntKind.u64.wrap ((2 : Int) * (IntKind.u64.wrap ((if (if (4 : Int) < a1.f1 then (4 : Int) else a1.f1) > (0 : Int) then (if (4 : Int) < a1.f1 then (4 : Int) else a1.f1) else (0 : Int))))))) 64)))), a1.f1⟩ : Tblock_Meta)⟩ : Tplan_Item)].map eplan_Item), c.length = 4, ∀ c ∈ ([(⟨a2, (⟨x4452, IntKind.i64.wrap (x4452 + (IntKind.i64.wrap ((64 : Int) * 2 ^ (min (Int.toNat (IntKind.u64.wrap ((2 : Int) * (IntKind.u64.wrap ((if (if (4 : Int) < a1.f1 then (4 : Int) else a1.f1) > (0 : Int) then (if (4 : Int) < a1.f1 then (4 : Int) else a1.f1) else (0 : Int))))))) 64)))), a1.f1⟩ : Tblock_Meta)⟩ : Tplan_Item)].map eplan_Item), leaves (c.map .im) = true, ((x4451.map eplan_Item).length + ([(⟨a2, (⟨x4452, IntKind.i64.wrap (x4452 + (IntKind.i64.wrap ((64 : Int) * 2 ^ (min (Int.toNat (IntKind.u64.wrap ((2 : Int) * (IntKind.u64.wrap ((if (if (4 : Int) < a1.f1 then (4 : Int) else a1.f1) > (0 : Int) then (if (4 : Int) < a1.f1 then (4 : Int) else a1.f1) else (0 : Int))))))) 64)))), a1.f1⟩ : Tblock_Meta)⟩ : Tplan_Item)].map eplan_Item).length) * 32 ≤ 140737488355328] (by kernel_rfl) ⟨by exact Try.call37, by exact f_block_Width.ok a1.f1 t4457 e4458, by exact rfl, by simp, by exact all_len _ _ _ (fun _ => rfl), by exact all_leaf _ _ (fun _ => rfl), by simpa using c4459, trivial⟩ ?_
      refine AWp.conv (inv := [(20, 0)]) (vk := []) (e0 := []) (t := ⟨[(6, .own 0)], [(0, some (.row 4 89 ((x4451 ++ [(⟨a2, (⟨x4452, IntKind.i64.wrap (x4452 + (IntKind.i64.wrap ((64 : Int) * 2 ^ (min (Int.toNat (IntKind.u64.wrap ((2 : Int) * (IntKind.u64.wrap ((if (if (4 : Int) < a1.f1 then (4 : Int) else a1.f1) > (0 : Int) then (if (4 : Int) < a1.f1 then (4 : Int) else a1.f1) else (0 : Int))))))) 64)))), a1.f1⟩ : Tblock_Meta)⟩ : Tplan_Item)]).map eplan_Item)))], 0⟩) (by kernel_rfl) ?_
      refine AWp.ret ?_
      obtain rfl := Option.some.inj H
      exact Exists.intro _ (And.intro (fun _ _ h => h) (And.intro (.inl rfl) (And.intro rfl (And.intro (by kernel_rfl) (by kernel_rfl)))))
def f_pluviallaw17_From.l0 (a0 : List Tplan_Item) (x4479 : List Tpluvialref17_Item) (x4480 : Int) : Option (List Tpluvialref17_Item) := if (decide (x4480 < (a0.length : Int))) = true then ((at? a0 x4480) >>= fun b4485 => (chk ((x4479.length + [(⟨b4485.f0, b4485.f1.f2, b4485.f1.f0, b4485.f1.f1⟩ : Tpluvialref17_Item)].length) * 32 ≤ 140737488355328)) >>= fun _ => f_pluviallaw17_From.l0 a0 (x4479 ++ [(⟨b4485.f0, b4485.f1.f2, b4485.f1.f0, b4485.f1.f1⟩ : Tpluvialref17_Item)]) (IntKind.i64.wrap (x4480 + (1 : Int)))) else (some x4479)
partial_fixpoint
def f_pluviallaw17_From.f (a0 : List Tplan_Item) : Option (List Tpluvialref17_Item) := (f_pluviallaw17_From.l0 a0 [] 0) >>= fun x4490 => some x4490
theorem f_pluviallaw17_From.ok (a0 : List Tplan_Item) (r : List Tpluvialref17_Item) (H : f_pluviallaw17_From.f a0 = some r) : Pv.Fn Try.prog 24 [.im (.row (a0.map eplan_Item))] [] 0 (fun x o => x = .own 0 ∧ o = [(0, some (.row 4 31 (r.map epluvialref17_Item)))]) := by
  unfold f_pluviallaw17_From.f at H
  refine Fn.bodyK [0] Try.func24 rfl rfl (fun Γ hP hn => ?_)
  have hm : Try.prog.follows .mixedOrders = true := by kernel_rfl
  replace hn : Γ.n = 29 := hn
  refine AWp.seq ?_
  refine reg hP hn hm [] [0] [] ⟨[(0, .im (.row (a0.map eplan_Item)))], [], 0⟩ [] (by kernel_rfl) trivial ?_
  refine AWp.seq ?_
  refine reg hP hn hm [] [0, 3] [] ⟨[(0, .im (.row (a0.map eplan_Item))), (3, .none0)], [], 0⟩ [] (by kernel_rfl) trivial ?_
  refine AWp.seq ?_
  refine AWp.seq ?_
  refine reg hP hn hm [(1, .any (iV .i64 (a0.length : Int)))] [3, 6, 7, 8] [] ⟨[(3, .none0), (6, .im (.row (a0.map eplan_Item))), (7, iV .i64 (a0.length : Int)), (8, iV .i64 0)], [], 0⟩ [((a0.map eplan_Item).length : Int) = (a0.length : Int)] (by kernel_rfl) ⟨by rw [len_map], trivial⟩ ?_
  refine AWp.block ?_
  obtain ⟨o4491, e4492, H⟩ := bind_of H
  refine AWp.loop (LWp.conv (inv := []) (vk := []) (e0 := [3]) (t := ⟨[(3, .own 3), (6, .im (.row (a0.map eplan_Item))), (7, iV .i64 (a0.length : Int)), (8, iV .i64 0)], [(3, some (.row 4 31 ([].map epluvialref17_Item)))], 0⟩) (by kernel_rfl) ?_)
  refine LWp.mono (Q := fun e s => (match (generalizing := false) o4491 with | x4490 => e = .exit 0 ∧ s = ⟨[(3, .own 7)], [(7, some (.row 4 31 (x4490.map epluvialref17_Item)))], 0⟩)) (LWp.cv (withBody (fun body hbody => ?_))) ?_
  · refine f_pluviallaw17_From.l0.partial_correctness a0 (motive := fun x4479 x4480 o4491 => LWp Γ body (fun e s => ∃ t, Cv Γ s t ∧ (match (generalizing := false) o4491 with | x4490 => e = .exit 0 ∧ t = ⟨[(3, .own 7)], [(7, some (.row 4 31 (x4490.map epluvialref17_Item)))], 0⟩)) ⟨[(3, .own 3), (6, .im (.row (a0.map eplan_Item))), (7, iV .i64 (a0.length : Int)), (8, iV .i64 x4480)], [(3, some (.row 4 31 (x4479.map epluvialref17_Item)))], 0⟩) ?_ _ _ _ e4492
    clear H e4492 o4491; intro self ih x4479 x4480 o4491 H
    subst hbody
    refine LWp.round ?_
    refine AWp.seq ?_
    refine reg hP hn hm [] [3, 6, 7, 8, 9] [3] ⟨[(3, .own 3), (6, .im (.row (a0.map eplan_Item))), (7, iV .i64 (a0.length : Int)), (8, iV .i64 x4480), (9, bV (decide (x4480 < (a0.length : Int))))], [(3, some (.row 4 31 (x4479.map epluvialref17_Item)))], 0⟩ [] (by kernel_rfl) trivial ?_
    refine AWp.seq ?_
    refine AWp.cond (decide (x4480 < (a0.length : Int))) rfl (fun c4481 => ?_) (fun c4481 => ?_)
    · replace H := (ifT c4481).symm.trans H
      refine AWp.skip ?_
      refine AWp.seq ?_
      refine AWp.block ?_
      refine AWp.seq ?_
      obtain ⟨b4485, p4486, q4487, H⟩ := at_of H
      refine reg hP hn hm [(0, .c (eplan_Item b4485)), (2, .k 4)] [3, 5, 6, 7, 8] [3, 4] ⟨[(3, .own 3), (5, .ptr 4 0 0), (6, .im (.row (a0.map eplan_Item))), (7, iV .i64 (a0.length : Int)), (8, iV .i64 x4480)], [(3, some (.row 4 31 (x4479.map epluvialref17_Item))), (4, some (.box 89 [iV .i64 b4485.f0, iV .i64 b4485.f1.f0, iV .i64 b4485.f1.f1, iV .i64 b4485.f1.f2]))], 0⟩ [0 ≤ x4480, (a0.map eplan_Item)[(Int.toNat (x4480))]? = some (eplan_Item b4485)] (by kernel_rfl) ⟨by exact p4486, by exact el_map eplan_Item q4487, trivial⟩ ?_
      obtain ⟨c4489, H⟩ := chk_of H
      refine reg hP hn hm [(13, .app 5 ([(⟨b4485.f0, b4485.f1.f2, b4485.f1.f0, b4485.f1.f1⟩ : Tpluvialref17_Item)].map epluvialref17_Item)), (14, .app 6 ((x4479 ++ [(⟨b4485.f0, b4485.f1.f2, b4485.f1.f0, b4485.f1.f1⟩ : Tpluvialref17_Item)]).map epluvialref17_Item))] [3, 6, 7, 8] [6] ⟨[(3, .own 6), (6, .im (.row (a0.map eplan_Item))), (7, iV .i64 (a0.length : Int)), (8, iV .i64 x4480)], [(6, some (.row 4 31 ((x4479 ++ [(⟨b4485.f0, b4485.f1.f2, b4485.f1.f0, b4485.f1.f1⟩ : Tpluvialref17_Item)]).map epluvialref17_Item)))], 0⟩ [[(⟨b4485.f0, b4485.f1.f2, b4485.f1.f0, b4485.f1.f1⟩ : Tpluvialref17_Item)].map epluvialref17_Item = [[iI .i64 b4485.f0, iI .i64 b4485.f1.f2, iI .i64 b4485.f1.f0, iI .i64 b4485.f1.f1]], (x4479 ++ [(⟨b4485.f0, b4485.f1.f2, b4485.f1.f0, b4485.f1.f1⟩ : Tpluvialref17_Item)]).map epluvialref17_Item = (x4479.map epluvialref17_Item) ++ ([(⟨b4485.f0, b4485.f1.f2, b4485.f1.f0, b4485.f1.f1⟩ : Tpluvialref17_Item)].map epluvialref17_Item), ∀ c ∈ ([(⟨b4485.f0, b4485.f1.f2, b4485.f1.f0, b4485.f1.f1⟩ : Tpluvialref17_Item)].map epluvialref17_Item), c.length = 4, ∀ c ∈ ([(⟨b4485.f0, b4485.f1.f2, b4485.f1.f0, b4485.f1.f1⟩ : Tpluvialref17_Item)].map epluvialref17_Item), leaves (c.map .im) = true, ((x4479.map epluvialref17_Item).length + ([(⟨b4485.f0, b4485.f1.f2, b4485.f1.f0, b4485.f1.f1⟩ : Tpluvialref17_Item)].map epluvialref17_Item).length) * 32 ≤ 140737488355328] (by kernel_rfl) ⟨by exact rfl, by simp, by exact all_len _ _ _ (fun _ => rfl), by exact all_leaf _ _ (fun _ => rfl), by simpa using c4489, trivial⟩ ?_
      refine reg hP hn hm [] [3, 6, 7, 8] [6] ⟨[(3, .own 6), (6, .im (.row (a0.map eplan_Item))), (7, iV .i64 (a0.length : Int)), (8, iV .i64 (IntKind.i64.wrap (x4480 + (1 : Int))))], [(6, some (.row 4 31 ((x4479 ++ [(⟨b4485.f0, b4485.f1.f2, b4485.f1.f0, b4485.f1.f1⟩ : Tpluvialref17_Item)]).map epluvialref17_Item)))], 0⟩ [] (by kernel_rfl) trivial ?_
      exact LWp.conv (inv := [(6, 3)]) (vk := []) (e0 := []) (t := ⟨[(3, .own 3), (6, .im (.row (a0.map eplan_Item))), (7, iV .i64 (a0.length : Int)), (8, iV .i64 (IntKind.i64.wrap (x4480 + (1 : Int))))], [(3, some (.row 4 31 ((x4479 ++ [(⟨b4485.f0, b4485.f1.f2, b4485.f1.f0, b4485.f1.f1⟩ : Tpluvialref17_Item)]).map epluvialref17_Item)))], 0⟩) (by kernel_rfl) (ih _ _ _ H)
    · replace H := (ifF c4481).symm.trans H
      refine AWp.exit ?_
      obtain rfl := Option.some.inj H
      exact Exists.intro _ (And.intro (fun _ _ h => h.conv (inv := [(3, 7)]) (vk := []) (e0 := []) (t := ⟨[(3, .own 7)], [(7, some (.row 4 31 (x4479.map epluvialref17_Item)))], 0⟩) (by kernel_rfl)) (And.intro rfl rfl))
  · obtain ⟨x4490, rfl⟩ : ∃ z, z = o4491 := ⟨_, rfl⟩
    rintro e s ⟨rfl, rfl⟩
    refine AWp.seq ?_
    refine reg hP hn hm [] [2] [7] ⟨[(2, .own 7)], [(7, some (.row 4 31 (x4490.map epluvialref17_Item)))], 0⟩ [] (by kernel_rfl) trivial ?_
    refine AWp.conv (inv := [(7, 0)]) (vk := []) (e0 := []) (t := ⟨[(2, .own 0)], [(0, some (.row 4 31 (x4490.map epluvialref17_Item)))], 0⟩) (by kernel_rfl) ?_
    refine AWp.ret ?_
    obtain rfl := Option.some.inj H
    exact Exists.intro _ (And.intro (fun _ _ h => h) (And.intro (.inl rfl) (And.intro rfl (And.intro (by kernel_rfl) (by kernel_rfl)))))
def f_pluvialref17_Apart.l1 (a0 : List Tpluvialref17_Item) (x4821 : Int) (x4840 : Int) : Option (Bool ⊕ Unit) := if (decide (x4840 < x4821)) = true then ((((at? a0 x4821) >>= fun b4849 => (at? a0 x4840) >>= fun b4852 => if (decide (b4849.f2 < b4852.f3)) = true then (some (decide (b4852.f2 < b4849.f3))) else (some false)) : Option (Bool)) >>= fun x4856 => if x4856 = true then (some (.inl false)) else (f_pluvialref17_Apart.l1 a0 x4821 (IntKind.i64.wrap (x4840 + (1 : Int))))) else (some (.inr ()))
partial_fixpoint
def f_pluvialref17_Apart.l0 (a0 : List Tpluvialref17_Item) (x4821 : Int) : Option (Bool ⊕ Unit) := if (decide (x4821 < (a0.length : Int))) = true then ((f_pluvialref17_Apart.l1 a0 x4821 0) >>= fun oo => match oo with | .inl rr => (some (.inl rr)) | .inr _ => (f_pluvialref17_Apart.l0 a0 (IntKind.i64.wrap (x4821 + (1 : Int))))) else (some (.inr ()))
partial_fixpoint
def f_pluvialref17_Apart.f (a0 : List Tpluvialref17_Item) : Option (Bool) := (f_pluvialref17_Apart.l0 a0 0) >>= fun oo => match oo with | .inl rr => (some rr) | .inr _ => (some true)
theorem f_pluvialref17_Apart.ok (a0 : List Tpluvialref17_Item) (r : Bool) (H : f_pluvialref17_Apart.f a0 = some r) : Pv.Fn Try.prog 21 [.im (.row (a0.map epluvialref17_Item))] [] 0 (fun x o => x = bV r ∧ o = []) := by
  unfold f_pluvialref17_Apart.f at H
  refine Fn.bodyK [] Try.func21 rfl rfl (fun Γ hP hn => ?_)
  have hm : Try.prog.follows .mixedOrders = true := by kernel_rfl
  replace hn : Γ.n = 40 := hn
  refine AWp.seq ?_
  refine reg hP hn hm [] [0] [] ⟨[(0, .im (.row (a0.map epluvialref17_Item)))], [], 0⟩ [] (by kernel_rfl) trivial ?_
  refine AWp.seq ?_
  refine AWp.seq ?_
  refine reg hP hn hm [] [0, 3] [] ⟨[(0, .im (.row (a0.map epluvialref17_Item))), (3, iV .i64 0)], [], 0⟩ [] (by kernel_rfl) trivial ?_
  refine AWp.block ?_
  obtain ⟨o4858, e4859, H⟩ := bind_of H
  refine AWp.loop (LWp.conv (inv := []) (vk := []) (e0 := []) (t := ⟨[(0, .im (.row (a0.map epluvialref17_Item))), (3, iV .i64 0)], [], 0⟩) (by kernel_rfl) ?_)
  refine LWp.mono (Q := fun e s => (match (generalizing := false) o4858 with | .inl rr => e = .ret ∧ s.floor = 0 ∧ resOf Try.prog Try.f21 s = some (bV rr) ∧ ([] : List (Nat × Option MObj)) = [] | .inr _ => e = .exit 0 ∧ s = ⟨[], [], 0⟩)) (LWp.cv (withBody (fun body hbody => ?_))) ?_
  · refine f_pluvialref17_Apart.l0.partial_correctness a0 (motive := fun x4821 o4858 => LWp Γ body (fun e s => ∃ t, Cv Γ s t ∧ (match (generalizing := false) o4858 with | .inl rr => e = .ret ∧ t.floor = 0 ∧ resOf Try.prog Try.f21 t = some (bV rr) ∧ ([] : List (Nat × Option MObj)) = [] | .inr _ => e = .exit 0 ∧ t = ⟨[], [], 0⟩)) ⟨[(0, .im (.row (a0.map epluvialref17_Item))), (3, iV .i64 x4821)], [], 0⟩) ?_ _ _ e4859
    clear H e4859 o4858; intro self ih x4821 o4858 H
    subst hbody
    refine LWp.round ?_
    refine AWp.seq ?_
    refine AWp.seq ?_
    refine reg hP hn hm [(2, .any (iV .i64 (a0.length : Int)))] [0, 3, 8] [] ⟨[(0, .im (.row (a0.map epluvialref17_Item))), (3, iV .i64 x4821), (8, bV (decide (x4821 < (a0.length : Int))))], [], 0⟩ [((a0.map epluvialref17_Item).length : Int) = (a0.length : Int)] (by kernel_rfl) ⟨by rw [len_map], trivial⟩ ?_
    refine AWp.cond (decide (x4821 < (a0.length : Int))) rfl (fun c4822 => ?_) (fun c4822 => ?_)
    · replace H := (ifT c4822).symm.trans H
      refine AWp.skip ?_
      refine AWp.seq ?_
      refine AWp.block ?_
      refine AWp.seq ?_
      refine reg hP hn hm [] [0, 3, 4] [] ⟨[(0, .im (.row (a0.map epluvialref17_Item))), (3, iV .i64 x4821), (4, iV .i64 0)], [], 0⟩ [] (by kernel_rfl) trivial ?_
      refine AWp.block ?_
      obtain ⟨o4860, e4861, H⟩ := bind_of H
      refine AWp.loop (LWp.conv (inv := []) (vk := []) (e0 := []) (t := ⟨[(0, .im (.row (a0.map epluvialref17_Item))), (3, iV .i64 x4821), (4, iV .i64 0)], [], 0⟩) (by kernel_rfl) ?_)
      refine LWp.mono (Q := fun e s => (match (generalizing := false) o4860 with | .inl rr => e = .ret ∧ s.floor = 0 ∧ resOf Try.prog Try.f21 s = some (bV rr) ∧ ([] : List (Nat × Option MObj)) = [] | .inr _ => e = .exit 2 ∧ s = ⟨[(0, .im (.row (a0.map epluvialref17_Item))), (3, iV .i64 x4821)], [], 0⟩)) (LWp.cv (withBody (fun body hbody => ?_))) ?_
      · refine f_pluvialref17_Apart.l1.partial_correctness a0 x4821 (motive := fun x4840 o4860 => LWp Γ body (fun e s => ∃ t, Cv Γ s t ∧ (match (generalizing := false) o4860 with | .inl rr => e = .ret ∧ t.floor = 0 ∧ resOf Try.prog Try.f21 t = some (bV rr) ∧ ([] : List (Nat × Option MObj)) = [] | .inr _ => e = .exit 2 ∧ t = ⟨[(0, .im (.row (a0.map epluvialref17_Item))), (3, iV .i64 x4821)], [], 0⟩)) ⟨[(0, .im (.row (a0.map epluvialref17_Item))), (3, iV .i64 x4821), (4, iV .i64 x4840)], [], 0⟩) ?_ _ _ e4861
        clear H e4861 o4860; intro self ih x4840 o4860 H
        subst hbody
        refine LWp.round ?_
        refine AWp.seq ?_
        refine AWp.seq ?_
        refine reg hP hn hm [] [0, 3, 4, 13] [] ⟨[(0, .im (.row (a0.map epluvialref17_Item))), (3, iV .i64 x4821), (4, iV .i64 x4840), (13, bV (decide (x4840 < x4821)))], [], 0⟩ [] (by kernel_rfl) trivial ?_
        refine AWp.cond (decide (x4840 < x4821)) rfl (fun c4841 => ?_) (fun c4841 => ?_)
        · replace H := (ifT c4841).symm.trans H
          refine AWp.skip ?_
          refine AWp.seq ?_
          refine AWp.block ?_
          refine AWp.seq ?_
          obtain ⟨o4862, e4863, H⟩ := bind_of H
          refine AWp.mono (Q := fun e s => (match (generalizing := false) o4862 with | x4856 => e = .normal ∧ s = ⟨[(0, .im (.row (a0.map epluvialref17_Item))), (3, iV .i64 x4821), (4, iV .i64 x4840), (39, bV x4856)], [], 0⟩)) (AWp.cv ?_) ?_
          · replace H := e4863; clear e4863
            obtain ⟨b4849, p4850, q4851, H⟩ := at_of H
            obtain ⟨b4852, p4853, q4854, H⟩ := at_of H
            rcases Bool.eq_false_or_eq_true (decide (b4849.f2 < b4852.f3)) with c4855 | c4855
            · replace H := (ifT c4855).symm.trans H
              refine reg hP hn hm [(2, .c (epluvialref17_Item b4849)), (7, .c (epluvialref17_Item b4852)), (11, .b true), (14, .c (epluvialref17_Item b4852)), (19, .c (epluvialref17_Item b4849))] [0, 3, 4, 28, 29, 30, 31, 32, 33, 34, 35, 36, 37, 38, 39] [] ⟨[(0, .im (.row (a0.map epluvialref17_Item))), (3, iV .i64 x4821), (4, iV .i64 x4840), (28, .im (.row (a0.map epluvialref17_Item))), (29, iV .i64 x4840), (30, .ip [iI .i64 b4852.f0, iI .i64 b4852.f1, iI .i64 b4852.f2, iI .i64 b4852.f3]), (31, .ip [iI .i64 b4852.f2, iI .i64 b4852.f3]), (32, iV .i64 b4852.f2), (33, .im (.row (a0.map epluvialref17_Item))), (34, iV .i64 x4821), (35, .ip [iI .i64 b4849.f0, iI .i64 b4849.f1, iI .i64 b4849.f2, iI .i64 b4849.f3]), (36, .ip [iI .i64 b4849.f3]), (37, iV .i64 b4849.f3), (38, bV (decide (b4852.f2 < b4849.f3))), (39, bV (decide (b4852.f2 < b4849.f3)))], [], 0⟩ [0 ≤ x4821, (a0.map epluvialref17_Item)[(Int.toNat (x4821))]? = some (epluvialref17_Item b4849), 0 ≤ x4840, (a0.map epluvialref17_Item)[(Int.toNat (x4840))]? = some (epluvialref17_Item b4852), (decide (b4849.f2 < b4852.f3)) = true, 0 ≤ x4840, (a0.map epluvialref17_Item)[(Int.toNat (x4840))]? = some (epluvialref17_Item b4852), 0 ≤ x4821, (a0.map epluvialref17_Item)[(Int.toNat (x4821))]? = some (epluvialref17_Item b4849)] (by kernel_rfl) ⟨by exact p4850, by exact el_map epluvialref17_Item q4851, by exact p4853, by exact el_map epluvialref17_Item q4854, by exact c4855, by exact p4853, by exact el_map epluvialref17_Item q4854, by exact p4850, by exact el_map epluvialref17_Item q4851, trivial⟩ ?_
              obtain rfl := Option.some.inj H
              exact Exists.intro _ (And.intro (fun _ _ h => h.conv (inv := []) (vk := []) (e0 := []) (t := ⟨[(0, .im (.row (a0.map epluvialref17_Item))), (3, iV .i64 x4821), (4, iV .i64 x4840), (39, bV (decide (b4852.f2 < b4849.f3)))], [], 0⟩) (by kernel_rfl)) (And.intro rfl rfl))
            · replace H := (ifF c4855).symm.trans H
              refine reg hP hn hm [(2, .c (epluvialref17_Item b4849)), (7, .c (epluvialref17_Item b4852)), (11, .b false)] [0, 3, 4, 39] [] ⟨[(0, .im (.row (a0.map epluvialref17_Item))), (3, iV .i64 x4821), (4, iV .i64 x4840), (39, bV false)], [], 0⟩ [0 ≤ x4821, (a0.map epluvialref17_Item)[(Int.toNat (x4821))]? = some (epluvialref17_Item b4849), 0 ≤ x4840, (a0.map epluvialref17_Item)[(Int.toNat (x4840))]? = some (epluvialref17_Item b4852), (decide (b4849.f2 < b4852.f3)) = false] (by kernel_rfl) ⟨by exact p4850, by exact el_map epluvialref17_Item q4851, by exact p4853, by exact el_map epluvialref17_Item q4854, by exact c4855, trivial⟩ ?_
              obtain rfl := Option.some.inj H
              exact Exists.intro _ (And.intro (fun _ _ h => h.conv (inv := []) (vk := []) (e0 := []) (t := ⟨[(0, .im (.row (a0.map epluvialref17_Item))), (3, iV .i64 x4821), (4, iV .i64 x4840), (39, bV false)], [], 0⟩) (by kernel_rfl)) (And.intro rfl rfl))
          · obtain ⟨x4856, rfl⟩ : ∃ z, z = o4862 := ⟨_, rfl⟩
            rintro e s ⟨rfl, rfl⟩
            refine AWp.cond x4856 rfl (fun c4857 => ?_) (fun c4857 => ?_)
            · replace H := (ifT c4857).symm.trans H
              refine AWp.seq ?_
              refine reg hP hn hm [] [2] [] ⟨[(2, bV false)], [], 0⟩ [] (by kernel_rfl) trivial ?_
              refine AWp.conv (inv := []) (vk := []) (e0 := []) (t := ⟨[(2, bV false)], [], 0⟩) (by kernel_rfl) ?_
              refine AWp.ret ?_
              obtain rfl := Option.some.inj H
              exact Exists.intro _ (And.intro (fun _ _ h => h) (And.intro rfl (And.intro rfl (And.intro (by kernel_rfl) (by kernel_rfl)))))
            · replace H := (ifF c4857).symm.trans H
              refine AWp.skip ?_
              refine reg hP hn hm [] [0, 3, 4] [] ⟨[(0, .im (.row (a0.map epluvialref17_Item))), (3, iV .i64 x4821), (4, iV .i64 (IntKind.i64.wrap (x4840 + (1 : Int))))], [], 0⟩ [] (by kernel_rfl) trivial ?_
              exact LWp.conv (inv := []) (vk := []) (e0 := []) (t := ⟨[(0, .im (.row (a0.map epluvialref17_Item))), (3, iV .i64 x4821), (4, iV .i64 (IntKind.i64.wrap (x4840 + (1 : Int))))], [], 0⟩) (by kernel_rfl) (ih _ _ H)
        · replace H := (ifF c4841).symm.trans H
          refine AWp.exit ?_
          obtain rfl := Option.some.inj H
          exact Exists.intro _ (And.intro (fun _ _ h => h.conv (inv := []) (vk := []) (e0 := []) (t := ⟨[(0, .im (.row (a0.map epluvialref17_Item))), (3, iV .i64 x4821)], [], 0⟩) (by kernel_rfl)) (And.intro rfl rfl))
      · rcases o4860 with rr | _
        · skip
          rintro e s ⟨rfl, hfl, hres⟩
          obtain rfl := Option.some.inj H
          exact Exists.intro _ (And.intro (fun _ _ h => h) (And.intro rfl (And.intro hfl hres)))
        · skip
          rintro e s ⟨rfl, rfl⟩
          refine reg hP hn hm [] [0, 3] [] ⟨[(0, .im (.row (a0.map epluvialref17_Item))), (3, iV .i64 (IntKind.i64.wrap (x4821 + (1 : Int))))], [], 0⟩ [] (by kernel_rfl) trivial ?_
          exact LWp.conv (inv := []) (vk := []) (e0 := []) (t := ⟨[(0, .im (.row (a0.map epluvialref17_Item))), (3, iV .i64 (IntKind.i64.wrap (x4821 + (1 : Int))))], [], 0⟩) (by kernel_rfl) (ih _ _ H)
    · replace H := (ifF c4822).symm.trans H
      refine AWp.exit ?_
      obtain rfl := Option.some.inj H
      exact Exists.intro _ (And.intro (fun _ _ h => h.conv (inv := []) (vk := []) (e0 := []) (t := ⟨[], [], 0⟩) (by kernel_rfl)) (And.intro rfl rfl))
  · rcases o4858 with rr | _
    · skip
      rintro e s ⟨rfl, hfl, hres⟩
      obtain rfl := Option.some.inj H
      exact Exists.intro _ (And.intro (fun _ _ h => h) (And.intro (.inl rfl) (And.intro hfl hres)))
    · skip
      rintro e s ⟨rfl, rfl⟩
      refine AWp.seq ?_
      refine reg hP hn hm [] [2] [] ⟨[(2, bV true)], [], 0⟩ [] (by kernel_rfl) trivial ?_
      refine AWp.conv (inv := []) (vk := []) (e0 := []) (t := ⟨[(2, bV true)], [], 0⟩) (by kernel_rfl) ?_
      refine AWp.ret ?_
      obtain rfl := Option.some.inj H
      exact Exists.intro _ (And.intro (fun _ _ h => h) (And.intro (.inl rfl) (And.intro rfl (And.intro (by kernel_rfl) (by kernel_rfl)))))
end Go.Proofs.Ytfkppdcfgmgllaa.PvGD1
set_option linter.unusedVariables false
set_option linter.unnecessarySimpa false
set_option linter.unusedSimpArgs false
set_option maxRecDepth 10000
namespace Go.Proofs.Ytfkppdcfgmgllaa.PvGD1
open Go Go.Pv
def f_pluviallaw17_PlanEnds.l0 (a0 : List Tpluvialref17_Item) (t4672 : List Tplan_Item) (x4681 : Int) (x4682 : Int) : Option (Int) := if (decide (x4682 < (a0.length : Int))) = true then ((at? a0 x4682) >>= fun b4687 => f_pluviallaw17_PlanEnds.l0 a0 t4672 (if b4687.f0 > x4681 then b4687.f0 else x4681) (IntKind.i64.wrap (x4682 + (1 : Int)))) else (some x4681)
partial_fixpoint
def f_pluviallaw17_PlanEnds.l1 (a0 : List Tpluvialref17_Item) (x4715 : List Tplan_Item) (x4716 : Int) (x4717 : Int) : Option (Bool ⊕ (List Tplan_Item)) := (f_plan_Next.f x4715) >>= fun t4722 => if (!t4722.2) = true then (some (.inr x4715)) else ((f_plan_Do.f x4715 (t4722.1) (IntKind.i64.wrap (x4716 + (1 : Int)))) >>= fun t4729 => ((if (decide ((t4729.length : Int) ≥ (x4715.length : Int))) = true then (some true) else (if (decide (x4717 ≥ (a0.length : Int))) = true then (some true) else (some ((t4729.length : Int) != (IntKind.i64.wrap ((IntKind.i64.wrap ((x4715.length : Int) - (((t4722.1).f0).length : Int))) + (1 : Int))))))) : Option (Bool)) >>= fun x4735 => if x4735 = true then (some (.inl false)) else (f_pluviallaw17_PlanEnds.l1 a0 t4729 (IntKind.i64.wrap (x4716 + (1 : Int))) (IntKind.i64.wrap (x4717 + (1 : Int)))))
partial_fixpoint
def f_pluviallaw17_PlanEnds.l3 (a0 : List Tpluvialref17_Item) (b4782 : Tpluvialref17_Item) (t4740 : List Tpluvialref17_Item) (x4737 : List Tplan_Item) (x4777 : Int) (x4797 : Bool) (x4798 : Int) : Option (Bool) := if (decide (x4798 < (t4740.length : Int))) = true then ((at? t4740 x4798) >>= fun b4803 => ((if x4797 = true then (some true) else (if (decide (b4803.f2 ≤ b4782.f2)) = true then (some (decide (b4803.f3 ≥ b4782.f3))) else (some false))) : Option (Bool)) >>= fun x4810 => f_pluviallaw17_PlanEnds.l3 a0 b4782 t4740 x4737 x4777 x4810 (IntKind.i64.wrap (x4798 + (1 : Int)))) else (some x4797)
partial_fixpoint
def f_pluviallaw17_PlanEnds.l2 (a0 : List Tpluvialref17_Item) (t4740 : List Tpluvialref17_Item) (x4737 : List Tplan_Item) (x4777 : Int) : Option (Bool ⊕ Unit) := if (decide (x4777 < (a0.length : Int))) = true then ((at? a0 x4777) >>= fun b4782 => (f_pluviallaw17_PlanEnds.l3 a0 b4782 t4740 x4737 x4777 false 0) >>= fun x4811 => if (!x4811) = true then (some (.inl false)) else (f_pluviallaw17_PlanEnds.l2 a0 t4740 x4737 (IntKind.i64.wrap (x4777 + (1 : Int))))) else (some (.inr ()))
partial_fixpoint
def f_pluviallaw17_PlanEnds.f (a0 : List Tpluvialref17_Item) : Option (Bool) := ((if (decide ((a0.length : Int) > (40 : Int))) = true then (some true) else ((f_pluvialref17_Right.f a0) >>= fun t4662 => some (!t4662))) : Option (Bool)) >>= fun x4664 => if x4664 = true then ((f_pluviallaw17_awake.f) >>= fun t4668 => some t4668) else ((f_pluviallaw17_To.f a0) >>= fun t4672 => (f_pluviallaw17_PlanEnds.l0 a0 t4672 0 0) >>= fun x4690 => if (decide (x4690 > (1099511627776 : Int))) = true then ((f_pluviallaw17_awake.f) >>= fun t4694 => some t4694) else ((f_pluviallaw17_PlanEnds.l1 a0 t4672 x4690 0) >>= fun oo => match oo with | .inl rr => (some rr) | .inr x4737 => ((f_pluviallaw17_From.f x4737) >>= fun t4740 => (f_pluviallaw17_PlanEnds.l2 a0 t4740 x4737 0) >>= fun oo => match oo with | .inl rr => (some rr) | .inr _ => ((((f_pluviallaw17_awake.f) >>= fun t4869 => if t4869 = true then ((f_pluvialref17_Right.f t4740) >>= fun t4872 => if t4872 = true then ((f_pluvialref17_Apart.f t4740) >>= fun t4875 => if t4875 = true then ((f_plan_Apart.f x4737) >>= fun t4878 => some t4878) else (some false)) else (some false)) else (some false)) : Option (Bool)) >>= fun x4880 => some x4880))))
theorem f_pluviallaw17_PlanEnds.ok (a0 : List Tpluvialref17_Item) (r : Bool) (H : f_pluviallaw17_PlanEnds.f a0 = some r) : Pv.Fn Try.prog 7 [.im (.row (a0.map epluvialref17_Item))] [] 0 (fun x o => x = bV r ∧ o = []) := by
  unfold f_pluviallaw17_PlanEnds.f at H
  refine Fn.bodyK [] Try.func7 rfl rfl (fun Γ hP hn => ?_)
  have hm : Try.prog.follows .mixedOrders = true := by kernel_rfl
  replace hn : Γ.n = 127 := hn
  refine AWp.seq ?_
  refine reg hP hn hm [] [0] [] ⟨[(0, .im (.row (a0.map epluvialref17_Item)))], [], 0⟩ [] (by kernel_rfl) trivial ?_
  refine AWp.seq ?_
  refine AWp.seq ?_
  obtain ⟨o4881, e4882, H⟩ := bind_of H
  refine AWp.mono (Q := fun e s => (match (generalizing := false) o4881 with | x4664 => e = .normal ∧ s = ⟨[(0, .im (.row (a0.map epluvialref17_Item))), (24, bV x4664)], [], 0⟩)) (AWp.cv ?_) ?_
  · replace H := e4882; clear e4882
    rcases Bool.eq_false_or_eq_true (decide ((a0.length : Int) > (40 : Int))) with c4661 | c4661
    · replace H := (ifT c4661).symm.trans H
      refine reg hP hn hm [(1, .any (iV .i64 (a0.length : Int))), (3, .b true)] [0, 24] [] ⟨[(0, .im (.row (a0.map epluvialref17_Item))), (24, bV true)], [], 0⟩ [((a0.map epluvialref17_Item).length : Int) = (a0.length : Int), (decide ((a0.length : Int) > (40 : Int))) = true] (by kernel_rfl) ⟨by rw [len_map], by exact c4661, trivial⟩ ?_
      obtain rfl := Option.some.inj H
      exact Exists.intro _ (And.intro (fun _ _ h => h.conv (inv := []) (vk := []) (e0 := []) (t := ⟨[(0, .im (.row (a0.map epluvialref17_Item))), (24, bV true)], [], 0⟩) (by kernel_rfl)) (And.intro rfl rfl))
    · replace H := (ifF c4661).symm.trans H
      obtain ⟨t4662, e4663, H⟩ := bind_of H
      refine reg hP hn hm [(1, .any (iV .i64 (a0.length : Int))), (3, .b false), (5, .call [] [] [] [] 0 (bV t4662) [])] [0, 24] [] ⟨[(0, .im (.row (a0.map epluvialref17_Item))), (24, bV (!t4662))], [], 0⟩ [((a0.map epluvialref17_Item).length : Int) = (a0.length : Int), (decide ((a0.length : Int) > (40 : Int))) = false, Enters Try.prog 12, Pv.Fn Try.prog 12 [.im (.row (a0.map epluvialref17_Item))] [] 0 (fun r o => r = bV t4662 ∧ o = [])] (by kernel_rfl) ⟨by rw [len_map], by exact c4661, by exact Try.call12, by exact f_pluvialref17_Right.ok a0 t4662 e4663, trivial⟩ ?_
      obtain rfl := Option.some.inj H
      exact Exists.intro _ (And.intro (fun _ _ h => h.conv (inv := []) (vk := []) (e0 := []) (t := ⟨[(0, .im (.row (a0.map epluvialref17_Item))), (24, bV (!t4662))], [], 0⟩) (by kernel_rfl)) (And.intro rfl rfl))
  · obtain ⟨x4664, rfl⟩ : ∃ z, z = o4881 := ⟨_, rfl⟩
    rintro e s ⟨rfl, rfl⟩
    refine AWp.cond x4664 rfl (fun c4665 => ?_) (fun c4665 => ?_)
    · replace H := (ifT c4665).symm.trans H
      refine AWp.seq ?_
      obtain ⟨t4668, e4669, H⟩ := bind_of H
      refine reg hP hn hm [(0, .call [] [] [] [] 0 (bV t4668) [])] [2] [] ⟨[(2, bV t4668)], [], 0⟩ [Enters Try.prog 13, Pv.Fn Try.prog 13 [] [] 0 (fun r o => r = bV t4668 ∧ o = [])] (by kernel_rfl) ⟨by exact Try.call13, by exact f_pluviallaw17_awake.ok  t4668 e4669, trivial⟩ ?_
      refine AWp.conv (inv := []) (vk := []) (e0 := []) (t := ⟨[(2, bV t4668)], [], 0⟩) (by kernel_rfl) ?_
      refine AWp.ret ?_
      obtain rfl := Option.some.inj H
      exact Exists.intro _ (And.intro (fun _ _ h => h) (And.intro (.inl rfl) (And.intro rfl (And.intro (by kernel_rfl) (by kernel_rfl)))))
    · replace H := (ifF c4665).symm.trans H
      refine AWp.skip ?_
      refine AWp.seq ?_
      obtain ⟨t4672, e4673, H⟩ := bind_of H
      refine reg hP hn hm [(1, .call [] [(0, 0)] [] [0] 0 (.own 0) [(0, some (.row 4 89 (t4672.map eplan_Item)))])] [0, 3] [0] ⟨[(0, .im (.row (a0.map epluvialref17_Item))), (3, .own 0)], [(0, some (.row 4 89 (t4672.map eplan_Item)))], 0⟩ [Enters Try.prog 15, Pv.Fn Try.prog 15 [.im (.row (a0.map epluvialref17_Item))] [] 0 (fun r o => r = .own 0 ∧ o = [(0, some (.row 4 89 (t4672.map eplan_Item)))])] (by kernel_rfl) ⟨by exact Try.call15, by exact f_pluviallaw17_To.ok a0 t4672 e4673, trivial⟩ ?_
      refine AWp.seq ?_
      refine reg hP hn hm [] [0, 3, 4] [0] ⟨[(0, .im (.row (a0.map epluvialref17_Item))), (3, .own 0), (4, iV .i64 0)], [(0, some (.row 4 89 (t4672.map eplan_Item)))], 0⟩ [] (by kernel_rfl) trivial ?_
      refine AWp.seq ?_
      refine AWp.seq ?_
      refine reg hP hn hm [(1, .any (iV .i64 (a0.length : Int)))] [0, 3, 4, 28, 29, 30] [0] ⟨[(0, .im (.row (a0.map epluvialref17_Item))), (3, .own 0), (4, iV .i64 0), (28, .im (.row (a0.map epluvialref17_Item))), (29, iV .i64 (a0.length : Int)), (30, iV .i64 0)], [(0, some (.row 4 89 (t4672.map eplan_Item)))], 0⟩ [((a0.map epluvialref17_Item).length : Int) = (a0.length : Int)] (by kernel_rfl) ⟨by rw [len_map], trivial⟩ ?_
      refine AWp.block ?_
      obtain ⟨o4883, e4884, H⟩ := bind_of H
      refine AWp.loop (LWp.conv (inv := [(0, 2)]) (vk := []) (e0 := []) (t := ⟨[(0, .im (.row (a0.map epluvialref17_Item))), (3, .own 2), (4, iV .i64 0), (28, .im (.row (a0.map epluvialref17_Item))), (29, iV .i64 (a0.length : Int)), (30, iV .i64 0)], [(2, some (.row 4 89 (t4672.map eplan_Item)))], 0⟩) (by kernel_rfl) ?_)
      refine LWp.mono (Q := fun e s => (match (generalizing := false) o4883 with | x4690 => e = .exit 0 ∧ s = ⟨[(0, .im (.row (a0.map epluvialref17_Item))), (3, .own 4), (4, iV .i64 x4690)], [(4, some (.row 4 89 (t4672.map eplan_Item)))], 0⟩)) (LWp.cv (withBody (fun body hbody => ?_))) ?_
      · refine f_pluviallaw17_PlanEnds.l0.partial_correctness a0 t4672 (motive := fun x4681 x4682 o4883 => LWp Γ body (fun e s => ∃ t, Cv Γ s t ∧ (match (generalizing := false) o4883 with | x4690 => e = .exit 0 ∧ t = ⟨[(0, .im (.row (a0.map epluvialref17_Item))), (3, .own 4), (4, iV .i64 x4690)], [(4, some (.row 4 89 (t4672.map eplan_Item)))], 0⟩)) ⟨[(0, .im (.row (a0.map epluvialref17_Item))), (3, .own 2), (4, iV .i64 x4681), (28, .im (.row (a0.map epluvialref17_Item))), (29, iV .i64 (a0.length : Int)), (30, iV .i64 x4682)], [(2, some (.row 4 89 (t4672.map eplan_Item)))], 0⟩) ?_ _ _ _ e4884
        clear H e4884 o4883; intro self ih x4681 x4682 o4883 H
        subst hbody
        refine LWp.round ?_
        refine AWp.seq ?_
        refine reg hP hn hm [] [0, 3, 4, 28, 29, 30, 31] [2] ⟨[(0, .im (.row (a0.map epluvialref17_Item))), (3, .own 2), (4, iV .i64 x4681), (28, .im (.row (a0.map epluvialref17_Item))), (29, iV .i64 (a0.length : Int)), (30, iV .i64 x4682), (31, bV (decide (x4682 < (a0.length : Int))))], [(2, some (.row 4 89 (t4672.map eplan_Item)))], 0⟩ [] (by kernel_rfl) trivial ?_
        refine AWp.seq ?_
        refine AWp.cond (decide (x4682 < (a0.length : Int))) rfl (fun c4683 => ?_) (fun c4683 => ?_)
        · replace H := (ifT c4683).symm.trans H
          refine AWp.skip ?_
          refine AWp.seq ?_
          refine AWp.block ?_
          refine AWp.seq ?_
          obtain ⟨b4687, p4688, q4689, H⟩ := at_of H
          refine reg hP hn hm [(0, .c (epluvialref17_Item b4687)), (2, .k 3)] [0, 3, 4, 6, 28, 29, 30] [2, 3] ⟨[(0, .im (.row (a0.map epluvialref17_Item))), (3, .own 2), (4, iV .i64 x4681), (6, .ptr 3 0 0), (28, .im (.row (a0.map epluvialref17_Item))), (29, iV .i64 (a0.length : Int)), (30, iV .i64 x4682)], [(2, some (.row 4 89 (t4672.map eplan_Item))), (3, some (.box 31 (apluvialref17_Item b4687)))], 0⟩ [0 ≤ x4682, (a0.map epluvialref17_Item)[(Int.toNat (x4682))]? = some (epluvialref17_Item b4687)] (by kernel_rfl) ⟨by exact p4688, by exact el_map epluvialref17_Item q4689, trivial⟩ ?_
          refine reg hP hn hm [(3, .more xMax)] [0, 3, 4, 28, 29, 30] [2] ⟨[(0, .im (.row (a0.map epluvialref17_Item))), (3, .own 2), (4, iV .i64 (if b4687.f0 > x4681 then b4687.f0 else x4681)), (28, .im (.row (a0.map epluvialref17_Item))), (29, iV .i64 (a0.length : Int)), (30, iV .i64 x4682)], [(2, some (.row 4 89 (t4672.map eplan_Item)))], 0⟩ [] (by kernel_rfl) trivial ?_
          refine reg hP hn hm [] [0, 3, 4, 28, 29, 30] [2] ⟨[(0, .im (.row (a0.map epluvialref17_Item))), (3, .own 2), (4, iV .i64 (if b4687.f0 > x4681 then b4687.f0 else x4681)), (28, .im (.row (a0.map epluvialref17_Item))), (29, iV .i64 (a0.length : Int)), (30, iV .i64 (IntKind.i64.wrap (x4682 + (1 : Int))))], [(2, some (.row 4 89 (t4672.map eplan_Item)))], 0⟩ [] (by kernel_rfl) trivial ?_
          exact LWp.conv (inv := [(2, 2)]) (vk := []) (e0 := []) (t := ⟨[(0, .im (.row (a0.map epluvialref17_Item))), (3, .own 2), (4, iV .i64 (if b4687.f0 > x4681 then b4687.f0 else x4681)), (28, .im (.row (a0.map epluvialref17_Item))), (29, iV .i64 (a0.length : Int)), (30, iV .i64 (IntKind.i64.wrap (x4682 + (1 : Int))))], [(2, some (.row 4 89 (t4672.map eplan_Item)))], 0⟩) (by kernel_rfl) (ih _ _ _ H)
        · replace H := (ifF c4683).symm.trans H
          refine AWp.exit ?_
          obtain rfl := Option.some.inj H
          exact Exists.intro _ (And.intro (fun _ _ h => h.conv (inv := [(2, 4)]) (vk := []) (e0 := []) (t := ⟨[(0, .im (.row (a0.map epluvialref17_Item))), (3, .own 4), (4, iV .i64 x4681)], [(4, some (.row 4 89 (t4672.map eplan_Item)))], 0⟩) (by kernel_rfl)) (And.intro rfl rfl))
      · obtain ⟨x4690, rfl⟩ : ∃ z, z = o4883 := ⟨_, rfl⟩
        rintro e s ⟨rfl, rfl⟩
        refine AWp.seq ?_
        refine AWp.seq ?_
        refine reg hP hn hm [] [0, 3, 4, 40] [4] ⟨[(0, .im (.row (a0.map epluvialref17_Item))), (3, .own 4), (4, iV .i64 x4690), (40, bV (decide (x4690 > (1099511627776 : Int))))], [(4, some (.row 4 89 (t4672.map eplan_Item)))], 0⟩ [] (by kernel_rfl) trivial ?_
        refine AWp.cond (decide (x4690 > (1099511627776 : Int))) rfl (fun c4691 => ?_) (fun c4691 => ?_)
        · replace H := (ifT c4691).symm.trans H
          refine AWp.seq ?_
          obtain ⟨t4694, e4695, H⟩ := bind_of H
          refine reg hP hn hm [(0, .call [] [] [] [] 0 (bV t4694) [])] [2] [] ⟨[(2, bV t4694)], [], 0⟩ [Enters Try.prog 13, Pv.Fn Try.prog 13 [] [] 0 (fun r o => r = bV t4694 ∧ o = [])] (by kernel_rfl) ⟨by exact Try.call13, by exact f_pluviallaw17_awake.ok  t4694 e4695, trivial⟩ ?_
          refine AWp.conv (inv := []) (vk := []) (e0 := []) (t := ⟨[(2, bV t4694)], [], 0⟩) (by kernel_rfl) ?_
          refine AWp.ret ?_
          obtain rfl := Option.some.inj H
          exact Exists.intro _ (And.intro (fun _ _ h => h) (And.intro (.inl rfl) (And.intro rfl (And.intro (by kernel_rfl) (by kernel_rfl)))))
        · replace H := (ifF c4691).symm.trans H
          refine AWp.skip ?_
          refine AWp.seq ?_
          refine AWp.seq ?_
          refine reg hP hn hm [] [0, 3, 4, 7] [4] ⟨[(0, .im (.row (a0.map epluvialref17_Item))), (3, .own 4), (4, iV .i64 x4690), (7, iV .i64 0)], [(4, some (.row 4 89 (t4672.map eplan_Item)))], 0⟩ [] (by kernel_rfl) trivial ?_
          refine AWp.block ?_
          obtain ⟨o4885, e4886, H⟩ := bind_of H
          refine AWp.loop (LWp.conv (inv := [(4, 9)]) (vk := []) (e0 := []) (t := ⟨[(0, .im (.row (a0.map epluvialref17_Item))), (3, .own 9), (4, iV .i64 x4690), (7, iV .i64 0)], [(9, some (.row 4 89 (t4672.map eplan_Item)))], 0⟩) (by kernel_rfl) ?_)
          refine LWp.mono (Q := fun e s => (match (generalizing := false) o4885 with | .inl rr => e = .ret ∧ s.floor = 0 ∧ resOf Try.prog Try.f7 s = some (bV rr) ∧ ([] : List (Nat × Option MObj)) = [] | .inr x4737 => e = .exit 2 ∧ s = ⟨[(0, .im (.row (a0.map epluvialref17_Item))), (3, .im (.row (x4737.map eplan_Item)))], [], 0⟩)) (LWp.cv (withBody (fun body hbody => ?_))) ?_
          · refine f_pluviallaw17_PlanEnds.l1.partial_correctness a0 (motive := fun x4715 x4716 x4717 o4885 => LWp Γ body (fun e s => ∃ t, Cv Γ s t ∧ (match (generalizing := false) o4885 with | .inl rr => e = .ret ∧ t.floor = 0 ∧ resOf Try.prog Try.f7 t = some (bV rr) ∧ ([] : List (Nat × Option MObj)) = [] | .inr x4737 => e = .exit 2 ∧ t = ⟨[(0, .im (.row (a0.map epluvialref17_Item))), (3, .im (.row (x4737.map eplan_Item)))], [], 0⟩)) ⟨[(0, .im (.row (a0.map epluvialref17_Item))), (3, .own 9), (4, iV .i64 x4716), (7, iV .i64 x4717)], [(9, some (.row 4 89 (x4715.map eplan_Item)))], 0⟩) ?_ _ _ _ _ e4886
            clear H e4886 o4885; intro self ih x4715 x4716 x4717 o4885 H
            subst hbody
            refine LWp.round ?_
            refine AWp.seq ?_
            refine AWp.block ?_
            refine AWp.seq ?_
            refine AWp.conv (inv := []) (vk := [9]) (e0 := []) (t := ⟨[(0, .im (.row (a0.map epluvialref17_Item))), (3, .im (.row (x4715.map eplan_Item))), (4, iV .i64 x4716), (7, iV .i64 x4717)], [], 0⟩) (by kernel_rfl) ?_
            obtain ⟨t4722, e4723, H⟩ := bind_of H
            refine reg hP hn hm [(1, .call [] [(0, 10)] [] [10] 0 (.tup [.agg [.own 0, iV .i64 ((t4722.1).f1)], bV t4722.2]) [(0, some (.row 1 3 (((t4722.1).f0).map (encInt .i64))))]), (5, .k 11)] [0, 3, 4, 7, 8, 9] [10, 11] ⟨[(0, .im (.row (a0.map epluvialref17_Item))), (3, .im (.row (x4715.map eplan_Item))), (4, iV .i64 x4716), (7, iV .i64 x4717), (8, .ptr 11 0 0), (9, bV t4722.2)], [(10, some (.row 1 3 (((t4722.1).f0).map (encInt .i64)))), (11, some (.box 33 [.own 10, iV .i64 ((t4722.1).f1)]))], 0⟩ [Enters Try.prog 16, Pv.Fn Try.prog 16 [.im (.row (x4715.map eplan_Item))] [] 0 (fun r o => r = .tup [.agg [.own 0, iV .i64 ((t4722.1).f1)], bV t4722.2] ∧ o = [(0, some (.row 1 3 (((t4722.1).f0).map (encInt .i64))))])] (by kernel_rfl) ⟨by exact Try.call16, by exact f_plan_Next.ok x4715 t4722 e4723, trivial⟩ ?_
            refine AWp.seq ?_
            refine AWp.seq ?_
            refine reg hP hn hm [] [0, 3, 4, 7, 8, 50] [10, 11] ⟨[(0, .im (.row (a0.map epluvialref17_Item))), (3, .im (.row (x4715.map eplan_Item))), (4, iV .i64 x4716), (7, iV .i64 x4717), (8, .ptr 11 0 0), (50, bV (!t4722.2))], [(10, some (.row 1 3 (((t4722.1).f0).map (encInt .i64)))), (11, some (.box 33 [.own 10, iV .i64 ((t4722.1).f1)]))], 0⟩ [] (by kernel_rfl) trivial ?_
            refine AWp.cond (!t4722.2) rfl (fun c4724 => ?_) (fun c4724 => ?_)
            · replace H := (ifT c4724).symm.trans H
              refine AWp.exit ?_
              obtain rfl := Option.some.inj H
              exact Exists.intro _ (And.intro (fun _ _ h => h.conv (inv := []) (vk := []) (e0 := []) (t := ⟨[(0, .im (.row (a0.map epluvialref17_Item))), (3, .im (.row (x4715.map eplan_Item)))], [], 0⟩) (by kernel_rfl)) (And.intro rfl rfl))
            · replace H := (ifF c4724).symm.trans H
              refine AWp.skip ?_
              refine AWp.seq ?_
              refine reg hP hn hm [] [0, 3, 4, 7, 8] [10, 11] ⟨[(0, .im (.row (a0.map epluvialref17_Item))), (3, .im (.row (x4715.map eplan_Item))), (4, iV .i64 (IntKind.i64.wrap (x4716 + (1 : Int)))), (7, iV .i64 x4717), (8, .ptr 11 0 0)], [(10, some (.row 1 3 (((t4722.1).f0).map (encInt .i64)))), (11, some (.box 33 [.own 10, iV .i64 ((t4722.1).f1)]))], 0⟩ [] (by kernel_rfl) trivial ?_
              refine AWp.seq ?_
              refine AWp.conv (inv := [(11, 11)]) (vk := [10]) (e0 := []) (t := ⟨[(0, .im (.row (a0.map epluvialref17_Item))), (3, .im (.row (x4715.map eplan_Item))), (4, iV .i64 (IntKind.i64.wrap (x4716 + (1 : Int)))), (7, iV .i64 x4717), (8, .ptr 11 0 0)], [(11, some (.box 33 (aplan_Step (t4722.1))))], 0⟩) (by kernel_rfl) ?_
              obtain ⟨t4729, e4730, H⟩ := bind_of H
              refine reg hP hn hm [(3, .call [] [(0, 12)] [] [12] 0 (.own 0) [(0, some (.row 4 89 (t4729.map eplan_Item)))])] [0, 3, 4, 7, 8, 10] [11, 12] ⟨[(0, .im (.row (a0.map epluvialref17_Item))), (3, .im (.row (x4715.map eplan_Item))), (4, iV .i64 (IntKind.i64.wrap (x4716 + (1 : Int)))), (7, iV .i64 x4717), (8, .ptr 11 0 0), (10, .own 12)], [(11, some (.box 33 (aplan_Step (t4722.1)))), (12, some (.row 4 89 (t4729.map eplan_Item)))], 0⟩ [Enters Try.prog 25, Pv.Fn Try.prog 25 [.im (.row (x4715.map eplan_Item)), .agg (aplan_Step (t4722.1)), iV .i64 (IntKind.i64.wrap (x4716 + (1 : Int)))] [] 0 (fun r o => r = .own 0 ∧ o = [(0, some (.row 4 89 (t4729.map eplan_Item)))])] (by kernel_rfl) ⟨by exact Try.call25, by exact f_plan_Do.ok x4715 (t4722.1) (IntKind.i64.wrap (x4716 + (1 : Int))) t4729 e4730, trivial⟩ ?_
              refine AWp.seq ?_
              refine AWp.seq ?_
              obtain ⟨o4887, e4888, H⟩ := bind_of H
              refine AWp.mono (Q := fun e s => (match (generalizing := false) o4887 with | x4735 => e = .normal ∧ s = ⟨[(0, .im (.row (a0.map epluvialref17_Item))), (4, iV .i64 (IntKind.i64.wrap (x4716 + (1 : Int)))), (7, iV .i64 x4717), (10, .own 13), (79, bV x4735)], [(13, some (.row 4 89 (t4729.map eplan_Item)))], 0⟩)) (AWp.cv ?_) ?_
              · replace H := e4888; clear e4888
                rcases Bool.eq_false_or_eq_true (decide ((t4729.length : Int) ≥ (x4715.length : Int))) with c4733 | c4733
                · replace H := (ifT c4733).symm.trans H
                  refine reg hP hn hm [(1, .any (iV .i64 (t4729.length : Int))), (3, .any (iV .i64 (x4715.length : Int))), (5, .b true)] [0, 4, 7, 10, 79] [12] ⟨[(0, .im (.row (a0.map epluvialref17_Item))), (4, iV .i64 (IntKind.i64.wrap (x4716 + (1 : Int)))), (7, iV .i64 x4717), (10, .own 12), (79, bV true)], [(12, some (.row 4 89 (t4729.map eplan_Item)))], 0⟩ [((t4729.map eplan_Item).length : Int) = (t4729.length : Int), ((x4715.map eplan_Item).length : Int) = (x4715.length : Int), (decide ((t4729.length : Int) ≥ (x4715.length : Int))) = true] (by kernel_rfl) ⟨by rw [len_map], by rw [len_map], by exact c4733, trivial⟩ ?_
                  obtain rfl := Option.some.inj H
                  exact Exists.intro _ (And.intro (fun _ _ h => h.conv (inv := [(12, 13)]) (vk := []) (e0 := []) (t := ⟨[(0, .im (.row (a0.map epluvialref17_Item))), (4, iV .i64 (IntKind.i64.wrap (x4716 + (1 : Int)))), (7, iV .i64 x4717), (10, .own 13), (79, bV true)], [(13, some (.row 4 89 (t4729.map eplan_Item)))], 0⟩) (by kernel_rfl)) (And.intro rfl rfl))
                · replace H := (ifF c4733).symm.trans H
                  rcases Bool.eq_false_or_eq_true (decide (x4717 ≥ (a0.length : Int))) with c4734 | c4734
                  · replace H := (ifT c4734).symm.trans H
                    refine reg hP hn hm [(1, .any (iV .i64 (t4729.length : Int))), (3, .any (iV .i64 (x4715.length : Int))), (5, .b false), (8, .any (iV .i64 (a0.length : Int))), (11, .b true)] [0, 4, 7, 10, 63, 64, 65, 66, 79] [12] ⟨[(0, .im (.row (a0.map epluvialref17_Item))), (4, iV .i64 (IntKind.i64.wrap (x4716 + (1 : Int)))), (7, iV .i64 x4717), (10, .own 12), (63, iV .i64 x4717), (64, .im (.row (a0.map epluvialref17_Item))), (65, iV .i64 (a0.length : Int)), (66, bV (decide (x4717 ≥ (a0.length : Int)))), (79, bV true)], [(12, some (.row 4 89 (t4729.map eplan_Item)))], 0⟩ [((t4729.map eplan_Item).length : Int) = (t4729.length : Int), ((x4715.map eplan_Item).length : Int) = (x4715.length : Int), (decide ((t4729.length : Int) ≥ (x4715.length : Int))) = false, ((a0.map epluvialref17_Item).length : Int) = (a0.length : Int), (decide (x4717 ≥ (a0.length : Int))) = true] (by kernel_rfl) ⟨by rw [len_map], by rw [len_map], by exact c4733, by rw [len_map], by exact c4734, trivial⟩ ?_
                    obtain rfl := Option.some.inj H
                    exact Exists.intro _ (And.intro (fun _ _ h => h.conv (inv := [(12, 13)]) (vk := []) (e0 := []) (t := ⟨[(0, .im (.row (a0.map epluvialref17_Item))), (4, iV .i64 (IntKind.i64.wrap (x4716 + (1 : Int)))), (7, iV .i64 x4717), (10, .own 13), (79, bV true)], [(13, some (.row 4 89 (t4729.map eplan_Item)))], 0⟩) (by kernel_rfl)) (And.intro rfl rfl))
                  · replace H := (ifF c4734).symm.trans H
                    refine reg hP hn hm [(1, .any (iV .i64 (t4729.length : Int))), (3, .any (iV .i64 (x4715.length : Int))), (5, .b false), (8, .any (iV .i64 (a0.length : Int))), (11, .b false), (13, .any (iV .i64 (t4729.length : Int))), (15, .any (iV .i64 (x4715.length : Int))), (18, .any (iV .i64 (((t4722.1).f0).length : Int)))] [0, 4, 7, 10, 63, 64, 65, 66, 69, 70, 71, 72, 73, 74, 75, 76, 77, 78, 79] [11, 12] ⟨[(0, .im (.row (a0.map epluvialref17_Item))), (4, iV .i64 (IntKind.i64.wrap (x4716 + (1 : Int)))), (7, iV .i64 x4717), (10, .own 12), (63, iV .i64 x4717), (64, .im (.row (a0.map epluvialref17_Item))), (65, iV .i64 (a0.length : Int)), (66, bV (decide (x4717 ≥ (a0.length : Int)))), (69, .own 12), (70, iV .i64 (t4729.length : Int)), (71, .im (.row (x4715.map eplan_Item))), (72, iV .i64 (x4715.length : Int)), (73, .ptr 11 0 0), (74, .im (.row (((t4722.1).f0).map (encInt .i64)))), (75, iV .i64 (((t4722.1).f0).length : Int)), (76, iV .i64 (IntKind.i64.wrap ((x4715.length : Int) - (((t4722.1).f0).length : Int)))), (77, iV .i64 (IntKind.i64.wrap ((IntKind.i64.wrap ((x4715.length : Int) - (((t4722.1).f0).length : Int))) + (1 : Int)))), (78, bV ((t4729.length : Int) != (IntKind.i64.wrap ((IntKind.i64.wrap ((x4715.length : Int) - (((t4722.1).f0).length : Int))) + (1 : Int))))), (79, bV ((t4729.length : Int) != (IntKind.i64.wrap ((IntKind.i64.wrap ((x4715.length : Int) - (((t4722.1).f0).length : Int))) + (1 : Int)))))], [(11, some (.box 33 (aplan_Step (t4722.1)))), (12, some (.row 4 89 (t4729.map eplan_Item)))], 0⟩ [((t4729.map eplan_Item).length : Int) = (t4729.length : Int), ((x4715.map eplan_Item).length : Int) = (x4715.length : Int), (decide ((t4729.length : Int) ≥ (x4715.length : Int))) = false, ((a0.map epluvialref17_Item).length : Int) = (a0.length : Int), (decide (x4717 ≥ (a0.length : Int))) = false, ((t4729.map eplan_Item).length : Int) = (t4729.length : Int), ((x4715.map eplan_Item).length : Int) = (x4715.length : Int), ((((t4722.1).f0).map (encInt .i64)).length : Int) = (((t4722.1).f0).length : Int)] (by kernel_rfl) ⟨by rw [len_map], by rw [len_map], by exact c4733, by rw [len_map], by exact c4734, by rw [len_map], by rw [len_map], by rw [len_map], trivial⟩ ?_
                    obtain rfl := Option.some.inj H
                    exact Exists.intro _ (And.intro (fun _ _ h => h.conv (inv := [(12, 13)]) (vk := []) (e0 := []) (t := ⟨[(0, .im (.row (a0.map epluvialref17_Item))), (4, iV .i64 (IntKind.i64.wrap (x4716 + (1 : Int)))), (7, iV .i64 x4717), (10, .own 13), (79, bV ((t4729.length : Int) != (IntKind.i64.wrap ((IntKind.i64.wrap ((x4715.length : Int) - (((t4722.1).f0).length : Int))) + (1 : Int)))))], [(13, some (.row 4 89 (t4729.map eplan_Item)))], 0⟩) (by kernel_rfl)) (And.intro rfl rfl))
              · obtain ⟨x4735, rfl⟩ : ∃ z, z = o4887 := ⟨_, rfl⟩
                rintro e s ⟨rfl, rfl⟩
                refine AWp.cond x4735 rfl (fun c4736 => ?_) (fun c4736 => ?_)
                · replace H := (ifT c4736).symm.trans H
                  refine AWp.seq ?_
                  refine reg hP hn hm [] [2] [] ⟨[(2, bV false)], [], 0⟩ [] (by kernel_rfl) trivial ?_
                  refine AWp.conv (inv := []) (vk := []) (e0 := []) (t := ⟨[(2, bV false)], [], 0⟩) (by kernel_rfl) ?_
                  refine AWp.ret ?_
                  obtain rfl := Option.some.inj H
                  exact Exists.intro _ (And.intro (fun _ _ h => h) (And.intro rfl (And.intro rfl (And.intro (by kernel_rfl) (by kernel_rfl)))))
                · replace H := (ifF c4736).symm.trans H
                  refine AWp.skip ?_
                  refine reg hP hn hm [] [0, 3, 4, 7] [13] ⟨[(0, .im (.row (a0.map epluvialref17_Item))), (3, .own 13), (4, iV .i64 (IntKind.i64.wrap (x4716 + (1 : Int)))), (7, iV .i64 x4717)], [(13, some (.row 4 89 (t4729.map eplan_Item)))], 0⟩ [] (by kernel_rfl) trivial ?_
                  refine reg hP hn hm [] [0, 3, 4, 7] [13] ⟨[(0, .im (.row (a0.map epluvialref17_Item))), (3, .own 13), (4, iV .i64 (IntKind.i64.wrap (x4716 + (1 : Int)))), (7, iV .i64 (IntKind.i64.wrap (x4717 + (1 : Int))))], [(13, some (.row 4 89 (t4729.map eplan_Item)))], 0⟩ [] (by kernel_rfl) trivial ?_
                  exact LWp.conv (inv := [(13, 9)]) (vk := []) (e0 := []) (t := ⟨[(0, .im (.row (a0.map epluvialref17_Item))), (3, .own 9), (4, iV .i64 (IntKind.i64.wrap (x4716 + (1 : Int)))), (7, iV .i64 (IntKind.i64.wrap (x4717 + (1 : Int))))], [(9, some (.row 4 89 (t4729.map eplan_Item)))], 0⟩) (by kernel_rfl) (ih _ _ _ _ H)
          · rcases o4885 with rr | x4737
            · skip
              rintro e s ⟨rfl, hfl, hres⟩
              obtain rfl := Option.some.inj H
              exact Exists.intro _ (And.intro (fun _ _ h => h) (And.intro (.inl rfl) (And.intro hfl hres)))
            · skip
              rintro e s ⟨rfl, rfl⟩
              refine AWp.seq ?_
              obtain ⟨t4740, e4741, H⟩ := bind_of H
              refine reg hP hn hm [(1, .call [] [(0, 14)] [] [14] 0 (.own 0) [(0, some (.row 4 31 (t4740.map epluvialref17_Item)))])] [0, 3, 11] [14] ⟨[(0, .im (.row (a0.map epluvialref17_Item))), (3, .im (.row (x4737.map eplan_Item))), (11, .own 14)], [(14, some (.row 4 31 (t4740.map epluvialref17_Item)))], 0⟩ [Enters Try.prog 24, Pv.Fn Try.prog 24 [.im (.row (x4737.map eplan_Item))] [] 0 (fun r o => r = .own 0 ∧ o = [(0, some (.row 4 31 (t4740.map epluvialref17_Item)))])] (by kernel_rfl) ⟨by exact Try.call24, by exact f_pluviallaw17_From.ok x4737 t4740 e4741, trivial⟩ ?_
              refine AWp.seq ?_
              refine AWp.seq ?_
              refine reg hP hn hm [(1, .any (iV .i64 (a0.length : Int)))] [3, 11, 83, 84, 85] [14] ⟨[(3, .im (.row (x4737.map eplan_Item))), (11, .own 14), (83, .im (.row (a0.map epluvialref17_Item))), (84, iV .i64 (a0.length : Int)), (85, iV .i64 0)], [(14, some (.row 4 31 (t4740.map epluvialref17_Item)))], 0⟩ [((a0.map epluvialref17_Item).length : Int) = (a0.length : Int)] (by kernel_rfl) ⟨by rw [len_map], trivial⟩ ?_
              refine AWp.block ?_
              obtain ⟨o4889, e4890, H⟩ := bind_of H
              refine AWp.loop (LWp.conv (inv := [(14, 26)]) (vk := []) (e0 := []) (t := ⟨[(3, .im (.row (x4737.map eplan_Item))), (11, .own 26), (83, .im (.row (a0.map epluvialref17_Item))), (84, iV .i64 (a0.length : Int)), (85, iV .i64 0)], [(26, some (.row 4 31 (t4740.map epluvialref17_Item)))], 0⟩) (by kernel_rfl) ?_)
              refine LWp.mono (Q := fun e s => (match (generalizing := false) o4889 with | .inl rr => e = .ret ∧ s.floor = 0 ∧ resOf Try.prog Try.f7 s = some (bV rr) ∧ ([] : List (Nat × Option MObj)) = [] | .inr _ => e = .exit 4 ∧ s = ⟨[(3, .im (.row (x4737.map eplan_Item))), (11, .own 38)], [(38, some (.row 4 31 (t4740.map epluvialref17_Item)))], 0⟩)) (LWp.cv (withBody (fun body hbody => ?_))) ?_
              · refine f_pluviallaw17_PlanEnds.l2.partial_correctness a0 t4740 x4737 (motive := fun x4777 o4889 => LWp Γ body (fun e s => ∃ t, Cv Γ s t ∧ (match (generalizing := false) o4889 with | .inl rr => e = .ret ∧ t.floor = 0 ∧ resOf Try.prog Try.f7 t = some (bV rr) ∧ ([] : List (Nat × Option MObj)) = [] | .inr _ => e = .exit 4 ∧ t = ⟨[(3, .im (.row (x4737.map eplan_Item))), (11, .own 38)], [(38, some (.row 4 31 (t4740.map epluvialref17_Item)))], 0⟩)) ⟨[(3, .im (.row (x4737.map eplan_Item))), (11, .own 26), (83, .im (.row (a0.map epluvialref17_Item))), (84, iV .i64 (a0.length : Int)), (85, iV .i64 x4777)], [(26, some (.row 4 31 (t4740.map epluvialref17_Item)))], 0⟩) ?_ _ _ e4890
                clear H e4890 o4889; intro self ih x4777 o4889 H
                subst hbody
                refine LWp.round ?_
                refine AWp.seq ?_
                refine reg hP hn hm [] [3, 11, 83, 84, 85, 86] [26] ⟨[(3, .im (.row (x4737.map eplan_Item))), (11, .own 26), (83, .im (.row (a0.map epluvialref17_Item))), (84, iV .i64 (a0.length : Int)), (85, iV .i64 x4777), (86, bV (decide (x4777 < (a0.length : Int))))], [(26, some (.row 4 31 (t4740.map epluvialref17_Item)))], 0⟩ [] (by kernel_rfl) trivial ?_
                refine AWp.seq ?_
                refine AWp.cond (decide (x4777 < (a0.length : Int))) rfl (fun c4778 => ?_) (fun c4778 => ?_)
                · replace H := (ifT c4778).symm.trans H
                  refine AWp.skip ?_
                  refine AWp.seq ?_
                  refine AWp.block ?_
                  refine AWp.seq ?_
                  obtain ⟨b4782, p4783, q4784, H⟩ := at_of H
                  refine reg hP hn hm [(0, .c (epluvialref17_Item b4782)), (2, .k 27)] [3, 11, 13, 83, 84, 85] [26, 27] ⟨[(3, .im (.row (x4737.map eplan_Item))), (11, .own 26), (13, .ptr 27 0 0), (83, .im (.row (a0.map epluvialref17_Item))), (84, iV .i64 (a0.length : Int)), (85, iV .i64 x4777)], [(26, some (.row 4 31 (t4740.map epluvialref17_Item))), (27, some (.box 31 (apluvialref17_Item b4782)))], 0⟩ [0 ≤ x4777, (a0.map epluvialref17_Item)[(Int.toNat (x4777))]? = some (epluvialref17_Item b4782)] (by kernel_rfl) ⟨by exact p4783, by exact el_map epluvialref17_Item q4784, trivial⟩ ?_
                  refine AWp.seq ?_
                  refine reg hP hn hm [] [3, 11, 13, 14, 83, 84, 85] [26, 27] ⟨[(3, .im (.row (x4737.map eplan_Item))), (11, .own 26), (13, .ptr 27 0 0), (14, bV false), (83, .im (.row (a0.map epluvialref17_Item))), (84, iV .i64 (a0.length : Int)), (85, iV .i64 x4777)], [(26, some (.row 4 31 (t4740.map epluvialref17_Item))), (27, some (.box 31 (apluvialref17_Item b4782)))], 0⟩ [] (by kernel_rfl) trivial ?_
                  refine AWp.seq ?_
                  refine AWp.seq ?_
                  refine reg hP hn hm [(1, .any (iV .i64 (t4740.length : Int)))] [3, 11, 13, 14, 83, 84, 85, 89, 90, 91] [26, 27] ⟨[(3, .im (.row (x4737.map eplan_Item))), (11, .own 26), (13, .ptr 27 0 0), (14, bV false), (83, .im (.row (a0.map epluvialref17_Item))), (84, iV .i64 (a0.length : Int)), (85, iV .i64 x4777), (89, .own 26), (90, iV .i64 (t4740.length : Int)), (91, iV .i64 0)], [(26, some (.row 4 31 (t4740.map epluvialref17_Item))), (27, some (.box 31 (apluvialref17_Item b4782)))], 0⟩ [((t4740.map epluvialref17_Item).length : Int) = (t4740.length : Int)] (by kernel_rfl) ⟨by rw [len_map], trivial⟩ ?_
                  refine AWp.block ?_
                  obtain ⟨o4891, e4892, H⟩ := bind_of H
                  refine AWp.loop (LWp.conv (inv := [(26, 32), (27, 33)]) (vk := []) (e0 := []) (t := ⟨[(3, .im (.row (x4737.map eplan_Item))), (11, .own 32), (13, .ptr 33 0 0), (14, bV false), (83, .im (.row (a0.map epluvialref17_Item))), (84, iV .i64 (a0.length : Int)), (85, iV .i64 x4777), (89, .own 32), (90, iV .i64 (t4740.length : Int)), (91, iV .i64 0)], [(32, some (.row 4 31 (t4740.map epluvialref17_Item))), (33, some (.box 31 (apluvialref17_Item b4782)))], 0⟩) (by kernel_rfl) ?_)
                  refine LWp.mono (Q := fun e s => (match (generalizing := false) o4891 with | x4811 => e = .exit 6 ∧ s = ⟨[(3, .im (.row (x4737.map eplan_Item))), (11, .own 37), (14, bV x4811), (83, .im (.row (a0.map epluvialref17_Item))), (84, iV .i64 (a0.length : Int)), (85, iV .i64 x4777)], [(37, some (.row 4 31 (t4740.map epluvialref17_Item)))], 0⟩)) (LWp.cv (withBody (fun body hbody => ?_))) ?_
                  · refine f_pluviallaw17_PlanEnds.l3.partial_correctness a0 b4782 t4740 x4737 x4777 (motive := fun x4797 x4798 o4891 => LWp Γ body (fun e s => ∃ t, Cv Γ s t ∧ (match (generalizing := false) o4891 with | x4811 => e = .exit 6 ∧ t = ⟨[(3, .im (.row (x4737.map eplan_Item))), (11, .own 37), (14, bV x4811), (83, .im (.row (a0.map epluvialref17_Item))), (84, iV .i64 (a0.length : Int)), (85, iV .i64 x4777)], [(37, some (.row 4 31 (t4740.map epluvialref17_Item)))], 0⟩)) ⟨[(3, .im (.row (x4737.map eplan_Item))), (11, .own 32), (13, .ptr 33 0 0), (14, bV x4797), (83, .im (.row (a0.map epluvialref17_Item))), (84, iV .i64 (a0.length : Int)), (85, iV .i64 x4777), (89, .own 32), (90, iV .i64 (t4740.length : Int)), (91, iV .i64 x4798)], [(32, some (.row 4 31 (t4740.map epluvialref17_Item))), (33, some (.box 31 (apluvialref17_Item b4782)))], 0⟩) ?_ _ _ _ e4892
                    clear H e4892 o4891; intro self ih x4797 x4798 o4891 H
                    subst hbody
                    refine LWp.round ?_
                    refine AWp.seq ?_
                    refine reg hP hn hm [] [3, 11, 13, 14, 83, 84, 85, 89, 90, 91, 92] [32, 33] ⟨[(3, .im (.row (x4737.map eplan_Item))), (11, .own 32), (13, .ptr 33 0 0), (14, bV x4797), (83, .im (.row (a0.map epluvialref17_Item))), (84, iV .i64 (a0.length : Int)), (85, iV .i64 x4777), (89, .own 32), (90, iV .i64 (t4740.length : Int)), (91, iV .i64 x4798), (92, bV (decide (x4798 < (t4740.length : Int))))], [(32, some (.row 4 31 (t4740.map epluvialref17_Item))), (33, some (.box 31 (apluvialref17_Item b4782)))], 0⟩ [] (by kernel_rfl) trivial ?_
                    refine AWp.seq ?_
                    refine AWp.cond (decide (x4798 < (t4740.length : Int))) rfl (fun c4799 => ?_) (fun c4799 => ?_)
                    · replace H := (ifT c4799).symm.trans H
                      refine AWp.skip ?_
                      refine AWp.seq ?_
                      refine AWp.block ?_
                      refine AWp.seq ?_
                      obtain ⟨b4803, p4804, q4805, H⟩ := at_of H
                      refine reg hP hn hm [(1, .c (epluvialref17_Item b4803)), (2, .k 34)] [3, 11, 13, 14, 16, 83, 84, 85, 89, 90, 91] [32, 33, 34] ⟨[(3, .im (.row (x4737.map eplan_Item))), (11, .own 32), (13, .ptr 33 0 0), (14, bV x4797), (16, .ptr 34 0 0), (83, .im (.row (a0.map epluvialref17_Item))), (84, iV .i64 (a0.length : Int)), (85, iV .i64 x4777), (89, .own 32), (90, iV .i64 (t4740.length : Int)), (91, iV .i64 x4798)], [(32, some (.row 4 31 (t4740.map epluvialref17_Item))), (33, some (.box 31 (apluvialref17_Item b4782))), (34, some (.box 31 (apluvialref17_Item b4803)))], 0⟩ [0 ≤ x4798, x4798 < (((t4740.map epluvialref17_Item).length : Nat) : Int), (t4740.map epluvialref17_Item)[(Int.toNat (x4798))]? = some (epluvialref17_Item b4803)] (by kernel_rfl) ⟨by exact p4804, by exact el_lt epluvialref17_Item p4804 q4805, by exact el_map epluvialref17_Item q4805, trivial⟩ ?_
                      obtain ⟨o4893, e4894, H⟩ := bind_of H
                      refine AWp.mono (Q := fun e s => (match (generalizing := false) o4893 with | x4810 => e = .normal ∧ s = ⟨[(3, .im (.row (x4737.map eplan_Item))), (11, .own 35), (13, .ptr 36 0 0), (14, bV x4810), (83, .im (.row (a0.map epluvialref17_Item))), (84, iV .i64 (a0.length : Int)), (85, iV .i64 x4777), (89, .own 35), (90, iV .i64 (t4740.length : Int)), (91, iV .i64 x4798)], [(35, some (.row 4 31 (t4740.map epluvialref17_Item))), (36, some (.box 31 (apluvialref17_Item b4782)))], 0⟩)) (AWp.cv ?_) ?_
                      · replace H := e4894; clear e4894
                        rcases Bool.eq_false_or_eq_true x4797 with c4808 | c4808
                        · replace H := (ifT c4808).symm.trans H
                          refine reg hP hn hm [(1, .b true)] [3, 11, 13, 14, 83, 84, 85, 89, 90, 91] [32, 33] ⟨[(3, .im (.row (x4737.map eplan_Item))), (11, .own 32), (13, .ptr 33 0 0), (14, bV true), (83, .im (.row (a0.map epluvialref17_Item))), (84, iV .i64 (a0.length : Int)), (85, iV .i64 x4777), (89, .own 32), (90, iV .i64 (t4740.length : Int)), (91, iV .i64 x4798)], [(32, some (.row 4 31 (t4740.map epluvialref17_Item))), (33, some (.box 31 (apluvialref17_Item b4782)))], 0⟩ [x4797 = true] (by kernel_rfl) ⟨by exact c4808, trivial⟩ ?_
                          obtain rfl := Option.some.inj H
                          exact Exists.intro _ (And.intro (fun _ _ h => h.conv (inv := [(32, 35), (33, 36)]) (vk := []) (e0 := []) (t := ⟨[(3, .im (.row (x4737.map eplan_Item))), (11, .own 35), (13, .ptr 36 0 0), (14, bV true), (83, .im (.row (a0.map epluvialref17_Item))), (84, iV .i64 (a0.length : Int)), (85, iV .i64 x4777), (89, .own 35), (90, iV .i64 (t4740.length : Int)), (91, iV .i64 x4798)], [(35, some (.row 4 31 (t4740.map epluvialref17_Item))), (36, some (.box 31 (apluvialref17_Item b4782)))], 0⟩) (by kernel_rfl)) (And.intro rfl rfl))
                        · replace H := (ifF c4808).symm.trans H
                          rcases Bool.eq_false_or_eq_true (decide (b4803.f2 ≤ b4782.f2)) with c4809 | c4809
                          · replace H := (ifT c4809).symm.trans H
                            refine reg hP hn hm [(1, .b false), (7, .b true)] [3, 11, 13, 14, 83, 84, 85, 89, 90, 91, 97, 98, 99, 100, 101, 102, 103, 104, 105, 106, 107, 108] [32, 33, 34] ⟨[(3, .im (.row (x4737.map eplan_Item))), (11, .own 32), (13, .ptr 33 0 0), (14, bV (decide (b4803.f3 ≥ b4782.f3))), (83, .im (.row (a0.map epluvialref17_Item))), (84, iV .i64 (a0.length : Int)), (85, iV .i64 x4777), (89, .own 32), (90, iV .i64 (t4740.length : Int)), (91, iV .i64 x4798), (97, .ptr 34 0 2), (98, iV .i64 b4803.f2), (99, .ptr 33 0 2), (100, iV .i64 b4782.f2), (101, bV (decide (b4803.f2 ≤ b4782.f2))), (102, bV true), (103, .ptr 34 0 3), (104, iV .i64 b4803.f3), (105, .ptr 33 0 3), (106, iV .i64 b4782.f3), (107, bV (decide (b4803.f3 ≥ b4782.f3))), (108, bV (decide (b4803.f3 ≥ b4782.f3)))], [(32, some (.row 4 31 (t4740.map epluvialref17_Item))), (33, some (.box 31 (apluvialref17_Item b4782))), (34, some (.box 31 (apluvialref17_Item b4803)))], 0⟩ [x4797 = false, (decide (b4803.f2 ≤ b4782.f2)) = true] (by kernel_rfl) ⟨by exact c4808, by exact c4809, trivial⟩ ?_
                            obtain rfl := Option.some.inj H
                            exact Exists.intro _ (And.intro (fun _ _ h => h.conv (inv := [(32, 35), (33, 36)]) (vk := []) (e0 := []) (t := ⟨[(3, .im (.row (x4737.map eplan_Item))), (11, .own 35), (13, .ptr 36 0 0), (14, bV (decide (b4803.f3 ≥ b4782.f3))), (83, .im (.row (a0.map epluvialref17_Item))), (84, iV .i64 (a0.length : Int)), (85, iV .i64 x4777), (89, .own 35), (90, iV .i64 (t4740.length : Int)), (91, iV .i64 x4798)], [(35, some (.row 4 31 (t4740.map epluvialref17_Item))), (36, some (.box 31 (apluvialref17_Item b4782)))], 0⟩) (by kernel_rfl)) (And.intro rfl rfl))
                          · replace H := (ifF c4809).symm.trans H
                            refine reg hP hn hm [(1, .b false), (7, .b false)] [3, 11, 13, 14, 83, 84, 85, 89, 90, 91, 97, 98, 99, 100, 101, 102, 108] [32, 33, 34] ⟨[(3, .im (.row (x4737.map eplan_Item))), (11, .own 32), (13, .ptr 33 0 0), (14, bV false), (83, .im (.row (a0.map epluvialref17_Item))), (84, iV .i64 (a0.length : Int)), (85, iV .i64 x4777), (89, .own 32), (90, iV .i64 (t4740.length : Int)), (91, iV .i64 x4798), (97, .ptr 34 0 2), (98, iV .i64 b4803.f2), (99, .ptr 33 0 2), (100, iV .i64 b4782.f2), (101, bV (decide (b4803.f2 ≤ b4782.f2))), (102, bV false), (108, bV false)], [(32, some (.row 4 31 (t4740.map epluvialref17_Item))), (33, some (.box 31 (apluvialref17_Item b4782))), (34, some (.box 31 (apluvialref17_Item b4803)))], 0⟩ [x4797 = false, (decide (b4803.f2 ≤ b4782.f2)) = false] (by kernel_rfl) ⟨by exact c4808, by exact c4809, trivial⟩ ?_
                            obtain rfl := Option.some.inj H
                            exact Exists.intro _ (And.intro (fun _ _ h => h.conv (inv := [(32, 35), (33, 36)]) (vk := []) (e0 := []) (t := ⟨[(3, .im (.row (x4737.map eplan_Item))), (11, .own 35), (13, .ptr 36 0 0), (14, bV false), (83, .im (.row (a0.map epluvialref17_Item))), (84, iV .i64 (a0.length : Int)), (85, iV .i64 x4777), (89, .own 35), (90, iV .i64 (t4740.length : Int)), (91, iV .i64 x4798)], [(35, some (.row 4 31 (t4740.map epluvialref17_Item))), (36, some (.box 31 (apluvialref17_Item b4782)))], 0⟩) (by kernel_rfl)) (And.intro rfl rfl))
                      · obtain ⟨x4810, rfl⟩ : ∃ z, z = o4893 := ⟨_, rfl⟩
                        rintro e s ⟨rfl, rfl⟩
                        refine reg hP hn hm [] [3, 11, 13, 14, 83, 84, 85, 89, 90, 91] [35, 36] ⟨[(3, .im (.row (x4737.map eplan_Item))), (11, .own 35), (13, .ptr 36 0 0), (14, bV x4810), (83, .im (.row (a0.map epluvialref17_Item))), (84, iV .i64 (a0.length : Int)), (85, iV .i64 x4777), (89, .own 35), (90, iV .i64 (t4740.length : Int)), (91, iV .i64 (IntKind.i64.wrap (x4798 + (1 : Int))))], [(35, some (.row 4 31 (t4740.map epluvialref17_Item))), (36, some (.box 31 (apluvialref17_Item b4782)))], 0⟩ [] (by kernel_rfl) trivial ?_
                        exact LWp.conv (inv := [(35, 32), (36, 33)]) (vk := []) (e0 := []) (t := ⟨[(3, .im (.row (x4737.map eplan_Item))), (11, .own 32), (13, .ptr 33 0 0), (14, bV x4810), (83, .im (.row (a0.map epluvialref17_Item))), (84, iV .i64 (a0.length : Int)), (85, iV .i64 x4777), (89, .own 32), (90, iV .i64 (t4740.length : Int)), (91, iV .i64 (IntKind.i64.wrap (x4798 + (1 : Int))))], [(32, some (.row 4 31 (t4740.map epluvialref17_Item))), (33, some (.box 31 (apluvialref17_Item b4782)))], 0⟩) (by kernel_rfl) (ih _ _ _ H)
                    · replace H := (ifF c4799).symm.trans H
                      refine AWp.exit ?_
                      obtain rfl := Option.some.inj H
                      exact Exists.intro _ (And.intro (fun _ _ h => h.conv (inv := [(32, 37)]) (vk := []) (e0 := []) (t := ⟨[(3, .im (.row (x4737.map eplan_Item))), (11, .own 37), (14, bV x4797), (83, .im (.row (a0.map epluvialref17_Item))), (84, iV .i64 (a0.length : Int)), (85, iV .i64 x4777)], [(37, some (.row 4 31 (t4740.map epluvialref17_Item)))], 0⟩) (by kernel_rfl)) (And.intro rfl rfl))
                  · obtain ⟨x4811, rfl⟩ : ∃ z, z = o4891 := ⟨_, rfl⟩
                    rintro e s ⟨rfl, rfl⟩
                    refine AWp.seq ?_
                    refine reg hP hn hm [] [3, 11, 83, 84, 85, 112] [37] ⟨[(3, .im (.row (x4737.map eplan_Item))), (11, .own 37), (83, .im (.row (a0.map epluvialref17_Item))), (84, iV .i64 (a0.length : Int)), (85, iV .i64 x4777), (112, bV (!x4811))], [(37, some (.row 4 31 (t4740.map epluvialref17_Item)))], 0⟩ [] (by kernel_rfl) trivial ?_
                    refine AWp.cond (!x4811) rfl (fun c4812 => ?_) (fun c4812 => ?_)
                    · replace H := (ifT c4812).symm.trans H
                      refine AWp.seq ?_
                      refine reg hP hn hm [] [2] [] ⟨[(2, bV false)], [], 0⟩ [] (by kernel_rfl) trivial ?_
                      refine AWp.conv (inv := []) (vk := []) (e0 := []) (t := ⟨[(2, bV false)], [], 0⟩) (by kernel_rfl) ?_
                      refine AWp.ret ?_
                      obtain rfl := Option.some.inj H
                      exact Exists.intro _ (And.intro (fun _ _ h => h) (And.intro rfl (And.intro rfl (And.intro (by kernel_rfl) (by kernel_rfl)))))
                    · replace H := (ifF c4812).symm.trans H
                      refine AWp.skip ?_
                      refine reg hP hn hm [] [3, 11, 83, 84, 85] [37] ⟨[(3, .im (.row (x4737.map eplan_Item))), (11, .own 37), (83, .im (.row (a0.map epluvialref17_Item))), (84, iV .i64 (a0.length : Int)), (85, iV .i64 (IntKind.i64.wrap (x4777 + (1 : Int))))], [(37, some (.row 4 31 (t4740.map epluvialref17_Item)))], 0⟩ [] (by kernel_rfl) trivial ?_
                      exact LWp.conv (inv := [(37, 26)]) (vk := []) (e0 := []) (t := ⟨[(3, .im (.row (x4737.map eplan_Item))), (11, .own 26), (83, .im (.row (a0.map epluvialref17_Item))), (84, iV .i64 (a0.length : Int)), (85, iV .i64 (IntKind.i64.wrap (x4777 + (1 : Int))))], [(26, some (.row 4 31 (t4740.map epluvialref17_Item)))], 0⟩) (by kernel_rfl) (ih _ _ H)
                · replace H := (ifF c4778).symm.trans H
                  refine AWp.exit ?_
                  obtain rfl := Option.some.inj H
                  exact Exists.intro _ (And.intro (fun _ _ h => h.conv (inv := [(26, 38)]) (vk := []) (e0 := []) (t := ⟨[(3, .im (.row (x4737.map eplan_Item))), (11, .own 38)], [(38, some (.row 4 31 (t4740.map epluvialref17_Item)))], 0⟩) (by kernel_rfl)) (And.intro rfl rfl))
              · rcases o4889 with rr | _
                · skip
                  rintro e s ⟨rfl, hfl, hres⟩
                  obtain rfl := Option.some.inj H
                  exact Exists.intro _ (And.intro (fun _ _ h => h) (And.intro (.inl rfl) (And.intro hfl hres)))
                · skip
                  rintro e s ⟨rfl, rfl⟩
                  refine AWp.seq ?_
                  obtain ⟨o4895, e4896, H⟩ := bind_of H
                  refine AWp.mono (Q := fun e s => (match (generalizing := false) o4895 with | x4880 => e = .normal ∧ s = ⟨[(2, bV x4880)], [], 0⟩)) (AWp.cv ?_) ?_
                  · replace H := e4896; clear e4896
                    obtain ⟨t4869, e4870, H⟩ := bind_of H
                    rcases Bool.eq_false_or_eq_true t4869 with c4871 | c4871
                    · replace H := (ifT c4871).symm.trans H
                      obtain ⟨t4872, e4873, H⟩ := bind_of H
                      rcases Bool.eq_false_or_eq_true t4872 with c4874 | c4874
                      · replace H := (ifT c4874).symm.trans H
                        obtain ⟨t4875, e4876, H⟩ := bind_of H
                        rcases Bool.eq_false_or_eq_true t4875 with c4877 | c4877
                        · replace H := (ifT c4877).symm.trans H
                          obtain ⟨t4878, e4879, H⟩ := bind_of H
                          refine reg hP hn hm [(0, .call [] [] [] [] 0 (bV t4869) []), (1, .b true), (3, .call [] [] [38] [] 0 (bV t4872) []), (5, .b true), (7, .call [] [] [38] [] 0 (bV t4875) []), (9, .b true), (11, .call [] [] [] [] 0 (bV t4878) [])] [2] [] ⟨[(2, bV t4878)], [], 0⟩ [Enters Try.prog 13, Pv.Fn Try.prog 13 [] [] 0 (fun r o => r = bV t4869 ∧ o = []), t4869 = true, Enters Try.prog 12, Pv.Fn Try.prog 12 [.im (.row (t4740.map epluvialref17_Item))] [] 0 (fun r o => r = bV t4872 ∧ o = []), t4872 = true, Enters Try.prog 21, Pv.Fn Try.prog 21 [.im (.row (t4740.map epluvialref17_Item))] [] 0 (fun r o => r = bV t4875 ∧ o = []), t4875 = true, Enters Try.prog 18, Pv.Fn Try.prog 18 [.im (.row (x4737.map eplan_Item))] [] 0 (fun r o => r = bV t4878 ∧ o = [])] (by kernel_rfl) ⟨by exact Try.call13, by exact f_pluviallaw17_awake.ok  t4869 e4870, by exact c4871, by exact Try.call12, by exact f_pluvialref17_Right.ok t4740 t4872 e4873, by exact c4874, by exact Try.call21, by exact f_pluvialref17_Apart.ok t4740 t4875 e4876, by exact c4877, by exact Try.call18, by exact f_plan_Apart.ok x4737 t4878 e4879, trivial⟩ ?_
                          obtain rfl := Option.some.inj H
                          exact Exists.intro _ (And.intro (fun _ _ h => h.conv (inv := []) (vk := []) (e0 := []) (t := ⟨[(2, bV t4878)], [], 0⟩) (by kernel_rfl)) (And.intro rfl rfl))
                        · replace H := (ifF c4877).symm.trans H
                          refine reg hP hn hm [(0, .call [] [] [] [] 0 (bV t4869) []), (1, .b true), (3, .call [] [] [38] [] 0 (bV t4872) []), (5, .b true), (7, .call [] [] [38] [] 0 (bV t4875) []), (9, .b false)] [2] [] ⟨[(2, bV false)], [], 0⟩ [Enters Try.prog 13, Pv.Fn Try.prog 13 [] [] 0 (fun r o => r = bV t4869 ∧ o = []), t4869 = true, Enters Try.prog 12, Pv.Fn Try.prog 12 [.im (.row (t4740.map epluvialref17_Item))] [] 0 (fun r o => r = bV t4872 ∧ o = []), t4872 = true, Enters Try.prog 21, Pv.Fn Try.prog 21 [.im (.row (t4740.map epluvialref17_Item))] [] 0 (fun r o => r = bV t4875 ∧ o = []), t4875 = false] (by kernel_rfl) ⟨by exact Try.call13, by exact f_pluviallaw17_awake.ok  t4869 e4870, by exact c4871, by exact Try.call12, by exact f_pluvialref17_Right.ok t4740 t4872 e4873, by exact c4874, by exact Try.call21, by exact f_pluvialref17_Apart.ok t4740 t4875 e4876, by exact c4877, trivial⟩ ?_
                          obtain rfl := Option.some.inj H
                          exact Exists.intro _ (And.intro (fun _ _ h => h.conv (inv := []) (vk := []) (e0 := []) (t := ⟨[(2, bV false)], [], 0⟩) (by kernel_rfl)) (And.intro rfl rfl))
                      · replace H := (ifF c4874).symm.trans H
                        refine reg hP hn hm [(0, .call [] [] [] [] 0 (bV t4869) []), (1, .b true), (3, .call [] [] [38] [] 0 (bV t4872) []), (5, .b false)] [2] [] ⟨[(2, bV false)], [], 0⟩ [Enters Try.prog 13, Pv.Fn Try.prog 13 [] [] 0 (fun r o => r = bV t4869 ∧ o = []), t4869 = true, Enters Try.prog 12, Pv.Fn Try.prog 12 [.im (.row (t4740.map epluvialref17_Item))] [] 0 (fun r o => r = bV t4872 ∧ o = []), t4872 = false] (by kernel_rfl) ⟨by exact Try.call13, by exact f_pluviallaw17_awake.ok  t4869 e4870, by exact c4871, by exact Try.call12, by exact f_pluvialref17_Right.ok t4740 t4872 e4873, by exact c4874, trivial⟩ ?_
                        obtain rfl := Option.some.inj H
                        exact Exists.intro _ (And.intro (fun _ _ h => h.conv (inv := []) (vk := []) (e0 := []) (t := ⟨[(2, bV false)], [], 0⟩) (by kernel_rfl)) (And.intro rfl rfl))
                    · replace H := (ifF c4871).symm.trans H
                      refine reg hP hn hm [(0, .call [] [] [] [] 0 (bV t4869) []), (1, .b false)] [2] [] ⟨[(2, bV false)], [], 0⟩ [Enters Try.prog 13, Pv.Fn Try.prog 13 [] [] 0 (fun r o => r = bV t4869 ∧ o = []), t4869 = false] (by kernel_rfl) ⟨by exact Try.call13, by exact f_pluviallaw17_awake.ok  t4869 e4870, by exact c4871, trivial⟩ ?_
                      obtain rfl := Option.some.inj H
                      exact Exists.intro _ (And.intro (fun _ _ h => h.conv (inv := []) (vk := []) (e0 := []) (t := ⟨[(2, bV false)], [], 0⟩) (by kernel_rfl)) (And.intro rfl rfl))
                  · obtain ⟨x4880, rfl⟩ : ∃ z, z = o4895 := ⟨_, rfl⟩
                    rintro e s ⟨rfl, rfl⟩
                    refine AWp.conv (inv := []) (vk := []) (e0 := []) (t := ⟨[(2, bV x4880)], [], 0⟩) (by kernel_rfl) ?_
                    refine AWp.ret ?_
                    obtain rfl := Option.some.inj H
                    exact Exists.intro _ (And.intro (fun _ _ h => h) (And.intro (.inl rfl) (And.intro rfl (And.intro (by kernel_rfl) (by kernel_rfl)))))
end Go.Proofs.Ytfkppdcfgmgllaa.PvGD1
