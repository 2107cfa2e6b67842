import Derived.Test.YtfkppdcfgmgllaaProg
import Derived.Test.YtfkppdcfgmgllaaPxPlanTurns07
set_option linter.unusedVariables false
set_option linter.unnecessarySimpa false
set_option linter.unusedSimpArgs false
set_option maxRecDepth 10000
namespace Go.Proofs.Ytfkppdcfgmgllaa.PvGD1
open Go Go.Pv
def f_plan_Within.l0 (a0 : List Tplan_Item) (a1 : Int) (a2 : Int) (x2054 : List Int) (x2055 : Int) : Option (List Int) := if (decide (x2055 < (a0.length : Int))) = true then ((at? a0 x2055) >>= fun b2060 => ((if (decide (b2060.f1.f0 ≥ a2)) = true then ((f_block_Width.f a1) >>= fun t2067 => some (decide (b2060.f1.f1 ≤ (IntKind.i64.wrap (a2 + (IntKind.i64.wrap ((64 : Int) * 2 ^ (min (Int.toNat (IntKind.u64.wrap ((2 : Int) * (IntKind.u64.wrap ((if (if (4 : Int) < a1 then (4 : Int) else a1) > (0 : Int) then (if (4 : Int) < a1 then (4 : Int) else a1) else (0 : Int))))))) 64)))))))) else (some false)) : Option (Bool)) >>= fun x2069 => ((if x2069 = true then ((chk ((x2054.length + [b2060.f0].length) * 8 ≤ 140737488355328)) >>= fun _ => some (x2054 ++ [b2060.f0])) else (some x2054)) : Option (List Int)) >>= fun x2073 => f_plan_Within.l0 a0 a1 a2 x2073 (IntKind.i64.wrap (x2055 + (1 : Int)))) else (some x2054)
partial_fixpoint
def f_plan_Within.f (a0 : List Tplan_Item) (a1 : Int) (a2 : Int) : Option (List Int) := (f_plan_Within.l0 a0 a1 a2 [] 0) >>= fun x2074 => (f_slices_Sort_int.f x2074) >>= fun t3867 => some t3867
theorem f_plan_Within.ok (a0 : List Tplan_Item) (a1 : Int) (a2 : Int) (r : List Int) (H : f_plan_Within.f a0 a1 a2 = some r) : Pv.Fn Try.prog 22 [.im (.row (a0.map eplan_Item)), iV .i64 a1, iV .i64 a2] [] 0 (fun x o => x = .own 0 ∧ o = [(0, some (.row 1 3 (r.map (encInt .i64))))]) := by
  unfold f_plan_Within.f at H
  refine Fn.bodyK [0] Try.func22 rfl rfl (fun Γ hP hn => ?_)
  have hm : Try.prog.follows .mixedOrders = true := by kernel_rfl
  replace hn : Γ.n = 40 := hn
  refine AWp.seq ?_
  refine reg hP hn hm [] [0, 1, 2] [] ⟨[(0, .im (.row (a0.map eplan_Item))), (1, iV .i64 a1), (2, iV .i64 a2)], [], 0⟩ [] (by kernel_rfl) trivial ?_
  refine AWp.seq ?_
  refine reg hP hn hm [] [0, 1, 2, 7] [] ⟨[(0, .im (.row (a0.map eplan_Item))), (1, iV .i64 a1), (2, iV .i64 a2), (7, .none0)], [], 0⟩ [] (by kernel_rfl) trivial ?_
  refine AWp.seq ?_
  refine AWp.seq ?_
  refine reg hP hn hm [(1, .any (iV .i64 (a0.length : Int)))] [1, 2, 7, 10, 11, 12] [] ⟨[(1, iV .i64 a1), (2, iV .i64 a2), (7, .none0), (10, .im (.row (a0.map eplan_Item))), (11, iV .i64 (a0.length : Int)), (12, iV .i64 0)], [], 0⟩ [((a0.map eplan_Item).length : Int) = (a0.length : Int)] (by kernel_rfl) ⟨by rw [len_map], trivial⟩ ?_
  refine AWp.block ?_
  obtain ⟨o3869, e3870, H⟩ := bind_of H
  refine AWp.loop (LWp.conv (inv := []) (vk := []) (e0 := [5]) (t := ⟨[(1, iV .i64 a1), (2, iV .i64 a2), (7, .own 5), (10, .im (.row (a0.map eplan_Item))), (11, iV .i64 (a0.length : Int)), (12, iV .i64 0)], [(5, some (.row 1 3 ([].map (encInt .i64))))], 0⟩) (by kernel_rfl) ?_)
  refine LWp.mono (Q := fun e s => (match (generalizing := false) o3869 with | x2074 => e = .exit 0 ∧ s = ⟨[(7, .own 12)], [(12, some (.row 1 3 (x2074.map (encInt .i64))))], 0⟩)) (LWp.cv (withBody (fun body hbody => ?_))) ?_
  · refine f_plan_Within.l0.partial_correctness a0 a1 a2 (motive := fun x2054 x2055 o3869 => LWp Γ body (fun e s => ∃ t, Cv Γ s t ∧ (match (generalizing := false) o3869 with | x2074 => e = .exit 0 ∧ t = ⟨[(7, .own 12)], [(12, some (.row 1 3 (x2074.map (encInt .i64))))], 0⟩)) ⟨[(1, iV .i64 a1), (2, iV .i64 a2), (7, .own 5), (10, .im (.row (a0.map eplan_Item))), (11, iV .i64 (a0.length : Int)), (12, iV .i64 x2055)], [(5, some (.row 1 3 (x2054.map (encInt .i64))))], 0⟩) ?_ _ _ _ e3870
    clear H e3870 o3869; intro self ih x2054 x2055 o3869 H
    subst hbody
    refine LWp.round ?_
    refine AWp.seq ?_
    refine reg hP hn hm [] [1, 2, 7, 10, 11, 12, 13] [5] ⟨[(1, iV .i64 a1), (2, iV .i64 a2), (7, .own 5), (10, .im (.row (a0.map eplan_Item))), (11, iV .i64 (a0.length : Int)), (12, iV .i64 x2055), (13, bV (decide (x2055 < (a0.length : Int))))], [(5, some (.row 1 3 (x2054.map (encInt .i64))))], 0⟩ [] (by kernel_rfl) trivial ?_
    refine AWp.seq ?_
    refine AWp.cond (decide (x2055 < (a0.length : Int))) rfl (fun c2056 => ?_) (fun c2056 => ?_)
    · replace H := (ifT c2056).symm.trans H
      refine AWp.skip ?_
      refine AWp.seq ?_
      refine AWp.block ?_
      refine AWp.seq ?_
      obtain ⟨b2060, p2061, q2062, H⟩ := at_of H
      refine reg hP hn hm [(0, .c (eplan_Item b2060)), (2, .k 6)] [1, 2, 7, 9, 10, 11, 12] [5, 6] ⟨[(1, iV .i64 a1), (2, iV .i64 a2), (7, .own 5), (9, .ptr 6 0 0), (10, .im (.row (a0.map eplan_Item))), (11, iV .i64 (a0.length : Int)), (12, iV .i64 x2055)], [(5, some (.row 1 3 (x2054.map (encInt .i64)))), (6, some (.box 89 [iV .i64 b2060.f0, iV .i64 b2060.f1.f0, iV .i64 b2060.f1.f1, iV .i64 b2060.f1.f2]))], 0⟩ [0 ≤ x2055, (a0.map eplan_Item)[(Int.toNat (x2055))]? = some (eplan_Item b2060)] (by kernel_rfl) ⟨by exact p2061, by exact el_map eplan_Item q2062, trivial⟩ ?_
      refine AWp.seq ?_
      obtain ⟨o3871, e3872, H⟩ := bind_of H
      refine AWp.mono (Q := fun e s => (match (generalizing := false) o3871 with | x2069 => e = .normal ∧ s = ⟨[(1, iV .i64 a1), (2, iV .i64 a2), (7, .own 7), (9, .ptr 8 0 0), (10, .im (.row (a0.map eplan_Item))), (11, iV .i64 (a0.length : Int)), (12, iV .i64 x2055), (30, bV x2069)], [(7, some (.row 1 3 (x2054.map (encInt .i64)))), (8, some (.box 89 [iV .i64 b2060.f0, iV .i64 b2060.f1.f0, iV .i64 b2060.f1.f1, iV .i64 b2060.f1.f2]))], 0⟩)) (AWp.cv ?_) ?_
      · replace H := e3872; clear e3872
        rcases Bool.eq_false_or_eq_true (decide (b2060.f1.f0 ≥ a2)) with c2066 | c2066
        · replace H := (ifT c2066).symm.trans H
          obtain ⟨t2067, e2068, H⟩ := bind_of H
          refine reg hP hn hm [(5, .b true), (11, .call [] [] [] [] 0 (iV .i64 (IntKind.i64.wrap ((64 : Int) * 2 ^ (min (Int.toNat (IntKind.u64.wrap ((2 : Int) * (IntKind.u64.wrap ((if (if (4 : Int) < a1 then (4 : Int) else a1) > (0 : Int) then (if (4 : Int) < a1 then (4 : Int) else a1) else (0 : Int))))))) 64)))) [])] [1, 2, 7, 9, 10, 11, 12, 22, 23, 24, 25, 26, 27, 28, 29, 30] [5, 6] ⟨[(1, iV .i64 a1), (2, iV .i64 a2), (7, .own 5), (9, .ptr 6 0 0), (10, .im (.row (a0.map eplan_Item))), (11, iV .i64 (a0.length : Int)), (12, iV .i64 x2055), (22, .ptr 6 0 1), (23, .ptr 6 0 2), (24, iV .i64 b2060.f1.f1), (25, iV .i64 a2), (26, iV .i64 a1), (27, iV .i64 (IntKind.i64.wrap ((64 : Int) * 2 ^ (min (Int.toNat (IntKind.u64.wrap ((2 : Int) * (IntKind.u64.wrap ((if (if (4 : Int) < a1 then (4 : Int) else a1) > (0 : Int) then (if (4 : Int) < a1 then (4 : Int) else a1) else (0 : Int))))))) 64)))), (28, iV .i64 (IntKind.i64.wrap (a2 + (IntKind.i64.wrap ((64 : Int) * 2 ^ (min (Int.toNat (IntKind.u64.wrap ((2 : Int) * (IntKind.u64.wrap ((if (if (4 : Int) < a1 then (4 : Int) else a1) > (0 : Int) then (if (4 : Int) < a1 then (4 : Int) else a1) else (0 : Int))))))) 64)))))), (29, bV (decide (b2060.f1.f1 ≤ (IntKind.i64.wrap (a2 + (IntKind.i64.wrap ((64 : Int) * 2 ^ (min (Int.toNat (IntKind.u64.wrap ((2 : Int) * (IntKind.u64.wrap ((if (if (4 : Int) < a1 then (4 : Int) else a1) > (0 : Int) then (if (4 : Int) < a1 then (4 : Int) else a1) else (0 : Int))))))) 64)))))))), (30, bV (decide (b2060.f1.f1 ≤ (IntKind.i64.wrap (a2 + (IntKind.i64.wrap ((64 : Int) * 2 ^ (min (Int.toNat (IntKind.u64.wrap ((2 : Int) * (IntKind.u64.wrap ((if (if (4 : Int) < a1 then (4 : Int) else a1) > (0 : Int) then (if (4 : Int) < a1 then (4 : Int) else a1) else (0 : Int))))))) 64))))))))], [(5, some (.row 1 3 (x2054.map (encInt .i64)))), (6, some (.box 89 [iV .i64 b2060.f0, iV .i64 b2060.f1.f0, iV .i64 b2060.f1.f1, iV .i64 b2060.f1.f2]))], 0⟩ [(decide (b2060.f1.f0 ≥ a2)) = true, Enters Try.prog 37, Pv.Fn Try.prog 37 [iV .i64 a1] [] 0 (fun r o => r = iV .i64 (IntKind.i64.wrap ((64 : Int) * 2 ^ (min (Int.toNat (IntKind.u64.wrap ((2 : Int) * (IntKind.u64.wrap ((if (if (4 : Int) < a1 then (4 : Int) else a1) > (0 : Int) then (if (4 : Int) < a1 then (4 : Int) else a1) else (0 : Int))))))) 64))) ∧ o = [])] (by kernel_rfl) ⟨by exact c2066, by exact Try.call37, by exact f_block_Width.ok a1 t2067 e2068, trivial⟩ ?_
          obtain rfl := Option.some.inj H
          exact Exists.intro _ (And.intro (fun _ _ h => h.conv (inv := [(5, 7), (6, 8)]) (vk := []) (e0 := []) (t := ⟨[(1, iV .i64 a1), (2, iV .i64 a2), (7, .own 7), (9, .ptr 8 0 0), (10, .im (.row (a0.map eplan_Item))), (11, iV .i64 (a0.length : Int)), (12, iV .i64 x2055), (30, bV (decide (b2060.f1.f1 ≤ (IntKind.i64.wrap (a2 + (IntKind.i64.wrap ((64 : Int) * 2 ^ (min (Int.toNat (IntKind.u64.wrap ((2 : Int) * (IntKind.u64.wrap ((if (if (4 : Int) < a1 then (4 : Int) else a1) > (0 : Int) then (if (4 : Int) < a1 then (4 : Int) else a1) else (0 : Int))))))) 64))))))))], [(7, some (.row 1 3 (x2054.map (encInt .i64)))), (8, some (.box 89 [iV .i64 b2060.f0, iV .i64 b2060.f1.f0, iV .i64 b2060.f1.f1, iV .i64 b2060.f1.f2]))], 0⟩) (by kernel_rfl)) (And.intro rfl rfl))
        · replace H := (ifF c2066).symm.trans H
          refine reg hP hn hm [(5, .b false)] [1, 2, 7, 9, 10, 11, 12, 30] [5, 6] ⟨[(1, iV .i64 a1), (2, iV .i64 a2), (7, .own 5), (9, .ptr 6 0 0), (10, .im (.row (a0.map eplan_Item))), (11, iV .i64 (a0.length : Int)), (12, iV .i64 x2055), (30, bV false)], [(5, some (.row 1 3 (x2054.map (encInt .i64)))), (6, some (.box 89 [iV .i64 b2060.f0, iV .i64 b2060.f1.f0, iV .i64 b2060.f1.f1, iV .i64 b2060.f1.f2]))], 0⟩ [(decide (b2060.f1.f0 ≥ a2)) = false] (by kernel_rfl) ⟨by exact c2066, trivial⟩ ?_
          obtain rfl := Option.some.inj H
          exact Exists.intro _ (And.intro (fun _ _ h => h.conv (inv := [(5, 7), (6, 8)]) (vk := []) (e0 := []) (t := ⟨[(1, iV .i64 a1), (2, iV .i64 a2), (7, .own 7), (9, .ptr 8 0 0), (10, .im (.row (a0.map eplan_Item))), (11, iV .i64 (a0.length : Int)), (12, iV .i64 x2055), (30, bV false)], [(7, some (.row 1 3 (x2054.map (encInt .i64)))), (8, some (.box 89 [iV .i64 b2060.f0, iV .i64 b2060.f1.f0, iV .i64 b2060.f1.f1, iV .i64 b2060.f1.f2]))], 0⟩) (by kernel_rfl)) (And.intro rfl rfl))
      · obtain ⟨x2069, rfl⟩ : ∃ z, z = o3871 := ⟨_, rfl⟩
        rintro e s ⟨rfl, rfl⟩
        obtain ⟨o3873, e3874, H⟩ := bind_of H
        refine AWp.mono (Q := fun e s => (match (generalizing := false) o3873 with | x2073 => e = .normal ∧ s = ⟨[(1, iV .i64 a1), (2, iV .i64 a2), (7, .own 11), (10, .im (.row (a0.map eplan_Item))), (11, iV .i64 (a0.length : Int)), (12, iV .i64 x2055)], [(11, some (.row 1 3 (x2073.map (encInt .i64))))], 0⟩)) (AWp.cv ?_) ?_
        · replace H := e3874; clear e3874
          refine AWp.cond x2069 rfl (fun c2070 => ?_) (fun c2070 => ?_)
          · replace H := (ifT c2070).symm.trans H
            obtain ⟨c2072, H⟩ := chk_of H
            refine reg hP hn hm [(3, .app 9 ([b2060.f0].map (encInt .i64))), (4, .app 10 ((x2054 ++ [b2060.f0]).map (encInt .i64)))] [1, 2, 7, 10, 11, 12] [10] ⟨[(1, iV .i64 a1), (2, iV .i64 a2), (7, .own 10), (10, .im (.row (a0.map eplan_Item))), (11, iV .i64 (a0.length : Int)), (12, iV .i64 x2055)], [(10, some (.row 1 3 ((x2054 ++ [b2060.f0]).map (encInt .i64))))], 0⟩ [[b2060.f0].map (encInt .i64) = [[iI .i64 b2060.f0]], (x2054 ++ [b2060.f0]).map (encInt .i64) = (x2054.map (encInt .i64)) ++ ([b2060.f0].map (encInt .i64)), ∀ c ∈ ([b2060.f0].map (encInt .i64)), c.length = 1, ∀ c ∈ ([b2060.f0].map (encInt .i64)), leaves (c.map .im) = true, ((x2054.map (encInt .i64)).length + ([b2060.f0].map (encInt .i64)).length) * 8 ≤ 140737488355328] (by kernel_rfl) ⟨by exact rfl, by simp, by exact all_len _ _ _ (fun _ => rfl), by exact all_leaf _ _ (fun _ => rfl), by simpa using c2072, trivial⟩ ?_
            obtain rfl := Option.some.inj H
            exact Exists.intro _ (And.intro (fun _ _ h => h.conv (inv := [(10, 11)]) (vk := []) (e0 := []) (t := ⟨[(1, iV .i64 a1), (2, iV .i64 a2), (7, .own 11), (10, .im (.row (a0.map eplan_Item))), (11, iV .i64 (a0.length : Int)), (12, iV .i64 x2055)], [(11, some (.row 1 3 ((x2054 ++ [b2060.f0]).map (encInt .i64))))], 0⟩) (by kernel_rfl)) (And.intro rfl rfl))
          · replace H := (ifF c2070).symm.trans H
            refine AWp.skip ?_
            obtain rfl := Option.some.inj H
            exact Exists.intro _ (And.intro (fun _ _ h => h.conv (inv := [(7, 11)]) (vk := []) (e0 := []) (t := ⟨[(1, iV .i64 a1), (2, iV .i64 a2), (7, .own 11), (10, .im (.row (a0.map eplan_Item))), (11, iV .i64 (a0.length : Int)), (12, iV .i64 x2055)], [(11, some (.row 1 3 (x2054.map (encInt .i64))))], 0⟩) (by kernel_rfl)) (And.intro rfl rfl))
        · obtain ⟨x2073, rfl⟩ : ∃ z, z = o3873 := ⟨_, rfl⟩
          rintro e s ⟨rfl, rfl⟩
          refine reg hP hn hm [] [1, 2, 7, 10, 11, 12] [11] ⟨[(1, iV .i64 a1), (2, iV .i64 a2), (7, .own 11), (10, .im (.row (a0.map eplan_Item))), (11, iV .i64 (a0.length : Int)), (12, iV .i64 (IntKind.i64.wrap (x2055 + (1 : Int))))], [(11, some (.row 1 3 (x2073.map (encInt .i64))))], 0⟩ [] (by kernel_rfl) trivial ?_
          exact LWp.conv (inv := [(11, 5)]) (vk := []) (e0 := []) (t := ⟨[(1, iV .i64 a1), (2, iV .i64 a2), (7, .own 5), (10, .im (.row (a0.map eplan_Item))), (11, iV .i64 (a0.length : Int)), (12, iV .i64 (IntKind.i64.wrap (x2055 + (1 : Int))))], [(5, some (.row 1 3 (x2073.map (encInt .i64))))], 0⟩) (by kernel_rfl) (ih _ _ _ H)
    · replace H := (ifF c2056).symm.trans H
      refine AWp.exit ?_
      obtain rfl := Option.some.inj H
      exact Exists.intro _ (And.intro (fun _ _ h => h.conv (inv := [(5, 12)]) (vk := []) (e0 := []) (t := ⟨[(7, .own 12)], [(12, some (.row 1 3 (x2054.map (encInt .i64))))], 0⟩) (by kernel_rfl)) (And.intro rfl rfl))
  · obtain ⟨x2074, rfl⟩ : ∃ z, z = o3869 := ⟨_, rfl⟩
    rintro e s ⟨rfl, rfl⟩
    refine AWp.seq ?_
    obtain ⟨t3867, e3868, H⟩ := bind_of H
    refine reg hP hn hm [(1, .call [(12, 0)] [(0, 12)] [] [] 1 (.tup []) [(0, some (.row 1 3 (t3867.map (encInt .i64))))])] [7] [12] ⟨[(7, .own 12)], [(12, some (.row 1 3 (t3867.map (encInt .i64))))], 0⟩ [Enters Try.prog 34, Pv.Fn Try.prog 34 [.own 0] [(0, some (.row 1 3 (x2074.map (encInt .i64))))] 1 (fun r o => r = .tup [] ∧ o = [(0, some (.row 1 3 (t3867.map (encInt .i64))))])] (by kernel_rfl) ⟨by exact Try.call34, by exact f_slices_Sort_int.ok x2074 t3867 e3868, trivial⟩ ?_
    refine AWp.seq ?_
    refine reg hP hn hm [] [6] [12] ⟨[(6, .own 12)], [(12, some (.row 1 3 (t3867.map (encInt .i64))))], 0⟩ [] (by kernel_rfl) trivial ?_
    refine AWp.conv (inv := [(12, 0)]) (vk := []) (e0 := []) (t := ⟨[(6, .own 0)], [(0, some (.row 1 3 (t3867.map (encInt .i64))))], 0⟩) (by kernel_rfl) ?_
    refine AWp.ret ?_
    obtain rfl := Option.some.inj H
    exact Exists.intro _ (And.intro (fun _ _ h => h) (And.intro (.inl rfl) (And.intro rfl (And.intro (by kernel_rfl) (by kernel_rfl)))))
def f_plan_Next.l1 (t2015 : List Tplan_Item) (x4027 : Int) (x4048 : Int) : Option ((Tplan_Step × Bool) ⊕ Unit) := if (decide (x4048 < (t2015.length : Int))) = true then ((at? t2015 x4048) >>= fun b4053 => (f_block_Low.f x4027 (if (0 : Int) > b4053.f1.f0 then (0 : Int) else b4053.f1.f0)) >>= fun t4058 => (f_plan_Within.f t2015 x4027 (IntKind.i64.wrap ((if (0 : Int) > b4053.f1.f0 then (0 : Int) else b4053.f1.f0) - (Int.tmod (if (0 : Int) > b4053.f1.f0 then (0 : Int) else b4053.f1.f0) (IntKind.i64.wrap ((64 : Int) * 2 ^ (min (Int.toNat (IntKind.u64.wrap ((2 : Int) * (IntKind.u64.wrap ((if (if (4 : Int) < x4027 then (4 : Int) else x4027) > (0 : Int) then (if (4 : Int) < x4027 then (4 : Int) else x4027) else (0 : Int))))))) 64))))))) >>= fun t4062 => ((if (decide (b4053.f1.f2 ≤ x4027)) = true then (some (decide ((t4062.length : Int) > (1 : Int)))) else (some false)) : Option (Bool)) >>= fun x4066 => if x4066 = true then (some (.inl ((⟨t4062, x4027⟩ : Tplan_Step), true))) else (f_plan_Next.l1 t2015 x4027 (IntKind.i64.wrap (x4048 + (1 : Int))))) else (some (.inr ()))
partial_fixpoint
def f_plan_Next.l0 (t2015 : List Tplan_Item) (x4027 : Int) : Option ((Tplan_Step × Bool) ⊕ Unit) := if (decide (x4027 ≤ (4 : Int))) = true then ((f_plan_Next.l1 t2015 x4027 0) >>= fun oo => match oo with | .inl rr => (some (.inl rr)) | .inr _ => (f_plan_Next.l0 t2015 (IntKind.i64.wrap (x4027 + (1 : Int))))) else (some (.inr ()))
partial_fixpoint
def f_plan_Next.f (a0 : List Tplan_Item) : Option (Tplan_Step × Bool) := (f_plan_sorted.f a0) >>= fun t2015 => (f_plan_Next.l0 t2015 0) >>= fun oo => match oo with | .inl rr => (some rr) | .inr _ => (some ((⟨[], 0⟩ : Tplan_Step), false))
theorem f_plan_Next.ok (a0 : List Tplan_Item) (r : Tplan_Step × Bool) (H : f_plan_Next.f a0 = some r) : Pv.Fn Try.prog 16 [.im (.row (a0.map eplan_Item))] [] 0 (fun x o => x = .tup [.agg [.own 0, iV .i64 ((r.1).f1)], bV r.2] ∧ o = [(0, some (.row 1 3 (((r.1).f0).map (encInt .i64))))]) := by
  unfold f_plan_Next.f at H
  refine Fn.bodyK [0] Try.func16 rfl rfl (fun Γ hP hn => ?_)
  have hm : Try.prog.follows .mixedOrders = true := by kernel_rfl
  replace hn : Γ.n = 46 := hn
  refine AWp.seq ?_
  refine reg hP hn hm [(0, .k 0)] [0, 2] [0] ⟨[(0, .im (.row (a0.map eplan_Item))), (2, .ptr 0 0 0)], [(0, some (.box 33 [.none0, iV .i64 0]))], 0⟩ [] (by kernel_rfl) trivial ?_
  refine AWp.seq ?_
  obtain ⟨t2015, e2016, H⟩ := bind_of H
  refine reg hP hn hm [(1, .call [] [(0, 1)] [] [1] 0 (.own 0) [(0, some (.row 4 89 (t2015.map eplan_Item)))])] [0, 2] [0, 1] ⟨[(0, .own 1), (2, .ptr 0 0 0)], [(0, some (.box 33 [.none0, iV .i64 0])), (1, some (.row 4 89 (t2015.map eplan_Item)))], 0⟩ [Enters Try.prog 35, Pv.Fn Try.prog 35 [.im (.row (a0.map eplan_Item))] [] 0 (fun r o => r = .own 0 ∧ o = [(0, some (.row 4 89 (t2015.map eplan_Item)))])] (by kernel_rfl) ⟨by exact Try.call35, by exact f_plan_sorted.ok a0 t2015 e2016, trivial⟩ ?_
  refine AWp.seq ?_
  refine AWp.seq ?_
  refine reg hP hn hm [] [0, 2, 4] [0, 1] ⟨[(0, .own 1), (2, .ptr 0 0 0), (4, iV .i64 0)], [(0, some (.box 33 [.none0, iV .i64 0])), (1, some (.row 4 89 (t2015.map eplan_Item)))], 0⟩ [] (by kernel_rfl) trivial ?_
  refine AWp.block ?_
  obtain ⟨o4068, e4069, H⟩ := bind_of H
  refine AWp.loop (LWp.conv (inv := [(0, 42)]) (vk := [1]) (e0 := []) (t := ⟨[(0, .im (.row (t2015.map eplan_Item))), (2, .ptr 42 0 0), (4, iV .i64 0)], [(42, some (.box 33 [.none0, iV .i64 0]))], 0⟩) (by kernel_rfl) ?_)
  refine LWp.mono (Q := fun e s => (match (generalizing := false) o4068 with | .inl rr => e = .ret ∧ s.floor = 0 ∧ resOf Try.prog Try.f16 s = some (.tup [.agg [.own 0, iV .i64 ((rr.1).f1)], bV rr.2]) ∧ ([(0, s.obj 0)] : List (Nat × Option MObj)) = [(0, some (.row 1 3 (((rr.1).f0).map (encInt .i64))))] | .inr _ => e = .exit 0 ∧ s = ⟨[(2, .ptr 53 0 0)], [(53, some (.box 33 [.none0, iV .i64 0]))], 0⟩)) (LWp.cv (withBody (fun body hbody => ?_))) ?_
  · refine f_plan_Next.l0.partial_correctness t2015 (motive := fun x4027 o4068 => LWp Γ body (fun e s => ∃ t, Cv Γ s t ∧ (match (generalizing := false) o4068 with | .inl rr => e = .ret ∧ t.floor = 0 ∧ resOf Try.prog Try.f16 t = some (.tup [.agg [.own 0, iV .i64 ((rr.1).f1)], bV rr.2]) ∧ ([(0, t.obj 0)] : List (Nat × Option MObj)) = [(0, some (.row 1 3 (((rr.1).f0).map (encInt .i64))))] | .inr _ => e = .exit 0 ∧ t = ⟨[(2, .ptr 53 0 0)], [(53, some (.box 33 [.none0, iV .i64 0]))], 0⟩)) ⟨[(0, .im (.row (t2015.map eplan_Item))), (2, .ptr 42 0 0), (4, iV .i64 x4027)], [(42, some (.box 33 [.none0, iV .i64 0]))], 0⟩) ?_ _ _ e4069
    clear H e4069 o4068; intro self ih x4027 o4068 H
    subst hbody
    refine LWp.round ?_
    refine AWp.seq ?_
    refine AWp.seq ?_
    refine reg hP hn hm [] [0, 2, 4, 12] [42] ⟨[(0, .im (.row (t2015.map eplan_Item))), (2, .ptr 42 0 0), (4, iV .i64 x4027), (12, bV (decide (x4027 ≤ (4 : Int))))], [(42, some (.box 33 [.none0, iV .i64 0]))], 0⟩ [] (by kernel_rfl) trivial ?_
    refine AWp.cond (decide (x4027 ≤ (4 : Int))) rfl (fun c4028 => ?_) (fun c4028 => ?_)
    · replace H := (ifT c4028).symm.trans H
      refine AWp.skip ?_
      refine AWp.seq ?_
      refine AWp.block ?_
      refine AWp.seq ?_
      refine reg hP hn hm [(1, .any (iV .i64 (t2015.length : Int)))] [0, 2, 4, 15, 16, 17] [42] ⟨[(0, .im (.row (t2015.map eplan_Item))), (2, .ptr 42 0 0), (4, iV .i64 x4027), (15, .im (.row (t2015.map eplan_Item))), (16, iV .i64 (t2015.length : Int)), (17, iV .i64 0)], [(42, some (.box 33 [.none0, iV .i64 0]))], 0⟩ [((t2015.map eplan_Item).length : Int) = (t2015.length : Int)] (by kernel_rfl) ⟨by rw [len_map], trivial⟩ ?_
      refine AWp.block ?_
      obtain ⟨o4070, e4071, H⟩ := bind_of H
      refine AWp.loop (LWp.conv (inv := [(42, 47)]) (vk := []) (e0 := []) (t := ⟨[(0, .im (.row (t2015.map eplan_Item))), (2, .ptr 47 0 0), (4, iV .i64 x4027), (15, .im (.row (t2015.map eplan_Item))), (16, iV .i64 (t2015.length : Int)), (17, iV .i64 0)], [(47, some (.box 33 [.none0, iV .i64 0]))], 0⟩) (by kernel_rfl) ?_)
      refine LWp.mono (Q := fun e s => (match (generalizing := false) o4070 with | .inl rr => e = .ret ∧ s.floor = 0 ∧ resOf Try.prog Try.f16 s = some (.tup [.agg [.own 0, iV .i64 ((rr.1).f1)], bV rr.2]) ∧ ([(0, s.obj 0)] : List (Nat × Option MObj)) = [(0, some (.row 1 3 (((rr.1).f0).map (encInt .i64))))] | .inr _ => e = .exit 2 ∧ s = ⟨[(0, .im (.row (t2015.map eplan_Item))), (2, .ptr 52 0 0), (4, iV .i64 x4027)], [(52, some (.box 33 [.none0, iV .i64 0]))], 0⟩)) (LWp.cv (withBody (fun body hbody => ?_))) ?_
      · refine f_plan_Next.l1.partial_correctness t2015 x4027 (motive := fun x4048 o4070 => LWp Γ body (fun e s => ∃ t, Cv Γ s t ∧ (match (generalizing := false) o4070 with | .inl rr => e = .ret ∧ t.floor = 0 ∧ resOf Try.prog Try.f16 t = some (.tup [.agg [.own 0, iV .i64 ((rr.1).f1)], bV rr.2]) ∧ ([(0, t.obj 0)] : List (Nat × Option MObj)) = [(0, some (.row 1 3 (((rr.1).f0).map (encInt .i64))))] | .inr _ => e = .exit 2 ∧ t = ⟨[(0, .im (.row (t2015.map eplan_Item))), (2, .ptr 52 0 0), (4, iV .i64 x4027)], [(52, some (.box 33 [.none0, iV .i64 0]))], 0⟩)) ⟨[(0, .im (.row (t2015.map eplan_Item))), (2, .ptr 47 0 0), (4, iV .i64 x4027), (15, .im (.row (t2015.map eplan_Item))), (16, iV .i64 (t2015.length : Int)), (17, iV .i64 x4048)], [(47, some (.box 33 [.none0, iV .i64 0]))], 0⟩) ?_ _ _ e4071
        clear H e4071 o4070; intro self ih x4048 o4070 H
        subst hbody
        refine LWp.round ?_
        refine AWp.seq ?_
        refine reg hP hn hm [] [0, 2, 4, 15, 16, 17, 18] [47] ⟨[(0, .im (.row (t2015.map eplan_Item))), (2, .ptr 47 0 0), (4, iV .i64 x4027), (15, .im (.row (t2015.map eplan_Item))), (16, iV .i64 (t2015.length : Int)), (17, iV .i64 x4048), (18, bV (decide (x4048 < (t2015.length : Int))))], [(47, some (.box 33 [.none0, iV .i64 0]))], 0⟩ [] (by kernel_rfl) trivial ?_
        refine AWp.seq ?_
        refine AWp.cond (decide (x4048 < (t2015.length : Int))) rfl (fun c4049 => ?_) (fun c4049 => ?_)
        · replace H := (ifT c4049).symm.trans H
          refine AWp.skip ?_
          refine AWp.seq ?_
          refine AWp.block ?_
          refine AWp.seq ?_
          obtain ⟨b4053, p4054, q4055, H⟩ := at_of H
          refine reg hP hn hm [(0, .c (eplan_Item b4053)), (2, .k 48)] [0, 2, 4, 6, 15, 16, 17] [47, 48] ⟨[(0, .im (.row (t2015.map eplan_Item))), (2, .ptr 47 0 0), (4, iV .i64 x4027), (6, .ptr 48 0 0), (15, .im (.row (t2015.map eplan_Item))), (16, iV .i64 (t2015.length : Int)), (17, iV .i64 x4048)], [(47, some (.box 33 [.none0, iV .i64 0])), (48, some (.box 89 [iV .i64 b4053.f0, iV .i64 b4053.f1.f0, iV .i64 b4053.f1.f1, iV .i64 b4053.f1.f2]))], 0⟩ [0 ≤ x4048, (t2015.map eplan_Item)[(Int.toNat (x4048))]? = some (eplan_Item b4053)] (by kernel_rfl) ⟨by exact p4054, by exact el_map eplan_Item q4055, trivial⟩ ?_
          refine AWp.seq ?_
          obtain ⟨t4058, e4059, H⟩ := bind_of H
          refine reg hP hn hm [(4, .more xMax), (5, .call [] [] [] [] 0 (iV .i64 (IntKind.i64.wrap ((if (0 : Int) > b4053.f1.f0 then (0 : Int) else b4053.f1.f0) - (Int.tmod (if (0 : Int) > b4053.f1.f0 then (0 : Int) else b4053.f1.f0) (IntKind.i64.wrap ((64 : Int) * 2 ^ (min (Int.toNat (IntKind.u64.wrap ((2 : Int) * (IntKind.u64.wrap ((if (if (4 : Int) < x4027 then (4 : Int) else x4027) > (0 : Int) then (if (4 : Int) < x4027 then (4 : Int) else x4027) else (0 : Int))))))) 64))))))) [])] [0, 2, 4, 6, 7, 15, 16, 17] [47, 48] ⟨[(0, .im (.row (t2015.map eplan_Item))), (2, .ptr 47 0 0), (4, iV .i64 x4027), (6, .ptr 48 0 0), (7, iV .i64 (IntKind.i64.wrap ((if (0 : Int) > b4053.f1.f0 then (0 : Int) else b4053.f1.f0) - (Int.tmod (if (0 : Int) > b4053.f1.f0 then (0 : Int) else b4053.f1.f0) (IntKind.i64.wrap ((64 : Int) * 2 ^ (min (Int.toNat (IntKind.u64.wrap ((2 : Int) * (IntKind.u64.wrap ((if (if (4 : Int) < x4027 then (4 : Int) else x4027) > (0 : Int) then (if (4 : Int) < x4027 then (4 : Int) else x4027) else (0 : Int))))))) 64))))))), (15, .im (.row (t2015.map eplan_Item))), (16, iV .i64 (t2015.length : Int)), (17, iV .i64 x4048)], [(47, some (.box 33 [.none0, iV .i64 0])), (48, some (.box 89 [iV .i64 b4053.f0, iV .i64 b4053.f1.f0, iV .i64 b4053.f1.f1, iV .i64 b4053.f1.f2]))], 0⟩ [Enters Try.prog 36, Pv.Fn Try.prog 36 [iV .i64 x4027, iV .i64 (if (0 : Int) > b4053.f1.f0 then (0 : Int) else b4053.f1.f0)] [] 0 (fun r o => r = iV .i64 (IntKind.i64.wrap ((if (0 : Int) > b4053.f1.f0 then (0 : Int) else b4053.f1.f0) - (Int.tmod (if (0 : Int) > b4053.f1.f0 then (0 : Int) else b4053.f1.f0) (IntKind.i64.wrap ((64 : Int) * 2 ^ (min (Int.toNat (IntKind.u64.wrap ((2 : Int) * (IntKind.u64.wrap ((if (if (4 : Int) < x4027 then (4 : Int) else x4027) > (0 : Int) then (if (4 : Int) < x4027 then (4 : Int) else x4027) else (0 : Int))))))) 64)))))) ∧ o = [])] (by kernel_rfl) ⟨by exact Try.call36, by exact f_block_Low.ok x4027 (if (0 : Int) > b4053.f1.f0 then (0 : Int) else b4053.f1.f0) t4058 e4059, trivial⟩ ?_
          refine AWp.seq ?_
          obtain ⟨t4062, e4063, H⟩ := bind_of H
          refine reg hP hn hm [(3, .call [] [(0, 49)] [] [49] 0 (.own 0) [(0, some (.row 1 3 (t4062.map (encInt .i64))))])] [0, 2, 4, 6, 8, 15, 16, 17] [47, 48, 49] ⟨[(0, .im (.row (t2015.map eplan_Item))), (2, .ptr 47 0 0), (4, iV .i64 x4027), (6, .ptr 48 0 0), (8, .own 49), (15, .im (.row (t2015.map eplan_Item))), (16, iV .i64 (t2015.length : Int)), (17, iV .i64 x4048)], [(47, some (.box 33 [.none0, iV .i64 0])), (48, some (.box 89 [iV .i64 b4053.f0, iV .i64 b4053.f1.f0, iV .i64 b4053.f1.f1, iV .i64 b4053.f1.f2])), (49, some (.row 1 3 (t4062.map (encInt .i64))))], 0⟩ [Enters Try.prog 22, Pv.Fn Try.prog 22 [.im (.row (t2015.map eplan_Item)), iV .i64 x4027, iV .i64 (IntKind.i64.wrap ((if (0 : Int) > b4053.f1.f0 then (0 : Int) else b4053.f1.f0) - (Int.tmod (if (0 : Int) > b4053.f1.f0 then (0 : Int) else b4053.f1.f0) (IntKind.i64.wrap ((64 : Int) * 2 ^ (min (Int.toNat (IntKind.u64.wrap ((2 : Int) * (IntKind.u64.wrap ((if (if (4 : Int) < x4027 then (4 : Int) else x4027) > (0 : Int) then (if (4 : Int) < x4027 then (4 : Int) else x4027) else (0 : Int))))))) 64))))))] [] 0 (fun r o => r = .own 0 ∧ o = [(0, some (.row 1 3 (t4062.map (encInt .i64))))])] (by kernel_rfl) ⟨by exact Try.call22, by exact f_plan_Within.ok t2015 x4027 (IntKind.i64.wrap ((if (0 : Int) > b4053.f1.f0 then (0 : Int) else b4053.f1.f0) - (Int.tmod (if (0 : Int) > b4053.f1.f0 then (0 : Int) else b4053.f1.f0) (IntKind.i64.wrap ((64 : Int) * 2 ^ (min (Int.toNat (IntKind.u64.wrap ((2 : Int) * (IntKind.u64.wrap ((if (if (4 : Int) < x4027 then (4 : Int) else x4027) > (0 : Int) then (if (4 : Int) < x4027 then (4 : Int) else x4027) else (0 : Int))))))) 64)))))) t4062 e4063, trivial⟩ ?_
          refine AWp.seq ?_
          obtain ⟨o4072, e4073, H⟩ := bind_of H
          refine AWp.mono (Q := fun e s => (match (generalizing := false) o4072 with | x4066 => e = .normal ∧ s = ⟨[(0, .im (.row (t2015.map eplan_Item))), (2, .ptr 50 0 0), (4, iV .i64 x4027), (8, .own 51), (15, .im (.row (t2015.map eplan_Item))), (16, iV .i64 (t2015.length : Int)), (17, iV .i64 x4048), (40, bV x4066)], [(50, some (.box 33 [.none0, iV .i64 0])), (51, some (.row 1 3 (t4062.map (encInt .i64))))], 0⟩)) (AWp.cv ?_) ?_
          · replace H := e4073; clear e4073
            rcases Bool.eq_false_or_eq_true (decide (b4053.f1.f2 ≤ x4027)) with c4065 | c4065
            · replace H := (ifT c4065).symm.trans H
              refine reg hP hn hm [(5, .b true), (7, .any (iV .i64 (t4062.length : Int)))] [0, 2, 4, 8, 15, 16, 17, 37, 38, 39, 40] [47, 49] ⟨[(0, .im (.row (t2015.map eplan_Item))), (2, .ptr 47 0 0), (4, iV .i64 x4027), (8, .own 49), (15, .im (.row (t2015.map eplan_Item))), (16, iV .i64 (t2015.length : Int)), (17, iV .i64 x4048), (37, .own 49), (38, iV .i64 (t4062.length : Int)), (39, bV (decide ((t4062.length : Int) > (1 : Int)))), (40, bV (decide ((t4062.length : Int) > (1 : Int))))], [(47, some (.box 33 [.none0, iV .i64 0])), (49, some (.row 1 3 (t4062.map (encInt .i64))))], 0⟩ [(decide (b4053.f1.f2 ≤ x4027)) = true, ((t4062.map (encInt .i64)).length : Int) = (t4062.length : Int)] (by kernel_rfl) ⟨by exact c4065, by rw [len_map], trivial⟩ ?_
              obtain rfl := Option.some.inj H
              exact Exists.intro _ (And.intro (fun _ _ h => h.conv (inv := [(47, 50), (49, 51)]) (vk := []) (e0 := []) (t := ⟨[(0, .im (.row (t2015.map eplan_Item))), (2, .ptr 50 0 0), (4, iV .i64 x4027), (8, .own 51), (15, .im (.row (t2015.map eplan_Item))), (16, iV .i64 (t2015.length : Int)), (17, iV .i64 x4048), (40, bV (decide ((t4062.length : Int) > (1 : Int))))], [(50, some (.box 33 [.none0, iV .i64 0])), (51, some (.row 1 3 (t4062.map (encInt .i64))))], 0⟩) (by kernel_rfl)) (And.intro rfl rfl))
            · replace H := (ifF c4065).symm.trans H
              refine reg hP hn hm [(5, .b false)] [0, 2, 4, 8, 15, 16, 17, 40] [47, 49] ⟨[(0, .im (.row (t2015.map eplan_Item))), (2, .ptr 47 0 0), (4, iV .i64 x4027), (8, .own 49), (15, .im (.row (t2015.map eplan_Item))), (16, iV .i64 (t2015.length : Int)), (17, iV .i64 x4048), (40, bV false)], [(47, some (.box 33 [.none0, iV .i64 0])), (49, some (.row 1 3 (t4062.map (encInt .i64))))], 0⟩ [(decide (b4053.f1.f2 ≤ x4027)) = false] (by kernel_rfl) ⟨by exact c4065, trivial⟩ ?_
              obtain rfl := Option.some.inj H
              exact Exists.intro _ (And.intro (fun _ _ h => h.conv (inv := [(47, 50), (49, 51)]) (vk := []) (e0 := []) (t := ⟨[(0, .im (.row (t2015.map eplan_Item))), (2, .ptr 50 0 0), (4, iV .i64 x4027), (8, .own 51), (15, .im (.row (t2015.map eplan_Item))), (16, iV .i64 (t2015.length : Int)), (17, iV .i64 x4048), (40, bV false)], [(50, some (.box 33 [.none0, iV .i64 0])), (51, some (.row 1 3 (t4062.map (encInt .i64))))], 0⟩) (by kernel_rfl)) (And.intro rfl rfl))
          · obtain ⟨x4066, rfl⟩ : ∃ z, z = o4072 := ⟨_, rfl⟩
            rintro e s ⟨rfl, rfl⟩
            refine AWp.cond x4066 rfl (fun c4067 => ?_) (fun c4067 => ?_)
            · replace H := (ifT c4067).symm.trans H
              refine AWp.seq ?_
              refine reg hP hn hm [] [2, 3] [50, 51] ⟨[(2, .ptr 50 0 0), (3, bV true)], [(50, some (.box 33 [.own 51, iV .i64 x4027])), (51, some (.row 1 3 (t4062.map (encInt .i64))))], 0⟩ [] (by kernel_rfl) trivial ?_
              refine AWp.conv (inv := [(50, 1), (51, 0)]) (vk := []) (e0 := []) (t := ⟨[(2, .ptr 1 0 0), (3, bV true)], [(0, some (.row 1 3 ((((⟨t4062, x4027⟩ : Tplan_Step)).f0).map (encInt .i64)))), (1, some (.box 33 [.own 0, iV .i64 (((⟨t4062, x4027⟩ : Tplan_Step)).f1)]))], 0⟩) (by kernel_rfl) ?_
              refine AWp.ret ?_
              obtain rfl := Option.some.inj H
              exact Exists.intro _ (And.intro (fun _ _ h => h) (And.intro rfl (And.intro rfl (And.intro (by kernel_rfl) (by kernel_rfl)))))
            · replace H := (ifF c4067).symm.trans H
              refine AWp.skip ?_
              refine reg hP hn hm [] [0, 2, 4, 15, 16, 17] [50] ⟨[(0, .im (.row (t2015.map eplan_Item))), (2, .ptr 50 0 0), (4, iV .i64 x4027), (15, .im (.row (t2015.map eplan_Item))), (16, iV .i64 (t2015.length : Int)), (17, iV .i64 (IntKind.i64.wrap (x4048 + (1 : Int))))], [(50, some (.box 33 [.none0, iV .i64 0]))], 0⟩ [] (by kernel_rfl) trivial ?_
              exact LWp.conv (inv := [(50, 47)]) (vk := []) (e0 := []) (t := ⟨[(0, .im (.row (t2015.map eplan_Item))), (2, .ptr 47 0 0), (4, iV .i64 x4027), (15, .im (.row (t2015.map eplan_Item))), (16, iV .i64 (t2015.length : Int)), (17, iV .i64 (IntKind.i64.wrap (x4048 + (1 : Int))))], [(47, some (.box 33 [.none0, iV .i64 0]))], 0⟩) (by kernel_rfl) (ih _ _ H)
        · replace H := (ifF c4049).symm.trans H
          refine AWp.exit ?_
          obtain rfl := Option.some.inj H
          exact Exists.intro _ (And.intro (fun _ _ h => h.conv (inv := [(47, 52)]) (vk := []) (e0 := []) (t := ⟨[(0, .im (.row (t2015.map eplan_Item))), (2, .ptr 52 0 0), (4, iV .i64 x4027)], [(52, some (.box 33 [.none0, iV .i64 0]))], 0⟩) (by kernel_rfl)) (And.intro rfl rfl))
      · rcases o4070 with rr | _
        · skip
          rintro e s ⟨rfl, hfl, hres⟩
          obtain rfl := Option.some.inj H
          exact Exists.intro _ (And.intro (fun _ _ h => h) (And.intro rfl (And.intro hfl hres)))
        · skip
          rintro e s ⟨rfl, rfl⟩
          refine reg hP hn hm [] [0, 2, 4] [52] ⟨[(0, .im (.row (t2015.map eplan_Item))), (2, .ptr 52 0 0), (4, iV .i64 (IntKind.i64.wrap (x4027 + (1 : Int))))], [(52, some (.box 33 [.none0, iV .i64 0]))], 0⟩ [] (by kernel_rfl) trivial ?_
          exact LWp.conv (inv := [(52, 42)]) (vk := []) (e0 := []) (t := ⟨[(0, .im (.row (t2015.map eplan_Item))), (2, .ptr 42 0 0), (4, iV .i64 (IntKind.i64.wrap (x4027 + (1 : Int))))], [(42, some (.box 33 [.none0, iV .i64 0]))], 0⟩) (by kernel_rfl) (ih _ _ H)
    · replace H := (ifF c4028).symm.trans H
      refine AWp.exit ?_
      obtain rfl := Option.some.inj H
      exact Exists.intro _ (And.intro (fun _ _ h => h.conv (inv := [(42, 53)]) (vk := []) (e0 := []) (t := ⟨[(2, .ptr 53 0 0)], [(53, some (.box 33 [.none0, iV .i64 0]))], 0⟩) (by kernel_rfl)) (And.intro rfl rfl))
  · rcases o4068 with rr | _
    · skip
      rintro e s ⟨rfl, hfl, hres⟩
      obtain rfl := Option.some.inj H
      exact Exists.intro _ (And.intro (fun _ _ h => h) (And.intro (.inl rfl) (And.intro hfl hres)))
    · skip
      rintro e s ⟨rfl, rfl⟩
      refine AWp.seq ?_
      refine reg hP hn hm [] [2, 3] [53] ⟨[(2, .ptr 53 0 0), (3, bV false)], [(53, some (.box 33 [.none0, iV .i64 0]))], 0⟩ [] (by kernel_rfl) trivial ?_
      refine AWp.conv (inv := [(53, 1)]) (vk := []) (e0 := [0]) (t := ⟨[(2, .ptr 1 0 0), (3, bV false)], [(0, some (.row 1 3 ((((⟨[], 0⟩ : Tplan_Step)).f0).map (encInt .i64)))), (1, some (.box 33 [.own 0, iV .i64 (((⟨[], 0⟩ : Tplan_Step)).f1)]))], 0⟩) (by kernel_rfl) ?_
      refine AWp.ret ?_
      obtain rfl := Option.some.inj H
      exact Exists.intro _ (And.intro (fun _ _ h => h) (And.intro (.inl rfl) (And.intro rfl (And.intro (by kernel_rfl) (by kernel_rfl)))))
def f_pluviallaw17_ints.l0 (a0 : List Int) (a1 : List Int) (x4097 : Int) : Option (Bool ⊕ Unit) := if (decide (x4097 < (a0.length : Int))) = true then ((at? a0 x4097) >>= fun b4105 => (at? a1 x4097) >>= fun b4108 => if (b4105 != b4108) = true then (some (.inl false)) else (f_pluviallaw17_ints.l0 a0 a1 (IntKind.i64.wrap (x4097 + (1 : Int))))) else (some (.inr ()))
partial_fixpoint
def f_pluviallaw17_ints.f (a0 : List Int) (a1 : List Int) : Option (Bool) := if ((a0.length : Int) != (a1.length : Int)) = true then (some false) else ((f_pluviallaw17_ints.l0 a0 a1 0) >>= fun oo => match oo with | .inl rr => (some rr) | .inr _ => (some true))
theorem f_pluviallaw17_ints.ok (a0 : List Int) (a1 : List Int) (r : Bool) (H : f_pluviallaw17_ints.f a0 a1 = some r) : Pv.Fn Try.prog 17 [.im (.row (a0.map (encInt .i64))), .im (.row (a1.map (encInt .i64)))] [] 0 (fun x o => x = bV r ∧ o = []) := by
  unfold f_pluviallaw17_ints.f at H
  refine Fn.bodyK [] Try.func17 rfl rfl (fun Γ hP hn => ?_)
  have hm : Try.prog.follows .mixedOrders = true := by kernel_rfl
  replace hn : Γ.n = 26 := hn
  refine AWp.seq ?_
  refine reg hP hn hm [] [0, 1] [] ⟨[(0, .im (.row (a0.map (encInt .i64)))), (1, .im (.row (a1.map (encInt .i64))))], [], 0⟩ [] (by kernel_rfl) trivial ?_
  refine AWp.seq ?_
  refine AWp.seq ?_
  refine reg hP hn hm [(1, .any (iV .i64 (a0.length : Int))), (3, .any (iV .i64 (a1.length : Int)))] [0, 1, 10] [] ⟨[(0, .im (.row (a0.map (encInt .i64)))), (1, .im (.row (a1.map (encInt .i64)))), (10, bV ((a0.length : Int) != (a1.length : Int)))], [], 0⟩ [((a0.map (encInt .i64)).length : Int) = (a0.length : Int), ((a1.map (encInt .i64)).length : Int) = (a1.length : Int)] (by kernel_rfl) ⟨by rw [len_map], by rw [len_map], trivial⟩ ?_
  refine AWp.cond ((a0.length : Int) != (a1.length : Int)) rfl (fun c4082 => ?_) (fun c4082 => ?_)
  · replace H := (ifT c4082).symm.trans H
    refine AWp.seq ?_
    refine reg hP hn hm [] [4] [] ⟨[(4, bV false)], [], 0⟩ [] (by kernel_rfl) trivial ?_
    refine AWp.conv (inv := []) (vk := []) (e0 := []) (t := ⟨[(4, bV false)], [], 0⟩) (by kernel_rfl) ?_
    refine AWp.ret ?_
    obtain rfl := Option.some.inj H
    exact Exists.intro _ (And.intro (fun _ _ h => h) (And.intro (.inl rfl) (And.intro rfl (And.intro (by kernel_rfl) (by kernel_rfl)))))
  · replace H := (ifF c4082).symm.trans H
    refine AWp.skip ?_
    refine AWp.seq ?_
    refine AWp.seq ?_
    refine reg hP hn hm [(1, .any (iV .i64 (a0.length : Int)))] [0, 1, 12, 13] [] ⟨[(0, .im (.row (a0.map (encInt .i64)))), (1, .im (.row (a1.map (encInt .i64)))), (12, iV .i64 (a0.length : Int)), (13, iV .i64 0)], [], 0⟩ [((a0.map (encInt .i64)).length : Int) = (a0.length : Int)] (by kernel_rfl) ⟨by rw [len_map], trivial⟩ ?_
    refine AWp.block ?_
    obtain ⟨o4112, e4113, H⟩ := bind_of H
    refine AWp.loop (LWp.conv (inv := []) (vk := []) (e0 := []) (t := ⟨[(0, .im (.row (a0.map (encInt .i64)))), (1, .im (.row (a1.map (encInt .i64)))), (12, iV .i64 (a0.length : Int)), (13, iV .i64 0)], [], 0⟩) (by kernel_rfl) ?_)
    refine LWp.mono (Q := fun e s => (match (generalizing := false) o4112 with | .inl rr => e = .ret ∧ s.floor = 0 ∧ resOf Try.prog Try.f17 s = some (bV rr) ∧ ([] : List (Nat × Option MObj)) = [] | .inr _ => e = .exit 0 ∧ s = ⟨[], [], 0⟩)) (LWp.cv (withBody (fun body hbody => ?_))) ?_
    · refine f_pluviallaw17_ints.l0.partial_correctness a0 a1 (motive := fun x4097 o4112 => LWp Γ body (fun e s => ∃ t, Cv Γ s t ∧ (match (generalizing := false) o4112 with | .inl rr => e = .ret ∧ t.floor = 0 ∧ resOf Try.prog Try.f17 t = some (bV rr) ∧ ([] : List (Nat × Option MObj)) = [] | .inr _ => e = .exit 0 ∧ t = ⟨[], [], 0⟩)) ⟨[(0, .im (.row (a0.map (encInt .i64)))), (1, .im (.row (a1.map (encInt .i64)))), (12, iV .i64 (a0.length : Int)), (13, iV .i64 x4097)], [], 0⟩) ?_ _ _ e4113
      clear H e4113 o4112; intro self ih x4097 o4112 H
      subst hbody
      refine LWp.round ?_
      refine AWp.seq ?_
      refine reg hP hn hm [] [0, 1, 12, 13, 14] [] ⟨[(0, .im (.row (a0.map (encInt .i64)))), (1, .im (.row (a1.map (encInt .i64)))), (12, iV .i64 (a0.length : Int)), (13, iV .i64 x4097), (14, bV (decide (x4097 < (a0.length : Int))))], [], 0⟩ [] (by kernel_rfl) trivial ?_
      refine AWp.seq ?_
      refine AWp.cond (decide (x4097 < (a0.length : Int))) rfl (fun c4098 => ?_) (fun c4098 => ?_)
      · replace H := (ifT c4098).symm.trans H
        refine AWp.skip ?_
        refine AWp.seq ?_
        refine AWp.block ?_
        refine AWp.seq ?_
        refine reg hP hn hm [] [0, 1, 5, 12, 13] [] ⟨[(0, .im (.row (a0.map (encInt .i64)))), (1, .im (.row (a1.map (encInt .i64)))), (5, iV .i64 x4097), (12, iV .i64 (a0.length : Int)), (13, iV .i64 x4097)], [], 0⟩ [] (by kernel_rfl) trivial ?_
        refine AWp.seq ?_
        obtain ⟨b4105, p4106, q4107, H⟩ := at_of H
        obtain ⟨b4108, p4109, q4110, H⟩ := at_of H
        refine reg hP hn hm [(2, .c ((encInt .i64) b4105)), (6, .c ((encInt .i64) b4108))] [0, 1, 12, 13, 24] [] ⟨[(0, .im (.row (a0.map (encInt .i64)))), (1, .im (.row (a1.map (encInt .i64)))), (12, iV .i64 (a0.length : Int)), (13, iV .i64 x4097), (24, bV (b4105 != b4108))], [], 0⟩ [0 ≤ x4097, (a0.map (encInt .i64))[(Int.toNat (x4097))]? = some ((encInt .i64) b4105), 0 ≤ x4097, (a1.map (encInt .i64))[(Int.toNat (x4097))]? = some ((encInt .i64) b4108)] (by kernel_rfl) ⟨by exact p4106, by exact el_map (encInt .i64) q4107, by exact p4109, by exact el_map (encInt .i64) q4110, trivial⟩ ?_
        refine AWp.cond (b4105 != b4108) rfl (fun c4111 => ?_) (fun c4111 => ?_)
        · replace H := (ifT c4111).symm.trans H
          refine AWp.seq ?_
          refine reg hP hn hm [] [4] [] ⟨[(4, bV false)], [], 0⟩ [] (by kernel_rfl) trivial ?_
          refine AWp.conv (inv := []) (vk := []) (e0 := []) (t := ⟨[(4, bV false)], [], 0⟩) (by kernel_rfl) ?_
          refine AWp.ret ?_
          obtain rfl := Option.some.inj H
          exact Exists.intro _ (And.intro (fun _ _ h => h) (And.intro rfl (And.intro rfl (And.intro (by kernel_rfl) (by kernel_rfl)))))
        · replace H := (ifF c4111).symm.trans H
          refine AWp.skip ?_
          refine reg hP hn hm [] [0, 1, 12, 13] [] ⟨[(0, .im (.row (a0.map (encInt .i64)))), (1, .im (.row (a1.map (encInt .i64)))), (12, iV .i64 (a0.length : Int)), (13, iV .i64 (IntKind.i64.wrap (x4097 + (1 : Int))))], [], 0⟩ [] (by kernel_rfl) trivial ?_
          exact LWp.conv (inv := []) (vk := []) (e0 := []) (t := ⟨[(0, .im (.row (a0.map (encInt .i64)))), (1, .im (.row (a1.map (encInt .i64)))), (12, iV .i64 (a0.length : Int)), (13, iV .i64 (IntKind.i64.wrap (x4097 + (1 : Int))))], [], 0⟩) (by kernel_rfl) (ih _ _ H)
      · replace H := (ifF c4098).symm.trans H
        refine AWp.exit ?_
        obtain rfl := Option.some.inj H
        exact Exists.intro _ (And.intro (fun _ _ h => h.conv (inv := []) (vk := []) (e0 := []) (t := ⟨[], [], 0⟩) (by kernel_rfl)) (And.intro rfl rfl))
    · rcases o4112 with rr | _
      · skip
        rintro e s ⟨rfl, hfl, hres⟩
        obtain rfl := Option.some.inj H
        exact Exists.intro _ (And.intro (fun _ _ h => h) (And.intro (.inl rfl) (And.intro hfl hres)))
      · skip
        rintro e s ⟨rfl, rfl⟩
        refine AWp.seq ?_
        refine reg hP hn hm [] [4] [] ⟨[(4, bV true)], [], 0⟩ [] (by kernel_rfl) trivial ?_
        refine AWp.conv (inv := []) (vk := []) (e0 := []) (t := ⟨[(4, bV true)], [], 0⟩) (by kernel_rfl) ?_
        refine AWp.ret ?_
        obtain rfl := Option.some.inj H
        exact Exists.intro _ (And.intro (fun _ _ h => h) (And.intro (.inl rfl) (And.intro rfl (And.intro (by kernel_rfl) (by kernel_rfl)))))
def f_pluviallaw17_awake.f  : Option (Bool) := (f_pluviallaw17_To.f [(⟨1, 0, 0, 64⟩ : Tpluvialref17_Item), (⟨2, 0, 64, 128⟩ : Tpluvialref17_Item)]) >>= fun t4076 => (f_plan_Next.f t4076) >>= fun t4078 => ((if t4078.2 = true then (if (((t4078.1).f1) == (1 : Int)) = true then ((f_pluviallaw17_ints.f ((t4078.1).f0) [1, 2]) >>= fun t4118 => some t4118) else (some false)) else (some false)) : Option (Bool)) >>= fun x4120 => some x4120
theorem f_pluviallaw17_awake.ok  (r : Bool) (H : f_pluviallaw17_awake.f  = some r) : Pv.Fn Try.prog 13 [] [] 0 (fun x o => x = bV r ∧ o = []) := by
  unfold f_pluviallaw17_awake.f at H
  refine Fn.bodyK [] Try.func13 rfl rfl (fun Γ hP hn => ?_)
  have hm : Try.prog.follows .mixedOrders = true := by kernel_rfl
  replace hn : Γ.n = 23 := hn
  refine AWp.seq ?_
  refine reg hP hn hm [] [] [] ⟨[], [], 0⟩ [] (by kernel_rfl) trivial ?_
  refine AWp.seq ?_
  obtain ⟨t4076, e4077, H⟩ := bind_of H
  obtain ⟨t4078, e4079, H⟩ := bind_of H
  refine reg hP hn hm [(2, .app 0 ([(⟨1, 0, 0, 64⟩ : Tpluvialref17_Item), (⟨2, 0, 64, 128⟩ : Tpluvialref17_Item)].map epluvialref17_Item)), (3, .call [] [(0, 1)] [0] [1] 0 (.own 0) [(0, some (.row 4 89 (t4076.map eplan_Item)))]), (4, .call [] [(0, 2)] [1] [2] 0 (.tup [.agg [.own 0, iV .i64 ((t4078.1).f1)], bV t4078.2]) [(0, some (.row 1 3 (((t4078.1).f0).map (encInt .i64))))]), (8, .k 3)] [1, 2] [2, 3] ⟨[(1, .ptr 3 0 0), (2, bV t4078.2)], [(2, some (.row 1 3 (((t4078.1).f0).map (encInt .i64)))), (3, some (.box 33 [.own 2, iV .i64 ((t4078.1).f1)]))], 0⟩ [[(⟨1, 0, 0, 64⟩ : Tpluvialref17_Item), (⟨2, 0, 64, 128⟩ : Tpluvialref17_Item)].map epluvialref17_Item = [[iI .i64 1, iI .i64 0, iI .i64 0, iI .i64 64], [iI .i64 2, iI .i64 0, iI .i64 64, iI .i64 128]], Enters Try.prog 15, Pv.Fn Try.prog 15 [.im (.row ([(⟨1, 0, 0, 64⟩ : Tpluvialref17_Item), (⟨2, 0, 64, 128⟩ : Tpluvialref17_Item)].map epluvialref17_Item))] [] 0 (fun r o => r = .own 0 ∧ o = [(0, some (.row 4 89 (t4076.map eplan_Item)))]), Enters Try.prog 16, Pv.Fn Try.prog 16 [.im (.row (t4076.map eplan_Item))] [] 0 (fun r o => r = .tup [.agg [.own 0, iV .i64 ((t4078.1).f1)], bV t4078.2] ∧ o = [(0, some (.row 1 3 (((t4078.1).f0).map (encInt .i64))))])] (by kernel_rfl) ⟨by exact rfl, by exact Try.call15, by exact f_pluviallaw17_To.ok [(⟨1, 0, 0, 64⟩ : Tpluvialref17_Item), (⟨2, 0, 64, 128⟩ : Tpluvialref17_Item)] t4076 e4077, by exact Try.call16, by exact f_plan_Next.ok t4076 t4078 e4079, trivial⟩ ?_
  refine AWp.seq ?_
  obtain ⟨o4121, e4122, H⟩ := bind_of H
  refine AWp.mono (Q := fun e s => (match (generalizing := false) o4121 with | x4120 => e = .normal ∧ s = ⟨[(0, bV x4120)], [], 0⟩)) (AWp.cv ?_) ?_
  · replace H := e4122; clear e4122
    rcases Bool.eq_false_or_eq_true t4078.2 with c4116 | c4116
    · replace H := (ifT c4116).symm.trans H
      rcases Bool.eq_false_or_eq_true (((t4078.1).f1) == (1 : Int)) with c4117 | c4117
      · replace H := (ifT c4117).symm.trans H
        obtain ⟨t4118, e4119, H⟩ := bind_of H
        refine reg hP hn hm [(1, .b true), (6, .b true), (9, .app 4 ([1, 2].map (encInt .i64))), (10, .call [] [] [2, 4] [] 0 (bV t4118) [])] [0] [] ⟨[(0, bV t4118)], [], 0⟩ [t4078.2 = true, (((t4078.1).f1) == (1 : Int)) = true, [1, 2].map (encInt .i64) = [[iI .i64 1], [iI .i64 2]], Enters Try.prog 17, Pv.Fn Try.prog 17 [.im (.row (((t4078.1).f0).map (encInt .i64))), .im (.row ([1, 2].map (encInt .i64)))] [] 0 (fun r o => r = bV t4118 ∧ o = [])] (by kernel_rfl) ⟨by exact c4116, by exact c4117, by exact rfl, by exact Try.call17, by exact f_pluviallaw17_ints.ok ((t4078.1).f0) [1, 2] t4118 e4119, trivial⟩ ?_
        obtain rfl := Option.some.inj H
        exact Exists.intro _ (And.intro (fun _ _ h => h.conv (inv := []) (vk := []) (e0 := []) (t := ⟨[(0, bV t4118)], [], 0⟩) (by kernel_rfl)) (And.intro rfl rfl))
      · replace H := (ifF c4117).symm.trans H
        refine reg hP hn hm [(1, .b true), (6, .b false)] [0] [] ⟨[(0, bV false)], [], 0⟩ [t4078.2 = true, (((t4078.1).f1) == (1 : Int)) = false] (by kernel_rfl) ⟨by exact c4116, by exact c4117, trivial⟩ ?_
        obtain rfl := Option.some.inj H
        exact Exists.intro _ (And.intro (fun _ _ h => h.conv (inv := []) (vk := []) (e0 := []) (t := ⟨[(0, bV false)], [], 0⟩) (by kernel_rfl)) (And.intro rfl rfl))
    · replace H := (ifF c4116).symm.trans H
      refine reg hP hn hm [(1, .b false)] [0] [] ⟨[(0, bV false)], [], 0⟩ [t4078.2 = false] (by kernel_rfl) ⟨by exact c4116, trivial⟩ ?_
      obtain rfl := Option.some.inj H
      exact Exists.intro _ (And.intro (fun _ _ h => h.conv (inv := []) (vk := []) (e0 := []) (t := ⟨[(0, bV false)], [], 0⟩) (by kernel_rfl)) (And.intro rfl rfl))
  · obtain ⟨x4120, rfl⟩ : ∃ z, z = o4121 := ⟨_, rfl⟩
    rintro e s ⟨rfl, rfl⟩
    refine AWp.conv (inv := []) (vk := []) (e0 := []) (t := ⟨[(0, bV x4120)], [], 0⟩) (by kernel_rfl) ?_
    refine AWp.ret ?_
    obtain rfl := Option.some.inj H
    exact Exists.intro _ (And.intro (fun _ _ h => h) (And.intro (.inl rfl) (And.intro rfl (And.intro (by kernel_rfl) (by kernel_rfl)))))
def f_plan_Apart.l0 (t4182 : List Tplan_Item) (x4191 : Int) (x4192 : Int) : Option (Bool ⊕ Unit) := if (decide (x4192 < (t4182.length : Int))) = true then ((at? t4182 x4192) >>= fun b4197 => ((if (decide (x4192 > (0 : Int))) = true then (some (decide (b4197.f1.f0 < x4191))) else (some false)) : Option (Bool)) >>= fun x4202 => if x4202 = true then (some (.inl false)) else (f_plan_Apart.l0 t4182 (if b4197.f1.f1 > x4191 then b4197.f1.f1 else x4191) (IntKind.i64.wrap (x4192 + (1 : Int))))) else (some (.inr ()))
partial_fixpoint
def f_plan_Apart.f (a0 : List Tplan_Item) : Option (Bool) := (f_plan_sorted.f a0) >>= fun t4182 => (f_plan_Apart.l0 t4182 0 0) >>= fun oo => match oo with | .inl rr => (some rr) | .inr _ => (some true)
theorem f_plan_Apart.ok (a0 : List Tplan_Item) (r : Bool) (H : f_plan_Apart.f a0 = some r) : Pv.Fn Try.prog 18 [.im (.row (a0.map eplan_Item))] [] 0 (fun x o => x = bV r ∧ o = []) := by
  unfold f_plan_Apart.f at H
  refine Fn.bodyK [] Try.func18 rfl rfl (fun Γ hP hn => ?_)
  have hm : Try.prog.follows .mixedOrders = true := by kernel_rfl
  replace hn : Γ.n = 30 := hn
  refine AWp.seq ?_
  refine reg hP hn hm [] [0] [] ⟨[(0, .im (.row (a0.map eplan_Item)))], [], 0⟩ [] (by kernel_rfl) trivial ?_
  refine AWp.seq ?_
  obtain ⟨t4182, e4183, H⟩ := bind_of H
  refine reg hP hn hm [(1, .call [] [(0, 0)] [] [0] 0 (.own 0) [(0, some (.row 4 89 (t4182.map eplan_Item)))])] [0] [0] ⟨[(0, .own 0)], [(0, some (.row 4 89 (t4182.map eplan_Item)))], 0⟩ [Enters Try.prog 35, Pv.Fn Try.prog 35 [.im (.row (a0.map eplan_Item))] [] 0 (fun r o => r = .own 0 ∧ o = [(0, some (.row 4 89 (t4182.map eplan_Item)))])] (by kernel_rfl) ⟨by exact Try.call35, by exact f_plan_sorted.ok a0 t4182 e4183, trivial⟩ ?_
  refine AWp.seq ?_
  refine reg hP hn hm [] [0, 3] [0] ⟨[(0, .own 0), (3, iV .i64 0)], [(0, some (.row 4 89 (t4182.map eplan_Item)))], 0⟩ [] (by kernel_rfl) trivial ?_
  refine AWp.seq ?_
  refine AWp.seq ?_
  refine reg hP hn hm [(1, .any (iV .i64 (t4182.length : Int)))] [3, 8, 9, 10] [0] ⟨[(3, iV .i64 0), (8, .own 0), (9, iV .i64 (t4182.length : Int)), (10, iV .i64 0)], [(0, some (.row 4 89 (t4182.map eplan_Item)))], 0⟩ [((t4182.map eplan_Item).length : Int) = (t4182.length : Int)] (by kernel_rfl) ⟨by rw [len_map], trivial⟩ ?_
  refine AWp.block ?_
  obtain ⟨o4204, e4205, H⟩ := bind_of H
  refine AWp.loop (LWp.conv (inv := [(0, 2)]) (vk := []) (e0 := []) (t := ⟨[(3, iV .i64 0), (8, .own 2), (9, iV .i64 (t4182.length : Int)), (10, iV .i64 0)], [(2, some (.row 4 89 (t4182.map eplan_Item)))], 0⟩) (by kernel_rfl) ?_)
  refine LWp.mono (Q := fun e s => (match (generalizing := false) o4204 with | .inl rr => e = .ret ∧ s.floor = 0 ∧ resOf Try.prog Try.f18 s = some (bV rr) ∧ ([] : List (Nat × Option MObj)) = [] | .inr _ => e = .exit 0 ∧ s = ⟨[], [], 0⟩)) (LWp.cv (withBody (fun body hbody => ?_))) ?_
  · refine f_plan_Apart.l0.partial_correctness t4182 (motive := fun x4191 x4192 o4204 => LWp Γ body (fun e s => ∃ t, Cv Γ s t ∧ (match (generalizing := false) o4204 with | .inl rr => e = .ret ∧ t.floor = 0 ∧ resOf Try.prog Try.f18 t = some (bV rr) ∧ ([] : List (Nat × Option MObj)) = [] | .inr _ => e = .exit 0 ∧ t = ⟨[], [], 0⟩)) ⟨[(3, iV .i64 x4191), (8, .own 2), (9, iV .i64 (t4182.length : Int)), (10, iV .i64 x4192)], [(2, some (.row 4 89 (t4182.map eplan_Item)))], 0⟩) ?_ _ _ _ e4205
    clear H e4205 o4204; intro self ih x4191 x4192 o4204 H
    subst hbody
    refine LWp.round ?_
    refine AWp.seq ?_
    refine reg hP hn hm [] [3, 8, 9, 10, 11] [2] ⟨[(3, iV .i64 x4191), (8, .own 2), (9, iV .i64 (t4182.length : Int)), (10, iV .i64 x4192), (11, bV (decide (x4192 < (t4182.length : Int))))], [(2, some (.row 4 89 (t4182.map eplan_Item)))], 0⟩ [] (by kernel_rfl) trivial ?_
    refine AWp.seq ?_
    refine AWp.cond (decide (x4192 < (t4182.length : Int))) rfl (fun c4193 => ?_) (fun c4193 => ?_)
    · replace H := (ifT c4193).symm.trans H
      refine AWp.skip ?_
      refine AWp.seq ?_
      refine AWp.block ?_
      refine AWp.seq ?_
      obtain ⟨b4197, p4198, q4199, H⟩ := at_of H
      refine reg hP hn hm [(2, .c (eplan_Item b4197)), (3, .k 3)] [3, 4, 5, 8, 9, 10] [2, 3] ⟨[(3, iV .i64 x4191), (4, iV .i64 x4192), (5, .ptr 3 0 0), (8, .own 2), (9, iV .i64 (t4182.length : Int)), (10, iV .i64 x4192)], [(2, some (.row 4 89 (t4182.map eplan_Item))), (3, some (.box 89 [iV .i64 b4197.f0, iV .i64 b4197.f1.f0, iV .i64 b4197.f1.f1, iV .i64 b4197.f1.f2]))], 0⟩ [0 ≤ x4192, x4192 < (((t4182.map eplan_Item).length : Nat) : Int), (t4182.map eplan_Item)[(Int.toNat (x4192))]? = some (eplan_Item b4197)] (by kernel_rfl) ⟨by exact p4198, by exact el_lt eplan_Item p4198 q4199, by exact el_map eplan_Item q4199, trivial⟩ ?_
      refine AWp.seq ?_
      refine AWp.seq ?_
      obtain ⟨o4206, e4207, H⟩ := bind_of H
      refine AWp.mono (Q := fun e s => (match (generalizing := false) o4206 with | x4202 => e = .normal ∧ s = ⟨[(3, iV .i64 x4191), (5, .ptr 4 0 0), (8, .own 5), (9, iV .i64 (t4182.length : Int)), (10, iV .i64 x4192), (23, bV x4202)], [(4, some (.box 89 [iV .i64 b4197.f0, iV .i64 b4197.f1.f0, iV .i64 b4197.f1.f1, iV .i64 b4197.f1.f2])), (5, some (.row 4 89 (t4182.map eplan_Item)))], 0⟩)) (AWp.cv ?_) ?_
      · replace H := e4207; clear e4207
        rcases Bool.eq_false_or_eq_true (decide (x4192 > (0 : Int))) with c4201 | c4201
        · replace H := (ifT c4201).symm.trans H
          refine reg hP hn hm [(2, .b true)] [3, 5, 8, 9, 10, 18, 19, 20, 21, 22, 23] [2, 3] ⟨[(3, iV .i64 x4191), (5, .ptr 3 0 0), (8, .own 2), (9, iV .i64 (t4182.length : Int)), (10, iV .i64 x4192), (18, .ptr 3 0 1), (19, .ptr 3 0 1), (20, iV .i64 b4197.f1.f0), (21, iV .i64 x4191), (22, bV (decide (b4197.f1.f0 < x4191))), (23, bV (decide (b4197.f1.f0 < x4191)))], [(2, some (.row 4 89 (t4182.map eplan_Item))), (3, some (.box 89 [iV .i64 b4197.f0, iV .i64 b4197.f1.f0, iV .i64 b4197.f1.f1, iV .i64 b4197.f1.f2]))], 0⟩ [(decide (x4192 > (0 : Int))) = true] (by kernel_rfl) ⟨by exact c4201, trivial⟩ ?_
          obtain rfl := Option.some.inj H
          exact Exists.intro _ (And.intro (fun _ _ h => h.conv (inv := [(3, 4), (2, 5)]) (vk := []) (e0 := []) (t := ⟨[(3, iV .i64 x4191), (5, .ptr 4 0 0), (8, .own 5), (9, iV .i64 (t4182.length : Int)), (10, iV .i64 x4192), (23, bV (decide (b4197.f1.f0 < x4191)))], [(4, some (.box 89 [iV .i64 b4197.f0, iV .i64 b4197.f1.f0, iV .i64 b4197.f1.f1, iV .i64 b4197.f1.f2])), (5, some (.row 4 89 (t4182.map eplan_Item)))], 0⟩) (by kernel_rfl)) (And.intro rfl rfl))
        · replace H := (ifF c4201).symm.trans H
          refine reg hP hn hm [(2, .b false)] [3, 5, 8, 9, 10, 23] [2, 3] ⟨[(3, iV .i64 x4191), (5, .ptr 3 0 0), (8, .own 2), (9, iV .i64 (t4182.length : Int)), (10, iV .i64 x4192), (23, bV false)], [(2, some (.row 4 89 (t4182.map eplan_Item))), (3, some (.box 89 [iV .i64 b4197.f0, iV .i64 b4197.f1.f0, iV .i64 b4197.f1.f1, iV .i64 b4197.f1.f2]))], 0⟩ [(decide (x4192 > (0 : Int))) = false] (by kernel_rfl) ⟨by exact c4201, trivial⟩ ?_
          obtain rfl := Option.some.inj H
          exact Exists.intro _ (And.intro (fun _ _ h => h.conv (inv := [(3, 4), (2, 5)]) (vk := []) (e0 := []) (t := ⟨[(3, iV .i64 x4191), (5, .ptr 4 0 0), (8, .own 5), (9, iV .i64 (t4182.length : Int)), (10, iV .i64 x4192), (23, bV false)], [(4, some (.box 89 [iV .i64 b4197.f0, iV .i64 b4197.f1.f0, iV .i64 b4197.f1.f1, iV .i64 b4197.f1.f2])), (5, some (.row 4 89 (t4182.map eplan_Item)))], 0⟩) (by kernel_rfl)) (And.intro rfl rfl))
      · obtain ⟨x4202, rfl⟩ : ∃ z, z = o4206 := ⟨_, rfl⟩
        rintro e s ⟨rfl, rfl⟩
        refine AWp.cond x4202 rfl (fun c4203 => ?_) (fun c4203 => ?_)
        · replace H := (ifT c4203).symm.trans H
          refine AWp.seq ?_
          refine reg hP hn hm [] [2] [] ⟨[(2, bV false)], [], 0⟩ [] (by kernel_rfl) trivial ?_
          refine AWp.conv (inv := []) (vk := []) (e0 := []) (t := ⟨[(2, bV false)], [], 0⟩) (by kernel_rfl) ?_
          refine AWp.ret ?_
          obtain rfl := Option.some.inj H
          exact Exists.intro _ (And.intro (fun _ _ h => h) (And.intro rfl (And.intro rfl (And.intro (by kernel_rfl) (by kernel_rfl)))))
        · replace H := (ifF c4203).symm.trans H
          refine AWp.skip ?_
          refine reg hP hn hm [(4, .more xMax)] [3, 8, 9, 10] [5] ⟨[(3, iV .i64 (if b4197.f1.f1 > x4191 then b4197.f1.f1 else x4191)), (8, .own 5), (9, iV .i64 (t4182.length : Int)), (10, iV .i64 x4192)], [(5, some (.row 4 89 (t4182.map eplan_Item)))], 0⟩ [] (by kernel_rfl) trivial ?_
          refine reg hP hn hm [] [3, 8, 9, 10] [5] ⟨[(3, iV .i64 (if b4197.f1.f1 > x4191 then b4197.f1.f1 else x4191)), (8, .own 5), (9, iV .i64 (t4182.length : Int)), (10, iV .i64 (IntKind.i64.wrap (x4192 + (1 : Int))))], [(5, some (.row 4 89 (t4182.map eplan_Item)))], 0⟩ [] (by kernel_rfl) trivial ?_
          exact LWp.conv (inv := [(5, 2)]) (vk := []) (e0 := []) (t := ⟨[(3, iV .i64 (if b4197.f1.f1 > x4191 then b4197.f1.f1 else x4191)), (8, .own 2), (9, iV .i64 (t4182.length : Int)), (10, iV .i64 (IntKind.i64.wrap (x4192 + (1 : Int))))], [(2, some (.row 4 89 (t4182.map eplan_Item)))], 0⟩) (by kernel_rfl) (ih _ _ _ H)
    · replace H := (ifF c4193).symm.trans H
      refine AWp.exit ?_
      obtain rfl := Option.some.inj H
      exact Exists.intro _ (And.intro (fun _ _ h => h.conv (inv := []) (vk := []) (e0 := []) (t := ⟨[], [], 0⟩) (by kernel_rfl)) (And.intro rfl rfl))
  · rcases o4204 with rr | _
    · skip
      rintro e s ⟨rfl, hfl, hres⟩
      obtain rfl := Option.some.inj H
      exact Exists.intro _ (And.intro (fun _ _ h => h) (And.intro (.inl rfl) (And.intro hfl hres)))
    · skip
      rintro e s ⟨rfl, rfl⟩
      refine AWp.seq ?_
      refine reg hP hn hm [] [2] [] ⟨[(2, bV true)], [], 0⟩ [] (by kernel_rfl) trivial ?_
      refine AWp.conv (inv := []) (vk := []) (e0 := []) (t := ⟨[(2, bV true)], [], 0⟩) (by kernel_rfl) ?_
      refine AWp.ret ?_
      obtain rfl := Option.some.inj H
      exact Exists.intro _ (And.intro (fun _ _ h => h) (And.intro (.inl rfl) (And.intro rfl (And.intro (by kernel_rfl) (by kernel_rfl)))))
def f_pluviallaw17_PlanTurns.l0 (a0 : List Tpluvialref17_Item) (a1 : Int) (x4138 : List Tpluvialref17_Item) (x4139 : Int) : Option (List Tpluvialref17_Item) := if (decide (x4139 < (a0.length : Int))) = true then ((chk ((a0.length : Int) ≠ 0)) >>= fun _ => (at? a0 (Int.tmod (IntKind.i64.wrap (x4139 + (IntKind.i64.wrap (a1)))) (a0.length : Int))) >>= fun b4147 => (chk ((x4138.length + [b4147].length) * 32 ≤ 140737488355328)) >>= fun _ => f_pluviallaw17_PlanTurns.l0 a0 a1 (x4138 ++ [b4147]) (IntKind.i64.wrap (x4139 + (1 : Int)))) else (some x4138)
partial_fixpoint
def f_pluviallaw17_PlanTurns.l2 (a0 : List Tpluvialref17_Item) (b4283 : Tpluvialref17_Item) (t4158 : Tplan_Step × Bool) (x4278 : Int) (x4307 : Int) (x4308 : Int) : Option (Bool ⊕ Int) := if (decide (x4308 < (((t4158.1).f0).length : Int))) = true then ((((at? ((t4158.1).f0) x4308) >>= fun b4313 => if (b4283.f0 != b4313) = true then (some (.inr x4307)) else ((f_pluvialref16_Width.f ((t4158.1).f1)) >>= fun t4320 => (chk (t4320 ≠ 0)) >>= fun _ => ((if (decide (x4307 ≥ (0 : Int))) = true then (if ((IntKind.i64.wrap (Int.tdiv b4283.f2 t4320)) != x4307) = true then (some true) else (some (decide (b4283.f1 > ((t4158.1).f1))))) else (some (decide (b4283.f1 > ((t4158.1).f1))))) : Option (Bool)) >>= fun x4327 => if x4327 = true then (some (.inl false)) else (some (.inr (IntKind.i64.wrap (Int.tdiv b4283.f2 t4320)))))) : Option (Bool ⊕ Int)) >>= fun oo => match oo with | .inl rr => (some (.inl rr)) | .inr x4329 => (f_pluviallaw17_PlanTurns.l2 a0 b4283 t4158 x4278 x4329 (IntKind.i64.wrap (x4308 + (1 : Int))))) else (some (.inr x4307))
partial_fixpoint
def f_pluviallaw17_PlanTurns.l1 (a0 : List Tpluvialref17_Item) (t4158 : Tplan_Step × Bool) (x4277 : Int) (x4278 : Int) : Option (Bool ⊕ Unit) := if (decide (x4278 < (a0.length : Int))) = true then ((at? a0 x4278) >>= fun b4283 => (f_pluviallaw17_PlanTurns.l2 a0 b4283 t4158 x4278 x4277 0) >>= fun oo => match oo with | .inl rr => (some (.inl rr)) | .inr x4330 => (f_pluviallaw17_PlanTurns.l1 a0 t4158 x4330 (IntKind.i64.wrap (x4278 + (1 : Int))))) else (some (.inr ()))
partial_fixpoint
def f_pluviallaw17_PlanTurns.f (a0 : List Tpluvialref17_Item) (a1 : Int) : Option (Bool) := ((if (decide ((a0.length : Int) > (40 : Int))) = true then (some true) else (if ((a0.length : Int) == (0 : Int)) = true then (some true) else ((f_pluvialref17_Right.f a0) >>= fun t117 => some (!t117)))) : Option (Bool)) >>= fun x119 => if x119 = true then ((f_pluviallaw17_awake.f) >>= fun t4125 => some t4125) else ((f_pluviallaw17_PlanTurns.l0 a0 a1 [] 0) >>= fun x4151 => (f_pluviallaw17_To.f a0) >>= fun t4156 => (f_plan_Next.f t4156) >>= fun t4158 => (f_pluviallaw17_To.f x4151) >>= fun t4168 => (f_plan_Next.f t4168) >>= fun t4170 => ((if (!(t4158.2 == t4170.2)) = true then (some true) else (if (((t4158.1).f1) != ((t4170.1).f1)) = true then (some true) else ((f_pluviallaw17_ints.f ((t4158.1).f0) ((t4170.1).f0)) >>= fun t4216 => if (!t4216) = true then (some true) else (if (!(t4158.2 == (decide ((((t4158.1).f0).length : Int) > (1 : Int))))) = true then (some true) else ((f_pluviallaw17_To.f a0) >>= fun t4220 => (f_plan_Apart.f t4220) >>= fun t4222 => (f_pluviallaw17_To.f x4151) >>= fun t4224 => (f_plan_Apart.f t4224) >>= fun t4226 => some (!(t4222 == t4226))))))) : Option (Bool)) >>= fun x4228 => if x4228 = true then (some false) else ((f_pluviallaw17_PlanTurns.l1 a0 t4158 (-1) 0) >>= fun oo => match oo with | .inl rr => (some rr) | .inr _ => ((((f_pluviallaw17_awake.f) >>= fun t4339 => if t4339 = true then (if t4158.2 = true then (some true) else ((f_pluviallaw17_To.f a0) >>= fun t4343 => (f_plan_Apart.f t4343) >>= fun t4345 => some t4345)) else (some false)) : Option (Bool)) >>= fun x4347 => some x4347)))
theorem f_pluviallaw17_PlanTurns.ok (a0 : List Tpluvialref17_Item) (a1 : Int) (r : Bool) (H : f_pluviallaw17_PlanTurns.f a0 a1 = some r) : Pv.Fn Try.prog 4 [.im (.row (a0.map epluvialref17_Item)), iV .u8 a1] [] 0 (fun x o => x = bV r ∧ o = []) := by
  unfold f_pluviallaw17_PlanTurns.f at H
  refine Fn.bodyK [] Try.func4 rfl rfl (fun Γ hP hn => ?_)
  have hm : Try.prog.follows .mixedOrders = true := by kernel_rfl
  replace hn : Γ.n = 146 := hn
  refine AWp.seq ?_
  refine reg hP hn hm [] [0, 1] [] ⟨[(0, .im (.row (a0.map epluvialref17_Item))), (1, iV .u8 a1)], [], 0⟩ [] (by kernel_rfl) trivial ?_
  refine AWp.seq ?_
  refine AWp.seq ?_
  obtain ⟨o4348, e4349, H⟩ := bind_of H
  refine AWp.mono (Q := fun e s => (match (generalizing := false) o4348 with | x119 => e = .normal ∧ s = ⟨[(0, .im (.row (a0.map epluvialref17_Item))), (1, iV .u8 a1), (29, bV x119)], [], 0⟩)) (AWp.cv ?_) ?_
  · replace H := e4349; clear e4349
    rcases Bool.eq_false_or_eq_true (decide ((a0.length : Int) > (40 : Int))) with c115 | c115
    · replace H := (ifT c115).symm.trans H
      refine reg hP hn hm [(1, .any (iV .i64 (a0.length : Int))), (3, .b true)] [0, 1, 29] [] ⟨[(0, .im (.row (a0.map epluvialref17_Item))), (1, iV .u8 a1), (29, bV true)], [], 0⟩ [((a0.map epluvialref17_Item).length : Int) = (a0.length : Int), (decide ((a0.length : Int) > (40 : Int))) = true] (by kernel_rfl) ⟨by rw [len_map], by exact c115, trivial⟩ ?_
      obtain rfl := Option.some.inj H
      exact Exists.intro _ (And.intro (fun _ _ h => h.conv (inv := []) (vk := []) (e0 := []) (t := ⟨[(0, .im (.row (a0.map epluvialref17_Item))), (1, iV .u8 a1), (29, bV true)], [], 0⟩) (by kernel_rfl)) (And.intro rfl rfl))
    · replace H := (ifF c115).symm.trans H
      rcases Bool.eq_false_or_eq_true ((a0.length : Int) == (0 : Int)) with c116 | c116
      · replace H := (ifT c116).symm.trans H
        refine reg hP hn hm [(1, .any (iV .i64 (a0.length : Int))), (3, .b false), (5, .any (iV .i64 (a0.length : Int))), (8, .b true)] [0, 1, 29] [] ⟨[(0, .im (.row (a0.map epluvialref17_Item))), (1, iV .u8 a1), (29, bV true)], [], 0⟩ [((a0.map epluvialref17_Item).length : Int) = (a0.length : Int), (decide ((a0.length : Int) > (40 : Int))) = false, ((a0.map epluvialref17_Item).length : Int) = (a0.length : Int), ((a0.length : Int) == (0 : Int)) = true] (by kernel_rfl) ⟨by rw [len_map], by exact c115, by rw [len_map], by exact c116, trivial⟩ ?_
        obtain rfl := Option.some.inj H
        exact Exists.intro _ (And.intro (fun _ _ h => h.conv (inv := []) (vk := []) (e0 := []) (t := ⟨[(0, .im (.row (a0.map epluvialref17_Item))), (1, iV .u8 a1), (29, bV true)], [], 0⟩) (by kernel_rfl)) (And.intro rfl rfl))
      · replace H := (ifF c116).symm.trans H
        obtain ⟨t117, e118, H⟩ := bind_of H
        refine reg hP hn hm [(1, .any (iV .i64 (a0.length : Int))), (3, .b false), (5, .any (iV .i64 (a0.length : Int))), (8, .b false), (10, .call [] [] [] [] 0 (bV t117) [])] [0, 1, 29] [] ⟨[(0, .im (.row (a0.map epluvialref17_Item))), (1, iV .u8 a1), (29, bV (!t117))], [], 0⟩ [((a0.map epluvialref17_Item).length : Int) = (a0.length : Int), (decide ((a0.length : Int) > (40 : Int))) = false, ((a0.map epluvialref17_Item).length : Int) = (a0.length : Int), ((a0.length : Int) == (0 : Int)) = false, Enters Try.prog 12, Pv.Fn Try.prog 12 [.im (.row (a0.map epluvialref17_Item))] [] 0 (fun r o => r = bV t117 ∧ o = [])] (by kernel_rfl) ⟨by rw [len_map], by exact c115, by rw [len_map], by exact c116, by exact Try.call12, by exact f_pluvialref17_Right.ok a0 t117 e118, trivial⟩ ?_
        obtain rfl := Option.some.inj H
        exact Exists.intro _ (And.intro (fun _ _ h => h.conv (inv := []) (vk := []) (e0 := []) (t := ⟨[(0, .im (.row (a0.map epluvialref17_Item))), (1, iV .u8 a1), (29, bV (!t117))], [], 0⟩) (by kernel_rfl)) (And.intro rfl rfl))
  · obtain ⟨x119, rfl⟩ : ∃ z, z = o4348 := ⟨_, rfl⟩
    rintro e s ⟨rfl, rfl⟩
    refine AWp.cond x119 rfl (fun c120 => ?_) (fun c120 => ?_)
    · replace H := (ifT c120).symm.trans H
      refine AWp.seq ?_
      obtain ⟨t4125, e4126, H⟩ := bind_of H
      refine reg hP hn hm [(0, .call [] [] [] [] 0 (bV t4125) [])] [4] [] ⟨[(4, bV t4125)], [], 0⟩ [Enters Try.prog 13, Pv.Fn Try.prog 13 [] [] 0 (fun r o => r = bV t4125 ∧ o = [])] (by kernel_rfl) ⟨by exact Try.call13, by exact f_pluviallaw17_awake.ok  t4125 e4126, trivial⟩ ?_
      refine AWp.conv (inv := []) (vk := []) (e0 := []) (t := ⟨[(4, bV t4125)], [], 0⟩) (by kernel_rfl) ?_
      refine AWp.ret ?_
      obtain rfl := Option.some.inj H
      exact Exists.intro _ (And.intro (fun _ _ h => h) (And.intro (.inl rfl) (And.intro rfl (And.intro (by kernel_rfl) (by kernel_rfl)))))
    · replace H := (ifF c120).symm.trans H
      refine AWp.skip ?_
      refine AWp.seq ?_
      refine reg hP hn hm [] [0, 1, 5] [] ⟨[(0, .im (.row (a0.map epluvialref17_Item))), (1, iV .u8 a1), (5, .none0)], [], 0⟩ [] (by kernel_rfl) trivial ?_
      refine AWp.seq ?_
      refine AWp.seq ?_
      refine reg hP hn hm [(1, .any (iV .i64 (a0.length : Int)))] [0, 1, 5, 32, 33] [] ⟨[(0, .im (.row (a0.map epluvialref17_Item))), (1, iV .u8 a1), (5, .none0), (32, iV .i64 (a0.length : Int)), (33, iV .i64 0)], [], 0⟩ [((a0.map epluvialref17_Item).length : Int) = (a0.length : Int)] (by kernel_rfl) ⟨by rw [len_map], trivial⟩ ?_
      refine AWp.block ?_
      obtain ⟨o4350, e4351, H⟩ := bind_of H
      refine AWp.loop (LWp.conv (inv := []) (vk := []) (e0 := [2]) (t := ⟨[(0, .im (.row (a0.map epluvialref17_Item))), (1, iV .u8 a1), (5, .own 2), (32, iV .i64 (a0.length : Int)), (33, iV .i64 0)], [(2, some (.row 4 31 ([].map epluvialref17_Item)))], 0⟩) (by kernel_rfl) ?_)
      refine LWp.mono (Q := fun e s => (match (generalizing := false) o4350 with | x4151 => e = .exit 0 ∧ s = ⟨[(0, .im (.row (a0.map epluvialref17_Item))), (5, .own 5)], [(5, some (.row 4 31 (x4151.map epluvialref17_Item)))], 0⟩)) (LWp.cv (withBody (fun body hbody => ?_))) ?_
      · refine f_pluviallaw17_PlanTurns.l0.partial_correctness a0 a1 (motive := fun x4138 x4139 o4350 => LWp Γ body (fun e s => ∃ t, Cv Γ s t ∧ (match (generalizing := false) o4350 with | x4151 => e = .exit 0 ∧ t = ⟨[(0, .im (.row (a0.map epluvialref17_Item))), (5, .own 5)], [(5, some (.row 4 31 (x4151.map epluvialref17_Item)))], 0⟩)) ⟨[(0, .im (.row (a0.map epluvialref17_Item))), (1, iV .u8 a1), (5, .own 2), (32, iV .i64 (a0.length : Int)), (33, iV .i64 x4139)], [(2, some (.row 4 31 (x4138.map epluvialref17_Item)))], 0⟩) ?_ _ _ _ e4351
        clear H e4351 o4350; intro self ih x4138 x4139 o4350 H
        subst hbody
        refine LWp.round ?_
        refine AWp.seq ?_
        refine reg hP hn hm [] [0, 1, 5, 32, 33, 34] [2] ⟨[(0, .im (.row (a0.map epluvialref17_Item))), (1, iV .u8 a1), (5, .own 2), (32, iV .i64 (a0.length : Int)), (33, iV .i64 x4139), (34, bV (decide (x4139 < (a0.length : Int))))], [(2, some (.row 4 31 (x4138.map epluvialref17_Item)))], 0⟩ [] (by kernel_rfl) trivial ?_
        refine AWp.seq ?_
        refine AWp.cond (decide (x4139 < (a0.length : Int))) rfl (fun c4140 => ?_) (fun c4140 => ?_)
        · replace H := (ifT c4140).symm.trans H
          refine AWp.skip ?_
          refine AWp.seq ?_
          refine AWp.block ?_
          refine AWp.seq ?_
          refine reg hP hn hm [] [0, 1, 5, 6, 32, 33] [2] ⟨[(0, .im (.row (a0.map epluvialref17_Item))), (1, iV .u8 a1), (5, .own 2), (6, iV .i64 x4139), (32, iV .i64 (a0.length : Int)), (33, iV .i64 x4139)], [(2, some (.row 4 31 (x4138.map epluvialref17_Item)))], 0⟩ [] (by kernel_rfl) trivial ?_
          obtain ⟨c4146, H⟩ := chk_of H
          obtain ⟨b4147, p4148, q4149, H⟩ := at_of H
          obtain ⟨c4150, H⟩ := chk_of H
          refine reg hP hn hm [(7, .any (iV .i64 (a0.length : Int))), (9, .c (epluvialref17_Item b4147)), (11, .app 3 ([b4147].map epluvialref17_Item)), (12, .app 4 ((x4138 ++ [b4147]).map epluvialref17_Item))] [0, 1, 5, 32, 33] [4] ⟨[(0, .im (.row (a0.map epluvialref17_Item))), (1, iV .u8 a1), (5, .own 4), (32, iV .i64 (a0.length : Int)), (33, iV .i64 x4139)], [(4, some (.row 4 31 ((x4138 ++ [b4147]).map epluvialref17_Item)))], 0⟩ [((a0.map epluvialref17_Item).length : Int) = (a0.length : Int), (a0.length : Int) ≠ 0, 0 ≤ (Int.tmod (IntKind.i64.wrap (x4139 + (IntKind.i64.wrap (a1)))) (a0.length : Int)), (a0.map epluvialref17_Item)[(Int.toNat (Int.tmod (IntKind.i64.wrap (x4139 + (IntKind.i64.wrap (a1)))) (a0.length : Int)))]? = some (epluvialref17_Item b4147), [b4147].map epluvialref17_Item = [[iI .i64 b4147.f0, iI .i64 b4147.f1, iI .i64 b4147.f2, iI .i64 b4147.f3]], (x4138 ++ [b4147]).map epluvialref17_Item = (x4138.map epluvialref17_Item) ++ ([b4147].map epluvialref17_Item), ∀ c ∈ ([b4147].map epluvialref17_Item), c.length = 4, ∀ c ∈ ([b4147].map epluvialref17_Item), leaves (c.map .im) = true, ((x4138.map epluvialref17_Item).length + ([b4147].map epluvialref17_Item).length) * 32 ≤ 140737488355328] (by kernel_rfl) ⟨by rw [len_map], by exact c4146, by exact p4148, by exact el_map epluvialref17_Item q4149, by exact rfl, by simp, by exact all_len _ _ _ (fun _ => rfl), by exact all_leaf _ _ (fun _ => rfl), by simpa using c4150, trivial⟩ ?_
          refine reg hP hn hm [] [0, 1, 5, 32, 33] [4] ⟨[(0, .im (.row (a0.map epluvialref17_Item))), (1, iV .u8 a1), (5, .own 4), (32, iV .i64 (a0.length : Int)), (33, iV .i64 (IntKind.i64.wrap (x4139 + (1 : Int))))], [(4, some (.row 4 31 ((x4138 ++ [b4147]).map epluvialref17_Item)))], 0⟩ [] (by kernel_rfl) trivial ?_
          exact LWp.conv (inv := [(4, 2)]) (vk := []) (e0 := []) (t := ⟨[(0, .im (.row (a0.map epluvialref17_Item))), (1, iV .u8 a1), (5, .own 2), (32, iV .i64 (a0.length : Int)), (33, iV .i64 (IntKind.i64.wrap (x4139 + (1 : Int))))], [(2, some (.row 4 31 ((x4138 ++ [b4147]).map epluvialref17_Item)))], 0⟩) (by kernel_rfl) (ih _ _ _ H)
        · replace H := (ifF c4140).symm.trans H
          refine AWp.exit ?_
          obtain rfl := Option.some.inj H
          exact Exists.intro _ (And.intro (fun _ _ h => h.conv (inv := [(2, 5)]) (vk := []) (e0 := []) (t := ⟨[(0, .im (.row (a0.map epluvialref17_Item))), (5, .own 5)], [(5, some (.row 4 31 (x4138.map epluvialref17_Item)))], 0⟩) (by kernel_rfl)) (And.intro rfl rfl))
      · obtain ⟨x4151, rfl⟩ : ∃ z, z = o4350 := ⟨_, rfl⟩
        rintro e s ⟨rfl, rfl⟩
        refine AWp.seq ?_
        obtain ⟨t4156, e4157, H⟩ := bind_of H
        obtain ⟨t4158, e4159, H⟩ := bind_of H
        refine reg hP hn hm [(1, .call [] [(0, 6)] [] [6] 0 (.own 0) [(0, some (.row 4 89 (t4156.map eplan_Item)))]), (2, .call [] [(0, 7)] [6] [7] 0 (.tup [.agg [.own 0, iV .i64 ((t4158.1).f1)], bV t4158.2]) [(0, some (.row 1 3 (((t4158.1).f0).map (encInt .i64))))]), (6, .k 8)] [0, 5, 7, 8] [5, 7, 8] ⟨[(0, .im (.row (a0.map epluvialref17_Item))), (5, .own 5), (7, .ptr 8 0 0), (8, bV t4158.2)], [(5, some (.row 4 31 (x4151.map epluvialref17_Item))), (7, some (.row 1 3 (((t4158.1).f0).map (encInt .i64)))), (8, some (.box 33 [.own 7, iV .i64 ((t4158.1).f1)]))], 0⟩ [Enters Try.prog 15, Pv.Fn Try.prog 15 [.im (.row (a0.map epluvialref17_Item))] [] 0 (fun r o => r = .own 0 ∧ o = [(0, some (.row 4 89 (t4156.map eplan_Item)))]), Enters Try.prog 16, Pv.Fn Try.prog 16 [.im (.row (t4156.map eplan_Item))] [] 0 (fun r o => r = .tup [.agg [.own 0, iV .i64 ((t4158.1).f1)], bV t4158.2] ∧ o = [(0, some (.row 1 3 (((t4158.1).f0).map (encInt .i64))))])] (by kernel_rfl) ⟨by exact Try.call15, by exact f_pluviallaw17_To.ok a0 t4156 e4157, by exact Try.call16, by exact f_plan_Next.ok t4156 t4158 e4159, trivial⟩ ?_
        refine AWp.seq ?_
        refine AWp.conv (inv := [(7, 7), (8, 8)]) (vk := [5]) (e0 := []) (t := ⟨[(0, .im (.row (a0.map epluvialref17_Item))), (5, .im (.row (x4151.map epluvialref17_Item))), (7, .ptr 8 0 0), (8, bV t4158.2)], [(7, some (.row 1 3 (((t4158.1).f0).map (encInt .i64)))), (8, some (.box 33 [.own 7, iV .i64 ((t4158.1).f1)]))], 0⟩) (by kernel_rfl) ?_
        obtain ⟨t4168, e4169, H⟩ := bind_of H
        obtain ⟨t4170, e4171, H⟩ := bind_of H
        refine reg hP hn hm [(1, .call [] [(0, 9)] [] [9] 0 (.own 0) [(0, some (.row 4 89 (t4168.map eplan_Item)))]), (2, .call [] [(0, 10)] [9] [10] 0 (.tup [.agg [.own 0, iV .i64 ((t4170.1).f1)], bV t4170.2]) [(0, some (.row 1 3 (((t4170.1).f0).map (encInt .i64))))]), (6, .k 11)] [0, 5, 7, 8, 9, 10] [7, 8, 10, 11] ⟨[(0, .im (.row (a0.map epluvialref17_Item))), (5, .im (.row (x4151.map epluvialref17_Item))), (7, .ptr 8 0 0), (8, bV t4158.2), (9, .ptr 11 0 0), (10, bV t4170.2)], [(7, some (.row 1 3 (((t4158.1).f0).map (encInt .i64)))), (8, some (.box 33 [.own 7, iV .i64 ((t4158.1).f1)])), (10, some (.row 1 3 (((t4170.1).f0).map (encInt .i64)))), (11, some (.box 33 [.own 10, iV .i64 ((t4170.1).f1)]))], 0⟩ [Enters Try.prog 15, Pv.Fn Try.prog 15 [.im (.row (x4151.map epluvialref17_Item))] [] 0 (fun r o => r = .own 0 ∧ o = [(0, some (.row 4 89 (t4168.map eplan_Item)))]), Enters Try.prog 16, Pv.Fn Try.prog 16 [.im (.row (t4168.map eplan_Item))] [] 0 (fun r o => r = .tup [.agg [.own 0, iV .i64 ((t4170.1).f1)], bV t4170.2] ∧ o = [(0, some (.row 1 3 (((t4170.1).f0).map (encInt .i64))))])] (by kernel_rfl) ⟨by exact Try.call15, by exact f_pluviallaw17_To.ok x4151 t4168 e4169, by exact Try.call16, by exact f_plan_Next.ok t4168 t4170 e4171, trivial⟩ ?_
        refine AWp.seq ?_
        refine AWp.seq ?_
        obtain ⟨o4352, e4353, H⟩ := bind_of H
        refine AWp.mono (Q := fun e s => (match (generalizing := false) o4352 with | x4228 => e = .normal ∧ s = ⟨[(0, .im (.row (a0.map epluvialref17_Item))), (7, .ptr 14 0 0), (8, bV t4158.2), (96, bV x4228)], [(14, some (.box 33 [.own 15, iV .i64 ((t4158.1).f1)])), (15, some (.row 1 3 (((t4158.1).f0).map (encInt .i64))))], 0⟩)) (AWp.cv ?_) ?_
        · replace H := e4353; clear e4353
          rcases Bool.eq_false_or_eq_true (!(t4158.2 == t4170.2)) with c4214 | c4214
          · replace H := (ifT c4214).symm.trans H
            refine reg hP hn hm [(3, .b true)] [0, 7, 8, 96] [7, 8] ⟨[(0, .im (.row (a0.map epluvialref17_Item))), (7, .ptr 8 0 0), (8, bV t4158.2), (96, bV true)], [(7, some (.row 1 3 (((t4158.1).f0).map (encInt .i64)))), (8, some (.box 33 [.own 7, iV .i64 ((t4158.1).f1)]))], 0⟩ [(!(t4158.2 == t4170.2)) = true] (by kernel_rfl) ⟨by exact c4214, trivial⟩ ?_
            obtain rfl := Option.some.inj H
            exact Exists.intro _ (And.intro (fun _ _ h => h.conv (inv := [(8, 14), (7, 15)]) (vk := []) (e0 := []) (t := ⟨[(0, .im (.row (a0.map epluvialref17_Item))), (7, .ptr 14 0 0), (8, bV t4158.2), (96, bV true)], [(14, some (.box 33 [.own 15, iV .i64 ((t4158.1).f1)])), (15, some (.row 1 3 (((t4158.1).f0).map (encInt .i64))))], 0⟩) (by kernel_rfl)) (And.intro rfl rfl))
          · replace H := (ifF c4214).symm.trans H
            rcases Bool.eq_false_or_eq_true (((t4158.1).f1) != ((t4170.1).f1)) with c4215 | c4215
            · replace H := (ifT c4215).symm.trans H
              refine reg hP hn hm [(3, .b false), (10, .b true)] [0, 7, 8, 96] [7, 8] ⟨[(0, .im (.row (a0.map epluvialref17_Item))), (7, .ptr 8 0 0), (8, bV t4158.2), (96, bV true)], [(7, some (.row 1 3 (((t4158.1).f0).map (encInt .i64)))), (8, some (.box 33 [.own 7, iV .i64 ((t4158.1).f1)]))], 0⟩ [(!(t4158.2 == t4170.2)) = false, (((t4158.1).f1) != ((t4170.1).f1)) = true] (by kernel_rfl) ⟨by exact c4214, by exact c4215, trivial⟩ ?_
              obtain rfl := Option.some.inj H
              exact Exists.intro _ (And.intro (fun _ _ h => h.conv (inv := [(8, 14), (7, 15)]) (vk := []) (e0 := []) (t := ⟨[(0, .im (.row (a0.map epluvialref17_Item))), (7, .ptr 14 0 0), (8, bV t4158.2), (96, bV true)], [(14, some (.box 33 [.own 15, iV .i64 ((t4158.1).f1)])), (15, some (.row 1 3 (((t4158.1).f0).map (encInt .i64))))], 0⟩) (by kernel_rfl)) (And.intro rfl rfl))
            · replace H := (ifF c4215).symm.trans H
              obtain ⟨t4216, e4217, H⟩ := bind_of H
              rcases Bool.eq_false_or_eq_true (!t4216) with c4218 | c4218
              · replace H := (ifT c4218).symm.trans H
                refine reg hP hn hm [(3, .b false), (10, .b false), (15, .call [] [] [7, 10] [] 0 (bV t4216) []), (18, .b true)] [0, 7, 8, 96] [7, 8] ⟨[(0, .im (.row (a0.map epluvialref17_Item))), (7, .ptr 8 0 0), (8, bV t4158.2), (96, bV true)], [(7, some (.row 1 3 (((t4158.1).f0).map (encInt .i64)))), (8, some (.box 33 [.own 7, iV .i64 ((t4158.1).f1)]))], 0⟩ [(!(t4158.2 == t4170.2)) = false, (((t4158.1).f1) != ((t4170.1).f1)) = false, Enters Try.prog 17, Pv.Fn Try.prog 17 [.im (.row (((t4158.1).f0).map (encInt .i64))), .im (.row (((t4170.1).f0).map (encInt .i64)))] [] 0 (fun r o => r = bV t4216 ∧ o = []), (!t4216) = true] (by kernel_rfl) ⟨by exact c4214, by exact c4215, by exact Try.call17, by exact f_pluviallaw17_ints.ok ((t4158.1).f0) ((t4170.1).f0) t4216 e4217, by exact c4218, trivial⟩ ?_
                obtain rfl := Option.some.inj H
                exact Exists.intro _ (And.intro (fun _ _ h => h.conv (inv := [(8, 14), (7, 15)]) (vk := []) (e0 := []) (t := ⟨[(0, .im (.row (a0.map epluvialref17_Item))), (7, .ptr 14 0 0), (8, bV t4158.2), (96, bV true)], [(14, some (.box 33 [.own 15, iV .i64 ((t4158.1).f1)])), (15, some (.row 1 3 (((t4158.1).f0).map (encInt .i64))))], 0⟩) (by kernel_rfl)) (And.intro rfl rfl))
              · replace H := (ifF c4218).symm.trans H
                rcases Bool.eq_false_or_eq_true (!(t4158.2 == (decide ((((t4158.1).f0).length : Int) > (1 : Int))))) with c4219 | c4219
                · replace H := (ifT c4219).symm.trans H
                  refine reg hP hn hm [(3, .b false), (10, .b false), (15, .call [] [] [7, 10] [] 0 (bV t4216) []), (18, .b false), (22, .any (iV .i64 (((t4158.1).f0).length : Int))), (26, .b true)] [0, 7, 8, 96] [7, 8] ⟨[(0, .im (.row (a0.map epluvialref17_Item))), (7, .ptr 8 0 0), (8, bV t4158.2), (96, bV true)], [(7, some (.row 1 3 (((t4158.1).f0).map (encInt .i64)))), (8, some (.box 33 [.own 7, iV .i64 ((t4158.1).f1)]))], 0⟩ [(!(t4158.2 == t4170.2)) = false, (((t4158.1).f1) != ((t4170.1).f1)) = false, Enters Try.prog 17, Pv.Fn Try.prog 17 [.im (.row (((t4158.1).f0).map (encInt .i64))), .im (.row (((t4170.1).f0).map (encInt .i64)))] [] 0 (fun r o => r = bV t4216 ∧ o = []), (!t4216) = false, ((((t4158.1).f0).map (encInt .i64)).length : Int) = (((t4158.1).f0).length : Int), (!(t4158.2 == (decide ((((t4158.1).f0).length : Int) > (1 : Int))))) = true] (by kernel_rfl) ⟨by exact c4214, by exact c4215, by exact Try.call17, by exact f_pluviallaw17_ints.ok ((t4158.1).f0) ((t4170.1).f0) t4216 e4217, by exact c4218, by rw [len_map], by exact c4219, trivial⟩ ?_
                  obtain rfl := Option.some.inj H
                  exact Exists.intro _ (And.intro (fun _ _ h => h.conv (inv := [(8, 14), (7, 15)]) (vk := []) (e0 := []) (t := ⟨[(0, .im (.row (a0.map epluvialref17_Item))), (7, .ptr 14 0 0), (8, bV t4158.2), (96, bV true)], [(14, some (.box 33 [.own 15, iV .i64 ((t4158.1).f1)])), (15, some (.row 1 3 (((t4158.1).f0).map (encInt .i64))))], 0⟩) (by kernel_rfl)) (And.intro rfl rfl))
                · replace H := (ifF c4219).symm.trans H
                  obtain ⟨t4220, e4221, H⟩ := bind_of H
                  obtain ⟨t4222, e4223, H⟩ := bind_of H
                  obtain ⟨t4224, e4225, H⟩ := bind_of H
                  obtain ⟨t4226, e4227, H⟩ := bind_of H
                  refine reg hP hn hm [(3, .b false), (10, .b false), (15, .call [] [] [7, 10] [] 0 (bV t4216) []), (18, .b false), (22, .any (iV .i64 (((t4158.1).f0).length : Int))), (26, .b false), (28, .call [] [(0, 12)] [] [12] 0 (.own 0) [(0, some (.row 4 89 (t4220.map eplan_Item)))]), (29, .call [] [] [12] [] 0 (bV t4222) []), (31, .call [] [(0, 13)] [] [13] 0 (.own 0) [(0, some (.row 4 89 (t4224.map eplan_Item)))]), (32, .call [] [] [13] [] 0 (bV t4226) [])] [0, 7, 8, 96] [7, 8] ⟨[(0, .im (.row (a0.map epluvialref17_Item))), (7, .ptr 8 0 0), (8, bV t4158.2), (96, bV (!(t4222 == t4226)))], [(7, some (.row 1 3 (((t4158.1).f0).map (encInt .i64)))), (8, some (.box 33 [.own 7, iV .i64 ((t4158.1).f1)]))], 0⟩ [(!(t4158.2 == t4170.2)) = false, (((t4158.1).f1) != ((t4170.1).f1)) = false, Enters Try.prog 17, Pv.Fn Try.prog 17 [.im (.row (((t4158.1).f0).map (encInt .i64))), .im (.row (((t4170.1).f0).map (encInt .i64)))] [] 0 (fun r o => r = bV t4216 ∧ o = []), (!t4216) = false, ((((t4158.1).f0).map (encInt .i64)).length : Int) = (((t4158.1).f0).length : Int), (!(t4158.2 == (decide ((((t4158.1).f0).length : Int) > (1 : Int))))) = false, Enters Try.prog 15, Pv.Fn Try.prog 15 [.im (.row (a0.map epluvialref17_Item))] [] 0 (fun r o => r = .own 0 ∧ o = [(0, some (.row 4 89 (t4220.map eplan_Item)))]), Enters Try.prog 18, Pv.Fn Try.prog 18 [.im (.row (t4220.map eplan_Item))] [] 0 (fun r o => r = bV t4222 ∧ o = []), Enters Try.prog 15, Pv.Fn Try.prog 15 [.im (.row (x4151.map epluvialref17_Item))] [] 0 (fun r o => r = .own 0 ∧ o = [(0, some (.row 4 89 (t4224.map eplan_Item)))]), Enters Try.prog 18, Pv.Fn Try.prog 18 [.im (.row (t4224.map eplan_Item))] [] 0 (fun r o => r = bV t4226 ∧ o = [])] (by kernel_rfl) ⟨by exact c4214, by exact c4215, by exact Try.call17, by exact f_pluviallaw17_ints.ok ((t4158.1).f0) ((t4170.1).f0) t4216 e4217, by exact c4218, by rw [len_map], by exact c4219, by exact Try.call15, by exact f_pluviallaw17_To.ok a0 t4220 e4221, by exact Try.call18, by exact f_plan_Apart.ok t4220 t4222 e4223, by exact Try.call15, by exact f_pluviallaw17_To.ok x4151 t4224 e4225, by exact Try.call18, by exact f_plan_Apart.ok t4224 t4226 e4227, trivial⟩ ?_
                  obtain rfl := Option.some.inj H
                  exact Exists.intro _ (And.intro (fun _ _ h => h.conv (inv := [(8, 14), (7, 15)]) (vk := []) (e0 := []) (t := ⟨[(0, .im (.row (a0.map epluvialref17_Item))), (7, .ptr 14 0 0), (8, bV t4158.2), (96, bV (!(t4222 == t4226)))], [(14, some (.box 33 [.own 15, iV .i64 ((t4158.1).f1)])), (15, some (.row 1 3 (((t4158.1).f0).map (encInt .i64))))], 0⟩) (by kernel_rfl)) (And.intro rfl rfl))
        · obtain ⟨x4228, rfl⟩ : ∃ z, z = o4352 := ⟨_, rfl⟩
          rintro e s ⟨rfl, rfl⟩
          refine AWp.cond x4228 rfl (fun c4229 => ?_) (fun c4229 => ?_)
          · replace H := (ifT c4229).symm.trans H
            refine AWp.seq ?_
            refine reg hP hn hm [] [4] [] ⟨[(4, bV false)], [], 0⟩ [] (by kernel_rfl) trivial ?_
            refine AWp.conv (inv := []) (vk := []) (e0 := []) (t := ⟨[(4, bV false)], [], 0⟩) (by kernel_rfl) ?_
            refine AWp.ret ?_
            obtain rfl := Option.some.inj H
            exact Exists.intro _ (And.intro (fun _ _ h => h) (And.intro (.inl rfl) (And.intro rfl (And.intro (by kernel_rfl) (by kernel_rfl)))))
          · replace H := (ifF c4229).symm.trans H
            refine AWp.skip ?_
            refine AWp.seq ?_
            refine reg hP hn hm [] [0, 7, 8, 11] [14, 15] ⟨[(0, .im (.row (a0.map epluvialref17_Item))), (7, .ptr 14 0 0), (8, bV t4158.2), (11, iV .i64 (-1))], [(14, some (.box 33 [.own 15, iV .i64 ((t4158.1).f1)])), (15, some (.row 1 3 (((t4158.1).f0).map (encInt .i64))))], 0⟩ [] (by kernel_rfl) trivial ?_
            refine AWp.seq ?_
            refine AWp.seq ?_
            refine reg hP hn hm [(1, .any (iV .i64 (a0.length : Int)))] [0, 7, 8, 11, 97, 98, 99] [14, 15] ⟨[(0, .im (.row (a0.map epluvialref17_Item))), (7, .ptr 14 0 0), (8, bV t4158.2), (11, iV .i64 (-1)), (97, .im (.row (a0.map epluvialref17_Item))), (98, iV .i64 (a0.length : Int)), (99, iV .i64 0)], [(14, some (.box 33 [.own 15, iV .i64 ((t4158.1).f1)])), (15, some (.row 1 3 (((t4158.1).f0).map (encInt .i64))))], 0⟩ [((a0.map epluvialref17_Item).length : Int) = (a0.length : Int)] (by kernel_rfl) ⟨by rw [len_map], trivial⟩ ?_
            refine AWp.block ?_
            obtain ⟨o4354, e4355, H⟩ := bind_of H
            refine AWp.loop (LWp.conv (inv := [(14, 31), (15, 32)]) (vk := []) (e0 := []) (t := ⟨[(0, .im (.row (a0.map epluvialref17_Item))), (7, .ptr 31 0 0), (8, bV t4158.2), (11, iV .i64 (-1)), (97, .im (.row (a0.map epluvialref17_Item))), (98, iV .i64 (a0.length : Int)), (99, iV .i64 0)], [(31, some (.box 33 [.own 32, iV .i64 ((t4158.1).f1)])), (32, some (.row 1 3 (((t4158.1).f0).map (encInt .i64))))], 0⟩) (by kernel_rfl) ?_)
            refine LWp.mono (Q := fun e s => (match (generalizing := false) o4354 with | .inl rr => e = .ret ∧ s.floor = 0 ∧ resOf Try.prog Try.f4 s = some (bV rr) ∧ ([] : List (Nat × Option MObj)) = [] | .inr _ => e = .exit 2 ∧ s = ⟨[(0, .im (.row (a0.map epluvialref17_Item))), (8, bV t4158.2)], [], 0⟩)) (LWp.cv (withBody (fun body hbody => ?_))) ?_
            · refine f_pluviallaw17_PlanTurns.l1.partial_correctness a0 t4158 (motive := fun x4277 x4278 o4354 => LWp Γ body (fun e s => ∃ t, Cv Γ s t ∧ (match (generalizing := false) o4354 with | .inl rr => e = .ret ∧ t.floor = 0 ∧ resOf Try.prog Try.f4 t = some (bV rr) ∧ ([] : List (Nat × Option MObj)) = [] | .inr _ => e = .exit 2 ∧ t = ⟨[(0, .im (.row (a0.map epluvialref17_Item))), (8, bV t4158.2)], [], 0⟩)) ⟨[(0, .im (.row (a0.map epluvialref17_Item))), (7, .ptr 31 0 0), (8, bV t4158.2), (11, iV .i64 x4277), (97, .im (.row (a0.map epluvialref17_Item))), (98, iV .i64 (a0.length : Int)), (99, iV .i64 x4278)], [(31, some (.box 33 [.own 32, iV .i64 ((t4158.1).f1)])), (32, some (.row 1 3 (((t4158.1).f0).map (encInt .i64))))], 0⟩) ?_ _ _ _ e4355
              clear H e4355 o4354; intro self ih x4277 x4278 o4354 H
              subst hbody
              refine LWp.round ?_
              refine AWp.seq ?_
              refine reg hP hn hm [] [0, 7, 8, 11, 97, 98, 99, 100] [31, 32] ⟨[(0, .im (.row (a0.map epluvialref17_Item))), (7, .ptr 31 0 0), (8, bV t4158.2), (11, iV .i64 x4277), (97, .im (.row (a0.map epluvialref17_Item))), (98, iV .i64 (a0.length : Int)), (99, iV .i64 x4278), (100, bV (decide (x4278 < (a0.length : Int))))], [(31, some (.box 33 [.own 32, iV .i64 ((t4158.1).f1)])), (32, some (.row 1 3 (((t4158.1).f0).map (encInt .i64))))], 0⟩ [] (by kernel_rfl) trivial ?_
              refine AWp.seq ?_
              refine AWp.cond (decide (x4278 < (a0.length : Int))) rfl (fun c4279 => ?_) (fun c4279 => ?_)
              · replace H := (ifT c4279).symm.trans H
                refine AWp.skip ?_
                refine AWp.seq ?_
                refine AWp.block ?_
                refine AWp.seq ?_
                obtain ⟨b4283, p4284, q4285, H⟩ := at_of H
                refine reg hP hn hm [(0, .c (epluvialref17_Item b4283)), (2, .k 33)] [0, 7, 8, 11, 13, 97, 98, 99] [31, 32, 33] ⟨[(0, .im (.row (a0.map epluvialref17_Item))), (7, .ptr 31 0 0), (8, bV t4158.2), (11, iV .i64 x4277), (13, .ptr 33 0 0), (97, .im (.row (a0.map epluvialref17_Item))), (98, iV .i64 (a0.length : Int)), (99, iV .i64 x4278)], [(31, some (.box 33 [.own 32, iV .i64 ((t4158.1).f1)])), (32, some (.row 1 3 (((t4158.1).f0).map (encInt .i64)))), (33, some (.box 31 (apluvialref17_Item b4283)))], 0⟩ [0 ≤ x4278, (a0.map epluvialref17_Item)[(Int.toNat (x4278))]? = some (epluvialref17_Item b4283)] (by kernel_rfl) ⟨by exact p4284, by exact el_map epluvialref17_Item q4285, trivial⟩ ?_
                refine AWp.seq ?_
                refine reg hP hn hm [(2, .any (iV .i64 (((t4158.1).f0).length : Int)))] [0, 7, 8, 11, 13, 97, 98, 99, 104, 105, 106] [31, 32, 33] ⟨[(0, .im (.row (a0.map epluvialref17_Item))), (7, .ptr 31 0 0), (8, bV t4158.2), (11, iV .i64 x4277), (13, .ptr 33 0 0), (97, .im (.row (a0.map epluvialref17_Item))), (98, iV .i64 (a0.length : Int)), (99, iV .i64 x4278), (104, .own 32), (105, iV .i64 (((t4158.1).f0).length : Int)), (106, iV .i64 0)], [(31, some (.box 33 [.own 32, iV .i64 ((t4158.1).f1)])), (32, some (.row 1 3 (((t4158.1).f0).map (encInt .i64)))), (33, some (.box 31 (apluvialref17_Item b4283)))], 0⟩ [((((t4158.1).f0).map (encInt .i64)).length : Int) = (((t4158.1).f0).length : Int)] (by kernel_rfl) ⟨by rw [len_map], trivial⟩ ?_
                refine AWp.block ?_
                obtain ⟨o4356, e4357, H⟩ := bind_of H
                refine AWp.loop (LWp.conv (inv := [(31, 40), (32, 41), (33, 42)]) (vk := []) (e0 := []) (t := ⟨[(0, .im (.row (a0.map epluvialref17_Item))), (7, .ptr 40 0 0), (8, bV t4158.2), (11, iV .i64 x4277), (13, .ptr 42 0 0), (97, .im (.row (a0.map epluvialref17_Item))), (98, iV .i64 (a0.length : Int)), (99, iV .i64 x4278), (104, .own 41), (105, iV .i64 (((t4158.1).f0).length : Int)), (106, iV .i64 0)], [(40, some (.box 33 [.own 41, iV .i64 ((t4158.1).f1)])), (41, some (.row 1 3 (((t4158.1).f0).map (encInt .i64)))), (42, some (.box 31 (apluvialref17_Item b4283)))], 0⟩) (by kernel_rfl) ?_)
                refine LWp.mono (Q := fun e s => (match (generalizing := false) o4356 with | .inl rr => e = .ret ∧ s.floor = 0 ∧ resOf Try.prog Try.f4 s = some (bV rr) ∧ ([] : List (Nat × Option MObj)) = [] | .inr x4330 => e = .exit 4 ∧ s = ⟨[(0, .im (.row (a0.map epluvialref17_Item))), (7, .ptr 49 0 0), (8, bV t4158.2), (11, iV .i64 x4330), (97, .im (.row (a0.map epluvialref17_Item))), (98, iV .i64 (a0.length : Int)), (99, iV .i64 x4278)], [(49, some (.box 33 [.own 50, iV .i64 ((t4158.1).f1)])), (50, some (.row 1 3 (((t4158.1).f0).map (encInt .i64))))], 0⟩)) (LWp.cv (withBody (fun body hbody => ?_))) ?_
                · refine f_pluviallaw17_PlanTurns.l2.partial_correctness a0 b4283 t4158 x4278 (motive := fun x4307 x4308 o4356 => LWp Γ body (fun e s => ∃ t, Cv Γ s t ∧ (match (generalizing := false) o4356 with | .inl rr => e = .ret ∧ t.floor = 0 ∧ resOf Try.prog Try.f4 t = some (bV rr) ∧ ([] : List (Nat × Option MObj)) = [] | .inr x4330 => e = .exit 4 ∧ t = ⟨[(0, .im (.row (a0.map epluvialref17_Item))), (7, .ptr 49 0 0), (8, bV t4158.2), (11, iV .i64 x4330), (97, .im (.row (a0.map epluvialref17_Item))), (98, iV .i64 (a0.length : Int)), (99, iV .i64 x4278)], [(49, some (.box 33 [.own 50, iV .i64 ((t4158.1).f1)])), (50, some (.row 1 3 (((t4158.1).f0).map (encInt .i64))))], 0⟩)) ⟨[(0, .im (.row (a0.map epluvialref17_Item))), (7, .ptr 40 0 0), (8, bV t4158.2), (11, iV .i64 x4307), (13, .ptr 42 0 0), (97, .im (.row (a0.map epluvialref17_Item))), (98, iV .i64 (a0.length : Int)), (99, iV .i64 x4278), (104, .own 41), (105, iV .i64 (((t4158.1).f0).length : Int)), (106, iV .i64 x4308)], [(40, some (.box 33 [.own 41, iV .i64 ((t4158.1).f1)])), (41, some (.row 1 3 (((t4158.1).f0).map (encInt .i64)))), (42, some (.box 31 (apluvialref17_Item b4283)))], 0⟩) ?_ _ _ _ e4357
                  clear H e4357 o4356; intro self ih x4307 x4308 o4356 H
                  subst hbody
                  refine LWp.round ?_
                  refine AWp.seq ?_
                  refine reg hP hn hm [] [0, 7, 8, 11, 13, 97, 98, 99, 104, 105, 106, 107] [40, 41, 42] ⟨[(0, .im (.row (a0.map epluvialref17_Item))), (7, .ptr 40 0 0), (8, bV t4158.2), (11, iV .i64 x4307), (13, .ptr 42 0 0), (97, .im (.row (a0.map epluvialref17_Item))), (98, iV .i64 (a0.length : Int)), (99, iV .i64 x4278), (104, .own 41), (105, iV .i64 (((t4158.1).f0).length : Int)), (106, iV .i64 x4308), (107, bV (decide (x4308 < (((t4158.1).f0).length : Int))))], [(40, some (.box 33 [.own 41, iV .i64 ((t4158.1).f1)])), (41, some (.row 1 3 (((t4158.1).f0).map (encInt .i64)))), (42, some (.box 31 (apluvialref17_Item b4283)))], 0⟩ [] (by kernel_rfl) trivial ?_
                  refine AWp.seq ?_
                  refine AWp.cond (decide (x4308 < (((t4158.1).f0).length : Int))) rfl (fun c4309 => ?_) (fun c4309 => ?_)
                  · replace H := (ifT c4309).symm.trans H
                    refine AWp.skip ?_
                    refine AWp.seq ?_
                    obtain ⟨o4358, e4359, H⟩ := bind_of H
                    refine AWp.mono (Q := fun e s => (match (generalizing := false) o4358 with | .inl rr => e = .ret ∧ s.floor = 0 ∧ resOf Try.prog Try.f4 s = some (bV rr) ∧ ([] : List (Nat × Option MObj)) = [] | .inr x4329 => e = .normal ∧ s = ⟨[(0, .im (.row (a0.map epluvialref17_Item))), (7, .ptr 46 0 0), (8, bV t4158.2), (11, iV .i64 x4329), (13, .ptr 48 0 0), (97, .im (.row (a0.map epluvialref17_Item))), (98, iV .i64 (a0.length : Int)), (99, iV .i64 x4278), (104, .own 47), (105, iV .i64 (((t4158.1).f0).length : Int)), (106, iV .i64 x4308)], [(46, some (.box 33 [.own 47, iV .i64 ((t4158.1).f1)])), (47, some (.row 1 3 (((t4158.1).f0).map (encInt .i64)))), (48, some (.box 31 (apluvialref17_Item b4283)))], 0⟩)) (AWp.cv ?_) ?_
                    · replace H := e4359; clear e4359
                      refine AWp.block ?_
                      refine AWp.seq ?_
                      obtain ⟨b4313, p4314, q4315, H⟩ := at_of H
                      refine reg hP hn hm [(1, .c ((encInt .i64) b4313))] [0, 7, 8, 11, 13, 15, 97, 98, 99, 104, 105, 106] [40, 41, 42] ⟨[(0, .im (.row (a0.map epluvialref17_Item))), (7, .ptr 40 0 0), (8, bV t4158.2), (11, iV .i64 x4307), (13, .ptr 42 0 0), (15, iV .i64 b4313), (97, .im (.row (a0.map epluvialref17_Item))), (98, iV .i64 (a0.length : Int)), (99, iV .i64 x4278), (104, .own 41), (105, iV .i64 (((t4158.1).f0).length : Int)), (106, iV .i64 x4308)], [(40, some (.box 33 [.own 41, iV .i64 ((t4158.1).f1)])), (41, some (.row 1 3 (((t4158.1).f0).map (encInt .i64)))), (42, some (.box 31 (apluvialref17_Item b4283)))], 0⟩ [0 ≤ x4308, x4308 < (((((t4158.1).f0).map (encInt .i64)).length : Nat) : Int), (((t4158.1).f0).map (encInt .i64))[(Int.toNat (x4308))]? = some ((encInt .i64) b4313)] (by kernel_rfl) ⟨by exact p4314, by exact el_lt (encInt .i64) p4314 q4315, by exact el_map (encInt .i64) q4315, trivial⟩ ?_
                      refine AWp.seq ?_
                      refine AWp.seq ?_
                      refine reg hP hn hm [] [0, 7, 8, 11, 13, 97, 98, 99, 104, 105, 106, 113] [40, 41, 42] ⟨[(0, .im (.row (a0.map epluvialref17_Item))), (7, .ptr 40 0 0), (8, bV t4158.2), (11, iV .i64 x4307), (13, .ptr 42 0 0), (97, .im (.row (a0.map epluvialref17_Item))), (98, iV .i64 (a0.length : Int)), (99, iV .i64 x4278), (104, .own 41), (105, iV .i64 (((t4158.1).f0).length : Int)), (106, iV .i64 x4308), (113, bV (b4283.f0 != b4313))], [(40, some (.box 33 [.own 41, iV .i64 ((t4158.1).f1)])), (41, some (.row 1 3 (((t4158.1).f0).map (encInt .i64)))), (42, some (.box 31 (apluvialref17_Item b4283)))], 0⟩ [] (by kernel_rfl) trivial ?_
                      refine AWp.cond (b4283.f0 != b4313) rfl (fun c4316 => ?_) (fun c4316 => ?_)
                      · replace H := (ifT c4316).symm.trans H
                        refine AWp.exit ?_
                        obtain rfl := Option.some.inj H
                        exact Exists.intro _ (And.intro (fun _ _ h => h.conv (inv := [(40, 46), (41, 47), (42, 48)]) (vk := []) (e0 := []) (t := ⟨[(0, .im (.row (a0.map epluvialref17_Item))), (7, .ptr 46 0 0), (8, bV t4158.2), (11, iV .i64 x4307), (13, .ptr 48 0 0), (97, .im (.row (a0.map epluvialref17_Item))), (98, iV .i64 (a0.length : Int)), (99, iV .i64 x4278), (104, .own 47), (105, iV .i64 (((t4158.1).f0).length : Int)), (106, iV .i64 x4308)], [(46, some (.box 33 [.own 47, iV .i64 ((t4158.1).f1)])), (47, some (.row 1 3 (((t4158.1).f0).map (encInt .i64)))), (48, some (.box 31 (apluvialref17_Item b4283)))], 0⟩) (by kernel_rfl)) (And.intro rfl rfl))
                      · replace H := (ifF c4316).symm.trans H
                        refine AWp.skip ?_
                        refine AWp.seq ?_
                        obtain ⟨t4320, e4321, H⟩ := bind_of H
                        obtain ⟨c4322, H⟩ := chk_of H
                        refine reg hP hn hm [(4, .call [] [] [] [] 0 (iV .i64 t4320) [])] [0, 7, 8, 11, 13, 16, 97, 98, 99, 104, 105, 106] [40, 41, 42] ⟨[(0, .im (.row (a0.map epluvialref17_Item))), (7, .ptr 40 0 0), (8, bV t4158.2), (11, iV .i64 x4307), (13, .ptr 42 0 0), (16, iV .i64 (IntKind.i64.wrap (Int.tdiv b4283.f2 t4320))), (97, .im (.row (a0.map epluvialref17_Item))), (98, iV .i64 (a0.length : Int)), (99, iV .i64 x4278), (104, .own 41), (105, iV .i64 (((t4158.1).f0).length : Int)), (106, iV .i64 x4308)], [(40, some (.box 33 [.own 41, iV .i64 ((t4158.1).f1)])), (41, some (.row 1 3 (((t4158.1).f0).map (encInt .i64)))), (42, some (.box 31 (apluvialref17_Item b4283)))], 0⟩ [Enters Try.prog 19, Pv.Fn Try.prog 19 [iV .i64 ((t4158.1).f1)] [] 0 (fun r o => r = iV .i64 t4320 ∧ o = []), t4320 ≠ 0] (by kernel_rfl) ⟨by exact Try.call19, by exact f_pluvialref16_Width.ok ((t4158.1).f1) t4320 e4321, by exact c4322, trivial⟩ ?_
                        refine AWp.seq ?_
                        obtain ⟨o4360, e4361, H⟩ := bind_of H
                        refine AWp.mono (Q := fun e s => (match (generalizing := false) o4360 with | x4327 => e = .normal ∧ s = ⟨[(0, .im (.row (a0.map epluvialref17_Item))), (7, .ptr 43 0 0), (8, bV t4158.2), (13, .ptr 45 0 0), (16, iV .i64 (IntKind.i64.wrap (Int.tdiv b4283.f2 t4320))), (97, .im (.row (a0.map epluvialref17_Item))), (98, iV .i64 (a0.length : Int)), (99, iV .i64 x4278), (104, .own 44), (105, iV .i64 (((t4158.1).f0).length : Int)), (106, iV .i64 x4308), (133, bV x4327)], [(43, some (.box 33 [.own 44, iV .i64 ((t4158.1).f1)])), (44, some (.row 1 3 (((t4158.1).f0).map (encInt .i64)))), (45, some (.box 31 (apluvialref17_Item b4283)))], 0⟩)) (AWp.cv ?_) ?_
                        · replace H := e4361; clear e4361
                          rcases Bool.eq_false_or_eq_true (decide (x4307 ≥ (0 : Int))) with c4325 | c4325
                          · replace H := (ifT c4325).symm.trans H
                            rcases Bool.eq_false_or_eq_true ((IntKind.i64.wrap (Int.tdiv b4283.f2 t4320)) != x4307) with c4326 | c4326
                            · replace H := (ifT c4326).symm.trans H
                              refine reg hP hn hm [(2, .b true), (7, .b true)] [0, 7, 8, 13, 16, 97, 98, 99, 104, 105, 106, 123, 124, 125, 133] [40, 41, 42] ⟨[(0, .im (.row (a0.map epluvialref17_Item))), (7, .ptr 40 0 0), (8, bV t4158.2), (13, .ptr 42 0 0), (16, iV .i64 (IntKind.i64.wrap (Int.tdiv b4283.f2 t4320))), (97, .im (.row (a0.map epluvialref17_Item))), (98, iV .i64 (a0.length : Int)), (99, iV .i64 x4278), (104, .own 41), (105, iV .i64 (((t4158.1).f0).length : Int)), (106, iV .i64 x4308), (123, iV .i64 (IntKind.i64.wrap (Int.tdiv b4283.f2 t4320))), (124, iV .i64 x4307), (125, bV ((IntKind.i64.wrap (Int.tdiv b4283.f2 t4320)) != x4307)), (133, bV true)], [(40, some (.box 33 [.own 41, iV .i64 ((t4158.1).f1)])), (41, some (.row 1 3 (((t4158.1).f0).map (encInt .i64)))), (42, some (.box 31 (apluvialref17_Item b4283)))], 0⟩ [(decide (x4307 ≥ (0 : Int))) = true, ((IntKind.i64.wrap (Int.tdiv b4283.f2 t4320)) != x4307) = true] (by kernel_rfl) ⟨by exact c4325, by exact c4326, trivial⟩ ?_
                              obtain rfl := Option.some.inj H
                              exact Exists.intro _ (And.intro (fun _ _ h => h.conv (inv := [(40, 43), (41, 44), (42, 45)]) (vk := []) (e0 := []) (t := ⟨[(0, .im (.row (a0.map epluvialref17_Item))), (7, .ptr 43 0 0), (8, bV t4158.2), (13, .ptr 45 0 0), (16, iV .i64 (IntKind.i64.wrap (Int.tdiv b4283.f2 t4320))), (97, .im (.row (a0.map epluvialref17_Item))), (98, iV .i64 (a0.length : Int)), (99, iV .i64 x4278), (104, .own 44), (105, iV .i64 (((t4158.1).f0).length : Int)), (106, iV .i64 x4308), (133, bV true)], [(43, some (.box 33 [.own 44, iV .i64 ((t4158.1).f1)])), (44, some (.row 1 3 (((t4158.1).f0).map (encInt .i64)))), (45, some (.box 31 (apluvialref17_Item b4283)))], 0⟩) (by kernel_rfl)) (And.intro rfl rfl))
                            · replace H := (ifF c4326).symm.trans H
                              refine reg hP hn hm [(2, .b true), (7, .b false)] [0, 7, 8, 13, 16, 97, 98, 99, 104, 105, 106, 123, 124, 125, 128, 129, 130, 131, 132, 133] [40, 41, 42] ⟨[(0, .im (.row (a0.map epluvialref17_Item))), (7, .ptr 40 0 0), (8, bV t4158.2), (13, .ptr 42 0 0), (16, iV .i64 (IntKind.i64.wrap (Int.tdiv b4283.f2 t4320))), (97, .im (.row (a0.map epluvialref17_Item))), (98, iV .i64 (a0.length : Int)), (99, iV .i64 x4278), (104, .own 41), (105, iV .i64 (((t4158.1).f0).length : Int)), (106, iV .i64 x4308), (123, iV .i64 (IntKind.i64.wrap (Int.tdiv b4283.f2 t4320))), (124, iV .i64 x4307), (125, bV ((IntKind.i64.wrap (Int.tdiv b4283.f2 t4320)) != x4307)), (128, .ptr 42 0 1), (129, iV .i64 b4283.f1), (130, .ptr 40 0 1), (131, iV .i64 ((t4158.1).f1)), (132, bV (decide (b4283.f1 > ((t4158.1).f1)))), (133, bV (decide (b4283.f1 > ((t4158.1).f1))))], [(40, some (.box 33 [.own 41, iV .i64 ((t4158.1).f1)])), (41, some (.row 1 3 (((t4158.1).f0).map (encInt .i64)))), (42, some (.box 31 (apluvialref17_Item b4283)))], 0⟩ [(decide (x4307 ≥ (0 : Int))) = true, ((IntKind.i64.wrap (Int.tdiv b4283.f2 t4320)) != x4307) = false] (by kernel_rfl) ⟨by exact c4325, by exact c4326, trivial⟩ ?_
                              obtain rfl := Option.some.inj H
                              exact Exists.intro _ (And.intro (fun _ _ h => h.conv (inv := [(40, 43), (41, 44), (42, 45)]) (vk := []) (e0 := []) (t := ⟨[(0, .im (.row (a0.map epluvialref17_Item))), (7, .ptr 43 0 0), (8, bV t4158.2), (13, .ptr 45 0 0), (16, iV .i64 (IntKind.i64.wrap (Int.tdiv b4283.f2 t4320))), (97, .im (.row (a0.map epluvialref17_Item))), (98, iV .i64 (a0.length : Int)), (99, iV .i64 x4278), (104, .own 44), (105, iV .i64 (((t4158.1).f0).length : Int)), (106, iV .i64 x4308), (133, bV (decide (b4283.f1 > ((t4158.1).f1))))], [(43, some (.box 33 [.own 44, iV .i64 ((t4158.1).f1)])), (44, some (.row 1 3 (((t4158.1).f0).map (encInt .i64)))), (45, some (.box 31 (apluvialref17_Item b4283)))], 0⟩) (by kernel_rfl)) (And.intro rfl rfl))
                          · replace H := (ifF c4325).symm.trans H
                            refine reg hP hn hm [(2, .b false)] [0, 7, 8, 13, 16, 97, 98, 99, 104, 105, 106, 128, 129, 130, 131, 132, 133] [40, 41, 42] ⟨[(0, .im (.row (a0.map epluvialref17_Item))), (7, .ptr 40 0 0), (8, bV t4158.2), (13, .ptr 42 0 0), (16, iV .i64 (IntKind.i64.wrap (Int.tdiv b4283.f2 t4320))), (97, .im (.row (a0.map epluvialref17_Item))), (98, iV .i64 (a0.length : Int)), (99, iV .i64 x4278), (104, .own 41), (105, iV .i64 (((t4158.1).f0).length : Int)), (106, iV .i64 x4308), (128, .ptr 42 0 1), (129, iV .i64 b4283.f1), (130, .ptr 40 0 1), (131, iV .i64 ((t4158.1).f1)), (132, bV (decide (b4283.f1 > ((t4158.1).f1)))), (133, bV (decide (b4283.f1 > ((t4158.1).f1))))], [(40, some (.box 33 [.own 41, iV .i64 ((t4158.1).f1)])), (41, some (.row 1 3 (((t4158.1).f0).map (encInt .i64)))), (42, some (.box 31 (apluvialref17_Item b4283)))], 0⟩ [(decide (x4307 ≥ (0 : Int))) = false] (by kernel_rfl) ⟨by exact c4325, trivial⟩ ?_
                            obtain rfl := Option.some.inj H
                            exact Exists.intro _ (And.intro (fun _ _ h => h.conv (inv := [(40, 43), (41, 44), (42, 45)]) (vk := []) (e0 := []) (t := ⟨[(0, .im (.row (a0.map epluvialref17_Item))), (7, .ptr 43 0 0), (8, bV t4158.2), (13, .ptr 45 0 0), (16, iV .i64 (IntKind.i64.wrap (Int.tdiv b4283.f2 t4320))), (97, .im (.row (a0.map epluvialref17_Item))), (98, iV .i64 (a0.length : Int)), (99, iV .i64 x4278), (104, .own 44), (105, iV .i64 (((t4158.1).f0).length : Int)), (106, iV .i64 x4308), (133, bV (decide (b4283.f1 > ((t4158.1).f1))))], [(43, some (.box 33 [.own 44, iV .i64 ((t4158.1).f1)])), (44, some (.row 1 3 (((t4158.1).f0).map (encInt .i64)))), (45, some (.box 31 (apluvialref17_Item b4283)))], 0⟩) (by kernel_rfl)) (And.intro rfl rfl))
                        · obtain ⟨x4327, rfl⟩ : ∃ z, z = o4360 := ⟨_, rfl⟩
                          rintro e s ⟨rfl, rfl⟩
                          refine AWp.cond x4327 rfl (fun c4328 => ?_) (fun c4328 => ?_)
                          · replace H := (ifT c4328).symm.trans H
                            refine AWp.seq ?_
                            refine reg hP hn hm [] [4] [] ⟨[(4, bV false)], [], 0⟩ [] (by kernel_rfl) trivial ?_
                            refine AWp.conv (inv := []) (vk := []) (e0 := []) (t := ⟨[(4, bV false)], [], 0⟩) (by kernel_rfl) ?_
                            refine AWp.ret ?_
                            obtain rfl := Option.some.inj H
                            exact Exists.intro _ (And.intro (fun _ _ h => h) (And.intro rfl (And.intro rfl (And.intro (by kernel_rfl) (by kernel_rfl)))))
                          · replace H := (ifF c4328).symm.trans H
                            refine reg hP hn hm [] [0, 7, 8, 11, 13, 97, 98, 99, 104, 105, 106] [43, 44, 45] ⟨[(0, .im (.row (a0.map epluvialref17_Item))), (7, .ptr 43 0 0), (8, bV t4158.2), (11, iV .i64 (IntKind.i64.wrap (Int.tdiv b4283.f2 t4320))), (13, .ptr 45 0 0), (97, .im (.row (a0.map epluvialref17_Item))), (98, iV .i64 (a0.length : Int)), (99, iV .i64 x4278), (104, .own 44), (105, iV .i64 (((t4158.1).f0).length : Int)), (106, iV .i64 x4308)], [(43, some (.box 33 [.own 44, iV .i64 ((t4158.1).f1)])), (44, some (.row 1 3 (((t4158.1).f0).map (encInt .i64)))), (45, some (.box 31 (apluvialref17_Item b4283)))], 0⟩ [] (by kernel_rfl) trivial ?_
                            obtain rfl := Option.some.inj H
                            exact Exists.intro _ (And.intro (fun _ _ h => h.conv (inv := [(43, 46), (44, 47), (45, 48)]) (vk := []) (e0 := []) (t := ⟨[(0, .im (.row (a0.map epluvialref17_Item))), (7, .ptr 46 0 0), (8, bV t4158.2), (11, iV .i64 (IntKind.i64.wrap (Int.tdiv b4283.f2 t4320))), (13, .ptr 48 0 0), (97, .im (.row (a0.map epluvialref17_Item))), (98, iV .i64 (a0.length : Int)), (99, iV .i64 x4278), (104, .own 47), (105, iV .i64 (((t4158.1).f0).length : Int)), (106, iV .i64 x4308)], [(46, some (.box 33 [.own 47, iV .i64 ((t4158.1).f1)])), (47, some (.row 1 3 (((t4158.1).f0).map (encInt .i64)))), (48, some (.box 31 (apluvialref17_Item b4283)))], 0⟩) (by kernel_rfl)) (And.intro rfl rfl))
                    · rcases o4358 with rr | x4329
                      · skip
                        rintro e s ⟨rfl, hfl, hres⟩
                        obtain rfl := Option.some.inj H
                        exact Exists.intro _ (And.intro (fun _ _ h => h) (And.intro rfl (And.intro hfl hres)))
                      · skip
                        rintro e s ⟨rfl, rfl⟩
                        refine reg hP hn hm [] [0, 7, 8, 11, 13, 97, 98, 99, 104, 105, 106] [46, 47, 48] ⟨[(0, .im (.row (a0.map epluvialref17_Item))), (7, .ptr 46 0 0), (8, bV t4158.2), (11, iV .i64 x4329), (13, .ptr 48 0 0), (97, .im (.row (a0.map epluvialref17_Item))), (98, iV .i64 (a0.length : Int)), (99, iV .i64 x4278), (104, .own 47), (105, iV .i64 (((t4158.1).f0).length : Int)), (106, iV .i64 (IntKind.i64.wrap (x4308 + (1 : Int))))], [(46, some (.box 33 [.own 47, iV .i64 ((t4158.1).f1)])), (47, some (.row 1 3 (((t4158.1).f0).map (encInt .i64)))), (48, some (.box 31 (apluvialref17_Item b4283)))], 0⟩ [] (by kernel_rfl) trivial ?_
                        exact LWp.conv (inv := [(46, 40), (47, 41), (48, 42)]) (vk := []) (e0 := []) (t := ⟨[(0, .im (.row (a0.map epluvialref17_Item))), (7, .ptr 40 0 0), (8, bV t4158.2), (11, iV .i64 x4329), (13, .ptr 42 0 0), (97, .im (.row (a0.map epluvialref17_Item))), (98, iV .i64 (a0.length : Int)), (99, iV .i64 x4278), (104, .own 41), (105, iV .i64 (((t4158.1).f0).length : Int)), (106, iV .i64 (IntKind.i64.wrap (x4308 + (1 : Int))))], [(40, some (.box 33 [.own 41, iV .i64 ((t4158.1).f1)])), (41, some (.row 1 3 (((t4158.1).f0).map (encInt .i64)))), (42, some (.box 31 (apluvialref17_Item b4283)))], 0⟩) (by kernel_rfl) (ih _ _ _ H)
                  · replace H := (ifF c4309).symm.trans H
                    refine AWp.exit ?_
                    obtain rfl := Option.some.inj H
                    exact Exists.intro _ (And.intro (fun _ _ h => h.conv (inv := [(40, 49), (41, 50)]) (vk := []) (e0 := []) (t := ⟨[(0, .im (.row (a0.map epluvialref17_Item))), (7, .ptr 49 0 0), (8, bV t4158.2), (11, iV .i64 x4307), (97, .im (.row (a0.map epluvialref17_Item))), (98, iV .i64 (a0.length : Int)), (99, iV .i64 x4278)], [(49, some (.box 33 [.own 50, iV .i64 ((t4158.1).f1)])), (50, some (.row 1 3 (((t4158.1).f0).map (encInt .i64))))], 0⟩) (by kernel_rfl)) (And.intro rfl rfl))
                · rcases o4356 with rr | x4330
                  · skip
                    rintro e s ⟨rfl, hfl, hres⟩
                    obtain rfl := Option.some.inj H
                    exact Exists.intro _ (And.intro (fun _ _ h => h) (And.intro rfl (And.intro hfl hres)))
                  · skip
                    rintro e s ⟨rfl, rfl⟩
                    refine reg hP hn hm [] [0, 7, 8, 11, 97, 98, 99] [49, 50] ⟨[(0, .im (.row (a0.map epluvialref17_Item))), (7, .ptr 49 0 0), (8, bV t4158.2), (11, iV .i64 x4330), (97, .im (.row (a0.map epluvialref17_Item))), (98, iV .i64 (a0.length : Int)), (99, iV .i64 (IntKind.i64.wrap (x4278 + (1 : Int))))], [(49, some (.box 33 [.own 50, iV .i64 ((t4158.1).f1)])), (50, some (.row 1 3 (((t4158.1).f0).map (encInt .i64))))], 0⟩ [] (by kernel_rfl) trivial ?_
                    exact LWp.conv (inv := [(49, 31), (50, 32)]) (vk := []) (e0 := []) (t := ⟨[(0, .im (.row (a0.map epluvialref17_Item))), (7, .ptr 31 0 0), (8, bV t4158.2), (11, iV .i64 x4330), (97, .im (.row (a0.map epluvialref17_Item))), (98, iV .i64 (a0.length : Int)), (99, iV .i64 (IntKind.i64.wrap (x4278 + (1 : Int))))], [(31, some (.box 33 [.own 32, iV .i64 ((t4158.1).f1)])), (32, some (.row 1 3 (((t4158.1).f0).map (encInt .i64))))], 0⟩) (by kernel_rfl) (ih _ _ _ H)
              · replace H := (ifF c4279).symm.trans H
                refine AWp.exit ?_
                obtain rfl := Option.some.inj H
                exact Exists.intro _ (And.intro (fun _ _ h => h.conv (inv := []) (vk := []) (e0 := []) (t := ⟨[(0, .im (.row (a0.map epluvialref17_Item))), (8, bV t4158.2)], [], 0⟩) (by kernel_rfl)) (And.intro rfl rfl))
            · rcases o4354 with rr | _
              · skip
                rintro e s ⟨rfl, hfl, hres⟩
                obtain rfl := Option.some.inj H
                exact Exists.intro _ (And.intro (fun _ _ h => h) (And.intro (.inl rfl) (And.intro hfl hres)))
              · skip
                rintro e s ⟨rfl, rfl⟩
                refine AWp.seq ?_
                obtain ⟨o4362, e4363, H⟩ := bind_of H
                refine AWp.mono (Q := fun e s => (match (generalizing := false) o4362 with | x4347 => e = .normal ∧ s = ⟨[(4, bV x4347)], [], 0⟩)) (AWp.cv ?_) ?_
                · replace H := e4363; clear e4363
                  obtain ⟨t4339, e4340, H⟩ := bind_of H
                  rcases Bool.eq_false_or_eq_true t4339 with c4341 | c4341
                  · replace H := (ifT c4341).symm.trans H
                    rcases Bool.eq_false_or_eq_true t4158.2 with c4342 | c4342
                    · replace H := (ifT c4342).symm.trans H
                      refine reg hP hn hm [(0, .call [] [] [] [] 0 (bV t4339) []), (1, .b true), (3, .b true)] [4] [] ⟨[(4, bV true)], [], 0⟩ [Enters Try.prog 13, Pv.Fn Try.prog 13 [] [] 0 (fun r o => r = bV t4339 ∧ o = []), t4339 = true, t4158.2 = true] (by kernel_rfl) ⟨by exact Try.call13, by exact f_pluviallaw17_awake.ok  t4339 e4340, by exact c4341, by exact c4342, trivial⟩ ?_
                      obtain rfl := Option.some.inj H
                      exact Exists.intro _ (And.intro (fun _ _ h => h.conv (inv := []) (vk := []) (e0 := []) (t := ⟨[(4, bV true)], [], 0⟩) (by kernel_rfl)) (And.intro rfl rfl))
                    · replace H := (ifF c4342).symm.trans H
                      obtain ⟨t4343, e4344, H⟩ := bind_of H
                      obtain ⟨t4345, e4346, H⟩ := bind_of H
                      refine reg hP hn hm [(0, .call [] [] [] [] 0 (bV t4339) []), (1, .b true), (3, .b false), (5, .call [] [(0, 51)] [] [51] 0 (.own 0) [(0, some (.row 4 89 (t4343.map eplan_Item)))]), (6, .call [] [] [51] [] 0 (bV t4345) [])] [4] [] ⟨[(4, bV t4345)], [], 0⟩ [Enters Try.prog 13, Pv.Fn Try.prog 13 [] [] 0 (fun r o => r = bV t4339 ∧ o = []), t4339 = true, t4158.2 = false, Enters Try.prog 15, Pv.Fn Try.prog 15 [.im (.row (a0.map epluvialref17_Item))] [] 0 (fun r o => r = .own 0 ∧ o = [(0, some (.row 4 89 (t4343.map eplan_Item)))]), Enters Try.prog 18, Pv.Fn Try.prog 18 [.im (.row (t4343.map eplan_Item))] [] 0 (fun r o => r = bV t4345 ∧ o = [])] (by kernel_rfl) ⟨by exact Try.call13, by exact f_pluviallaw17_awake.ok  t4339 e4340, by exact c4341, by exact c4342, by exact Try.call15, by exact f_pluviallaw17_To.ok a0 t4343 e4344, by exact Try.call18, by exact f_plan_Apart.ok t4343 t4345 e4346, trivial⟩ ?_
                      obtain rfl := Option.some.inj H
                      exact Exists.intro _ (And.intro (fun _ _ h => h.conv (inv := []) (vk := []) (e0 := []) (t := ⟨[(4, bV t4345)], [], 0⟩) (by kernel_rfl)) (And.intro rfl rfl))
                  · replace H := (ifF c4341).symm.trans H
                    refine reg hP hn hm [(0, .call [] [] [] [] 0 (bV t4339) []), (1, .b false)] [4] [] ⟨[(4, bV false)], [], 0⟩ [Enters Try.prog 13, Pv.Fn Try.prog 13 [] [] 0 (fun r o => r = bV t4339 ∧ o = []), t4339 = false] (by kernel_rfl) ⟨by exact Try.call13, by exact f_pluviallaw17_awake.ok  t4339 e4340, by exact c4341, trivial⟩ ?_
                    obtain rfl := Option.some.inj H
                    exact Exists.intro _ (And.intro (fun _ _ h => h.conv (inv := []) (vk := []) (e0 := []) (t := ⟨[(4, bV false)], [], 0⟩) (by kernel_rfl)) (And.intro rfl rfl))
                · obtain ⟨x4347, rfl⟩ : ∃ z, z = o4362 := ⟨_, rfl⟩
                  rintro e s ⟨rfl, rfl⟩
                  refine AWp.conv (inv := []) (vk := []) (e0 := []) (t := ⟨[(4, bV x4347)], [], 0⟩) (by kernel_rfl) ?_
                  refine AWp.ret ?_
                  obtain rfl := Option.some.inj H
                  exact Exists.intro _ (And.intro (fun _ _ h => h) (And.intro (.inl rfl) (And.intro rfl (And.intro (by kernel_rfl) (by kernel_rfl)))))
end Go.Proofs.Ytfkppdcfgmgllaa.PvGD1
