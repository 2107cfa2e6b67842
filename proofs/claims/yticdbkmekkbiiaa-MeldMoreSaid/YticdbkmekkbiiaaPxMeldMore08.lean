import Derived.Test.YticdbkmekkbiiaaProg
import Derived.Test.YticdbkmekkbiiaaPxMeldMore07
set_option linter.unusedVariables false
set_option linter.unnecessarySimpa false
set_option linter.unusedSimpArgs false
set_option maxRecDepth 10000
namespace Go.Proofs.Yticdbkmekkbiiaa.PvGB
open Go Go.Pv
def f_meld_Add.f (a0 : THist) (a1 : THist) : Option (THist × Int) := (f_num_AddInt.f [a0.f5, a1.f5]) >>= fun t2442 => (f_meld_Alike.f a0 a1) >>= fun t2446 => if ((if t2446.2.2 > t2442.2 then t2446.2.2 else t2442.2) != (0 : Int)) = true then (some ((⟨0, 0, 0, 0, 0, 0, [], []⟩ : THist), (if t2446.2.2 > t2442.2 then t2446.2.2 else t2442.2))) else ((f_num_Add.f [(t2446.1).f3, (t2446.2.1).f3]) >>= fun t2451 => if (t2451.2 != (0 : Int)) = true then (some ((⟨0, 0, 0, 0, 0, 0, [], []⟩ : THist), t2451.2)) else ((chk ((([] : List TBucket).length + ((t2446.1).f6).length) * 16 ≤ 140737488355328)) >>= fun _ => (chk ((((t2446.1).f6).length + ((t2446.2.1).f6).length) * 16 ≤ 140737488355328)) >>= fun _ => (chk ((([] : List TBucket).length + ((t2446.1).f7).length) * 16 ≤ 140737488355328)) >>= fun _ => (chk ((((t2446.1).f7).length + ((t2446.2.1).f7).length) * 16 ≤ 140737488355328)) >>= fun _ => (f_hist_Make.f (⟨(if a1.f0 > a0.f0 then a1.f0 else a0.f0), (t2446.1).f1, (t2446.1).f2, t2451.1, 0, t2442.1, [], []⟩ : THist) (((t2446.1).f6) ++ ((t2446.2.1).f6)) (((t2446.1).f7) ++ ((t2446.2.1).f7))) >>= fun t2464 => some ((t2464.1), t2464.2)))
theorem f_meld_Add.ok (a0 : THist) (a1 : THist) (r : THist × Int) (H : f_meld_Add.f a0 a1 = some r) : Pv.Fn Try.prog 21 [.agg (aHist a0), .agg (aHist a1)] [] 0 (fun x o => x = .tup [.agg (aHist (r.1)), iV .i64 r.2] ∧ o = []) := by
  unfold f_meld_Add.f at H
  refine Fn.bodyK [] Try.func21 rfl rfl (fun Γ hP hn => ?_)
  have hm : Try.prog.follows .mixedOrders = true := by kernel_rfl
  replace hn : Γ.n = 77 := hn
  refine AWp.seq ?_
  refine reg hP hn hm [(0, .k 0), (1, .k 1), (2, .k 2)] [2, 3, 4] [0, 1, 2] ⟨[(2, .ptr 0 0 0), (3, .ptr 1 0 0), (4, .ptr 2 0 0)], [(0, some (.box 25 (aHist a0))), (1, some (.box 25 (aHist a1))), (2, some (.box 25 [iV .i64 0, iV .i64 0, iV .i64 0, iV .u64 0, iV .u64 0, iV .i64 0, .none0, .none0]))], 0⟩ [] (by kernel_rfl) trivial ?_
  refine AWp.seq ?_
  refine reg hP hn hm [(4, .more xMax)] [2, 3, 4, 6] [0, 1, 2] ⟨[(2, .ptr 0 0 0), (3, .ptr 1 0 0), (4, .ptr 2 0 0), (6, iV .i64 (if a1.f0 > a0.f0 then a1.f0 else a0.f0))], [(0, some (.box 25 (aHist a0))), (1, some (.box 25 (aHist a1))), (2, some (.box 25 [iV .i64 0, iV .i64 0, iV .i64 0, iV .u64 0, iV .u64 0, iV .i64 0, .none0, .none0]))], 0⟩ [] (by kernel_rfl) trivial ?_
  refine AWp.seq ?_
  obtain ⟨t2442, e2443, H⟩ := bind_of H
  refine reg hP hn hm [(4, .app 3 ([a0.f5, a1.f5].map (encInt .i64))), (5, .call [] [] [3] [] 0 (.tup [iV .i64 t2442.1, iV .i64 t2442.2]) [])] [2, 3, 4, 6, 7, 8] [0, 1, 2] ⟨[(2, .ptr 0 0 0), (3, .ptr 1 0 0), (4, .ptr 2 0 0), (6, iV .i64 (if a1.f0 > a0.f0 then a1.f0 else a0.f0)), (7, iV .i64 t2442.1), (8, iV .i64 t2442.2)], [(0, some (.box 25 (aHist a0))), (1, some (.box 25 (aHist a1))), (2, some (.box 25 [iV .i64 0, iV .i64 0, iV .i64 0, iV .u64 0, iV .u64 0, iV .i64 0, .none0, .none0]))], 0⟩ [[a0.f5, a1.f5].map (encInt .i64) = [[iI .i64 a0.f5], [iI .i64 a1.f5]], Enters Try.prog 44, Pv.Fn Try.prog 44 [.im (.row ([a0.f5, a1.f5].map (encInt .i64)))] [] 0 (fun r o => r = .tup [iV .i64 t2442.1, iV .i64 t2442.2] ∧ o = [])] (by kernel_rfl) ⟨by exact rfl, by exact Try.call44, by exact f_num_AddInt.ok [a0.f5, a1.f5] t2442 e2443, trivial⟩ ?_
  refine AWp.seq ?_
  obtain ⟨t2446, e2447, H⟩ := bind_of H
  refine reg hP hn hm [(2, .call [] [] [] [] 0 (.tup [.agg (aHist (t2446.1)), .agg (aHist (t2446.2.1)), iV .i64 t2446.2.2]) [])] [2, 3, 4, 6, 7, 8, 9] [0, 1, 2] ⟨[(2, .ptr 0 0 0), (3, .ptr 1 0 0), (4, .ptr 2 0 0), (6, iV .i64 (if a1.f0 > a0.f0 then a1.f0 else a0.f0)), (7, iV .i64 t2442.1), (8, iV .i64 t2442.2), (9, iV .i64 t2446.2.2)], [(0, some (.box 25 (aHist (t2446.1)))), (1, some (.box 25 (aHist (t2446.2.1)))), (2, some (.box 25 [iV .i64 0, iV .i64 0, iV .i64 0, iV .u64 0, iV .u64 0, iV .i64 0, .none0, .none0]))], 0⟩ [Enters Try.prog 19, Pv.Fn Try.prog 19 [.agg (aHist a0), .agg (aHist a1)] [] 0 (fun r o => r = .tup [.agg (aHist (t2446.1)), .agg (aHist (t2446.2.1)), iV .i64 t2446.2.2] ∧ o = [])] (by kernel_rfl) ⟨by exact Try.call19, by exact f_meld_Alike.ok a0 a1 t2446 e2447, trivial⟩ ?_
  refine AWp.seq ?_
  refine AWp.seq ?_
  refine reg hP hn hm [(2, .more xMax)] [2, 3, 4, 6, 7, 8] [0, 1, 2] ⟨[(2, .ptr 0 0 0), (3, .ptr 1 0 0), (4, .ptr 2 0 0), (6, iV .i64 (if a1.f0 > a0.f0 then a1.f0 else a0.f0)), (7, iV .i64 t2442.1), (8, iV .i64 (if t2446.2.2 > t2442.2 then t2446.2.2 else t2442.2))], [(0, some (.box 25 (aHist (t2446.1)))), (1, some (.box 25 (aHist (t2446.2.1)))), (2, some (.box 25 [iV .i64 0, iV .i64 0, iV .i64 0, iV .u64 0, iV .u64 0, iV .i64 0, .none0, .none0]))], 0⟩ [] (by kernel_rfl) trivial ?_
  refine AWp.seq ?_
  refine reg hP hn hm [] [2, 3, 4, 6, 7, 8, 37] [0, 1, 2] ⟨[(2, .ptr 0 0 0), (3, .ptr 1 0 0), (4, .ptr 2 0 0), (6, iV .i64 (if a1.f0 > a0.f0 then a1.f0 else a0.f0)), (7, iV .i64 t2442.1), (8, iV .i64 (if t2446.2.2 > t2442.2 then t2446.2.2 else t2442.2)), (37, bV ((if t2446.2.2 > t2442.2 then t2446.2.2 else t2442.2) != (0 : Int)))], [(0, some (.box 25 (aHist (t2446.1)))), (1, some (.box 25 (aHist (t2446.2.1)))), (2, some (.box 25 [iV .i64 0, iV .i64 0, iV .i64 0, iV .u64 0, iV .u64 0, iV .i64 0, .none0, .none0]))], 0⟩ [] (by kernel_rfl) trivial ?_
  refine AWp.cond ((if t2446.2.2 > t2442.2 then t2446.2.2 else t2442.2) != (0 : Int)) rfl (fun c2448 => ?_) (fun c2448 => ?_)
  · replace H := (ifT c2448).symm.trans H
    refine AWp.seq ?_
    refine reg hP hn hm [] [4, 5] [2] ⟨[(4, .ptr 2 0 0), (5, iV .i64 (if t2446.2.2 > t2442.2 then t2446.2.2 else t2442.2))], [(2, some (.box 25 [iV .i64 0, iV .i64 0, iV .i64 0, iV .u64 0, iV .u64 0, iV .i64 0, .none0, .none0]))], 0⟩ [] (by kernel_rfl) trivial ?_
    refine AWp.conv (inv := [(2, 0)]) (vk := []) (e0 := []) (t := ⟨[(4, .ptr 0 0 0), (5, iV .i64 (if t2446.2.2 > t2442.2 then t2446.2.2 else t2442.2))], [(0, some (.box 25 (aHist ((⟨0, 0, 0, 0, 0, 0, [], []⟩ : THist)))))], 0⟩) (by kernel_rfl) ?_
    refine AWp.ret ?_
    obtain rfl := Option.some.inj H
    exact Exists.intro _ (And.intro (fun _ _ h => h) (And.intro (.inl rfl) (And.intro rfl (And.intro (by kernel_rfl) (by kernel_rfl)))))
  · replace H := (ifF c2448).symm.trans H
    refine AWp.skip ?_
    refine AWp.seq ?_
    obtain ⟨t2451, e2452, H⟩ := bind_of H
    refine reg hP hn hm [(4, .app 4 ([(t2446.1).f3, (t2446.2.1).f3].map (encInt .u64))), (5, .call [] [] [4] [] 0 (.tup [iV .u64 t2451.1, iV .i64 t2451.2]) [])] [2, 3, 4, 6, 7, 8, 10] [0, 1, 2] ⟨[(2, .ptr 0 0 0), (3, .ptr 1 0 0), (4, .ptr 2 0 0), (6, iV .i64 (if a1.f0 > a0.f0 then a1.f0 else a0.f0)), (7, iV .i64 t2442.1), (8, iV .i64 t2451.2), (10, iV .u64 t2451.1)], [(0, some (.box 25 (aHist (t2446.1)))), (1, some (.box 25 (aHist (t2446.2.1)))), (2, some (.box 25 [iV .i64 0, iV .i64 0, iV .i64 0, iV .u64 0, iV .u64 0, iV .i64 0, .none0, .none0]))], 0⟩ [[(t2446.1).f3, (t2446.2.1).f3].map (encInt .u64) = [[iI .u64 ((t2446.1).f3)], [iI .u64 ((t2446.2.1).f3)]], Enters Try.prog 45, Pv.Fn Try.prog 45 [.im (.row ([(t2446.1).f3, (t2446.2.1).f3].map (encInt .u64)))] [] 0 (fun r o => r = .tup [iV .u64 t2451.1, iV .i64 t2451.2] ∧ o = [])] (by kernel_rfl) ⟨by exact rfl, by exact Try.call45, by exact f_num_Add.ok [(t2446.1).f3, (t2446.2.1).f3] t2451 e2452, trivial⟩ ?_
    refine AWp.seq ?_
    refine AWp.seq ?_
    refine reg hP hn hm [] [2, 3, 4, 6, 7, 8, 10, 50] [0, 1, 2] ⟨[(2, .ptr 0 0 0), (3, .ptr 1 0 0), (4, .ptr 2 0 0), (6, iV .i64 (if a1.f0 > a0.f0 then a1.f0 else a0.f0)), (7, iV .i64 t2442.1), (8, iV .i64 t2451.2), (10, iV .u64 t2451.1), (50, bV (t2451.2 != (0 : Int)))], [(0, some (.box 25 (aHist (t2446.1)))), (1, some (.box 25 (aHist (t2446.2.1)))), (2, some (.box 25 [iV .i64 0, iV .i64 0, iV .i64 0, iV .u64 0, iV .u64 0, iV .i64 0, .none0, .none0]))], 0⟩ [] (by kernel_rfl) trivial ?_
    refine AWp.cond (t2451.2 != (0 : Int)) rfl (fun c2453 => ?_) (fun c2453 => ?_)
    · replace H := (ifT c2453).symm.trans H
      refine AWp.seq ?_
      refine reg hP hn hm [] [4, 5] [2] ⟨[(4, .ptr 2 0 0), (5, iV .i64 t2451.2)], [(2, some (.box 25 [iV .i64 0, iV .i64 0, iV .i64 0, iV .u64 0, iV .u64 0, iV .i64 0, .none0, .none0]))], 0⟩ [] (by kernel_rfl) trivial ?_
      refine AWp.conv (inv := [(2, 0)]) (vk := []) (e0 := []) (t := ⟨[(4, .ptr 0 0 0), (5, iV .i64 t2451.2)], [(0, some (.box 25 (aHist ((⟨0, 0, 0, 0, 0, 0, [], []⟩ : THist)))))], 0⟩) (by kernel_rfl) ?_
      refine AWp.ret ?_
      obtain rfl := Option.some.inj H
      exact Exists.intro _ (And.intro (fun _ _ h => h) (And.intro (.inl rfl) (And.intro rfl (And.intro (by kernel_rfl) (by kernel_rfl)))))
    · replace H := (ifF c2453).symm.trans H
      refine AWp.skip ?_
      refine AWp.seq ?_
      refine reg hP hn hm [(8, .k 5)] [2, 3, 4, 11] [0, 1, 2, 5] ⟨[(2, .ptr 0 0 0), (3, .ptr 1 0 0), (4, .ptr 2 0 0), (11, .ptr 5 0 0)], [(0, some (.box 25 (aHist (t2446.1)))), (1, some (.box 25 (aHist (t2446.2.1)))), (2, some (.box 25 [iV .i64 0, iV .i64 0, iV .i64 0, iV .u64 0, iV .u64 0, iV .i64 0, .none0, .none0])), (5, some (.box 25 [iV .i64 (if a1.f0 > a0.f0 then a1.f0 else a0.f0), iV .i64 ((t2446.1).f1), iV .i64 ((t2446.1).f2), iV .u64 t2451.1, iV .u64 0, iV .i64 t2442.1, .none0, .none0]))], 0⟩ [] (by kernel_rfl) trivial ?_
      refine AWp.seq ?_
      obtain ⟨c2460, H⟩ := chk_of H
      obtain ⟨c2461, H⟩ := chk_of H
      obtain ⟨c2462, H⟩ := chk_of H
      obtain ⟨c2463, H⟩ := chk_of H
      obtain ⟨t2464, e2465, H⟩ := bind_of H
      refine reg hP hn hm [(3, .app 6 (((t2446.1).f6).map eBucket)), (6, .app 7 ((((t2446.1).f6) ++ ((t2446.2.1).f6)).map eBucket)), (9, .app 8 (((t2446.1).f7).map eBucket)), (12, .app 9 ((((t2446.1).f7) ++ ((t2446.2.1).f7)).map eBucket)), (13, .call [] [] [7, 9] [] 0 (.tup [.agg (aHist (t2464.1)), iV .i64 t2464.2]) [])] [4, 5] [2] ⟨[(4, .ptr 2 0 0), (5, iV .i64 t2464.2)], [(2, some (.box 25 (aHist (t2464.1))))], 0⟩ [((t2446.1).f6).map eBucket = ([] : List (List Im)) ++ (((t2446.1).f6).map eBucket), ∀ c ∈ (((t2446.1).f6).map eBucket), c.length = 2, ∀ c ∈ (((t2446.1).f6).map eBucket), leaves (c.map .im) = true, (([] : List (List Im)).length + (((t2446.1).f6).map eBucket).length) * 16 ≤ 140737488355328, (((t2446.1).f6) ++ ((t2446.2.1).f6)).map eBucket = (((t2446.1).f6).map eBucket) ++ (((t2446.2.1).f6).map eBucket), ∀ c ∈ (((t2446.2.1).f6).map eBucket), c.length = 2, ∀ c ∈ (((t2446.2.1).f6).map eBucket), leaves (c.map .im) = true, ((((t2446.1).f6).map eBucket).length + (((t2446.2.1).f6).map eBucket).length) * 16 ≤ 140737488355328, ((t2446.1).f7).map eBucket = ([] : List (List Im)) ++ (((t2446.1).f7).map eBucket), ∀ c ∈ (((t2446.1).f7).map eBucket), c.length = 2, ∀ c ∈ (((t2446.1).f7).map eBucket), leaves (c.map .im) = true, (([] : List (List Im)).length + (((t2446.1).f7).map eBucket).length) * 16 ≤ 140737488355328, (((t2446.1).f7) ++ ((t2446.2.1).f7)).map eBucket = (((t2446.1).f7).map eBucket) ++ (((t2446.2.1).f7).map eBucket), ∀ c ∈ (((t2446.2.1).f7).map eBucket), c.length = 2, ∀ c ∈ (((t2446.2.1).f7).map eBucket), leaves (c.map .im) = true, ((((t2446.1).f7).map eBucket).length + (((t2446.2.1).f7).map eBucket).length) * 16 ≤ 140737488355328, Enters Try.prog 33, Pv.Fn Try.prog 33 [.agg (aHist ⟨(if a1.f0 > a0.f0 then a1.f0 else a0.f0), (t2446.1).f1, (t2446.1).f2, t2451.1, 0, t2442.1, [], []⟩), .im (.row ((((t2446.1).f6) ++ ((t2446.2.1).f6)).map eBucket)), .im (.row ((((t2446.1).f7) ++ ((t2446.2.1).f7)).map eBucket))] [] 0 (fun r o => r = .tup [.agg (aHist (t2464.1)), iV .i64 t2464.2] ∧ o = [])] (by kernel_rfl) ⟨by simp, by exact all_len _ _ _ (fun _ => rfl), by exact all_leaf _ _ (fun _ => rfl), by simpa using c2460, by simp, by exact all_len _ _ _ (fun _ => rfl), by exact all_leaf _ _ (fun _ => rfl), by simpa using c2461, by simp, by exact all_len _ _ _ (fun _ => rfl), by exact all_leaf _ _ (fun _ => rfl), by simpa using c2462, by simp, by exact all_len _ _ _ (fun _ => rfl), by exact all_leaf _ _ (fun _ => rfl), by simpa using c2463, by exact Try.call33, by exact f_hist_Make.ok (⟨(if a1.f0 > a0.f0 then a1.f0 else a0.f0), (t2446.1).f1, (t2446.1).f2, t2451.1, 0, t2442.1, [], []⟩ : THist) (((t2446.1).f6) ++ ((t2446.2.1).f6)) (((t2446.1).f7) ++ ((t2446.2.1).f7)) t2464 e2465, trivial⟩ ?_
      refine AWp.conv (inv := [(2, 0)]) (vk := []) (e0 := []) (t := ⟨[(4, .ptr 0 0 0), (5, iV .i64 t2464.2)], [(0, some (.box 25 (aHist ((t2464.1)))))], 0⟩) (by kernel_rfl) ?_
      refine AWp.ret ?_
      obtain rfl := Option.some.inj H
      exact Exists.intro _ (And.intro (fun _ _ h => h) (And.intro (.inl rfl) (And.intro rfl (And.intro (by kernel_rfl) (by kernel_rfl)))))
def f_pluvialref01_AddInt.l0 (a0 : List Int) (x2480 : Int) (x2481 : Int) (x2482 : Int) : Option (Int × Int) := if (decide (x2482 < (a0.length : Int))) = true then ((at? a0 x2482) >>= fun b2487 => ((if (decide ((Int.tmod b2487 (4294967296 : Int)) < (0 : Int))) = true then (some (IntKind.i64.wrap ((IntKind.i64.wrap (Int.tdiv b2487 (4294967296 : Int))) - (1 : Int)), IntKind.i64.wrap ((Int.tmod b2487 (4294967296 : Int)) + (4294967296 : Int)))) else (some (IntKind.i64.wrap (Int.tdiv b2487 (4294967296 : Int)), Int.tmod b2487 (4294967296 : Int)))) : Option (Int × Int)) >>= fun oo => match oo with | (x2491, x2492) => (f_pluvialref01_AddInt.l0 a0 (IntKind.i64.wrap (x2480 + x2491)) (IntKind.i64.wrap (x2481 + x2492)) (IntKind.i64.wrap (x2482 + (1 : Int))))) else (some (x2480, x2481))
partial_fixpoint
def f_pluvialref01_AddInt.f (a0 : List Int) : Option (Int × Int) := (f_pluvialref01_AddInt.l0 a0 0 0 0) >>= fun oo => match oo with | (x2493, x2494) => (((if (decide ((IntKind.i64.wrap (x2493 + (IntKind.i64.wrap (Int.tdiv x2494 (4294967296 : Int))))) > (2147483647 : Int))) = true then (some true) else (some (decide ((IntKind.i64.wrap (x2493 + (IntKind.i64.wrap (Int.tdiv x2494 (4294967296 : Int))))) < (-2147483648))))) : Option (Bool)) >>= fun x2497 => if x2497 = true then (some (0, 5)) else (some (IntKind.i64.wrap ((IntKind.i64.wrap ((IntKind.i64.wrap (x2493 + (IntKind.i64.wrap (Int.tdiv x2494 (4294967296 : Int))))) * (4294967296 : Int))) + (Int.tmod x2494 (4294967296 : Int))), 0)))
theorem f_pluvialref01_AddInt.ok (a0 : List Int) (r : Int × Int) (H : f_pluvialref01_AddInt.f a0 = some r) : Pv.Fn Try.prog 46 [.im (.row (a0.map (encInt .i64)))] [] 0 (fun x o => x = .tup [iV .i64 r.1, iV .i64 r.2] ∧ o = []) := by
  unfold f_pluvialref01_AddInt.f at H
  refine Fn.bodyK [] Try.func46 rfl rfl (fun Γ hP hn => ?_)
  have hm : Try.prog.follows .mixedOrders = true := by kernel_rfl
  replace hn : Γ.n = 53 := hn
  refine AWp.seq ?_
  refine reg hP hn hm [] [0] [] ⟨[(0, .im (.row (a0.map (encInt .i64))))], [], 0⟩ [] (by kernel_rfl) trivial ?_
  refine AWp.seq ?_
  refine reg hP hn hm [] [0, 4, 5] [] ⟨[(0, .im (.row (a0.map (encInt .i64)))), (4, iV .i64 0), (5, iV .i64 0)], [], 0⟩ [] (by kernel_rfl) trivial ?_
  refine AWp.seq ?_
  refine AWp.seq ?_
  refine reg hP hn hm [] [0, 4, 5, 6] [] ⟨[(0, .im (.row (a0.map (encInt .i64)))), (4, iV .i64 0), (5, iV .i64 0), (6, iV .i64 0)], [], 0⟩ [] (by kernel_rfl) trivial ?_
  refine AWp.block ?_
  obtain ⟨o2499, e2500, H⟩ := bind_of H
  refine AWp.loop (LWp.conv (inv := []) (vk := []) (e0 := []) (t := ⟨[(0, .im (.row (a0.map (encInt .i64)))), (4, iV .i64 0), (5, iV .i64 0), (6, iV .i64 0)], [], 0⟩) (by kernel_rfl) ?_)
  refine LWp.mono (Q := fun e s => (match (generalizing := false) o2499 with | (x2493, x2494) => e = .exit 0 ∧ s = ⟨[(4, iV .i64 x2493), (5, iV .i64 x2494)], [], 0⟩)) (LWp.cv (withBody (fun body hbody => ?_))) ?_
  · refine f_pluvialref01_AddInt.l0.partial_correctness a0 (motive := fun x2480 x2481 x2482 o2499 => LWp Γ body (fun e s => ∃ t, Cv Γ s t ∧ (match (generalizing := false) o2499 with | (x2493, x2494) => e = .exit 0 ∧ t = ⟨[(4, iV .i64 x2493), (5, iV .i64 x2494)], [], 0⟩)) ⟨[(0, .im (.row (a0.map (encInt .i64)))), (4, iV .i64 x2480), (5, iV .i64 x2481), (6, iV .i64 x2482)], [], 0⟩) ?_ _ _ _ _ e2500
    clear H e2500 o2499; intro self ih x2480 x2481 x2482 o2499 H
    subst hbody
    refine LWp.round ?_
    refine AWp.seq ?_
    refine AWp.seq ?_
    refine reg hP hn hm [(2, .any (iV .i64 (a0.length : Int)))] [0, 4, 5, 6, 12] [] ⟨[(0, .im (.row (a0.map (encInt .i64)))), (4, iV .i64 x2480), (5, iV .i64 x2481), (6, iV .i64 x2482), (12, bV (decide (x2482 < (a0.length : Int))))], [], 0⟩ [((a0.map (encInt .i64)).length : Int) = (a0.length : Int)] (by kernel_rfl) ⟨by rw [len_map], trivial⟩ ?_
    refine AWp.cond (decide (x2482 < (a0.length : Int))) rfl (fun c2483 => ?_) (fun c2483 => ?_)
    · replace H := (ifT c2483).symm.trans H
      refine AWp.skip ?_
      refine AWp.seq ?_
      refine AWp.block ?_
      refine AWp.seq ?_
      obtain ⟨b2487, p2488, q2489, H⟩ := at_of H
      refine reg hP hn hm [(2, .c ((encInt .i64) b2487))] [0, 4, 5, 6, 7] [] ⟨[(0, .im (.row (a0.map (encInt .i64)))), (4, iV .i64 x2480), (5, iV .i64 x2481), (6, iV .i64 x2482), (7, iV .i64 (IntKind.i64.wrap (Int.tdiv b2487 (4294967296 : Int))))], [], 0⟩ [0 ≤ x2482, (a0.map (encInt .i64))[(Int.toNat (x2482))]? = some ((encInt .i64) b2487), (4294967296 : Int) ≠ 0] (by kernel_rfl) ⟨by exact p2488, by exact el_map (encInt .i64) q2489, by decide, trivial⟩ ?_
      refine AWp.seq ?_
      refine reg hP hn hm [(2, .c ((encInt .i64) b2487))] [0, 4, 5, 6, 7, 8] [] ⟨[(0, .im (.row (a0.map (encInt .i64)))), (4, iV .i64 x2480), (5, iV .i64 x2481), (6, iV .i64 x2482), (7, iV .i64 (IntKind.i64.wrap (Int.tdiv b2487 (4294967296 : Int)))), (8, iV .i64 (Int.tmod b2487 (4294967296 : Int)))], [], 0⟩ [0 ≤ x2482, (a0.map (encInt .i64))[(Int.toNat (x2482))]? = some ((encInt .i64) b2487), (4294967296 : Int) ≠ 0] (by kernel_rfl) ⟨by exact p2488, by exact el_map (encInt .i64) q2489, by decide, trivial⟩ ?_
      refine AWp.seq ?_
      refine AWp.seq ?_
      refine reg hP hn hm [] [0, 4, 5, 6, 7, 8, 26] [] ⟨[(0, .im (.row (a0.map (encInt .i64)))), (4, iV .i64 x2480), (5, iV .i64 x2481), (6, iV .i64 x2482), (7, iV .i64 (IntKind.i64.wrap (Int.tdiv b2487 (4294967296 : Int)))), (8, iV .i64 (Int.tmod b2487 (4294967296 : Int))), (26, bV (decide ((Int.tmod b2487 (4294967296 : Int)) < (0 : Int))))], [], 0⟩ [] (by kernel_rfl) trivial ?_
      obtain ⟨o2501, e2502, H⟩ := bind_of H
      refine AWp.mono (Q := fun e s => (match (generalizing := false) o2501 with | (x2491, x2492) => e = .normal ∧ s = ⟨[(0, .im (.row (a0.map (encInt .i64)))), (4, iV .i64 x2480), (5, iV .i64 x2481), (6, iV .i64 x2482), (7, iV .i64 x2491), (8, iV .i64 x2492)], [], 0⟩)) (AWp.cv ?_) ?_
      · replace H := e2502; clear e2502
        refine AWp.cond (decide ((Int.tmod b2487 (4294967296 : Int)) < (0 : Int))) rfl (fun c2490 => ?_) (fun c2490 => ?_)
        · replace H := (ifT c2490).symm.trans H
          refine AWp.seq ?_
          refine reg hP hn hm [] [0, 4, 5, 6, 7, 8] [] ⟨[(0, .im (.row (a0.map (encInt .i64)))), (4, iV .i64 x2480), (5, iV .i64 x2481), (6, iV .i64 x2482), (7, iV .i64 (IntKind.i64.wrap (Int.tdiv b2487 (4294967296 : Int)))), (8, iV .i64 (IntKind.i64.wrap ((Int.tmod b2487 (4294967296 : Int)) + (4294967296 : Int))))], [], 0⟩ [] (by kernel_rfl) trivial ?_
          refine reg hP hn hm [] [0, 4, 5, 6, 7, 8] [] ⟨[(0, .im (.row (a0.map (encInt .i64)))), (4, iV .i64 x2480), (5, iV .i64 x2481), (6, iV .i64 x2482), (7, iV .i64 (IntKind.i64.wrap ((IntKind.i64.wrap (Int.tdiv b2487 (4294967296 : Int))) - (1 : Int)))), (8, iV .i64 (IntKind.i64.wrap ((Int.tmod b2487 (4294967296 : Int)) + (4294967296 : Int))))], [], 0⟩ [] (by kernel_rfl) trivial ?_
          obtain rfl := Option.some.inj H
          exact Exists.intro _ (And.intro (fun _ _ h => h.conv (inv := []) (vk := []) (e0 := []) (t := ⟨[(0, .im (.row (a0.map (encInt .i64)))), (4, iV .i64 x2480), (5, iV .i64 x2481), (6, iV .i64 x2482), (7, iV .i64 (IntKind.i64.wrap ((IntKind.i64.wrap (Int.tdiv b2487 (4294967296 : Int))) - (1 : Int)))), (8, iV .i64 (IntKind.i64.wrap ((Int.tmod b2487 (4294967296 : Int)) + (4294967296 : Int))))], [], 0⟩) (by kernel_rfl)) (And.intro rfl rfl))
        · replace H := (ifF c2490).symm.trans H
          refine AWp.skip ?_
          obtain rfl := Option.some.inj H
          exact Exists.intro _ (And.intro (fun _ _ h => h.conv (inv := []) (vk := []) (e0 := []) (t := ⟨[(0, .im (.row (a0.map (encInt .i64)))), (4, iV .i64 x2480), (5, iV .i64 x2481), (6, iV .i64 x2482), (7, iV .i64 (IntKind.i64.wrap (Int.tdiv b2487 (4294967296 : Int)))), (8, iV .i64 (Int.tmod b2487 (4294967296 : Int)))], [], 0⟩) (by kernel_rfl)) (And.intro rfl rfl))
      · obtain ⟨x2491, x2492⟩ := o2501
        rintro e s ⟨rfl, rfl⟩
        refine AWp.seq ?_
        refine reg hP hn hm [] [0, 4, 5, 6, 8] [] ⟨[(0, .im (.row (a0.map (encInt .i64)))), (4, iV .i64 (IntKind.i64.wrap (x2480 + x2491))), (5, iV .i64 x2481), (6, iV .i64 x2482), (8, iV .i64 x2492)], [], 0⟩ [] (by kernel_rfl) trivial ?_
        refine reg hP hn hm [] [0, 4, 5, 6] [] ⟨[(0, .im (.row (a0.map (encInt .i64)))), (4, iV .i64 (IntKind.i64.wrap (x2480 + x2491))), (5, iV .i64 (IntKind.i64.wrap (x2481 + x2492))), (6, iV .i64 x2482)], [], 0⟩ [] (by kernel_rfl) trivial ?_
        refine reg hP hn hm [] [0, 4, 5, 6] [] ⟨[(0, .im (.row (a0.map (encInt .i64)))), (4, iV .i64 (IntKind.i64.wrap (x2480 + x2491))), (5, iV .i64 (IntKind.i64.wrap (x2481 + x2492))), (6, iV .i64 (IntKind.i64.wrap (x2482 + (1 : Int))))], [], 0⟩ [] (by kernel_rfl) trivial ?_
        exact LWp.conv (inv := []) (vk := []) (e0 := []) (t := ⟨[(0, .im (.row (a0.map (encInt .i64)))), (4, iV .i64 (IntKind.i64.wrap (x2480 + x2491))), (5, iV .i64 (IntKind.i64.wrap (x2481 + x2492))), (6, iV .i64 (IntKind.i64.wrap (x2482 + (1 : Int))))], [], 0⟩) (by kernel_rfl) (ih _ _ _ _ H)
    · replace H := (ifF c2483).symm.trans H
      refine AWp.exit ?_
      obtain rfl := Option.some.inj H
      exact Exists.intro _ (And.intro (fun _ _ h => h.conv (inv := []) (vk := []) (e0 := []) (t := ⟨[(4, iV .i64 x2480), (5, iV .i64 x2481)], [], 0⟩) (by kernel_rfl)) (And.intro rfl rfl))
  · obtain ⟨x2493, x2494⟩ := o2499
    rintro e s ⟨rfl, rfl⟩
    refine AWp.seq ?_
    refine reg hP hn hm [] [4, 5] [] ⟨[(4, iV .i64 (IntKind.i64.wrap (x2493 + (IntKind.i64.wrap (Int.tdiv x2494 (4294967296 : Int)))))), (5, iV .i64 x2494)], [], 0⟩ [(4294967296 : Int) ≠ 0] (by kernel_rfl) ⟨by decide, trivial⟩ ?_
    refine AWp.seq ?_
    refine reg hP hn hm [] [4, 5] [] ⟨[(4, iV .i64 (IntKind.i64.wrap (x2493 + (IntKind.i64.wrap (Int.tdiv x2494 (4294967296 : Int)))))), (5, iV .i64 (Int.tmod x2494 (4294967296 : Int)))], [], 0⟩ [(4294967296 : Int) ≠ 0] (by kernel_rfl) ⟨by decide, trivial⟩ ?_
    refine AWp.seq ?_
    refine AWp.seq ?_
    obtain ⟨o2503, e2504, H⟩ := bind_of H
    refine AWp.mono (Q := fun e s => (match (generalizing := false) o2503 with | x2497 => e = .normal ∧ s = ⟨[(4, iV .i64 (IntKind.i64.wrap (x2493 + (IntKind.i64.wrap (Int.tdiv x2494 (4294967296 : Int)))))), (5, iV .i64 (Int.tmod x2494 (4294967296 : Int))), (48, bV x2497)], [], 0⟩)) (AWp.cv ?_) ?_
    · replace H := e2504; clear e2504
      rcases Bool.eq_false_or_eq_true (decide ((IntKind.i64.wrap (x2493 + (IntKind.i64.wrap (Int.tdiv x2494 (4294967296 : Int))))) > (2147483647 : Int))) with c2496 | c2496
      · replace H := (ifT c2496).symm.trans H
        refine reg hP hn hm [(2, .b true)] [4, 5, 48] [] ⟨[(4, iV .i64 (IntKind.i64.wrap (x2493 + (IntKind.i64.wrap (Int.tdiv x2494 (4294967296 : Int)))))), (5, iV .i64 (Int.tmod x2494 (4294967296 : Int))), (48, bV true)], [], 0⟩ [(decide ((IntKind.i64.wrap (x2493 + (IntKind.i64.wrap (Int.tdiv x2494 (4294967296 : Int))))) > (2147483647 : Int))) = true] (by kernel_rfl) ⟨by exact c2496, trivial⟩ ?_
        obtain rfl := Option.some.inj H
        exact Exists.intro _ (And.intro (fun _ _ h => h.conv (inv := []) (vk := []) (e0 := []) (t := ⟨[(4, iV .i64 (IntKind.i64.wrap (x2493 + (IntKind.i64.wrap (Int.tdiv x2494 (4294967296 : Int)))))), (5, iV .i64 (Int.tmod x2494 (4294967296 : Int))), (48, bV true)], [], 0⟩) (by kernel_rfl)) (And.intro rfl rfl))
      · replace H := (ifF c2496).symm.trans H
        refine reg hP hn hm [(2, .b false)] [4, 5, 48] [] ⟨[(4, iV .i64 (IntKind.i64.wrap (x2493 + (IntKind.i64.wrap (Int.tdiv x2494 (4294967296 : Int)))))), (5, iV .i64 (Int.tmod x2494 (4294967296 : Int))), (48, bV (decide ((IntKind.i64.wrap (x2493 + (IntKind.i64.wrap (Int.tdiv x2494 (4294967296 : Int))))) < (-2147483648))))], [], 0⟩ [(decide ((IntKind.i64.wrap (x2493 + (IntKind.i64.wrap (Int.tdiv x2494 (4294967296 : Int))))) > (2147483647 : Int))) = false] (by kernel_rfl) ⟨by exact c2496, trivial⟩ ?_
        obtain rfl := Option.some.inj H
        exact Exists.intro _ (And.intro (fun _ _ h => h.conv (inv := []) (vk := []) (e0 := []) (t := ⟨[(4, iV .i64 (IntKind.i64.wrap (x2493 + (IntKind.i64.wrap (Int.tdiv x2494 (4294967296 : Int)))))), (5, iV .i64 (Int.tmod x2494 (4294967296 : Int))), (48, bV (decide ((IntKind.i64.wrap (x2493 + (IntKind.i64.wrap (Int.tdiv x2494 (4294967296 : Int))))) < (-2147483648))))], [], 0⟩) (by kernel_rfl)) (And.intro rfl rfl))
    · obtain ⟨x2497, rfl⟩ : ∃ z, z = o2503 := ⟨_, rfl⟩
      rintro e s ⟨rfl, rfl⟩
      refine AWp.cond x2497 rfl (fun c2498 => ?_) (fun c2498 => ?_)
      · replace H := (ifT c2498).symm.trans H
        refine AWp.seq ?_
        refine reg hP hn hm [] [2, 3] [] ⟨[(2, iV .i64 0), (3, iV .i64 5)], [], 0⟩ [] (by kernel_rfl) trivial ?_
        refine AWp.conv (inv := []) (vk := []) (e0 := []) (t := ⟨[(2, iV .i64 0), (3, iV .i64 5)], [], 0⟩) (by kernel_rfl) ?_
        refine AWp.ret ?_
        obtain rfl := Option.some.inj H
        exact Exists.intro _ (And.intro (fun _ _ h => h) (And.intro (.inl rfl) (And.intro rfl (And.intro (by kernel_rfl) (by kernel_rfl)))))
      · replace H := (ifF c2498).symm.trans H
        refine AWp.skip ?_
        refine AWp.seq ?_
        refine reg hP hn hm [] [2, 3] [] ⟨[(2, iV .i64 (IntKind.i64.wrap ((IntKind.i64.wrap ((IntKind.i64.wrap (x2493 + (IntKind.i64.wrap (Int.tdiv x2494 (4294967296 : Int))))) * (4294967296 : Int))) + (Int.tmod x2494 (4294967296 : Int))))), (3, iV .i64 0)], [], 0⟩ [] (by kernel_rfl) trivial ?_
        refine AWp.conv (inv := []) (vk := []) (e0 := []) (t := ⟨[(2, iV .i64 (IntKind.i64.wrap ((IntKind.i64.wrap ((IntKind.i64.wrap (x2493 + (IntKind.i64.wrap (Int.tdiv x2494 (4294967296 : Int))))) * (4294967296 : Int))) + (Int.tmod x2494 (4294967296 : Int))))), (3, iV .i64 0)], [], 0⟩) (by kernel_rfl) ?_
        refine AWp.ret ?_
        obtain rfl := Option.some.inj H
        exact Exists.intro _ (And.intro (fun _ _ h => h) (And.intro (.inl rfl) (And.intro rfl (And.intro (by kernel_rfl) (by kernel_rfl)))))
def f_pluvialref07_Add.f (a0 : THist) (a1 : THist) : Option (THist × Int) := (f_pluvialref01_AddInt.f [a0.f5, a1.f5]) >>= fun t2507 => (f_pluvialref07_Alike.f a0 a1) >>= fun t2511 => (f_pluvialref01_Add.f [(t2511.1).f3, (t2511.2).f3]) >>= fun t2515 => (f_pluvialref01_Add.f [(t2511.1).f4, (t2511.2).f4]) >>= fun t2519 => ((if (t2507.2 != (0 : Int)) = true then (some true) else (if (t2515.2 != (0 : Int)) = true then (some true) else (some (t2519.2 != (0 : Int))))) : Option (Bool)) >>= fun x2525 => if x2525 = true then (some ((⟨0, 0, 0, 0, 0, 0, [], []⟩ : THist), 5)) else (((if (decide (((t2511.2).f0) > ((t2511.1).f0))) = true then (some ((t2511.2).f0)) else (some ((t2511.1).f0))) : Option (Int)) >>= fun x2528 => (chk ((([] : List TBucket).length + ((t2511.1).f6).length) * 16 ≤ 140737488355328)) >>= fun _ => (chk (((([] : List TBucket) ++ ((t2511.1).f6)).length + ((t2511.2).f6).length) * 16 ≤ 140737488355328)) >>= fun _ => (f_pluvialref05_Tidy.f ((([] : List TBucket) ++ ((t2511.1).f6)) ++ ((t2511.2).f6))) >>= fun t2535 => (chk ((([] : List TBucket).length + ((t2511.1).f7).length) * 16 ≤ 140737488355328)) >>= fun _ => (chk (((([] : List TBucket) ++ ((t2511.1).f7)).length + ((t2511.2).f7).length) * 16 ≤ 140737488355328)) >>= fun _ => (f_pluvialref05_Tidy.f ((([] : List TBucket) ++ ((t2511.1).f7)) ++ ((t2511.2).f7))) >>= fun t2543 => ((if (decide ((t2535.1.length : Int) > (512 : Int))) = true then (some true) else (some (decide ((t2543.1.length : Int) > (512 : Int))))) : Option (Bool)) >>= fun x2547 => if x2547 = true then (some ((⟨0, 0, 0, 0, 0, 0, [], []⟩ : THist), 9)) else (some ((⟨x2528, (t2511.1).f1, (t2511.1).f2, t2515.1, t2519.1, t2507.1, t2535.1, t2543.1⟩ : THist), 0)))
theorem f_pluvialref07_Add.ok (a0 : THist) (a1 : THist) (r : THist × Int) (H : f_pluvialref07_Add.f a0 a1 = some r) : Pv.Fn Try.prog 22 [.agg (aHist a0), .agg (aHist a1)] [] 0 (fun x o => x = .tup [.agg [iV .i64 ((r.1).f0), iV .i64 ((r.1).f1), iV .i64 ((r.1).f2), iV .u64 ((r.1).f3), iV .u64 ((r.1).f4), iV .i64 ((r.1).f5), .own 0, .own 1], iV .i64 r.2] ∧ o = [(0, some (.row 2 54 (((r.1).f6).map eBucket))), (1, some (.row 2 54 (((r.1).f7).map eBucket)))]) := by
  unfold f_pluvialref07_Add.f at H
  refine Fn.bodyK [0, 1] Try.func22 rfl rfl (fun Γ hP hn => ?_)
  have hm : Try.prog.follows .mixedOrders = true := by kernel_rfl
  replace hn : Γ.n = 111 := hn
  refine AWp.seq ?_
  refine reg hP hn hm [(0, .k 0), (1, .k 1), (2, .k 2)] [2, 3, 4] [0, 1, 2] ⟨[(2, .ptr 0 0 0), (3, .ptr 1 0 0), (4, .ptr 2 0 0)], [(0, some (.box 25 (aHist a0))), (1, some (.box 25 (aHist a1))), (2, some (.box 25 [iV .i64 0, iV .i64 0, iV .i64 0, iV .u64 0, iV .u64 0, iV .i64 0, .none0, .none0]))], 0⟩ [] (by kernel_rfl) trivial ?_
  refine AWp.seq ?_
  obtain ⟨t2507, e2508, H⟩ := bind_of H
  refine reg hP hn hm [(4, .app 3 ([a0.f5, a1.f5].map (encInt .i64))), (5, .call [] [] [3] [] 0 (.tup [iV .i64 t2507.1, iV .i64 t2507.2]) [])] [2, 3, 4, 6, 7] [0, 1, 2] ⟨[(2, .ptr 0 0 0), (3, .ptr 1 0 0), (4, .ptr 2 0 0), (6, iV .i64 t2507.1), (7, iV .i64 t2507.2)], [(0, some (.box 25 (aHist a0))), (1, some (.box 25 (aHist a1))), (2, some (.box 25 [iV .i64 0, iV .i64 0, iV .i64 0, iV .u64 0, iV .u64 0, iV .i64 0, .none0, .none0]))], 0⟩ [[a0.f5, a1.f5].map (encInt .i64) = [[iI .i64 a0.f5], [iI .i64 a1.f5]], Enters Try.prog 46, Pv.Fn Try.prog 46 [.im (.row ([a0.f5, a1.f5].map (encInt .i64)))] [] 0 (fun r o => r = .tup [iV .i64 t2507.1, iV .i64 t2507.2] ∧ o = [])] (by kernel_rfl) ⟨by exact rfl, by exact Try.call46, by exact f_pluvialref01_AddInt.ok [a0.f5, a1.f5] t2507 e2508, trivial⟩ ?_
  refine AWp.seq ?_
  obtain ⟨t2511, e2512, H⟩ := bind_of H
  refine reg hP hn hm [(2, .call [] [] [] [] 0 (.tup [.agg (aHist (t2511.1)), .agg (aHist (t2511.2))]) [])] [2, 3, 4, 6, 7] [0, 1, 2] ⟨[(2, .ptr 0 0 0), (3, .ptr 1 0 0), (4, .ptr 2 0 0), (6, iV .i64 t2507.1), (7, iV .i64 t2507.2)], [(0, some (.box 25 (aHist (t2511.1)))), (1, some (.box 25 (aHist (t2511.2)))), (2, some (.box 25 [iV .i64 0, iV .i64 0, iV .i64 0, iV .u64 0, iV .u64 0, iV .i64 0, .none0, .none0]))], 0⟩ [Enters Try.prog 20, Pv.Fn Try.prog 20 [.agg (aHist a0), .agg (aHist a1)] [] 0 (fun r o => r = .tup [.agg (aHist (t2511.1)), .agg (aHist (t2511.2))] ∧ o = [])] (by kernel_rfl) ⟨by exact Try.call20, by exact f_pluvialref07_Alike.ok a0 a1 t2511 e2512, trivial⟩ ?_
  refine AWp.seq ?_
  obtain ⟨t2515, e2516, H⟩ := bind_of H
  refine reg hP hn hm [(4, .app 4 ([(t2511.1).f3, (t2511.2).f3].map (encInt .u64))), (5, .call [] [] [4] [] 0 (.tup [iV .u64 t2515.1, iV .i64 t2515.2]) [])] [2, 3, 4, 6, 7, 8, 9] [0, 1, 2] ⟨[(2, .ptr 0 0 0), (3, .ptr 1 0 0), (4, .ptr 2 0 0), (6, iV .i64 t2507.1), (7, iV .i64 t2507.2), (8, iV .u64 t2515.1), (9, iV .i64 t2515.2)], [(0, some (.box 25 (aHist (t2511.1)))), (1, some (.box 25 (aHist (t2511.2)))), (2, some (.box 25 [iV .i64 0, iV .i64 0, iV .i64 0, iV .u64 0, iV .u64 0, iV .i64 0, .none0, .none0]))], 0⟩ [[(t2511.1).f3, (t2511.2).f3].map (encInt .u64) = [[iI .u64 ((t2511.1).f3)], [iI .u64 ((t2511.2).f3)]], Enters Try.prog 47, Pv.Fn Try.prog 47 [.im (.row ([(t2511.1).f3, (t2511.2).f3].map (encInt .u64)))] [] 0 (fun r o => r = .tup [iV .u64 t2515.1, iV .i64 t2515.2] ∧ o = [])] (by kernel_rfl) ⟨by exact rfl, by exact Try.call47, by exact f_pluvialref01_Add.ok [(t2511.1).f3, (t2511.2).f3] t2515 e2516, trivial⟩ ?_
  refine AWp.seq ?_
  obtain ⟨t2519, e2520, H⟩ := bind_of H
  refine reg hP hn hm [(4, .app 5 ([(t2511.1).f4, (t2511.2).f4].map (encInt .u64))), (5, .call [] [] [5] [] 0 (.tup [iV .u64 t2519.1, iV .i64 t2519.2]) [])] [2, 3, 4, 6, 7, 8, 9, 10, 11] [0, 1, 2] ⟨[(2, .ptr 0 0 0), (3, .ptr 1 0 0), (4, .ptr 2 0 0), (6, iV .i64 t2507.1), (7, iV .i64 t2507.2), (8, iV .u64 t2515.1), (9, iV .i64 t2515.2), (10, iV .u64 t2519.1), (11, iV .i64 t2519.2)], [(0, some (.box 25 (aHist (t2511.1)))), (1, some (.box 25 (aHist (t2511.2)))), (2, some (.box 25 [iV .i64 0, iV .i64 0, iV .i64 0, iV .u64 0, iV .u64 0, iV .i64 0, .none0, .none0]))], 0⟩ [[(t2511.1).f4, (t2511.2).f4].map (encInt .u64) = [[iI .u64 ((t2511.1).f4)], [iI .u64 ((t2511.2).f4)]], Enters Try.prog 47, Pv.Fn Try.prog 47 [.im (.row ([(t2511.1).f4, (t2511.2).f4].map (encInt .u64)))] [] 0 (fun r o => r = .tup [iV .u64 t2519.1, iV .i64 t2519.2] ∧ o = [])] (by kernel_rfl) ⟨by exact rfl, by exact Try.call47, by exact f_pluvialref01_Add.ok [(t2511.1).f4, (t2511.2).f4] t2519 e2520, trivial⟩ ?_
  refine AWp.seq ?_
  refine AWp.seq ?_
  obtain ⟨o2549, e2550, H⟩ := bind_of H
  refine AWp.mono (Q := fun e s => (match (generalizing := false) o2549 with | x2525 => e = .normal ∧ s = ⟨[(2, .ptr 6 0 0), (3, .ptr 7 0 0), (4, .ptr 8 0 0), (6, iV .i64 t2507.1), (8, iV .u64 t2515.1), (10, iV .u64 t2519.1), (55, bV x2525)], [(6, some (.box 25 (aHist (t2511.1)))), (7, some (.box 25 (aHist (t2511.2)))), (8, some (.box 25 [iV .i64 0, iV .i64 0, iV .i64 0, iV .u64 0, iV .u64 0, iV .i64 0, .none0, .none0]))], 0⟩)) (AWp.cv ?_) ?_
  · replace H := e2550; clear e2550
    rcases Bool.eq_false_or_eq_true (t2507.2 != (0 : Int)) with c2523 | c2523
    · replace H := (ifT c2523).symm.trans H
      refine reg hP hn hm [(2, .b true)] [2, 3, 4, 6, 8, 10, 55] [0, 1, 2] ⟨[(2, .ptr 0 0 0), (3, .ptr 1 0 0), (4, .ptr 2 0 0), (6, iV .i64 t2507.1), (8, iV .u64 t2515.1), (10, iV .u64 t2519.1), (55, bV true)], [(0, some (.box 25 (aHist (t2511.1)))), (1, some (.box 25 (aHist (t2511.2)))), (2, some (.box 25 [iV .i64 0, iV .i64 0, iV .i64 0, iV .u64 0, iV .u64 0, iV .i64 0, .none0, .none0]))], 0⟩ [(t2507.2 != (0 : Int)) = true] (by kernel_rfl) ⟨by exact c2523, trivial⟩ ?_
      obtain rfl := Option.some.inj H
      exact Exists.intro _ (And.intro (fun _ _ h => h.conv (inv := [(0, 6), (1, 7), (2, 8)]) (vk := []) (e0 := []) (t := ⟨[(2, .ptr 6 0 0), (3, .ptr 7 0 0), (4, .ptr 8 0 0), (6, iV .i64 t2507.1), (8, iV .u64 t2515.1), (10, iV .u64 t2519.1), (55, bV true)], [(6, some (.box 25 (aHist (t2511.1)))), (7, some (.box 25 (aHist (t2511.2)))), (8, some (.box 25 [iV .i64 0, iV .i64 0, iV .i64 0, iV .u64 0, iV .u64 0, iV .i64 0, .none0, .none0]))], 0⟩) (by kernel_rfl)) (And.intro rfl rfl))
    · replace H := (ifF c2523).symm.trans H
      rcases Bool.eq_false_or_eq_true (t2515.2 != (0 : Int)) with c2524 | c2524
      · replace H := (ifT c2524).symm.trans H
        refine reg hP hn hm [(2, .b false), (6, .b true)] [2, 3, 4, 6, 8, 10, 55] [0, 1, 2] ⟨[(2, .ptr 0 0 0), (3, .ptr 1 0 0), (4, .ptr 2 0 0), (6, iV .i64 t2507.1), (8, iV .u64 t2515.1), (10, iV .u64 t2519.1), (55, bV true)], [(0, some (.box 25 (aHist (t2511.1)))), (1, some (.box 25 (aHist (t2511.2)))), (2, some (.box 25 [iV .i64 0, iV .i64 0, iV .i64 0, iV .u64 0, iV .u64 0, iV .i64 0, .none0, .none0]))], 0⟩ [(t2507.2 != (0 : Int)) = false, (t2515.2 != (0 : Int)) = true] (by kernel_rfl) ⟨by exact c2523, by exact c2524, trivial⟩ ?_
        obtain rfl := Option.some.inj H
        exact Exists.intro _ (And.intro (fun _ _ h => h.conv (inv := [(0, 6), (1, 7), (2, 8)]) (vk := []) (e0 := []) (t := ⟨[(2, .ptr 6 0 0), (3, .ptr 7 0 0), (4, .ptr 8 0 0), (6, iV .i64 t2507.1), (8, iV .u64 t2515.1), (10, iV .u64 t2519.1), (55, bV true)], [(6, some (.box 25 (aHist (t2511.1)))), (7, some (.box 25 (aHist (t2511.2)))), (8, some (.box 25 [iV .i64 0, iV .i64 0, iV .i64 0, iV .u64 0, iV .u64 0, iV .i64 0, .none0, .none0]))], 0⟩) (by kernel_rfl)) (And.intro rfl rfl))
      · replace H := (ifF c2524).symm.trans H
        refine reg hP hn hm [(2, .b false), (6, .b false)] [2, 3, 4, 6, 8, 10, 55] [0, 1, 2] ⟨[(2, .ptr 0 0 0), (3, .ptr 1 0 0), (4, .ptr 2 0 0), (6, iV .i64 t2507.1), (8, iV .u64 t2515.1), (10, iV .u64 t2519.1), (55, bV (t2519.2 != (0 : Int)))], [(0, some (.box 25 (aHist (t2511.1)))), (1, some (.box 25 (aHist (t2511.2)))), (2, some (.box 25 [iV .i64 0, iV .i64 0, iV .i64 0, iV .u64 0, iV .u64 0, iV .i64 0, .none0, .none0]))], 0⟩ [(t2507.2 != (0 : Int)) = false, (t2515.2 != (0 : Int)) = false] (by kernel_rfl) ⟨by exact c2523, by exact c2524, trivial⟩ ?_
        obtain rfl := Option.some.inj H
        exact Exists.intro _ (And.intro (fun _ _ h => h.conv (inv := [(0, 6), (1, 7), (2, 8)]) (vk := []) (e0 := []) (t := ⟨[(2, .ptr 6 0 0), (3, .ptr 7 0 0), (4, .ptr 8 0 0), (6, iV .i64 t2507.1), (8, iV .u64 t2515.1), (10, iV .u64 t2519.1), (55, bV (t2519.2 != (0 : Int)))], [(6, some (.box 25 (aHist (t2511.1)))), (7, some (.box 25 (aHist (t2511.2)))), (8, some (.box 25 [iV .i64 0, iV .i64 0, iV .i64 0, iV .u64 0, iV .u64 0, iV .i64 0, .none0, .none0]))], 0⟩) (by kernel_rfl)) (And.intro rfl rfl))
  · obtain ⟨x2525, rfl⟩ : ∃ z, z = o2549 := ⟨_, rfl⟩
    rintro e s ⟨rfl, rfl⟩
    refine AWp.cond x2525 rfl (fun c2526 => ?_) (fun c2526 => ?_)
    · replace H := (ifT c2526).symm.trans H
      refine AWp.seq ?_
      refine reg hP hn hm [] [4, 5] [8] ⟨[(4, .ptr 8 0 0), (5, iV .i64 5)], [(8, some (.box 25 [iV .i64 0, iV .i64 0, iV .i64 0, iV .u64 0, iV .u64 0, iV .i64 0, .none0, .none0]))], 0⟩ [] (by kernel_rfl) trivial ?_
      refine AWp.conv (inv := [(8, 2)]) (vk := []) (e0 := [0, 1]) (t := ⟨[(4, .ptr 2 0 0), (5, iV .i64 5)], [(0, some (.row 2 54 ((((⟨0, 0, 0, 0, 0, 0, [], []⟩ : THist)).f6).map eBucket))), (1, some (.row 2 54 ((((⟨0, 0, 0, 0, 0, 0, [], []⟩ : THist)).f7).map eBucket))), (2, some (.box 25 [iV .i64 (((⟨0, 0, 0, 0, 0, 0, [], []⟩ : THist)).f0), iV .i64 (((⟨0, 0, 0, 0, 0, 0, [], []⟩ : THist)).f1), iV .i64 (((⟨0, 0, 0, 0, 0, 0, [], []⟩ : THist)).f2), iV .u64 (((⟨0, 0, 0, 0, 0, 0, [], []⟩ : THist)).f3), iV .u64 (((⟨0, 0, 0, 0, 0, 0, [], []⟩ : THist)).f4), iV .i64 (((⟨0, 0, 0, 0, 0, 0, [], []⟩ : THist)).f5), .own 0, .own 1]))], 0⟩) (by kernel_rfl) ?_
      refine AWp.ret ?_
      obtain rfl := Option.some.inj H
      exact Exists.intro _ (And.intro (fun _ _ h => h) (And.intro (.inl rfl) (And.intro rfl (And.intro (by kernel_rfl) (by kernel_rfl)))))
    · replace H := (ifF c2526).symm.trans H
      refine AWp.skip ?_
      refine AWp.seq ?_
      refine reg hP hn hm [(10, .k 9)] [2, 3, 4, 12] [6, 7, 8, 9] ⟨[(2, .ptr 6 0 0), (3, .ptr 7 0 0), (4, .ptr 8 0 0), (12, .ptr 9 0 0)], [(6, some (.box 25 (aHist (t2511.1)))), (7, some (.box 25 (aHist (t2511.2)))), (8, some (.box 25 [iV .i64 0, iV .i64 0, iV .i64 0, iV .u64 0, iV .u64 0, iV .i64 0, .none0, .none0])), (9, some (.box 25 [iV .i64 ((t2511.1).f0), iV .i64 ((t2511.1).f1), iV .i64 ((t2511.1).f2), iV .u64 t2515.1, iV .u64 t2519.1, iV .i64 t2507.1, .none0, .none0]))], 0⟩ [] (by kernel_rfl) trivial ?_
      refine AWp.seq ?_
      refine AWp.seq ?_
      refine reg hP hn hm [] [2, 3, 4, 12, 71] [6, 7, 8, 9] ⟨[(2, .ptr 6 0 0), (3, .ptr 7 0 0), (4, .ptr 8 0 0), (12, .ptr 9 0 0), (71, bV (decide (((t2511.2).f0) > ((t2511.1).f0))))], [(6, some (.box 25 (aHist (t2511.1)))), (7, some (.box 25 (aHist (t2511.2)))), (8, some (.box 25 [iV .i64 0, iV .i64 0, iV .i64 0, iV .u64 0, iV .u64 0, iV .i64 0, .none0, .none0])), (9, some (.box 25 [iV .i64 ((t2511.1).f0), iV .i64 ((t2511.1).f1), iV .i64 ((t2511.1).f2), iV .u64 t2515.1, iV .u64 t2519.1, iV .i64 t2507.1, .none0, .none0]))], 0⟩ [] (by kernel_rfl) trivial ?_
      obtain ⟨o2551, e2552, H⟩ := bind_of H
      refine AWp.mono (Q := fun e s => (match (generalizing := false) o2551 with | x2528 => e = .normal ∧ s = ⟨[(2, .ptr 10 0 0), (3, .ptr 11 0 0), (4, .ptr 12 0 0), (12, .ptr 13 0 0)], [(10, some (.box 25 (aHist (t2511.1)))), (11, some (.box 25 (aHist (t2511.2)))), (12, some (.box 25 [iV .i64 0, iV .i64 0, iV .i64 0, iV .u64 0, iV .u64 0, iV .i64 0, .none0, .none0])), (13, some (.box 25 [iV .i64 x2528, iV .i64 ((t2511.1).f1), iV .i64 ((t2511.1).f2), iV .u64 t2515.1, iV .u64 t2519.1, iV .i64 t2507.1, .none0, .none0]))], 0⟩)) (AWp.cv ?_) ?_
      · replace H := e2552; clear e2552
        refine AWp.cond (decide (((t2511.2).f0) > ((t2511.1).f0))) rfl (fun c2527 => ?_) (fun c2527 => ?_)
        · replace H := (ifT c2527).symm.trans H
          refine reg hP hn hm [] [2, 3, 4, 12] [6, 7, 8, 9] ⟨[(2, .ptr 6 0 0), (3, .ptr 7 0 0), (4, .ptr 8 0 0), (12, .ptr 9 0 0)], [(6, some (.box 25 (aHist (t2511.1)))), (7, some (.box 25 (aHist (t2511.2)))), (8, some (.box 25 [iV .i64 0, iV .i64 0, iV .i64 0, iV .u64 0, iV .u64 0, iV .i64 0, .none0, .none0])), (9, some (.box 25 [iV .i64 ((t2511.2).f0), iV .i64 ((t2511.1).f1), iV .i64 ((t2511.1).f2), iV .u64 t2515.1, iV .u64 t2519.1, iV .i64 t2507.1, .none0, .none0]))], 0⟩ [] (by kernel_rfl) trivial ?_
          obtain rfl := Option.some.inj H
          exact Exists.intro _ (And.intro (fun _ _ h => h.conv (inv := [(6, 10), (7, 11), (8, 12), (9, 13)]) (vk := []) (e0 := []) (t := ⟨[(2, .ptr 10 0 0), (3, .ptr 11 0 0), (4, .ptr 12 0 0), (12, .ptr 13 0 0)], [(10, some (.box 25 (aHist (t2511.1)))), (11, some (.box 25 (aHist (t2511.2)))), (12, some (.box 25 [iV .i64 0, iV .i64 0, iV .i64 0, iV .u64 0, iV .u64 0, iV .i64 0, .none0, .none0])), (13, some (.box 25 [iV .i64 ((t2511.2).f0), iV .i64 ((t2511.1).f1), iV .i64 ((t2511.1).f2), iV .u64 t2515.1, iV .u64 t2519.1, iV .i64 t2507.1, .none0, .none0]))], 0⟩) (by kernel_rfl)) (And.intro rfl rfl))
        · replace H := (ifF c2527).symm.trans H
          refine AWp.skip ?_
          obtain rfl := Option.some.inj H
          exact Exists.intro _ (And.intro (fun _ _ h => h.conv (inv := [(6, 10), (7, 11), (8, 12), (9, 13)]) (vk := []) (e0 := []) (t := ⟨[(2, .ptr 10 0 0), (3, .ptr 11 0 0), (4, .ptr 12 0 0), (12, .ptr 13 0 0)], [(10, some (.box 25 (aHist (t2511.1)))), (11, some (.box 25 (aHist (t2511.2)))), (12, some (.box 25 [iV .i64 0, iV .i64 0, iV .i64 0, iV .u64 0, iV .u64 0, iV .i64 0, .none0, .none0])), (13, some (.box 25 [iV .i64 ((t2511.1).f0), iV .i64 ((t2511.1).f1), iV .i64 ((t2511.1).f2), iV .u64 t2515.1, iV .u64 t2519.1, iV .i64 t2507.1, .none0, .none0]))], 0⟩) (by kernel_rfl)) (And.intro rfl rfl))
      · obtain ⟨x2528, rfl⟩ : ∃ z, z = o2551 := ⟨_, rfl⟩
        rintro e s ⟨rfl, rfl⟩
        refine AWp.seq ?_
        obtain ⟨c2533, H⟩ := chk_of H
        obtain ⟨c2534, H⟩ := chk_of H
        obtain ⟨t2535, e2536, H⟩ := bind_of H
        refine reg hP hn hm [(0, .app 14 ([].map eBucket)), (3, .app 15 ((([] : List TBucket) ++ ((t2511.1).f6)).map eBucket)), (6, .app 16 (((([] : List TBucket) ++ ((t2511.1).f6)) ++ ((t2511.2).f6)).map eBucket)), (7, .call [] [(0, 17)] [16] [17] 0 (.tup [.own 0, iV .i64 t2535.2]) [(0, some (.row 2 54 (t2535.1.map eBucket)))])] [2, 3, 4, 12] [10, 11, 12, 13, 17] ⟨[(2, .ptr 10 0 0), (3, .ptr 11 0 0), (4, .ptr 12 0 0), (12, .ptr 13 0 0)], [(10, some (.box 25 (aHist (t2511.1)))), (11, some (.box 25 (aHist (t2511.2)))), (12, some (.box 25 [iV .i64 0, iV .i64 0, iV .i64 0, iV .u64 0, iV .u64 0, iV .i64 0, .none0, .none0])), (13, some (.box 25 [iV .i64 x2528, iV .i64 ((t2511.1).f1), iV .i64 ((t2511.1).f2), iV .u64 t2515.1, iV .u64 t2519.1, iV .i64 t2507.1, .own 17, .none0])), (17, some (.row 2 54 (t2535.1.map eBucket)))], 0⟩ [[].map eBucket = [], (([] : List TBucket) ++ ((t2511.1).f6)).map eBucket = (([] : List TBucket).map eBucket) ++ (((t2511.1).f6).map eBucket), ∀ c ∈ (((t2511.1).f6).map eBucket), c.length = 2, ∀ c ∈ (((t2511.1).f6).map eBucket), leaves (c.map .im) = true, ((([] : List TBucket).map eBucket).length + (((t2511.1).f6).map eBucket).length) * 16 ≤ 140737488355328, ((([] : List TBucket) ++ ((t2511.1).f6)) ++ ((t2511.2).f6)).map eBucket = ((([] : List TBucket) ++ ((t2511.1).f6)).map eBucket) ++ (((t2511.2).f6).map eBucket), ∀ c ∈ (((t2511.2).f6).map eBucket), c.length = 2, ∀ c ∈ (((t2511.2).f6).map eBucket), leaves (c.map .im) = true, (((([] : List TBucket) ++ ((t2511.1).f6)).map eBucket).length + (((t2511.2).f6).map eBucket).length) * 16 ≤ 140737488355328, Enters Try.prog 48, Pv.Fn Try.prog 48 [.im (.row (((([] : List TBucket) ++ ((t2511.1).f6)) ++ ((t2511.2).f6)).map eBucket))] [] 0 (fun r o => r = .tup [.own 0, iV .i64 t2535.2] ∧ o = [(0, some (.row 2 54 (t2535.1.map eBucket)))])] (by kernel_rfl) ⟨by exact rfl, by simp, by exact all_len _ _ _ (fun _ => rfl), by exact all_leaf _ _ (fun _ => rfl), by simpa using c2533, by simp, by exact all_len _ _ _ (fun _ => rfl), by exact all_leaf _ _ (fun _ => rfl), by simpa using c2534, by exact Try.call48, by exact f_pluvialref05_Tidy.ok ((([] : List TBucket) ++ ((t2511.1).f6)) ++ ((t2511.2).f6)) t2535 e2536, trivial⟩ ?_
        refine AWp.seq ?_
        obtain ⟨c2541, H⟩ := chk_of H
        obtain ⟨c2542, H⟩ := chk_of H
        obtain ⟨t2543, e2544, H⟩ := bind_of H
        refine reg hP hn hm [(0, .app 18 ([].map eBucket)), (3, .app 19 ((([] : List TBucket) ++ ((t2511.1).f7)).map eBucket)), (6, .app 20 (((([] : List TBucket) ++ ((t2511.1).f7)) ++ ((t2511.2).f7)).map eBucket)), (7, .call [] [(0, 21)] [20] [21] 0 (.tup [.own 0, iV .i64 t2543.2]) [(0, some (.row 2 54 (t2543.1.map eBucket)))])] [4, 12] [12, 13, 17, 21] ⟨[(4, .ptr 12 0 0), (12, .ptr 13 0 0)], [(12, some (.box 25 [iV .i64 0, iV .i64 0, iV .i64 0, iV .u64 0, iV .u64 0, iV .i64 0, .none0, .none0])), (13, some (.box 25 [iV .i64 x2528, iV .i64 ((t2511.1).f1), iV .i64 ((t2511.1).f2), iV .u64 t2515.1, iV .u64 t2519.1, iV .i64 t2507.1, .own 17, .own 21])), (17, some (.row 2 54 (t2535.1.map eBucket))), (21, some (.row 2 54 (t2543.1.map eBucket)))], 0⟩ [[].map eBucket = [], (([] : List TBucket) ++ ((t2511.1).f7)).map eBucket = (([] : List TBucket).map eBucket) ++ (((t2511.1).f7).map eBucket), ∀ c ∈ (((t2511.1).f7).map eBucket), c.length = 2, ∀ c ∈ (((t2511.1).f7).map eBucket), leaves (c.map .im) = true, ((([] : List TBucket).map eBucket).length + (((t2511.1).f7).map eBucket).length) * 16 ≤ 140737488355328, ((([] : List TBucket) ++ ((t2511.1).f7)) ++ ((t2511.2).f7)).map eBucket = ((([] : List TBucket) ++ ((t2511.1).f7)).map eBucket) ++ (((t2511.2).f7).map eBucket), ∀ c ∈ (((t2511.2).f7).map eBucket), c.length = 2, ∀ c ∈ (((t2511.2).f7).map eBucket), leaves (c.map .im) = true, (((([] : List TBucket) ++ ((t2511.1).f7)).map eBucket).length + (((t2511.2).f7).map eBucket).length) * 16 ≤ 140737488355328, Enters Try.prog 48, Pv.Fn Try.prog 48 [.im (.row (((([] : List TBucket) ++ ((t2511.1).f7)) ++ ((t2511.2).f7)).map eBucket))] [] 0 (fun r o => r = .tup [.own 0, iV .i64 t2543.2] ∧ o = [(0, some (.row 2 54 (t2543.1.map eBucket)))])] (by kernel_rfl) ⟨by exact rfl, by simp, by exact all_len _ _ _ (fun _ => rfl), by exact all_leaf _ _ (fun _ => rfl), by simpa using c2541, by simp, by exact all_len _ _ _ (fun _ => rfl), by exact all_leaf _ _ (fun _ => rfl), by simpa using c2542, by exact Try.call48, by exact f_pluvialref05_Tidy.ok ((([] : List TBucket) ++ ((t2511.1).f7)) ++ ((t2511.2).f7)) t2543 e2544, trivial⟩ ?_
        refine AWp.seq ?_
        refine AWp.seq ?_
        obtain ⟨o2553, e2554, H⟩ := bind_of H
        refine AWp.mono (Q := fun e s => (match (generalizing := false) o2553 with | x2547 => e = .normal ∧ s = ⟨[(4, .ptr 22 0 0), (12, .ptr 23 0 0), (108, bV x2547)], [(22, some (.box 25 [iV .i64 0, iV .i64 0, iV .i64 0, iV .u64 0, iV .u64 0, iV .i64 0, .none0, .none0])), (23, some (.box 25 [iV .i64 x2528, iV .i64 ((t2511.1).f1), iV .i64 ((t2511.1).f2), iV .u64 t2515.1, iV .u64 t2519.1, iV .i64 t2507.1, .own 24, .own 25])), (24, some (.row 2 54 (t2535.1.map eBucket))), (25, some (.row 2 54 (t2543.1.map eBucket)))], 0⟩)) (AWp.cv ?_) ?_
        · replace H := e2554; clear e2554
          rcases Bool.eq_false_or_eq_true (decide ((t2535.1.length : Int) > (512 : Int))) with c2546 | c2546
          · replace H := (ifT c2546).symm.trans H
            refine reg hP hn hm [(2, .any (iV .i64 (t2535.1.length : Int))), (4, .b true)] [4, 12, 108] [12, 13, 17, 21] ⟨[(4, .ptr 12 0 0), (12, .ptr 13 0 0), (108, bV true)], [(12, some (.box 25 [iV .i64 0, iV .i64 0, iV .i64 0, iV .u64 0, iV .u64 0, iV .i64 0, .none0, .none0])), (13, some (.box 25 [iV .i64 x2528, iV .i64 ((t2511.1).f1), iV .i64 ((t2511.1).f2), iV .u64 t2515.1, iV .u64 t2519.1, iV .i64 t2507.1, .own 17, .own 21])), (17, some (.row 2 54 (t2535.1.map eBucket))), (21, some (.row 2 54 (t2543.1.map eBucket)))], 0⟩ [((t2535.1.map eBucket).length : Int) = (t2535.1.length : Int), (decide ((t2535.1.length : Int) > (512 : Int))) = true] (by kernel_rfl) ⟨by rw [len_map], by exact c2546, trivial⟩ ?_
            obtain rfl := Option.some.inj H
            exact Exists.intro _ (And.intro (fun _ _ h => h.conv (inv := [(12, 22), (13, 23), (17, 24), (21, 25)]) (vk := []) (e0 := []) (t := ⟨[(4, .ptr 22 0 0), (12, .ptr 23 0 0), (108, bV true)], [(22, some (.box 25 [iV .i64 0, iV .i64 0, iV .i64 0, iV .u64 0, iV .u64 0, iV .i64 0, .none0, .none0])), (23, some (.box 25 [iV .i64 x2528, iV .i64 ((t2511.1).f1), iV .i64 ((t2511.1).f2), iV .u64 t2515.1, iV .u64 t2519.1, iV .i64 t2507.1, .own 24, .own 25])), (24, some (.row 2 54 (t2535.1.map eBucket))), (25, some (.row 2 54 (t2543.1.map eBucket)))], 0⟩) (by kernel_rfl)) (And.intro rfl rfl))
          · replace H := (ifF c2546).symm.trans H
            refine reg hP hn hm [(2, .any (iV .i64 (t2535.1.length : Int))), (4, .b false), (7, .any (iV .i64 (t2543.1.length : Int)))] [4, 12, 108] [12, 13, 17, 21] ⟨[(4, .ptr 12 0 0), (12, .ptr 13 0 0), (108, bV (decide ((t2543.1.length : Int) > (512 : Int))))], [(12, some (.box 25 [iV .i64 0, iV .i64 0, iV .i64 0, iV .u64 0, iV .u64 0, iV .i64 0, .none0, .none0])), (13, some (.box 25 [iV .i64 x2528, iV .i64 ((t2511.1).f1), iV .i64 ((t2511.1).f2), iV .u64 t2515.1, iV .u64 t2519.1, iV .i64 t2507.1, .own 17, .own 21])), (17, some (.row 2 54 (t2535.1.map eBucket))), (21, some (.row 2 54 (t2543.1.map eBucket)))], 0⟩ [((t2535.1.map eBucket).length : Int) = (t2535.1.length : Int), (decide ((t2535.1.length : Int) > (512 : Int))) = false, ((t2543.1.map eBucket).length : Int) = (t2543.1.length : Int)] (by kernel_rfl) ⟨by rw [len_map], by exact c2546, by rw [len_map], trivial⟩ ?_
            obtain rfl := Option.some.inj H
            exact Exists.intro _ (And.intro (fun _ _ h => h.conv (inv := [(12, 22), (13, 23), (17, 24), (21, 25)]) (vk := []) (e0 := []) (t := ⟨[(4, .ptr 22 0 0), (12, .ptr 23 0 0), (108, bV (decide ((t2543.1.length : Int) > (512 : Int))))], [(22, some (.box 25 [iV .i64 0, iV .i64 0, iV .i64 0, iV .u64 0, iV .u64 0, iV .i64 0, .none0, .none0])), (23, some (.box 25 [iV .i64 x2528, iV .i64 ((t2511.1).f1), iV .i64 ((t2511.1).f2), iV .u64 t2515.1, iV .u64 t2519.1, iV .i64 t2507.1, .own 24, .own 25])), (24, some (.row 2 54 (t2535.1.map eBucket))), (25, some (.row 2 54 (t2543.1.map eBucket)))], 0⟩) (by kernel_rfl)) (And.intro rfl rfl))
        · obtain ⟨x2547, rfl⟩ : ∃ z, z = o2553 := ⟨_, rfl⟩
          rintro e s ⟨rfl, rfl⟩
          refine AWp.cond x2547 rfl (fun c2548 => ?_) (fun c2548 => ?_)
          · replace H := (ifT c2548).symm.trans H
            refine AWp.seq ?_
            refine reg hP hn hm [] [4, 5] [22] ⟨[(4, .ptr 22 0 0), (5, iV .i64 9)], [(22, some (.box 25 [iV .i64 0, iV .i64 0, iV .i64 0, iV .u64 0, iV .u64 0, iV .i64 0, .none0, .none0]))], 0⟩ [] (by kernel_rfl) trivial ?_
            refine AWp.conv (inv := [(22, 2)]) (vk := []) (e0 := [0, 1]) (t := ⟨[(4, .ptr 2 0 0), (5, iV .i64 9)], [(0, some (.row 2 54 ((((⟨0, 0, 0, 0, 0, 0, [], []⟩ : THist)).f6).map eBucket))), (1, some (.row 2 54 ((((⟨0, 0, 0, 0, 0, 0, [], []⟩ : THist)).f7).map eBucket))), (2, some (.box 25 [iV .i64 (((⟨0, 0, 0, 0, 0, 0, [], []⟩ : THist)).f0), iV .i64 (((⟨0, 0, 0, 0, 0, 0, [], []⟩ : THist)).f1), iV .i64 (((⟨0, 0, 0, 0, 0, 0, [], []⟩ : THist)).f2), iV .u64 (((⟨0, 0, 0, 0, 0, 0, [], []⟩ : THist)).f3), iV .u64 (((⟨0, 0, 0, 0, 0, 0, [], []⟩ : THist)).f4), iV .i64 (((⟨0, 0, 0, 0, 0, 0, [], []⟩ : THist)).f5), .own 0, .own 1]))], 0⟩) (by kernel_rfl) ?_
            refine AWp.ret ?_
            obtain rfl := Option.some.inj H
            exact Exists.intro _ (And.intro (fun _ _ h => h) (And.intro (.inl rfl) (And.intro rfl (And.intro (by kernel_rfl) (by kernel_rfl)))))
          · replace H := (ifF c2548).symm.trans H
            refine AWp.skip ?_
            refine AWp.seq ?_
            refine reg hP hn hm [] [4, 5] [22, 24, 25] ⟨[(4, .ptr 22 0 0), (5, iV .i64 0)], [(22, some (.box 25 [iV .i64 x2528, iV .i64 ((t2511.1).f1), iV .i64 ((t2511.1).f2), iV .u64 t2515.1, iV .u64 t2519.1, iV .i64 t2507.1, .own 24, .own 25])), (24, some (.row 2 54 (t2535.1.map eBucket))), (25, some (.row 2 54 (t2543.1.map eBucket)))], 0⟩ [] (by kernel_rfl) trivial ?_
            refine AWp.conv (inv := [(22, 2), (24, 0), (25, 1)]) (vk := []) (e0 := []) (t := ⟨[(4, .ptr 2 0 0), (5, iV .i64 0)], [(0, some (.row 2 54 ((((⟨x2528, (t2511.1).f1, (t2511.1).f2, t2515.1, t2519.1, t2507.1, t2535.1, t2543.1⟩ : THist)).f6).map eBucket))), (1, some (.row 2 54 ((((⟨x2528, (t2511.1).f1, (t2511.1).f2, t2515.1, t2519.1, t2507.1, t2535.1, t2543.1⟩ : THist)).f7).map eBucket))), (2, some (.box 25 [iV .i64 (((⟨x2528, (t2511.1).f1, (t2511.1).f2, t2515.1, t2519.1, t2507.1, t2535.1, t2543.1⟩ : THist)).f0), iV .i64 (((⟨x2528, (t2511.1).f1, (t2511.1).f2, t2515.1, t2519.1, t2507.1, t2535.1, t2543.1⟩ : THist)).f1), iV .i64 (((⟨x2528, (t2511.1).f1, (t2511.1).f2, t2515.1, t2519.1, t2507.1, t2535.1, t2543.1⟩ : THist)).f2), iV .u64 (((⟨x2528, (t2511.1).f1, (t2511.1).f2, t2515.1, t2519.1, t2507.1, t2535.1, t2543.1⟩ : THist)).f3), iV .u64 (((⟨x2528, (t2511.1).f1, (t2511.1).f2, t2515.1, t2519.1, t2507.1, t2535.1, t2543.1⟩ : THist)).f4), iV .i64 (((⟨x2528, (t2511.1).f1, (t2511.1).f2, t2515.1, t2519.1, t2507.1, t2535.1, t2543.1⟩ : THist)).f5), .own 0, .own 1]))], 0⟩) (by kernel_rfl) ?_
            refine AWp.ret ?_
            obtain rfl := Option.some.inj H
            exact Exists.intro _ (And.intro (fun _ _ h => h) (And.intro (.inl rfl) (And.intro rfl (And.intro (by kernel_rfl) (by kernel_rfl)))))
def f_num_SubInt.f (a0 : Int) (a1 : Int) : Option (Int × Int) := if (!((decide (a0 < a1)) == (decide ((IntKind.i64.wrap (a0 - a1)) < (0 : Int))))) = true then (some (0, 5)) else (some (IntKind.i64.wrap (a0 - a1), 0))
theorem f_num_SubInt.ok (a0 : Int) (a1 : Int) (r : Int × Int) (H : f_num_SubInt.f a0 a1 = some r) : Pv.Fn Try.prog 49 [iV .i64 a0, iV .i64 a1] [] 0 (fun x o => x = .tup [iV .i64 r.1, iV .i64 r.2] ∧ o = []) := by
  unfold f_num_SubInt.f at H
  refine Fn.bodyK [] Try.func49 rfl rfl (fun Γ hP hn => ?_)
  have hm : Try.prog.follows .mixedOrders = true := by kernel_rfl
  replace hn : Γ.n = 17 := hn
  refine AWp.seq ?_
  refine reg hP hn hm [] [0, 1] [] ⟨[(0, iV .i64 a0), (1, iV .i64 a1)], [], 0⟩ [] (by kernel_rfl) trivial ?_
  refine AWp.seq ?_
  refine reg hP hn hm [] [0, 1, 6] [] ⟨[(0, iV .i64 a0), (1, iV .i64 a1), (6, iV .i64 (IntKind.i64.wrap (a0 - a1)))], [], 0⟩ [] (by kernel_rfl) trivial ?_
  refine AWp.seq ?_
  refine AWp.seq ?_
  refine reg hP hn hm [] [6, 15] [] ⟨[(6, iV .i64 (IntKind.i64.wrap (a0 - a1))), (15, bV (!((decide (a0 < a1)) == (decide ((IntKind.i64.wrap (a0 - a1)) < (0 : Int))))))], [], 0⟩ [] (by kernel_rfl) trivial ?_
  refine AWp.cond (!((decide (a0 < a1)) == (decide ((IntKind.i64.wrap (a0 - a1)) < (0 : Int))))) rfl (fun c2567 => ?_) (fun c2567 => ?_)
  · replace H := (ifT c2567).symm.trans H
    refine AWp.seq ?_
    refine reg hP hn hm [] [4, 5] [] ⟨[(4, iV .i64 0), (5, iV .i64 5)], [], 0⟩ [] (by kernel_rfl) trivial ?_
    refine AWp.conv (inv := []) (vk := []) (e0 := []) (t := ⟨[(4, iV .i64 0), (5, iV .i64 5)], [], 0⟩) (by kernel_rfl) ?_
    refine AWp.ret ?_
    obtain rfl := Option.some.inj H
    exact Exists.intro _ (And.intro (fun _ _ h => h) (And.intro (.inl rfl) (And.intro rfl (And.intro (by kernel_rfl) (by kernel_rfl)))))
  · replace H := (ifF c2567).symm.trans H
    refine AWp.skip ?_
    refine AWp.seq ?_
    refine reg hP hn hm [] [4, 5] [] ⟨[(4, iV .i64 (IntKind.i64.wrap (a0 - a1))), (5, iV .i64 0)], [], 0⟩ [] (by kernel_rfl) trivial ?_
    refine AWp.conv (inv := []) (vk := []) (e0 := []) (t := ⟨[(4, iV .i64 (IntKind.i64.wrap (a0 - a1))), (5, iV .i64 0)], [], 0⟩) (by kernel_rfl) ?_
    refine AWp.ret ?_
    obtain rfl := Option.some.inj H
    exact Exists.intro _ (And.intro (fun _ _ h => h) (And.intro (.inl rfl) (And.intro rfl (And.intro (by kernel_rfl) (by kernel_rfl)))))
def f_meld_less.l1 (a0 : List TBucket) (b2625 : TBucket) (x2618 : List TBucket) (x2619 : List TBucket) (x2620 : Int) (x2638 : Unit) : Option (((List TBucket) × Bool) ⊕ Unit) := ((if (decide ((x2618.length : Int) > (0 : Int))) = true then ((at? x2618 0) >>= fun b2633 => some (decide (b2633.f0 < b2625.f0))) else (some false)) : Option (Bool)) >>= fun x2636 => if x2636 = true then (some (.inl ([], false))) else (some (.inr ()))
def f_meld_less.l0 (a0 : List TBucket) (x2618 : List TBucket) (x2619 : List TBucket) (x2620 : Int) : Option (((List TBucket) × Bool) ⊕ ((List TBucket) × (List TBucket))) := if (decide (x2620 < (a0.length : Int))) = true then ((at? a0 x2620) >>= fun b2625 => (f_meld_less.l1 a0 b2625 x2618 x2619 x2620 ()) >>= fun oo => match oo with | .inl rr => (some (.inl rr)) | .inr _ => (((if (decide ((x2618.length : Int) > (0 : Int))) = true then ((at? x2618 0) >>= fun b2644 => some (b2644.f0 == b2625.f0)) else (some false)) : Option (Bool)) >>= fun x2647 => ((if x2647 = true then ((at? x2618 0) >>= fun b2652 => if (decide (b2652.f1 > b2625.f1)) = true then (some (.inl ([], false))) else ((chk (0 ≤ (1 : Int) ∧ (1 : Int) ≤ (x2618.length : Int) ∧ (x2618.length : Int) ≤ (x2618.length : Int))) >>= fun _ => some (.inr ((x2618.drop (Int.toNat ((1 : Int)))).take ((Int.toNat ((x2618.length : Int))) - (Int.toNat ((1 : Int)))), IntKind.u64.wrap (b2625.f1 - b2652.f1))))) else (some (.inr (x2618, b2625.f1)))) : Option (((List TBucket) × Bool) ⊕ ((List TBucket) × Int))) >>= fun oo => match oo with | .inl rr => (some (.inl rr)) | .inr (x2658, x2659) => ((chk ((x2619.length + [(⟨b2625.f0, x2659⟩ : TBucket)].length) * 16 ≤ 140737488355328)) >>= fun _ => f_meld_less.l0 a0 x2658 (x2619 ++ [(⟨b2625.f0, x2659⟩ : TBucket)]) (IntKind.i64.wrap (x2620 + (1 : Int)))))) else (some (.inr (x2618, x2619)))
partial_fixpoint
def f_meld_less.f (a0 : List TBucket) (a1 : List TBucket) : Option ((List TBucket) × Bool) := (f_meld_less.l0 a0 a1 [] 0) >>= fun oo => match oo with | .inl rr => (some rr) | .inr (x2662, x2663) => (some (x2663, ((x2662.length : Int) == (0 : Int))))
theorem f_meld_less.ok (a0 : List TBucket) (a1 : List TBucket) (r : (List TBucket) × Bool) (H : f_meld_less.f a0 a1 = some r) : Pv.Fn Try.prog 50 [.im (.row (a0.map eBucket)), .im (.row (a1.map eBucket))] [] 0 (fun x o => x = .tup [.own 0, bV r.2] ∧ o = [(0, some (.row 2 54 (r.1.map eBucket)))]) := by
  unfold f_meld_less.f at H
  refine Fn.bodyK [0] Try.func50 rfl rfl (fun Γ hP hn => ?_)
  have hm : Try.prog.follows .mixedOrders = true := by kernel_rfl
  replace hn : Γ.n = 65 := hn
  refine AWp.seq ?_
  refine reg hP hn hm [] [0, 1] [] ⟨[(0, .im (.row (a0.map eBucket))), (1, .im (.row (a1.map eBucket)))], [], 0⟩ [] (by kernel_rfl) trivial ?_
  refine AWp.seq ?_
  refine reg hP hn hm [] [0, 1, 6] [] ⟨[(0, .im (.row (a0.map eBucket))), (1, .im (.row (a1.map eBucket))), (6, .none0)], [], 0⟩ [] (by kernel_rfl) trivial ?_
  refine AWp.seq ?_
  refine AWp.seq ?_
  refine reg hP hn hm [(1, .any (iV .i64 (a0.length : Int)))] [1, 6, 9, 10, 11] [] ⟨[(1, .im (.row (a1.map eBucket))), (6, .none0), (9, .im (.row (a0.map eBucket))), (10, iV .i64 (a0.length : Int)), (11, iV .i64 0)], [], 0⟩ [((a0.map eBucket).length : Int) = (a0.length : Int)] (by kernel_rfl) ⟨by rw [len_map], trivial⟩ ?_
  refine AWp.block ?_
  obtain ⟨o2664, e2665, H⟩ := bind_of H
  refine AWp.loop (LWp.conv (inv := []) (vk := []) (e0 := [7]) (t := ⟨[(1, .im (.row (a1.map eBucket))), (6, .own 7), (9, .im (.row (a0.map eBucket))), (10, iV .i64 (a0.length : Int)), (11, iV .i64 0)], [(7, some (.row 2 54 ([].map eBucket)))], 0⟩) (by kernel_rfl) ?_)
  refine LWp.mono (Q := fun e s => (match (generalizing := false) o2664 with | .inl rr => e = .ret ∧ s.floor = 0 ∧ resOf Try.prog Try.f50 s = some (.tup [.own 0, bV rr.2]) ∧ ([(0, s.obj 0)] : List (Nat × Option MObj)) = [(0, some (.row 2 54 (rr.1.map eBucket)))] | .inr (x2662, x2663) => e = .exit 0 ∧ s = ⟨[(1, .im (.row (x2662.map eBucket))), (6, .own 19)], [(19, some (.row 2 54 (x2663.map eBucket)))], 0⟩)) (LWp.cv (withBody (fun body hbody => ?_))) ?_
  · refine f_meld_less.l0.partial_correctness a0 (motive := fun x2618 x2619 x2620 o2664 => LWp Γ body (fun e s => ∃ t, Cv Γ s t ∧ (match (generalizing := false) o2664 with | .inl rr => e = .ret ∧ t.floor = 0 ∧ resOf Try.prog Try.f50 t = some (.tup [.own 0, bV rr.2]) ∧ ([(0, t.obj 0)] : List (Nat × Option MObj)) = [(0, some (.row 2 54 (rr.1.map eBucket)))] | .inr (x2662, x2663) => e = .exit 0 ∧ t = ⟨[(1, .im (.row (x2662.map eBucket))), (6, .own 19)], [(19, some (.row 2 54 (x2663.map eBucket)))], 0⟩)) ⟨[(1, .im (.row (x2618.map eBucket))), (6, .own 7), (9, .im (.row (a0.map eBucket))), (10, iV .i64 (a0.length : Int)), (11, iV .i64 x2620)], [(7, some (.row 2 54 (x2619.map eBucket)))], 0⟩) ?_ _ _ _ _ e2665
    clear H e2665 o2664; intro self ih x2618 x2619 x2620 o2664 H
    subst hbody
    refine LWp.round ?_
    refine AWp.seq ?_
    refine reg hP hn hm [] [1, 6, 9, 10, 11, 12] [7] ⟨[(1, .im (.row (x2618.map eBucket))), (6, .own 7), (9, .im (.row (a0.map eBucket))), (10, iV .i64 (a0.length : Int)), (11, iV .i64 x2620), (12, bV (decide (x2620 < (a0.length : Int))))], [(7, some (.row 2 54 (x2619.map eBucket)))], 0⟩ [] (by kernel_rfl) trivial ?_
    refine AWp.seq ?_
    refine AWp.cond (decide (x2620 < (a0.length : Int))) rfl (fun c2621 => ?_) (fun c2621 => ?_)
    · replace H := (ifT c2621).symm.trans H
      refine AWp.skip ?_
      refine AWp.seq ?_
      refine AWp.block ?_
      refine AWp.seq ?_
      obtain ⟨b2625, p2626, q2627, H⟩ := at_of H
      refine reg hP hn hm [(0, .c (eBucket b2625)), (2, .k 8)] [1, 6, 8, 9, 10, 11] [7, 8] ⟨[(1, .im (.row (x2618.map eBucket))), (6, .own 7), (8, .ptr 8 0 0), (9, .im (.row (a0.map eBucket))), (10, iV .i64 (a0.length : Int)), (11, iV .i64 x2620)], [(7, some (.row 2 54 (x2619.map eBucket))), (8, some (.box 54 (aBucket b2625)))], 0⟩ [0 ≤ x2620, (a0.map eBucket)[(Int.toNat (x2620))]? = some (eBucket b2625)] (by kernel_rfl) ⟨by exact p2626, by exact el_map eBucket q2627, trivial⟩ ?_
      refine AWp.seq ?_
      refine AWp.block ?_
      obtain ⟨o2666, e2667, H⟩ := bind_of H
      refine AWp.loop (LWp.conv (inv := [(7, 7), (8, 8)]) (vk := []) (e0 := []) (t := ⟨[(1, .im (.row (x2618.map eBucket))), (6, .own 7), (8, .ptr 8 0 0), (9, .im (.row (a0.map eBucket))), (10, iV .i64 (a0.length : Int)), (11, iV .i64 x2620)], [(7, some (.row 2 54 (x2619.map eBucket))), (8, some (.box 54 (aBucket b2625)))], 0⟩) (by kernel_rfl) ?_)
      refine LWp.mono (Q := fun e s => (match (generalizing := false) o2666 with | .inl rr => e = .ret ∧ s.floor = 0 ∧ resOf Try.prog Try.f50 s = some (.tup [.own 0, bV rr.2]) ∧ ([(0, s.obj 0)] : List (Nat × Option MObj)) = [(0, some (.row 2 54 (rr.1.map eBucket)))] | .inr _ => e = .exit 2 ∧ s = ⟨[(1, .im (.row (x2618.map eBucket))), (6, .own 11), (8, .ptr 12 0 0), (9, .im (.row (a0.map eBucket))), (10, iV .i64 (a0.length : Int)), (11, iV .i64 x2620)], [(11, some (.row 2 54 (x2619.map eBucket))), (12, some (.box 54 (aBucket b2625)))], 0⟩)) (LWp.cv (withBody (fun body hbody => ?_))) ?_
      · refine (show ∀ x2638 o2666, f_meld_less.l1 a0 b2625 x2618 x2619 x2620 x2638 = some o2666 → LWp Γ body (fun e s => ∃ t, Cv Γ s t ∧ (match (generalizing := false) o2666 with | .inl rr => e = .ret ∧ t.floor = 0 ∧ resOf Try.prog Try.f50 t = some (.tup [.own 0, bV rr.2]) ∧ ([(0, t.obj 0)] : List (Nat × Option MObj)) = [(0, some (.row 2 54 (rr.1.map eBucket)))] | .inr _ => e = .exit 2 ∧ t = ⟨[(1, .im (.row (x2618.map eBucket))), (6, .own 11), (8, .ptr 12 0 0), (9, .im (.row (a0.map eBucket))), (10, iV .i64 (a0.length : Int)), (11, iV .i64 x2620)], [(11, some (.row 2 54 (x2619.map eBucket))), (12, some (.box 54 (aBucket b2625)))], 0⟩)) ⟨[(1, .im (.row (x2618.map eBucket))), (6, .own 7), (8, .ptr 8 0 0), (9, .im (.row (a0.map eBucket))), (10, iV .i64 (a0.length : Int)), (11, iV .i64 x2620)], [(7, some (.row 2 54 (x2619.map eBucket))), (8, some (.box 54 (aBucket b2625)))], 0⟩ from ?_) _ _ e2667
        clear H e2667 o2666; intro x2638 o2666 H
        unfold f_meld_less.l1 at H
        subst hbody
        refine LWp.round ?_
        refine AWp.seq ?_
        refine AWp.seq ?_
        obtain ⟨o2668, e2669, H⟩ := bind_of H
        refine AWp.mono (Q := fun e s => (match (generalizing := false) o2668 with | x2636 => e = .normal ∧ s = ⟨[(1, .im (.row (x2618.map eBucket))), (6, .own 9), (8, .ptr 10 0 0), (9, .im (.row (a0.map eBucket))), (10, iV .i64 (a0.length : Int)), (11, iV .i64 x2620), (26, bV x2636)], [(9, some (.row 2 54 (x2619.map eBucket))), (10, some (.box 54 (aBucket b2625)))], 0⟩)) (AWp.cv ?_) ?_
        · replace H := e2669; clear e2669
          rcases Bool.eq_false_or_eq_true (decide ((x2618.length : Int) > (0 : Int))) with c2632 | c2632
          · replace H := (ifT c2632).symm.trans H
            obtain ⟨b2633, p2634, q2635, H⟩ := at_of H
            refine reg hP hn hm [(1, .any (iV .i64 (x2618.length : Int))), (3, .b true), (5, .c (eBucket b2633))] [1, 6, 8, 9, 10, 11, 19, 20, 21, 22, 23, 24, 25, 26] [7, 8] ⟨[(1, .im (.row (x2618.map eBucket))), (6, .own 7), (8, .ptr 8 0 0), (9, .im (.row (a0.map eBucket))), (10, iV .i64 (a0.length : Int)), (11, iV .i64 x2620), (19, .im (.row (x2618.map eBucket))), (20, .ip [iI .i64 b2633.f0, iI .u64 b2633.f1]), (21, .ip [iI .i64 b2633.f0, iI .u64 b2633.f1]), (22, iV .i64 b2633.f0), (23, .ptr 8 0 0), (24, iV .i64 b2625.f0), (25, bV (decide (b2633.f0 < b2625.f0))), (26, bV (decide (b2633.f0 < b2625.f0)))], [(7, some (.row 2 54 (x2619.map eBucket))), (8, some (.box 54 (aBucket b2625)))], 0⟩ [((x2618.map eBucket).length : Int) = (x2618.length : Int), (decide ((x2618.length : Int) > (0 : Int))) = true, 0 ≤ (0 : Int), (x2618.map eBucket)[(Int.toNat (0))]? = some (eBucket b2633)] (by kernel_rfl) ⟨by rw [len_map], by exact c2632, by exact p2634, by exact el_map eBucket q2635, trivial⟩ ?_
            obtain rfl := Option.some.inj H
            exact Exists.intro _ (And.intro (fun _ _ h => h.conv (inv := [(7, 9), (8, 10)]) (vk := []) (e0 := []) (t := ⟨[(1, .im (.row (x2618.map eBucket))), (6, .own 9), (8, .ptr 10 0 0), (9, .im (.row (a0.map eBucket))), (10, iV .i64 (a0.length : Int)), (11, iV .i64 x2620), (26, bV (decide (b2633.f0 < b2625.f0)))], [(9, some (.row 2 54 (x2619.map eBucket))), (10, some (.box 54 (aBucket b2625)))], 0⟩) (by kernel_rfl)) (And.intro rfl rfl))
          · replace H := (ifF c2632).symm.trans H
            refine reg hP hn hm [(1, .any (iV .i64 (x2618.length : Int))), (3, .b false)] [1, 6, 8, 9, 10, 11, 26] [7, 8] ⟨[(1, .im (.row (x2618.map eBucket))), (6, .own 7), (8, .ptr 8 0 0), (9, .im (.row (a0.map eBucket))), (10, iV .i64 (a0.length : Int)), (11, iV .i64 x2620), (26, bV false)], [(7, some (.row 2 54 (x2619.map eBucket))), (8, some (.box 54 (aBucket b2625)))], 0⟩ [((x2618.map eBucket).length : Int) = (x2618.length : Int), (decide ((x2618.length : Int) > (0 : Int))) = false] (by kernel_rfl) ⟨by rw [len_map], by exact c2632, trivial⟩ ?_
            obtain rfl := Option.some.inj H
            exact Exists.intro _ (And.intro (fun _ _ h => h.conv (inv := [(7, 9), (8, 10)]) (vk := []) (e0 := []) (t := ⟨[(1, .im (.row (x2618.map eBucket))), (6, .own 9), (8, .ptr 10 0 0), (9, .im (.row (a0.map eBucket))), (10, iV .i64 (a0.length : Int)), (11, iV .i64 x2620), (26, bV false)], [(9, some (.row 2 54 (x2619.map eBucket))), (10, some (.box 54 (aBucket b2625)))], 0⟩) (by kernel_rfl)) (And.intro rfl rfl))
        · obtain ⟨x2636, rfl⟩ : ∃ z, z = o2668 := ⟨_, rfl⟩
          rintro e s ⟨rfl, rfl⟩
          refine AWp.cond x2636 rfl (fun c2637 => ?_) (fun c2637 => ?_)
          · replace H := (ifT c2637).symm.trans H
            refine AWp.skip ?_
            refine AWp.block ?_
            refine AWp.seq ?_
            refine reg hP hn hm [] [4, 5] [] ⟨[(4, .none0), (5, bV false)], [], 0⟩ [] (by kernel_rfl) trivial ?_
            refine AWp.conv (inv := []) (vk := []) (e0 := [0]) (t := ⟨[(4, .own 0), (5, bV false)], [(0, some (.row 2 54 ([].map eBucket)))], 0⟩) (by kernel_rfl) ?_
            refine AWp.ret ?_
            obtain rfl := Option.some.inj H
            exact Exists.intro _ (And.intro (fun _ _ h => h) (And.intro rfl (And.intro rfl (And.intro (by kernel_rfl) (by kernel_rfl)))))
          · replace H := (ifF c2637).symm.trans H
            refine AWp.exit ?_
            obtain rfl := Option.some.inj H
            exact Exists.intro _ (And.intro (fun _ _ h => h.conv (inv := [(9, 11), (10, 12)]) (vk := []) (e0 := []) (t := ⟨[(1, .im (.row (x2618.map eBucket))), (6, .own 11), (8, .ptr 12 0 0), (9, .im (.row (a0.map eBucket))), (10, iV .i64 (a0.length : Int)), (11, iV .i64 x2620)], [(11, some (.row 2 54 (x2619.map eBucket))), (12, some (.box 54 (aBucket b2625)))], 0⟩) (by kernel_rfl)) (And.intro rfl rfl))
      · rcases o2666 with rr | _
        · skip
          rintro e s ⟨rfl, hfl, hres⟩
          obtain rfl := Option.some.inj H
          exact Exists.intro _ (And.intro (fun _ _ h => h) (And.intro rfl (And.intro hfl hres)))
        · skip
          rintro e s ⟨rfl, rfl⟩
          refine AWp.seq ?_
          refine AWp.seq ?_
          obtain ⟨o2670, e2671, H⟩ := bind_of H
          refine AWp.mono (Q := fun e s => (match (generalizing := false) o2670 with | x2647 => e = .normal ∧ s = ⟨[(1, .im (.row (x2618.map eBucket))), (6, .own 13), (8, .ptr 14 0 0), (9, .im (.row (a0.map eBucket))), (10, iV .i64 (a0.length : Int)), (11, iV .i64 x2620), (38, bV x2647)], [(13, some (.row 2 54 (x2619.map eBucket))), (14, some (.box 54 (aBucket b2625)))], 0⟩)) (AWp.cv ?_) ?_
          · replace H := e2671; clear e2671
            rcases Bool.eq_false_or_eq_true (decide ((x2618.length : Int) > (0 : Int))) with c2643 | c2643
            · replace H := (ifT c2643).symm.trans H
              obtain ⟨b2644, p2645, q2646, H⟩ := at_of H
              refine reg hP hn hm [(1, .any (iV .i64 (x2618.length : Int))), (3, .b true), (5, .c (eBucket b2644))] [1, 6, 8, 9, 10, 11, 31, 32, 33, 34, 35, 36, 37, 38] [11, 12] ⟨[(1, .im (.row (x2618.map eBucket))), (6, .own 11), (8, .ptr 12 0 0), (9, .im (.row (a0.map eBucket))), (10, iV .i64 (a0.length : Int)), (11, iV .i64 x2620), (31, .im (.row (x2618.map eBucket))), (32, .ip [iI .i64 b2644.f0, iI .u64 b2644.f1]), (33, .ip [iI .i64 b2644.f0, iI .u64 b2644.f1]), (34, iV .i64 b2644.f0), (35, .ptr 12 0 0), (36, iV .i64 b2625.f0), (37, bV (b2644.f0 == b2625.f0)), (38, bV (b2644.f0 == b2625.f0))], [(11, some (.row 2 54 (x2619.map eBucket))), (12, some (.box 54 (aBucket b2625)))], 0⟩ [((x2618.map eBucket).length : Int) = (x2618.length : Int), (decide ((x2618.length : Int) > (0 : Int))) = true, 0 ≤ (0 : Int), (x2618.map eBucket)[(Int.toNat (0))]? = some (eBucket b2644)] (by kernel_rfl) ⟨by rw [len_map], by exact c2643, by exact p2645, by exact el_map eBucket q2646, trivial⟩ ?_
              obtain rfl := Option.some.inj H
              exact Exists.intro _ (And.intro (fun _ _ h => h.conv (inv := [(11, 13), (12, 14)]) (vk := []) (e0 := []) (t := ⟨[(1, .im (.row (x2618.map eBucket))), (6, .own 13), (8, .ptr 14 0 0), (9, .im (.row (a0.map eBucket))), (10, iV .i64 (a0.length : Int)), (11, iV .i64 x2620), (38, bV (b2644.f0 == b2625.f0))], [(13, some (.row 2 54 (x2619.map eBucket))), (14, some (.box 54 (aBucket b2625)))], 0⟩) (by kernel_rfl)) (And.intro rfl rfl))
            · replace H := (ifF c2643).symm.trans H
              refine reg hP hn hm [(1, .any (iV .i64 (x2618.length : Int))), (3, .b false)] [1, 6, 8, 9, 10, 11, 38] [11, 12] ⟨[(1, .im (.row (x2618.map eBucket))), (6, .own 11), (8, .ptr 12 0 0), (9, .im (.row (a0.map eBucket))), (10, iV .i64 (a0.length : Int)), (11, iV .i64 x2620), (38, bV false)], [(11, some (.row 2 54 (x2619.map eBucket))), (12, some (.box 54 (aBucket b2625)))], 0⟩ [((x2618.map eBucket).length : Int) = (x2618.length : Int), (decide ((x2618.length : Int) > (0 : Int))) = false] (by kernel_rfl) ⟨by rw [len_map], by exact c2643, trivial⟩ ?_
              obtain rfl := Option.some.inj H
              exact Exists.intro _ (And.intro (fun _ _ h => h.conv (inv := [(11, 13), (12, 14)]) (vk := []) (e0 := []) (t := ⟨[(1, .im (.row (x2618.map eBucket))), (6, .own 13), (8, .ptr 14 0 0), (9, .im (.row (a0.map eBucket))), (10, iV .i64 (a0.length : Int)), (11, iV .i64 x2620), (38, bV false)], [(13, some (.row 2 54 (x2619.map eBucket))), (14, some (.box 54 (aBucket b2625)))], 0⟩) (by kernel_rfl)) (And.intro rfl rfl))
          · obtain ⟨x2647, rfl⟩ : ∃ z, z = o2670 := ⟨_, rfl⟩
            rintro e s ⟨rfl, rfl⟩
            obtain ⟨o2672, e2673, H⟩ := bind_of H
            refine AWp.mono (Q := fun e s => (match (generalizing := false) o2672 with | .inl rr => e = .ret ∧ s.floor = 0 ∧ resOf Try.prog Try.f50 s = some (.tup [.own 0, bV rr.2]) ∧ ([(0, s.obj 0)] : List (Nat × Option MObj)) = [(0, some (.row 2 54 (rr.1.map eBucket)))] | .inr (x2658, x2659) => e = .normal ∧ s = ⟨[(1, .im (.row (x2658.map eBucket))), (6, .own 15), (8, .ptr 16 0 0), (9, .im (.row (a0.map eBucket))), (10, iV .i64 (a0.length : Int)), (11, iV .i64 x2620)], [(15, some (.row 2 54 (x2619.map eBucket))), (16, some (.box 54 (aBucket ⟨b2625.f0, x2659⟩)))], 0⟩)) (AWp.cv ?_) ?_
            · replace H := e2673; clear e2673
              refine AWp.cond x2647 rfl (fun c2648 => ?_) (fun c2648 => ?_)
              · replace H := (ifT c2648).symm.trans H
                refine AWp.seq ?_
                refine AWp.seq ?_
                obtain ⟨b2652, p2653, q2654, H⟩ := at_of H
                refine reg hP hn hm [(1, .c (eBucket b2652))] [1, 6, 8, 9, 10, 11, 45] [13, 14] ⟨[(1, .im (.row (x2618.map eBucket))), (6, .own 13), (8, .ptr 14 0 0), (9, .im (.row (a0.map eBucket))), (10, iV .i64 (a0.length : Int)), (11, iV .i64 x2620), (45, bV (decide (b2652.f1 > b2625.f1)))], [(13, some (.row 2 54 (x2619.map eBucket))), (14, some (.box 54 (aBucket b2625)))], 0⟩ [0 ≤ (0 : Int), (x2618.map eBucket)[(Int.toNat (0))]? = some (eBucket b2652)] (by kernel_rfl) ⟨by exact p2653, by exact el_map eBucket q2654, trivial⟩ ?_
                refine AWp.cond (decide (b2652.f1 > b2625.f1)) rfl (fun c2655 => ?_) (fun c2655 => ?_)
                · replace H := (ifT c2655).symm.trans H
                  refine AWp.seq ?_
                  refine reg hP hn hm [] [4, 5] [] ⟨[(4, .none0), (5, bV false)], [], 0⟩ [] (by kernel_rfl) trivial ?_
                  refine AWp.conv (inv := []) (vk := []) (e0 := [0]) (t := ⟨[(4, .own 0), (5, bV false)], [(0, some (.row 2 54 ([].map eBucket)))], 0⟩) (by kernel_rfl) ?_
                  refine AWp.ret ?_
                  obtain rfl := Option.some.inj H
                  exact Exists.intro _ (And.intro (fun _ _ h => h) (And.intro rfl (And.intro rfl (And.intro (by kernel_rfl) (by kernel_rfl)))))
                · replace H := (ifF c2655).symm.trans H
                  refine AWp.skip ?_
                  refine AWp.seq ?_
                  refine reg hP hn hm [(3, .c (eBucket b2652))] [1, 6, 8, 9, 10, 11] [13, 14] ⟨[(1, .im (.row (x2618.map eBucket))), (6, .own 13), (8, .ptr 14 0 0), (9, .im (.row (a0.map eBucket))), (10, iV .i64 (a0.length : Int)), (11, iV .i64 x2620)], [(13, some (.row 2 54 (x2619.map eBucket))), (14, some (.box 54 (aBucket ⟨b2625.f0, (IntKind.u64.wrap (b2625.f1 - b2652.f1))⟩)))], 0⟩ [0 ≤ (0 : Int), (x2618.map eBucket)[(Int.toNat (0))]? = some (eBucket b2652)] (by kernel_rfl) ⟨by exact p2653, by exact el_map eBucket q2654, trivial⟩ ?_
                  obtain ⟨c2657, H⟩ := chk_of H
                  refine reg hP hn hm [(1, .rows (((x2618.drop (Int.toNat ((1 : Int)))).take ((Int.toNat ((x2618.length : Int))) - (Int.toNat ((1 : Int))))).map eBucket))] [1, 6, 8, 9, 10, 11] [13, 14] ⟨[(1, .im (.row (((x2618.drop (Int.toNat ((1 : Int)))).take ((Int.toNat ((x2618.length : Int))) - (Int.toNat ((1 : Int))))).map eBucket))), (6, .own 13), (8, .ptr 14 0 0), (9, .im (.row (a0.map eBucket))), (10, iV .i64 (a0.length : Int)), (11, iV .i64 x2620)], [(13, some (.row 2 54 (x2619.map eBucket))), (14, some (.box 54 (aBucket ⟨b2625.f0, (IntKind.u64.wrap (b2625.f1 - b2652.f1))⟩)))], 0⟩ [0 ≤ (1 : Int), (1 : Int) ≤ ((x2618.map eBucket).length : Int), ((x2618.map eBucket).length : Int) ≤ ((x2618.map eBucket).length : Int), ∀ c ∈ x2618.map eBucket, c.length = 2, ((x2618.drop (Int.toNat ((1 : Int)))).take ((Int.toNat ((x2618.length : Int))) - (Int.toNat ((1 : Int))))).map eBucket = ((x2618.map eBucket).drop (Int.toNat ((1 : Int)))).take ((Int.toNat (((x2618.map eBucket).length : Int))) - (Int.toNat ((1 : Int))))] (by kernel_rfl) ⟨by exact c2657.1, by simpa using c2657.2.1, by simpa using c2657.2.2, by exact all_len _ _ _ (fun _ => rfl), by simp [cut1], trivial⟩ ?_
                  obtain rfl := Option.some.inj H
                  exact Exists.intro _ (And.intro (fun _ _ h => h.conv (inv := [(13, 15), (14, 16)]) (vk := []) (e0 := []) (t := ⟨[(1, .im (.row (((x2618.drop (Int.toNat ((1 : Int)))).take ((Int.toNat ((x2618.length : Int))) - (Int.toNat ((1 : Int))))).map eBucket))), (6, .own 15), (8, .ptr 16 0 0), (9, .im (.row (a0.map eBucket))), (10, iV .i64 (a0.length : Int)), (11, iV .i64 x2620)], [(15, some (.row 2 54 (x2619.map eBucket))), (16, some (.box 54 (aBucket ⟨b2625.f0, (IntKind.u64.wrap (b2625.f1 - b2652.f1))⟩)))], 0⟩) (by kernel_rfl)) (And.intro rfl rfl))
              · replace H := (ifF c2648).symm.trans H
                refine AWp.skip ?_
                obtain rfl := Option.some.inj H
                exact Exists.intro _ (And.intro (fun _ _ h => h.conv (inv := [(13, 15), (14, 16)]) (vk := []) (e0 := []) (t := ⟨[(1, .im (.row (x2618.map eBucket))), (6, .own 15), (8, .ptr 16 0 0), (9, .im (.row (a0.map eBucket))), (10, iV .i64 (a0.length : Int)), (11, iV .i64 x2620)], [(15, some (.row 2 54 (x2619.map eBucket))), (16, some (.box 54 (aBucket b2625)))], 0⟩) (by kernel_rfl)) (And.intro rfl rfl))
            · rcases o2672 with rr | ⟨x2658, x2659⟩
              · skip
                rintro e s ⟨rfl, hfl, hres⟩
                obtain rfl := Option.some.inj H
                exact Exists.intro _ (And.intro (fun _ _ h => h) (And.intro rfl (And.intro hfl hres)))
              · skip
                rintro e s ⟨rfl, rfl⟩
                obtain ⟨c2661, H⟩ := chk_of H
                refine reg hP hn hm [(2, .app 17 ([(⟨b2625.f0, x2659⟩ : TBucket)].map eBucket)), (3, .app 18 ((x2619 ++ [(⟨b2625.f0, x2659⟩ : TBucket)]).map eBucket))] [1, 6, 9, 10, 11] [18] ⟨[(1, .im (.row (x2658.map eBucket))), (6, .own 18), (9, .im (.row (a0.map eBucket))), (10, iV .i64 (a0.length : Int)), (11, iV .i64 x2620)], [(18, some (.row 2 54 ((x2619 ++ [(⟨b2625.f0, x2659⟩ : TBucket)]).map eBucket)))], 0⟩ [[(⟨b2625.f0, x2659⟩ : TBucket)].map eBucket = [[iI .i64 b2625.f0, iI .u64 x2659]], (x2619 ++ [(⟨b2625.f0, x2659⟩ : TBucket)]).map eBucket = (x2619.map eBucket) ++ ([(⟨b2625.f0, x2659⟩ : TBucket)].map eBucket), ∀ c ∈ ([(⟨b2625.f0, x2659⟩ : TBucket)].map eBucket), c.length = 2, ∀ c ∈ ([(⟨b2625.f0, x2659⟩ : TBucket)].map eBucket), leaves (c.map .im) = true, ((x2619.map eBucket).length + ([(⟨b2625.f0, x2659⟩ : TBucket)].map eBucket).length) * 16 ≤ 140737488355328] (by kernel_rfl) ⟨by exact rfl, by simp, by exact all_len _ _ _ (fun _ => rfl), by exact all_leaf _ _ (fun _ => rfl), by simpa using c2661, trivial⟩ ?_
                refine reg hP hn hm [] [1, 6, 9, 10, 11] [18] ⟨[(1, .im (.row (x2658.map eBucket))), (6, .own 18), (9, .im (.row (a0.map eBucket))), (10, iV .i64 (a0.length : Int)), (11, iV .i64 (IntKind.i64.wrap (x2620 + (1 : Int))))], [(18, some (.row 2 54 ((x2619 ++ [(⟨b2625.f0, x2659⟩ : TBucket)]).map eBucket)))], 0⟩ [] (by kernel_rfl) trivial ?_
                exact LWp.conv (inv := [(18, 7)]) (vk := []) (e0 := []) (t := ⟨[(1, .im (.row (x2658.map eBucket))), (6, .own 7), (9, .im (.row (a0.map eBucket))), (10, iV .i64 (a0.length : Int)), (11, iV .i64 (IntKind.i64.wrap (x2620 + (1 : Int))))], [(7, some (.row 2 54 ((x2619 ++ [(⟨b2625.f0, x2659⟩ : TBucket)]).map eBucket)))], 0⟩) (by kernel_rfl) (ih _ _ _ _ H)
    · replace H := (ifF c2621).symm.trans H
      refine AWp.exit ?_
      obtain rfl := Option.some.inj H
      exact Exists.intro _ (And.intro (fun _ _ h => h.conv (inv := [(7, 19)]) (vk := []) (e0 := []) (t := ⟨[(1, .im (.row (x2618.map eBucket))), (6, .own 19)], [(19, some (.row 2 54 (x2619.map eBucket)))], 0⟩) (by kernel_rfl)) (And.intro rfl rfl))
  · rcases o2664 with rr | ⟨x2662, x2663⟩
    · skip
      rintro e s ⟨rfl, hfl, hres⟩
      obtain rfl := Option.some.inj H
      exact Exists.intro _ (And.intro (fun _ _ h => h) (And.intro (.inl rfl) (And.intro hfl hres)))
    · skip
      rintro e s ⟨rfl, rfl⟩
      refine AWp.seq ?_
      refine reg hP hn hm [(2, .any (iV .i64 (x2662.length : Int)))] [4, 5] [19] ⟨[(4, .own 19), (5, bV ((x2662.length : Int) == (0 : Int)))], [(19, some (.row 2 54 (x2663.map eBucket)))], 0⟩ [((x2662.map eBucket).length : Int) = (x2662.length : Int)] (by kernel_rfl) ⟨by rw [len_map], trivial⟩ ?_
      refine AWp.conv (inv := [(19, 0)]) (vk := []) (e0 := []) (t := ⟨[(4, .own 0), (5, bV ((x2662.length : Int) == (0 : Int)))], [(0, some (.row 2 54 (x2663.map eBucket)))], 0⟩) (by kernel_rfl) ?_
      refine AWp.ret ?_
      obtain rfl := Option.some.inj H
      exact Exists.intro _ (And.intro (fun _ _ h => h) (And.intro (.inl rfl) (And.intro rfl (And.intro (by kernel_rfl) (by kernel_rfl)))))
def f_num_Sub.f (a0 : Int) (a1 : Int) : Option (Int × Int) := if (decide (a1 > a0)) = true then (some (0, 5)) else (some (IntKind.u64.wrap (a0 - a1), 0))
theorem f_num_Sub.ok (a0 : Int) (a1 : Int) (r : Int × Int) (H : f_num_Sub.f a0 a1 = some r) : Pv.Fn Try.prog 51 [iV .u64 a0, iV .u64 a1] [] 0 (fun x o => x = .tup [iV .u64 r.1, iV .i64 r.2] ∧ o = []) := by
  unfold f_num_Sub.f at H
  refine Fn.bodyK [] Try.func51 rfl rfl (fun Γ hP hn => ?_)
  have hm : Try.prog.follows .mixedOrders = true := by kernel_rfl
  replace hn : Γ.n = 12 := hn
  refine AWp.seq ?_
  refine reg hP hn hm [] [0, 1] [] ⟨[(0, iV .u64 a0), (1, iV .u64 a1)], [], 0⟩ [] (by kernel_rfl) trivial ?_
  refine AWp.seq ?_
  refine AWp.seq ?_
  refine reg hP hn hm [] [0, 1, 8] [] ⟨[(0, iV .u64 a0), (1, iV .u64 a1), (8, bV (decide (a1 > a0)))], [], 0⟩ [] (by kernel_rfl) trivial ?_
  refine AWp.cond (decide (a1 > a0)) rfl (fun c2682 => ?_) (fun c2682 => ?_)
  · replace H := (ifT c2682).symm.trans H
    refine AWp.seq ?_
    refine reg hP hn hm [] [4, 5] [] ⟨[(4, iV .u64 0), (5, iV .i64 5)], [], 0⟩ [] (by kernel_rfl) trivial ?_
    refine AWp.conv (inv := []) (vk := []) (e0 := []) (t := ⟨[(4, iV .u64 0), (5, iV .i64 5)], [], 0⟩) (by kernel_rfl) ?_
    refine AWp.ret ?_
    obtain rfl := Option.some.inj H
    exact Exists.intro _ (And.intro (fun _ _ h => h) (And.intro (.inl rfl) (And.intro rfl (And.intro (by kernel_rfl) (by kernel_rfl)))))
  · replace H := (ifF c2682).symm.trans H
    refine AWp.skip ?_
    refine AWp.seq ?_
    refine reg hP hn hm [] [4, 5] [] ⟨[(4, iV .u64 (IntKind.u64.wrap (a0 - a1))), (5, iV .i64 0)], [], 0⟩ [] (by kernel_rfl) trivial ?_
    refine AWp.conv (inv := []) (vk := []) (e0 := []) (t := ⟨[(4, iV .u64 (IntKind.u64.wrap (a0 - a1))), (5, iV .i64 0)], [], 0⟩) (by kernel_rfl) ?_
    refine AWp.ret ?_
    obtain rfl := Option.some.inj H
    exact Exists.intro _ (And.intro (fun _ _ h => h) (And.intro (.inl rfl) (And.intro rfl (And.intro (by kernel_rfl) (by kernel_rfl)))))
def f_meld_Sub.f (a0 : THist) (a1 : THist) : Option (THist × Int) := (f_num_SubInt.f a0.f5 a1.f5) >>= fun t2570 => (f_meld_Alike.f a0 a1) >>= fun t2574 => if (t2574.2.2 != (0 : Int)) = true then (some ((⟨0, 0, 0, 0, 0, 0, [], []⟩ : THist), t2574.2.2)) else ((f_meld_less.f ((t2574.1).f6) ((t2574.2.1).f6)) >>= fun t2676 => (f_meld_less.f ((t2574.1).f7) ((t2574.2.1).f7)) >>= fun t2680 => (f_num_Sub.f ((t2574.1).f3) ((t2574.2.1).f3)) >>= fun t2685 => ((if (!t2676.2) = true then (some true) else (if (!t2680.2) = true then (some true) else (some (t2685.2 != (0 : Int))))) : Option (Bool)) >>= fun x2691 => if x2691 = true then (some ((⟨0, 0, 0, 0, 0, 0, [], []⟩ : THist), 21)) else (if (t2570.2 != (0 : Int)) = true then (some ((⟨0, 0, 0, 0, 0, 0, [], []⟩ : THist), t2570.2)) else ((f_hist_Make.f (⟨(t2574.1).f0, (t2574.1).f1, (t2574.1).f2, t2685.1, (t2574.1).f4, t2570.1, (t2574.1).f6, (t2574.1).f7⟩ : THist) t2676.1 t2680.1) >>= fun t2698 => some ((t2698.1), t2698.2))))
theorem f_meld_Sub.ok (a0 : THist) (a1 : THist) (r : THist × Int) (H : f_meld_Sub.f a0 a1 = some r) : Pv.Fn Try.prog 23 [.agg (aHist a0), .agg (aHist a1)] [] 0 (fun x o => x = .tup [.agg (aHist (r.1)), iV .i64 r.2] ∧ o = []) := by
  unfold f_meld_Sub.f at H
  refine Fn.bodyK [] Try.func23 rfl rfl (fun Γ hP hn => ?_)
  have hm : Try.prog.follows .mixedOrders = true := by kernel_rfl
  replace hn : Γ.n = 85 := hn
  refine AWp.seq ?_
  refine reg hP hn hm [(0, .k 0), (1, .k 1), (2, .k 2)] [2, 3, 4] [0, 1, 2] ⟨[(2, .ptr 0 0 0), (3, .ptr 1 0 0), (4, .ptr 2 0 0)], [(0, some (.box 25 (aHist a0))), (1, some (.box 25 (aHist a1))), (2, some (.box 25 [iV .i64 0, iV .i64 0, iV .i64 0, iV .u64 0, iV .u64 0, iV .i64 0, .none0, .none0]))], 0⟩ [] (by kernel_rfl) trivial ?_
  refine AWp.seq ?_
  obtain ⟨t2570, e2571, H⟩ := bind_of H
  refine reg hP hn hm [(4, .call [] [] [] [] 0 (.tup [iV .i64 t2570.1, iV .i64 t2570.2]) [])] [2, 3, 4, 6, 7] [0, 1, 2] ⟨[(2, .ptr 0 0 0), (3, .ptr 1 0 0), (4, .ptr 2 0 0), (6, iV .i64 t2570.1), (7, iV .i64 t2570.2)], [(0, some (.box 25 (aHist a0))), (1, some (.box 25 (aHist a1))), (2, some (.box 25 [iV .i64 0, iV .i64 0, iV .i64 0, iV .u64 0, iV .u64 0, iV .i64 0, .none0, .none0]))], 0⟩ [Enters Try.prog 49, Pv.Fn Try.prog 49 [iV .i64 a0.f5, iV .i64 a1.f5] [] 0 (fun r o => r = .tup [iV .i64 t2570.1, iV .i64 t2570.2] ∧ o = [])] (by kernel_rfl) ⟨by exact Try.call49, by exact f_num_SubInt.ok a0.f5 a1.f5 t2570 e2571, trivial⟩ ?_
  refine AWp.seq ?_
  obtain ⟨t2574, e2575, H⟩ := bind_of H
  refine reg hP hn hm [(2, .call [] [] [] [] 0 (.tup [.agg (aHist (t2574.1)), .agg (aHist (t2574.2.1)), iV .i64 t2574.2.2]) [])] [2, 3, 4, 6, 7, 8] [0, 1, 2] ⟨[(2, .ptr 0 0 0), (3, .ptr 1 0 0), (4, .ptr 2 0 0), (6, iV .i64 t2570.1), (7, iV .i64 t2570.2), (8, iV .i64 t2574.2.2)], [(0, some (.box 25 (aHist (t2574.1)))), (1, some (.box 25 (aHist (t2574.2.1)))), (2, some (.box 25 [iV .i64 0, iV .i64 0, iV .i64 0, iV .u64 0, iV .u64 0, iV .i64 0, .none0, .none0]))], 0⟩ [Enters Try.prog 19, Pv.Fn Try.prog 19 [.agg (aHist a0), .agg (aHist a1)] [] 0 (fun r o => r = .tup [.agg (aHist (t2574.1)), .agg (aHist (t2574.2.1)), iV .i64 t2574.2.2] ∧ o = [])] (by kernel_rfl) ⟨by exact Try.call19, by exact f_meld_Alike.ok a0 a1 t2574 e2575, trivial⟩ ?_
  refine AWp.seq ?_
  refine AWp.seq ?_
  refine reg hP hn hm [] [2, 3, 4, 6, 7, 8, 31] [0, 1, 2] ⟨[(2, .ptr 0 0 0), (3, .ptr 1 0 0), (4, .ptr 2 0 0), (6, iV .i64 t2570.1), (7, iV .i64 t2570.2), (8, iV .i64 t2574.2.2), (31, bV (t2574.2.2 != (0 : Int)))], [(0, some (.box 25 (aHist (t2574.1)))), (1, some (.box 25 (aHist (t2574.2.1)))), (2, some (.box 25 [iV .i64 0, iV .i64 0, iV .i64 0, iV .u64 0, iV .u64 0, iV .i64 0, .none0, .none0]))], 0⟩ [] (by kernel_rfl) trivial ?_
  refine AWp.cond (t2574.2.2 != (0 : Int)) rfl (fun c2576 => ?_) (fun c2576 => ?_)
  · replace H := (ifT c2576).symm.trans H
    refine AWp.seq ?_
    refine reg hP hn hm [] [4, 5] [2] ⟨[(4, .ptr 2 0 0), (5, iV .i64 t2574.2.2)], [(2, some (.box 25 [iV .i64 0, iV .i64 0, iV .i64 0, iV .u64 0, iV .u64 0, iV .i64 0, .none0, .none0]))], 0⟩ [] (by kernel_rfl) trivial ?_
    refine AWp.conv (inv := [(2, 0)]) (vk := []) (e0 := []) (t := ⟨[(4, .ptr 0 0 0), (5, iV .i64 t2574.2.2)], [(0, some (.box 25 (aHist ((⟨0, 0, 0, 0, 0, 0, [], []⟩ : THist)))))], 0⟩) (by kernel_rfl) ?_
    refine AWp.ret ?_
    obtain rfl := Option.some.inj H
    exact Exists.intro _ (And.intro (fun _ _ h => h) (And.intro (.inl rfl) (And.intro rfl (And.intro (by kernel_rfl) (by kernel_rfl)))))
  · replace H := (ifF c2576).symm.trans H
    refine AWp.skip ?_
    refine AWp.seq ?_
    obtain ⟨t2676, e2677, H⟩ := bind_of H
    refine reg hP hn hm [(4, .call [] [(0, 3)] [] [3] 0 (.tup [.own 0, bV t2676.2]) [(0, some (.row 2 54 (t2676.1.map eBucket)))])] [2, 3, 4, 6, 7, 9, 10] [0, 1, 2, 3] ⟨[(2, .ptr 0 0 0), (3, .ptr 1 0 0), (4, .ptr 2 0 0), (6, iV .i64 t2570.1), (7, iV .i64 t2570.2), (9, .own 3), (10, bV t2676.2)], [(0, some (.box 25 (aHist (t2574.1)))), (1, some (.box 25 (aHist (t2574.2.1)))), (2, some (.box 25 [iV .i64 0, iV .i64 0, iV .i64 0, iV .u64 0, iV .u64 0, iV .i64 0, .none0, .none0])), (3, some (.row 2 54 (t2676.1.map eBucket)))], 0⟩ [Enters Try.prog 50, Pv.Fn Try.prog 50 [.im (.row (((t2574.1).f6).map eBucket)), .im (.row (((t2574.2.1).f6).map eBucket))] [] 0 (fun r o => r = .tup [.own 0, bV t2676.2] ∧ o = [(0, some (.row 2 54 (t2676.1.map eBucket)))])] (by kernel_rfl) ⟨by exact Try.call50, by exact f_meld_less.ok ((t2574.1).f6) ((t2574.2.1).f6) t2676 e2677, trivial⟩ ?_
    refine AWp.seq ?_
    obtain ⟨t2680, e2681, H⟩ := bind_of H
    refine reg hP hn hm [(4, .call [] [(0, 4)] [] [4] 0 (.tup [.own 0, bV t2680.2]) [(0, some (.row 2 54 (t2680.1.map eBucket)))])] [2, 3, 4, 6, 7, 9, 10, 11, 12] [0, 1, 2, 3, 4] ⟨[(2, .ptr 0 0 0), (3, .ptr 1 0 0), (4, .ptr 2 0 0), (6, iV .i64 t2570.1), (7, iV .i64 t2570.2), (9, .own 3), (10, bV t2676.2), (11, .own 4), (12, bV t2680.2)], [(0, some (.box 25 (aHist (t2574.1)))), (1, some (.box 25 (aHist (t2574.2.1)))), (2, some (.box 25 [iV .i64 0, iV .i64 0, iV .i64 0, iV .u64 0, iV .u64 0, iV .i64 0, .none0, .none0])), (3, some (.row 2 54 (t2676.1.map eBucket))), (4, some (.row 2 54 (t2680.1.map eBucket)))], 0⟩ [Enters Try.prog 50, Pv.Fn Try.prog 50 [.im (.row (((t2574.1).f7).map eBucket)), .im (.row (((t2574.2.1).f7).map eBucket))] [] 0 (fun r o => r = .tup [.own 0, bV t2680.2] ∧ o = [(0, some (.row 2 54 (t2680.1.map eBucket)))])] (by kernel_rfl) ⟨by exact Try.call50, by exact f_meld_less.ok ((t2574.1).f7) ((t2574.2.1).f7) t2680 e2681, trivial⟩ ?_
    refine AWp.seq ?_
    obtain ⟨t2685, e2686, H⟩ := bind_of H
    refine reg hP hn hm [(4, .call [] [] [] [] 0 (.tup [iV .u64 t2685.1, iV .i64 t2685.2]) [])] [2, 4, 6, 7, 9, 10, 11, 12, 13, 14] [0, 2, 3, 4] ⟨[(2, .ptr 0 0 0), (4, .ptr 2 0 0), (6, iV .i64 t2570.1), (7, iV .i64 t2570.2), (9, .own 3), (10, bV t2676.2), (11, .own 4), (12, bV t2680.2), (13, iV .u64 t2685.1), (14, iV .i64 t2685.2)], [(0, some (.box 25 (aHist (t2574.1)))), (2, some (.box 25 [iV .i64 0, iV .i64 0, iV .i64 0, iV .u64 0, iV .u64 0, iV .i64 0, .none0, .none0])), (3, some (.row 2 54 (t2676.1.map eBucket))), (4, some (.row 2 54 (t2680.1.map eBucket)))], 0⟩ [Enters Try.prog 51, Pv.Fn Try.prog 51 [iV .u64 ((t2574.1).f3), iV .u64 ((t2574.2.1).f3)] [] 0 (fun r o => r = .tup [iV .u64 t2685.1, iV .i64 t2685.2] ∧ o = [])] (by kernel_rfl) ⟨by exact Try.call51, by exact f_num_Sub.ok ((t2574.1).f3) ((t2574.2.1).f3) t2685 e2686, trivial⟩ ?_
    refine AWp.seq ?_
    refine AWp.block ?_
    refine AWp.seq ?_
    obtain ⟨o2700, e2701, H⟩ := bind_of H
    refine AWp.mono (Q := fun e s => (match (generalizing := false) o2700 with | x2691 => e = .normal ∧ s = ⟨[(2, .ptr 5 0 0), (4, .ptr 6 0 0), (6, iV .i64 t2570.1), (7, iV .i64 t2570.2), (9, .own 7), (11, .own 8), (13, iV .u64 t2685.1), (58, bV x2691)], [(5, some (.box 25 (aHist (t2574.1)))), (6, some (.box 25 [iV .i64 0, iV .i64 0, iV .i64 0, iV .u64 0, iV .u64 0, iV .i64 0, .none0, .none0])), (7, some (.row 2 54 (t2676.1.map eBucket))), (8, some (.row 2 54 (t2680.1.map eBucket)))], 0⟩)) (AWp.cv ?_) ?_
    · replace H := e2701; clear e2701
      rcases Bool.eq_false_or_eq_true (!t2676.2) with c2689 | c2689
      · replace H := (ifT c2689).symm.trans H
        refine reg hP hn hm [(2, .b true)] [2, 4, 6, 7, 9, 11, 13, 58] [0, 2, 3, 4] ⟨[(2, .ptr 0 0 0), (4, .ptr 2 0 0), (6, iV .i64 t2570.1), (7, iV .i64 t2570.2), (9, .own 3), (11, .own 4), (13, iV .u64 t2685.1), (58, bV true)], [(0, some (.box 25 (aHist (t2574.1)))), (2, some (.box 25 [iV .i64 0, iV .i64 0, iV .i64 0, iV .u64 0, iV .u64 0, iV .i64 0, .none0, .none0])), (3, some (.row 2 54 (t2676.1.map eBucket))), (4, some (.row 2 54 (t2680.1.map eBucket)))], 0⟩ [(!t2676.2) = true] (by kernel_rfl) ⟨by exact c2689, trivial⟩ ?_
        obtain rfl := Option.some.inj H
        exact Exists.intro _ (And.intro (fun _ _ h => h.conv (inv := [(0, 5), (2, 6), (3, 7), (4, 8)]) (vk := []) (e0 := []) (t := ⟨[(2, .ptr 5 0 0), (4, .ptr 6 0 0), (6, iV .i64 t2570.1), (7, iV .i64 t2570.2), (9, .own 7), (11, .own 8), (13, iV .u64 t2685.1), (58, bV true)], [(5, some (.box 25 (aHist (t2574.1)))), (6, some (.box 25 [iV .i64 0, iV .i64 0, iV .i64 0, iV .u64 0, iV .u64 0, iV .i64 0, .none0, .none0])), (7, some (.row 2 54 (t2676.1.map eBucket))), (8, some (.row 2 54 (t2680.1.map eBucket)))], 0⟩) (by kernel_rfl)) (And.intro rfl rfl))
      · replace H := (ifF c2689).symm.trans H
        rcases Bool.eq_false_or_eq_true (!t2680.2) with c2690 | c2690
        · replace H := (ifT c2690).symm.trans H
          refine reg hP hn hm [(2, .b false), (6, .b true)] [2, 4, 6, 7, 9, 11, 13, 58] [0, 2, 3, 4] ⟨[(2, .ptr 0 0 0), (4, .ptr 2 0 0), (6, iV .i64 t2570.1), (7, iV .i64 t2570.2), (9, .own 3), (11, .own 4), (13, iV .u64 t2685.1), (58, bV true)], [(0, some (.box 25 (aHist (t2574.1)))), (2, some (.box 25 [iV .i64 0, iV .i64 0, iV .i64 0, iV .u64 0, iV .u64 0, iV .i64 0, .none0, .none0])), (3, some (.row 2 54 (t2676.1.map eBucket))), (4, some (.row 2 54 (t2680.1.map eBucket)))], 0⟩ [(!t2676.2) = false, (!t2680.2) = true] (by kernel_rfl) ⟨by exact c2689, by exact c2690, trivial⟩ ?_
          obtain rfl := Option.some.inj H
          exact Exists.intro _ (And.intro (fun _ _ h => h.conv (inv := [(0, 5), (2, 6), (3, 7), (4, 8)]) (vk := []) (e0 := []) (t := ⟨[(2, .ptr 5 0 0), (4, .ptr 6 0 0), (6, iV .i64 t2570.1), (7, iV .i64 t2570.2), (9, .own 7), (11, .own 8), (13, iV .u64 t2685.1), (58, bV true)], [(5, some (.box 25 (aHist (t2574.1)))), (6, some (.box 25 [iV .i64 0, iV .i64 0, iV .i64 0, iV .u64 0, iV .u64 0, iV .i64 0, .none0, .none0])), (7, some (.row 2 54 (t2676.1.map eBucket))), (8, some (.row 2 54 (t2680.1.map eBucket)))], 0⟩) (by kernel_rfl)) (And.intro rfl rfl))
        · replace H := (ifF c2690).symm.trans H
          refine reg hP hn hm [(2, .b false), (6, .b false)] [2, 4, 6, 7, 9, 11, 13, 58] [0, 2, 3, 4] ⟨[(2, .ptr 0 0 0), (4, .ptr 2 0 0), (6, iV .i64 t2570.1), (7, iV .i64 t2570.2), (9, .own 3), (11, .own 4), (13, iV .u64 t2685.1), (58, bV (t2685.2 != (0 : Int)))], [(0, some (.box 25 (aHist (t2574.1)))), (2, some (.box 25 [iV .i64 0, iV .i64 0, iV .i64 0, iV .u64 0, iV .u64 0, iV .i64 0, .none0, .none0])), (3, some (.row 2 54 (t2676.1.map eBucket))), (4, some (.row 2 54 (t2680.1.map eBucket)))], 0⟩ [(!t2676.2) = false, (!t2680.2) = false] (by kernel_rfl) ⟨by exact c2689, by exact c2690, trivial⟩ ?_
          obtain rfl := Option.some.inj H
          exact Exists.intro _ (And.intro (fun _ _ h => h.conv (inv := [(0, 5), (2, 6), (3, 7), (4, 8)]) (vk := []) (e0 := []) (t := ⟨[(2, .ptr 5 0 0), (4, .ptr 6 0 0), (6, iV .i64 t2570.1), (7, iV .i64 t2570.2), (9, .own 7), (11, .own 8), (13, iV .u64 t2685.1), (58, bV (t2685.2 != (0 : Int)))], [(5, some (.box 25 (aHist (t2574.1)))), (6, some (.box 25 [iV .i64 0, iV .i64 0, iV .i64 0, iV .u64 0, iV .u64 0, iV .i64 0, .none0, .none0])), (7, some (.row 2 54 (t2676.1.map eBucket))), (8, some (.row 2 54 (t2680.1.map eBucket)))], 0⟩) (by kernel_rfl)) (And.intro rfl rfl))
    · obtain ⟨x2691, rfl⟩ : ∃ z, z = o2700 := ⟨_, rfl⟩
      rintro e s ⟨rfl, rfl⟩
      refine AWp.cond x2691 rfl (fun c2692 => ?_) (fun c2692 => ?_)
      · replace H := (ifT c2692).symm.trans H
        refine AWp.seq ?_
        refine reg hP hn hm [] [4, 5] [6] ⟨[(4, .ptr 6 0 0), (5, iV .i64 21)], [(6, some (.box 25 [iV .i64 0, iV .i64 0, iV .i64 0, iV .u64 0, iV .u64 0, iV .i64 0, .none0, .none0]))], 0⟩ [] (by kernel_rfl) trivial ?_
        refine AWp.conv (inv := [(6, 0)]) (vk := []) (e0 := []) (t := ⟨[(4, .ptr 0 0 0), (5, iV .i64 21)], [(0, some (.box 25 (aHist ((⟨0, 0, 0, 0, 0, 0, [], []⟩ : THist)))))], 0⟩) (by kernel_rfl) ?_
        refine AWp.ret ?_
        obtain rfl := Option.some.inj H
        exact Exists.intro _ (And.intro (fun _ _ h => h) (And.intro (.inl rfl) (And.intro rfl (And.intro (by kernel_rfl) (by kernel_rfl)))))
      · replace H := (ifF c2692).symm.trans H
        refine AWp.seq ?_
        refine reg hP hn hm [] [2, 4, 6, 7, 9, 11, 13, 70] [5, 6, 7, 8] ⟨[(2, .ptr 5 0 0), (4, .ptr 6 0 0), (6, iV .i64 t2570.1), (7, iV .i64 t2570.2), (9, .own 7), (11, .own 8), (13, iV .u64 t2685.1), (70, bV (t2570.2 != (0 : Int)))], [(5, some (.box 25 (aHist (t2574.1)))), (6, some (.box 25 [iV .i64 0, iV .i64 0, iV .i64 0, iV .u64 0, iV .u64 0, iV .i64 0, .none0, .none0])), (7, some (.row 2 54 (t2676.1.map eBucket))), (8, some (.row 2 54 (t2680.1.map eBucket)))], 0⟩ [] (by kernel_rfl) trivial ?_
        refine AWp.cond (t2570.2 != (0 : Int)) rfl (fun c2693 => ?_) (fun c2693 => ?_)
        · replace H := (ifT c2693).symm.trans H
          refine AWp.seq ?_
          refine reg hP hn hm [] [4, 5] [6] ⟨[(4, .ptr 6 0 0), (5, iV .i64 t2570.2)], [(6, some (.box 25 [iV .i64 0, iV .i64 0, iV .i64 0, iV .u64 0, iV .u64 0, iV .i64 0, .none0, .none0]))], 0⟩ [] (by kernel_rfl) trivial ?_
          refine AWp.conv (inv := [(6, 0)]) (vk := []) (e0 := []) (t := ⟨[(4, .ptr 0 0 0), (5, iV .i64 t2570.2)], [(0, some (.box 25 (aHist ((⟨0, 0, 0, 0, 0, 0, [], []⟩ : THist)))))], 0⟩) (by kernel_rfl) ?_
          refine AWp.ret ?_
          obtain rfl := Option.some.inj H
          exact Exists.intro _ (And.intro (fun _ _ h => h) (And.intro (.inl rfl) (And.intro rfl (And.intro (by kernel_rfl) (by kernel_rfl)))))
        · replace H := (ifF c2693).symm.trans H
          refine AWp.skip ?_
          refine AWp.seq ?_
          refine reg hP hn hm [] [2, 4, 9, 11] [5, 6, 7, 8] ⟨[(2, .ptr 5 0 0), (4, .ptr 6 0 0), (9, .own 7), (11, .own 8)], [(5, some (.box 25 (aHist ⟨((t2574.1).f0), ((t2574.1).f1), ((t2574.1).f2), t2685.1, ((t2574.1).f4), t2570.1, ((t2574.1).f6), ((t2574.1).f7)⟩))), (6, some (.box 25 [iV .i64 0, iV .i64 0, iV .i64 0, iV .u64 0, iV .u64 0, iV .i64 0, .none0, .none0])), (7, some (.row 2 54 (t2676.1.map eBucket))), (8, some (.row 2 54 (t2680.1.map eBucket)))], 0⟩ [] (by kernel_rfl) trivial ?_
          refine AWp.seq ?_
          refine AWp.conv (inv := [(5, 5), (6, 6)]) (vk := [7, 8]) (e0 := []) (t := ⟨[(2, .ptr 5 0 0), (4, .ptr 6 0 0), (9, .im (.row (t2676.1.map eBucket))), (11, .im (.row (t2680.1.map eBucket)))], [(5, some (.box 25 (aHist ⟨((t2574.1).f0), ((t2574.1).f1), ((t2574.1).f2), t2685.1, ((t2574.1).f4), t2570.1, ((t2574.1).f6), ((t2574.1).f7)⟩))), (6, some (.box 25 [iV .i64 0, iV .i64 0, iV .i64 0, iV .u64 0, iV .u64 0, iV .i64 0, .none0, .none0]))], 0⟩) (by kernel_rfl) ?_
          obtain ⟨t2698, e2699, H⟩ := bind_of H
          refine reg hP hn hm [(3, .call [] [] [] [] 0 (.tup [.agg (aHist (t2698.1)), iV .i64 t2698.2]) [])] [4, 5] [6] ⟨[(4, .ptr 6 0 0), (5, iV .i64 t2698.2)], [(6, some (.box 25 (aHist (t2698.1))))], 0⟩ [Enters Try.prog 33, Pv.Fn Try.prog 33 [.agg (aHist ⟨(t2574.1).f0, (t2574.1).f1, (t2574.1).f2, t2685.1, (t2574.1).f4, t2570.1, (t2574.1).f6, (t2574.1).f7⟩), .im (.row (t2676.1.map eBucket)), .im (.row (t2680.1.map eBucket))] [] 0 (fun r o => r = .tup [.agg (aHist (t2698.1)), iV .i64 t2698.2] ∧ o = [])] (by kernel_rfl) ⟨by exact Try.call33, by exact f_hist_Make.ok (⟨(t2574.1).f0, (t2574.1).f1, (t2574.1).f2, t2685.1, (t2574.1).f4, t2570.1, (t2574.1).f6, (t2574.1).f7⟩ : THist) t2676.1 t2680.1 t2698 e2699, trivial⟩ ?_
          refine AWp.conv (inv := [(6, 0)]) (vk := []) (e0 := []) (t := ⟨[(4, .ptr 0 0 0), (5, iV .i64 t2698.2)], [(0, some (.box 25 (aHist ((t2698.1)))))], 0⟩) (by kernel_rfl) ?_
          refine AWp.ret ?_
          obtain rfl := Option.some.inj H
          exact Exists.intro _ (And.intro (fun _ _ h => h) (And.intro (.inl rfl) (And.intro rfl (And.intro (by kernel_rfl) (by kernel_rfl)))))
def f_pluvialref07_At.l0 (a0 : List TBucket) (a1 : Int) (x2732 : Int) : Option (Int ⊕ Unit) := if (decide (x2732 < (a0.length : Int))) = true then ((at? a0 x2732) >>= fun b2737 => if (b2737.f0 == a1) = true then (some (.inl b2737.f1)) else (f_pluvialref07_At.l0 a0 a1 (IntKind.i64.wrap (x2732 + (1 : Int))))) else (some (.inr ()))
partial_fixpoint
def f_pluvialref07_At.f (a0 : List TBucket) (a1 : Int) : Option (Int) := (f_pluvialref07_At.l0 a0 a1 0) >>= fun oo => match oo with | .inl rr => (some rr) | .inr _ => (some 0)
theorem f_pluvialref07_At.ok (a0 : List TBucket) (a1 : Int) (r : Int) (H : f_pluvialref07_At.f a0 a1 = some r) : Pv.Fn Try.prog 67 [.im (.row (a0.map eBucket)), iV .i64 a1] [] 0 (fun x o => x = iV .u64 r ∧ o = []) := by
  unfold f_pluvialref07_At.f at H
  refine Fn.bodyK [] Try.func67 rfl rfl (fun Γ hP hn => ?_)
  have hm : Try.prog.follows .mixedOrders = true := by kernel_rfl
  replace hn : Γ.n = 24 := hn
  refine AWp.seq ?_
  refine reg hP hn hm [] [0, 1] [] ⟨[(0, .im (.row (a0.map eBucket))), (1, iV .i64 a1)], [], 0⟩ [] (by kernel_rfl) trivial ?_
  refine AWp.seq ?_
  refine AWp.seq ?_
  refine reg hP hn hm [] [0, 1, 5] [] ⟨[(0, .im (.row (a0.map eBucket))), (1, iV .i64 a1), (5, iV .i64 0)], [], 0⟩ [] (by kernel_rfl) trivial ?_
  refine AWp.block ?_
  obtain ⟨o2741, e2742, H⟩ := bind_of H
  refine AWp.loop (LWp.conv (inv := []) (vk := []) (e0 := []) (t := ⟨[(0, .im (.row (a0.map eBucket))), (1, iV .i64 a1), (5, iV .i64 0)], [], 0⟩) (by kernel_rfl) ?_)
  refine LWp.mono (Q := fun e s => (match (generalizing := false) o2741 with | .inl rr => e = .ret ∧ s.floor = 0 ∧ resOf Try.prog Try.f67 s = some (iV .u64 rr) ∧ ([] : List (Nat × Option MObj)) = [] | .inr _ => e = .exit 0 ∧ s = ⟨[], [], 0⟩)) (LWp.cv (withBody (fun body hbody => ?_))) ?_
  · refine f_pluvialref07_At.l0.partial_correctness a0 a1 (motive := fun x2732 o2741 => LWp Γ body (fun e s => ∃ t, Cv Γ s t ∧ (match (generalizing := false) o2741 with | .inl rr => e = .ret ∧ t.floor = 0 ∧ resOf Try.prog Try.f67 t = some (iV .u64 rr) ∧ ([] : List (Nat × Option MObj)) = [] | .inr _ => e = .exit 0 ∧ t = ⟨[], [], 0⟩)) ⟨[(0, .im (.row (a0.map eBucket))), (1, iV .i64 a1), (5, iV .i64 x2732)], [], 0⟩) ?_ _ _ e2742
    clear H e2742 o2741; intro self ih x2732 o2741 H
    subst hbody
    refine LWp.round ?_
    refine AWp.seq ?_
    refine AWp.seq ?_
    refine reg hP hn hm [(2, .any (iV .i64 (a0.length : Int)))] [0, 1, 5, 9] [] ⟨[(0, .im (.row (a0.map eBucket))), (1, iV .i64 a1), (5, iV .i64 x2732), (9, bV (decide (x2732 < (a0.length : Int))))], [], 0⟩ [((a0.map eBucket).length : Int) = (a0.length : Int)] (by kernel_rfl) ⟨by rw [len_map], trivial⟩ ?_
    refine AWp.cond (decide (x2732 < (a0.length : Int))) rfl (fun c2733 => ?_) (fun c2733 => ?_)
    · replace H := (ifT c2733).symm.trans H
      refine AWp.skip ?_
      refine AWp.seq ?_
      refine AWp.block ?_
      refine AWp.seq ?_
      obtain ⟨b2737, p2738, q2739, H⟩ := at_of H
      refine reg hP hn hm [(2, .c (eBucket b2737))] [0, 1, 5, 18] [] ⟨[(0, .im (.row (a0.map eBucket))), (1, iV .i64 a1), (5, iV .i64 x2732), (18, bV (b2737.f0 == a1))], [], 0⟩ [0 ≤ x2732, (a0.map eBucket)[(Int.toNat (x2732))]? = some (eBucket b2737)] (by kernel_rfl) ⟨by exact p2738, by exact el_map eBucket q2739, trivial⟩ ?_
      refine AWp.cond (b2737.f0 == a1) rfl (fun c2740 => ?_) (fun c2740 => ?_)
      · replace H := (ifT c2740).symm.trans H
        refine AWp.seq ?_
        refine reg hP hn hm [(2, .c (eBucket b2737))] [4] [] ⟨[(4, iV .u64 b2737.f1)], [], 0⟩ [0 ≤ x2732, (a0.map eBucket)[(Int.toNat (x2732))]? = some (eBucket b2737)] (by kernel_rfl) ⟨by exact p2738, by exact el_map eBucket q2739, trivial⟩ ?_
        refine AWp.conv (inv := []) (vk := []) (e0 := []) (t := ⟨[(4, iV .u64 b2737.f1)], [], 0⟩) (by kernel_rfl) ?_
        refine AWp.ret ?_
        obtain rfl := Option.some.inj H
        exact Exists.intro _ (And.intro (fun _ _ h => h) (And.intro rfl (And.intro rfl (And.intro (by kernel_rfl) (by kernel_rfl)))))
      · replace H := (ifF c2740).symm.trans H
        refine AWp.skip ?_
        refine reg hP hn hm [] [0, 1, 5] [] ⟨[(0, .im (.row (a0.map eBucket))), (1, iV .i64 a1), (5, iV .i64 (IntKind.i64.wrap (x2732 + (1 : Int))))], [], 0⟩ [] (by kernel_rfl) trivial ?_
        exact LWp.conv (inv := []) (vk := []) (e0 := []) (t := ⟨[(0, .im (.row (a0.map eBucket))), (1, iV .i64 a1), (5, iV .i64 (IntKind.i64.wrap (x2732 + (1 : Int))))], [], 0⟩) (by kernel_rfl) (ih _ _ H)
    · replace H := (ifF c2733).symm.trans H
      refine AWp.exit ?_
      obtain rfl := Option.some.inj H
      exact Exists.intro _ (And.intro (fun _ _ h => h.conv (inv := []) (vk := []) (e0 := []) (t := ⟨[], [], 0⟩) (by kernel_rfl)) (And.intro rfl rfl))
  · rcases o2741 with rr | _
    · skip
      rintro e s ⟨rfl, hfl, hres⟩
      obtain rfl := Option.some.inj H
      exact Exists.intro _ (And.intro (fun _ _ h => h) (And.intro (.inl rfl) (And.intro hfl hres)))
    · skip
      rintro e s ⟨rfl, rfl⟩
      refine AWp.seq ?_
      refine reg hP hn hm [] [4] [] ⟨[(4, iV .u64 0)], [], 0⟩ [] (by kernel_rfl) trivial ?_
      refine AWp.conv (inv := []) (vk := []) (e0 := []) (t := ⟨[(4, iV .u64 0)], [], 0⟩) (by kernel_rfl) ?_
      refine AWp.ret ?_
      obtain rfl := Option.some.inj H
      exact Exists.intro _ (And.intro (fun _ _ h => h) (And.intro (.inl rfl) (And.intro rfl (And.intro (by kernel_rfl) (by kernel_rfl)))))
def f_pluvialref07_off.l0 (a0 : List TBucket) (a1 : List TBucket) (x2751 : Int) : Option (((List TBucket) × Bool) ⊕ Unit) := if (decide (x2751 < (a1.length : Int))) = true then ((at? a1 x2751) >>= fun b2758 => (f_pluvialref07_At.f a0 b2758.f0) >>= fun t2761 => if (decide (t2761 < b2758.f1)) = true then (some (.inl ([], false))) else (f_pluvialref07_off.l0 a0 a1 (IntKind.i64.wrap (x2751 + (1 : Int))))) else (some (.inr ()))
partial_fixpoint
def f_pluvialref07_off.l1 (a0 : List TBucket) (a1 : List TBucket) (x2779 : List TBucket) (x2780 : Int) : Option (List TBucket) := if (decide (x2780 < (a0.length : Int))) = true then ((at? a0 x2780) >>= fun b2787 => (f_pluvialref07_At.f a1 b2787.f0) >>= fun t2790 => ((if (decide ((IntKind.u64.wrap (b2787.f1 - t2790)) > (0 : Int))) = true then ((chk ((x2779.length + [(⟨b2787.f0, IntKind.u64.wrap (b2787.f1 - t2790)⟩ : TBucket)].length) * 16 ≤ 140737488355328)) >>= fun _ => some (x2779 ++ [(⟨b2787.f0, IntKind.u64.wrap (b2787.f1 - t2790)⟩ : TBucket)])) else (some x2779)) : Option (List TBucket)) >>= fun x2795 => f_pluvialref07_off.l1 a0 a1 x2795 (IntKind.i64.wrap (x2780 + (1 : Int)))) else (some x2779)
partial_fixpoint
def f_pluvialref07_off.f (a0 : List TBucket) (a1 : List TBucket) : Option ((List TBucket) × Bool) := (f_pluvialref07_off.l0 a0 a1 0) >>= fun oo => match oo with | .inl rr => (some rr) | .inr _ => ((f_pluvialref07_off.l1 a0 a1 [] 0) >>= fun x2796 => some (x2796, true))
theorem f_pluvialref07_off.ok (a0 : List TBucket) (a1 : List TBucket) (r : (List TBucket) × Bool) (H : f_pluvialref07_off.f a0 a1 = some r) : Pv.Fn Try.prog 52 [.im (.row (a0.map eBucket)), .im (.row (a1.map eBucket))] [] 0 (fun x o => x = .tup [.own 0, bV r.2] ∧ o = [(0, some (.row 2 54 (r.1.map eBucket)))]) := by
  unfold f_pluvialref07_off.f at H
  refine Fn.bodyK [0] Try.func52 rfl rfl (fun Γ hP hn => ?_)
  have hm : Try.prog.follows .mixedOrders = true := by kernel_rfl
  replace hn : Γ.n = 61 := hn
  refine AWp.seq ?_
  refine reg hP hn hm [] [0, 1] [] ⟨[(0, .im (.row (a0.map eBucket))), (1, .im (.row (a1.map eBucket)))], [], 0⟩ [] (by kernel_rfl) trivial ?_
  refine AWp.seq ?_
  refine AWp.seq ?_
  refine reg hP hn hm [] [0, 1, 6] [] ⟨[(0, .im (.row (a0.map eBucket))), (1, .im (.row (a1.map eBucket))), (6, iV .i64 0)], [], 0⟩ [] (by kernel_rfl) trivial ?_
  refine AWp.block ?_
  obtain ⟨o2797, e2798, H⟩ := bind_of H
  refine AWp.loop (LWp.conv (inv := []) (vk := []) (e0 := []) (t := ⟨[(0, .im (.row (a0.map eBucket))), (1, .im (.row (a1.map eBucket))), (6, iV .i64 0)], [], 0⟩) (by kernel_rfl) ?_)
  refine LWp.mono (Q := fun e s => (match (generalizing := false) o2797 with | .inl rr => e = .ret ∧ s.floor = 0 ∧ resOf Try.prog Try.f52 s = some (.tup [.own 0, bV rr.2]) ∧ ([(0, s.obj 0)] : List (Nat × Option MObj)) = [(0, some (.row 2 54 (rr.1.map eBucket)))] | .inr _ => e = .exit 0 ∧ s = ⟨[(0, .im (.row (a0.map eBucket))), (1, .im (.row (a1.map eBucket)))], [], 0⟩)) (LWp.cv (withBody (fun body hbody => ?_))) ?_
  · refine f_pluvialref07_off.l0.partial_correctness a0 a1 (motive := fun x2751 o2797 => LWp Γ body (fun e s => ∃ t, Cv Γ s t ∧ (match (generalizing := false) o2797 with | .inl rr => e = .ret ∧ t.floor = 0 ∧ resOf Try.prog Try.f52 t = some (.tup [.own 0, bV rr.2]) ∧ ([(0, t.obj 0)] : List (Nat × Option MObj)) = [(0, some (.row 2 54 (rr.1.map eBucket)))] | .inr _ => e = .exit 0 ∧ t = ⟨[(0, .im (.row (a0.map eBucket))), (1, .im (.row (a1.map eBucket)))], [], 0⟩)) ⟨[(0, .im (.row (a0.map eBucket))), (1, .im (.row (a1.map eBucket))), (6, iV .i64 x2751)], [], 0⟩) ?_ _ _ e2798
    clear H e2798 o2797; intro self ih x2751 o2797 H
    subst hbody
    refine LWp.round ?_
    refine AWp.seq ?_
    refine AWp.seq ?_
    refine reg hP hn hm [(2, .any (iV .i64 (a1.length : Int)))] [0, 1, 6, 13] [] ⟨[(0, .im (.row (a0.map eBucket))), (1, .im (.row (a1.map eBucket))), (6, iV .i64 x2751), (13, bV (decide (x2751 < (a1.length : Int))))], [], 0⟩ [((a1.map eBucket).length : Int) = (a1.length : Int)] (by kernel_rfl) ⟨by rw [len_map], trivial⟩ ?_
    refine AWp.cond (decide (x2751 < (a1.length : Int))) rfl (fun c2752 => ?_) (fun c2752 => ?_)
    · replace H := (ifT c2752).symm.trans H
      refine AWp.skip ?_
      refine AWp.seq ?_
      refine AWp.block ?_
      refine AWp.seq ?_
      obtain ⟨b2758, p2759, q2760, H⟩ := at_of H
      obtain ⟨t2761, e2762, H⟩ := bind_of H
      refine reg hP hn hm [(3, .c (eBucket b2758)), (6, .call [] [] [] [] 0 (iV .u64 t2761) []), (9, .c (eBucket b2758))] [0, 1, 6, 28] [] ⟨[(0, .im (.row (a0.map eBucket))), (1, .im (.row (a1.map eBucket))), (6, iV .i64 x2751), (28, bV (decide (t2761 < b2758.f1)))], [], 0⟩ [0 ≤ x2751, (a1.map eBucket)[(Int.toNat (x2751))]? = some (eBucket b2758), Enters Try.prog 67, Pv.Fn Try.prog 67 [.im (.row (a0.map eBucket)), iV .i64 b2758.f0] [] 0 (fun r o => r = iV .u64 t2761 ∧ o = []), 0 ≤ x2751, (a1.map eBucket)[(Int.toNat (x2751))]? = some (eBucket b2758)] (by kernel_rfl) ⟨by exact p2759, by exact el_map eBucket q2760, by exact Try.call67, by exact f_pluvialref07_At.ok a0 b2758.f0 t2761 e2762, by exact p2759, by exact el_map eBucket q2760, trivial⟩ ?_
      refine AWp.cond (decide (t2761 < b2758.f1)) rfl (fun c2763 => ?_) (fun c2763 => ?_)
      · replace H := (ifT c2763).symm.trans H
        refine AWp.seq ?_
        refine reg hP hn hm [] [4, 5] [] ⟨[(4, .none0), (5, bV false)], [], 0⟩ [] (by kernel_rfl) trivial ?_
        refine AWp.conv (inv := []) (vk := []) (e0 := [0]) (t := ⟨[(4, .own 0), (5, bV false)], [(0, some (.row 2 54 ([].map eBucket)))], 0⟩) (by kernel_rfl) ?_
        refine AWp.ret ?_
        obtain rfl := Option.some.inj H
        exact Exists.intro _ (And.intro (fun _ _ h => h) (And.intro rfl (And.intro rfl (And.intro (by kernel_rfl) (by kernel_rfl)))))
      · replace H := (ifF c2763).symm.trans H
        refine AWp.skip ?_
        refine reg hP hn hm [] [0, 1, 6] [] ⟨[(0, .im (.row (a0.map eBucket))), (1, .im (.row (a1.map eBucket))), (6, iV .i64 (IntKind.i64.wrap (x2751 + (1 : Int))))], [], 0⟩ [] (by kernel_rfl) trivial ?_
        exact LWp.conv (inv := []) (vk := []) (e0 := []) (t := ⟨[(0, .im (.row (a0.map eBucket))), (1, .im (.row (a1.map eBucket))), (6, iV .i64 (IntKind.i64.wrap (x2751 + (1 : Int))))], [], 0⟩) (by kernel_rfl) (ih _ _ H)
    · replace H := (ifF c2752).symm.trans H
      refine AWp.exit ?_
      obtain rfl := Option.some.inj H
      exact Exists.intro _ (And.intro (fun _ _ h => h.conv (inv := []) (vk := []) (e0 := []) (t := ⟨[(0, .im (.row (a0.map eBucket))), (1, .im (.row (a1.map eBucket)))], [], 0⟩) (by kernel_rfl)) (And.intro rfl rfl))
  · rcases o2797 with rr | _
    · skip
      rintro e s ⟨rfl, hfl, hres⟩
      obtain rfl := Option.some.inj H
      exact Exists.intro _ (And.intro (fun _ _ h => h) (And.intro (.inl rfl) (And.intro hfl hres)))
    · skip
      rintro e s ⟨rfl, rfl⟩
      refine AWp.seq ?_
      refine reg hP hn hm [] [0, 1, 7] [] ⟨[(0, .im (.row (a0.map eBucket))), (1, .im (.row (a1.map eBucket))), (7, .none0)], [], 0⟩ [] (by kernel_rfl) trivial ?_
      refine AWp.seq ?_
      refine AWp.seq ?_
      refine reg hP hn hm [] [0, 1, 7, 8] [] ⟨[(0, .im (.row (a0.map eBucket))), (1, .im (.row (a1.map eBucket))), (7, .none0), (8, iV .i64 0)], [], 0⟩ [] (by kernel_rfl) trivial ?_
      refine AWp.block ?_
      obtain ⟨o2799, e2800, H⟩ := bind_of H
      refine AWp.loop (LWp.conv (inv := []) (vk := []) (e0 := [3]) (t := ⟨[(0, .im (.row (a0.map eBucket))), (1, .im (.row (a1.map eBucket))), (7, .own 3), (8, iV .i64 0)], [(3, some (.row 2 54 ([].map eBucket)))], 0⟩) (by kernel_rfl) ?_)
      refine LWp.mono (Q := fun e s => (match (generalizing := false) o2799 with | x2796 => e = .exit 2 ∧ s = ⟨[(7, .own 7)], [(7, some (.row 2 54 (x2796.map eBucket)))], 0⟩)) (LWp.cv (withBody (fun body hbody => ?_))) ?_
      · refine f_pluvialref07_off.l1.partial_correctness a0 a1 (motive := fun x2779 x2780 o2799 => LWp Γ body (fun e s => ∃ t, Cv Γ s t ∧ (match (generalizing := false) o2799 with | x2796 => e = .exit 2 ∧ t = ⟨[(7, .own 7)], [(7, some (.row 2 54 (x2796.map eBucket)))], 0⟩)) ⟨[(0, .im (.row (a0.map eBucket))), (1, .im (.row (a1.map eBucket))), (7, .own 3), (8, iV .i64 x2780)], [(3, some (.row 2 54 (x2779.map eBucket)))], 0⟩) ?_ _ _ _ e2800
        clear H e2800 o2799; intro self ih x2779 x2780 o2799 H
        subst hbody
        refine LWp.round ?_
        refine AWp.seq ?_
        refine AWp.seq ?_
        refine reg hP hn hm [(2, .any (iV .i64 (a0.length : Int)))] [0, 1, 7, 8, 32] [3] ⟨[(0, .im (.row (a0.map eBucket))), (1, .im (.row (a1.map eBucket))), (7, .own 3), (8, iV .i64 x2780), (32, bV (decide (x2780 < (a0.length : Int))))], [(3, some (.row 2 54 (x2779.map eBucket)))], 0⟩ [((a0.map eBucket).length : Int) = (a0.length : Int)] (by kernel_rfl) ⟨by rw [len_map], trivial⟩ ?_
        refine AWp.cond (decide (x2780 < (a0.length : Int))) rfl (fun c2781 => ?_) (fun c2781 => ?_)
        · replace H := (ifT c2781).symm.trans H
          refine AWp.skip ?_
          refine AWp.seq ?_
          refine AWp.block ?_
          refine AWp.seq ?_
          obtain ⟨b2787, p2788, q2789, H⟩ := at_of H
          obtain ⟨t2790, e2791, H⟩ := bind_of H
          refine reg hP hn hm [(2, .c (eBucket b2787)), (8, .c (eBucket b2787)), (11, .call [] [] [] [] 0 (iV .u64 t2790) [])] [0, 1, 7, 8, 9] [3] ⟨[(0, .im (.row (a0.map eBucket))), (1, .im (.row (a1.map eBucket))), (7, .own 3), (8, iV .i64 x2780), (9, iV .u64 (IntKind.u64.wrap (b2787.f1 - t2790)))], [(3, some (.row 2 54 (x2779.map eBucket)))], 0⟩ [0 ≤ x2780, (a0.map eBucket)[(Int.toNat (x2780))]? = some (eBucket b2787), 0 ≤ x2780, (a0.map eBucket)[(Int.toNat (x2780))]? = some (eBucket b2787), Enters Try.prog 67, Pv.Fn Try.prog 67 [.im (.row (a1.map eBucket)), iV .i64 b2787.f0] [] 0 (fun r o => r = iV .u64 t2790 ∧ o = [])] (by kernel_rfl) ⟨by exact p2788, by exact el_map eBucket q2789, by exact p2788, by exact el_map eBucket q2789, by exact Try.call67, by exact f_pluvialref07_At.ok a1 b2787.f0 t2790 e2791, trivial⟩ ?_
          refine AWp.seq ?_
          refine reg hP hn hm [] [0, 1, 7, 8, 9, 49] [3] ⟨[(0, .im (.row (a0.map eBucket))), (1, .im (.row (a1.map eBucket))), (7, .own 3), (8, iV .i64 x2780), (9, iV .u64 (IntKind.u64.wrap (b2787.f1 - t2790))), (49, bV (decide ((IntKind.u64.wrap (b2787.f1 - t2790)) > (0 : Int))))], [(3, some (.row 2 54 (x2779.map eBucket)))], 0⟩ [] (by kernel_rfl) trivial ?_
          obtain ⟨o2801, e2802, H⟩ := bind_of H
          refine AWp.mono (Q := fun e s => (match (generalizing := false) o2801 with | x2795 => e = .normal ∧ s = ⟨[(0, .im (.row (a0.map eBucket))), (1, .im (.row (a1.map eBucket))), (7, .own 6), (8, iV .i64 x2780)], [(6, some (.row 2 54 (x2795.map eBucket)))], 0⟩)) (AWp.cv ?_) ?_
          · replace H := e2802; clear e2802
            refine AWp.cond (decide ((IntKind.u64.wrap (b2787.f1 - t2790)) > (0 : Int))) rfl (fun c2792 => ?_) (fun c2792 => ?_)
            · replace H := (ifT c2792).symm.trans H
              obtain ⟨c2794, H⟩ := chk_of H
              refine reg hP hn hm [(3, .c (eBucket b2787)), (8, .app 4 ([(⟨b2787.f0, IntKind.u64.wrap (b2787.f1 - t2790)⟩ : TBucket)].map eBucket)), (9, .app 5 ((x2779 ++ [(⟨b2787.f0, IntKind.u64.wrap (b2787.f1 - t2790)⟩ : TBucket)]).map eBucket))] [0, 1, 7, 8] [5] ⟨[(0, .im (.row (a0.map eBucket))), (1, .im (.row (a1.map eBucket))), (7, .own 5), (8, iV .i64 x2780)], [(5, some (.row 2 54 ((x2779 ++ [(⟨b2787.f0, IntKind.u64.wrap (b2787.f1 - t2790)⟩ : TBucket)]).map eBucket)))], 0⟩ [0 ≤ x2780, (a0.map eBucket)[(Int.toNat (x2780))]? = some (eBucket b2787), [(⟨b2787.f0, IntKind.u64.wrap (b2787.f1 - t2790)⟩ : TBucket)].map eBucket = [[iI .i64 b2787.f0, iI .u64 (IntKind.u64.wrap (b2787.f1 - t2790))]], (x2779 ++ [(⟨b2787.f0, IntKind.u64.wrap (b2787.f1 - t2790)⟩ : TBucket)]).map eBucket = (x2779.map eBucket) ++ ([(⟨b2787.f0, IntKind.u64.wrap (b2787.f1 - t2790)⟩ : TBucket)].map eBucket), ∀ c ∈ ([(⟨b2787.f0, IntKind.u64.wrap (b2787.f1 - t2790)⟩ : TBucket)].map eBucket), c.length = 2, ∀ c ∈ ([(⟨b2787.f0, IntKind.u64.wrap (b2787.f1 - t2790)⟩ : TBucket)].map eBucket), leaves (c.map .im) = true, ((x2779.map eBucket).length + ([(⟨b2787.f0, IntKind.u64.wrap (b2787.f1 - t2790)⟩ : TBucket)].map eBucket).length) * 16 ≤ 140737488355328] (by kernel_rfl) ⟨by exact p2788, by exact el_map eBucket q2789, by exact rfl, by simp, by exact all_len _ _ _ (fun _ => rfl), by exact all_leaf _ _ (fun _ => rfl), by simpa using c2794, trivial⟩ ?_
              obtain rfl := Option.some.inj H
              exact Exists.intro _ (And.intro (fun _ _ h => h.conv (inv := [(5, 6)]) (vk := []) (e0 := []) (t := ⟨[(0, .im (.row (a0.map eBucket))), (1, .im (.row (a1.map eBucket))), (7, .own 6), (8, iV .i64 x2780)], [(6, some (.row 2 54 ((x2779 ++ [(⟨b2787.f0, IntKind.u64.wrap (b2787.f1 - t2790)⟩ : TBucket)]).map eBucket)))], 0⟩) (by kernel_rfl)) (And.intro rfl rfl))
            · replace H := (ifF c2792).symm.trans H
              refine AWp.skip ?_
              obtain rfl := Option.some.inj H
              exact Exists.intro _ (And.intro (fun _ _ h => h.conv (inv := [(3, 6)]) (vk := []) (e0 := []) (t := ⟨[(0, .im (.row (a0.map eBucket))), (1, .im (.row (a1.map eBucket))), (7, .own 6), (8, iV .i64 x2780)], [(6, some (.row 2 54 (x2779.map eBucket)))], 0⟩) (by kernel_rfl)) (And.intro rfl rfl))
          · obtain ⟨x2795, rfl⟩ : ∃ z, z = o2801 := ⟨_, rfl⟩
            rintro e s ⟨rfl, rfl⟩
            refine reg hP hn hm [] [0, 1, 7, 8] [6] ⟨[(0, .im (.row (a0.map eBucket))), (1, .im (.row (a1.map eBucket))), (7, .own 6), (8, iV .i64 (IntKind.i64.wrap (x2780 + (1 : Int))))], [(6, some (.row 2 54 (x2795.map eBucket)))], 0⟩ [] (by kernel_rfl) trivial ?_
            exact LWp.conv (inv := [(6, 3)]) (vk := []) (e0 := []) (t := ⟨[(0, .im (.row (a0.map eBucket))), (1, .im (.row (a1.map eBucket))), (7, .own 3), (8, iV .i64 (IntKind.i64.wrap (x2780 + (1 : Int))))], [(3, some (.row 2 54 (x2795.map eBucket)))], 0⟩) (by kernel_rfl) (ih _ _ _ H)
        · replace H := (ifF c2781).symm.trans H
          refine AWp.exit ?_
          obtain rfl := Option.some.inj H
          exact Exists.intro _ (And.intro (fun _ _ h => h.conv (inv := [(3, 7)]) (vk := []) (e0 := []) (t := ⟨[(7, .own 7)], [(7, some (.row 2 54 (x2779.map eBucket)))], 0⟩) (by kernel_rfl)) (And.intro rfl rfl))
      · obtain ⟨x2796, rfl⟩ : ∃ z, z = o2799 := ⟨_, rfl⟩
        rintro e s ⟨rfl, rfl⟩
        refine AWp.seq ?_
        refine reg hP hn hm [] [4, 5] [7] ⟨[(4, .own 7), (5, bV true)], [(7, some (.row 2 54 (x2796.map eBucket)))], 0⟩ [] (by kernel_rfl) trivial ?_
        refine AWp.conv (inv := [(7, 0)]) (vk := []) (e0 := []) (t := ⟨[(4, .own 0), (5, bV true)], [(0, some (.row 2 54 (x2796.map eBucket)))], 0⟩) (by kernel_rfl) ?_
        refine AWp.ret ?_
        obtain rfl := Option.some.inj H
        exact Exists.intro _ (And.intro (fun _ _ h => h) (And.intro (.inl rfl) (And.intro rfl (And.intro (by kernel_rfl) (by kernel_rfl)))))
def f_pluvialref07_Sub.f (a0 : THist) (a1 : THist) : Option (THist × Int) := ((if (a1.f5 == (-9223372036854775808)) = true then (some (IntKind.i64.wrap (a1.f5 + (1 : Int)))) else (some a1.f5)) : Option (Int)) >>= fun x2707 => ((if (a1.f5 == (-9223372036854775808)) = true then ((chk (([a0.f5, IntKind.i64.wrap (0 - x2707)].length + [1].length) * 8 ≤ 140737488355328)) >>= fun _ => some ([a0.f5, IntKind.i64.wrap (0 - x2707)] ++ [1])) else (some [a0.f5, IntKind.i64.wrap (0 - x2707)])) : Option (List Int)) >>= fun x2711 => (f_pluvialref01_AddInt.f x2711) >>= fun t2714 => (f_pluvialref07_Alike.f a0 a1) >>= fun t2718 => (f_pluvialref07_off.f ((t2718.1).f6) ((t2718.2).f6)) >>= fun t2805 => (f_pluvialref07_off.f ((t2718.1).f7) ((t2718.2).f7)) >>= fun t2809 => ((if (!t2805.2) = true then (some true) else (if (!t2809.2) = true then (some true) else (some (decide (((t2718.1).f3) < ((t2718.2).f3)))))) : Option (Bool)) >>= fun x2815 => if x2815 = true then (some ((⟨0, 0, 0, 0, 0, 0, [], []⟩ : THist), 21)) else (if (t2714.2 != (0 : Int)) = true then (some ((⟨0, 0, 0, 0, 0, 0, [], []⟩ : THist), 5)) else (some ((⟨(t2718.1).f0, (t2718.1).f1, (t2718.1).f2, IntKind.u64.wrap (((t2718.1).f3) - ((t2718.2).f3)), IntKind.u64.wrap (((t2718.1).f4) - ((t2718.2).f4)), t2714.1, t2805.1, t2809.1⟩ : THist), 0)))
theorem f_pluvialref07_Sub.ok (a0 : THist) (a1 : THist) (r : THist × Int) (H : f_pluvialref07_Sub.f a0 a1 = some r) : Pv.Fn Try.prog 24 [.agg (aHist a0), .agg (aHist a1)] [] 0 (fun x o => x = .tup [.agg [iV .i64 ((r.1).f0), iV .i64 ((r.1).f1), iV .i64 ((r.1).f2), iV .u64 ((r.1).f3), iV .u64 ((r.1).f4), iV .i64 ((r.1).f5), .own 0, .own 1], iV .i64 r.2] ∧ o = [(0, some (.row 2 54 (((r.1).f6).map eBucket))), (1, some (.row 2 54 (((r.1).f7).map eBucket)))]) := by
  unfold f_pluvialref07_Sub.f at H
  refine Fn.bodyK [0, 1] Try.func24 rfl rfl (fun Γ hP hn => ?_)
  have hm : Try.prog.follows .mixedOrders = true := by kernel_rfl
  replace hn : Γ.n = 97 := hn
  refine AWp.seq ?_
  refine reg hP hn hm [(0, .k 0), (1, .k 1), (2, .k 2)] [2, 3, 4] [0, 1, 2] ⟨[(2, .ptr 0 0 0), (3, .ptr 1 0 0), (4, .ptr 2 0 0)], [(0, some (.box 25 (aHist a0))), (1, some (.box 25 (aHist a1))), (2, some (.box 25 [iV .i64 0, iV .i64 0, iV .i64 0, iV .u64 0, iV .u64 0, iV .i64 0, .none0, .none0]))], 0⟩ [] (by kernel_rfl) trivial ?_
  refine AWp.seq ?_
  refine reg hP hn hm [] [2, 3, 4, 6] [0, 1, 2] ⟨[(2, .ptr 0 0 0), (3, .ptr 1 0 0), (4, .ptr 2 0 0), (6, iV .i64 a1.f5)], [(0, some (.box 25 (aHist a0))), (1, some (.box 25 (aHist a1))), (2, some (.box 25 [iV .i64 0, iV .i64 0, iV .i64 0, iV .u64 0, iV .u64 0, iV .i64 0, .none0, .none0]))], 0⟩ [] (by kernel_rfl) trivial ?_
  refine AWp.seq ?_
  refine reg hP hn hm [] [2, 3, 4, 6, 7] [0, 1, 2] ⟨[(2, .ptr 0 0 0), (3, .ptr 1 0 0), (4, .ptr 2 0 0), (6, iV .i64 a1.f5), (7, bV (a1.f5 == (-9223372036854775808)))], [(0, some (.box 25 (aHist a0))), (1, some (.box 25 (aHist a1))), (2, some (.box 25 [iV .i64 0, iV .i64 0, iV .i64 0, iV .u64 0, iV .u64 0, iV .i64 0, .none0, .none0]))], 0⟩ [] (by kernel_rfl) trivial ?_
  refine AWp.seq ?_
  refine AWp.seq ?_
  refine reg hP hn hm [] [2, 3, 4, 6, 7, 20] [0, 1, 2] ⟨[(2, .ptr 0 0 0), (3, .ptr 1 0 0), (4, .ptr 2 0 0), (6, iV .i64 a1.f5), (7, bV (a1.f5 == (-9223372036854775808))), (20, bV (a1.f5 == (-9223372036854775808)))], [(0, some (.box 25 (aHist a0))), (1, some (.box 25 (aHist a1))), (2, some (.box 25 [iV .i64 0, iV .i64 0, iV .i64 0, iV .u64 0, iV .u64 0, iV .i64 0, .none0, .none0]))], 0⟩ [] (by kernel_rfl) trivial ?_
  obtain ⟨o2818, e2819, H⟩ := bind_of H
  refine AWp.mono (Q := fun e s => (match (generalizing := false) o2818 with | x2707 => e = .normal ∧ s = ⟨[(2, .ptr 3 0 0), (3, .ptr 4 0 0), (4, .ptr 5 0 0), (6, iV .i64 x2707), (7, bV (a1.f5 == (-9223372036854775808)))], [(3, some (.box 25 (aHist a0))), (4, some (.box 25 (aHist a1))), (5, some (.box 25 [iV .i64 0, iV .i64 0, iV .i64 0, iV .u64 0, iV .u64 0, iV .i64 0, .none0, .none0]))], 0⟩)) (AWp.cv ?_) ?_
  · replace H := e2819; clear e2819
    refine AWp.cond (a1.f5 == (-9223372036854775808)) rfl (fun c2706 => ?_) (fun c2706 => ?_)
    · replace H := (ifT c2706).symm.trans H
      refine reg hP hn hm [] [2, 3, 4, 6, 7] [0, 1, 2] ⟨[(2, .ptr 0 0 0), (3, .ptr 1 0 0), (4, .ptr 2 0 0), (6, iV .i64 (IntKind.i64.wrap (a1.f5 + (1 : Int)))), (7, bV (a1.f5 == (-9223372036854775808)))], [(0, some (.box 25 (aHist a0))), (1, some (.box 25 (aHist a1))), (2, some (.box 25 [iV .i64 0, iV .i64 0, iV .i64 0, iV .u64 0, iV .u64 0, iV .i64 0, .none0, .none0]))], 0⟩ [] (by kernel_rfl) trivial ?_
      obtain rfl := Option.some.inj H
      exact Exists.intro _ (And.intro (fun _ _ h => h.conv (inv := [(0, 3), (1, 4), (2, 5)]) (vk := []) (e0 := []) (t := ⟨[(2, .ptr 3 0 0), (3, .ptr 4 0 0), (4, .ptr 5 0 0), (6, iV .i64 (IntKind.i64.wrap (a1.f5 + (1 : Int)))), (7, bV (a1.f5 == (-9223372036854775808)))], [(3, some (.box 25 (aHist a0))), (4, some (.box 25 (aHist a1))), (5, some (.box 25 [iV .i64 0, iV .i64 0, iV .i64 0, iV .u64 0, iV .u64 0, iV .i64 0, .none0, .none0]))], 0⟩) (by kernel_rfl)) (And.intro rfl rfl))
    · replace H := (ifF c2706).symm.trans H
      refine AWp.skip ?_
      obtain rfl := Option.some.inj H
      exact Exists.intro _ (And.intro (fun _ _ h => h.conv (inv := [(0, 3), (1, 4), (2, 5)]) (vk := []) (e0 := []) (t := ⟨[(2, .ptr 3 0 0), (3, .ptr 4 0 0), (4, .ptr 5 0 0), (6, iV .i64 a1.f5), (7, bV (a1.f5 == (-9223372036854775808)))], [(3, some (.box 25 (aHist a0))), (4, some (.box 25 (aHist a1))), (5, some (.box 25 [iV .i64 0, iV .i64 0, iV .i64 0, iV .u64 0, iV .u64 0, iV .i64 0, .none0, .none0]))], 0⟩) (by kernel_rfl)) (And.intro rfl rfl))
  · obtain ⟨x2707, rfl⟩ : ∃ z, z = o2818 := ⟨_, rfl⟩
    rintro e s ⟨rfl, rfl⟩
    refine AWp.seq ?_
    refine reg hP hn hm [(4, .app 6 ([a0.f5, IntKind.i64.wrap (0 - x2707)].map (encInt .i64)))] [2, 3, 4, 7, 8] [3, 4, 5, 6] ⟨[(2, .ptr 3 0 0), (3, .ptr 4 0 0), (4, .ptr 5 0 0), (7, bV (a1.f5 == (-9223372036854775808))), (8, .own 6)], [(3, some (.box 25 (aHist a0))), (4, some (.box 25 (aHist a1))), (5, some (.box 25 [iV .i64 0, iV .i64 0, iV .i64 0, iV .u64 0, iV .u64 0, iV .i64 0, .none0, .none0])), (6, some (.row 1 2 ([a0.f5, IntKind.i64.wrap (0 - x2707)].map (encInt .i64))))], 0⟩ [[a0.f5, IntKind.i64.wrap (0 - x2707)].map (encInt .i64) = [[iI .i64 a0.f5], [iI .i64 (IntKind.i64.wrap (0 - x2707))]]] (by kernel_rfl) ⟨by exact rfl, trivial⟩ ?_
    refine AWp.seq ?_
    refine AWp.seq ?_
    refine reg hP hn hm [] [2, 3, 4, 8, 28] [3, 4, 5, 6] ⟨[(2, .ptr 3 0 0), (3, .ptr 4 0 0), (4, .ptr 5 0 0), (8, .own 6), (28, bV (a1.f5 == (-9223372036854775808)))], [(3, some (.box 25 (aHist a0))), (4, some (.box 25 (aHist a1))), (5, some (.box 25 [iV .i64 0, iV .i64 0, iV .i64 0, iV .u64 0, iV .u64 0, iV .i64 0, .none0, .none0])), (6, some (.row 1 2 ([a0.f5, IntKind.i64.wrap (0 - x2707)].map (encInt .i64))))], 0⟩ [] (by kernel_rfl) trivial ?_
    obtain ⟨o2820, e2821, H⟩ := bind_of H
    refine AWp.mono (Q := fun e s => (match (generalizing := false) o2820 with | x2711 => e = .normal ∧ s = ⟨[(2, .ptr 9 0 0), (3, .ptr 10 0 0), (4, .ptr 11 0 0), (8, .own 12)], [(9, some (.box 25 (aHist a0))), (10, some (.box 25 (aHist a1))), (11, some (.box 25 [iV .i64 0, iV .i64 0, iV .i64 0, iV .u64 0, iV .u64 0, iV .i64 0, .none0, .none0])), (12, some (.row 1 2 (x2711.map (encInt .i64))))], 0⟩)) (AWp.cv ?_) ?_
    · replace H := e2821; clear e2821
      refine AWp.cond (a1.f5 == (-9223372036854775808)) rfl (fun c2708 => ?_) (fun c2708 => ?_)
      · replace H := (ifT c2708).symm.trans H
        obtain ⟨c2710, H⟩ := chk_of H
        refine reg hP hn hm [(1, .app 7 ([1].map (encInt .i64))), (2, .app 8 (([a0.f5, IntKind.i64.wrap (0 - x2707)] ++ [1]).map (encInt .i64)))] [2, 3, 4, 8] [3, 4, 5, 8] ⟨[(2, .ptr 3 0 0), (3, .ptr 4 0 0), (4, .ptr 5 0 0), (8, .own 8)], [(3, some (.box 25 (aHist a0))), (4, some (.box 25 (aHist a1))), (5, some (.box 25 [iV .i64 0, iV .i64 0, iV .i64 0, iV .u64 0, iV .u64 0, iV .i64 0, .none0, .none0])), (8, some (.row 1 2 (([a0.f5, IntKind.i64.wrap (0 - x2707)] ++ [1]).map (encInt .i64))))], 0⟩ [[1].map (encInt .i64) = [[iI .i64 1]], ([a0.f5, IntKind.i64.wrap (0 - x2707)] ++ [1]).map (encInt .i64) = ([a0.f5, IntKind.i64.wrap (0 - x2707)].map (encInt .i64)) ++ ([1].map (encInt .i64)), ∀ c ∈ ([1].map (encInt .i64)), c.length = 1, ∀ c ∈ ([1].map (encInt .i64)), leaves (c.map .im) = true, (([a0.f5, IntKind.i64.wrap (0 - x2707)].map (encInt .i64)).length + ([1].map (encInt .i64)).length) * 8 ≤ 140737488355328] (by kernel_rfl) ⟨by exact rfl, by simp, by exact all_len _ _ _ (fun _ => rfl), by exact all_leaf _ _ (fun _ => rfl), by simpa using c2710, trivial⟩ ?_
        obtain rfl := Option.some.inj H
        exact Exists.intro _ (And.intro (fun _ _ h => h.conv (inv := [(3, 9), (4, 10), (5, 11), (8, 12)]) (vk := []) (e0 := []) (t := ⟨[(2, .ptr 9 0 0), (3, .ptr 10 0 0), (4, .ptr 11 0 0), (8, .own 12)], [(9, some (.box 25 (aHist a0))), (10, some (.box 25 (aHist a1))), (11, some (.box 25 [iV .i64 0, iV .i64 0, iV .i64 0, iV .u64 0, iV .u64 0, iV .i64 0, .none0, .none0])), (12, some (.row 1 2 (([a0.f5, IntKind.i64.wrap (0 - x2707)] ++ [1]).map (encInt .i64))))], 0⟩) (by kernel_rfl)) (And.intro rfl rfl))
      · replace H := (ifF c2708).symm.trans H
        refine AWp.skip ?_
        obtain rfl := Option.some.inj H
        exact Exists.intro _ (And.intro (fun _ _ h => h.conv (inv := [(3, 9), (4, 10), (5, 11), (6, 12)]) (vk := []) (e0 := []) (t := ⟨[(2, .ptr 9 0 0), (3, .ptr 10 0 0), (4, .ptr 11 0 0), (8, .own 12)], [(9, some (.box 25 (aHist a0))), (10, some (.box 25 (aHist a1))), (11, some (.box 25 [iV .i64 0, iV .i64 0, iV .i64 0, iV .u64 0, iV .u64 0, iV .i64 0, .none0, .none0])), (12, some (.row 1 2 ([a0.f5, IntKind.i64.wrap (0 - x2707)].map (encInt .i64))))], 0⟩) (by kernel_rfl)) (And.intro rfl rfl))
    · obtain ⟨x2711, rfl⟩ : ∃ z, z = o2820 := ⟨_, rfl⟩
      rintro e s ⟨rfl, rfl⟩
      refine AWp.seq ?_
      obtain ⟨t2714, e2715, H⟩ := bind_of H
      refine reg hP hn hm [(1, .call [] [] [12] [] 0 (.tup [iV .i64 t2714.1, iV .i64 t2714.2]) [])] [2, 3, 4, 9, 10] [9, 10, 11] ⟨[(2, .ptr 9 0 0), (3, .ptr 10 0 0), (4, .ptr 11 0 0), (9, iV .i64 t2714.1), (10, iV .i64 t2714.2)], [(9, some (.box 25 (aHist a0))), (10, some (.box 25 (aHist a1))), (11, some (.box 25 [iV .i64 0, iV .i64 0, iV .i64 0, iV .u64 0, iV .u64 0, iV .i64 0, .none0, .none0]))], 0⟩ [Enters Try.prog 46, Pv.Fn Try.prog 46 [.im (.row (x2711.map (encInt .i64)))] [] 0 (fun r o => r = .tup [iV .i64 t2714.1, iV .i64 t2714.2] ∧ o = [])] (by kernel_rfl) ⟨by exact Try.call46, by exact f_pluvialref01_AddInt.ok x2711 t2714 e2715, trivial⟩ ?_
      refine AWp.seq ?_
      obtain ⟨t2718, e2719, H⟩ := bind_of H
      refine reg hP hn hm [(2, .call [] [] [] [] 0 (.tup [.agg (aHist (t2718.1)), .agg (aHist (t2718.2))]) [])] [2, 3, 4, 9, 10] [9, 10, 11] ⟨[(2, .ptr 9 0 0), (3, .ptr 10 0 0), (4, .ptr 11 0 0), (9, iV .i64 t2714.1), (10, iV .i64 t2714.2)], [(9, some (.box 25 (aHist (t2718.1)))), (10, some (.box 25 (aHist (t2718.2)))), (11, some (.box 25 [iV .i64 0, iV .i64 0, iV .i64 0, iV .u64 0, iV .u64 0, iV .i64 0, .none0, .none0]))], 0⟩ [Enters Try.prog 20, Pv.Fn Try.prog 20 [.agg (aHist a0), .agg (aHist a1)] [] 0 (fun r o => r = .tup [.agg (aHist (t2718.1)), .agg (aHist (t2718.2))] ∧ o = [])] (by kernel_rfl) ⟨by exact Try.call20, by exact f_pluvialref07_Alike.ok a0 a1 t2718 e2719, trivial⟩ ?_
      refine AWp.seq ?_
      obtain ⟨t2805, e2806, H⟩ := bind_of H
      refine reg hP hn hm [(4, .call [] [(0, 13)] [] [13] 0 (.tup [.own 0, bV t2805.2]) [(0, some (.row 2 54 (t2805.1.map eBucket)))])] [2, 3, 4, 9, 10, 11, 12] [9, 10, 11, 13] ⟨[(2, .ptr 9 0 0), (3, .ptr 10 0 0), (4, .ptr 11 0 0), (9, iV .i64 t2714.1), (10, iV .i64 t2714.2), (11, .own 13), (12, bV t2805.2)], [(9, some (.box 25 (aHist (t2718.1)))), (10, some (.box 25 (aHist (t2718.2)))), (11, some (.box 25 [iV .i64 0, iV .i64 0, iV .i64 0, iV .u64 0, iV .u64 0, iV .i64 0, .none0, .none0])), (13, some (.row 2 54 (t2805.1.map eBucket)))], 0⟩ [Enters Try.prog 52, Pv.Fn Try.prog 52 [.im (.row (((t2718.1).f6).map eBucket)), .im (.row (((t2718.2).f6).map eBucket))] [] 0 (fun r o => r = .tup [.own 0, bV t2805.2] ∧ o = [(0, some (.row 2 54 (t2805.1.map eBucket)))])] (by kernel_rfl) ⟨by exact Try.call52, by exact f_pluvialref07_off.ok ((t2718.1).f6) ((t2718.2).f6) t2805 e2806, trivial⟩ ?_
      refine AWp.seq ?_
      obtain ⟨t2809, e2810, H⟩ := bind_of H
      refine reg hP hn hm [(4, .call [] [(0, 14)] [] [14] 0 (.tup [.own 0, bV t2809.2]) [(0, some (.row 2 54 (t2809.1.map eBucket)))])] [2, 3, 4, 9, 10, 11, 12, 13, 14] [9, 10, 11, 13, 14] ⟨[(2, .ptr 9 0 0), (3, .ptr 10 0 0), (4, .ptr 11 0 0), (9, iV .i64 t2714.1), (10, iV .i64 t2714.2), (11, .own 13), (12, bV t2805.2), (13, .own 14), (14, bV t2809.2)], [(9, some (.box 25 (aHist (t2718.1)))), (10, some (.box 25 (aHist (t2718.2)))), (11, some (.box 25 [iV .i64 0, iV .i64 0, iV .i64 0, iV .u64 0, iV .u64 0, iV .i64 0, .none0, .none0])), (13, some (.row 2 54 (t2805.1.map eBucket))), (14, some (.row 2 54 (t2809.1.map eBucket)))], 0⟩ [Enters Try.prog 52, Pv.Fn Try.prog 52 [.im (.row (((t2718.1).f7).map eBucket)), .im (.row (((t2718.2).f7).map eBucket))] [] 0 (fun r o => r = .tup [.own 0, bV t2809.2] ∧ o = [(0, some (.row 2 54 (t2809.1.map eBucket)))])] (by kernel_rfl) ⟨by exact Try.call52, by exact f_pluvialref07_off.ok ((t2718.1).f7) ((t2718.2).f7) t2809 e2810, trivial⟩ ?_
      refine AWp.seq ?_
      refine AWp.seq ?_
      obtain ⟨o2822, e2823, H⟩ := bind_of H
      refine AWp.mono (Q := fun e s => (match (generalizing := false) o2822 with | x2815 => e = .normal ∧ s = ⟨[(2, .ptr 15 0 0), (3, .ptr 16 0 0), (4, .ptr 17 0 0), (9, iV .i64 t2714.1), (10, iV .i64 t2714.2), (11, .own 18), (13, .own 19), (71, bV x2815)], [(15, some (.box 25 (aHist (t2718.1)))), (16, some (.box 25 (aHist (t2718.2)))), (17, some (.box 25 [iV .i64 0, iV .i64 0, iV .i64 0, iV .u64 0, iV .u64 0, iV .i64 0, .none0, .none0])), (18, some (.row 2 54 (t2805.1.map eBucket))), (19, some (.row 2 54 (t2809.1.map eBucket)))], 0⟩)) (AWp.cv ?_) ?_
      · replace H := e2823; clear e2823
        rcases Bool.eq_false_or_eq_true (!t2805.2) with c2813 | c2813
        · replace H := (ifT c2813).symm.trans H
          refine reg hP hn hm [(2, .b true)] [2, 3, 4, 9, 10, 11, 13, 71] [9, 10, 11, 13, 14] ⟨[(2, .ptr 9 0 0), (3, .ptr 10 0 0), (4, .ptr 11 0 0), (9, iV .i64 t2714.1), (10, iV .i64 t2714.2), (11, .own 13), (13, .own 14), (71, bV true)], [(9, some (.box 25 (aHist (t2718.1)))), (10, some (.box 25 (aHist (t2718.2)))), (11, some (.box 25 [iV .i64 0, iV .i64 0, iV .i64 0, iV .u64 0, iV .u64 0, iV .i64 0, .none0, .none0])), (13, some (.row 2 54 (t2805.1.map eBucket))), (14, some (.row 2 54 (t2809.1.map eBucket)))], 0⟩ [(!t2805.2) = true] (by kernel_rfl) ⟨by exact c2813, trivial⟩ ?_
          obtain rfl := Option.some.inj H
          exact Exists.intro _ (And.intro (fun _ _ h => h.conv (inv := [(9, 15), (10, 16), (11, 17), (13, 18), (14, 19)]) (vk := []) (e0 := []) (t := ⟨[(2, .ptr 15 0 0), (3, .ptr 16 0 0), (4, .ptr 17 0 0), (9, iV .i64 t2714.1), (10, iV .i64 t2714.2), (11, .own 18), (13, .own 19), (71, bV true)], [(15, some (.box 25 (aHist (t2718.1)))), (16, some (.box 25 (aHist (t2718.2)))), (17, some (.box 25 [iV .i64 0, iV .i64 0, iV .i64 0, iV .u64 0, iV .u64 0, iV .i64 0, .none0, .none0])), (18, some (.row 2 54 (t2805.1.map eBucket))), (19, some (.row 2 54 (t2809.1.map eBucket)))], 0⟩) (by kernel_rfl)) (And.intro rfl rfl))
        · replace H := (ifF c2813).symm.trans H
          rcases Bool.eq_false_or_eq_true (!t2809.2) with c2814 | c2814
          · replace H := (ifT c2814).symm.trans H
            refine reg hP hn hm [(2, .b false), (6, .b true)] [2, 3, 4, 9, 10, 11, 13, 71] [9, 10, 11, 13, 14] ⟨[(2, .ptr 9 0 0), (3, .ptr 10 0 0), (4, .ptr 11 0 0), (9, iV .i64 t2714.1), (10, iV .i64 t2714.2), (11, .own 13), (13, .own 14), (71, bV true)], [(9, some (.box 25 (aHist (t2718.1)))), (10, some (.box 25 (aHist (t2718.2)))), (11, some (.box 25 [iV .i64 0, iV .i64 0, iV .i64 0, iV .u64 0, iV .u64 0, iV .i64 0, .none0, .none0])), (13, some (.row 2 54 (t2805.1.map eBucket))), (14, some (.row 2 54 (t2809.1.map eBucket)))], 0⟩ [(!t2805.2) = false, (!t2809.2) = true] (by kernel_rfl) ⟨by exact c2813, by exact c2814, trivial⟩ ?_
            obtain rfl := Option.some.inj H
            exact Exists.intro _ (And.intro (fun _ _ h => h.conv (inv := [(9, 15), (10, 16), (11, 17), (13, 18), (14, 19)]) (vk := []) (e0 := []) (t := ⟨[(2, .ptr 15 0 0), (3, .ptr 16 0 0), (4, .ptr 17 0 0), (9, iV .i64 t2714.1), (10, iV .i64 t2714.2), (11, .own 18), (13, .own 19), (71, bV true)], [(15, some (.box 25 (aHist (t2718.1)))), (16, some (.box 25 (aHist (t2718.2)))), (17, some (.box 25 [iV .i64 0, iV .i64 0, iV .i64 0, iV .u64 0, iV .u64 0, iV .i64 0, .none0, .none0])), (18, some (.row 2 54 (t2805.1.map eBucket))), (19, some (.row 2 54 (t2809.1.map eBucket)))], 0⟩) (by kernel_rfl)) (And.intro rfl rfl))
          · replace H := (ifF c2814).symm.trans H
            refine reg hP hn hm [(2, .b false), (6, .b false)] [2, 3, 4, 9, 10, 11, 13, 71] [9, 10, 11, 13, 14] ⟨[(2, .ptr 9 0 0), (3, .ptr 10 0 0), (4, .ptr 11 0 0), (9, iV .i64 t2714.1), (10, iV .i64 t2714.2), (11, .own 13), (13, .own 14), (71, bV (decide (((t2718.1).f3) < ((t2718.2).f3))))], [(9, some (.box 25 (aHist (t2718.1)))), (10, some (.box 25 (aHist (t2718.2)))), (11, some (.box 25 [iV .i64 0, iV .i64 0, iV .i64 0, iV .u64 0, iV .u64 0, iV .i64 0, .none0, .none0])), (13, some (.row 2 54 (t2805.1.map eBucket))), (14, some (.row 2 54 (t2809.1.map eBucket)))], 0⟩ [(!t2805.2) = false, (!t2809.2) = false] (by kernel_rfl) ⟨by exact c2813, by exact c2814, trivial⟩ ?_
            obtain rfl := Option.some.inj H
            exact Exists.intro _ (And.intro (fun _ _ h => h.conv (inv := [(9, 15), (10, 16), (11, 17), (13, 18), (14, 19)]) (vk := []) (e0 := []) (t := ⟨[(2, .ptr 15 0 0), (3, .ptr 16 0 0), (4, .ptr 17 0 0), (9, iV .i64 t2714.1), (10, iV .i64 t2714.2), (11, .own 18), (13, .own 19), (71, bV (decide (((t2718.1).f3) < ((t2718.2).f3))))], [(15, some (.box 25 (aHist (t2718.1)))), (16, some (.box 25 (aHist (t2718.2)))), (17, some (.box 25 [iV .i64 0, iV .i64 0, iV .i64 0, iV .u64 0, iV .u64 0, iV .i64 0, .none0, .none0])), (18, some (.row 2 54 (t2805.1.map eBucket))), (19, some (.row 2 54 (t2809.1.map eBucket)))], 0⟩) (by kernel_rfl)) (And.intro rfl rfl))
      · obtain ⟨x2815, rfl⟩ : ∃ z, z = o2822 := ⟨_, rfl⟩
        rintro e s ⟨rfl, rfl⟩
        refine AWp.cond x2815 rfl (fun c2816 => ?_) (fun c2816 => ?_)
        · replace H := (ifT c2816).symm.trans H
          refine AWp.seq ?_
          refine reg hP hn hm [] [4, 5] [17] ⟨[(4, .ptr 17 0 0), (5, iV .i64 21)], [(17, some (.box 25 [iV .i64 0, iV .i64 0, iV .i64 0, iV .u64 0, iV .u64 0, iV .i64 0, .none0, .none0]))], 0⟩ [] (by kernel_rfl) trivial ?_
          refine AWp.conv (inv := [(17, 2)]) (vk := []) (e0 := [0, 1]) (t := ⟨[(4, .ptr 2 0 0), (5, iV .i64 21)], [(0, some (.row 2 54 ((((⟨0, 0, 0, 0, 0, 0, [], []⟩ : THist)).f6).map eBucket))), (1, some (.row 2 54 ((((⟨0, 0, 0, 0, 0, 0, [], []⟩ : THist)).f7).map eBucket))), (2, some (.box 25 [iV .i64 (((⟨0, 0, 0, 0, 0, 0, [], []⟩ : THist)).f0), iV .i64 (((⟨0, 0, 0, 0, 0, 0, [], []⟩ : THist)).f1), iV .i64 (((⟨0, 0, 0, 0, 0, 0, [], []⟩ : THist)).f2), iV .u64 (((⟨0, 0, 0, 0, 0, 0, [], []⟩ : THist)).f3), iV .u64 (((⟨0, 0, 0, 0, 0, 0, [], []⟩ : THist)).f4), iV .i64 (((⟨0, 0, 0, 0, 0, 0, [], []⟩ : THist)).f5), .own 0, .own 1]))], 0⟩) (by kernel_rfl) ?_
          refine AWp.ret ?_
          obtain rfl := Option.some.inj H
          exact Exists.intro _ (And.intro (fun _ _ h => h) (And.intro (.inl rfl) (And.intro rfl (And.intro (by kernel_rfl) (by kernel_rfl)))))
        · replace H := (ifF c2816).symm.trans H
          refine AWp.skip ?_
          refine AWp.seq ?_
          refine AWp.seq ?_
          refine reg hP hn hm [] [2, 3, 4, 9, 11, 13, 74] [15, 16, 17, 18, 19] ⟨[(2, .ptr 15 0 0), (3, .ptr 16 0 0), (4, .ptr 17 0 0), (9, iV .i64 t2714.1), (11, .own 18), (13, .own 19), (74, bV (t2714.2 != (0 : Int)))], [(15, some (.box 25 (aHist (t2718.1)))), (16, some (.box 25 (aHist (t2718.2)))), (17, some (.box 25 [iV .i64 0, iV .i64 0, iV .i64 0, iV .u64 0, iV .u64 0, iV .i64 0, .none0, .none0])), (18, some (.row 2 54 (t2805.1.map eBucket))), (19, some (.row 2 54 (t2809.1.map eBucket)))], 0⟩ [] (by kernel_rfl) trivial ?_
          refine AWp.cond (t2714.2 != (0 : Int)) rfl (fun c2817 => ?_) (fun c2817 => ?_)
          · replace H := (ifT c2817).symm.trans H
            refine AWp.seq ?_
            refine reg hP hn hm [] [4, 5] [17] ⟨[(4, .ptr 17 0 0), (5, iV .i64 5)], [(17, some (.box 25 [iV .i64 0, iV .i64 0, iV .i64 0, iV .u64 0, iV .u64 0, iV .i64 0, .none0, .none0]))], 0⟩ [] (by kernel_rfl) trivial ?_
            refine AWp.conv (inv := [(17, 2)]) (vk := []) (e0 := [0, 1]) (t := ⟨[(4, .ptr 2 0 0), (5, iV .i64 5)], [(0, some (.row 2 54 ((((⟨0, 0, 0, 0, 0, 0, [], []⟩ : THist)).f6).map eBucket))), (1, some (.row 2 54 ((((⟨0, 0, 0, 0, 0, 0, [], []⟩ : THist)).f7).map eBucket))), (2, some (.box 25 [iV .i64 (((⟨0, 0, 0, 0, 0, 0, [], []⟩ : THist)).f0), iV .i64 (((⟨0, 0, 0, 0, 0, 0, [], []⟩ : THist)).f1), iV .i64 (((⟨0, 0, 0, 0, 0, 0, [], []⟩ : THist)).f2), iV .u64 (((⟨0, 0, 0, 0, 0, 0, [], []⟩ : THist)).f3), iV .u64 (((⟨0, 0, 0, 0, 0, 0, [], []⟩ : THist)).f4), iV .i64 (((⟨0, 0, 0, 0, 0, 0, [], []⟩ : THist)).f5), .own 0, .own 1]))], 0⟩) (by kernel_rfl) ?_
            refine AWp.ret ?_
            obtain rfl := Option.some.inj H
            exact Exists.intro _ (And.intro (fun _ _ h => h) (And.intro (.inl rfl) (And.intro rfl (And.intro (by kernel_rfl) (by kernel_rfl)))))
          · replace H := (ifF c2817).symm.trans H
            refine AWp.skip ?_
            refine AWp.seq ?_
            refine reg hP hn hm [(20, .k 20)] [4, 15] [17, 18, 19, 20] ⟨[(4, .ptr 17 0 0), (15, .ptr 20 0 0)], [(17, some (.box 25 [iV .i64 0, iV .i64 0, iV .i64 0, iV .u64 0, iV .u64 0, iV .i64 0, .none0, .none0])), (18, some (.row 2 54 (t2805.1.map eBucket))), (19, some (.row 2 54 (t2809.1.map eBucket))), (20, some (.box 25 [iV .i64 ((t2718.1).f0), iV .i64 ((t2718.1).f1), iV .i64 ((t2718.1).f2), iV .u64 (IntKind.u64.wrap (((t2718.1).f3) - ((t2718.2).f3))), iV .u64 (IntKind.u64.wrap (((t2718.1).f4) - ((t2718.2).f4))), iV .i64 t2714.1, .own 18, .own 19]))], 0⟩ [] (by kernel_rfl) trivial ?_
            refine AWp.seq ?_
            refine reg hP hn hm [] [4, 5] [17, 18, 19] ⟨[(4, .ptr 17 0 0), (5, iV .i64 0)], [(17, some (.box 25 [iV .i64 ((t2718.1).f0), iV .i64 ((t2718.1).f1), iV .i64 ((t2718.1).f2), iV .u64 (IntKind.u64.wrap (((t2718.1).f3) - ((t2718.2).f3))), iV .u64 (IntKind.u64.wrap (((t2718.1).f4) - ((t2718.2).f4))), iV .i64 t2714.1, .own 18, .own 19])), (18, some (.row 2 54 (t2805.1.map eBucket))), (19, some (.row 2 54 (t2809.1.map eBucket)))], 0⟩ [] (by kernel_rfl) trivial ?_
            refine AWp.conv (inv := [(17, 2), (18, 0), (19, 1)]) (vk := []) (e0 := []) (t := ⟨[(4, .ptr 2 0 0), (5, iV .i64 0)], [(0, some (.row 2 54 ((((⟨(t2718.1).f0, (t2718.1).f1, (t2718.1).f2, IntKind.u64.wrap (((t2718.1).f3) - ((t2718.2).f3)), IntKind.u64.wrap (((t2718.1).f4) - ((t2718.2).f4)), t2714.1, t2805.1, t2809.1⟩ : THist)).f6).map eBucket))), (1, some (.row 2 54 ((((⟨(t2718.1).f0, (t2718.1).f1, (t2718.1).f2, IntKind.u64.wrap (((t2718.1).f3) - ((t2718.2).f3)), IntKind.u64.wrap (((t2718.1).f4) - ((t2718.2).f4)), t2714.1, t2805.1, t2809.1⟩ : THist)).f7).map eBucket))), (2, some (.box 25 [iV .i64 (((⟨(t2718.1).f0, (t2718.1).f1, (t2718.1).f2, IntKind.u64.wrap (((t2718.1).f3) - ((t2718.2).f3)), IntKind.u64.wrap (((t2718.1).f4) - ((t2718.2).f4)), t2714.1, t2805.1, t2809.1⟩ : THist)).f0), iV .i64 (((⟨(t2718.1).f0, (t2718.1).f1, (t2718.1).f2, IntKind.u64.wrap (((t2718.1).f3) - ((t2718.2).f3)), IntKind.u64.wrap (((t2718.1).f4) - ((t2718.2).f4)), t2714.1, t2805.1, t2809.1⟩ : THist)).f1), iV .i64 (((⟨(t2718.1).f0, (t2718.1).f1, (t2718.1).f2, IntKind.u64.wrap (((t2718.1).f3) - ((t2718.2).f3)), IntKind.u64.wrap (((t2718.1).f4) - ((t2718.2).f4)), t2714.1, t2805.1, t2809.1⟩ : THist)).f2), iV .u64 (((⟨(t2718.1).f0, (t2718.1).f1, (t2718.1).f2, IntKind.u64.wrap (((t2718.1).f3) - ((t2718.2).f3)), IntKind.u64.wrap (((t2718.1).f4) - ((t2718.2).f4)), t2714.1, t2805.1, t2809.1⟩ : THist)).f3), iV .u64 (((⟨(t2718.1).f0, (t2718.1).f1, (t2718.1).f2, IntKind.u64.wrap (((t2718.1).f3) - ((t2718.2).f3)), IntKind.u64.wrap (((t2718.1).f4) - ((t2718.2).f4)), t2714.1, t2805.1, t2809.1⟩ : THist)).f4), iV .i64 (((⟨(t2718.1).f0, (t2718.1).f1, (t2718.1).f2, IntKind.u64.wrap (((t2718.1).f3) - ((t2718.2).f3)), IntKind.u64.wrap (((t2718.1).f4) - ((t2718.2).f4)), t2714.1, t2805.1, t2809.1⟩ : THist)).f5), .own 0, .own 1]))], 0⟩) (by kernel_rfl) ?_
            refine AWp.ret ?_
            obtain rfl := Option.some.inj H
            exact Exists.intro _ (And.intro (fun _ _ h => h) (And.intro (.inl rfl) (And.intro rfl (And.intro (by kernel_rfl) (by kernel_rfl)))))
def f_meld_Reset.f (a0 : THist) (a1 : THist) : Option (Bool) := (f_meld_Sub.f a1 a0) >>= fun t2837 => some (t2837.2 == (21 : Int))
theorem f_meld_Reset.ok (a0 : THist) (a1 : THist) (r : Bool) (H : f_meld_Reset.f a0 a1 = some r) : Pv.Fn Try.prog 25 [.agg (aHist a0), .agg (aHist a1)] [] 0 (fun x o => x = bV r ∧ o = []) := by
  unfold f_meld_Reset.f at H
  refine Fn.bodyK [] Try.func25 rfl rfl (fun Γ hP hn => ?_)
  have hm : Try.prog.follows .mixedOrders = true := by kernel_rfl
  replace hn : Γ.n = 15 := hn
  refine AWp.seq ?_
  refine reg hP hn hm [(0, .k 0), (1, .k 1)] [2, 3] [0, 1] ⟨[(2, .ptr 0 0 0), (3, .ptr 1 0 0)], [(0, some (.box 25 (aHist a0))), (1, some (.box 25 (aHist a1)))], 0⟩ [] (by kernel_rfl) trivial ?_
  refine AWp.seq ?_
  obtain ⟨t2837, e2838, H⟩ := bind_of H
  refine reg hP hn hm [(2, .call [] [] [] [] 0 (.tup [.agg (aHist (t2837.1)), iV .i64 t2837.2]) []), (6, .k 2)] [6] [] ⟨[(6, iV .i64 t2837.2)], [], 0⟩ [Enters Try.prog 23, Pv.Fn Try.prog 23 [.agg (aHist a1), .agg (aHist a0)] [] 0 (fun r o => r = .tup [.agg (aHist (t2837.1)), iV .i64 t2837.2] ∧ o = [])] (by kernel_rfl) ⟨by exact Try.call23, by exact f_meld_Sub.ok a1 a0 t2837 e2838, trivial⟩ ?_
  refine AWp.seq ?_
  refine reg hP hn hm [] [4] [] ⟨[(4, bV (t2837.2 == (21 : Int)))], [], 0⟩ [] (by kernel_rfl) trivial ?_
  refine AWp.conv (inv := []) (vk := []) (e0 := []) (t := ⟨[(4, bV (t2837.2 == (21 : Int)))], [], 0⟩) (by kernel_rfl) ?_
  refine AWp.ret ?_
  obtain rfl := Option.some.inj H
  exact Exists.intro _ (And.intro (fun _ _ h => h) (And.intro (.inl rfl) (And.intro rfl (And.intro (by kernel_rfl) (by kernel_rfl)))))
def f_meld_Rise.l0 (a0 : List THist) (x3028 : Int) : Option ((THist × Int) ⊕ Unit) := if (decide (x3028 < (a0.length : Int))) = true then ((at? a0 x3028) >>= fun b3033 => if (b3033.f0 != (0 : Int)) = true then (some (.inl ((⟨0, 0, 0, 0, 0, 0, [], []⟩ : THist), 25))) else (f_meld_Rise.l0 a0 (IntKind.i64.wrap (x3028 + (1 : Int))))) else (some (.inr ()))
partial_fixpoint
def f_meld_Rise.l1 (a0 : List THist) (v : Int × Int × Int × Int × Int × Int × (List TBucket) × (List TBucket) × Int) : Option ((THist × Int) ⊕ (Int × Int × Int × Int × Int × Int × (List TBucket) × (List TBucket))) := match v with
  | (x3093, x3094, x3095, x3096, x3097, x3098, x3099, x3100, x3101) => if (decide (x3101 < (a0.length : Int))) = true then ((at? a0 x3101) >>= fun b3111 => (at? a0 (IntKind.i64.wrap (x3101 - (1 : Int)))) >>= fun b3114 => (f_meld_Sub.f b3111 b3114) >>= fun t3117 => ((if (t3117.2 == (21 : Int)) = true then ((f_hist_Clone.f b3111) >>= fun t3122 => some ((t3122).f0, (t3122).f1, (t3122).f2, (t3122).f3, (t3122).f4, (t3122).f5, (t3122).f6, (t3122).f7, 0)) else (some ((t3117.1).f0, (t3117.1).f1, (t3117.1).f2, (t3117.1).f3, (t3117.1).f4, (t3117.1).f5, (t3117.1).f6, (t3117.1).f7, t3117.2))) : Option (Int × Int × Int × Int × Int × Int × (List TBucket) × (List TBucket) × Int)) >>= fun oo => match oo with | (x3124, x3125, x3126, x3127, x3128, x3129, x3130, x3131, x3132) => (((if (x3132 == (0 : Int)) = true then ((f_meld_Add.f (⟨x3093, x3094, x3095, x3096, x3097, x3098, x3099, x3100⟩ : THist) (⟨x3124, x3125, x3126, x3127, x3128, x3129, x3130, x3131⟩ : THist)) >>= fun t3136 => some ((t3136.1).f0, (t3136.1).f1, (t3136.1).f2, (t3136.1).f3, (t3136.1).f4, (t3136.1).f5, (t3136.1).f6, (t3136.1).f7, t3136.2)) else (some (x3093, x3094, x3095, x3096, x3097, x3098, x3099, x3100, x3132))) : Option (Int × Int × Int × Int × Int × Int × (List TBucket) × (List TBucket) × Int)) >>= fun oo => match oo with | (x3138, x3139, x3140, x3141, x3142, x3143, x3144, x3145, x3146) => (if (x3146 != (0 : Int)) = true then (some (.inl ((⟨0, 0, 0, 0, 0, 0, [], []⟩ : THist), x3146))) else (f_meld_Rise.l1 a0 (x3138, x3139, x3140, x3141, x3142, x3143, x3144, x3145, IntKind.i64.wrap (x3101 + (1 : Int))))))) else (some (.inr (x3093, x3094, x3095, x3096, x3097, x3098, x3099, x3100)))
partial_fixpoint
def f_meld_Rise.f (a0 : List THist) : Option (THist × Int) := if (decide ((a0.length : Int) < (2 : Int))) = true then (some ((⟨0, 0, 0, 0, 0, 0, [], []⟩ : THist), 30)) else ((f_meld_Rise.l0 a0 0) >>= fun oo => match oo with | .inl rr => (some rr) | .inr _ => ((at? a0 0) >>= fun b3042 => (f_hist_Empty.f 0 b3042.f1) >>= fun t3045 => (f_meld_Rise.l1 a0 ((t3045).f0, (t3045).f1, (t3045).f2, (t3045).f3, (t3045).f4, (t3045).f5, (t3045).f6, (t3045).f7, 1)) >>= fun oo => match oo with | .inl rr => (some rr) | .inr (x3148, x3149, x3150, x3151, x3152, x3153, x3154, x3155) => (some ((⟨x3148, x3149, x3150, x3151, x3152, x3153, x3154, x3155⟩ : THist), 0))))
theorem f_meld_Rise.ok (a0 : List THist) (r : THist × Int) (H : f_meld_Rise.f a0 = some r) : Pv.Fn Try.prog 27 [.im (.row (a0.map eHist))] [] 0 (fun x o => x = .tup [.agg (aHist (r.1)), iV .i64 r.2] ∧ o = []) := by
  unfold f_meld_Rise.f at H
  refine Fn.bodyK [] Try.func27 rfl rfl (fun Γ hP hn => ?_)
  have hm : Try.prog.follows .mixedOrders = true := by kernel_rfl
  replace hn : Γ.n = 69 := hn
  refine AWp.seq ?_
  refine reg hP hn hm [(0, .k 0)] [0, 2] [0] ⟨[(0, .im (.row (a0.map eHist))), (2, .ptr 0 0 0)], [(0, some (.box 25 [iV .i64 0, iV .i64 0, iV .i64 0, iV .u64 0, iV .u64 0, iV .i64 0, .none0, .none0]))], 0⟩ [] (by kernel_rfl) trivial ?_
  refine AWp.seq ?_
  refine AWp.seq ?_
  refine reg hP hn hm [(1, .any (iV .i64 (a0.length : Int)))] [0, 2, 12] [0] ⟨[(0, .im (.row (a0.map eHist))), (2, .ptr 0 0 0), (12, bV (decide ((a0.length : Int) < (2 : Int))))], [(0, some (.box 25 [iV .i64 0, iV .i64 0, iV .i64 0, iV .u64 0, iV .u64 0, iV .i64 0, .none0, .none0]))], 0⟩ [((a0.map eHist).length : Int) = (a0.length : Int)] (by kernel_rfl) ⟨by rw [len_map], trivial⟩ ?_
  refine AWp.cond (decide ((a0.length : Int) < (2 : Int))) rfl (fun c3019 => ?_) (fun c3019 => ?_)
  · replace H := (ifT c3019).symm.trans H
    refine AWp.seq ?_
    refine reg hP hn hm [] [2, 3] [0] ⟨[(2, .ptr 0 0 0), (3, iV .i64 30)], [(0, some (.box 25 [iV .i64 0, iV .i64 0, iV .i64 0, iV .u64 0, iV .u64 0, iV .i64 0, .none0, .none0]))], 0⟩ [] (by kernel_rfl) trivial ?_
    refine AWp.conv (inv := [(0, 0)]) (vk := []) (e0 := []) (t := ⟨[(2, .ptr 0 0 0), (3, iV .i64 30)], [(0, some (.box 25 (aHist ((⟨0, 0, 0, 0, 0, 0, [], []⟩ : THist)))))], 0⟩) (by kernel_rfl) ?_
    refine AWp.ret ?_
    obtain rfl := Option.some.inj H
    exact Exists.intro _ (And.intro (fun _ _ h => h) (And.intro (.inl rfl) (And.intro rfl (And.intro (by kernel_rfl) (by kernel_rfl)))))
  · replace H := (ifF c3019).symm.trans H
    refine AWp.skip ?_
    refine AWp.seq ?_
    refine AWp.seq ?_
    refine reg hP hn hm [(1, .any (iV .i64 (a0.length : Int)))] [0, 2, 14, 15, 16] [0] ⟨[(0, .im (.row (a0.map eHist))), (2, .ptr 0 0 0), (14, .im (.row (a0.map eHist))), (15, iV .i64 (a0.length : Int)), (16, iV .i64 0)], [(0, some (.box 25 [iV .i64 0, iV .i64 0, iV .i64 0, iV .u64 0, iV .u64 0, iV .i64 0, .none0, .none0]))], 0⟩ [((a0.map eHist).length : Int) = (a0.length : Int)] (by kernel_rfl) ⟨by rw [len_map], trivial⟩ ?_
    refine AWp.block ?_
    obtain ⟨o3156, e3157, H⟩ := bind_of H
    refine AWp.loop (LWp.conv (inv := [(0, 2)]) (vk := []) (e0 := []) (t := ⟨[(0, .im (.row (a0.map eHist))), (2, .ptr 2 0 0), (14, .im (.row (a0.map eHist))), (15, iV .i64 (a0.length : Int)), (16, iV .i64 0)], [(2, some (.box 25 [iV .i64 0, iV .i64 0, iV .i64 0, iV .u64 0, iV .u64 0, iV .i64 0, .none0, .none0]))], 0⟩) (by kernel_rfl) ?_)
    refine LWp.mono (Q := fun e s => (match (generalizing := false) o3156 with | .inl rr => e = .ret ∧ s.floor = 0 ∧ resOf Try.prog Try.f27 s = some (.tup [.agg (aHist (rr.1)), iV .i64 rr.2]) ∧ ([] : List (Nat × Option MObj)) = [] | .inr _ => e = .exit 0 ∧ s = ⟨[(0, .im (.row (a0.map eHist))), (2, .ptr 4 0 0)], [(4, some (.box 25 [iV .i64 0, iV .i64 0, iV .i64 0, iV .u64 0, iV .u64 0, iV .i64 0, .none0, .none0]))], 0⟩)) (LWp.cv (withBody (fun body hbody => ?_))) ?_
    · refine f_meld_Rise.l0.partial_correctness a0 (motive := fun x3028 o3156 => LWp Γ body (fun e s => ∃ t, Cv Γ s t ∧ (match (generalizing := false) o3156 with | .inl rr => e = .ret ∧ t.floor = 0 ∧ resOf Try.prog Try.f27 t = some (.tup [.agg (aHist (rr.1)), iV .i64 rr.2]) ∧ ([] : List (Nat × Option MObj)) = [] | .inr _ => e = .exit 0 ∧ t = ⟨[(0, .im (.row (a0.map eHist))), (2, .ptr 4 0 0)], [(4, some (.box 25 [iV .i64 0, iV .i64 0, iV .i64 0, iV .u64 0, iV .u64 0, iV .i64 0, .none0, .none0]))], 0⟩)) ⟨[(0, .im (.row (a0.map eHist))), (2, .ptr 2 0 0), (14, .im (.row (a0.map eHist))), (15, iV .i64 (a0.length : Int)), (16, iV .i64 x3028)], [(2, some (.box 25 [iV .i64 0, iV .i64 0, iV .i64 0, iV .u64 0, iV .u64 0, iV .i64 0, .none0, .none0]))], 0⟩) ?_ _ _ e3157
      clear H e3157 o3156; intro self ih x3028 o3156 H
      subst hbody
      refine LWp.round ?_
      refine AWp.seq ?_
      refine reg hP hn hm [] [0, 2, 14, 15, 16, 17] [2] ⟨[(0, .im (.row (a0.map eHist))), (2, .ptr 2 0 0), (14, .im (.row (a0.map eHist))), (15, iV .i64 (a0.length : Int)), (16, iV .i64 x3028), (17, bV (decide (x3028 < (a0.length : Int))))], [(2, some (.box 25 [iV .i64 0, iV .i64 0, iV .i64 0, iV .u64 0, iV .u64 0, iV .i64 0, .none0, .none0]))], 0⟩ [] (by kernel_rfl) trivial ?_
      refine AWp.seq ?_
      refine AWp.cond (decide (x3028 < (a0.length : Int))) rfl (fun c3029 => ?_) (fun c3029 => ?_)
      · replace H := (ifT c3029).symm.trans H
        refine AWp.skip ?_
        refine AWp.seq ?_
        refine AWp.block ?_
        refine AWp.seq ?_
        obtain ⟨b3033, p3034, q3035, H⟩ := at_of H
        refine reg hP hn hm [(0, .c (eHist b3033)), (2, .k 3)] [0, 2, 5, 14, 15, 16] [2, 3] ⟨[(0, .im (.row (a0.map eHist))), (2, .ptr 2 0 0), (5, .ptr 3 0 0), (14, .im (.row (a0.map eHist))), (15, iV .i64 (a0.length : Int)), (16, iV .i64 x3028)], [(2, some (.box 25 [iV .i64 0, iV .i64 0, iV .i64 0, iV .u64 0, iV .u64 0, iV .i64 0, .none0, .none0])), (3, some (.box 25 (aHist b3033)))], 0⟩ [0 ≤ x3028, (a0.map eHist)[(Int.toNat (x3028))]? = some (eHist b3033)] (by kernel_rfl) ⟨by exact p3034, by exact el_map eHist q3035, trivial⟩ ?_
        refine AWp.seq ?_
        refine reg hP hn hm [] [0, 2, 14, 15, 16, 22] [2] ⟨[(0, .im (.row (a0.map eHist))), (2, .ptr 2 0 0), (14, .im (.row (a0.map eHist))), (15, iV .i64 (a0.length : Int)), (16, iV .i64 x3028), (22, bV (b3033.f0 != (0 : Int)))], [(2, some (.box 25 [iV .i64 0, iV .i64 0, iV .i64 0, iV .u64 0, iV .u64 0, iV .i64 0, .none0, .none0]))], 0⟩ [] (by kernel_rfl) trivial ?_
        refine AWp.cond (b3033.f0 != (0 : Int)) rfl (fun c3036 => ?_) (fun c3036 => ?_)
        · replace H := (ifT c3036).symm.trans H
          refine AWp.seq ?_
          refine reg hP hn hm [] [2, 3] [2] ⟨[(2, .ptr 2 0 0), (3, iV .i64 25)], [(2, some (.box 25 [iV .i64 0, iV .i64 0, iV .i64 0, iV .u64 0, iV .u64 0, iV .i64 0, .none0, .none0]))], 0⟩ [] (by kernel_rfl) trivial ?_
          refine AWp.conv (inv := [(2, 0)]) (vk := []) (e0 := []) (t := ⟨[(2, .ptr 0 0 0), (3, iV .i64 25)], [(0, some (.box 25 (aHist ((⟨0, 0, 0, 0, 0, 0, [], []⟩ : THist)))))], 0⟩) (by kernel_rfl) ?_
          refine AWp.ret ?_
          obtain rfl := Option.some.inj H
          exact Exists.intro _ (And.intro (fun _ _ h => h) (And.intro rfl (And.intro rfl (And.intro (by kernel_rfl) (by kernel_rfl)))))
        · replace H := (ifF c3036).symm.trans H
          refine AWp.skip ?_
          refine reg hP hn hm [] [0, 2, 14, 15, 16] [2] ⟨[(0, .im (.row (a0.map eHist))), (2, .ptr 2 0 0), (14, .im (.row (a0.map eHist))), (15, iV .i64 (a0.length : Int)), (16, iV .i64 (IntKind.i64.wrap (x3028 + (1 : Int))))], [(2, some (.box 25 [iV .i64 0, iV .i64 0, iV .i64 0, iV .u64 0, iV .u64 0, iV .i64 0, .none0, .none0]))], 0⟩ [] (by kernel_rfl) trivial ?_
          exact LWp.conv (inv := [(2, 2)]) (vk := []) (e0 := []) (t := ⟨[(0, .im (.row (a0.map eHist))), (2, .ptr 2 0 0), (14, .im (.row (a0.map eHist))), (15, iV .i64 (a0.length : Int)), (16, iV .i64 (IntKind.i64.wrap (x3028 + (1 : Int))))], [(2, some (.box 25 [iV .i64 0, iV .i64 0, iV .i64 0, iV .u64 0, iV .u64 0, iV .i64 0, .none0, .none0]))], 0⟩) (by kernel_rfl) (ih _ _ H)
      · replace H := (ifF c3029).symm.trans H
        refine AWp.exit ?_
        obtain rfl := Option.some.inj H
        exact Exists.intro _ (And.intro (fun _ _ h => h.conv (inv := [(2, 4)]) (vk := []) (e0 := []) (t := ⟨[(0, .im (.row (a0.map eHist))), (2, .ptr 4 0 0)], [(4, some (.box 25 [iV .i64 0, iV .i64 0, iV .i64 0, iV .u64 0, iV .u64 0, iV .i64 0, .none0, .none0]))], 0⟩) (by kernel_rfl)) (And.intro rfl rfl))
    · rcases o3156 with rr | _
      · skip
        rintro e s ⟨rfl, hfl, hres⟩
        obtain rfl := Option.some.inj H
        exact Exists.intro _ (And.intro (fun _ _ h => h) (And.intro (.inl rfl) (And.intro hfl hres)))
      · skip
        rintro e s ⟨rfl, rfl⟩
        refine AWp.seq ?_
        obtain ⟨b3042, p3043, q3044, H⟩ := at_of H
        obtain ⟨t3045, e3046, H⟩ := bind_of H
        refine reg hP hn hm [(1, .c (eHist b3042)), (4, .call [] [] [] [] 0 (.agg (aHist (t3045))) []), (5, .k 5)] [0, 2, 6] [4, 5] ⟨[(0, .im (.row (a0.map eHist))), (2, .ptr 4 0 0), (6, .ptr 5 0 0)], [(4, some (.box 25 [iV .i64 0, iV .i64 0, iV .i64 0, iV .u64 0, iV .u64 0, iV .i64 0, .none0, .none0])), (5, some (.box 25 (aHist (t3045))))], 0⟩ [0 ≤ (0 : Int), (a0.map eHist)[(Int.toNat (0))]? = some (eHist b3042), Enters Try.prog 31, Pv.Fn Try.prog 31 [iV .i64 0, iV .i64 b3042.f1] [] 0 (fun r o => r = .agg (aHist (t3045)) ∧ o = [])] (by kernel_rfl) ⟨by exact p3043, by exact el_map eHist q3044, by exact Try.call31, by exact f_hist_Empty.ok 0 b3042.f1 t3045 e3046, trivial⟩ ?_
        refine AWp.seq ?_
        refine AWp.seq ?_
        refine reg hP hn hm [] [0, 2, 6, 7] [4, 5] ⟨[(0, .im (.row (a0.map eHist))), (2, .ptr 4 0 0), (6, .ptr 5 0 0), (7, iV .i64 1)], [(4, some (.box 25 [iV .i64 0, iV .i64 0, iV .i64 0, iV .u64 0, iV .u64 0, iV .i64 0, .none0, .none0])), (5, some (.box 25 (aHist (t3045))))], 0⟩ [] (by kernel_rfl) trivial ?_
        refine AWp.block ?_
        obtain ⟨o3158, e3159, H⟩ := bind_of H
        refine AWp.loop (LWp.conv (inv := [(4, 14), (5, 15)]) (vk := []) (e0 := []) (t := ⟨[(0, .im (.row (a0.map eHist))), (2, .ptr 14 0 0), (6, .ptr 15 0 0), (7, iV .i64 1)], [(14, some (.box 25 [iV .i64 0, iV .i64 0, iV .i64 0, iV .u64 0, iV .u64 0, iV .i64 0, .none0, .none0])), (15, some (.box 25 (aHist (t3045))))], 0⟩) (by kernel_rfl) ?_)
        refine LWp.mono (Q := fun e s => (match (generalizing := false) o3158 with | .inl rr => e = .ret ∧ s.floor = 0 ∧ resOf Try.prog Try.f27 s = some (.tup [.agg (aHist (rr.1)), iV .i64 rr.2]) ∧ ([] : List (Nat × Option MObj)) = [] | .inr (x3148, x3149, x3150, x3151, x3152, x3153, x3154, x3155) => e = .exit 2 ∧ s = ⟨[(2, .ptr 24 0 0), (6, .ptr 25 0 0)], [(24, some (.box 25 [iV .i64 0, iV .i64 0, iV .i64 0, iV .u64 0, iV .u64 0, iV .i64 0, .none0, .none0])), (25, some (.box 25 (aHist ⟨x3148, x3149, x3150, x3151, x3152, x3153, x3154, x3155⟩)))], 0⟩)) (LWp.cv (withBody (fun body hbody => ?_))) ?_
        · refine f_meld_Rise.l1.partial_correctness a0 (motive := fun v o3158 => (match (generalizing := false) v with | (x3093, x3094, x3095, x3096, x3097, x3098, x3099, x3100, x3101) => LWp Γ body (fun e s => ∃ t, Cv Γ s t ∧ (match (generalizing := false) o3158 with | .inl rr => e = .ret ∧ t.floor = 0 ∧ resOf Try.prog Try.f27 t = some (.tup [.agg (aHist (rr.1)), iV .i64 rr.2]) ∧ ([] : List (Nat × Option MObj)) = [] | .inr (x3148, x3149, x3150, x3151, x3152, x3153, x3154, x3155) => e = .exit 2 ∧ t = ⟨[(2, .ptr 24 0 0), (6, .ptr 25 0 0)], [(24, some (.box 25 [iV .i64 0, iV .i64 0, iV .i64 0, iV .u64 0, iV .u64 0, iV .i64 0, .none0, .none0])), (25, some (.box 25 (aHist ⟨x3148, x3149, x3150, x3151, x3152, x3153, x3154, x3155⟩)))], 0⟩)) ⟨[(0, .im (.row (a0.map eHist))), (2, .ptr 14 0 0), (6, .ptr 15 0 0), (7, iV .i64 x3101)], [(14, some (.box 25 [iV .i64 0, iV .i64 0, iV .i64 0, iV .u64 0, iV .u64 0, iV .i64 0, .none0, .none0])), (15, some (.box 25 (aHist ⟨x3093, x3094, x3095, x3096, x3097, x3098, x3099, x3100⟩)))], 0⟩)) ?_ _ _ e3159
          clear H e3159 o3158; intro self ih v o3158 H
          obtain ⟨x3093, x3094, x3095, x3096, x3097, x3098, x3099, x3100, x3101⟩ := v
          dsimp only at H
          subst hbody
          refine LWp.round ?_
          refine AWp.seq ?_
          refine AWp.seq ?_
          refine reg hP hn hm [(2, .any (iV .i64 (a0.length : Int)))] [0, 2, 6, 7, 33] [14, 15] ⟨[(0, .im (.row (a0.map eHist))), (2, .ptr 14 0 0), (6, .ptr 15 0 0), (7, iV .i64 x3101), (33, bV (decide (x3101 < (a0.length : Int))))], [(14, some (.box 25 [iV .i64 0, iV .i64 0, iV .i64 0, iV .u64 0, iV .u64 0, iV .i64 0, .none0, .none0])), (15, some (.box 25 (aHist ⟨x3093, x3094, x3095, x3096, x3097, x3098, x3099, x3100⟩)))], 0⟩ [((a0.map eHist).length : Int) = (a0.length : Int)] (by kernel_rfl) ⟨by rw [len_map], trivial⟩ ?_
          refine AWp.cond (decide (x3101 < (a0.length : Int))) rfl (fun c3102 => ?_) (fun c3102 => ?_)
          · replace H := (ifT c3102).symm.trans H
            refine AWp.skip ?_
            refine AWp.seq ?_
            refine AWp.block ?_
            refine AWp.seq ?_
            obtain ⟨b3111, p3112, q3113, H⟩ := at_of H
            obtain ⟨b3114, p3115, q3116, H⟩ := at_of H
            obtain ⟨t3117, e3118, H⟩ := bind_of H
            refine reg hP hn hm [(2, .c (eHist b3111)), (7, .c (eHist b3114)), (9, .call [] [] [] [] 0 (.tup [.agg (aHist (t3117.1)), iV .i64 t3117.2]) []), (13, .k 16)] [0, 2, 6, 7, 8, 9] [14, 15, 16] ⟨[(0, .im (.row (a0.map eHist))), (2, .ptr 14 0 0), (6, .ptr 15 0 0), (7, iV .i64 x3101), (8, .ptr 16 0 0), (9, iV .i64 t3117.2)], [(14, some (.box 25 [iV .i64 0, iV .i64 0, iV .i64 0, iV .u64 0, iV .u64 0, iV .i64 0, .none0, .none0])), (15, some (.box 25 (aHist ⟨x3093, x3094, x3095, x3096, x3097, x3098, x3099, x3100⟩))), (16, some (.box 25 (aHist (t3117.1))))], 0⟩ [0 ≤ x3101, (a0.map eHist)[(Int.toNat (x3101))]? = some (eHist b3111), 0 ≤ (IntKind.i64.wrap (x3101 - (1 : Int))), (a0.map eHist)[(Int.toNat (IntKind.i64.wrap (x3101 - (1 : Int))))]? = some (eHist b3114), Enters Try.prog 23, Pv.Fn Try.prog 23 [.agg (aHist b3111), .agg (aHist b3114)] [] 0 (fun r o => r = .tup [.agg (aHist (t3117.1)), iV .i64 t3117.2] ∧ o = [])] (by kernel_rfl) ⟨by exact p3112, by exact el_map eHist q3113, by exact p3115, by exact el_map eHist q3116, by exact Try.call23, by exact f_meld_Sub.ok b3111 b3114 t3117 e3118, trivial⟩ ?_
            refine AWp.seq ?_
            refine AWp.seq ?_
            refine reg hP hn hm [] [0, 2, 6, 7, 8, 9, 50] [14, 15, 16] ⟨[(0, .im (.row (a0.map eHist))), (2, .ptr 14 0 0), (6, .ptr 15 0 0), (7, iV .i64 x3101), (8, .ptr 16 0 0), (9, iV .i64 t3117.2), (50, bV (t3117.2 == (21 : Int)))], [(14, some (.box 25 [iV .i64 0, iV .i64 0, iV .i64 0, iV .u64 0, iV .u64 0, iV .i64 0, .none0, .none0])), (15, some (.box 25 (aHist ⟨x3093, x3094, x3095, x3096, x3097, x3098, x3099, x3100⟩))), (16, some (.box 25 (aHist (t3117.1))))], 0⟩ [] (by kernel_rfl) trivial ?_
            obtain ⟨o3160, e3161, H⟩ := bind_of H
            refine AWp.mono (Q := fun e s => (match (generalizing := false) o3160 with | (x3124, x3125, x3126, x3127, x3128, x3129, x3130, x3131, x3132) => e = .normal ∧ s = ⟨[(0, .im (.row (a0.map eHist))), (2, .ptr 19 0 0), (6, .ptr 20 0 0), (7, iV .i64 x3101), (8, .ptr 21 0 0), (9, iV .i64 x3132)], [(19, some (.box 25 [iV .i64 0, iV .i64 0, iV .i64 0, iV .u64 0, iV .u64 0, iV .i64 0, .none0, .none0])), (20, some (.box 25 (aHist ⟨x3093, x3094, x3095, x3096, x3097, x3098, x3099, x3100⟩))), (21, some (.box 25 (aHist ⟨x3124, x3125, x3126, x3127, x3128, x3129, x3130, x3131⟩)))], 0⟩)) (AWp.cv ?_) ?_
            · replace H := e3161; clear e3161
              refine AWp.cond (t3117.2 == (21 : Int)) rfl (fun c3119 => ?_) (fun c3119 => ?_)
              · replace H := (ifT c3119).symm.trans H
                obtain ⟨t3122, e3123, H⟩ := bind_of H
                refine reg hP hn hm [(2, .c (eHist b3111)), (4, .call [] [(0, 17), (1, 18)] [] [17, 18] 0 (.agg [iV .i64 ((t3122).f0), iV .i64 ((t3122).f1), iV .i64 ((t3122).f2), iV .u64 ((t3122).f3), iV .u64 ((t3122).f4), iV .i64 ((t3122).f5), .own 0, .own 1]) [(0, some (.row 2 54 (((t3122).f6).map eBucket))), (1, some (.row 2 54 (((t3122).f7).map eBucket)))])] [0, 2, 6, 7, 8, 9] [14, 15, 16, 17, 18] ⟨[(0, .im (.row (a0.map eHist))), (2, .ptr 14 0 0), (6, .ptr 15 0 0), (7, iV .i64 x3101), (8, .ptr 16 0 0), (9, iV .i64 0)], [(14, some (.box 25 [iV .i64 0, iV .i64 0, iV .i64 0, iV .u64 0, iV .u64 0, iV .i64 0, .none0, .none0])), (15, some (.box 25 (aHist ⟨x3093, x3094, x3095, x3096, x3097, x3098, x3099, x3100⟩))), (16, some (.box 25 [iV .i64 ((t3122).f0), iV .i64 ((t3122).f1), iV .i64 ((t3122).f2), iV .u64 ((t3122).f3), iV .u64 ((t3122).f4), iV .i64 ((t3122).f5), .own 17, .own 18])), (17, some (.row 2 54 (((t3122).f6).map eBucket))), (18, some (.row 2 54 (((t3122).f7).map eBucket)))], 0⟩ [0 ≤ x3101, (a0.map eHist)[(Int.toNat (x3101))]? = some (eHist b3111), Enters Try.prog 26, Pv.Fn Try.prog 26 [.agg (aHist b3111)] [] 0 (fun r o => r = .agg [iV .i64 ((t3122).f0), iV .i64 ((t3122).f1), iV .i64 ((t3122).f2), iV .u64 ((t3122).f3), iV .u64 ((t3122).f4), iV .i64 ((t3122).f5), .own 0, .own 1] ∧ o = [(0, some (.row 2 54 (((t3122).f6).map eBucket))), (1, some (.row 2 54 (((t3122).f7).map eBucket)))])] (by kernel_rfl) ⟨by exact p3112, by exact el_map eHist q3113, by exact Try.call26, by exact f_hist_Clone.ok b3111 t3122 e3123, trivial⟩ ?_
                obtain rfl := Option.some.inj H
                exact Exists.intro _ (And.intro (fun _ _ h => h.conv (inv := [(14, 19), (15, 20), (16, 21)]) (vk := [17, 18]) (e0 := []) (t := ⟨[(0, .im (.row (a0.map eHist))), (2, .ptr 19 0 0), (6, .ptr 20 0 0), (7, iV .i64 x3101), (8, .ptr 21 0 0), (9, iV .i64 0)], [(19, some (.box 25 [iV .i64 0, iV .i64 0, iV .i64 0, iV .u64 0, iV .u64 0, iV .i64 0, .none0, .none0])), (20, some (.box 25 (aHist ⟨x3093, x3094, x3095, x3096, x3097, x3098, x3099, x3100⟩))), (21, some (.box 25 (aHist (t3122))))], 0⟩) (by kernel_rfl)) (And.intro rfl rfl))
              · replace H := (ifF c3119).symm.trans H
                refine AWp.skip ?_
                obtain rfl := Option.some.inj H
                exact Exists.intro _ (And.intro (fun _ _ h => h.conv (inv := [(14, 19), (15, 20), (16, 21)]) (vk := []) (e0 := []) (t := ⟨[(0, .im (.row (a0.map eHist))), (2, .ptr 19 0 0), (6, .ptr 20 0 0), (7, iV .i64 x3101), (8, .ptr 21 0 0), (9, iV .i64 t3117.2)], [(19, some (.box 25 [iV .i64 0, iV .i64 0, iV .i64 0, iV .u64 0, iV .u64 0, iV .i64 0, .none0, .none0])), (20, some (.box 25 (aHist ⟨x3093, x3094, x3095, x3096, x3097, x3098, x3099, x3100⟩))), (21, some (.box 25 (aHist (t3117.1))))], 0⟩) (by kernel_rfl)) (And.intro rfl rfl))
            · obtain ⟨x3124, x3125, x3126, x3127, x3128, x3129, x3130, x3131, x3132⟩ := o3160
              rintro e s ⟨rfl, rfl⟩
              refine AWp.seq ?_
              refine AWp.seq ?_
              refine reg hP hn hm [] [0, 2, 6, 7, 8, 9, 57] [19, 20, 21] ⟨[(0, .im (.row (a0.map eHist))), (2, .ptr 19 0 0), (6, .ptr 20 0 0), (7, iV .i64 x3101), (8, .ptr 21 0 0), (9, iV .i64 x3132), (57, bV (x3132 == (0 : Int)))], [(19, some (.box 25 [iV .i64 0, iV .i64 0, iV .i64 0, iV .u64 0, iV .u64 0, iV .i64 0, .none0, .none0])), (20, some (.box 25 (aHist ⟨x3093, x3094, x3095, x3096, x3097, x3098, x3099, x3100⟩))), (21, some (.box 25 (aHist ⟨x3124, x3125, x3126, x3127, x3128, x3129, x3130, x3131⟩)))], 0⟩ [] (by kernel_rfl) trivial ?_
              obtain ⟨o3162, e3163, H⟩ := bind_of H
              refine AWp.mono (Q := fun e s => (match (generalizing := false) o3162 with | (x3138, x3139, x3140, x3141, x3142, x3143, x3144, x3145, x3146) => e = .normal ∧ s = ⟨[(0, .im (.row (a0.map eHist))), (2, .ptr 22 0 0), (6, .ptr 23 0 0), (7, iV .i64 x3101), (9, iV .i64 x3146)], [(22, some (.box 25 [iV .i64 0, iV .i64 0, iV .i64 0, iV .u64 0, iV .u64 0, iV .i64 0, .none0, .none0])), (23, some (.box 25 (aHist ⟨x3138, x3139, x3140, x3141, x3142, x3143, x3144, x3145⟩)))], 0⟩)) (AWp.cv ?_) ?_
              · replace H := e3163; clear e3163
                refine AWp.cond (x3132 == (0 : Int)) rfl (fun c3133 => ?_) (fun c3133 => ?_)
                · replace H := (ifT c3133).symm.trans H
                  obtain ⟨t3136, e3137, H⟩ := bind_of H
                  refine reg hP hn hm [(2, .call [] [] [] [] 0 (.tup [.agg (aHist (t3136.1)), iV .i64 t3136.2]) [])] [0, 2, 6, 7, 9] [19, 20] ⟨[(0, .im (.row (a0.map eHist))), (2, .ptr 19 0 0), (6, .ptr 20 0 0), (7, iV .i64 x3101), (9, iV .i64 t3136.2)], [(19, some (.box 25 [iV .i64 0, iV .i64 0, iV .i64 0, iV .u64 0, iV .u64 0, iV .i64 0, .none0, .none0])), (20, some (.box 25 (aHist (t3136.1))))], 0⟩ [Enters Try.prog 21, Pv.Fn Try.prog 21 [.agg (aHist ⟨x3093, x3094, x3095, x3096, x3097, x3098, x3099, x3100⟩), .agg (aHist ⟨x3124, x3125, x3126, x3127, x3128, x3129, x3130, x3131⟩)] [] 0 (fun r o => r = .tup [.agg (aHist (t3136.1)), iV .i64 t3136.2] ∧ o = [])] (by kernel_rfl) ⟨by exact Try.call21, by exact f_meld_Add.ok (⟨x3093, x3094, x3095, x3096, x3097, x3098, x3099, x3100⟩ : THist) (⟨x3124, x3125, x3126, x3127, x3128, x3129, x3130, x3131⟩ : THist) t3136 e3137, trivial⟩ ?_
                  obtain rfl := Option.some.inj H
                  exact Exists.intro _ (And.intro (fun _ _ h => h.conv (inv := [(19, 22), (20, 23)]) (vk := []) (e0 := []) (t := ⟨[(0, .im (.row (a0.map eHist))), (2, .ptr 22 0 0), (6, .ptr 23 0 0), (7, iV .i64 x3101), (9, iV .i64 t3136.2)], [(22, some (.box 25 [iV .i64 0, iV .i64 0, iV .i64 0, iV .u64 0, iV .u64 0, iV .i64 0, .none0, .none0])), (23, some (.box 25 (aHist (t3136.1))))], 0⟩) (by kernel_rfl)) (And.intro rfl rfl))
                · replace H := (ifF c3133).symm.trans H
                  refine AWp.skip ?_
                  obtain rfl := Option.some.inj H
                  exact Exists.intro _ (And.intro (fun _ _ h => h.conv (inv := [(19, 22), (20, 23)]) (vk := []) (e0 := []) (t := ⟨[(0, .im (.row (a0.map eHist))), (2, .ptr 22 0 0), (6, .ptr 23 0 0), (7, iV .i64 x3101), (9, iV .i64 x3132)], [(22, some (.box 25 [iV .i64 0, iV .i64 0, iV .i64 0, iV .u64 0, iV .u64 0, iV .i64 0, .none0, .none0])), (23, some (.box 25 (aHist ⟨x3093, x3094, x3095, x3096, x3097, x3098, x3099, x3100⟩)))], 0⟩) (by kernel_rfl)) (And.intro rfl rfl))
              · obtain ⟨x3138, x3139, x3140, x3141, x3142, x3143, x3144, x3145, x3146⟩ := o3162
                rintro e s ⟨rfl, rfl⟩
                refine AWp.seq ?_
                refine reg hP hn hm [] [0, 2, 6, 7, 9, 65] [22, 23] ⟨[(0, .im (.row (a0.map eHist))), (2, .ptr 22 0 0), (6, .ptr 23 0 0), (7, iV .i64 x3101), (9, iV .i64 x3146), (65, bV (x3146 != (0 : Int)))], [(22, some (.box 25 [iV .i64 0, iV .i64 0, iV .i64 0, iV .u64 0, iV .u64 0, iV .i64 0, .none0, .none0])), (23, some (.box 25 (aHist ⟨x3138, x3139, x3140, x3141, x3142, x3143, x3144, x3145⟩)))], 0⟩ [] (by kernel_rfl) trivial ?_
                refine AWp.cond (x3146 != (0 : Int)) rfl (fun c3147 => ?_) (fun c3147 => ?_)
                · replace H := (ifT c3147).symm.trans H
                  refine AWp.seq ?_
                  refine reg hP hn hm [] [2, 3] [22] ⟨[(2, .ptr 22 0 0), (3, iV .i64 x3146)], [(22, some (.box 25 [iV .i64 0, iV .i64 0, iV .i64 0, iV .u64 0, iV .u64 0, iV .i64 0, .none0, .none0]))], 0⟩ [] (by kernel_rfl) trivial ?_
                  refine AWp.conv (inv := [(22, 0)]) (vk := []) (e0 := []) (t := ⟨[(2, .ptr 0 0 0), (3, iV .i64 x3146)], [(0, some (.box 25 (aHist ((⟨0, 0, 0, 0, 0, 0, [], []⟩ : THist)))))], 0⟩) (by kernel_rfl) ?_
                  refine AWp.ret ?_
                  obtain rfl := Option.some.inj H
                  exact Exists.intro _ (And.intro (fun _ _ h => h) (And.intro rfl (And.intro rfl (And.intro (by kernel_rfl) (by kernel_rfl)))))
                · replace H := (ifF c3147).symm.trans H
                  refine AWp.skip ?_
                  refine reg hP hn hm [] [0, 2, 6, 7] [22, 23] ⟨[(0, .im (.row (a0.map eHist))), (2, .ptr 22 0 0), (6, .ptr 23 0 0), (7, iV .i64 (IntKind.i64.wrap (x3101 + (1 : Int))))], [(22, some (.box 25 [iV .i64 0, iV .i64 0, iV .i64 0, iV .u64 0, iV .u64 0, iV .i64 0, .none0, .none0])), (23, some (.box 25 (aHist ⟨x3138, x3139, x3140, x3141, x3142, x3143, x3144, x3145⟩)))], 0⟩ [] (by kernel_rfl) trivial ?_
                  exact LWp.conv (inv := [(22, 14), (23, 15)]) (vk := []) (e0 := []) (t := ⟨[(0, .im (.row (a0.map eHist))), (2, .ptr 14 0 0), (6, .ptr 15 0 0), (7, iV .i64 (IntKind.i64.wrap (x3101 + (1 : Int))))], [(14, some (.box 25 [iV .i64 0, iV .i64 0, iV .i64 0, iV .u64 0, iV .u64 0, iV .i64 0, .none0, .none0])), (15, some (.box 25 (aHist ⟨x3138, x3139, x3140, x3141, x3142, x3143, x3144, x3145⟩)))], 0⟩) (by kernel_rfl) (ih _ _ H)
          · replace H := (ifF c3102).symm.trans H
            refine AWp.exit ?_
            obtain rfl := Option.some.inj H
            exact Exists.intro _ (And.intro (fun _ _ h => h.conv (inv := [(14, 24), (15, 25)]) (vk := []) (e0 := []) (t := ⟨[(2, .ptr 24 0 0), (6, .ptr 25 0 0)], [(24, some (.box 25 [iV .i64 0, iV .i64 0, iV .i64 0, iV .u64 0, iV .u64 0, iV .i64 0, .none0, .none0])), (25, some (.box 25 (aHist ⟨x3093, x3094, x3095, x3096, x3097, x3098, x3099, x3100⟩)))], 0⟩) (by kernel_rfl)) (And.intro rfl rfl))
        · rcases o3158 with rr | ⟨x3148, x3149, x3150, x3151, x3152, x3153, x3154, x3155⟩
          · skip
            rintro e s ⟨rfl, hfl, hres⟩
            obtain rfl := Option.some.inj H
            exact Exists.intro _ (And.intro (fun _ _ h => h) (And.intro (.inl rfl) (And.intro hfl hres)))
          · skip
            rintro e s ⟨rfl, rfl⟩
            refine AWp.seq ?_
            refine reg hP hn hm [] [2, 3] [24] ⟨[(2, .ptr 24 0 0), (3, iV .i64 0)], [(24, some (.box 25 (aHist ⟨x3148, x3149, x3150, x3151, x3152, x3153, x3154, x3155⟩)))], 0⟩ [] (by kernel_rfl) trivial ?_
            refine AWp.conv (inv := [(24, 0)]) (vk := []) (e0 := []) (t := ⟨[(2, .ptr 0 0 0), (3, iV .i64 0)], [(0, some (.box 25 (aHist ((⟨x3148, x3149, x3150, x3151, x3152, x3153, x3154, x3155⟩ : THist)))))], 0⟩) (by kernel_rfl) ?_
            refine AWp.ret ?_
            obtain rfl := Option.some.inj H
            exact Exists.intro _ (And.intro (fun _ _ h => h) (And.intro (.inl rfl) (And.intro rfl (And.intro (by kernel_rfl) (by kernel_rfl)))))
end Go.Proofs.Yticdbkmekkbiiaa.PvGB
