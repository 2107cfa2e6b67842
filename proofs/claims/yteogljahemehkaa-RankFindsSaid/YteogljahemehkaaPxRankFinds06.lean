import Derived.Test.YteogljahemehkaaProg
import Derived.Test.YteogljahemehkaaPxRankFinds05
set_option linter.unusedVariables false
set_option linter.unnecessarySimpa false
set_option linter.unusedSimpArgs false
set_option maxRecDepth 10000
namespace Go.Proofs.Yteogljahemehkaa.PvGC
open Go Go.Pv
def f_rank_Order.l0 (a0 : THist) (x1316 : List Trank_Cell) (x1317 : Int) : Option (List Trank_Cell) := if (decide (x1317 ≥ (0 : Int))) = true then ((at? a0.f7 x1317) >>= fun b1323 => (chk ((x1316.length + [(⟨(⟨(-1), a0.f1, b1323.f0⟩ : Tbound_Key), b1323.f1⟩ : Trank_Cell)].length) * 32 ≤ 140737488355328)) >>= fun _ => f_rank_Order.l0 a0 (x1316 ++ [(⟨(⟨(-1), a0.f1, b1323.f0⟩ : Tbound_Key), b1323.f1⟩ : Trank_Cell)]) (IntKind.i64.wrap (x1317 - (1 : Int)))) else (some x1316)
partial_fixpoint
def f_rank_Order.l1 (a0 : THist) (x1341 : List Trank_Cell) (x1342 : Int) : Option (List Trank_Cell) := if (decide (x1342 < (a0.f6.length : Int))) = true then ((at? a0.f6 x1342) >>= fun b1347 => (chk ((x1341.length + [(⟨(⟨1, a0.f1, b1347.f0⟩ : Tbound_Key), b1347.f1⟩ : Trank_Cell)].length) * 32 ≤ 140737488355328)) >>= fun _ => f_rank_Order.l1 a0 (x1341 ++ [(⟨(⟨1, a0.f1, b1347.f0⟩ : Tbound_Key), b1347.f1⟩ : Trank_Cell)]) (IntKind.i64.wrap (x1342 + (1 : Int)))) else (some x1341)
partial_fixpoint
def f_rank_Order.f (a0 : THist) : Option (List Trank_Cell) := (f_rank_Order.l0 a0 [] (IntKind.i64.wrap ((a0.f7.length : Int) - (1 : Int)))) >>= fun x1327 => ((if (decide (a0.f3 > (0 : Int))) = true then ((chk ((x1327.length + [(⟨(⟨0, 0, 0⟩ : Tbound_Key), a0.f3⟩ : Trank_Cell)].length) * 32 ≤ 140737488355328)) >>= fun _ => some (x1327 ++ [(⟨(⟨0, 0, 0⟩ : Tbound_Key), a0.f3⟩ : Trank_Cell)])) else (some x1327)) : Option (List Trank_Cell)) >>= fun x1331 => (f_rank_Order.l1 a0 x1331 0) >>= fun x1352 => some x1352
theorem f_rank_Order.ok (a0 : THist) (r : List Trank_Cell) (H : f_rank_Order.f a0 = some r) : Pv.Fn Try.prog 21 [.agg (aHist a0)] [] 0 (fun x o => x = .own 0 ∧ o = [(0, some (.row 4 47 (r.map erank_Cell)))]) := by
  unfold f_rank_Order.f at H
  refine Fn.bodyK [0] Try.func21 rfl rfl (fun Γ hP hn => ?_)
  have hm : Try.prog.follows .mixedOrders = true := by kernel_rfl
  replace hn : Γ.n = 64 := hn
  refine AWp.seq ?_
  refine reg hP hn hm [(0, .k 0)] [1] [0] ⟨[(1, .ptr 0 0 0)], [(0, some (.box 35 (aHist a0)))], 0⟩ [] (by kernel_rfl) trivial ?_
  refine AWp.seq ?_
  refine reg hP hn hm [] [1, 3] [0] ⟨[(1, .ptr 0 0 0), (3, .none0)], [(0, some (.box 35 (aHist a0)))], 0⟩ [] (by kernel_rfl) trivial ?_
  refine AWp.seq ?_
  refine AWp.seq ?_
  refine reg hP hn hm [(2, .any (iV .i64 (a0.f7.length : Int)))] [1, 3, 4] [0] ⟨[(1, .ptr 0 0 0), (3, .none0), (4, iV .i64 (IntKind.i64.wrap ((a0.f7.length : Int) - (1 : Int))))], [(0, some (.box 35 (aHist a0)))], 0⟩ [((a0.f7.map eBucket).length : Int) = (a0.f7.length : Int)] (by kernel_rfl) ⟨by rw [len_map], trivial⟩ ?_
  refine AWp.block ?_
  obtain ⟨o1353, e1354, H⟩ := bind_of H
  refine AWp.loop (LWp.conv (inv := [(0, 3)]) (vk := []) (e0 := [4]) (t := ⟨[(1, .ptr 3 0 0), (3, .own 4), (4, iV .i64 (IntKind.i64.wrap ((a0.f7.length : Int) - (1 : Int))))], [(3, some (.box 35 (aHist a0))), (4, some (.row 4 47 ([].map erank_Cell)))], 0⟩) (by kernel_rfl) ?_)
  refine LWp.mono (Q := fun e s => (match (generalizing := false) o1353 with | x1327 => e = .exit 0 ∧ s = ⟨[(1, .ptr 7 0 0), (3, .own 8)], [(7, some (.box 35 (aHist a0))), (8, some (.row 4 47 (x1327.map erank_Cell)))], 0⟩)) (LWp.cv (withBody (fun body hbody => ?_))) ?_
  · refine f_rank_Order.l0.partial_correctness a0 (motive := fun x1316 x1317 o1353 => LWp Γ body (fun e s => ∃ t, Cv Γ s t ∧ (match (generalizing := false) o1353 with | x1327 => e = .exit 0 ∧ t = ⟨[(1, .ptr 7 0 0), (3, .own 8)], [(7, some (.box 35 (aHist a0))), (8, some (.row 4 47 (x1327.map erank_Cell)))], 0⟩)) ⟨[(1, .ptr 3 0 0), (3, .own 4), (4, iV .i64 x1317)], [(3, some (.box 35 (aHist a0))), (4, some (.row 4 47 (x1316.map erank_Cell)))], 0⟩) ?_ _ _ _ e1354
    clear H e1354 o1353; intro self ih x1316 x1317 o1353 H
    subst hbody
    refine LWp.round ?_
    refine AWp.seq ?_
    refine AWp.seq ?_
    refine reg hP hn hm [] [1, 3, 4, 12] [3, 4] ⟨[(1, .ptr 3 0 0), (3, .own 4), (4, iV .i64 x1317), (12, bV (decide (x1317 ≥ (0 : Int))))], [(3, some (.box 35 (aHist a0))), (4, some (.row 4 47 (x1316.map erank_Cell)))], 0⟩ [] (by kernel_rfl) trivial ?_
    refine AWp.cond (decide (x1317 ≥ (0 : Int))) rfl (fun c1318 => ?_) (fun c1318 => ?_)
    · replace H := (ifT c1318).symm.trans H
      refine AWp.skip ?_
      refine AWp.seq ?_
      refine AWp.block ?_
      obtain ⟨b1323, p1324, q1325, H⟩ := at_of H
      obtain ⟨c1326, H⟩ := chk_of H
      refine reg hP hn hm [(6, .c (eBucket b1323)), (13, .c (eBucket b1323)), (17, .app 5 ([(⟨(⟨(-1), a0.f1, b1323.f0⟩ : Tbound_Key), b1323.f1⟩ : Trank_Cell)].map erank_Cell)), (18, .app 6 ((x1316 ++ [(⟨(⟨(-1), a0.f1, b1323.f0⟩ : Tbound_Key), b1323.f1⟩ : Trank_Cell)]).map erank_Cell))] [1, 3, 4] [3, 6] ⟨[(1, .ptr 3 0 0), (3, .own 6), (4, iV .i64 x1317)], [(3, some (.box 35 (aHist a0))), (6, some (.row 4 47 ((x1316 ++ [(⟨(⟨(-1), a0.f1, b1323.f0⟩ : Tbound_Key), b1323.f1⟩ : Trank_Cell)]).map erank_Cell)))], 0⟩ [0 ≤ x1317, (a0.f7.map eBucket)[(Int.toNat (x1317))]? = some (eBucket b1323), 0 ≤ x1317, (a0.f7.map eBucket)[(Int.toNat (x1317))]? = some (eBucket b1323), [(⟨(⟨(-1), a0.f1, b1323.f0⟩ : Tbound_Key), b1323.f1⟩ : Trank_Cell)].map erank_Cell = [[iI .i64 (-1), iI .i64 a0.f1, iI .i64 b1323.f0, iI .u64 b1323.f1]], (x1316 ++ [(⟨(⟨(-1), a0.f1, b1323.f0⟩ : Tbound_Key), b1323.f1⟩ : Trank_Cell)]).map erank_Cell = (x1316.map erank_Cell) ++ ([(⟨(⟨(-1), a0.f1, b1323.f0⟩ : Tbound_Key), b1323.f1⟩ : Trank_Cell)].map erank_Cell), ∀ c ∈ ([(⟨(⟨(-1), a0.f1, b1323.f0⟩ : Tbound_Key), b1323.f1⟩ : Trank_Cell)].map erank_Cell), c.length = 4, ∀ c ∈ ([(⟨(⟨(-1), a0.f1, b1323.f0⟩ : Tbound_Key), b1323.f1⟩ : Trank_Cell)].map erank_Cell), leaves (c.map .im) = true, ((x1316.map erank_Cell).length + ([(⟨(⟨(-1), a0.f1, b1323.f0⟩ : Tbound_Key), b1323.f1⟩ : Trank_Cell)].map erank_Cell).length) * 32 ≤ 140737488355328] (by kernel_rfl) ⟨by exact p1324, by exact el_map eBucket q1325, by exact p1324, by exact el_map eBucket q1325, by exact rfl, by simp, by exact all_len _ _ _ (fun _ => rfl), by exact all_leaf _ _ (fun _ => rfl), by simpa using c1326, trivial⟩ ?_
      refine reg hP hn hm [] [1, 3, 4] [3, 6] ⟨[(1, .ptr 3 0 0), (3, .own 6), (4, iV .i64 (IntKind.i64.wrap (x1317 - (1 : Int))))], [(3, some (.box 35 (aHist a0))), (6, some (.row 4 47 ((x1316 ++ [(⟨(⟨(-1), a0.f1, b1323.f0⟩ : Tbound_Key), b1323.f1⟩ : Trank_Cell)]).map erank_Cell)))], 0⟩ [] (by kernel_rfl) trivial ?_
      exact LWp.conv (inv := [(3, 3), (6, 4)]) (vk := []) (e0 := []) (t := ⟨[(1, .ptr 3 0 0), (3, .own 4), (4, iV .i64 (IntKind.i64.wrap (x1317 - (1 : Int))))], [(3, some (.box 35 (aHist a0))), (4, some (.row 4 47 ((x1316 ++ [(⟨(⟨(-1), a0.f1, b1323.f0⟩ : Tbound_Key), b1323.f1⟩ : Trank_Cell)]).map erank_Cell)))], 0⟩) (by kernel_rfl) (ih _ _ _ H)
    · replace H := (ifF c1318).symm.trans H
      refine AWp.exit ?_
      obtain rfl := Option.some.inj H
      exact Exists.intro _ (And.intro (fun _ _ h => h.conv (inv := [(3, 7), (4, 8)]) (vk := []) (e0 := []) (t := ⟨[(1, .ptr 7 0 0), (3, .own 8)], [(7, some (.box 35 (aHist a0))), (8, some (.row 4 47 (x1316.map erank_Cell)))], 0⟩) (by kernel_rfl)) (And.intro rfl rfl))
  · obtain ⟨x1327, rfl⟩ : ∃ z, z = o1353 := ⟨_, rfl⟩
    rintro e s ⟨rfl, rfl⟩
    refine AWp.seq ?_
    refine AWp.seq ?_
    refine reg hP hn hm [] [1, 3, 36] [7, 8] ⟨[(1, .ptr 7 0 0), (3, .own 8), (36, bV (decide (a0.f3 > (0 : Int))))], [(7, some (.box 35 (aHist a0))), (8, some (.row 4 47 (x1327.map erank_Cell)))], 0⟩ [] (by kernel_rfl) trivial ?_
    obtain ⟨o1355, e1356, H⟩ := bind_of H
    refine AWp.mono (Q := fun e s => (match (generalizing := false) o1355 with | x1331 => e = .normal ∧ s = ⟨[(1, .ptr 11 0 0), (3, .own 12)], [(11, some (.box 35 (aHist a0))), (12, some (.row 4 47 (x1331.map erank_Cell)))], 0⟩)) (AWp.cv ?_) ?_
    · replace H := e1356; clear e1356
      refine AWp.cond (decide (a0.f3 > (0 : Int))) rfl (fun c1328 => ?_) (fun c1328 => ?_)
      · replace H := (ifT c1328).symm.trans H
        obtain ⟨c1330, H⟩ := chk_of H
        refine reg hP hn hm [(5, .app 9 ([(⟨(⟨0, 0, 0⟩ : Tbound_Key), a0.f3⟩ : Trank_Cell)].map erank_Cell)), (6, .app 10 ((x1327 ++ [(⟨(⟨0, 0, 0⟩ : Tbound_Key), a0.f3⟩ : Trank_Cell)]).map erank_Cell))] [1, 3] [7, 10] ⟨[(1, .ptr 7 0 0), (3, .own 10)], [(7, some (.box 35 (aHist a0))), (10, some (.row 4 47 ((x1327 ++ [(⟨(⟨0, 0, 0⟩ : Tbound_Key), a0.f3⟩ : Trank_Cell)]).map erank_Cell)))], 0⟩ [[(⟨(⟨0, 0, 0⟩ : Tbound_Key), a0.f3⟩ : Trank_Cell)].map erank_Cell = [[iI .i64 0, iI .i64 0, iI .i64 0, iI .u64 a0.f3]], (x1327 ++ [(⟨(⟨0, 0, 0⟩ : Tbound_Key), a0.f3⟩ : Trank_Cell)]).map erank_Cell = (x1327.map erank_Cell) ++ ([(⟨(⟨0, 0, 0⟩ : Tbound_Key), a0.f3⟩ : Trank_Cell)].map erank_Cell), ∀ c ∈ ([(⟨(⟨0, 0, 0⟩ : Tbound_Key), a0.f3⟩ : Trank_Cell)].map erank_Cell), c.length = 4, ∀ c ∈ ([(⟨(⟨0, 0, 0⟩ : Tbound_Key), a0.f3⟩ : Trank_Cell)].map erank_Cell), leaves (c.map .im) = true, ((x1327.map erank_Cell).length + ([(⟨(⟨0, 0, 0⟩ : Tbound_Key), a0.f3⟩ : Trank_Cell)].map erank_Cell).length) * 32 ≤ 140737488355328] (by kernel_rfl) ⟨by exact rfl, by simp, by exact all_len _ _ _ (fun _ => rfl), by exact all_leaf _ _ (fun _ => rfl), by simpa using c1330, trivial⟩ ?_
        obtain rfl := Option.some.inj H
        exact Exists.intro _ (And.intro (fun _ _ h => h.conv (inv := [(7, 11), (10, 12)]) (vk := []) (e0 := []) (t := ⟨[(1, .ptr 11 0 0), (3, .own 12)], [(11, some (.box 35 (aHist a0))), (12, some (.row 4 47 ((x1327 ++ [(⟨(⟨0, 0, 0⟩ : Tbound_Key), a0.f3⟩ : Trank_Cell)]).map erank_Cell)))], 0⟩) (by kernel_rfl)) (And.intro rfl rfl))
      · replace H := (ifF c1328).symm.trans H
        refine AWp.skip ?_
        obtain rfl := Option.some.inj H
        exact Exists.intro _ (And.intro (fun _ _ h => h.conv (inv := [(7, 11), (8, 12)]) (vk := []) (e0 := []) (t := ⟨[(1, .ptr 11 0 0), (3, .own 12)], [(11, some (.box 35 (aHist a0))), (12, some (.row 4 47 (x1327.map erank_Cell)))], 0⟩) (by kernel_rfl)) (And.intro rfl rfl))
    · obtain ⟨x1331, rfl⟩ : ∃ z, z = o1355 := ⟨_, rfl⟩
      rintro e s ⟨rfl, rfl⟩
      refine AWp.seq ?_
      refine AWp.seq ?_
      refine reg hP hn hm [(2, .any (iV .i64 (a0.f6.length : Int)))] [1, 3, 45, 46, 47] [11, 12] ⟨[(1, .ptr 11 0 0), (3, .own 12), (45, .im (.row (a0.f6.map eBucket))), (46, iV .i64 (a0.f6.length : Int)), (47, iV .i64 0)], [(11, some (.box 35 (aHist a0))), (12, some (.row 4 47 (x1331.map erank_Cell)))], 0⟩ [((a0.f6.map eBucket).length : Int) = (a0.f6.length : Int)] (by kernel_rfl) ⟨by rw [len_map], trivial⟩ ?_
      refine AWp.block ?_
      obtain ⟨o1357, e1358, H⟩ := bind_of H
      refine AWp.loop (LWp.conv (inv := [(11, 16), (12, 17)]) (vk := []) (e0 := []) (t := ⟨[(1, .ptr 16 0 0), (3, .own 17), (45, .im (.row (a0.f6.map eBucket))), (46, iV .i64 (a0.f6.length : Int)), (47, iV .i64 0)], [(16, some (.box 35 (aHist a0))), (17, some (.row 4 47 (x1331.map erank_Cell)))], 0⟩) (by kernel_rfl) ?_)
      refine LWp.mono (Q := fun e s => (match (generalizing := false) o1357 with | x1352 => e = .exit 2 ∧ s = ⟨[(3, .own 21)], [(21, some (.row 4 47 (x1352.map erank_Cell)))], 0⟩)) (LWp.cv (withBody (fun body hbody => ?_))) ?_
      · refine f_rank_Order.l1.partial_correctness a0 (motive := fun x1341 x1342 o1357 => LWp Γ body (fun e s => ∃ t, Cv Γ s t ∧ (match (generalizing := false) o1357 with | x1352 => e = .exit 2 ∧ t = ⟨[(3, .own 21)], [(21, some (.row 4 47 (x1352.map erank_Cell)))], 0⟩)) ⟨[(1, .ptr 16 0 0), (3, .own 17), (45, .im (.row (a0.f6.map eBucket))), (46, iV .i64 (a0.f6.length : Int)), (47, iV .i64 x1342)], [(16, some (.box 35 (aHist a0))), (17, some (.row 4 47 (x1341.map erank_Cell)))], 0⟩) ?_ _ _ _ e1358
        clear H e1358 o1357; intro self ih x1341 x1342 o1357 H
        subst hbody
        refine LWp.round ?_
        refine AWp.seq ?_
        refine reg hP hn hm [] [1, 3, 45, 46, 47, 48] [16, 17] ⟨[(1, .ptr 16 0 0), (3, .own 17), (45, .im (.row (a0.f6.map eBucket))), (46, iV .i64 (a0.f6.length : Int)), (47, iV .i64 x1342), (48, bV (decide (x1342 < (a0.f6.length : Int))))], [(16, some (.box 35 (aHist a0))), (17, some (.row 4 47 (x1341.map erank_Cell)))], 0⟩ [] (by kernel_rfl) trivial ?_
        refine AWp.seq ?_
        refine AWp.cond (decide (x1342 < (a0.f6.length : Int))) rfl (fun c1343 => ?_) (fun c1343 => ?_)
        · replace H := (ifT c1343).symm.trans H
          refine AWp.skip ?_
          refine AWp.seq ?_
          refine AWp.block ?_
          refine AWp.seq ?_
          obtain ⟨b1347, p1348, q1349, H⟩ := at_of H
          refine reg hP hn hm [(0, .c (eBucket b1347)), (2, .k 18)] [1, 3, 6, 45, 46, 47] [16, 17, 18] ⟨[(1, .ptr 16 0 0), (3, .own 17), (6, .ptr 18 0 0), (45, .im (.row (a0.f6.map eBucket))), (46, iV .i64 (a0.f6.length : Int)), (47, iV .i64 x1342)], [(16, some (.box 35 (aHist a0))), (17, some (.row 4 47 (x1341.map erank_Cell))), (18, some (.box 127 (aBucket b1347)))], 0⟩ [0 ≤ x1342, (a0.f6.map eBucket)[(Int.toNat (x1342))]? = some (eBucket b1347)] (by kernel_rfl) ⟨by exact p1348, by exact el_map eBucket q1349, trivial⟩ ?_
          obtain ⟨c1351, H⟩ := chk_of H
          refine reg hP hn hm [(9, .app 19 ([(⟨(⟨1, a0.f1, b1347.f0⟩ : Tbound_Key), b1347.f1⟩ : Trank_Cell)].map erank_Cell)), (10, .app 20 ((x1341 ++ [(⟨(⟨1, a0.f1, b1347.f0⟩ : Tbound_Key), b1347.f1⟩ : Trank_Cell)]).map erank_Cell))] [1, 3, 45, 46, 47] [16, 20] ⟨[(1, .ptr 16 0 0), (3, .own 20), (45, .im (.row (a0.f6.map eBucket))), (46, iV .i64 (a0.f6.length : Int)), (47, iV .i64 x1342)], [(16, some (.box 35 (aHist a0))), (20, some (.row 4 47 ((x1341 ++ [(⟨(⟨1, a0.f1, b1347.f0⟩ : Tbound_Key), b1347.f1⟩ : Trank_Cell)]).map erank_Cell)))], 0⟩ [[(⟨(⟨1, a0.f1, b1347.f0⟩ : Tbound_Key), b1347.f1⟩ : Trank_Cell)].map erank_Cell = [[iI .i64 1, iI .i64 a0.f1, iI .i64 b1347.f0, iI .u64 b1347.f1]], (x1341 ++ [(⟨(⟨1, a0.f1, b1347.f0⟩ : Tbound_Key), b1347.f1⟩ : Trank_Cell)]).map erank_Cell = (x1341.map erank_Cell) ++ ([(⟨(⟨1, a0.f1, b1347.f0⟩ : Tbound_Key), b1347.f1⟩ : Trank_Cell)].map erank_Cell), ∀ c ∈ ([(⟨(⟨1, a0.f1, b1347.f0⟩ : Tbound_Key), b1347.f1⟩ : Trank_Cell)].map erank_Cell), c.length = 4, ∀ c ∈ ([(⟨(⟨1, a0.f1, b1347.f0⟩ : Tbound_Key), b1347.f1⟩ : Trank_Cell)].map erank_Cell), leaves (c.map .im) = true, ((x1341.map erank_Cell).length + ([(⟨(⟨1, a0.f1, b1347.f0⟩ : Tbound_Key), b1347.f1⟩ : Trank_Cell)].map erank_Cell).length) * 32 ≤ 140737488355328] (by kernel_rfl) ⟨by exact rfl, by simp, by exact all_len _ _ _ (fun _ => rfl), by exact all_leaf _ _ (fun _ => rfl), by simpa using c1351, trivial⟩ ?_
          refine reg hP hn hm [] [1, 3, 45, 46, 47] [16, 20] ⟨[(1, .ptr 16 0 0), (3, .own 20), (45, .im (.row (a0.f6.map eBucket))), (46, iV .i64 (a0.f6.length : Int)), (47, iV .i64 (IntKind.i64.wrap (x1342 + (1 : Int))))], [(16, some (.box 35 (aHist a0))), (20, some (.row 4 47 ((x1341 ++ [(⟨(⟨1, a0.f1, b1347.f0⟩ : Tbound_Key), b1347.f1⟩ : Trank_Cell)]).map erank_Cell)))], 0⟩ [] (by kernel_rfl) trivial ?_
          exact LWp.conv (inv := [(16, 16), (20, 17)]) (vk := []) (e0 := []) (t := ⟨[(1, .ptr 16 0 0), (3, .own 17), (45, .im (.row (a0.f6.map eBucket))), (46, iV .i64 (a0.f6.length : Int)), (47, iV .i64 (IntKind.i64.wrap (x1342 + (1 : Int))))], [(16, some (.box 35 (aHist a0))), (17, some (.row 4 47 ((x1341 ++ [(⟨(⟨1, a0.f1, b1347.f0⟩ : Tbound_Key), b1347.f1⟩ : Trank_Cell)]).map erank_Cell)))], 0⟩) (by kernel_rfl) (ih _ _ _ H)
        · replace H := (ifF c1343).symm.trans H
          refine AWp.exit ?_
          obtain rfl := Option.some.inj H
          exact Exists.intro _ (And.intro (fun _ _ h => h.conv (inv := [(17, 21)]) (vk := []) (e0 := []) (t := ⟨[(3, .own 21)], [(21, some (.row 4 47 (x1341.map erank_Cell)))], 0⟩) (by kernel_rfl)) (And.intro rfl rfl))
      · obtain ⟨x1352, rfl⟩ : ∃ z, z = o1357 := ⟨_, rfl⟩
        rintro e s ⟨rfl, rfl⟩
        refine AWp.seq ?_
        refine reg hP hn hm [] [2] [21] ⟨[(2, .own 21)], [(21, some (.row 4 47 (x1352.map erank_Cell)))], 0⟩ [] (by kernel_rfl) trivial ?_
        refine AWp.conv (inv := [(21, 0)]) (vk := []) (e0 := []) (t := ⟨[(2, .own 0)], [(0, some (.row 4 47 (x1352.map erank_Cell)))], 0⟩) (by kernel_rfl) ?_
        refine AWp.ret ?_
        obtain rfl := Option.some.inj H
        exact Exists.intro _ (And.intro (fun _ _ h => h) (And.intro (.inl rfl) (And.intro rfl (And.intro (by kernel_rfl) (by kernel_rfl)))))
def f_rank_At.l0 (t1361 : List Trank_Cell) (x1371 : Int) (x1372 : Int) : Option ((Tbound_Key × Int) ⊕ Unit) := if (decide (x1372 < (t1361.length : Int))) = true then ((at? t1361 x1372) >>= fun b1377 => if (decide (x1371 ≤ b1377.f1)) = true then (some (.inl (b1377.f0, 0))) else (f_rank_At.l0 t1361 (IntKind.u64.wrap (x1371 - b1377.f1)) (IntKind.i64.wrap (x1372 + (1 : Int))))) else (some (.inr ()))
partial_fixpoint
def f_rank_At.f (a0 : THist) (a1 : Int) : Option (Tbound_Key × Int) := if (a0.f4 == (0 : Int)) = true then (some ((⟨0, 0, 0⟩ : Tbound_Key), 30)) else (((if (decide (a1 < (1 : Int))) = true then (some true) else (some (decide (a1 > a0.f4)))) : Option (Bool)) >>= fun x1305 => if x1305 = true then (some ((⟨0, 0, 0⟩ : Tbound_Key), 4)) else ((f_rank_Order.f a0) >>= fun t1361 => (f_rank_At.l0 t1361 a1 0) >>= fun oo => match oo with | .inl rr => (some rr) | .inr _ => (some ((⟨0, 0, 0⟩ : Tbound_Key), 4))))
theorem f_rank_At.ok (a0 : THist) (a1 : Int) (r : Tbound_Key × Int) (H : f_rank_At.f a0 a1 = some r) : Pv.Fn Try.prog 22 [.agg (aHist a0), iV .u64 a1] [] 0 (fun x o => x = .tup [.agg (abound_Key (r.1)), iV .i64 r.2] ∧ o = []) := by
  unfold f_rank_At.f at H
  refine Fn.bodyK [] Try.func22 rfl rfl (fun Γ hP hn => ?_)
  have hm : Try.prog.follows .mixedOrders = true := by kernel_rfl
  replace hn : Γ.n = 42 := hn
  refine AWp.seq ?_
  refine reg hP hn hm [(0, .k 0), (1, .k 1)] [1, 2, 4] [0, 1] ⟨[(1, iV .u64 a1), (2, .ptr 0 0 0), (4, .ptr 1 0 0)], [(0, some (.box 35 (aHist a0))), (1, some (.box 45 (abound_Key ⟨0, 0, 0⟩)))], 0⟩ [] (by kernel_rfl) trivial ?_
  refine AWp.seq ?_
  refine AWp.block ?_
  refine AWp.seq ?_
  refine reg hP hn hm [] [1, 2, 4, 8] [0, 1] ⟨[(1, iV .u64 a1), (2, .ptr 0 0 0), (4, .ptr 1 0 0), (8, bV (a0.f4 == (0 : Int)))], [(0, some (.box 35 (aHist a0))), (1, some (.box 45 (abound_Key ⟨0, 0, 0⟩)))], 0⟩ [] (by kernel_rfl) trivial ?_
  refine AWp.cond (a0.f4 == (0 : Int)) rfl (fun c1302 => ?_) (fun c1302 => ?_)
  · replace H := (ifT c1302).symm.trans H
    refine AWp.seq ?_
    refine reg hP hn hm [] [4, 5] [1] ⟨[(4, .ptr 1 0 0), (5, iV .i64 30)], [(1, some (.box 45 (abound_Key ⟨0, 0, 0⟩)))], 0⟩ [] (by kernel_rfl) trivial ?_
    refine AWp.conv (inv := [(1, 0)]) (vk := []) (e0 := []) (t := ⟨[(4, .ptr 0 0 0), (5, iV .i64 30)], [(0, some (.box 45 (abound_Key ((⟨0, 0, 0⟩ : Tbound_Key)))))], 0⟩) (by kernel_rfl) ?_
    refine AWp.ret ?_
    obtain rfl := Option.some.inj H
    exact Exists.intro _ (And.intro (fun _ _ h => h) (And.intro (.inl rfl) (And.intro rfl (And.intro (by kernel_rfl) (by kernel_rfl)))))
  · replace H := (ifF c1302).symm.trans H
    refine AWp.seq ?_
    obtain ⟨o1381, e1382, H⟩ := bind_of H
    refine AWp.mono (Q := fun e s => (match (generalizing := false) o1381 with | x1305 => e = .normal ∧ s = ⟨[(1, iV .u64 a1), (2, .ptr 2 0 0), (4, .ptr 3 0 0), (13, bV x1305)], [(2, some (.box 35 (aHist a0))), (3, some (.box 45 (abound_Key ⟨0, 0, 0⟩)))], 0⟩)) (AWp.cv ?_) ?_
    · replace H := e1382; clear e1382
      rcases Bool.eq_false_or_eq_true (decide (a1 < (1 : Int))) with c1304 | c1304
      · replace H := (ifT c1304).symm.trans H
        refine reg hP hn hm [(2, .b true)] [1, 2, 4, 13] [0, 1] ⟨[(1, iV .u64 a1), (2, .ptr 0 0 0), (4, .ptr 1 0 0), (13, bV true)], [(0, some (.box 35 (aHist a0))), (1, some (.box 45 (abound_Key ⟨0, 0, 0⟩)))], 0⟩ [(decide (a1 < (1 : Int))) = true] (by kernel_rfl) ⟨by exact c1304, trivial⟩ ?_
        obtain rfl := Option.some.inj H
        exact Exists.intro _ (And.intro (fun _ _ h => h.conv (inv := [(0, 2), (1, 3)]) (vk := []) (e0 := []) (t := ⟨[(1, iV .u64 a1), (2, .ptr 2 0 0), (4, .ptr 3 0 0), (13, bV true)], [(2, some (.box 35 (aHist a0))), (3, some (.box 45 (abound_Key ⟨0, 0, 0⟩)))], 0⟩) (by kernel_rfl)) (And.intro rfl rfl))
      · replace H := (ifF c1304).symm.trans H
        refine reg hP hn hm [(2, .b false)] [1, 2, 4, 13] [0, 1] ⟨[(1, iV .u64 a1), (2, .ptr 0 0 0), (4, .ptr 1 0 0), (13, bV (decide (a1 > a0.f4)))], [(0, some (.box 35 (aHist a0))), (1, some (.box 45 (abound_Key ⟨0, 0, 0⟩)))], 0⟩ [(decide (a1 < (1 : Int))) = false] (by kernel_rfl) ⟨by exact c1304, trivial⟩ ?_
        obtain rfl := Option.some.inj H
        exact Exists.intro _ (And.intro (fun _ _ h => h.conv (inv := [(0, 2), (1, 3)]) (vk := []) (e0 := []) (t := ⟨[(1, iV .u64 a1), (2, .ptr 2 0 0), (4, .ptr 3 0 0), (13, bV (decide (a1 > a0.f4)))], [(2, some (.box 35 (aHist a0))), (3, some (.box 45 (abound_Key ⟨0, 0, 0⟩)))], 0⟩) (by kernel_rfl)) (And.intro rfl rfl))
    · obtain ⟨x1305, rfl⟩ : ∃ z, z = o1381 := ⟨_, rfl⟩
      rintro e s ⟨rfl, rfl⟩
      refine AWp.cond x1305 rfl (fun c1306 => ?_) (fun c1306 => ?_)
      · replace H := (ifT c1306).symm.trans H
        refine AWp.seq ?_
        refine reg hP hn hm [] [4, 5] [3] ⟨[(4, .ptr 3 0 0), (5, iV .i64 4)], [(3, some (.box 45 (abound_Key ⟨0, 0, 0⟩)))], 0⟩ [] (by kernel_rfl) trivial ?_
        refine AWp.conv (inv := [(3, 0)]) (vk := []) (e0 := []) (t := ⟨[(4, .ptr 0 0 0), (5, iV .i64 4)], [(0, some (.box 45 (abound_Key ((⟨0, 0, 0⟩ : Tbound_Key)))))], 0⟩) (by kernel_rfl) ?_
        refine AWp.ret ?_
        obtain rfl := Option.some.inj H
        exact Exists.intro _ (And.intro (fun _ _ h => h) (And.intro (.inl rfl) (And.intro rfl (And.intro (by kernel_rfl) (by kernel_rfl)))))
      · replace H := (ifF c1306).symm.trans H
        refine AWp.skip ?_
        refine AWp.seq ?_
        refine AWp.seq ?_
        obtain ⟨t1361, e1362, H⟩ := bind_of H
        refine reg hP hn hm [(1, .call [] [(0, 4)] [] [4] 0 (.own 0) [(0, some (.row 4 47 (t1361.map erank_Cell)))]), (2, .any (iV .i64 (t1361.length : Int)))] [1, 4, 24, 25, 26] [3, 4] ⟨[(1, iV .u64 a1), (4, .ptr 3 0 0), (24, .own 4), (25, iV .i64 (t1361.length : Int)), (26, iV .i64 0)], [(3, some (.box 45 (abound_Key ⟨0, 0, 0⟩))), (4, some (.row 4 47 (t1361.map erank_Cell)))], 0⟩ [Enters Try.prog 21, Pv.Fn Try.prog 21 [.agg (aHist a0)] [] 0 (fun r o => r = .own 0 ∧ o = [(0, some (.row 4 47 (t1361.map erank_Cell)))]), ((t1361.map erank_Cell).length : Int) = (t1361.length : Int)] (by kernel_rfl) ⟨by exact Try.call21, by exact f_rank_Order.ok a0 t1361 e1362, by rw [len_map], trivial⟩ ?_
        refine AWp.block ?_
        obtain ⟨o1383, e1384, H⟩ := bind_of H
        refine AWp.loop (LWp.conv (inv := [(3, 6), (4, 7)]) (vk := []) (e0 := []) (t := ⟨[(1, iV .u64 a1), (4, .ptr 6 0 0), (24, .own 7), (25, iV .i64 (t1361.length : Int)), (26, iV .i64 0)], [(6, some (.box 45 (abound_Key ⟨0, 0, 0⟩))), (7, some (.row 4 47 (t1361.map erank_Cell)))], 0⟩) (by kernel_rfl) ?_)
        refine LWp.mono (Q := fun e s => (match (generalizing := false) o1383 with | .inl rr => e = .ret ∧ s.floor = 0 ∧ resOf Try.prog Try.f22 s = some (.tup [.agg (abound_Key (rr.1)), iV .i64 rr.2]) ∧ ([] : List (Nat × Option MObj)) = [] | .inr _ => e = .exit 1 ∧ s = ⟨[(4, .ptr 9 0 0)], [(9, some (.box 45 (abound_Key ⟨0, 0, 0⟩)))], 0⟩)) (LWp.cv (withBody (fun body hbody => ?_))) ?_
        · refine f_rank_At.l0.partial_correctness t1361 (motive := fun x1371 x1372 o1383 => LWp Γ body (fun e s => ∃ t, Cv Γ s t ∧ (match (generalizing := false) o1383 with | .inl rr => e = .ret ∧ t.floor = 0 ∧ resOf Try.prog Try.f22 t = some (.tup [.agg (abound_Key (rr.1)), iV .i64 rr.2]) ∧ ([] : List (Nat × Option MObj)) = [] | .inr _ => e = .exit 1 ∧ t = ⟨[(4, .ptr 9 0 0)], [(9, some (.box 45 (abound_Key ⟨0, 0, 0⟩)))], 0⟩)) ⟨[(1, iV .u64 x1371), (4, .ptr 6 0 0), (24, .own 7), (25, iV .i64 (t1361.length : Int)), (26, iV .i64 x1372)], [(6, some (.box 45 (abound_Key ⟨0, 0, 0⟩))), (7, some (.row 4 47 (t1361.map erank_Cell)))], 0⟩) ?_ _ _ _ e1384
          clear H e1384 o1383; intro self ih x1371 x1372 o1383 H
          subst hbody
          refine LWp.round ?_
          refine AWp.seq ?_
          refine reg hP hn hm [] [1, 4, 24, 25, 26, 27] [6, 7] ⟨[(1, iV .u64 x1371), (4, .ptr 6 0 0), (24, .own 7), (25, iV .i64 (t1361.length : Int)), (26, iV .i64 x1372), (27, bV (decide (x1372 < (t1361.length : Int))))], [(6, some (.box 45 (abound_Key ⟨0, 0, 0⟩))), (7, some (.row 4 47 (t1361.map erank_Cell)))], 0⟩ [] (by kernel_rfl) trivial ?_
          refine AWp.seq ?_
          refine AWp.cond (decide (x1372 < (t1361.length : Int))) rfl (fun c1373 => ?_) (fun c1373 => ?_)
          · replace H := (ifT c1373).symm.trans H
            refine AWp.skip ?_
            refine AWp.seq ?_
            refine AWp.block ?_
            refine AWp.seq ?_
            obtain ⟨b1377, p1378, q1379, H⟩ := at_of H
            refine reg hP hn hm [(1, .c (erank_Cell b1377)), (2, .k 8)] [1, 4, 7, 24, 25, 26] [6, 7, 8] ⟨[(1, iV .u64 x1371), (4, .ptr 6 0 0), (7, .ptr 8 0 0), (24, .own 7), (25, iV .i64 (t1361.length : Int)), (26, iV .i64 x1372)], [(6, some (.box 45 (abound_Key ⟨0, 0, 0⟩))), (7, some (.row 4 47 (t1361.map erank_Cell))), (8, some (.box 47 [iV .i64 b1377.f0.f0, iV .i64 b1377.f0.f1, iV .i64 b1377.f0.f2, iV .u64 b1377.f1]))], 0⟩ [0 ≤ x1372, x1372 < (((t1361.map erank_Cell).length : Nat) : Int), (t1361.map erank_Cell)[(Int.toNat (x1372))]? = some (erank_Cell b1377)] (by kernel_rfl) ⟨by exact p1378, by exact el_lt erank_Cell p1378 q1379, by exact el_map erank_Cell q1379, trivial⟩ ?_
            refine AWp.seq ?_
            refine AWp.seq ?_
            refine reg hP hn hm [] [1, 4, 7, 24, 25, 26, 33] [6, 7, 8] ⟨[(1, iV .u64 x1371), (4, .ptr 6 0 0), (7, .ptr 8 0 0), (24, .own 7), (25, iV .i64 (t1361.length : Int)), (26, iV .i64 x1372), (33, bV (decide (x1371 ≤ b1377.f1)))], [(6, some (.box 45 (abound_Key ⟨0, 0, 0⟩))), (7, some (.row 4 47 (t1361.map erank_Cell))), (8, some (.box 47 [iV .i64 b1377.f0.f0, iV .i64 b1377.f0.f1, iV .i64 b1377.f0.f2, iV .u64 b1377.f1]))], 0⟩ [] (by kernel_rfl) trivial ?_
            refine AWp.cond (decide (x1371 ≤ b1377.f1)) rfl (fun c1380 => ?_) (fun c1380 => ?_)
            · replace H := (ifT c1380).symm.trans H
              refine AWp.seq ?_
              refine reg hP hn hm [] [4, 5] [6] ⟨[(4, .ptr 6 0 0), (5, iV .i64 0)], [(6, some (.box 45 (abound_Key b1377.f0)))], 0⟩ [] (by kernel_rfl) trivial ?_
              refine AWp.conv (inv := [(6, 0)]) (vk := []) (e0 := []) (t := ⟨[(4, .ptr 0 0 0), (5, iV .i64 0)], [(0, some (.box 45 (abound_Key (b1377.f0))))], 0⟩) (by kernel_rfl) ?_
              refine AWp.ret ?_
              obtain rfl := Option.some.inj H
              exact Exists.intro _ (And.intro (fun _ _ h => h) (And.intro rfl (And.intro rfl (And.intro (by kernel_rfl) (by kernel_rfl)))))
            · replace H := (ifF c1380).symm.trans H
              refine AWp.skip ?_
              refine reg hP hn hm [] [1, 4, 24, 25, 26] [6, 7] ⟨[(1, iV .u64 (IntKind.u64.wrap (x1371 - b1377.f1))), (4, .ptr 6 0 0), (24, .own 7), (25, iV .i64 (t1361.length : Int)), (26, iV .i64 x1372)], [(6, some (.box 45 (abound_Key ⟨0, 0, 0⟩))), (7, some (.row 4 47 (t1361.map erank_Cell)))], 0⟩ [] (by kernel_rfl) trivial ?_
              refine reg hP hn hm [] [1, 4, 24, 25, 26] [6, 7] ⟨[(1, iV .u64 (IntKind.u64.wrap (x1371 - b1377.f1))), (4, .ptr 6 0 0), (24, .own 7), (25, iV .i64 (t1361.length : Int)), (26, iV .i64 (IntKind.i64.wrap (x1372 + (1 : Int))))], [(6, some (.box 45 (abound_Key ⟨0, 0, 0⟩))), (7, some (.row 4 47 (t1361.map erank_Cell)))], 0⟩ [] (by kernel_rfl) trivial ?_
              exact LWp.conv (inv := [(6, 6), (7, 7)]) (vk := []) (e0 := []) (t := ⟨[(1, iV .u64 (IntKind.u64.wrap (x1371 - b1377.f1))), (4, .ptr 6 0 0), (24, .own 7), (25, iV .i64 (t1361.length : Int)), (26, iV .i64 (IntKind.i64.wrap (x1372 + (1 : Int))))], [(6, some (.box 45 (abound_Key ⟨0, 0, 0⟩))), (7, some (.row 4 47 (t1361.map erank_Cell)))], 0⟩) (by kernel_rfl) (ih _ _ _ H)
          · replace H := (ifF c1373).symm.trans H
            refine AWp.exit ?_
            obtain rfl := Option.some.inj H
            exact Exists.intro _ (And.intro (fun _ _ h => h.conv (inv := [(6, 9)]) (vk := []) (e0 := []) (t := ⟨[(4, .ptr 9 0 0)], [(9, some (.box 45 (abound_Key ⟨0, 0, 0⟩)))], 0⟩) (by kernel_rfl)) (And.intro rfl rfl))
        · rcases o1383 with rr | _
          · skip
            rintro e s ⟨rfl, hfl, hres⟩
            obtain rfl := Option.some.inj H
            exact Exists.intro _ (And.intro (fun _ _ h => h) (And.intro (.inl rfl) (And.intro hfl hres)))
          · skip
            rintro e s ⟨rfl, rfl⟩
            refine AWp.seq ?_
            refine reg hP hn hm [] [4, 5] [9] ⟨[(4, .ptr 9 0 0), (5, iV .i64 4)], [(9, some (.box 45 (abound_Key ⟨0, 0, 0⟩)))], 0⟩ [] (by kernel_rfl) trivial ?_
            refine AWp.conv (inv := [(9, 0)]) (vk := []) (e0 := []) (t := ⟨[(4, .ptr 0 0 0), (5, iV .i64 4)], [(0, some (.box 45 (abound_Key ((⟨0, 0, 0⟩ : Tbound_Key)))))], 0⟩) (by kernel_rfl) ?_
            refine AWp.ret ?_
            obtain rfl := Option.some.inj H
            exact Exists.intro _ (And.intro (fun _ _ h => h) (And.intro (.inl rfl) (And.intro rfl (And.intro (by kernel_rfl) (by kernel_rfl)))))
def f_rank_Quantile.f (a0 : THist) (a1 : Int) (a2 : Int) : Option (Tbound_Key × Int) := ((if (a2 == (0 : Int)) = true then (some true) else (some (decide (a1 > a2)))) : Option (Bool)) >>= fun x1197 => if x1197 = true then (some ((⟨0, 0, 0⟩ : Tbound_Key), 1)) else (if (a0.f4 == (0 : Int)) = true then (some ((⟨0, 0, 0⟩ : Tbound_Key), 30)) else ((f_num_Mul.f a1 a0.f4) >>= fun t1297 => (f_num_Wide_Ceil.f (t1297) a2) >>= fun t1299 => if (t1299.2 != (0 : Int)) = true then (some ((⟨0, 0, 0⟩ : Tbound_Key), t1299.2)) else ((f_rank_At.f a0 (if (1 : Int) > t1299.1 then (1 : Int) else t1299.1)) >>= fun t1387 => some ((t1387.1), t1387.2))))
theorem f_rank_Quantile.ok (a0 : THist) (a1 : Int) (a2 : Int) (r : Tbound_Key × Int) (H : f_rank_Quantile.f a0 a1 a2 = some r) : Pv.Fn Try.prog 27 [.agg (aHist a0), iV .u64 a1, iV .u64 a2] [] 0 (fun x o => x = .tup [.agg (abound_Key (r.1)), iV .i64 r.2] ∧ o = []) := by
  unfold f_rank_Quantile.f at H
  refine Fn.bodyK [] Try.func27 rfl rfl (fun Γ hP hn => ?_)
  have hm : Try.prog.follows .mixedOrders = true := by kernel_rfl
  replace hn : Γ.n = 43 := hn
  refine AWp.seq ?_
  refine reg hP hn hm [(0, .k 0), (1, .k 1)] [1, 2, 3, 6] [0, 1] ⟨[(1, iV .u64 a1), (2, iV .u64 a2), (3, .ptr 0 0 0), (6, .ptr 1 0 0)], [(0, some (.box 35 (aHist a0))), (1, some (.box 45 (abound_Key ⟨0, 0, 0⟩)))], 0⟩ [] (by kernel_rfl) trivial ?_
  refine AWp.seq ?_
  refine AWp.block ?_
  refine AWp.seq ?_
  obtain ⟨o1389, e1390, H⟩ := bind_of H
  refine AWp.mono (Q := fun e s => (match (generalizing := false) o1389 with | x1197 => e = .normal ∧ s = ⟨[(1, iV .u64 a1), (2, iV .u64 a2), (3, .ptr 2 0 0), (6, .ptr 3 0 0), (10, bV x1197)], [(2, some (.box 35 (aHist a0))), (3, some (.box 45 (abound_Key ⟨0, 0, 0⟩)))], 0⟩)) (AWp.cv ?_) ?_
  · replace H := e1390; clear e1390
    rcases Bool.eq_false_or_eq_true (a2 == (0 : Int)) with c1196 | c1196
    · replace H := (ifT c1196).symm.trans H
      refine reg hP hn hm [(2, .b true)] [1, 2, 3, 6, 10] [0, 1] ⟨[(1, iV .u64 a1), (2, iV .u64 a2), (3, .ptr 0 0 0), (6, .ptr 1 0 0), (10, bV true)], [(0, some (.box 35 (aHist a0))), (1, some (.box 45 (abound_Key ⟨0, 0, 0⟩)))], 0⟩ [(a2 == (0 : Int)) = true] (by kernel_rfl) ⟨by exact c1196, trivial⟩ ?_
      obtain rfl := Option.some.inj H
      exact Exists.intro _ (And.intro (fun _ _ h => h.conv (inv := [(0, 2), (1, 3)]) (vk := []) (e0 := []) (t := ⟨[(1, iV .u64 a1), (2, iV .u64 a2), (3, .ptr 2 0 0), (6, .ptr 3 0 0), (10, bV true)], [(2, some (.box 35 (aHist a0))), (3, some (.box 45 (abound_Key ⟨0, 0, 0⟩)))], 0⟩) (by kernel_rfl)) (And.intro rfl rfl))
    · replace H := (ifF c1196).symm.trans H
      refine reg hP hn hm [(2, .b false)] [1, 2, 3, 6, 10] [0, 1] ⟨[(1, iV .u64 a1), (2, iV .u64 a2), (3, .ptr 0 0 0), (6, .ptr 1 0 0), (10, bV (decide (a1 > a2)))], [(0, some (.box 35 (aHist a0))), (1, some (.box 45 (abound_Key ⟨0, 0, 0⟩)))], 0⟩ [(a2 == (0 : Int)) = false] (by kernel_rfl) ⟨by exact c1196, trivial⟩ ?_
      obtain rfl := Option.some.inj H
      exact Exists.intro _ (And.intro (fun _ _ h => h.conv (inv := [(0, 2), (1, 3)]) (vk := []) (e0 := []) (t := ⟨[(1, iV .u64 a1), (2, iV .u64 a2), (3, .ptr 2 0 0), (6, .ptr 3 0 0), (10, bV (decide (a1 > a2)))], [(2, some (.box 35 (aHist a0))), (3, some (.box 45 (abound_Key ⟨0, 0, 0⟩)))], 0⟩) (by kernel_rfl)) (And.intro rfl rfl))
  · obtain ⟨x1197, rfl⟩ : ∃ z, z = o1389 := ⟨_, rfl⟩
    rintro e s ⟨rfl, rfl⟩
    refine AWp.cond x1197 rfl (fun c1198 => ?_) (fun c1198 => ?_)
    · replace H := (ifT c1198).symm.trans H
      refine AWp.seq ?_
      refine reg hP hn hm [] [6, 7] [3] ⟨[(6, .ptr 3 0 0), (7, iV .i64 1)], [(3, some (.box 45 (abound_Key ⟨0, 0, 0⟩)))], 0⟩ [] (by kernel_rfl) trivial ?_
      refine AWp.conv (inv := [(3, 0)]) (vk := []) (e0 := []) (t := ⟨[(6, .ptr 0 0 0), (7, iV .i64 1)], [(0, some (.box 45 (abound_Key ((⟨0, 0, 0⟩ : Tbound_Key)))))], 0⟩) (by kernel_rfl) ?_
      refine AWp.ret ?_
      obtain rfl := Option.some.inj H
      exact Exists.intro _ (And.intro (fun _ _ h => h) (And.intro (.inl rfl) (And.intro rfl (And.intro (by kernel_rfl) (by kernel_rfl)))))
    · replace H := (ifF c1198).symm.trans H
      refine AWp.seq ?_
      refine reg hP hn hm [] [1, 2, 3, 6, 19] [2, 3] ⟨[(1, iV .u64 a1), (2, iV .u64 a2), (3, .ptr 2 0 0), (6, .ptr 3 0 0), (19, bV (a0.f4 == (0 : Int)))], [(2, some (.box 35 (aHist a0))), (3, some (.box 45 (abound_Key ⟨0, 0, 0⟩)))], 0⟩ [] (by kernel_rfl) trivial ?_
      refine AWp.cond (a0.f4 == (0 : Int)) rfl (fun c1199 => ?_) (fun c1199 => ?_)
      · replace H := (ifT c1199).symm.trans H
        refine AWp.seq ?_
        refine reg hP hn hm [] [6, 7] [3] ⟨[(6, .ptr 3 0 0), (7, iV .i64 30)], [(3, some (.box 45 (abound_Key ⟨0, 0, 0⟩)))], 0⟩ [] (by kernel_rfl) trivial ?_
        refine AWp.conv (inv := [(3, 0)]) (vk := []) (e0 := []) (t := ⟨[(6, .ptr 0 0 0), (7, iV .i64 30)], [(0, some (.box 45 (abound_Key ((⟨0, 0, 0⟩ : Tbound_Key)))))], 0⟩) (by kernel_rfl) ?_
        refine AWp.ret ?_
        obtain rfl := Option.some.inj H
        exact Exists.intro _ (And.intro (fun _ _ h => h) (And.intro (.inl rfl) (And.intro rfl (And.intro (by kernel_rfl) (by kernel_rfl)))))
      · replace H := (ifF c1199).symm.trans H
        refine AWp.skip ?_
        refine AWp.seq ?_
        obtain ⟨t1297, e1298, H⟩ := bind_of H
        obtain ⟨t1299, e1300, H⟩ := bind_of H
        refine reg hP hn hm [(3, .call [] [] [] [] 0 (.agg (anum_Wide (t1297))) []), (5, .call [] [] [] [] 0 (.tup [iV .u64 t1299.1, iV .i64 t1299.2]) [])] [3, 6, 8, 9] [2, 3] ⟨[(3, .ptr 2 0 0), (6, .ptr 3 0 0), (8, iV .u64 t1299.1), (9, iV .i64 t1299.2)], [(2, some (.box 35 (aHist a0))), (3, some (.box 45 (abound_Key ⟨0, 0, 0⟩)))], 0⟩ [Enters Try.prog 70, Pv.Fn Try.prog 70 [iV .u64 a1, iV .u64 a0.f4] [] 0 (fun r o => r = .agg (anum_Wide (t1297)) ∧ o = []), Enters Try.prog 71, Pv.Fn Try.prog 71 [.agg (anum_Wide (t1297)), iV .u64 a2] [] 0 (fun r o => r = .tup [iV .u64 t1299.1, iV .i64 t1299.2] ∧ o = [])] (by kernel_rfl) ⟨by exact Try.call70, by exact f_num_Mul.ok a1 a0.f4 t1297 e1298, by exact Try.call71, by exact f_num_Wide_Ceil.ok (t1297) a2 t1299 e1300, trivial⟩ ?_
        refine AWp.seq ?_
        refine AWp.seq ?_
        refine reg hP hn hm [] [3, 6, 8, 9, 34] [2, 3] ⟨[(3, .ptr 2 0 0), (6, .ptr 3 0 0), (8, iV .u64 t1299.1), (9, iV .i64 t1299.2), (34, bV (t1299.2 != (0 : Int)))], [(2, some (.box 35 (aHist a0))), (3, some (.box 45 (abound_Key ⟨0, 0, 0⟩)))], 0⟩ [] (by kernel_rfl) trivial ?_
        refine AWp.cond (t1299.2 != (0 : Int)) rfl (fun c1301 => ?_) (fun c1301 => ?_)
        · replace H := (ifT c1301).symm.trans H
          refine AWp.seq ?_
          refine reg hP hn hm [] [6, 7] [3] ⟨[(6, .ptr 3 0 0), (7, iV .i64 t1299.2)], [(3, some (.box 45 (abound_Key ⟨0, 0, 0⟩)))], 0⟩ [] (by kernel_rfl) trivial ?_
          refine AWp.conv (inv := [(3, 0)]) (vk := []) (e0 := []) (t := ⟨[(6, .ptr 0 0 0), (7, iV .i64 t1299.2)], [(0, some (.box 45 (abound_Key ((⟨0, 0, 0⟩ : Tbound_Key)))))], 0⟩) (by kernel_rfl) ?_
          refine AWp.ret ?_
          obtain rfl := Option.some.inj H
          exact Exists.intro _ (And.intro (fun _ _ h => h) (And.intro (.inl rfl) (And.intro rfl (And.intro (by kernel_rfl) (by kernel_rfl)))))
        · replace H := (ifF c1301).symm.trans H
          refine AWp.skip ?_
          refine AWp.seq ?_
          obtain ⟨t1387, e1388, H⟩ := bind_of H
          refine reg hP hn hm [(2, .more xMax), (3, .call [] [] [] [] 0 (.tup [.agg (abound_Key (t1387.1)), iV .i64 t1387.2]) [])] [6, 7] [3] ⟨[(6, .ptr 3 0 0), (7, iV .i64 t1387.2)], [(3, some (.box 45 (abound_Key (t1387.1))))], 0⟩ [Enters Try.prog 22, Pv.Fn Try.prog 22 [.agg (aHist a0), iV .u64 (if (1 : Int) > t1299.1 then (1 : Int) else t1299.1)] [] 0 (fun r o => r = .tup [.agg (abound_Key (t1387.1)), iV .i64 t1387.2] ∧ o = [])] (by kernel_rfl) ⟨by exact Try.call22, by exact f_rank_At.ok a0 (if (1 : Int) > t1299.1 then (1 : Int) else t1299.1) t1387 e1388, trivial⟩ ?_
          refine AWp.conv (inv := [(3, 0)]) (vk := []) (e0 := []) (t := ⟨[(6, .ptr 0 0 0), (7, iV .i64 t1387.2)], [(0, some (.box 45 (abound_Key ((t1387.1)))))], 0⟩) (by kernel_rfl) ?_
          refine AWp.ret ?_
          obtain rfl := Option.some.inj H
          exact Exists.intro _ (And.intro (fun _ _ h => h) (And.intro (.inl rfl) (And.intro rfl (And.intro (by kernel_rfl) (by kernel_rfl)))))
def f_pluviallaw08_awake.f  : Option (Bool) := (f_hist_Empty.f 0 0) >>= fun t1191 => (f_hist_Make.f (t1191) [(⟨1, 2⟩ : TBucket), (⟨3, 2⟩ : TBucket)] ([] : List TBucket)) >>= fun t1193 => (f_rank_Quantile.f (t1193.1) 1 2) >>= fun t1393 => (f_rank_Quantile.f (t1193.1) 501 1000) >>= fun t1397 => ((if (t1193.2 == (0 : Int)) = true then (if (t1393.2 == (0 : Int)) = true then (if (t1397.2 == (0 : Int)) = true then (if ((((t1393.1).f0) == (1 : Int)) && ((((t1393.1).f1) == (0 : Int)) && ((((t1393.1).f2) == (1 : Int)) && true))) = true then (some ((((t1397.1).f0) == (1 : Int)) && ((((t1397.1).f1) == (0 : Int)) && ((((t1397.1).f2) == (3 : Int)) && true)))) else (some false)) else (some false)) else (some false)) else (some false)) : Option (Bool)) >>= fun x1407 => some x1407
theorem f_pluviallaw08_awake.ok  (r : Bool) (H : f_pluviallaw08_awake.f  = some r) : Pv.Fn Try.prog 20 [] [] 0 (fun x o => x = bV r ∧ o = []) := by
  unfold f_pluviallaw08_awake.f at H
  refine Fn.bodyK [] Try.func20 rfl rfl (fun Γ hP hn => ?_)
  have hm : Try.prog.follows .mixedOrders = true := by kernel_rfl
  replace hn : Γ.n = 45 := hn
  refine AWp.seq ?_
  refine reg hP hn hm [] [] [] ⟨[], [], 0⟩ [] (by kernel_rfl) trivial ?_
  refine AWp.seq ?_
  obtain ⟨t1191, e1192, H⟩ := bind_of H
  obtain ⟨t1193, e1194, H⟩ := bind_of H
  refine reg hP hn hm [(0, .call [] [] [] [] 0 (.agg (aHist (t1191))) []), (3, .app 0 ([(⟨1, 2⟩ : TBucket), (⟨3, 2⟩ : TBucket)].map eBucket)), (4, .call [] [] [0] [] 0 (.tup [.agg (aHist (t1193.1)), iV .i64 t1193.2]) []), (8, .k 1)] [1, 2] [1] ⟨[(1, .ptr 1 0 0), (2, iV .i64 t1193.2)], [(1, some (.box 35 (aHist (t1193.1))))], 0⟩ [Enters Try.prog 69, Pv.Fn Try.prog 69 [iV .i64 0, iV .i64 0] [] 0 (fun r o => r = .agg (aHist (t1191)) ∧ o = []), [(⟨1, 2⟩ : TBucket), (⟨3, 2⟩ : TBucket)].map eBucket = [[iI .i64 1, iI .u64 2], [iI .i64 3, iI .u64 2]], Enters Try.prog 68, Pv.Fn Try.prog 68 [.agg (aHist (t1191)), .im (.row ([(⟨1, 2⟩ : TBucket), (⟨3, 2⟩ : TBucket)].map eBucket)), .im (.row (([] : List TBucket).map eBucket))] [] 0 (fun r o => r = .tup [.agg (aHist (t1193.1)), iV .i64 t1193.2] ∧ o = [])] (by kernel_rfl) ⟨by exact Try.call69, by exact f_hist_Empty.ok 0 0 t1191 e1192, by exact rfl, by exact Try.call68, by exact f_hist_Make.ok (t1191) [(⟨1, 2⟩ : TBucket), (⟨3, 2⟩ : TBucket)] ([] : List TBucket) t1193 e1194, trivial⟩ ?_
  refine AWp.seq ?_
  obtain ⟨t1393, e1394, H⟩ := bind_of H
  refine reg hP hn hm [(1, .call [] [] [] [] 0 (.tup [.agg (abound_Key (t1393.1)), iV .i64 t1393.2]) []), (5, .k 2)] [1, 2, 3, 4] [1, 2] ⟨[(1, .ptr 1 0 0), (2, iV .i64 t1193.2), (3, .ptr 2 0 0), (4, iV .i64 t1393.2)], [(1, some (.box 35 (aHist (t1193.1)))), (2, some (.box 45 (abound_Key (t1393.1))))], 0⟩ [Enters Try.prog 27, Pv.Fn Try.prog 27 [.agg (aHist (t1193.1)), iV .u64 1, iV .u64 2] [] 0 (fun r o => r = .tup [.agg (abound_Key (t1393.1)), iV .i64 t1393.2] ∧ o = [])] (by kernel_rfl) ⟨by exact Try.call27, by exact f_rank_Quantile.ok (t1193.1) 1 2 t1393 e1394, trivial⟩ ?_
  refine AWp.seq ?_
  obtain ⟨t1397, e1398, H⟩ := bind_of H
  refine reg hP hn hm [(1, .call [] [] [] [] 0 (.tup [.agg (abound_Key (t1397.1)), iV .i64 t1397.2]) []), (5, .k 3)] [2, 3, 4, 5, 6] [2, 3] ⟨[(2, iV .i64 t1193.2), (3, .ptr 2 0 0), (4, iV .i64 t1393.2), (5, .ptr 3 0 0), (6, iV .i64 t1397.2)], [(2, some (.box 45 (abound_Key (t1393.1)))), (3, some (.box 45 (abound_Key (t1397.1))))], 0⟩ [Enters Try.prog 27, Pv.Fn Try.prog 27 [.agg (aHist (t1193.1)), iV .u64 501, iV .u64 1000] [] 0 (fun r o => r = .tup [.agg (abound_Key (t1397.1)), iV .i64 t1397.2] ∧ o = [])] (by kernel_rfl) ⟨by exact Try.call27, by exact f_rank_Quantile.ok (t1193.1) 501 1000 t1397 e1398, trivial⟩ ?_
  refine AWp.seq ?_
  obtain ⟨o1408, e1409, H⟩ := bind_of H
  refine AWp.mono (Q := fun e s => (match (generalizing := false) o1408 with | x1407 => e = .normal ∧ s = ⟨[(0, bV x1407)], [], 0⟩)) (AWp.cv ?_) ?_
  · replace H := e1409; clear e1409
    rcases Bool.eq_false_or_eq_true (t1193.2 == (0 : Int)) with c1403 | c1403
    · replace H := (ifT c1403).symm.trans H
      rcases Bool.eq_false_or_eq_true (t1393.2 == (0 : Int)) with c1404 | c1404
      · replace H := (ifT c1404).symm.trans H
        rcases Bool.eq_false_or_eq_true (t1397.2 == (0 : Int)) with c1405 | c1405
        · replace H := (ifT c1405).symm.trans H
          rcases Bool.eq_false_or_eq_true ((((t1393.1).f0) == (1 : Int)) && ((((t1393.1).f1) == (0 : Int)) && ((((t1393.1).f2) == (1 : Int)) && true))) with c1406 | c1406
          · replace H := (ifT c1406).symm.trans H
            refine reg hP hn hm [(2, .b true), (6, .b true), (10, .b true), (13, .more (xAgg none)), (15, .b true), (18, .more (xAgg none))] [0] [] ⟨[(0, bV ((((t1397.1).f0) == (1 : Int)) && ((((t1397.1).f1) == (0 : Int)) && ((((t1397.1).f2) == (3 : Int)) && true))))], [], 0⟩ [(t1193.2 == (0 : Int)) = true, (t1393.2 == (0 : Int)) = true, (t1397.2 == (0 : Int)) = true, ((((t1393.1).f0) == (1 : Int)) && ((((t1393.1).f1) == (0 : Int)) && ((((t1393.1).f2) == (1 : Int)) && true))) = true] (by kernel_rfl) ⟨by exact c1403, by exact c1404, by exact c1405, by exact c1406, trivial⟩ ?_
            obtain rfl := Option.some.inj H
            exact Exists.intro _ (And.intro (fun _ _ h => h.conv (inv := []) (vk := []) (e0 := []) (t := ⟨[(0, bV ((((t1397.1).f0) == (1 : Int)) && ((((t1397.1).f1) == (0 : Int)) && ((((t1397.1).f2) == (3 : Int)) && true))))], [], 0⟩) (by kernel_rfl)) (And.intro rfl rfl))
          · replace H := (ifF c1406).symm.trans H
            refine reg hP hn hm [(2, .b true), (6, .b true), (10, .b true), (13, .more (xAgg none)), (15, .b false)] [0] [] ⟨[(0, bV false)], [], 0⟩ [(t1193.2 == (0 : Int)) = true, (t1393.2 == (0 : Int)) = true, (t1397.2 == (0 : Int)) = true, ((((t1393.1).f0) == (1 : Int)) && ((((t1393.1).f1) == (0 : Int)) && ((((t1393.1).f2) == (1 : Int)) && true))) = false] (by kernel_rfl) ⟨by exact c1403, by exact c1404, by exact c1405, by exact c1406, trivial⟩ ?_
            obtain rfl := Option.some.inj H
            exact Exists.intro _ (And.intro (fun _ _ h => h.conv (inv := []) (vk := []) (e0 := []) (t := ⟨[(0, bV false)], [], 0⟩) (by kernel_rfl)) (And.intro rfl rfl))
        · replace H := (ifF c1405).symm.trans H
          refine reg hP hn hm [(2, .b true), (6, .b true), (10, .b false)] [0] [] ⟨[(0, bV false)], [], 0⟩ [(t1193.2 == (0 : Int)) = true, (t1393.2 == (0 : Int)) = true, (t1397.2 == (0 : Int)) = false] (by kernel_rfl) ⟨by exact c1403, by exact c1404, by exact c1405, trivial⟩ ?_
          obtain rfl := Option.some.inj H
          exact Exists.intro _ (And.intro (fun _ _ h => h.conv (inv := []) (vk := []) (e0 := []) (t := ⟨[(0, bV false)], [], 0⟩) (by kernel_rfl)) (And.intro rfl rfl))
      · replace H := (ifF c1404).symm.trans H
        refine reg hP hn hm [(2, .b true), (6, .b false)] [0] [] ⟨[(0, bV false)], [], 0⟩ [(t1193.2 == (0 : Int)) = true, (t1393.2 == (0 : Int)) = false] (by kernel_rfl) ⟨by exact c1403, by exact c1404, trivial⟩ ?_
        obtain rfl := Option.some.inj H
        exact Exists.intro _ (And.intro (fun _ _ h => h.conv (inv := []) (vk := []) (e0 := []) (t := ⟨[(0, bV false)], [], 0⟩) (by kernel_rfl)) (And.intro rfl rfl))
    · replace H := (ifF c1403).symm.trans H
      refine reg hP hn hm [(2, .b false)] [0] [] ⟨[(0, bV false)], [], 0⟩ [(t1193.2 == (0 : Int)) = false] (by kernel_rfl) ⟨by exact c1403, trivial⟩ ?_
      obtain rfl := Option.some.inj H
      exact Exists.intro _ (And.intro (fun _ _ h => h.conv (inv := []) (vk := []) (e0 := []) (t := ⟨[(0, bV false)], [], 0⟩) (by kernel_rfl)) (And.intro rfl rfl))
  · obtain ⟨x1407, rfl⟩ : ∃ z, z = o1408 := ⟨_, rfl⟩
    rintro e s ⟨rfl, rfl⟩
    refine AWp.conv (inv := []) (vk := []) (e0 := []) (t := ⟨[(0, bV x1407)], [], 0⟩) (by kernel_rfl) ?_
    refine AWp.ret ?_
    obtain rfl := Option.some.inj H
    exact Exists.intro _ (And.intro (fun _ _ h => h) (And.intro (.inl rfl) (And.intro rfl (And.intro (by kernel_rfl) (by kernel_rfl)))))
def f_pluvialref08_Order.l0 (a0 : THist) (x1526 : List Tpluvialref08_Cell) (x1527 : Int) : Option (List Tpluvialref08_Cell) := if (decide (x1527 < (a0.f7.length : Int))) = true then ((at? a0.f7 (IntKind.i64.wrap ((IntKind.i64.wrap ((a0.f7.length : Int) - (1 : Int))) - x1527))) >>= fun b1532 => (chk ((x1526.length + [(⟨(-1), a0.f1, b1532.f0, b1532.f1⟩ : Tpluvialref08_Cell)].length) * 32 ≤ 140737488355328)) >>= fun _ => f_pluvialref08_Order.l0 a0 (x1526 ++ [(⟨(-1), a0.f1, b1532.f0, b1532.f1⟩ : Tpluvialref08_Cell)]) (IntKind.i64.wrap (x1527 + (1 : Int)))) else (some x1526)
partial_fixpoint
def f_pluvialref08_Order.l1 (a0 : THist) (x1551 : List Tpluvialref08_Cell) (x1552 : Int) : Option (List Tpluvialref08_Cell) := if (decide (x1552 < (a0.f6.length : Int))) = true then ((at? a0.f6 x1552) >>= fun b1558 => (chk ((x1551.length + [(⟨1, a0.f1, b1558.f0, b1558.f1⟩ : Tpluvialref08_Cell)].length) * 32 ≤ 140737488355328)) >>= fun _ => f_pluvialref08_Order.l1 a0 (x1551 ++ [(⟨1, a0.f1, b1558.f0, b1558.f1⟩ : Tpluvialref08_Cell)]) (IntKind.i64.wrap (x1552 + (1 : Int)))) else (some x1551)
partial_fixpoint
def f_pluvialref08_Order.f (a0 : THist) : Option (List Tpluvialref08_Cell) := (f_pluvialref08_Order.l0 a0 [] 0) >>= fun x1537 => ((if (decide (a0.f3 > (0 : Int))) = true then ((chk ((x1537.length + [(⟨0, 0, 0, a0.f3⟩ : Tpluvialref08_Cell)].length) * 32 ≤ 140737488355328)) >>= fun _ => some (x1537 ++ [(⟨0, 0, 0, a0.f3⟩ : Tpluvialref08_Cell)])) else (some x1537)) : Option (List Tpluvialref08_Cell)) >>= fun x1541 => (f_pluvialref08_Order.l1 a0 x1541 0) >>= fun x1562 => some x1562
theorem f_pluvialref08_Order.ok (a0 : THist) (r : List Tpluvialref08_Cell) (H : f_pluvialref08_Order.f a0 = some r) : Pv.Fn Try.prog 23 [.agg (aHist a0)] [] 0 (fun x o => x = .own 0 ∧ o = [(0, some (.row 4 54 (r.map epluvialref08_Cell)))]) := by
  unfold f_pluvialref08_Order.f at H
  refine Fn.bodyK [0] Try.func23 rfl rfl (fun Γ hP hn => ?_)
  have hm : Try.prog.follows .mixedOrders = true := by kernel_rfl
  replace hn : Γ.n = 69 := hn
  refine AWp.seq ?_
  refine reg hP hn hm [(0, .k 0)] [1] [0] ⟨[(1, .ptr 0 0 0)], [(0, some (.box 35 (aHist a0)))], 0⟩ [] (by kernel_rfl) trivial ?_
  refine AWp.seq ?_
  refine reg hP hn hm [] [1, 3] [0] ⟨[(1, .ptr 0 0 0), (3, .none0)], [(0, some (.box 35 (aHist a0)))], 0⟩ [] (by kernel_rfl) trivial ?_
  refine AWp.seq ?_
  refine AWp.seq ?_
  refine reg hP hn hm [] [1, 3, 4] [0] ⟨[(1, .ptr 0 0 0), (3, .none0), (4, iV .i64 0)], [(0, some (.box 35 (aHist a0)))], 0⟩ [] (by kernel_rfl) trivial ?_
  refine AWp.block ?_
  obtain ⟨o1563, e1564, H⟩ := bind_of H
  refine AWp.loop (LWp.conv (inv := [(0, 4)]) (vk := []) (e0 := [5]) (t := ⟨[(1, .ptr 4 0 0), (3, .own 5), (4, iV .i64 0)], [(4, some (.box 35 (aHist a0))), (5, some (.row 4 54 ([].map epluvialref08_Cell)))], 0⟩) (by kernel_rfl) ?_)
  refine LWp.mono (Q := fun e s => (match (generalizing := false) o1563 with | x1537 => e = .exit 0 ∧ s = ⟨[(1, .ptr 9 0 0), (3, .own 10)], [(9, some (.box 35 (aHist a0))), (10, some (.row 4 54 (x1537.map epluvialref08_Cell)))], 0⟩)) (LWp.cv (withBody (fun body hbody => ?_))) ?_
  · refine f_pluvialref08_Order.l0.partial_correctness a0 (motive := fun x1526 x1527 o1563 => LWp Γ body (fun e s => ∃ t, Cv Γ s t ∧ (match (generalizing := false) o1563 with | x1537 => e = .exit 0 ∧ t = ⟨[(1, .ptr 9 0 0), (3, .own 10)], [(9, some (.box 35 (aHist a0))), (10, some (.row 4 54 (x1537.map epluvialref08_Cell)))], 0⟩)) ⟨[(1, .ptr 4 0 0), (3, .own 5), (4, iV .i64 x1527)], [(4, some (.box 35 (aHist a0))), (5, some (.row 4 54 (x1526.map epluvialref08_Cell)))], 0⟩) ?_ _ _ _ e1564
    clear H e1564 o1563; intro self ih x1526 x1527 o1563 H
    subst hbody
    refine LWp.round ?_
    refine AWp.seq ?_
    refine AWp.seq ?_
    refine reg hP hn hm [(3, .any (iV .i64 (a0.f7.length : Int)))] [1, 3, 4, 11] [4, 5] ⟨[(1, .ptr 4 0 0), (3, .own 5), (4, iV .i64 x1527), (11, bV (decide (x1527 < (a0.f7.length : Int))))], [(4, some (.box 35 (aHist a0))), (5, some (.row 4 54 (x1526.map epluvialref08_Cell)))], 0⟩ [((a0.f7.map eBucket).length : Int) = (a0.f7.length : Int)] (by kernel_rfl) ⟨by rw [len_map], trivial⟩ ?_
    refine AWp.cond (decide (x1527 < (a0.f7.length : Int))) rfl (fun c1528 => ?_) (fun c1528 => ?_)
    · replace H := (ifT c1528).symm.trans H
      refine AWp.skip ?_
      refine AWp.seq ?_
      refine AWp.block ?_
      refine AWp.seq ?_
      obtain ⟨b1532, p1533, q1534, H⟩ := at_of H
      refine reg hP hn hm [(4, .any (iV .i64 (a0.f7.length : Int))), (8, .c (eBucket b1532)), (10, .k 6)] [1, 3, 4, 5] [4, 5, 6] ⟨[(1, .ptr 4 0 0), (3, .own 5), (4, iV .i64 x1527), (5, .ptr 6 0 0)], [(4, some (.box 35 (aHist a0))), (5, some (.row 4 54 (x1526.map epluvialref08_Cell))), (6, some (.box 127 (aBucket b1532)))], 0⟩ [((a0.f7.map eBucket).length : Int) = (a0.f7.length : Int), 0 ≤ (IntKind.i64.wrap ((IntKind.i64.wrap ((a0.f7.length : Int) - (1 : Int))) - x1527)), (a0.f7.map eBucket)[(Int.toNat (IntKind.i64.wrap ((IntKind.i64.wrap ((a0.f7.length : Int) - (1 : Int))) - x1527)))]? = some (eBucket b1532)] (by kernel_rfl) ⟨by rw [len_map], by exact p1533, by exact el_map eBucket q1534, trivial⟩ ?_
      obtain ⟨c1536, H⟩ := chk_of H
      refine reg hP hn hm [(8, .app 7 ([(⟨(-1), a0.f1, b1532.f0, b1532.f1⟩ : Tpluvialref08_Cell)].map epluvialref08_Cell)), (9, .app 8 ((x1526 ++ [(⟨(-1), a0.f1, b1532.f0, b1532.f1⟩ : Tpluvialref08_Cell)]).map epluvialref08_Cell))] [1, 3, 4] [4, 8] ⟨[(1, .ptr 4 0 0), (3, .own 8), (4, iV .i64 x1527)], [(4, some (.box 35 (aHist a0))), (8, some (.row 4 54 ((x1526 ++ [(⟨(-1), a0.f1, b1532.f0, b1532.f1⟩ : Tpluvialref08_Cell)]).map epluvialref08_Cell)))], 0⟩ [[(⟨(-1), a0.f1, b1532.f0, b1532.f1⟩ : Tpluvialref08_Cell)].map epluvialref08_Cell = [[iI .i64 (-1), iI .i64 a0.f1, iI .i64 b1532.f0, iI .u64 b1532.f1]], (x1526 ++ [(⟨(-1), a0.f1, b1532.f0, b1532.f1⟩ : Tpluvialref08_Cell)]).map epluvialref08_Cell = (x1526.map epluvialref08_Cell) ++ ([(⟨(-1), a0.f1, b1532.f0, b1532.f1⟩ : Tpluvialref08_Cell)].map epluvialref08_Cell), ∀ c ∈ ([(⟨(-1), a0.f1, b1532.f0, b1532.f1⟩ : Tpluvialref08_Cell)].map epluvialref08_Cell), c.length = 4, ∀ c ∈ ([(⟨(-1), a0.f1, b1532.f0, b1532.f1⟩ : Tpluvialref08_Cell)].map epluvialref08_Cell), leaves (c.map .im) = true, ((x1526.map epluvialref08_Cell).length + ([(⟨(-1), a0.f1, b1532.f0, b1532.f1⟩ : Tpluvialref08_Cell)].map epluvialref08_Cell).length) * 32 ≤ 140737488355328] (by kernel_rfl) ⟨by exact rfl, by simp, by exact all_len _ _ _ (fun _ => rfl), by exact all_leaf _ _ (fun _ => rfl), by simpa using c1536, trivial⟩ ?_
      refine reg hP hn hm [] [1, 3, 4] [4, 8] ⟨[(1, .ptr 4 0 0), (3, .own 8), (4, iV .i64 (IntKind.i64.wrap (x1527 + (1 : Int))))], [(4, some (.box 35 (aHist a0))), (8, some (.row 4 54 ((x1526 ++ [(⟨(-1), a0.f1, b1532.f0, b1532.f1⟩ : Tpluvialref08_Cell)]).map epluvialref08_Cell)))], 0⟩ [] (by kernel_rfl) trivial ?_
      exact LWp.conv (inv := [(4, 4), (8, 5)]) (vk := []) (e0 := []) (t := ⟨[(1, .ptr 4 0 0), (3, .own 5), (4, iV .i64 (IntKind.i64.wrap (x1527 + (1 : Int))))], [(4, some (.box 35 (aHist a0))), (5, some (.row 4 54 ((x1526 ++ [(⟨(-1), a0.f1, b1532.f0, b1532.f1⟩ : Tpluvialref08_Cell)]).map epluvialref08_Cell)))], 0⟩) (by kernel_rfl) (ih _ _ _ H)
    · replace H := (ifF c1528).symm.trans H
      refine AWp.exit ?_
      obtain rfl := Option.some.inj H
      exact Exists.intro _ (And.intro (fun _ _ h => h.conv (inv := [(4, 9), (5, 10)]) (vk := []) (e0 := []) (t := ⟨[(1, .ptr 9 0 0), (3, .own 10)], [(9, some (.box 35 (aHist a0))), (10, some (.row 4 54 (x1526.map epluvialref08_Cell)))], 0⟩) (by kernel_rfl)) (And.intro rfl rfl))
  · obtain ⟨x1537, rfl⟩ : ∃ z, z = o1563 := ⟨_, rfl⟩
    rintro e s ⟨rfl, rfl⟩
    refine AWp.seq ?_
    refine AWp.seq ?_
    refine reg hP hn hm [] [1, 3, 36] [9, 10] ⟨[(1, .ptr 9 0 0), (3, .own 10), (36, bV (decide (a0.f3 > (0 : Int))))], [(9, some (.box 35 (aHist a0))), (10, some (.row 4 54 (x1537.map epluvialref08_Cell)))], 0⟩ [] (by kernel_rfl) trivial ?_
    obtain ⟨o1565, e1566, H⟩ := bind_of H
    refine AWp.mono (Q := fun e s => (match (generalizing := false) o1565 with | x1541 => e = .normal ∧ s = ⟨[(1, .ptr 13 0 0), (3, .own 14)], [(13, some (.box 35 (aHist a0))), (14, some (.row 4 54 (x1541.map epluvialref08_Cell)))], 0⟩)) (AWp.cv ?_) ?_
    · replace H := e1566; clear e1566
      refine AWp.cond (decide (a0.f3 > (0 : Int))) rfl (fun c1538 => ?_) (fun c1538 => ?_)
      · replace H := (ifT c1538).symm.trans H
        obtain ⟨c1540, H⟩ := chk_of H
        refine reg hP hn hm [(4, .app 11 ([(⟨0, 0, 0, a0.f3⟩ : Tpluvialref08_Cell)].map epluvialref08_Cell)), (5, .app 12 ((x1537 ++ [(⟨0, 0, 0, a0.f3⟩ : Tpluvialref08_Cell)]).map epluvialref08_Cell))] [1, 3] [9, 12] ⟨[(1, .ptr 9 0 0), (3, .own 12)], [(9, some (.box 35 (aHist a0))), (12, some (.row 4 54 ((x1537 ++ [(⟨0, 0, 0, a0.f3⟩ : Tpluvialref08_Cell)]).map epluvialref08_Cell)))], 0⟩ [[(⟨0, 0, 0, a0.f3⟩ : Tpluvialref08_Cell)].map epluvialref08_Cell = [[iI .i64 0, iI .i64 0, iI .i64 0, iI .u64 a0.f3]], (x1537 ++ [(⟨0, 0, 0, a0.f3⟩ : Tpluvialref08_Cell)]).map epluvialref08_Cell = (x1537.map epluvialref08_Cell) ++ ([(⟨0, 0, 0, a0.f3⟩ : Tpluvialref08_Cell)].map epluvialref08_Cell), ∀ c ∈ ([(⟨0, 0, 0, a0.f3⟩ : Tpluvialref08_Cell)].map epluvialref08_Cell), c.length = 4, ∀ c ∈ ([(⟨0, 0, 0, a0.f3⟩ : Tpluvialref08_Cell)].map epluvialref08_Cell), leaves (c.map .im) = true, ((x1537.map epluvialref08_Cell).length + ([(⟨0, 0, 0, a0.f3⟩ : Tpluvialref08_Cell)].map epluvialref08_Cell).length) * 32 ≤ 140737488355328] (by kernel_rfl) ⟨by exact rfl, by simp, by exact all_len _ _ _ (fun _ => rfl), by exact all_leaf _ _ (fun _ => rfl), by simpa using c1540, trivial⟩ ?_
        obtain rfl := Option.some.inj H
        exact Exists.intro _ (And.intro (fun _ _ h => h.conv (inv := [(9, 13), (12, 14)]) (vk := []) (e0 := []) (t := ⟨[(1, .ptr 13 0 0), (3, .own 14)], [(13, some (.box 35 (aHist a0))), (14, some (.row 4 54 ((x1537 ++ [(⟨0, 0, 0, a0.f3⟩ : Tpluvialref08_Cell)]).map epluvialref08_Cell)))], 0⟩) (by kernel_rfl)) (And.intro rfl rfl))
      · replace H := (ifF c1538).symm.trans H
        refine AWp.skip ?_
        obtain rfl := Option.some.inj H
        exact Exists.intro _ (And.intro (fun _ _ h => h.conv (inv := [(9, 13), (10, 14)]) (vk := []) (e0 := []) (t := ⟨[(1, .ptr 13 0 0), (3, .own 14)], [(13, some (.box 35 (aHist a0))), (14, some (.row 4 54 (x1537.map epluvialref08_Cell)))], 0⟩) (by kernel_rfl)) (And.intro rfl rfl))
    · obtain ⟨x1541, rfl⟩ : ∃ z, z = o1565 := ⟨_, rfl⟩
      rintro e s ⟨rfl, rfl⟩
      refine AWp.seq ?_
      refine AWp.seq ?_
      refine reg hP hn hm [] [1, 3, 6] [13, 14] ⟨[(1, .ptr 13 0 0), (3, .own 14), (6, iV .i64 0)], [(13, some (.box 35 (aHist a0))), (14, some (.row 4 54 (x1541.map epluvialref08_Cell)))], 0⟩ [] (by kernel_rfl) trivial ?_
      refine AWp.block ?_
      obtain ⟨o1567, e1568, H⟩ := bind_of H
      refine AWp.loop (LWp.conv (inv := [(13, 17), (14, 18)]) (vk := []) (e0 := []) (t := ⟨[(1, .ptr 17 0 0), (3, .own 18), (6, iV .i64 0)], [(17, some (.box 35 (aHist a0))), (18, some (.row 4 54 (x1541.map epluvialref08_Cell)))], 0⟩) (by kernel_rfl) ?_)
      refine LWp.mono (Q := fun e s => (match (generalizing := false) o1567 with | x1562 => e = .exit 2 ∧ s = ⟨[(3, .own 21)], [(21, some (.row 4 54 (x1562.map epluvialref08_Cell)))], 0⟩)) (LWp.cv (withBody (fun body hbody => ?_))) ?_
      · refine f_pluvialref08_Order.l1.partial_correctness a0 (motive := fun x1551 x1552 o1567 => LWp Γ body (fun e s => ∃ t, Cv Γ s t ∧ (match (generalizing := false) o1567 with | x1562 => e = .exit 2 ∧ t = ⟨[(3, .own 21)], [(21, some (.row 4 54 (x1562.map epluvialref08_Cell)))], 0⟩)) ⟨[(1, .ptr 17 0 0), (3, .own 18), (6, iV .i64 x1552)], [(17, some (.box 35 (aHist a0))), (18, some (.row 4 54 (x1551.map epluvialref08_Cell)))], 0⟩) ?_ _ _ _ e1568
        clear H e1568 o1567; intro self ih x1551 x1552 o1567 H
        subst hbody
        refine LWp.round ?_
        refine AWp.seq ?_
        refine AWp.seq ?_
        refine reg hP hn hm [(3, .any (iV .i64 (a0.f6.length : Int)))] [1, 3, 6, 47] [17, 18] ⟨[(1, .ptr 17 0 0), (3, .own 18), (6, iV .i64 x1552), (47, bV (decide (x1552 < (a0.f6.length : Int))))], [(17, some (.box 35 (aHist a0))), (18, some (.row 4 54 (x1551.map epluvialref08_Cell)))], 0⟩ [((a0.f6.map eBucket).length : Int) = (a0.f6.length : Int)] (by kernel_rfl) ⟨by rw [len_map], trivial⟩ ?_
        refine AWp.cond (decide (x1552 < (a0.f6.length : Int))) rfl (fun c1553 => ?_) (fun c1553 => ?_)
        · replace H := (ifT c1553).symm.trans H
          refine AWp.skip ?_
          refine AWp.seq ?_
          refine AWp.block ?_
          obtain ⟨b1558, p1559, q1560, H⟩ := at_of H
          obtain ⟨c1561, H⟩ := chk_of H
          refine reg hP hn hm [(6, .c (eBucket b1558)), (12, .c (eBucket b1558)), (16, .app 19 ([(⟨1, a0.f1, b1558.f0, b1558.f1⟩ : Tpluvialref08_Cell)].map epluvialref08_Cell)), (17, .app 20 ((x1551 ++ [(⟨1, a0.f1, b1558.f0, b1558.f1⟩ : Tpluvialref08_Cell)]).map epluvialref08_Cell))] [1, 3, 6] [17, 20] ⟨[(1, .ptr 17 0 0), (3, .own 20), (6, iV .i64 x1552)], [(17, some (.box 35 (aHist a0))), (20, some (.row 4 54 ((x1551 ++ [(⟨1, a0.f1, b1558.f0, b1558.f1⟩ : Tpluvialref08_Cell)]).map epluvialref08_Cell)))], 0⟩ [0 ≤ x1552, (a0.f6.map eBucket)[(Int.toNat (x1552))]? = some (eBucket b1558), 0 ≤ x1552, (a0.f6.map eBucket)[(Int.toNat (x1552))]? = some (eBucket b1558), [(⟨1, a0.f1, b1558.f0, b1558.f1⟩ : Tpluvialref08_Cell)].map epluvialref08_Cell = [[iI .i64 1, iI .i64 a0.f1, iI .i64 b1558.f0, iI .u64 b1558.f1]], (x1551 ++ [(⟨1, a0.f1, b1558.f0, b1558.f1⟩ : Tpluvialref08_Cell)]).map epluvialref08_Cell = (x1551.map epluvialref08_Cell) ++ ([(⟨1, a0.f1, b1558.f0, b1558.f1⟩ : Tpluvialref08_Cell)].map epluvialref08_Cell), ∀ c ∈ ([(⟨1, a0.f1, b1558.f0, b1558.f1⟩ : Tpluvialref08_Cell)].map epluvialref08_Cell), c.length = 4, ∀ c ∈ ([(⟨1, a0.f1, b1558.f0, b1558.f1⟩ : Tpluvialref08_Cell)].map epluvialref08_Cell), leaves (c.map .im) = true, ((x1551.map epluvialref08_Cell).length + ([(⟨1, a0.f1, b1558.f0, b1558.f1⟩ : Tpluvialref08_Cell)].map epluvialref08_Cell).length) * 32 ≤ 140737488355328] (by kernel_rfl) ⟨by exact p1559, by exact el_map eBucket q1560, by exact p1559, by exact el_map eBucket q1560, by exact rfl, by simp, by exact all_len _ _ _ (fun _ => rfl), by exact all_leaf _ _ (fun _ => rfl), by simpa using c1561, trivial⟩ ?_
          refine reg hP hn hm [] [1, 3, 6] [17, 20] ⟨[(1, .ptr 17 0 0), (3, .own 20), (6, iV .i64 (IntKind.i64.wrap (x1552 + (1 : Int))))], [(17, some (.box 35 (aHist a0))), (20, some (.row 4 54 ((x1551 ++ [(⟨1, a0.f1, b1558.f0, b1558.f1⟩ : Tpluvialref08_Cell)]).map epluvialref08_Cell)))], 0⟩ [] (by kernel_rfl) trivial ?_
          exact LWp.conv (inv := [(17, 17), (20, 18)]) (vk := []) (e0 := []) (t := ⟨[(1, .ptr 17 0 0), (3, .own 18), (6, iV .i64 (IntKind.i64.wrap (x1552 + (1 : Int))))], [(17, some (.box 35 (aHist a0))), (18, some (.row 4 54 ((x1551 ++ [(⟨1, a0.f1, b1558.f0, b1558.f1⟩ : Tpluvialref08_Cell)]).map epluvialref08_Cell)))], 0⟩) (by kernel_rfl) (ih _ _ _ H)
        · replace H := (ifF c1553).symm.trans H
          refine AWp.exit ?_
          obtain rfl := Option.some.inj H
          exact Exists.intro _ (And.intro (fun _ _ h => h.conv (inv := [(18, 21)]) (vk := []) (e0 := []) (t := ⟨[(3, .own 21)], [(21, some (.row 4 54 (x1551.map epluvialref08_Cell)))], 0⟩) (by kernel_rfl)) (And.intro rfl rfl))
      · obtain ⟨x1562, rfl⟩ : ∃ z, z = o1567 := ⟨_, rfl⟩
        rintro e s ⟨rfl, rfl⟩
        refine AWp.seq ?_
        refine reg hP hn hm [] [2] [21] ⟨[(2, .own 21)], [(21, some (.row 4 54 (x1562.map epluvialref08_Cell)))], 0⟩ [] (by kernel_rfl) trivial ?_
        refine AWp.conv (inv := [(21, 0)]) (vk := []) (e0 := []) (t := ⟨[(2, .own 0)], [(0, some (.row 4 54 (x1562.map epluvialref08_Cell)))], 0⟩) (by kernel_rfl) ?_
        refine AWp.ret ?_
        obtain rfl := Option.some.inj H
        exact Exists.intro _ (And.intro (fun _ _ h => h) (And.intro (.inl rfl) (And.intro rfl (And.intro (by kernel_rfl) (by kernel_rfl)))))
def f_pluviallaw08_cell.f (a0 : Tbound_Key) (a1 : Int) : Option (Tpluvialref08_Cell) := some (⟨a0.f0, a0.f1, a0.f2, a1⟩ : Tpluvialref08_Cell)
theorem f_pluviallaw08_cell.ok (a0 : Tbound_Key) (a1 : Int) (r : Tpluvialref08_Cell) (H : f_pluviallaw08_cell.f a0 a1 = some r) : Pv.Fn Try.prog 24 [.agg (abound_Key a0), iV .u64 a1] [] 0 (fun x o => x = .agg (apluvialref08_Cell (r)) ∧ o = []) := by
  unfold f_pluviallaw08_cell.f at H
  refine Fn.bodyK [] Try.func24 rfl rfl (fun Γ hP hn => ?_)
  have hm : Try.prog.follows .mixedOrders = true := by kernel_rfl
  replace hn : Γ.n = 13 := hn
  refine AWp.seq ?_
  refine reg hP hn hm [(0, .k 0), (1, .k 1)] [1, 2, 4] [0, 1] ⟨[(1, iV .u64 a1), (2, .ptr 0 0 0), (4, .ptr 1 0 0)], [(0, some (.box 45 (abound_Key a0))), (1, some (.box 54 (apluvialref08_Cell ⟨0, 0, 0, 0⟩)))], 0⟩ [] (by kernel_rfl) trivial ?_
  refine AWp.seq ?_
  refine reg hP hn hm [] [4] [1] ⟨[(4, .ptr 1 0 0)], [(1, some (.box 54 (apluvialref08_Cell ⟨a0.f0, a0.f1, a0.f2, a1⟩)))], 0⟩ [] (by kernel_rfl) trivial ?_
  refine AWp.conv (inv := [(1, 0)]) (vk := []) (e0 := []) (t := ⟨[(4, .ptr 0 0 0)], [(0, some (.box 54 (apluvialref08_Cell ((⟨a0.f0, a0.f1, a0.f2, a1⟩ : Tpluvialref08_Cell)))))], 0⟩) (by kernel_rfl) ?_
  refine AWp.ret ?_
  obtain rfl := Option.some.inj H
  exact Exists.intro _ (And.intro (fun _ _ h => h) (And.intro (.inl rfl) (And.intro rfl (And.intro (by kernel_rfl) (by kernel_rfl)))))
def f_rank_Compare.f (a0 : Tbound_Key) (a1 : Tbound_Key) : Option (Int) := if (decide ((IntKind.i64.wrap ((IntKind.i64.wrap (a0.f0 * (1048576 : Int))) + (IntKind.i64.wrap (a0.f0 * a0.f2)))) < (IntKind.i64.wrap ((IntKind.i64.wrap (a1.f0 * (1048576 : Int))) + (IntKind.i64.wrap (a1.f0 * a1.f2)))))) = true then (some (-1)) else (if (decide ((IntKind.i64.wrap ((IntKind.i64.wrap (a0.f0 * (1048576 : Int))) + (IntKind.i64.wrap (a0.f0 * a0.f2)))) > (IntKind.i64.wrap ((IntKind.i64.wrap (a1.f0 * (1048576 : Int))) + (IntKind.i64.wrap (a1.f0 * a1.f2)))))) = true then (some 1) else (some 0))
theorem f_rank_Compare.ok (a0 : Tbound_Key) (a1 : Tbound_Key) (r : Int) (H : f_rank_Compare.f a0 a1 = some r) : Pv.Fn Try.prog 25 [.agg (abound_Key a0), .agg (abound_Key a1)] [] 0 (fun x o => x = iV .i64 r ∧ o = []) := by
  unfold f_rank_Compare.f at H
  refine Fn.bodyK [] Try.func25 rfl rfl (fun Γ hP hn => ?_)
  have hm : Try.prog.follows .mixedOrders = true := by kernel_rfl
  replace hn : Γ.n = 35 := hn
  refine AWp.seq ?_
  refine reg hP hn hm [(0, .k 0), (1, .k 1)] [2, 3] [0, 1] ⟨[(2, .ptr 0 0 0), (3, .ptr 1 0 0)], [(0, some (.box 45 (abound_Key a0))), (1, some (.box 45 (abound_Key a1)))], 0⟩ [] (by kernel_rfl) trivial ?_
  refine AWp.seq ?_
  refine reg hP hn hm [] [2, 3, 5, 6] [0, 1] ⟨[(2, .ptr 0 0 0), (3, .ptr 1 0 0), (5, iV .i64 (IntKind.i64.wrap (a0.f0 * (1048576 : Int)))), (6, iV .i64 (IntKind.i64.wrap (a1.f0 * (1048576 : Int))))], [(0, some (.box 45 (abound_Key a0))), (1, some (.box 45 (abound_Key a1)))], 0⟩ [] (by kernel_rfl) trivial ?_
  refine AWp.seq ?_
  refine reg hP hn hm [] [3, 5, 6] [1] ⟨[(3, .ptr 1 0 0), (5, iV .i64 (IntKind.i64.wrap ((IntKind.i64.wrap (a0.f0 * (1048576 : Int))) + (IntKind.i64.wrap (a0.f0 * a0.f2))))), (6, iV .i64 (IntKind.i64.wrap (a1.f0 * (1048576 : Int))))], [(1, some (.box 45 (abound_Key a1)))], 0⟩ [] (by kernel_rfl) trivial ?_
  refine AWp.seq ?_
  refine reg hP hn hm [] [5, 6] [] ⟨[(5, iV .i64 (IntKind.i64.wrap ((IntKind.i64.wrap (a0.f0 * (1048576 : Int))) + (IntKind.i64.wrap (a0.f0 * a0.f2))))), (6, iV .i64 (IntKind.i64.wrap ((IntKind.i64.wrap (a1.f0 * (1048576 : Int))) + (IntKind.i64.wrap (a1.f0 * a1.f2)))))], [], 0⟩ [] (by kernel_rfl) trivial ?_
  refine AWp.seq ?_
  refine AWp.block ?_
  refine AWp.seq ?_
  refine reg hP hn hm [] [5, 6, 27] [] ⟨[(5, iV .i64 (IntKind.i64.wrap ((IntKind.i64.wrap (a0.f0 * (1048576 : Int))) + (IntKind.i64.wrap (a0.f0 * a0.f2))))), (6, iV .i64 (IntKind.i64.wrap ((IntKind.i64.wrap (a1.f0 * (1048576 : Int))) + (IntKind.i64.wrap (a1.f0 * a1.f2))))), (27, bV (decide ((IntKind.i64.wrap ((IntKind.i64.wrap (a0.f0 * (1048576 : Int))) + (IntKind.i64.wrap (a0.f0 * a0.f2)))) < (IntKind.i64.wrap ((IntKind.i64.wrap (a1.f0 * (1048576 : Int))) + (IntKind.i64.wrap (a1.f0 * a1.f2)))))))], [], 0⟩ [] (by kernel_rfl) trivial ?_
  refine AWp.cond (decide ((IntKind.i64.wrap ((IntKind.i64.wrap (a0.f0 * (1048576 : Int))) + (IntKind.i64.wrap (a0.f0 * a0.f2)))) < (IntKind.i64.wrap ((IntKind.i64.wrap (a1.f0 * (1048576 : Int))) + (IntKind.i64.wrap (a1.f0 * a1.f2)))))) rfl (fun c1621 => ?_) (fun c1621 => ?_)
  · replace H := (ifT c1621).symm.trans H
    refine AWp.seq ?_
    refine reg hP hn hm [] [4] [] ⟨[(4, iV .i64 (-1))], [], 0⟩ [] (by kernel_rfl) trivial ?_
    refine AWp.conv (inv := []) (vk := []) (e0 := []) (t := ⟨[(4, iV .i64 (-1))], [], 0⟩) (by kernel_rfl) ?_
    refine AWp.ret ?_
    obtain rfl := Option.some.inj H
    exact Exists.intro _ (And.intro (fun _ _ h => h) (And.intro (.inl rfl) (And.intro rfl (And.intro (by kernel_rfl) (by kernel_rfl)))))
  · replace H := (ifF c1621).symm.trans H
    refine AWp.seq ?_
    refine reg hP hn hm [] [31] [] ⟨[(31, bV (decide ((IntKind.i64.wrap ((IntKind.i64.wrap (a0.f0 * (1048576 : Int))) + (IntKind.i64.wrap (a0.f0 * a0.f2)))) > (IntKind.i64.wrap ((IntKind.i64.wrap (a1.f0 * (1048576 : Int))) + (IntKind.i64.wrap (a1.f0 * a1.f2)))))))], [], 0⟩ [] (by kernel_rfl) trivial ?_
    refine AWp.cond (decide ((IntKind.i64.wrap ((IntKind.i64.wrap (a0.f0 * (1048576 : Int))) + (IntKind.i64.wrap (a0.f0 * a0.f2)))) > (IntKind.i64.wrap ((IntKind.i64.wrap (a1.f0 * (1048576 : Int))) + (IntKind.i64.wrap (a1.f0 * a1.f2)))))) rfl (fun c1622 => ?_) (fun c1622 => ?_)
    · replace H := (ifT c1622).symm.trans H
      refine AWp.seq ?_
      refine reg hP hn hm [] [4] [] ⟨[(4, iV .i64 1)], [], 0⟩ [] (by kernel_rfl) trivial ?_
      refine AWp.conv (inv := []) (vk := []) (e0 := []) (t := ⟨[(4, iV .i64 1)], [], 0⟩) (by kernel_rfl) ?_
      refine AWp.ret ?_
      obtain rfl := Option.some.inj H
      exact Exists.intro _ (And.intro (fun _ _ h => h) (And.intro (.inl rfl) (And.intro rfl (And.intro (by kernel_rfl) (by kernel_rfl)))))
    · replace H := (ifF c1622).symm.trans H
      refine AWp.skip ?_
      refine AWp.seq ?_
      refine reg hP hn hm [] [4] [] ⟨[(4, iV .i64 0)], [], 0⟩ [] (by kernel_rfl) trivial ?_
      refine AWp.conv (inv := []) (vk := []) (e0 := []) (t := ⟨[(4, iV .i64 0)], [], 0⟩) (by kernel_rfl) ?_
      refine AWp.ret ?_
      obtain rfl := Option.some.inj H
      exact Exists.intro _ (And.intro (fun _ _ h => h) (And.intro (.inl rfl) (And.intro rfl (And.intro (by kernel_rfl) (by kernel_rfl)))))
def f_pluvialref08_At.l0 (a1 : Int) (t1690 : List Tpluvialref08_Cell) (x1700 : Int) (x1701 : Int) : Option ((Tpluvialref08_Cell × Int) ⊕ Unit) := if (decide (x1701 < (t1690.length : Int))) = true then ((at? t1690 x1701) >>= fun b1706 => if (decide ((IntKind.u64.wrap (a1 - x1700)) ≤ b1706.f3)) = true then (some (.inl (b1706, 0))) else (f_pluvialref08_At.l0 a1 t1690 (IntKind.u64.wrap (x1700 + b1706.f3)) (IntKind.i64.wrap (x1701 + (1 : Int))))) else (some (.inr ()))
partial_fixpoint
def f_pluvialref08_At.f (a0 : THist) (a1 : Int) : Option (Tpluvialref08_Cell × Int) := if (a0.f4 == (0 : Int)) = true then (some ((⟨0, 0, 0, 0⟩ : Tpluvialref08_Cell), 30)) else (((if (a1 == (0 : Int)) = true then (some true) else (some (decide (a1 > a0.f4)))) : Option (Bool)) >>= fun x1686 => if x1686 = true then (some ((⟨0, 0, 0, 0⟩ : Tpluvialref08_Cell), 4)) else ((f_pluvialref08_Order.f a0) >>= fun t1690 => (f_pluvialref08_At.l0 a1 t1690 0 0) >>= fun oo => match oo with | .inl rr => (some rr) | .inr _ => (some ((⟨0, 0, 0, 0⟩ : Tpluvialref08_Cell), 4))))
theorem f_pluvialref08_At.ok (a0 : THist) (a1 : Int) (r : Tpluvialref08_Cell × Int) (H : f_pluvialref08_At.f a0 a1 = some r) : Pv.Fn Try.prog 26 [.agg (aHist a0), iV .u64 a1] [] 0 (fun x o => x = .tup [.agg (apluvialref08_Cell (r.1)), iV .i64 r.2] ∧ o = []) := by
  unfold f_pluvialref08_At.f at H
  refine Fn.bodyK [] Try.func26 rfl rfl (fun Γ hP hn => ?_)
  have hm : Try.prog.follows .mixedOrders = true := by kernel_rfl
  replace hn : Γ.n = 51 := hn
  refine AWp.seq ?_
  refine reg hP hn hm [(0, .k 0), (1, .k 1)] [1, 2, 4] [0, 1] ⟨[(1, iV .u64 a1), (2, .ptr 0 0 0), (4, .ptr 1 0 0)], [(0, some (.box 35 (aHist a0))), (1, some (.box 54 (apluvialref08_Cell ⟨0, 0, 0, 0⟩)))], 0⟩ [] (by kernel_rfl) trivial ?_
  refine AWp.seq ?_
  refine AWp.seq ?_
  refine reg hP hn hm [] [1, 2, 4, 11] [0, 1] ⟨[(1, iV .u64 a1), (2, .ptr 0 0 0), (4, .ptr 1 0 0), (11, bV (a0.f4 == (0 : Int)))], [(0, some (.box 35 (aHist a0))), (1, some (.box 54 (apluvialref08_Cell ⟨0, 0, 0, 0⟩)))], 0⟩ [] (by kernel_rfl) trivial ?_
  refine AWp.cond (a0.f4 == (0 : Int)) rfl (fun c1683 => ?_) (fun c1683 => ?_)
  · replace H := (ifT c1683).symm.trans H
    refine AWp.seq ?_
    refine reg hP hn hm [] [4, 5] [1] ⟨[(4, .ptr 1 0 0), (5, iV .i64 30)], [(1, some (.box 54 (apluvialref08_Cell ⟨0, 0, 0, 0⟩)))], 0⟩ [] (by kernel_rfl) trivial ?_
    refine AWp.conv (inv := [(1, 0)]) (vk := []) (e0 := []) (t := ⟨[(4, .ptr 0 0 0), (5, iV .i64 30)], [(0, some (.box 54 (apluvialref08_Cell ((⟨0, 0, 0, 0⟩ : Tpluvialref08_Cell)))))], 0⟩) (by kernel_rfl) ?_
    refine AWp.ret ?_
    obtain rfl := Option.some.inj H
    exact Exists.intro _ (And.intro (fun _ _ h => h) (And.intro (.inl rfl) (And.intro rfl (And.intro (by kernel_rfl) (by kernel_rfl)))))
  · replace H := (ifF c1683).symm.trans H
    refine AWp.skip ?_
    refine AWp.seq ?_
    refine AWp.seq ?_
    obtain ⟨o1710, e1711, H⟩ := bind_of H
    refine AWp.mono (Q := fun e s => (match (generalizing := false) o1710 with | x1686 => e = .normal ∧ s = ⟨[(1, iV .u64 a1), (2, .ptr 2 0 0), (4, .ptr 3 0 0), (20, bV x1686)], [(2, some (.box 35 (aHist a0))), (3, some (.box 54 (apluvialref08_Cell ⟨0, 0, 0, 0⟩)))], 0⟩)) (AWp.cv ?_) ?_
    · replace H := e1711; clear e1711
      rcases Bool.eq_false_or_eq_true (a1 == (0 : Int)) with c1685 | c1685
      · replace H := (ifT c1685).symm.trans H
        refine reg hP hn hm [(2, .b true)] [1, 2, 4, 20] [0, 1] ⟨[(1, iV .u64 a1), (2, .ptr 0 0 0), (4, .ptr 1 0 0), (20, bV true)], [(0, some (.box 35 (aHist a0))), (1, some (.box 54 (apluvialref08_Cell ⟨0, 0, 0, 0⟩)))], 0⟩ [(a1 == (0 : Int)) = true] (by kernel_rfl) ⟨by exact c1685, trivial⟩ ?_
        obtain rfl := Option.some.inj H
        exact Exists.intro _ (And.intro (fun _ _ h => h.conv (inv := [(0, 2), (1, 3)]) (vk := []) (e0 := []) (t := ⟨[(1, iV .u64 a1), (2, .ptr 2 0 0), (4, .ptr 3 0 0), (20, bV true)], [(2, some (.box 35 (aHist a0))), (3, some (.box 54 (apluvialref08_Cell ⟨0, 0, 0, 0⟩)))], 0⟩) (by kernel_rfl)) (And.intro rfl rfl))
      · replace H := (ifF c1685).symm.trans H
        refine reg hP hn hm [(2, .b false)] [1, 2, 4, 20] [0, 1] ⟨[(1, iV .u64 a1), (2, .ptr 0 0 0), (4, .ptr 1 0 0), (20, bV (decide (a1 > a0.f4)))], [(0, some (.box 35 (aHist a0))), (1, some (.box 54 (apluvialref08_Cell ⟨0, 0, 0, 0⟩)))], 0⟩ [(a1 == (0 : Int)) = false] (by kernel_rfl) ⟨by exact c1685, trivial⟩ ?_
        obtain rfl := Option.some.inj H
        exact Exists.intro _ (And.intro (fun _ _ h => h.conv (inv := [(0, 2), (1, 3)]) (vk := []) (e0 := []) (t := ⟨[(1, iV .u64 a1), (2, .ptr 2 0 0), (4, .ptr 3 0 0), (20, bV (decide (a1 > a0.f4)))], [(2, some (.box 35 (aHist a0))), (3, some (.box 54 (apluvialref08_Cell ⟨0, 0, 0, 0⟩)))], 0⟩) (by kernel_rfl)) (And.intro rfl rfl))
    · obtain ⟨x1686, rfl⟩ : ∃ z, z = o1710 := ⟨_, rfl⟩
      rintro e s ⟨rfl, rfl⟩
      refine AWp.cond x1686 rfl (fun c1687 => ?_) (fun c1687 => ?_)
      · replace H := (ifT c1687).symm.trans H
        refine AWp.seq ?_
        refine reg hP hn hm [] [4, 5] [3] ⟨[(4, .ptr 3 0 0), (5, iV .i64 4)], [(3, some (.box 54 (apluvialref08_Cell ⟨0, 0, 0, 0⟩)))], 0⟩ [] (by kernel_rfl) trivial ?_
        refine AWp.conv (inv := [(3, 0)]) (vk := []) (e0 := []) (t := ⟨[(4, .ptr 0 0 0), (5, iV .i64 4)], [(0, some (.box 54 (apluvialref08_Cell ((⟨0, 0, 0, 0⟩ : Tpluvialref08_Cell)))))], 0⟩) (by kernel_rfl) ?_
        refine AWp.ret ?_
        obtain rfl := Option.some.inj H
        exact Exists.intro _ (And.intro (fun _ _ h => h) (And.intro (.inl rfl) (And.intro rfl (And.intro (by kernel_rfl) (by kernel_rfl)))))
      · replace H := (ifF c1687).symm.trans H
        refine AWp.skip ?_
        refine AWp.seq ?_
        obtain ⟨t1690, e1691, H⟩ := bind_of H
        refine reg hP hn hm [(1, .call [] [(0, 4)] [] [4] 0 (.own 0) [(0, some (.row 4 54 (t1690.map epluvialref08_Cell)))])] [1, 4, 6] [3, 4] ⟨[(1, iV .u64 a1), (4, .ptr 3 0 0), (6, .own 4)], [(3, some (.box 54 (apluvialref08_Cell ⟨0, 0, 0, 0⟩))), (4, some (.row 4 54 (t1690.map epluvialref08_Cell)))], 0⟩ [Enters Try.prog 23, Pv.Fn Try.prog 23 [.agg (aHist a0)] [] 0 (fun r o => r = .own 0 ∧ o = [(0, some (.row 4 54 (t1690.map epluvialref08_Cell)))])] (by kernel_rfl) ⟨by exact Try.call23, by exact f_pluvialref08_Order.ok a0 t1690 e1691, trivial⟩ ?_
        refine AWp.seq ?_
        refine reg hP hn hm [] [1, 4, 6, 7] [3, 4] ⟨[(1, iV .u64 a1), (4, .ptr 3 0 0), (6, .own 4), (7, iV .u64 0)], [(3, some (.box 54 (apluvialref08_Cell ⟨0, 0, 0, 0⟩))), (4, some (.row 4 54 (t1690.map epluvialref08_Cell)))], 0⟩ [] (by kernel_rfl) trivial ?_
        refine AWp.seq ?_
        refine AWp.seq ?_
        refine reg hP hn hm [] [1, 4, 6, 7, 8] [3, 4] ⟨[(1, iV .u64 a1), (4, .ptr 3 0 0), (6, .own 4), (7, iV .u64 0), (8, iV .i64 0)], [(3, some (.box 54 (apluvialref08_Cell ⟨0, 0, 0, 0⟩))), (4, some (.row 4 54 (t1690.map epluvialref08_Cell)))], 0⟩ [] (by kernel_rfl) trivial ?_
        refine AWp.block ?_
        obtain ⟨o1712, e1713, H⟩ := bind_of H
        refine AWp.loop (LWp.conv (inv := [(3, 5), (4, 6)]) (vk := []) (e0 := []) (t := ⟨[(1, iV .u64 a1), (4, .ptr 5 0 0), (6, .own 6), (7, iV .u64 0), (8, iV .i64 0)], [(5, some (.box 54 (apluvialref08_Cell ⟨0, 0, 0, 0⟩))), (6, some (.row 4 54 (t1690.map epluvialref08_Cell)))], 0⟩) (by kernel_rfl) ?_)
        refine LWp.mono (Q := fun e s => (match (generalizing := false) o1712 with | .inl rr => e = .ret ∧ s.floor = 0 ∧ resOf Try.prog Try.f26 s = some (.tup [.agg (apluvialref08_Cell (rr.1)), iV .i64 rr.2]) ∧ ([] : List (Nat × Option MObj)) = [] | .inr _ => e = .exit 0 ∧ s = ⟨[(4, .ptr 7 0 0)], [(7, some (.box 54 (apluvialref08_Cell ⟨0, 0, 0, 0⟩)))], 0⟩)) (LWp.cv (withBody (fun body hbody => ?_))) ?_
        · refine f_pluvialref08_At.l0.partial_correctness a1 t1690 (motive := fun x1700 x1701 o1712 => LWp Γ body (fun e s => ∃ t, Cv Γ s t ∧ (match (generalizing := false) o1712 with | .inl rr => e = .ret ∧ t.floor = 0 ∧ resOf Try.prog Try.f26 t = some (.tup [.agg (apluvialref08_Cell (rr.1)), iV .i64 rr.2]) ∧ ([] : List (Nat × Option MObj)) = [] | .inr _ => e = .exit 0 ∧ t = ⟨[(4, .ptr 7 0 0)], [(7, some (.box 54 (apluvialref08_Cell ⟨0, 0, 0, 0⟩)))], 0⟩)) ⟨[(1, iV .u64 a1), (4, .ptr 5 0 0), (6, .own 6), (7, iV .u64 x1700), (8, iV .i64 x1701)], [(5, some (.box 54 (apluvialref08_Cell ⟨0, 0, 0, 0⟩))), (6, some (.row 4 54 (t1690.map epluvialref08_Cell)))], 0⟩) ?_ _ _ _ e1713
          clear H e1713 o1712; intro self ih x1700 x1701 o1712 H
          subst hbody
          refine LWp.round ?_
          refine AWp.seq ?_
          refine AWp.seq ?_
          refine reg hP hn hm [(2, .any (iV .i64 (t1690.length : Int)))] [1, 4, 6, 7, 8, 27] [5, 6] ⟨[(1, iV .u64 a1), (4, .ptr 5 0 0), (6, .own 6), (7, iV .u64 x1700), (8, iV .i64 x1701), (27, bV (decide (x1701 < (t1690.length : Int))))], [(5, some (.box 54 (apluvialref08_Cell ⟨0, 0, 0, 0⟩))), (6, some (.row 4 54 (t1690.map epluvialref08_Cell)))], 0⟩ [((t1690.map epluvialref08_Cell).length : Int) = (t1690.length : Int)] (by kernel_rfl) ⟨by rw [len_map], trivial⟩ ?_
          refine AWp.cond (decide (x1701 < (t1690.length : Int))) rfl (fun c1702 => ?_) (fun c1702 => ?_)
          · replace H := (ifT c1702).symm.trans H
            refine AWp.skip ?_
            refine AWp.seq ?_
            refine AWp.block ?_
            refine AWp.seq ?_
            refine AWp.seq ?_
            obtain ⟨b1706, p1707, q1708, H⟩ := at_of H
            refine reg hP hn hm [(7, .c (epluvialref08_Cell b1706))] [1, 4, 6, 7, 8, 38] [5, 6] ⟨[(1, iV .u64 a1), (4, .ptr 5 0 0), (6, .own 6), (7, iV .u64 x1700), (8, iV .i64 x1701), (38, bV (decide ((IntKind.u64.wrap (a1 - x1700)) ≤ b1706.f3)))], [(5, some (.box 54 (apluvialref08_Cell ⟨0, 0, 0, 0⟩))), (6, some (.row 4 54 (t1690.map epluvialref08_Cell)))], 0⟩ [0 ≤ x1701, x1701 < (((t1690.map epluvialref08_Cell).length : Nat) : Int), (t1690.map epluvialref08_Cell)[(Int.toNat (x1701))]? = some (epluvialref08_Cell b1706)] (by kernel_rfl) ⟨by exact p1707, by exact el_lt epluvialref08_Cell p1707 q1708, by exact el_map epluvialref08_Cell q1708, trivial⟩ ?_
            refine AWp.cond (decide ((IntKind.u64.wrap (a1 - x1700)) ≤ b1706.f3)) rfl (fun c1709 => ?_) (fun c1709 => ?_)
            · replace H := (ifT c1709).symm.trans H
              refine AWp.seq ?_
              refine reg hP hn hm [(3, .c (epluvialref08_Cell b1706))] [4, 5] [5] ⟨[(4, .ptr 5 0 0), (5, iV .i64 0)], [(5, some (.box 54 (apluvialref08_Cell b1706)))], 0⟩ [0 ≤ x1701, x1701 < (((t1690.map epluvialref08_Cell).length : Nat) : Int), (t1690.map epluvialref08_Cell)[(Int.toNat (x1701))]? = some (epluvialref08_Cell b1706)] (by kernel_rfl) ⟨by exact p1707, by exact el_lt epluvialref08_Cell p1707 q1708, by exact el_map epluvialref08_Cell q1708, trivial⟩ ?_
              refine AWp.conv (inv := [(5, 0)]) (vk := []) (e0 := []) (t := ⟨[(4, .ptr 0 0 0), (5, iV .i64 0)], [(0, some (.box 54 (apluvialref08_Cell (b1706))))], 0⟩) (by kernel_rfl) ?_
              refine AWp.ret ?_
              obtain rfl := Option.some.inj H
              exact Exists.intro _ (And.intro (fun _ _ h => h) (And.intro rfl (And.intro rfl (And.intro (by kernel_rfl) (by kernel_rfl)))))
            · replace H := (ifF c1709).symm.trans H
              refine AWp.skip ?_
              refine reg hP hn hm [(5, .c (epluvialref08_Cell b1706))] [1, 4, 6, 7, 8] [5, 6] ⟨[(1, iV .u64 a1), (4, .ptr 5 0 0), (6, .own 6), (7, iV .u64 (IntKind.u64.wrap (x1700 + b1706.f3))), (8, iV .i64 x1701)], [(5, some (.box 54 (apluvialref08_Cell ⟨0, 0, 0, 0⟩))), (6, some (.row 4 54 (t1690.map epluvialref08_Cell)))], 0⟩ [0 ≤ x1701, x1701 < (((t1690.map epluvialref08_Cell).length : Nat) : Int), (t1690.map epluvialref08_Cell)[(Int.toNat (x1701))]? = some (epluvialref08_Cell b1706)] (by kernel_rfl) ⟨by exact p1707, by exact el_lt epluvialref08_Cell p1707 q1708, by exact el_map epluvialref08_Cell q1708, trivial⟩ ?_
              refine reg hP hn hm [] [1, 4, 6, 7, 8] [5, 6] ⟨[(1, iV .u64 a1), (4, .ptr 5 0 0), (6, .own 6), (7, iV .u64 (IntKind.u64.wrap (x1700 + b1706.f3))), (8, iV .i64 (IntKind.i64.wrap (x1701 + (1 : Int))))], [(5, some (.box 54 (apluvialref08_Cell ⟨0, 0, 0, 0⟩))), (6, some (.row 4 54 (t1690.map epluvialref08_Cell)))], 0⟩ [] (by kernel_rfl) trivial ?_
              exact LWp.conv (inv := [(5, 5), (6, 6)]) (vk := []) (e0 := []) (t := ⟨[(1, iV .u64 a1), (4, .ptr 5 0 0), (6, .own 6), (7, iV .u64 (IntKind.u64.wrap (x1700 + b1706.f3))), (8, iV .i64 (IntKind.i64.wrap (x1701 + (1 : Int))))], [(5, some (.box 54 (apluvialref08_Cell ⟨0, 0, 0, 0⟩))), (6, some (.row 4 54 (t1690.map epluvialref08_Cell)))], 0⟩) (by kernel_rfl) (ih _ _ _ H)
          · replace H := (ifF c1702).symm.trans H
            refine AWp.exit ?_
            obtain rfl := Option.some.inj H
            exact Exists.intro _ (And.intro (fun _ _ h => h.conv (inv := [(5, 7)]) (vk := []) (e0 := []) (t := ⟨[(4, .ptr 7 0 0)], [(7, some (.box 54 (apluvialref08_Cell ⟨0, 0, 0, 0⟩)))], 0⟩) (by kernel_rfl)) (And.intro rfl rfl))
        · rcases o1712 with rr | _
          · skip
            rintro e s ⟨rfl, hfl, hres⟩
            obtain rfl := Option.some.inj H
            exact Exists.intro _ (And.intro (fun _ _ h => h) (And.intro (.inl rfl) (And.intro hfl hres)))
          · skip
            rintro e s ⟨rfl, rfl⟩
            refine AWp.seq ?_
            refine reg hP hn hm [] [4, 5] [7] ⟨[(4, .ptr 7 0 0), (5, iV .i64 4)], [(7, some (.box 54 (apluvialref08_Cell ⟨0, 0, 0, 0⟩)))], 0⟩ [] (by kernel_rfl) trivial ?_
            refine AWp.conv (inv := [(7, 0)]) (vk := []) (e0 := []) (t := ⟨[(4, .ptr 0 0 0), (5, iV .i64 4)], [(0, some (.box 54 (apluvialref08_Cell ((⟨0, 0, 0, 0⟩ : Tpluvialref08_Cell)))))], 0⟩) (by kernel_rfl) ?_
            refine AWp.ret ?_
            obtain rfl := Option.some.inj H
            exact Exists.intro _ (And.intro (fun _ _ h => h) (And.intro (.inl rfl) (And.intro rfl (And.intro (by kernel_rfl) (by kernel_rfl)))))
def f_pluvialref01_Mul.l1 (a0 : Int) (a1 : Int) (x1784 : Int) (x1804 : List Int) (x1805 : Int) (x1806 : Int) : Option ((List Int) × Int) := if (decide (x1806 < (2 : Int))) = true then ((at? x1804 (IntKind.i64.wrap (x1784 + x1806))) >>= fun b1817 => (at? [Int.tmod a0 (4294967296 : Int), IntKind.u64.wrap (Int.tdiv a0 (4294967296 : Int))] x1784) >>= fun b1820 => (at? [Int.tmod a1 (4294967296 : Int), IntKind.u64.wrap (Int.tdiv a1 (4294967296 : Int))] x1806) >>= fun b1823 => f_pluvialref01_Mul.l1 a0 a1 x1784 (x1804.set (Int.toNat (IntKind.i64.wrap (x1784 + x1806))) (Int.tmod (IntKind.u64.wrap ((IntKind.u64.wrap (b1817 + (IntKind.u64.wrap (b1820 * b1823)))) + x1805)) (4294967296 : Int))) (IntKind.u64.wrap (Int.tdiv (IntKind.u64.wrap ((IntKind.u64.wrap (b1817 + (IntKind.u64.wrap (b1820 * b1823)))) + x1805)) (4294967296 : Int))) (IntKind.i64.wrap (x1806 + (1 : Int)))) else (some (x1804, x1805))
partial_fixpoint
def f_pluvialref01_Mul.l0 (a0 : Int) (a1 : Int) (x1783 : List Int) (x1784 : Int) : Option (List Int) := if (decide (x1784 < (2 : Int))) = true then ((f_pluvialref01_Mul.l1 a0 a1 x1784 x1783 0 0) >>= fun oo => match oo with | (x1826, x1827) => ((at? x1826 (IntKind.i64.wrap (x1784 + (2 : Int)))) >>= fun b1831 => f_pluvialref01_Mul.l0 a0 a1 (x1826.set (Int.toNat (IntKind.i64.wrap (x1784 + (2 : Int)))) (IntKind.u64.wrap (b1831 + x1827))) (IntKind.i64.wrap (x1784 + (1 : Int))))) else (some x1783)
partial_fixpoint
def f_pluvialref01_Mul.f (a0 : Int) (a1 : Int) : Option (Int × Int) := (f_pluvialref01_Mul.l0 a0 a1 [0, 0, 0, 0] 0) >>= fun x1834 => (at? x1834 3) >>= fun b1847 => (at? x1834 2) >>= fun b1850 => (at? x1834 1) >>= fun b1853 => (at? x1834 0) >>= fun b1856 => some (IntKind.u64.wrap ((IntKind.u64.wrap (b1847 * (4294967296 : Int))) + b1850), IntKind.u64.wrap ((IntKind.u64.wrap (b1853 * (4294967296 : Int))) + b1856))
theorem f_pluvialref01_Mul.ok (a0 : Int) (a1 : Int) (r : Int × Int) (H : f_pluvialref01_Mul.f a0 a1 = some r) : Pv.Fn Try.prog 72 [iV .u64 a0, iV .u64 a1] [] 0 (fun x o => x = .tup [iV .u64 r.1, iV .u64 r.2] ∧ o = []) := by
  unfold f_pluvialref01_Mul.f at H
  refine Fn.bodyK [] Try.func72 rfl rfl (fun Γ hP hn => ?_)
  have hm : Try.prog.follows .mixedOrders = true := by kernel_rfl
  replace hn : Γ.n = 86 := hn
  refine AWp.seq ?_
  refine reg hP hn hm [] [0, 1] [] ⟨[(0, iV .u64 a0), (1, iV .u64 a1)], [], 0⟩ [] (by kernel_rfl) trivial ?_
  refine AWp.seq ?_
  refine reg hP hn hm [(4, .app 0 ([Int.tmod a0 (4294967296 : Int), IntKind.u64.wrap (Int.tdiv a0 (4294967296 : Int))].map (encInt .u64)))] [1, 6] [0] ⟨[(1, iV .u64 a1), (6, .own 0)], [(0, some (.row 1 32 ([Int.tmod a0 (4294967296 : Int), IntKind.u64.wrap (Int.tdiv a0 (4294967296 : Int))].map (encInt .u64))))], 0⟩ [(4294967296 : Int) ≠ 0, (4294967296 : Int) ≠ 0, [Int.tmod a0 (4294967296 : Int), IntKind.u64.wrap (Int.tdiv a0 (4294967296 : Int))].map (encInt .u64) = [[iI .u64 (Int.tmod a0 (4294967296 : Int))], [iI .u64 (IntKind.u64.wrap (Int.tdiv a0 (4294967296 : Int)))]]] (by kernel_rfl) ⟨by decide, by decide, by exact rfl, trivial⟩ ?_
  refine AWp.seq ?_
  refine reg hP hn hm [(4, .app 1 ([Int.tmod a1 (4294967296 : Int), IntKind.u64.wrap (Int.tdiv a1 (4294967296 : Int))].map (encInt .u64)))] [6, 7] [0, 1] ⟨[(6, .own 0), (7, .own 1)], [(0, some (.row 1 32 ([Int.tmod a0 (4294967296 : Int), IntKind.u64.wrap (Int.tdiv a0 (4294967296 : Int))].map (encInt .u64)))), (1, some (.row 1 32 ([Int.tmod a1 (4294967296 : Int), IntKind.u64.wrap (Int.tdiv a1 (4294967296 : Int))].map (encInt .u64))))], 0⟩ [(4294967296 : Int) ≠ 0, (4294967296 : Int) ≠ 0, [Int.tmod a1 (4294967296 : Int), IntKind.u64.wrap (Int.tdiv a1 (4294967296 : Int))].map (encInt .u64) = [[iI .u64 (Int.tmod a1 (4294967296 : Int))], [iI .u64 (IntKind.u64.wrap (Int.tdiv a1 (4294967296 : Int)))]]] (by kernel_rfl) ⟨by decide, by decide, by exact rfl, trivial⟩ ?_
  refine AWp.seq ?_
  refine reg hP hn hm [(0, .app 2 ([0, 0, 0, 0].map (encInt .u64)))] [6, 7, 8] [0, 1, 2] ⟨[(6, .own 0), (7, .own 1), (8, .own 2)], [(0, some (.row 1 32 ([Int.tmod a0 (4294967296 : Int), IntKind.u64.wrap (Int.tdiv a0 (4294967296 : Int))].map (encInt .u64)))), (1, some (.row 1 32 ([Int.tmod a1 (4294967296 : Int), IntKind.u64.wrap (Int.tdiv a1 (4294967296 : Int))].map (encInt .u64)))), (2, some (.row 1 32 ([0, 0, 0, 0].map (encInt .u64))))], 0⟩ [[0, 0, 0, 0].map (encInt .u64) = [[iI .u64 0], [iI .u64 0], [iI .u64 0], [iI .u64 0]]] (by kernel_rfl) ⟨by exact rfl, trivial⟩ ?_
  refine AWp.seq ?_
  refine AWp.seq ?_
  refine reg hP hn hm [] [6, 7, 8, 9] [0, 1, 2] ⟨[(6, .own 0), (7, .own 1), (8, .own 2), (9, iV .i64 0)], [(0, some (.row 1 32 ([Int.tmod a0 (4294967296 : Int), IntKind.u64.wrap (Int.tdiv a0 (4294967296 : Int))].map (encInt .u64)))), (1, some (.row 1 32 ([Int.tmod a1 (4294967296 : Int), IntKind.u64.wrap (Int.tdiv a1 (4294967296 : Int))].map (encInt .u64)))), (2, some (.row 1 32 ([0, 0, 0, 0].map (encInt .u64))))], 0⟩ [] (by kernel_rfl) trivial ?_
  refine AWp.block ?_
  obtain ⟨o1859, e1860, H⟩ := bind_of H
  refine AWp.loop (LWp.conv (inv := [(0, 9), (1, 10), (2, 11)]) (vk := []) (e0 := []) (t := ⟨[(6, .own 9), (7, .own 10), (8, .own 11), (9, iV .i64 0)], [(9, some (.row 1 32 ([Int.tmod a0 (4294967296 : Int), IntKind.u64.wrap (Int.tdiv a0 (4294967296 : Int))].map (encInt .u64)))), (10, some (.row 1 32 ([Int.tmod a1 (4294967296 : Int), IntKind.u64.wrap (Int.tdiv a1 (4294967296 : Int))].map (encInt .u64)))), (11, some (.row 1 32 ([0, 0, 0, 0].map (encInt .u64))))], 0⟩) (by kernel_rfl) ?_)
  refine LWp.mono (Q := fun e s => (match (generalizing := false) o1859 with | x1834 => e = .exit 0 ∧ s = ⟨[(8, .own 18)], [(18, some (.row 1 32 (x1834.map (encInt .u64))))], 0⟩)) (LWp.cv (withBody (fun body hbody => ?_))) ?_
  · refine f_pluvialref01_Mul.l0.partial_correctness a0 a1 (motive := fun x1783 x1784 o1859 => LWp Γ body (fun e s => ∃ t, Cv Γ s t ∧ (match (generalizing := false) o1859 with | x1834 => e = .exit 0 ∧ t = ⟨[(8, .own 18)], [(18, some (.row 1 32 (x1834.map (encInt .u64))))], 0⟩)) ⟨[(6, .own 9), (7, .own 10), (8, .own 11), (9, iV .i64 x1784)], [(9, some (.row 1 32 ([Int.tmod a0 (4294967296 : Int), IntKind.u64.wrap (Int.tdiv a0 (4294967296 : Int))].map (encInt .u64)))), (10, some (.row 1 32 ([Int.tmod a1 (4294967296 : Int), IntKind.u64.wrap (Int.tdiv a1 (4294967296 : Int))].map (encInt .u64)))), (11, some (.row 1 32 (x1783.map (encInt .u64))))], 0⟩) ?_ _ _ _ e1860
    clear H e1860 o1859; intro self ih x1783 x1784 o1859 H
    subst hbody
    refine LWp.round ?_
    refine AWp.seq ?_
    refine AWp.seq ?_
    refine reg hP hn hm [] [6, 7, 8, 9, 25] [9, 10, 11] ⟨[(6, .own 9), (7, .own 10), (8, .own 11), (9, iV .i64 x1784), (25, bV (decide (x1784 < (2 : Int))))], [(9, some (.row 1 32 ([Int.tmod a0 (4294967296 : Int), IntKind.u64.wrap (Int.tdiv a0 (4294967296 : Int))].map (encInt .u64)))), (10, some (.row 1 32 ([Int.tmod a1 (4294967296 : Int), IntKind.u64.wrap (Int.tdiv a1 (4294967296 : Int))].map (encInt .u64)))), (11, some (.row 1 32 (x1783.map (encInt .u64))))], 0⟩ [] (by kernel_rfl) trivial ?_
    refine AWp.cond (decide (x1784 < (2 : Int))) rfl (fun c1785 => ?_) (fun c1785 => ?_)
    · replace H := (ifT c1785).symm.trans H
      refine AWp.skip ?_
      refine AWp.seq ?_
      refine AWp.block ?_
      refine AWp.seq ?_
      refine reg hP hn hm [] [6, 7, 8, 9, 10] [9, 10, 11] ⟨[(6, .own 9), (7, .own 10), (8, .own 11), (9, iV .i64 x1784), (10, iV .u64 0)], [(9, some (.row 1 32 ([Int.tmod a0 (4294967296 : Int), IntKind.u64.wrap (Int.tdiv a0 (4294967296 : Int))].map (encInt .u64)))), (10, some (.row 1 32 ([Int.tmod a1 (4294967296 : Int), IntKind.u64.wrap (Int.tdiv a1 (4294967296 : Int))].map (encInt .u64)))), (11, some (.row 1 32 (x1783.map (encInt .u64))))], 0⟩ [] (by kernel_rfl) trivial ?_
      refine AWp.seq ?_
      refine AWp.seq ?_
      refine reg hP hn hm [] [6, 7, 8, 9, 10, 11] [9, 10, 11] ⟨[(6, .own 9), (7, .own 10), (8, .own 11), (9, iV .i64 x1784), (10, iV .u64 0), (11, iV .i64 0)], [(9, some (.row 1 32 ([Int.tmod a0 (4294967296 : Int), IntKind.u64.wrap (Int.tdiv a0 (4294967296 : Int))].map (encInt .u64)))), (10, some (.row 1 32 ([Int.tmod a1 (4294967296 : Int), IntKind.u64.wrap (Int.tdiv a1 (4294967296 : Int))].map (encInt .u64)))), (11, some (.row 1 32 (x1783.map (encInt .u64))))], 0⟩ [] (by kernel_rfl) trivial ?_
      refine AWp.block ?_
      obtain ⟨o1861, e1862, H⟩ := bind_of H
      refine AWp.loop (LWp.conv (inv := [(9, 12), (10, 13), (11, 14)]) (vk := []) (e0 := []) (t := ⟨[(6, .own 12), (7, .own 13), (8, .own 14), (9, iV .i64 x1784), (10, iV .u64 0), (11, iV .i64 0)], [(12, some (.row 1 32 ([Int.tmod a0 (4294967296 : Int), IntKind.u64.wrap (Int.tdiv a0 (4294967296 : Int))].map (encInt .u64)))), (13, some (.row 1 32 ([Int.tmod a1 (4294967296 : Int), IntKind.u64.wrap (Int.tdiv a1 (4294967296 : Int))].map (encInt .u64)))), (14, some (.row 1 32 (x1783.map (encInt .u64))))], 0⟩) (by kernel_rfl) ?_)
      refine LWp.mono (Q := fun e s => (match (generalizing := false) o1861 with | (x1826, x1827) => e = .exit 2 ∧ s = ⟨[(6, .own 15), (7, .own 16), (8, .own 17), (9, iV .i64 x1784), (10, iV .u64 x1827)], [(15, some (.row 1 32 ([Int.tmod a0 (4294967296 : Int), IntKind.u64.wrap (Int.tdiv a0 (4294967296 : Int))].map (encInt .u64)))), (16, some (.row 1 32 ([Int.tmod a1 (4294967296 : Int), IntKind.u64.wrap (Int.tdiv a1 (4294967296 : Int))].map (encInt .u64)))), (17, some (.row 1 32 (x1826.map (encInt .u64))))], 0⟩)) (LWp.cv (withBody (fun body hbody => ?_))) ?_
      · refine f_pluvialref01_Mul.l1.partial_correctness a0 a1 x1784 (motive := fun x1804 x1805 x1806 o1861 => LWp Γ body (fun e s => ∃ t, Cv Γ s t ∧ (match (generalizing := false) o1861 with | (x1826, x1827) => e = .exit 2 ∧ t = ⟨[(6, .own 15), (7, .own 16), (8, .own 17), (9, iV .i64 x1784), (10, iV .u64 x1827)], [(15, some (.row 1 32 ([Int.tmod a0 (4294967296 : Int), IntKind.u64.wrap (Int.tdiv a0 (4294967296 : Int))].map (encInt .u64)))), (16, some (.row 1 32 ([Int.tmod a1 (4294967296 : Int), IntKind.u64.wrap (Int.tdiv a1 (4294967296 : Int))].map (encInt .u64)))), (17, some (.row 1 32 (x1826.map (encInt .u64))))], 0⟩)) ⟨[(6, .own 12), (7, .own 13), (8, .own 14), (9, iV .i64 x1784), (10, iV .u64 x1805), (11, iV .i64 x1806)], [(12, some (.row 1 32 ([Int.tmod a0 (4294967296 : Int), IntKind.u64.wrap (Int.tdiv a0 (4294967296 : Int))].map (encInt .u64)))), (13, some (.row 1 32 ([Int.tmod a1 (4294967296 : Int), IntKind.u64.wrap (Int.tdiv a1 (4294967296 : Int))].map (encInt .u64)))), (14, some (.row 1 32 (x1804.map (encInt .u64))))], 0⟩) ?_ _ _ _ _ e1862
        clear H e1862 o1861; intro self ih x1804 x1805 x1806 o1861 H
        subst hbody
        refine LWp.round ?_
        refine AWp.seq ?_
        refine AWp.seq ?_
        refine reg hP hn hm [] [6, 7, 8, 9, 10, 11, 29] [12, 13, 14] ⟨[(6, .own 12), (7, .own 13), (8, .own 14), (9, iV .i64 x1784), (10, iV .u64 x1805), (11, iV .i64 x1806), (29, bV (decide (x1806 < (2 : Int))))], [(12, some (.row 1 32 ([Int.tmod a0 (4294967296 : Int), IntKind.u64.wrap (Int.tdiv a0 (4294967296 : Int))].map (encInt .u64)))), (13, some (.row 1 32 ([Int.tmod a1 (4294967296 : Int), IntKind.u64.wrap (Int.tdiv a1 (4294967296 : Int))].map (encInt .u64)))), (14, some (.row 1 32 (x1804.map (encInt .u64))))], 0⟩ [] (by kernel_rfl) trivial ?_
        refine AWp.cond (decide (x1806 < (2 : Int))) rfl (fun c1807 => ?_) (fun c1807 => ?_)
        · replace H := (ifT c1807).symm.trans H
          refine AWp.skip ?_
          refine AWp.seq ?_
          refine AWp.block ?_
          refine AWp.seq ?_
          obtain ⟨b1817, p1818, q1819, H⟩ := at_of H
          obtain ⟨b1820, p1821, q1822, H⟩ := at_of H
          obtain ⟨b1823, p1824, q1825, H⟩ := at_of H
          refine reg hP hn hm [(5, .c ((encInt .u64) b1817)), (9, .c ((encInt .u64) b1820)), (13, .c ((encInt .u64) b1823))] [6, 7, 8, 9, 11, 12] [12, 13, 14] ⟨[(6, .own 12), (7, .own 13), (8, .own 14), (9, iV .i64 x1784), (11, iV .i64 x1806), (12, iV .u64 (IntKind.u64.wrap ((IntKind.u64.wrap (b1817 + (IntKind.u64.wrap (b1820 * b1823)))) + x1805)))], [(12, some (.row 1 32 ([Int.tmod a0 (4294967296 : Int), IntKind.u64.wrap (Int.tdiv a0 (4294967296 : Int))].map (encInt .u64)))), (13, some (.row 1 32 ([Int.tmod a1 (4294967296 : Int), IntKind.u64.wrap (Int.tdiv a1 (4294967296 : Int))].map (encInt .u64)))), (14, some (.row 1 32 (x1804.map (encInt .u64))))], 0⟩ [0 ≤ (IntKind.i64.wrap (x1784 + x1806)), IntKind.i64.wrap (x1784 + x1806) < (((x1804.map (encInt .u64)).length : Nat) : Int), (x1804.map (encInt .u64))[(Int.toNat (IntKind.i64.wrap (x1784 + x1806)))]? = some ((encInt .u64) b1817), 0 ≤ x1784, x1784 < ((([Int.tmod a0 (4294967296 : Int), IntKind.u64.wrap (Int.tdiv a0 (4294967296 : Int))].map (encInt .u64)).length : Nat) : Int), ([Int.tmod a0 (4294967296 : Int), IntKind.u64.wrap (Int.tdiv a0 (4294967296 : Int))].map (encInt .u64))[(Int.toNat (x1784))]? = some ((encInt .u64) b1820), 0 ≤ x1806, x1806 < ((([Int.tmod a1 (4294967296 : Int), IntKind.u64.wrap (Int.tdiv a1 (4294967296 : Int))].map (encInt .u64)).length : Nat) : Int), ([Int.tmod a1 (4294967296 : Int), IntKind.u64.wrap (Int.tdiv a1 (4294967296 : Int))].map (encInt .u64))[(Int.toNat (x1806))]? = some ((encInt .u64) b1823)] (by kernel_rfl) ⟨by exact p1818, by exact el_lt (encInt .u64) p1818 q1819, by exact el_map (encInt .u64) q1819, by exact p1821, by exact el_lt (encInt .u64) p1821 q1822, by exact el_map (encInt .u64) q1822, by exact p1824, by exact el_lt (encInt .u64) p1824 q1825, by exact el_map (encInt .u64) q1825, trivial⟩ ?_
          refine AWp.seq ?_
          refine reg hP hn hm [(7, .put ((encInt .u64) b1817) ((x1804.set (Int.toNat (IntKind.i64.wrap (x1784 + x1806))) (Int.tmod (IntKind.u64.wrap ((IntKind.u64.wrap (b1817 + (IntKind.u64.wrap (b1820 * b1823)))) + x1805)) (4294967296 : Int))).map (encInt .u64)))] [6, 7, 8, 9, 11, 12] [12, 13, 14] ⟨[(6, .own 12), (7, .own 13), (8, .own 14), (9, iV .i64 x1784), (11, iV .i64 x1806), (12, iV .u64 (IntKind.u64.wrap ((IntKind.u64.wrap (b1817 + (IntKind.u64.wrap (b1820 * b1823)))) + x1805)))], [(12, some (.row 1 32 ([Int.tmod a0 (4294967296 : Int), IntKind.u64.wrap (Int.tdiv a0 (4294967296 : Int))].map (encInt .u64)))), (13, some (.row 1 32 ([Int.tmod a1 (4294967296 : Int), IntKind.u64.wrap (Int.tdiv a1 (4294967296 : Int))].map (encInt .u64)))), (14, some (.row 1 32 ((x1804.set (Int.toNat (IntKind.i64.wrap (x1784 + x1806))) (Int.tmod (IntKind.u64.wrap ((IntKind.u64.wrap (b1817 + (IntKind.u64.wrap (b1820 * b1823)))) + x1805)) (4294967296 : Int))).map (encInt .u64))))], 0⟩ [(4294967296 : Int) ≠ 0, 0 ≤ (IntKind.i64.wrap (x1784 + x1806)), IntKind.i64.wrap (x1784 + x1806) < (((x1804.map (encInt .u64)).length : Nat) : Int), (x1804.map (encInt .u64))[(Int.toNat (IntKind.i64.wrap (x1784 + x1806)))]? = some ((encInt .u64) b1817), (x1804.set (Int.toNat (IntKind.i64.wrap (x1784 + x1806))) (Int.tmod (IntKind.u64.wrap ((IntKind.u64.wrap (b1817 + (IntKind.u64.wrap (b1820 * b1823)))) + x1805)) (4294967296 : Int))).map (encInt .u64) = (x1804.map (encInt .u64)).set (Int.toNat (IntKind.i64.wrap (x1784 + x1806))) (splice ((encInt .u64) b1817) 0 [iI .u64 (Int.tmod (IntKind.u64.wrap ((IntKind.u64.wrap (b1817 + (IntKind.u64.wrap (b1820 * b1823)))) + x1805)) (4294967296 : Int))])] (by kernel_rfl) ⟨by decide, by exact p1818, by exact el_lt (encInt .u64) p1818 q1819, by exact el_map (encInt .u64) q1819, by exact set1 _ _ _ _, trivial⟩ ?_
          refine reg hP hn hm [] [6, 7, 8, 9, 10, 11] [12, 13, 14] ⟨[(6, .own 12), (7, .own 13), (8, .own 14), (9, iV .i64 x1784), (10, iV .u64 (IntKind.u64.wrap (Int.tdiv (IntKind.u64.wrap ((IntKind.u64.wrap (b1817 + (IntKind.u64.wrap (b1820 * b1823)))) + x1805)) (4294967296 : Int)))), (11, iV .i64 x1806)], [(12, some (.row 1 32 ([Int.tmod a0 (4294967296 : Int), IntKind.u64.wrap (Int.tdiv a0 (4294967296 : Int))].map (encInt .u64)))), (13, some (.row 1 32 ([Int.tmod a1 (4294967296 : Int), IntKind.u64.wrap (Int.tdiv a1 (4294967296 : Int))].map (encInt .u64)))), (14, some (.row 1 32 ((x1804.set (Int.toNat (IntKind.i64.wrap (x1784 + x1806))) (Int.tmod (IntKind.u64.wrap ((IntKind.u64.wrap (b1817 + (IntKind.u64.wrap (b1820 * b1823)))) + x1805)) (4294967296 : Int))).map (encInt .u64))))], 0⟩ [(4294967296 : Int) ≠ 0] (by kernel_rfl) ⟨by decide, trivial⟩ ?_
          refine reg hP hn hm [] [6, 7, 8, 9, 10, 11] [12, 13, 14] ⟨[(6, .own 12), (7, .own 13), (8, .own 14), (9, iV .i64 x1784), (10, iV .u64 (IntKind.u64.wrap (Int.tdiv (IntKind.u64.wrap ((IntKind.u64.wrap (b1817 + (IntKind.u64.wrap (b1820 * b1823)))) + x1805)) (4294967296 : Int)))), (11, iV .i64 (IntKind.i64.wrap (x1806 + (1 : Int))))], [(12, some (.row 1 32 ([Int.tmod a0 (4294967296 : Int), IntKind.u64.wrap (Int.tdiv a0 (4294967296 : Int))].map (encInt .u64)))), (13, some (.row 1 32 ([Int.tmod a1 (4294967296 : Int), IntKind.u64.wrap (Int.tdiv a1 (4294967296 : Int))].map (encInt .u64)))), (14, some (.row 1 32 ((x1804.set (Int.toNat (IntKind.i64.wrap (x1784 + x1806))) (Int.tmod (IntKind.u64.wrap ((IntKind.u64.wrap (b1817 + (IntKind.u64.wrap (b1820 * b1823)))) + x1805)) (4294967296 : Int))).map (encInt .u64))))], 0⟩ [] (by kernel_rfl) trivial ?_
          exact LWp.conv (inv := [(12, 12), (13, 13), (14, 14)]) (vk := []) (e0 := []) (t := ⟨[(6, .own 12), (7, .own 13), (8, .own 14), (9, iV .i64 x1784), (10, iV .u64 (IntKind.u64.wrap (Int.tdiv (IntKind.u64.wrap ((IntKind.u64.wrap (b1817 + (IntKind.u64.wrap (b1820 * b1823)))) + x1805)) (4294967296 : Int)))), (11, iV .i64 (IntKind.i64.wrap (x1806 + (1 : Int))))], [(12, some (.row 1 32 ([Int.tmod a0 (4294967296 : Int), IntKind.u64.wrap (Int.tdiv a0 (4294967296 : Int))].map (encInt .u64)))), (13, some (.row 1 32 ([Int.tmod a1 (4294967296 : Int), IntKind.u64.wrap (Int.tdiv a1 (4294967296 : Int))].map (encInt .u64)))), (14, some (.row 1 32 ((x1804.set (Int.toNat (IntKind.i64.wrap (x1784 + x1806))) (Int.tmod (IntKind.u64.wrap ((IntKind.u64.wrap (b1817 + (IntKind.u64.wrap (b1820 * b1823)))) + x1805)) (4294967296 : Int))).map (encInt .u64))))], 0⟩) (by kernel_rfl) (ih _ _ _ _ H)
        · replace H := (ifF c1807).symm.trans H
          refine AWp.exit ?_
          obtain rfl := Option.some.inj H
          exact Exists.intro _ (And.intro (fun _ _ h => h.conv (inv := [(12, 15), (13, 16), (14, 17)]) (vk := []) (e0 := []) (t := ⟨[(6, .own 15), (7, .own 16), (8, .own 17), (9, iV .i64 x1784), (10, iV .u64 x1805)], [(15, some (.row 1 32 ([Int.tmod a0 (4294967296 : Int), IntKind.u64.wrap (Int.tdiv a0 (4294967296 : Int))].map (encInt .u64)))), (16, some (.row 1 32 ([Int.tmod a1 (4294967296 : Int), IntKind.u64.wrap (Int.tdiv a1 (4294967296 : Int))].map (encInt .u64)))), (17, some (.row 1 32 (x1804.map (encInt .u64))))], 0⟩) (by kernel_rfl)) (And.intro rfl rfl))
      · obtain ⟨x1826, x1827⟩ := o1861
        rintro e s ⟨rfl, rfl⟩
        obtain ⟨b1831, p1832, q1833, H⟩ := at_of H
        refine reg hP hn hm [(7, .c ((encInt .u64) b1831)), (11, .put ((encInt .u64) b1831) ((x1826.set (Int.toNat (IntKind.i64.wrap (x1784 + (2 : Int)))) (IntKind.u64.wrap (b1831 + x1827))).map (encInt .u64)))] [6, 7, 8, 9] [15, 16, 17] ⟨[(6, .own 15), (7, .own 16), (8, .own 17), (9, iV .i64 x1784)], [(15, some (.row 1 32 ([Int.tmod a0 (4294967296 : Int), IntKind.u64.wrap (Int.tdiv a0 (4294967296 : Int))].map (encInt .u64)))), (16, some (.row 1 32 ([Int.tmod a1 (4294967296 : Int), IntKind.u64.wrap (Int.tdiv a1 (4294967296 : Int))].map (encInt .u64)))), (17, some (.row 1 32 ((x1826.set (Int.toNat (IntKind.i64.wrap (x1784 + (2 : Int)))) (IntKind.u64.wrap (b1831 + x1827))).map (encInt .u64))))], 0⟩ [0 ≤ (IntKind.i64.wrap (x1784 + (2 : Int))), IntKind.i64.wrap (x1784 + (2 : Int)) < (((x1826.map (encInt .u64)).length : Nat) : Int), (x1826.map (encInt .u64))[(Int.toNat (IntKind.i64.wrap (x1784 + (2 : Int))))]? = some ((encInt .u64) b1831), 0 ≤ (IntKind.i64.wrap (x1784 + (2 : Int))), IntKind.i64.wrap (x1784 + (2 : Int)) < (((x1826.map (encInt .u64)).length : Nat) : Int), (x1826.map (encInt .u64))[(Int.toNat (IntKind.i64.wrap (x1784 + (2 : Int))))]? = some ((encInt .u64) b1831), (x1826.set (Int.toNat (IntKind.i64.wrap (x1784 + (2 : Int)))) (IntKind.u64.wrap (b1831 + x1827))).map (encInt .u64) = (x1826.map (encInt .u64)).set (Int.toNat (IntKind.i64.wrap (x1784 + (2 : Int)))) (splice ((encInt .u64) b1831) 0 [iI .u64 (IntKind.u64.wrap (b1831 + x1827))])] (by kernel_rfl) ⟨by exact p1832, by exact el_lt (encInt .u64) p1832 q1833, by exact el_map (encInt .u64) q1833, by exact p1832, by exact el_lt (encInt .u64) p1832 q1833, by exact el_map (encInt .u64) q1833, by exact set1 _ _ _ _, trivial⟩ ?_
        refine reg hP hn hm [] [6, 7, 8, 9] [15, 16, 17] ⟨[(6, .own 15), (7, .own 16), (8, .own 17), (9, iV .i64 (IntKind.i64.wrap (x1784 + (1 : Int))))], [(15, some (.row 1 32 ([Int.tmod a0 (4294967296 : Int), IntKind.u64.wrap (Int.tdiv a0 (4294967296 : Int))].map (encInt .u64)))), (16, some (.row 1 32 ([Int.tmod a1 (4294967296 : Int), IntKind.u64.wrap (Int.tdiv a1 (4294967296 : Int))].map (encInt .u64)))), (17, some (.row 1 32 ((x1826.set (Int.toNat (IntKind.i64.wrap (x1784 + (2 : Int)))) (IntKind.u64.wrap (b1831 + x1827))).map (encInt .u64))))], 0⟩ [] (by kernel_rfl) trivial ?_
        exact LWp.conv (inv := [(15, 9), (16, 10), (17, 11)]) (vk := []) (e0 := []) (t := ⟨[(6, .own 9), (7, .own 10), (8, .own 11), (9, iV .i64 (IntKind.i64.wrap (x1784 + (1 : Int))))], [(9, some (.row 1 32 ([Int.tmod a0 (4294967296 : Int), IntKind.u64.wrap (Int.tdiv a0 (4294967296 : Int))].map (encInt .u64)))), (10, some (.row 1 32 ([Int.tmod a1 (4294967296 : Int), IntKind.u64.wrap (Int.tdiv a1 (4294967296 : Int))].map (encInt .u64)))), (11, some (.row 1 32 ((x1826.set (Int.toNat (IntKind.i64.wrap (x1784 + (2 : Int)))) (IntKind.u64.wrap (b1831 + x1827))).map (encInt .u64))))], 0⟩) (by kernel_rfl) (ih _ _ _ H)
    · replace H := (ifF c1785).symm.trans H
      refine AWp.exit ?_
      obtain rfl := Option.some.inj H
      exact Exists.intro _ (And.intro (fun _ _ h => h.conv (inv := [(11, 18)]) (vk := []) (e0 := []) (t := ⟨[(8, .own 18)], [(18, some (.row 1 32 (x1783.map (encInt .u64))))], 0⟩) (by kernel_rfl)) (And.intro rfl rfl))
  · obtain ⟨x1834, rfl⟩ : ∃ z, z = o1859 := ⟨_, rfl⟩
    rintro e s ⟨rfl, rfl⟩
    refine AWp.seq ?_
    obtain ⟨b1847, p1848, q1849, H⟩ := at_of H
    obtain ⟨b1850, p1851, q1852, H⟩ := at_of H
    obtain ⟨b1853, p1854, q1855, H⟩ := at_of H
    obtain ⟨b1856, p1857, q1858, H⟩ := at_of H
    refine reg hP hn hm [(2, .c ((encInt .u64) b1847)), (6, .c ((encInt .u64) b1850)), (10, .c ((encInt .u64) b1853)), (14, .c ((encInt .u64) b1856))] [4, 5] [] ⟨[(4, iV .u64 (IntKind.u64.wrap ((IntKind.u64.wrap (b1847 * (4294967296 : Int))) + b1850))), (5, iV .u64 (IntKind.u64.wrap ((IntKind.u64.wrap (b1853 * (4294967296 : Int))) + b1856)))], [], 0⟩ [0 ≤ (3 : Int), 3 < (((x1834.map (encInt .u64)).length : Nat) : Int), (x1834.map (encInt .u64))[(Int.toNat (3))]? = some ((encInt .u64) b1847), 0 ≤ (2 : Int), 2 < (((x1834.map (encInt .u64)).length : Nat) : Int), (x1834.map (encInt .u64))[(Int.toNat (2))]? = some ((encInt .u64) b1850), 0 ≤ (1 : Int), 1 < (((x1834.map (encInt .u64)).length : Nat) : Int), (x1834.map (encInt .u64))[(Int.toNat (1))]? = some ((encInt .u64) b1853), 0 ≤ (0 : Int), 0 < (((x1834.map (encInt .u64)).length : Nat) : Int), (x1834.map (encInt .u64))[(Int.toNat (0))]? = some ((encInt .u64) b1856)] (by kernel_rfl) ⟨by exact p1848, by exact el_lt (encInt .u64) p1848 q1849, by exact el_map (encInt .u64) q1849, by exact p1851, by exact el_lt (encInt .u64) p1851 q1852, by exact el_map (encInt .u64) q1852, by exact p1854, by exact el_lt (encInt .u64) p1854 q1855, by exact el_map (encInt .u64) q1855, by exact p1857, by exact el_lt (encInt .u64) p1857 q1858, by exact el_map (encInt .u64) q1858, trivial⟩ ?_
    refine AWp.conv (inv := []) (vk := []) (e0 := []) (t := ⟨[(4, iV .u64 (IntKind.u64.wrap ((IntKind.u64.wrap (b1847 * (4294967296 : Int))) + b1850))), (5, iV .u64 (IntKind.u64.wrap ((IntKind.u64.wrap (b1853 * (4294967296 : Int))) + b1856)))], [], 0⟩) (by kernel_rfl) ?_
    refine AWp.ret ?_
    obtain rfl := Option.some.inj H
    exact Exists.intro _ (And.intro (fun _ _ h => h) (And.intro (.inl rfl) (And.intro rfl (And.intro (by kernel_rfl) (by kernel_rfl)))))
def f_pluvialref01_Less.f (a0 : Int) (a1 : Int) (a2 : Int) (a3 : Int) : Option (Bool) := if (a0 != a2) = true then (some (decide (a0 < a2))) else (some (decide (a1 < a3)))
theorem f_pluvialref01_Less.ok (a0 : Int) (a1 : Int) (a2 : Int) (a3 : Int) (r : Bool) (H : f_pluvialref01_Less.f a0 a1 a2 a3 = some r) : Pv.Fn Try.prog 73 [iV .u64 a0, iV .u64 a1, iV .u64 a2, iV .u64 a3] [] 0 (fun x o => x = bV r ∧ o = []) := by
  unfold f_pluvialref01_Less.f at H
  refine Fn.bodyK [] Try.func73 rfl rfl (fun Γ hP hn => ?_)
  have hm : Try.prog.follows .mixedOrders = true := by kernel_rfl
  replace hn : Γ.n = 18 := hn
  refine AWp.seq ?_
  refine reg hP hn hm [] [0, 1, 2, 3] [] ⟨[(0, iV .u64 a0), (1, iV .u64 a1), (2, iV .u64 a2), (3, iV .u64 a3)], [], 0⟩ [] (by kernel_rfl) trivial ?_
  refine AWp.seq ?_
  refine AWp.seq ?_
  refine reg hP hn hm [] [0, 1, 2, 3, 11] [] ⟨[(0, iV .u64 a0), (1, iV .u64 a1), (2, iV .u64 a2), (3, iV .u64 a3), (11, bV (a0 != a2))], [], 0⟩ [] (by kernel_rfl) trivial ?_
  refine AWp.cond (a0 != a2) rfl (fun c1882 => ?_) (fun c1882 => ?_)
  · replace H := (ifT c1882).symm.trans H
    refine AWp.seq ?_
    refine reg hP hn hm [] [8] [] ⟨[(8, bV (decide (a0 < a2)))], [], 0⟩ [] (by kernel_rfl) trivial ?_
    refine AWp.conv (inv := []) (vk := []) (e0 := []) (t := ⟨[(8, bV (decide (a0 < a2)))], [], 0⟩) (by kernel_rfl) ?_
    refine AWp.ret ?_
    obtain rfl := Option.some.inj H
    exact Exists.intro _ (And.intro (fun _ _ h => h) (And.intro (.inl rfl) (And.intro rfl (And.intro (by kernel_rfl) (by kernel_rfl)))))
  · replace H := (ifF c1882).symm.trans H
    refine AWp.skip ?_
    refine AWp.seq ?_
    refine reg hP hn hm [] [8] [] ⟨[(8, bV (decide (a1 < a3)))], [], 0⟩ [] (by kernel_rfl) trivial ?_
    refine AWp.conv (inv := []) (vk := []) (e0 := []) (t := ⟨[(8, bV (decide (a1 < a3)))], [], 0⟩) (by kernel_rfl) ?_
    refine AWp.ret ?_
    obtain rfl := Option.some.inj H
    exact Exists.intro _ (And.intro (fun _ _ h => h) (And.intro (.inl rfl) (And.intro rfl (And.intro (by kernel_rfl) (by kernel_rfl)))))
def f_pluvialref08_Quantile.l0 (a2 : Int) (t1865 : Int × Int) (t1869 : List Tpluvialref08_Cell) (x1888 : Int) (x1889 : Int) : Option ((Tpluvialref08_Cell × Int) ⊕ Unit) := if (decide (x1889 < (t1869.length : Int))) = true then ((at? t1869 x1889) >>= fun b1894 => (f_pluvialref01_Mul.f a2 (IntKind.u64.wrap (x1888 + b1894.f3))) >>= fun t1899 => (f_pluvialref01_Less.f t1899.1 t1899.2 t1865.1 t1865.2) >>= fun t1903 => if (!t1903) = true then (some (.inl (b1894, 0))) else (f_pluvialref08_Quantile.l0 a2 t1865 t1869 (IntKind.u64.wrap (x1888 + b1894.f3)) (IntKind.i64.wrap (x1889 + (1 : Int))))) else (some (.inr ()))
partial_fixpoint
def f_pluvialref08_Quantile.f (a0 : THist) (a1 : Int) (a2 : Int) : Option (Tpluvialref08_Cell × Int) := ((if (a2 == (0 : Int)) = true then (some true) else (some (decide (a1 > a2)))) : Option (Bool)) >>= fun x1732 => if x1732 = true then (some ((⟨0, 0, 0, 0⟩ : Tpluvialref08_Cell), 1)) else (if (a0.f4 == (0 : Int)) = true then (some ((⟨0, 0, 0, 0⟩ : Tpluvialref08_Cell), 30)) else ((f_pluvialref01_Mul.f a1 a0.f4) >>= fun t1865 => (f_pluvialref08_Order.f a0) >>= fun t1869 => (f_pluvialref08_Quantile.l0 a2 t1865 t1869 0 0) >>= fun oo => match oo with | .inl rr => (some rr) | .inr _ => ((at? t1869 (IntKind.i64.wrap ((t1869.length : Int) - (1 : Int)))) >>= fun b1909 => some (b1909, 0))))
theorem f_pluvialref08_Quantile.ok (a0 : THist) (a1 : Int) (a2 : Int) (r : Tpluvialref08_Cell × Int) (H : f_pluvialref08_Quantile.f a0 a1 a2 = some r) : Pv.Fn Try.prog 28 [.agg (aHist a0), iV .u64 a1, iV .u64 a2] [] 0 (fun x o => x = .tup [.agg (apluvialref08_Cell (r.1)), iV .i64 r.2] ∧ o = []) := by
  unfold f_pluvialref08_Quantile.f at H
  refine Fn.bodyK [] Try.func28 rfl rfl (fun Γ hP hn => ?_)
  have hm : Try.prog.follows .mixedOrders = true := by kernel_rfl
  replace hn : Γ.n = 71 := hn
  refine AWp.seq ?_
  refine reg hP hn hm [(0, .k 0), (1, .k 1)] [1, 2, 3, 6] [0, 1] ⟨[(1, iV .u64 a1), (2, iV .u64 a2), (3, .ptr 0 0 0), (6, .ptr 1 0 0)], [(0, some (.box 35 (aHist a0))), (1, some (.box 54 (apluvialref08_Cell ⟨0, 0, 0, 0⟩)))], 0⟩ [] (by kernel_rfl) trivial ?_
  refine AWp.seq ?_
  refine AWp.seq ?_
  obtain ⟨o1912, e1913, H⟩ := bind_of H
  refine AWp.mono (Q := fun e s => (match (generalizing := false) o1912 with | x1732 => e = .normal ∧ s = ⟨[(1, iV .u64 a1), (2, iV .u64 a2), (3, .ptr 2 0 0), (6, .ptr 3 0 0), (21, bV x1732)], [(2, some (.box 35 (aHist a0))), (3, some (.box 54 (apluvialref08_Cell ⟨0, 0, 0, 0⟩)))], 0⟩)) (AWp.cv ?_) ?_
  · replace H := e1913; clear e1913
    rcases Bool.eq_false_or_eq_true (a2 == (0 : Int)) with c1731 | c1731
    · replace H := (ifT c1731).symm.trans H
      refine reg hP hn hm [(2, .b true)] [1, 2, 3, 6, 21] [0, 1] ⟨[(1, iV .u64 a1), (2, iV .u64 a2), (3, .ptr 0 0 0), (6, .ptr 1 0 0), (21, bV true)], [(0, some (.box 35 (aHist a0))), (1, some (.box 54 (apluvialref08_Cell ⟨0, 0, 0, 0⟩)))], 0⟩ [(a2 == (0 : Int)) = true] (by kernel_rfl) ⟨by exact c1731, trivial⟩ ?_
      obtain rfl := Option.some.inj H
      exact Exists.intro _ (And.intro (fun _ _ h => h.conv (inv := [(0, 2), (1, 3)]) (vk := []) (e0 := []) (t := ⟨[(1, iV .u64 a1), (2, iV .u64 a2), (3, .ptr 2 0 0), (6, .ptr 3 0 0), (21, bV true)], [(2, some (.box 35 (aHist a0))), (3, some (.box 54 (apluvialref08_Cell ⟨0, 0, 0, 0⟩)))], 0⟩) (by kernel_rfl)) (And.intro rfl rfl))
    · replace H := (ifF c1731).symm.trans H
      refine reg hP hn hm [(2, .b false)] [1, 2, 3, 6, 21] [0, 1] ⟨[(1, iV .u64 a1), (2, iV .u64 a2), (3, .ptr 0 0 0), (6, .ptr 1 0 0), (21, bV (decide (a1 > a2)))], [(0, some (.box 35 (aHist a0))), (1, some (.box 54 (apluvialref08_Cell ⟨0, 0, 0, 0⟩)))], 0⟩ [(a2 == (0 : Int)) = false] (by kernel_rfl) ⟨by exact c1731, trivial⟩ ?_
      obtain rfl := Option.some.inj H
      exact Exists.intro _ (And.intro (fun _ _ h => h.conv (inv := [(0, 2), (1, 3)]) (vk := []) (e0 := []) (t := ⟨[(1, iV .u64 a1), (2, iV .u64 a2), (3, .ptr 2 0 0), (6, .ptr 3 0 0), (21, bV (decide (a1 > a2)))], [(2, some (.box 35 (aHist a0))), (3, some (.box 54 (apluvialref08_Cell ⟨0, 0, 0, 0⟩)))], 0⟩) (by kernel_rfl)) (And.intro rfl rfl))
  · obtain ⟨x1732, rfl⟩ : ∃ z, z = o1912 := ⟨_, rfl⟩
    rintro e s ⟨rfl, rfl⟩
    refine AWp.cond x1732 rfl (fun c1733 => ?_) (fun c1733 => ?_)
    · replace H := (ifT c1733).symm.trans H
      refine AWp.seq ?_
      refine reg hP hn hm [] [6, 7] [3] ⟨[(6, .ptr 3 0 0), (7, iV .i64 1)], [(3, some (.box 54 (apluvialref08_Cell ⟨0, 0, 0, 0⟩)))], 0⟩ [] (by kernel_rfl) trivial ?_
      refine AWp.conv (inv := [(3, 0)]) (vk := []) (e0 := []) (t := ⟨[(6, .ptr 0 0 0), (7, iV .i64 1)], [(0, some (.box 54 (apluvialref08_Cell ((⟨0, 0, 0, 0⟩ : Tpluvialref08_Cell)))))], 0⟩) (by kernel_rfl) ?_
      refine AWp.ret ?_
      obtain rfl := Option.some.inj H
      exact Exists.intro _ (And.intro (fun _ _ h => h) (And.intro (.inl rfl) (And.intro rfl (And.intro (by kernel_rfl) (by kernel_rfl)))))
    · replace H := (ifF c1733).symm.trans H
      refine AWp.skip ?_
      refine AWp.seq ?_
      refine AWp.seq ?_
      refine reg hP hn hm [] [1, 2, 3, 6, 25] [2, 3] ⟨[(1, iV .u64 a1), (2, iV .u64 a2), (3, .ptr 2 0 0), (6, .ptr 3 0 0), (25, bV (a0.f4 == (0 : Int)))], [(2, some (.box 35 (aHist a0))), (3, some (.box 54 (apluvialref08_Cell ⟨0, 0, 0, 0⟩)))], 0⟩ [] (by kernel_rfl) trivial ?_
      refine AWp.cond (a0.f4 == (0 : Int)) rfl (fun c1734 => ?_) (fun c1734 => ?_)
      · replace H := (ifT c1734).symm.trans H
        refine AWp.seq ?_
        refine reg hP hn hm [] [6, 7] [3] ⟨[(6, .ptr 3 0 0), (7, iV .i64 30)], [(3, some (.box 54 (apluvialref08_Cell ⟨0, 0, 0, 0⟩)))], 0⟩ [] (by kernel_rfl) trivial ?_
        refine AWp.conv (inv := [(3, 0)]) (vk := []) (e0 := []) (t := ⟨[(6, .ptr 0 0 0), (7, iV .i64 30)], [(0, some (.box 54 (apluvialref08_Cell ((⟨0, 0, 0, 0⟩ : Tpluvialref08_Cell)))))], 0⟩) (by kernel_rfl) ?_
        refine AWp.ret ?_
        obtain rfl := Option.some.inj H
        exact Exists.intro _ (And.intro (fun _ _ h => h) (And.intro (.inl rfl) (And.intro rfl (And.intro (by kernel_rfl) (by kernel_rfl)))))
      · replace H := (ifF c1734).symm.trans H
        refine AWp.skip ?_
        refine AWp.seq ?_
        obtain ⟨t1865, e1866, H⟩ := bind_of H
        refine reg hP hn hm [(3, .call [] [] [] [] 0 (.tup [iV .u64 t1865.1, iV .u64 t1865.2]) [])] [2, 3, 6, 8, 9] [2, 3] ⟨[(2, iV .u64 a2), (3, .ptr 2 0 0), (6, .ptr 3 0 0), (8, iV .u64 t1865.1), (9, iV .u64 t1865.2)], [(2, some (.box 35 (aHist a0))), (3, some (.box 54 (apluvialref08_Cell ⟨0, 0, 0, 0⟩)))], 0⟩ [Enters Try.prog 72, Pv.Fn Try.prog 72 [iV .u64 a1, iV .u64 a0.f4] [] 0 (fun r o => r = .tup [iV .u64 t1865.1, iV .u64 t1865.2] ∧ o = [])] (by kernel_rfl) ⟨by exact Try.call72, by exact f_pluvialref01_Mul.ok a1 a0.f4 t1865 e1866, trivial⟩ ?_
        refine AWp.seq ?_
        obtain ⟨t1869, e1870, H⟩ := bind_of H
        refine reg hP hn hm [(1, .call [] [(0, 4)] [] [4] 0 (.own 0) [(0, some (.row 4 54 (t1869.map epluvialref08_Cell)))])] [2, 6, 8, 9, 10] [3, 4] ⟨[(2, iV .u64 a2), (6, .ptr 3 0 0), (8, iV .u64 t1865.1), (9, iV .u64 t1865.2), (10, .own 4)], [(3, some (.box 54 (apluvialref08_Cell ⟨0, 0, 0, 0⟩))), (4, some (.row 4 54 (t1869.map epluvialref08_Cell)))], 0⟩ [Enters Try.prog 23, Pv.Fn Try.prog 23 [.agg (aHist a0)] [] 0 (fun r o => r = .own 0 ∧ o = [(0, some (.row 4 54 (t1869.map epluvialref08_Cell)))])] (by kernel_rfl) ⟨by exact Try.call23, by exact f_pluvialref08_Order.ok a0 t1869 e1870, trivial⟩ ?_
        refine AWp.seq ?_
        refine reg hP hn hm [] [2, 6, 8, 9, 10, 11] [3, 4] ⟨[(2, iV .u64 a2), (6, .ptr 3 0 0), (8, iV .u64 t1865.1), (9, iV .u64 t1865.2), (10, .own 4), (11, iV .u64 0)], [(3, some (.box 54 (apluvialref08_Cell ⟨0, 0, 0, 0⟩))), (4, some (.row 4 54 (t1869.map epluvialref08_Cell)))], 0⟩ [] (by kernel_rfl) trivial ?_
        refine AWp.seq ?_
        refine AWp.seq ?_
        refine reg hP hn hm [] [2, 6, 8, 9, 10, 11, 12] [3, 4] ⟨[(2, iV .u64 a2), (6, .ptr 3 0 0), (8, iV .u64 t1865.1), (9, iV .u64 t1865.2), (10, .own 4), (11, iV .u64 0), (12, iV .i64 0)], [(3, some (.box 54 (apluvialref08_Cell ⟨0, 0, 0, 0⟩))), (4, some (.row 4 54 (t1869.map epluvialref08_Cell)))], 0⟩ [] (by kernel_rfl) trivial ?_
        refine AWp.block ?_
        obtain ⟨o1914, e1915, H⟩ := bind_of H
        refine AWp.loop (LWp.conv (inv := [(3, 5), (4, 6)]) (vk := []) (e0 := []) (t := ⟨[(2, iV .u64 a2), (6, .ptr 5 0 0), (8, iV .u64 t1865.1), (9, iV .u64 t1865.2), (10, .own 6), (11, iV .u64 0), (12, iV .i64 0)], [(5, some (.box 54 (apluvialref08_Cell ⟨0, 0, 0, 0⟩))), (6, some (.row 4 54 (t1869.map epluvialref08_Cell)))], 0⟩) (by kernel_rfl) ?_)
        refine LWp.mono (Q := fun e s => (match (generalizing := false) o1914 with | .inl rr => e = .ret ∧ s.floor = 0 ∧ resOf Try.prog Try.f28 s = some (.tup [.agg (apluvialref08_Cell (rr.1)), iV .i64 rr.2]) ∧ ([] : List (Nat × Option MObj)) = [] | .inr _ => e = .exit 0 ∧ s = ⟨[(6, .ptr 7 0 0), (10, .own 8)], [(7, some (.box 54 (apluvialref08_Cell ⟨0, 0, 0, 0⟩))), (8, some (.row 4 54 (t1869.map epluvialref08_Cell)))], 0⟩)) (LWp.cv (withBody (fun body hbody => ?_))) ?_
        · refine f_pluvialref08_Quantile.l0.partial_correctness a2 t1865 t1869 (motive := fun x1888 x1889 o1914 => LWp Γ body (fun e s => ∃ t, Cv Γ s t ∧ (match (generalizing := false) o1914 with | .inl rr => e = .ret ∧ t.floor = 0 ∧ resOf Try.prog Try.f28 t = some (.tup [.agg (apluvialref08_Cell (rr.1)), iV .i64 rr.2]) ∧ ([] : List (Nat × Option MObj)) = [] | .inr _ => e = .exit 0 ∧ t = ⟨[(6, .ptr 7 0 0), (10, .own 8)], [(7, some (.box 54 (apluvialref08_Cell ⟨0, 0, 0, 0⟩))), (8, some (.row 4 54 (t1869.map epluvialref08_Cell)))], 0⟩)) ⟨[(2, iV .u64 a2), (6, .ptr 5 0 0), (8, iV .u64 t1865.1), (9, iV .u64 t1865.2), (10, .own 6), (11, iV .u64 x1888), (12, iV .i64 x1889)], [(5, some (.box 54 (apluvialref08_Cell ⟨0, 0, 0, 0⟩))), (6, some (.row 4 54 (t1869.map epluvialref08_Cell)))], 0⟩) ?_ _ _ _ e1915
          clear H e1915 o1914; intro self ih x1888 x1889 o1914 H
          subst hbody
          refine LWp.round ?_
          refine AWp.seq ?_
          refine AWp.seq ?_
          refine reg hP hn hm [(2, .any (iV .i64 (t1869.length : Int)))] [2, 6, 8, 9, 10, 11, 12, 39] [5, 6] ⟨[(2, iV .u64 a2), (6, .ptr 5 0 0), (8, iV .u64 t1865.1), (9, iV .u64 t1865.2), (10, .own 6), (11, iV .u64 x1888), (12, iV .i64 x1889), (39, bV (decide (x1889 < (t1869.length : Int))))], [(5, some (.box 54 (apluvialref08_Cell ⟨0, 0, 0, 0⟩))), (6, some (.row 4 54 (t1869.map epluvialref08_Cell)))], 0⟩ [((t1869.map epluvialref08_Cell).length : Int) = (t1869.length : Int)] (by kernel_rfl) ⟨by rw [len_map], trivial⟩ ?_
          refine AWp.cond (decide (x1889 < (t1869.length : Int))) rfl (fun c1890 => ?_) (fun c1890 => ?_)
          · replace H := (ifT c1890).symm.trans H
            refine AWp.skip ?_
            refine AWp.seq ?_
            refine AWp.block ?_
            refine AWp.seq ?_
            obtain ⟨b1894, p1895, q1896, H⟩ := at_of H
            refine reg hP hn hm [(5, .c (epluvialref08_Cell b1894))] [2, 6, 8, 9, 10, 11, 12] [5, 6] ⟨[(2, iV .u64 a2), (6, .ptr 5 0 0), (8, iV .u64 t1865.1), (9, iV .u64 t1865.2), (10, .own 6), (11, iV .u64 (IntKind.u64.wrap (x1888 + b1894.f3))), (12, iV .i64 x1889)], [(5, some (.box 54 (apluvialref08_Cell ⟨0, 0, 0, 0⟩))), (6, some (.row 4 54 (t1869.map epluvialref08_Cell)))], 0⟩ [0 ≤ x1889, x1889 < (((t1869.map epluvialref08_Cell).length : Nat) : Int), (t1869.map epluvialref08_Cell)[(Int.toNat (x1889))]? = some (epluvialref08_Cell b1894)] (by kernel_rfl) ⟨by exact p1895, by exact el_lt epluvialref08_Cell p1895 q1896, by exact el_map epluvialref08_Cell q1896, trivial⟩ ?_
            refine AWp.seq ?_
            obtain ⟨t1899, e1900, H⟩ := bind_of H
            refine reg hP hn hm [(2, .call [] [] [] [] 0 (.tup [iV .u64 t1899.1, iV .u64 t1899.2]) [])] [2, 6, 8, 9, 10, 11, 12, 13, 14] [5, 6] ⟨[(2, iV .u64 a2), (6, .ptr 5 0 0), (8, iV .u64 t1865.1), (9, iV .u64 t1865.2), (10, .own 6), (11, iV .u64 (IntKind.u64.wrap (x1888 + b1894.f3))), (12, iV .i64 x1889), (13, iV .u64 t1899.1), (14, iV .u64 t1899.2)], [(5, some (.box 54 (apluvialref08_Cell ⟨0, 0, 0, 0⟩))), (6, some (.row 4 54 (t1869.map epluvialref08_Cell)))], 0⟩ [Enters Try.prog 72, Pv.Fn Try.prog 72 [iV .u64 a2, iV .u64 (IntKind.u64.wrap (x1888 + b1894.f3))] [] 0 (fun r o => r = .tup [iV .u64 t1899.1, iV .u64 t1899.2] ∧ o = [])] (by kernel_rfl) ⟨by exact Try.call72, by exact f_pluvialref01_Mul.ok a2 (IntKind.u64.wrap (x1888 + b1894.f3)) t1899 e1900, trivial⟩ ?_
            refine AWp.seq ?_
            obtain ⟨t1903, e1904, H⟩ := bind_of H
            refine reg hP hn hm [(4, .call [] [] [] [] 0 (bV t1903) [])] [2, 6, 8, 9, 10, 11, 12, 60] [5, 6] ⟨[(2, iV .u64 a2), (6, .ptr 5 0 0), (8, iV .u64 t1865.1), (9, iV .u64 t1865.2), (10, .own 6), (11, iV .u64 (IntKind.u64.wrap (x1888 + b1894.f3))), (12, iV .i64 x1889), (60, bV (!t1903))], [(5, some (.box 54 (apluvialref08_Cell ⟨0, 0, 0, 0⟩))), (6, some (.row 4 54 (t1869.map epluvialref08_Cell)))], 0⟩ [Enters Try.prog 73, Pv.Fn Try.prog 73 [iV .u64 t1899.1, iV .u64 t1899.2, iV .u64 t1865.1, iV .u64 t1865.2] [] 0 (fun r o => r = bV t1903 ∧ o = [])] (by kernel_rfl) ⟨by exact Try.call73, by exact f_pluvialref01_Less.ok t1899.1 t1899.2 t1865.1 t1865.2 t1903 e1904, trivial⟩ ?_
            refine AWp.cond (!t1903) rfl (fun c1905 => ?_) (fun c1905 => ?_)
            · replace H := (ifT c1905).symm.trans H
              refine AWp.seq ?_
              refine reg hP hn hm [(3, .c (epluvialref08_Cell b1894))] [6, 7] [5] ⟨[(6, .ptr 5 0 0), (7, iV .i64 0)], [(5, some (.box 54 (apluvialref08_Cell b1894)))], 0⟩ [0 ≤ x1889, x1889 < (((t1869.map epluvialref08_Cell).length : Nat) : Int), (t1869.map epluvialref08_Cell)[(Int.toNat (x1889))]? = some (epluvialref08_Cell b1894)] (by kernel_rfl) ⟨by exact p1895, by exact el_lt epluvialref08_Cell p1895 q1896, by exact el_map epluvialref08_Cell q1896, trivial⟩ ?_
              refine AWp.conv (inv := [(5, 0)]) (vk := []) (e0 := []) (t := ⟨[(6, .ptr 0 0 0), (7, iV .i64 0)], [(0, some (.box 54 (apluvialref08_Cell (b1894))))], 0⟩) (by kernel_rfl) ?_
              refine AWp.ret ?_
              obtain rfl := Option.some.inj H
              exact Exists.intro _ (And.intro (fun _ _ h => h) (And.intro rfl (And.intro rfl (And.intro (by kernel_rfl) (by kernel_rfl)))))
            · replace H := (ifF c1905).symm.trans H
              refine AWp.skip ?_
              refine reg hP hn hm [] [2, 6, 8, 9, 10, 11, 12] [5, 6] ⟨[(2, iV .u64 a2), (6, .ptr 5 0 0), (8, iV .u64 t1865.1), (9, iV .u64 t1865.2), (10, .own 6), (11, iV .u64 (IntKind.u64.wrap (x1888 + b1894.f3))), (12, iV .i64 (IntKind.i64.wrap (x1889 + (1 : Int))))], [(5, some (.box 54 (apluvialref08_Cell ⟨0, 0, 0, 0⟩))), (6, some (.row 4 54 (t1869.map epluvialref08_Cell)))], 0⟩ [] (by kernel_rfl) trivial ?_
              exact LWp.conv (inv := [(5, 5), (6, 6)]) (vk := []) (e0 := []) (t := ⟨[(2, iV .u64 a2), (6, .ptr 5 0 0), (8, iV .u64 t1865.1), (9, iV .u64 t1865.2), (10, .own 6), (11, iV .u64 (IntKind.u64.wrap (x1888 + b1894.f3))), (12, iV .i64 (IntKind.i64.wrap (x1889 + (1 : Int))))], [(5, some (.box 54 (apluvialref08_Cell ⟨0, 0, 0, 0⟩))), (6, some (.row 4 54 (t1869.map epluvialref08_Cell)))], 0⟩) (by kernel_rfl) (ih _ _ _ H)
          · replace H := (ifF c1890).symm.trans H
            refine AWp.exit ?_
            obtain rfl := Option.some.inj H
            exact Exists.intro _ (And.intro (fun _ _ h => h.conv (inv := [(5, 7), (6, 8)]) (vk := []) (e0 := []) (t := ⟨[(6, .ptr 7 0 0), (10, .own 8)], [(7, some (.box 54 (apluvialref08_Cell ⟨0, 0, 0, 0⟩))), (8, some (.row 4 54 (t1869.map epluvialref08_Cell)))], 0⟩) (by kernel_rfl)) (And.intro rfl rfl))
        · rcases o1914 with rr | _
          · skip
            rintro e s ⟨rfl, hfl, hres⟩
            obtain rfl := Option.some.inj H
            exact Exists.intro _ (And.intro (fun _ _ h => h) (And.intro (.inl rfl) (And.intro hfl hres)))
          · skip
            rintro e s ⟨rfl, rfl⟩
            refine AWp.seq ?_
            obtain ⟨b1909, p1910, q1911, H⟩ := at_of H
            refine reg hP hn hm [(2, .any (iV .i64 (t1869.length : Int))), (5, .c (epluvialref08_Cell b1909))] [6, 7] [7] ⟨[(6, .ptr 7 0 0), (7, iV .i64 0)], [(7, some (.box 54 (apluvialref08_Cell b1909)))], 0⟩ [((t1869.map epluvialref08_Cell).length : Int) = (t1869.length : Int), 0 ≤ (IntKind.i64.wrap ((t1869.length : Int) - (1 : Int))), IntKind.i64.wrap ((t1869.length : Int) - (1 : Int)) < (((t1869.map epluvialref08_Cell).length : Nat) : Int), (t1869.map epluvialref08_Cell)[(Int.toNat (IntKind.i64.wrap ((t1869.length : Int) - (1 : Int))))]? = some (epluvialref08_Cell b1909)] (by kernel_rfl) ⟨by rw [len_map], by exact p1910, by exact el_lt epluvialref08_Cell p1910 q1911, by exact el_map epluvialref08_Cell q1911, trivial⟩ ?_
            refine AWp.conv (inv := [(7, 0)]) (vk := []) (e0 := []) (t := ⟨[(6, .ptr 0 0 0), (7, iV .i64 0)], [(0, some (.box 54 (apluvialref08_Cell (b1909))))], 0⟩) (by kernel_rfl) ?_
            refine AWp.ret ?_
            obtain rfl := Option.some.inj H
            exact Exists.intro _ (And.intro (fun _ _ h => h) (And.intro (.inl rfl) (And.intro rfl (And.intro (by kernel_rfl) (by kernel_rfl)))))
def f_pluviallaw08_RankFinds.l1 (a0 : THist) (a1 : Int) (a2 : Int) (a3 : Int) (t1571 : List Trank_Cell) (t1573 : List Tpluvialref08_Cell) (x1595 : Int) (x1647 : Int) : Option (Bool ⊕ Unit) := if (decide (x1647 < x1595)) = true then ((((at? t1571 x1647) >>= fun b1663 => (at? t1571 x1595) >>= fun b1666 => (f_rank_Compare.f b1663.f0 b1666.f0) >>= fun t1669 => if (t1669 != (-1)) = true then (some true) else ((f_rank_Compare.f b1666.f0 b1663.f0) >>= fun t1672 => if (t1672 != (1 : Int)) = true then (some true) else ((f_rank_Compare.f b1666.f0 b1666.f0) >>= fun t1675 => some (t1675 != (0 : Int))))) : Option (Bool)) >>= fun x1677 => if x1677 = true then (some (.inl false)) else (f_pluviallaw08_RankFinds.l1 a0 a1 a2 a3 t1571 t1573 x1595 (IntKind.i64.wrap (x1647 + (1 : Int))))) else (some (.inr ()))
partial_fixpoint
def f_pluviallaw08_RankFinds.l0 (a0 : THist) (a1 : Int) (a2 : Int) (a3 : Int) (t1571 : List Trank_Cell) (t1573 : List Tpluvialref08_Cell) (x1595 : Int) : Option (Bool ⊕ Unit) := if (decide (x1595 < (t1571.length : Int))) = true then ((at? t1571 x1595) >>= fun b1605 => (f_pluviallaw08_cell.f b1605.f0 b1605.f1) >>= fun t1608 => (at? t1573 x1595) >>= fun b1610 => if (!((((t1608).f0) == b1610.f0) && ((((t1608).f1) == b1610.f1) && ((((t1608).f2) == b1610.f2) && ((((t1608).f3) == b1610.f3) && true))))) = true then (some (.inl false)) else ((f_pluviallaw08_RankFinds.l1 a0 a1 a2 a3 t1571 t1573 x1595 0) >>= fun oo => match oo with | .inl rr => (some (.inl rr)) | .inr _ => (f_pluviallaw08_RankFinds.l0 a0 a1 a2 a3 t1571 t1573 (IntKind.i64.wrap (x1595 + (1 : Int)))))) else (some (.inr ()))
partial_fixpoint
def f_pluviallaw08_RankFinds.f (a0 : THist) (a1 : Int) (a2 : Int) (a3 : Int) : Option (Bool) := (f_pluviallaw08_right.f a0) >>= fun t1508 => if (!t1508) = true then ((f_pluviallaw08_awake.f) >>= fun t1513 => some t1513) else ((f_rank_Order.f a0) >>= fun t1571 => (f_pluvialref08_Order.f a0) >>= fun t1573 => if ((t1571.length : Int) != (t1573.length : Int)) = true then (some false) else ((f_pluviallaw08_RankFinds.l0 a0 a1 a2 a3 t1571 t1573 0) >>= fun oo => match oo with | .inl rr => (some rr) | .inr _ => ((f_rank_At.f a0 a1) >>= fun t1681 => (f_pluvialref08_At.f a0 a1) >>= fun t1716 => ((if (t1681.2 != t1716.2) = true then (some true) else ((f_pluviallaw08_cell.f (t1681.1) ((t1716.1).f3)) >>= fun t1722 => some (!((((t1722).f0) == ((t1716.1).f0)) && ((((t1722).f1) == ((t1716.1).f1)) && ((((t1722).f2) == ((t1716.1).f2)) && ((((t1722).f3) == ((t1716.1).f3)) && true))))))) : Option (Bool)) >>= fun x1724 => if x1724 = true then (some false) else ((f_rank_Quantile.f a0 a2 a3) >>= fun t1728 => (f_pluvialref08_Quantile.f a0 a2 a3) >>= fun t1918 => (((f_pluviallaw08_awake.f) >>= fun t1926 => if t1926 = true then (if (t1728.2 == t1918.2) = true then ((f_pluviallaw08_cell.f (t1728.1) ((t1918.1).f3)) >>= fun t1930 => some ((((t1930).f0) == ((t1918.1).f0)) && ((((t1930).f1) == ((t1918.1).f1)) && ((((t1930).f2) == ((t1918.1).f2)) && ((((t1930).f3) == ((t1918.1).f3)) && true))))) else (some false)) else (some false)) : Option (Bool)) >>= fun x1932 => some x1932))))
theorem f_pluviallaw08_RankFinds.ok (a0 : THist) (a1 : Int) (a2 : Int) (a3 : Int) (r : Bool) (H : f_pluviallaw08_RankFinds.f a0 a1 a2 a3 = some r) : Pv.Fn Try.prog 5 [.agg (aHist a0), iV .u64 a1, iV .u64 a2, iV .u64 a3] [] 0 (fun x o => x = bV r ∧ o = []) := by
  unfold f_pluviallaw08_RankFinds.f at H
  refine Fn.bodyK [] Try.func5 rfl rfl (fun Γ hP hn => ?_)
  have hm : Try.prog.follows .mixedOrders = true := by kernel_rfl
  replace hn : Γ.n = 148 := hn
  refine AWp.seq ?_
  refine reg hP hn hm [(0, .k 0)] [1, 2, 3, 4] [0] ⟨[(1, iV .u64 a1), (2, iV .u64 a2), (3, iV .u64 a3), (4, .ptr 0 0 0)], [(0, some (.box 35 (aHist a0)))], 0⟩ [] (by kernel_rfl) trivial ?_
  refine AWp.seq ?_
  refine AWp.seq ?_
  obtain ⟨t1508, e1509, H⟩ := bind_of H
  refine reg hP hn hm [(1, .call [] [] [] [] 0 (bV t1508) [])] [1, 2, 3, 4, 19] [0] ⟨[(1, iV .u64 a1), (2, iV .u64 a2), (3, iV .u64 a3), (4, .ptr 0 0 0), (19, bV (!t1508))], [(0, some (.box 35 (aHist a0)))], 0⟩ [Enters Try.prog 19, Pv.Fn Try.prog 19 [.agg (aHist a0)] [] 0 (fun r o => r = bV t1508 ∧ o = [])] (by kernel_rfl) ⟨by exact Try.call19, by exact f_pluviallaw08_right.ok a0 t1508 e1509, trivial⟩ ?_
  refine AWp.cond (!t1508) rfl (fun c1510 => ?_) (fun c1510 => ?_)
  · replace H := (ifT c1510).symm.trans H
    refine AWp.seq ?_
    obtain ⟨t1513, e1514, H⟩ := bind_of H
    refine reg hP hn hm [(0, .call [] [] [] [] 0 (bV t1513) [])] [8] [] ⟨[(8, bV t1513)], [], 0⟩ [Enters Try.prog 20, Pv.Fn Try.prog 20 [] [] 0 (fun r o => r = bV t1513 ∧ o = [])] (by kernel_rfl) ⟨by exact Try.call20, by exact f_pluviallaw08_awake.ok  t1513 e1514, trivial⟩ ?_
    refine AWp.conv (inv := []) (vk := []) (e0 := []) (t := ⟨[(8, bV t1513)], [], 0⟩) (by kernel_rfl) ?_
    refine AWp.ret ?_
    obtain rfl := Option.some.inj H
    exact Exists.intro _ (And.intro (fun _ _ h => h) (And.intro (.inl rfl) (And.intro rfl (And.intro (by kernel_rfl) (by kernel_rfl)))))
  · replace H := (ifF c1510).symm.trans H
    refine AWp.skip ?_
    refine AWp.seq ?_
    obtain ⟨t1571, e1572, H⟩ := bind_of H
    obtain ⟨t1573, e1574, H⟩ := bind_of H
    refine reg hP hn hm [(1, .call [] [(0, 1)] [] [1] 0 (.own 0) [(0, some (.row 4 47 (t1571.map erank_Cell)))]), (3, .call [] [(0, 2)] [] [2] 0 (.own 0) [(0, some (.row 4 54 (t1573.map epluvialref08_Cell)))])] [1, 2, 3, 4, 9, 10] [0, 1, 2] ⟨[(1, iV .u64 a1), (2, iV .u64 a2), (3, iV .u64 a3), (4, .ptr 0 0 0), (9, .own 1), (10, .own 2)], [(0, some (.box 35 (aHist a0))), (1, some (.row 4 47 (t1571.map erank_Cell))), (2, some (.row 4 54 (t1573.map epluvialref08_Cell)))], 0⟩ [Enters Try.prog 21, Pv.Fn Try.prog 21 [.agg (aHist a0)] [] 0 (fun r o => r = .own 0 ∧ o = [(0, some (.row 4 47 (t1571.map erank_Cell)))]), Enters Try.prog 23, Pv.Fn Try.prog 23 [.agg (aHist a0)] [] 0 (fun r o => r = .own 0 ∧ o = [(0, some (.row 4 54 (t1573.map epluvialref08_Cell)))])] (by kernel_rfl) ⟨by exact Try.call21, by exact f_rank_Order.ok a0 t1571 e1572, by exact Try.call23, by exact f_pluvialref08_Order.ok a0 t1573 e1574, trivial⟩ ?_
    refine AWp.seq ?_
    refine AWp.seq ?_
    refine reg hP hn hm [(1, .any (iV .i64 (t1571.length : Int))), (3, .any (iV .i64 (t1573.length : Int)))] [1, 2, 3, 4, 9, 10, 29] [0, 1, 2] ⟨[(1, iV .u64 a1), (2, iV .u64 a2), (3, iV .u64 a3), (4, .ptr 0 0 0), (9, .own 1), (10, .own 2), (29, bV ((t1571.length : Int) != (t1573.length : Int)))], [(0, some (.box 35 (aHist a0))), (1, some (.row 4 47 (t1571.map erank_Cell))), (2, some (.row 4 54 (t1573.map epluvialref08_Cell)))], 0⟩ [((t1571.map erank_Cell).length : Int) = (t1571.length : Int), ((t1573.map epluvialref08_Cell).length : Int) = (t1573.length : Int)] (by kernel_rfl) ⟨by rw [len_map], by rw [len_map], trivial⟩ ?_
    refine AWp.cond ((t1571.length : Int) != (t1573.length : Int)) rfl (fun c1575 => ?_) (fun c1575 => ?_)
    · replace H := (ifT c1575).symm.trans H
      refine AWp.seq ?_
      refine reg hP hn hm [] [8] [] ⟨[(8, bV false)], [], 0⟩ [] (by kernel_rfl) trivial ?_
      refine AWp.conv (inv := []) (vk := []) (e0 := []) (t := ⟨[(8, bV false)], [], 0⟩) (by kernel_rfl) ?_
      refine AWp.ret ?_
      obtain rfl := Option.some.inj H
      exact Exists.intro _ (And.intro (fun _ _ h => h) (And.intro (.inl rfl) (And.intro rfl (And.intro (by kernel_rfl) (by kernel_rfl)))))
    · replace H := (ifF c1575).symm.trans H
      refine AWp.skip ?_
      refine AWp.seq ?_
      refine AWp.seq ?_
      refine reg hP hn hm [(1, .any (iV .i64 (t1571.length : Int)))] [1, 2, 3, 4, 9, 10, 31, 32] [0, 1, 2] ⟨[(1, iV .u64 a1), (2, iV .u64 a2), (3, iV .u64 a3), (4, .ptr 0 0 0), (9, .own 1), (10, .own 2), (31, iV .i64 (t1571.length : Int)), (32, iV .i64 0)], [(0, some (.box 35 (aHist a0))), (1, some (.row 4 47 (t1571.map erank_Cell))), (2, some (.row 4 54 (t1573.map epluvialref08_Cell)))], 0⟩ [((t1571.map erank_Cell).length : Int) = (t1571.length : Int)] (by kernel_rfl) ⟨by rw [len_map], trivial⟩ ?_
      refine AWp.block ?_
      obtain ⟨o1933, e1934, H⟩ := bind_of H
      refine AWp.loop (LWp.conv (inv := [(0, 6), (1, 7), (2, 8)]) (vk := []) (e0 := []) (t := ⟨[(1, iV .u64 a1), (2, iV .u64 a2), (3, iV .u64 a3), (4, .ptr 6 0 0), (9, .own 7), (10, .own 8), (31, iV .i64 (t1571.length : Int)), (32, iV .i64 0)], [(6, some (.box 35 (aHist a0))), (7, some (.row 4 47 (t1571.map erank_Cell))), (8, some (.row 4 54 (t1573.map epluvialref08_Cell)))], 0⟩) (by kernel_rfl) ?_)
      refine LWp.mono (Q := fun e s => (match (generalizing := false) o1933 with | .inl rr => e = .ret ∧ s.floor = 0 ∧ resOf Try.prog Try.f5 s = some (bV rr) ∧ ([] : List (Nat × Option MObj)) = [] | .inr _ => e = .exit 0 ∧ s = ⟨[(1, iV .u64 a1), (2, iV .u64 a2), (3, iV .u64 a3), (4, .ptr 21 0 0)], [(21, some (.box 35 (aHist a0)))], 0⟩)) (LWp.cv (withBody (fun body hbody => ?_))) ?_
      · refine f_pluviallaw08_RankFinds.l0.partial_correctness a0 a1 a2 a3 t1571 t1573 (motive := fun x1595 o1933 => LWp Γ body (fun e s => ∃ t, Cv Γ s t ∧ (match (generalizing := false) o1933 with | .inl rr => e = .ret ∧ t.floor = 0 ∧ resOf Try.prog Try.f5 t = some (bV rr) ∧ ([] : List (Nat × Option MObj)) = [] | .inr _ => e = .exit 0 ∧ t = ⟨[(1, iV .u64 a1), (2, iV .u64 a2), (3, iV .u64 a3), (4, .ptr 21 0 0)], [(21, some (.box 35 (aHist a0)))], 0⟩)) ⟨[(1, iV .u64 a1), (2, iV .u64 a2), (3, iV .u64 a3), (4, .ptr 6 0 0), (9, .own 7), (10, .own 8), (31, iV .i64 (t1571.length : Int)), (32, iV .i64 x1595)], [(6, some (.box 35 (aHist a0))), (7, some (.row 4 47 (t1571.map erank_Cell))), (8, some (.row 4 54 (t1573.map epluvialref08_Cell)))], 0⟩) ?_ _ _ e1934
        clear H e1934 o1933; intro self ih x1595 o1933 H
        subst hbody
        refine LWp.round ?_
        refine AWp.seq ?_
        refine reg hP hn hm [] [1, 2, 3, 4, 9, 10, 31, 32, 33] [6, 7, 8] ⟨[(1, iV .u64 a1), (2, iV .u64 a2), (3, iV .u64 a3), (4, .ptr 6 0 0), (9, .own 7), (10, .own 8), (31, iV .i64 (t1571.length : Int)), (32, iV .i64 x1595), (33, bV (decide (x1595 < (t1571.length : Int))))], [(6, some (.box 35 (aHist a0))), (7, some (.row 4 47 (t1571.map erank_Cell))), (8, some (.row 4 54 (t1573.map epluvialref08_Cell)))], 0⟩ [] (by kernel_rfl) trivial ?_
        refine AWp.seq ?_
        refine AWp.cond (decide (x1595 < (t1571.length : Int))) rfl (fun c1596 => ?_) (fun c1596 => ?_)
        · replace H := (ifT c1596).symm.trans H
          refine AWp.skip ?_
          refine AWp.seq ?_
          refine AWp.block ?_
          refine AWp.seq ?_
          refine reg hP hn hm [] [1, 2, 3, 4, 9, 10, 11, 31, 32] [6, 7, 8] ⟨[(1, iV .u64 a1), (2, iV .u64 a2), (3, iV .u64 a3), (4, .ptr 6 0 0), (9, .own 7), (10, .own 8), (11, iV .i64 x1595), (31, iV .i64 (t1571.length : Int)), (32, iV .i64 x1595)], [(6, some (.box 35 (aHist a0))), (7, some (.row 4 47 (t1571.map erank_Cell))), (8, some (.row 4 54 (t1573.map epluvialref08_Cell)))], 0⟩ [] (by kernel_rfl) trivial ?_
          refine AWp.seq ?_
          refine AWp.seq ?_
          obtain ⟨b1605, p1606, q1607, H⟩ := at_of H
          obtain ⟨t1608, e1609, H⟩ := bind_of H
          obtain ⟨b1610, p1611, q1612, H⟩ := at_of H
          refine reg hP hn hm [(4, .c (erank_Cell b1605)), (9, .c (erank_Cell b1605)), (10, .call [] [] [] [] 0 (.agg (apluvialref08_Cell (t1608))) []), (14, .c (epluvialref08_Cell b1610)), (15, .more (xAgg none))] [1, 2, 3, 4, 9, 10, 11, 31, 32, 50] [6, 7, 8] ⟨[(1, iV .u64 a1), (2, iV .u64 a2), (3, iV .u64 a3), (4, .ptr 6 0 0), (9, .own 7), (10, .own 8), (11, iV .i64 x1595), (31, iV .i64 (t1571.length : Int)), (32, iV .i64 x1595), (50, bV (!((((t1608).f0) == b1610.f0) && ((((t1608).f1) == b1610.f1) && ((((t1608).f2) == b1610.f2) && ((((t1608).f3) == b1610.f3) && true))))))], [(6, some (.box 35 (aHist a0))), (7, some (.row 4 47 (t1571.map erank_Cell))), (8, some (.row 4 54 (t1573.map epluvialref08_Cell)))], 0⟩ [0 ≤ x1595, x1595 < (((t1571.map erank_Cell).length : Nat) : Int), (t1571.map erank_Cell)[(Int.toNat (x1595))]? = some (erank_Cell b1605), 0 ≤ x1595, x1595 < (((t1571.map erank_Cell).length : Nat) : Int), (t1571.map erank_Cell)[(Int.toNat (x1595))]? = some (erank_Cell b1605), Enters Try.prog 24, Pv.Fn Try.prog 24 [.agg (abound_Key b1605.f0), iV .u64 b1605.f1] [] 0 (fun r o => r = .agg (apluvialref08_Cell (t1608)) ∧ o = []), 0 ≤ x1595, x1595 < (((t1573.map epluvialref08_Cell).length : Nat) : Int), (t1573.map epluvialref08_Cell)[(Int.toNat (x1595))]? = some (epluvialref08_Cell b1610)] (by kernel_rfl) ⟨by exact p1606, by exact el_lt erank_Cell p1606 q1607, by exact el_map erank_Cell q1607, by exact p1606, by exact el_lt erank_Cell p1606 q1607, by exact el_map erank_Cell q1607, by exact Try.call24, by exact f_pluviallaw08_cell.ok b1605.f0 b1605.f1 t1608 e1609, by exact p1611, by exact el_lt epluvialref08_Cell p1611 q1612, by exact el_map epluvialref08_Cell q1612, trivial⟩ ?_
          refine AWp.cond (!((((t1608).f0) == b1610.f0) && ((((t1608).f1) == b1610.f1) && ((((t1608).f2) == b1610.f2) && ((((t1608).f3) == b1610.f3) && true))))) rfl (fun c1613 => ?_) (fun c1613 => ?_)
          · replace H := (ifT c1613).symm.trans H
            refine AWp.seq ?_
            refine reg hP hn hm [] [8] [] ⟨[(8, bV false)], [], 0⟩ [] (by kernel_rfl) trivial ?_
            refine AWp.conv (inv := []) (vk := []) (e0 := []) (t := ⟨[(8, bV false)], [], 0⟩) (by kernel_rfl) ?_
            refine AWp.ret ?_
            obtain rfl := Option.some.inj H
            exact Exists.intro _ (And.intro (fun _ _ h => h) (And.intro rfl (And.intro rfl (And.intro (by kernel_rfl) (by kernel_rfl)))))
          · replace H := (ifF c1613).symm.trans H
            refine AWp.skip ?_
            refine AWp.seq ?_
            refine reg hP hn hm [] [1, 2, 3, 4, 9, 10, 11, 31, 32, 51, 52] [6, 7, 8] ⟨[(1, iV .u64 a1), (2, iV .u64 a2), (3, iV .u64 a3), (4, .ptr 6 0 0), (9, .own 7), (10, .own 8), (11, iV .i64 x1595), (31, iV .i64 (t1571.length : Int)), (32, iV .i64 x1595), (51, iV .i64 x1595), (52, iV .i64 0)], [(6, some (.box 35 (aHist a0))), (7, some (.row 4 47 (t1571.map erank_Cell))), (8, some (.row 4 54 (t1573.map epluvialref08_Cell)))], 0⟩ [] (by kernel_rfl) trivial ?_
            refine AWp.block ?_
            obtain ⟨o1935, e1936, H⟩ := bind_of H
            refine AWp.loop (LWp.conv (inv := [(6, 12), (7, 13), (8, 14)]) (vk := []) (e0 := []) (t := ⟨[(1, iV .u64 a1), (2, iV .u64 a2), (3, iV .u64 a3), (4, .ptr 12 0 0), (9, .own 13), (10, .own 14), (11, iV .i64 x1595), (31, iV .i64 (t1571.length : Int)), (32, iV .i64 x1595), (51, iV .i64 x1595), (52, iV .i64 0)], [(12, some (.box 35 (aHist a0))), (13, some (.row 4 47 (t1571.map erank_Cell))), (14, some (.row 4 54 (t1573.map epluvialref08_Cell)))], 0⟩) (by kernel_rfl) ?_)
            refine LWp.mono (Q := fun e s => (match (generalizing := false) o1935 with | .inl rr => e = .ret ∧ s.floor = 0 ∧ resOf Try.prog Try.f5 s = some (bV rr) ∧ ([] : List (Nat × Option MObj)) = [] | .inr _ => e = .exit 2 ∧ s = ⟨[(1, iV .u64 a1), (2, iV .u64 a2), (3, iV .u64 a3), (4, .ptr 18 0 0), (9, .own 19), (10, .own 20), (31, iV .i64 (t1571.length : Int)), (32, iV .i64 x1595)], [(18, some (.box 35 (aHist a0))), (19, some (.row 4 47 (t1571.map erank_Cell))), (20, some (.row 4 54 (t1573.map epluvialref08_Cell)))], 0⟩)) (LWp.cv (withBody (fun body hbody => ?_))) ?_
            · refine f_pluviallaw08_RankFinds.l1.partial_correctness a0 a1 a2 a3 t1571 t1573 x1595 (motive := fun x1647 o1935 => LWp Γ body (fun e s => ∃ t, Cv Γ s t ∧ (match (generalizing := false) o1935 with | .inl rr => e = .ret ∧ t.floor = 0 ∧ resOf Try.prog Try.f5 t = some (bV rr) ∧ ([] : List (Nat × Option MObj)) = [] | .inr _ => e = .exit 2 ∧ t = ⟨[(1, iV .u64 a1), (2, iV .u64 a2), (3, iV .u64 a3), (4, .ptr 18 0 0), (9, .own 19), (10, .own 20), (31, iV .i64 (t1571.length : Int)), (32, iV .i64 x1595)], [(18, some (.box 35 (aHist a0))), (19, some (.row 4 47 (t1571.map erank_Cell))), (20, some (.row 4 54 (t1573.map epluvialref08_Cell)))], 0⟩)) ⟨[(1, iV .u64 a1), (2, iV .u64 a2), (3, iV .u64 a3), (4, .ptr 12 0 0), (9, .own 13), (10, .own 14), (11, iV .i64 x1595), (31, iV .i64 (t1571.length : Int)), (32, iV .i64 x1595), (51, iV .i64 x1595), (52, iV .i64 x1647)], [(12, some (.box 35 (aHist a0))), (13, some (.row 4 47 (t1571.map erank_Cell))), (14, some (.row 4 54 (t1573.map epluvialref08_Cell)))], 0⟩) ?_ _ _ e1936
              clear H e1936 o1935; intro self ih x1647 o1935 H
              subst hbody
              refine LWp.round ?_
              refine AWp.seq ?_
              refine reg hP hn hm [] [1, 2, 3, 4, 9, 10, 11, 31, 32, 51, 52, 53] [12, 13, 14] ⟨[(1, iV .u64 a1), (2, iV .u64 a2), (3, iV .u64 a3), (4, .ptr 12 0 0), (9, .own 13), (10, .own 14), (11, iV .i64 x1595), (31, iV .i64 (t1571.length : Int)), (32, iV .i64 x1595), (51, iV .i64 x1595), (52, iV .i64 x1647), (53, bV (decide (x1647 < x1595)))], [(12, some (.box 35 (aHist a0))), (13, some (.row 4 47 (t1571.map erank_Cell))), (14, some (.row 4 54 (t1573.map epluvialref08_Cell)))], 0⟩ [] (by kernel_rfl) trivial ?_
              refine AWp.seq ?_
              refine AWp.cond (decide (x1647 < x1595)) rfl (fun c1648 => ?_) (fun c1648 => ?_)
              · replace H := (ifT c1648).symm.trans H
                refine AWp.skip ?_
                refine AWp.seq ?_
                refine AWp.block ?_
                refine AWp.seq ?_
                refine reg hP hn hm [] [1, 2, 3, 4, 9, 10, 11, 12, 31, 32, 51, 52] [12, 13, 14] ⟨[(1, iV .u64 a1), (2, iV .u64 a2), (3, iV .u64 a3), (4, .ptr 12 0 0), (9, .own 13), (10, .own 14), (11, iV .i64 x1595), (12, iV .i64 x1647), (31, iV .i64 (t1571.length : Int)), (32, iV .i64 x1595), (51, iV .i64 x1595), (52, iV .i64 x1647)], [(12, some (.box 35 (aHist a0))), (13, some (.row 4 47 (t1571.map erank_Cell))), (14, some (.row 4 54 (t1573.map epluvialref08_Cell)))], 0⟩ [] (by kernel_rfl) trivial ?_
                refine AWp.seq ?_
                obtain ⟨o1937, e1938, H⟩ := bind_of H
                refine AWp.mono (Q := fun e s => (match (generalizing := false) o1937 with | x1677 => e = .normal ∧ s = ⟨[(1, iV .u64 a1), (2, iV .u64 a2), (3, iV .u64 a3), (4, .ptr 15 0 0), (9, .own 16), (10, .own 17), (11, iV .i64 x1595), (31, iV .i64 (t1571.length : Int)), (32, iV .i64 x1595), (51, iV .i64 x1595), (52, iV .i64 x1647), (94, bV x1677)], [(15, some (.box 35 (aHist a0))), (16, some (.row 4 47 (t1571.map erank_Cell))), (17, some (.row 4 54 (t1573.map epluvialref08_Cell)))], 0⟩)) (AWp.cv ?_) ?_
                · replace H := e1938; clear e1938
                  obtain ⟨b1663, p1664, q1665, H⟩ := at_of H
                  obtain ⟨b1666, p1667, q1668, H⟩ := at_of H
                  obtain ⟨t1669, e1670, H⟩ := bind_of H
                  rcases Bool.eq_false_or_eq_true (t1669 != (-1)) with c1671 | c1671
                  · replace H := (ifT c1671).symm.trans H
                    refine reg hP hn hm [(4, .c (erank_Cell b1663)), (9, .c (erank_Cell b1666)), (10, .call [] [] [] [] 0 (iV .i64 t1669) []), (12, .b true)] [1, 2, 3, 4, 9, 10, 11, 31, 32, 51, 52, 94] [12, 13, 14] ⟨[(1, iV .u64 a1), (2, iV .u64 a2), (3, iV .u64 a3), (4, .ptr 12 0 0), (9, .own 13), (10, .own 14), (11, iV .i64 x1595), (31, iV .i64 (t1571.length : Int)), (32, iV .i64 x1595), (51, iV .i64 x1595), (52, iV .i64 x1647), (94, bV true)], [(12, some (.box 35 (aHist a0))), (13, some (.row 4 47 (t1571.map erank_Cell))), (14, some (.row 4 54 (t1573.map epluvialref08_Cell)))], 0⟩ [0 ≤ x1647, x1647 < (((t1571.map erank_Cell).length : Nat) : Int), (t1571.map erank_Cell)[(Int.toNat (x1647))]? = some (erank_Cell b1663), 0 ≤ x1595, x1595 < (((t1571.map erank_Cell).length : Nat) : Int), (t1571.map erank_Cell)[(Int.toNat (x1595))]? = some (erank_Cell b1666), Enters Try.prog 25, Pv.Fn Try.prog 25 [.agg (abound_Key b1663.f0), .agg (abound_Key b1666.f0)] [] 0 (fun r o => r = iV .i64 t1669 ∧ o = []), (t1669 != (-1)) = true] (by kernel_rfl) ⟨by exact p1664, by exact el_lt erank_Cell p1664 q1665, by exact el_map erank_Cell q1665, by exact p1667, by exact el_lt erank_Cell p1667 q1668, by exact el_map erank_Cell q1668, by exact Try.call25, by exact f_rank_Compare.ok b1663.f0 b1666.f0 t1669 e1670, by exact c1671, trivial⟩ ?_
                    obtain rfl := Option.some.inj H
                    exact Exists.intro _ (And.intro (fun _ _ h => h.conv (inv := [(12, 15), (13, 16), (14, 17)]) (vk := []) (e0 := []) (t := ⟨[(1, iV .u64 a1), (2, iV .u64 a2), (3, iV .u64 a3), (4, .ptr 15 0 0), (9, .own 16), (10, .own 17), (11, iV .i64 x1595), (31, iV .i64 (t1571.length : Int)), (32, iV .i64 x1595), (51, iV .i64 x1595), (52, iV .i64 x1647), (94, bV true)], [(15, some (.box 35 (aHist a0))), (16, some (.row 4 47 (t1571.map erank_Cell))), (17, some (.row 4 54 (t1573.map epluvialref08_Cell)))], 0⟩) (by kernel_rfl)) (And.intro rfl rfl))
                  · replace H := (ifF c1671).symm.trans H
                    obtain ⟨t1672, e1673, H⟩ := bind_of H
                    rcases Bool.eq_false_or_eq_true (t1672 != (1 : Int)) with c1674 | c1674
                    · replace H := (ifT c1674).symm.trans H
                      refine reg hP hn hm [(4, .c (erank_Cell b1663)), (9, .c (erank_Cell b1666)), (10, .call [] [] [] [] 0 (iV .i64 t1669) []), (12, .b false), (17, .c (erank_Cell b1666)), (22, .c (erank_Cell b1663)), (23, .call [] [] [] [] 0 (iV .i64 t1672) []), (26, .b true)] [1, 2, 3, 4, 9, 10, 11, 31, 32, 51, 52, 68, 69, 70, 71, 72, 73, 74, 75, 76, 77, 78, 79, 94] [12, 13, 14] ⟨[(1, iV .u64 a1), (2, iV .u64 a2), (3, iV .u64 a3), (4, .ptr 12 0 0), (9, .own 13), (10, .own 14), (11, iV .i64 x1595), (31, iV .i64 (t1571.length : Int)), (32, iV .i64 x1595), (51, iV .i64 x1595), (52, iV .i64 x1647), (68, .own 13), (69, iV .i64 x1595), (70, .ptr 13 (Int.toNat (x1595)) 0), (71, .ptr 13 (Int.toNat (x1595)) 0), (72, .agg (abound_Key b1666.f0)), (73, .own 13), (74, iV .i64 x1647), (75, .ptr 13 (Int.toNat (x1647)) 0), (76, .ptr 13 (Int.toNat (x1647)) 0), (77, .agg (abound_Key b1663.f0)), (78, iV .i64 t1672), (79, bV (t1672 != (1 : Int))), (94, bV true)], [(12, some (.box 35 (aHist a0))), (13, some (.row 4 47 (t1571.map erank_Cell))), (14, some (.row 4 54 (t1573.map epluvialref08_Cell)))], 0⟩ [0 ≤ x1647, x1647 < (((t1571.map erank_Cell).length : Nat) : Int), (t1571.map erank_Cell)[(Int.toNat (x1647))]? = some (erank_Cell b1663), 0 ≤ x1595, x1595 < (((t1571.map erank_Cell).length : Nat) : Int), (t1571.map erank_Cell)[(Int.toNat (x1595))]? = some (erank_Cell b1666), Enters Try.prog 25, Pv.Fn Try.prog 25 [.agg (abound_Key b1663.f0), .agg (abound_Key b1666.f0)] [] 0 (fun r o => r = iV .i64 t1669 ∧ o = []), (t1669 != (-1)) = false, 0 ≤ x1595, x1595 < (((t1571.map erank_Cell).length : Nat) : Int), (t1571.map erank_Cell)[(Int.toNat (x1595))]? = some (erank_Cell b1666), 0 ≤ x1647, x1647 < (((t1571.map erank_Cell).length : Nat) : Int), (t1571.map erank_Cell)[(Int.toNat (x1647))]? = some (erank_Cell b1663), Enters Try.prog 25, Pv.Fn Try.prog 25 [.agg (abound_Key b1666.f0), .agg (abound_Key b1663.f0)] [] 0 (fun r o => r = iV .i64 t1672 ∧ o = []), (t1672 != (1 : Int)) = true] (by kernel_rfl) ⟨by exact p1664, by exact el_lt erank_Cell p1664 q1665, by exact el_map erank_Cell q1665, by exact p1667, by exact el_lt erank_Cell p1667 q1668, by exact el_map erank_Cell q1668, by exact Try.call25, by exact f_rank_Compare.ok b1663.f0 b1666.f0 t1669 e1670, by exact c1671, by exact p1667, by exact el_lt erank_Cell p1667 q1668, by exact el_map erank_Cell q1668, by exact p1664, by exact el_lt erank_Cell p1664 q1665, by exact el_map erank_Cell q1665, by exact Try.call25, by exact f_rank_Compare.ok b1666.f0 b1663.f0 t1672 e1673, by exact c1674, trivial⟩ ?_
                      obtain rfl := Option.some.inj H
                      exact Exists.intro _ (And.intro (fun _ _ h => h.conv (inv := [(12, 15), (13, 16), (14, 17)]) (vk := []) (e0 := []) (t := ⟨[(1, iV .u64 a1), (2, iV .u64 a2), (3, iV .u64 a3), (4, .ptr 15 0 0), (9, .own 16), (10, .own 17), (11, iV .i64 x1595), (31, iV .i64 (t1571.length : Int)), (32, iV .i64 x1595), (51, iV .i64 x1595), (52, iV .i64 x1647), (94, bV true)], [(15, some (.box 35 (aHist a0))), (16, some (.row 4 47 (t1571.map erank_Cell))), (17, some (.row 4 54 (t1573.map epluvialref08_Cell)))], 0⟩) (by kernel_rfl)) (And.intro rfl rfl))
                    · replace H := (ifF c1674).symm.trans H
                      obtain ⟨t1675, e1676, H⟩ := bind_of H
                      refine reg hP hn hm [(4, .c (erank_Cell b1663)), (9, .c (erank_Cell b1666)), (10, .call [] [] [] [] 0 (iV .i64 t1669) []), (12, .b false), (17, .c (erank_Cell b1666)), (22, .c (erank_Cell b1663)), (23, .call [] [] [] [] 0 (iV .i64 t1672) []), (26, .b false), (31, .c (erank_Cell b1666)), (36, .c (erank_Cell b1666)), (37, .call [] [] [] [] 0 (iV .i64 t1675) [])] [1, 2, 3, 4, 9, 10, 11, 31, 32, 51, 52, 68, 69, 70, 71, 72, 73, 74, 75, 76, 77, 78, 79, 82, 83, 84, 85, 86, 87, 88, 89, 90, 91, 92, 93, 94] [12, 13, 14] ⟨[(1, iV .u64 a1), (2, iV .u64 a2), (3, iV .u64 a3), (4, .ptr 12 0 0), (9, .own 13), (10, .own 14), (11, iV .i64 x1595), (31, iV .i64 (t1571.length : Int)), (32, iV .i64 x1595), (51, iV .i64 x1595), (52, iV .i64 x1647), (68, .own 13), (69, iV .i64 x1595), (70, .ptr 13 (Int.toNat (x1595)) 0), (71, .ptr 13 (Int.toNat (x1595)) 0), (72, .agg (abound_Key b1666.f0)), (73, .own 13), (74, iV .i64 x1647), (75, .ptr 13 (Int.toNat (x1647)) 0), (76, .ptr 13 (Int.toNat (x1647)) 0), (77, .agg (abound_Key b1663.f0)), (78, iV .i64 t1672), (79, bV (t1672 != (1 : Int))), (82, .own 13), (83, iV .i64 x1595), (84, .ptr 13 (Int.toNat (x1595)) 0), (85, .ptr 13 (Int.toNat (x1595)) 0), (86, .agg (abound_Key b1666.f0)), (87, .own 13), (88, iV .i64 x1595), (89, .ptr 13 (Int.toNat (x1595)) 0), (90, .ptr 13 (Int.toNat (x1595)) 0), (91, .agg (abound_Key b1666.f0)), (92, iV .i64 t1675), (93, bV (t1675 != (0 : Int))), (94, bV (t1675 != (0 : Int)))], [(12, some (.box 35 (aHist a0))), (13, some (.row 4 47 (t1571.map erank_Cell))), (14, some (.row 4 54 (t1573.map epluvialref08_Cell)))], 0⟩ [0 ≤ x1647, x1647 < (((t1571.map erank_Cell).length : Nat) : Int), (t1571.map erank_Cell)[(Int.toNat (x1647))]? = some (erank_Cell b1663), 0 ≤ x1595, x1595 < (((t1571.map erank_Cell).length : Nat) : Int), (t1571.map erank_Cell)[(Int.toNat (x1595))]? = some (erank_Cell b1666), Enters Try.prog 25, Pv.Fn Try.prog 25 [.agg (abound_Key b1663.f0), .agg (abound_Key b1666.f0)] [] 0 (fun r o => r = iV .i64 t1669 ∧ o = []), (t1669 != (-1)) = false, 0 ≤ x1595, x1595 < (((t1571.map erank_Cell).length : Nat) : Int), (t1571.map erank_Cell)[(Int.toNat (x1595))]? = some (erank_Cell b1666), 0 ≤ x1647, x1647 < (((t1571.map erank_Cell).length : Nat) : Int), (t1571.map erank_Cell)[(Int.toNat (x1647))]? = some (erank_Cell b1663), Enters Try.prog 25, Pv.Fn Try.prog 25 [.agg (abound_Key b1666.f0), .agg (abound_Key b1663.f0)] [] 0 (fun r o => r = iV .i64 t1672 ∧ o = []), (t1672 != (1 : Int)) = false, 0 ≤ x1595, x1595 < (((t1571.map erank_Cell).length : Nat) : Int), (t1571.map erank_Cell)[(Int.toNat (x1595))]? = some (erank_Cell b1666), 0 ≤ x1595, x1595 < (((t1571.map erank_Cell).length : Nat) : Int), (t1571.map erank_Cell)[(Int.toNat (x1595))]? = some (erank_Cell b1666), Enters Try.prog 25, Pv.Fn Try.prog 25 [.agg (abound_Key b1666.f0), .agg (abound_Key b1666.f0)] [] 0 (fun r o => r = iV .i64 t1675 ∧ o = [])] (by kernel_rfl) ⟨by exact p1664, by exact el_lt erank_Cell p1664 q1665, by exact el_map erank_Cell q1665, by exact p1667, by exact el_lt erank_Cell p1667 q1668, by exact el_map erank_Cell q1668, by exact Try.call25, by exact f_rank_Compare.ok b1663.f0 b1666.f0 t1669 e1670, by exact c1671, by exact p1667, by exact el_lt erank_Cell p1667 q1668, by exact el_map erank_Cell q1668, by exact p1664, by exact el_lt erank_Cell p1664 q1665, by exact el_map erank_Cell q1665, by exact Try.call25, by exact f_rank_Compare.ok b1666.f0 b1663.f0 t1672 e1673, by exact c1674, by exact p1667, by exact el_lt erank_Cell p1667 q1668, by exact el_map erank_Cell q1668, by exact p1667, by exact el_lt erank_Cell p1667 q1668, by exact el_map erank_Cell q1668, by exact Try.call25, by exact f_rank_Compare.ok b1666.f0 b1666.f0 t1675 e1676, trivial⟩ ?_
                      obtain rfl := Option.some.inj H
                      exact Exists.intro _ (And.intro (fun _ _ h => h.conv (inv := [(12, 15), (13, 16), (14, 17)]) (vk := []) (e0 := []) (t := ⟨[(1, iV .u64 a1), (2, iV .u64 a2), (3, iV .u64 a3), (4, .ptr 15 0 0), (9, .own 16), (10, .own 17), (11, iV .i64 x1595), (31, iV .i64 (t1571.length : Int)), (32, iV .i64 x1595), (51, iV .i64 x1595), (52, iV .i64 x1647), (94, bV (t1675 != (0 : Int)))], [(15, some (.box 35 (aHist a0))), (16, some (.row 4 47 (t1571.map erank_Cell))), (17, some (.row 4 54 (t1573.map epluvialref08_Cell)))], 0⟩) (by kernel_rfl)) (And.intro rfl rfl))
                · obtain ⟨x1677, rfl⟩ : ∃ z, z = o1937 := ⟨_, rfl⟩
                  rintro e s ⟨rfl, rfl⟩
                  refine AWp.cond x1677 rfl (fun c1678 => ?_) (fun c1678 => ?_)
                  · replace H := (ifT c1678).symm.trans H
                    refine AWp.seq ?_
                    refine reg hP hn hm [] [8] [] ⟨[(8, bV false)], [], 0⟩ [] (by kernel_rfl) trivial ?_
                    refine AWp.conv (inv := []) (vk := []) (e0 := []) (t := ⟨[(8, bV false)], [], 0⟩) (by kernel_rfl) ?_
                    refine AWp.ret ?_
                    obtain rfl := Option.some.inj H
                    exact Exists.intro _ (And.intro (fun _ _ h => h) (And.intro rfl (And.intro rfl (And.intro (by kernel_rfl) (by kernel_rfl)))))
                  · replace H := (ifF c1678).symm.trans H
                    refine AWp.skip ?_
                    refine reg hP hn hm [] [1, 2, 3, 4, 9, 10, 11, 31, 32, 51, 52] [15, 16, 17] ⟨[(1, iV .u64 a1), (2, iV .u64 a2), (3, iV .u64 a3), (4, .ptr 15 0 0), (9, .own 16), (10, .own 17), (11, iV .i64 x1595), (31, iV .i64 (t1571.length : Int)), (32, iV .i64 x1595), (51, iV .i64 x1595), (52, iV .i64 (IntKind.i64.wrap (x1647 + (1 : Int))))], [(15, some (.box 35 (aHist a0))), (16, some (.row 4 47 (t1571.map erank_Cell))), (17, some (.row 4 54 (t1573.map epluvialref08_Cell)))], 0⟩ [] (by kernel_rfl) trivial ?_
                    exact LWp.conv (inv := [(15, 12), (16, 13), (17, 14)]) (vk := []) (e0 := []) (t := ⟨[(1, iV .u64 a1), (2, iV .u64 a2), (3, iV .u64 a3), (4, .ptr 12 0 0), (9, .own 13), (10, .own 14), (11, iV .i64 x1595), (31, iV .i64 (t1571.length : Int)), (32, iV .i64 x1595), (51, iV .i64 x1595), (52, iV .i64 (IntKind.i64.wrap (x1647 + (1 : Int))))], [(12, some (.box 35 (aHist a0))), (13, some (.row 4 47 (t1571.map erank_Cell))), (14, some (.row 4 54 (t1573.map epluvialref08_Cell)))], 0⟩) (by kernel_rfl) (ih _ _ H)
              · replace H := (ifF c1648).symm.trans H
                refine AWp.exit ?_
                obtain rfl := Option.some.inj H
                exact Exists.intro _ (And.intro (fun _ _ h => h.conv (inv := [(12, 18), (13, 19), (14, 20)]) (vk := []) (e0 := []) (t := ⟨[(1, iV .u64 a1), (2, iV .u64 a2), (3, iV .u64 a3), (4, .ptr 18 0 0), (9, .own 19), (10, .own 20), (31, iV .i64 (t1571.length : Int)), (32, iV .i64 x1595)], [(18, some (.box 35 (aHist a0))), (19, some (.row 4 47 (t1571.map erank_Cell))), (20, some (.row 4 54 (t1573.map epluvialref08_Cell)))], 0⟩) (by kernel_rfl)) (And.intro rfl rfl))
            · rcases o1935 with rr | _
              · skip
                rintro e s ⟨rfl, hfl, hres⟩
                obtain rfl := Option.some.inj H
                exact Exists.intro _ (And.intro (fun _ _ h => h) (And.intro rfl (And.intro hfl hres)))
              · skip
                rintro e s ⟨rfl, rfl⟩
                refine reg hP hn hm [] [1, 2, 3, 4, 9, 10, 31, 32] [18, 19, 20] ⟨[(1, iV .u64 a1), (2, iV .u64 a2), (3, iV .u64 a3), (4, .ptr 18 0 0), (9, .own 19), (10, .own 20), (31, iV .i64 (t1571.length : Int)), (32, iV .i64 (IntKind.i64.wrap (x1595 + (1 : Int))))], [(18, some (.box 35 (aHist a0))), (19, some (.row 4 47 (t1571.map erank_Cell))), (20, some (.row 4 54 (t1573.map epluvialref08_Cell)))], 0⟩ [] (by kernel_rfl) trivial ?_
                exact LWp.conv (inv := [(18, 6), (19, 7), (20, 8)]) (vk := []) (e0 := []) (t := ⟨[(1, iV .u64 a1), (2, iV .u64 a2), (3, iV .u64 a3), (4, .ptr 6 0 0), (9, .own 7), (10, .own 8), (31, iV .i64 (t1571.length : Int)), (32, iV .i64 (IntKind.i64.wrap (x1595 + (1 : Int))))], [(6, some (.box 35 (aHist a0))), (7, some (.row 4 47 (t1571.map erank_Cell))), (8, some (.row 4 54 (t1573.map epluvialref08_Cell)))], 0⟩) (by kernel_rfl) (ih _ _ H)
        · replace H := (ifF c1596).symm.trans H
          refine AWp.exit ?_
          obtain rfl := Option.some.inj H
          exact Exists.intro _ (And.intro (fun _ _ h => h.conv (inv := [(6, 21)]) (vk := []) (e0 := []) (t := ⟨[(1, iV .u64 a1), (2, iV .u64 a2), (3, iV .u64 a3), (4, .ptr 21 0 0)], [(21, some (.box 35 (aHist a0)))], 0⟩) (by kernel_rfl)) (And.intro rfl rfl))
      · rcases o1933 with rr | _
        · skip
          rintro e s ⟨rfl, hfl, hres⟩
          obtain rfl := Option.some.inj H
          exact Exists.intro _ (And.intro (fun _ _ h => h) (And.intro (.inl rfl) (And.intro hfl hres)))
        · skip
          rintro e s ⟨rfl, rfl⟩
          refine AWp.seq ?_
          obtain ⟨t1681, e1682, H⟩ := bind_of H
          refine reg hP hn hm [(2, .call [] [] [] [] 0 (.tup [.agg (abound_Key (t1681.1)), iV .i64 t1681.2]) []), (6, .k 22)] [1, 2, 3, 4, 13, 14] [21, 22] ⟨[(1, iV .u64 a1), (2, iV .u64 a2), (3, iV .u64 a3), (4, .ptr 21 0 0), (13, .ptr 22 0 0), (14, iV .i64 t1681.2)], [(21, some (.box 35 (aHist a0))), (22, some (.box 45 (abound_Key (t1681.1))))], 0⟩ [Enters Try.prog 22, Pv.Fn Try.prog 22 [.agg (aHist a0), iV .u64 a1] [] 0 (fun r o => r = .tup [.agg (abound_Key (t1681.1)), iV .i64 t1681.2] ∧ o = [])] (by kernel_rfl) ⟨by exact Try.call22, by exact f_rank_At.ok a0 a1 t1681 e1682, trivial⟩ ?_
          refine AWp.seq ?_
          obtain ⟨t1716, e1717, H⟩ := bind_of H
          refine reg hP hn hm [(2, .call [] [] [] [] 0 (.tup [.agg (apluvialref08_Cell (t1716.1)), iV .i64 t1716.2]) []), (6, .k 23)] [2, 3, 4, 13, 14, 15, 16] [21, 22, 23] ⟨[(2, iV .u64 a2), (3, iV .u64 a3), (4, .ptr 21 0 0), (13, .ptr 22 0 0), (14, iV .i64 t1681.2), (15, .ptr 23 0 0), (16, iV .i64 t1716.2)], [(21, some (.box 35 (aHist a0))), (22, some (.box 45 (abound_Key (t1681.1)))), (23, some (.box 54 (apluvialref08_Cell (t1716.1))))], 0⟩ [Enters Try.prog 26, Pv.Fn Try.prog 26 [.agg (aHist a0), iV .u64 a1] [] 0 (fun r o => r = .tup [.agg (apluvialref08_Cell (t1716.1)), iV .i64 t1716.2] ∧ o = [])] (by kernel_rfl) ⟨by exact Try.call26, by exact f_pluvialref08_At.ok a0 a1 t1716 e1717, trivial⟩ ?_
          refine AWp.seq ?_
          refine AWp.seq ?_
          obtain ⟨o1939, e1940, H⟩ := bind_of H
          refine AWp.mono (Q := fun e s => (match (generalizing := false) o1939 with | x1724 => e = .normal ∧ s = ⟨[(2, iV .u64 a2), (3, iV .u64 a3), (4, .ptr 24 0 0), (13, .ptr 25 0 0), (15, .ptr 26 0 0), (119, bV x1724)], [(24, some (.box 35 (aHist a0))), (25, some (.box 45 (abound_Key (t1681.1)))), (26, some (.box 54 (apluvialref08_Cell (t1716.1))))], 0⟩)) (AWp.cv ?_) ?_
          · replace H := e1940; clear e1940
            rcases Bool.eq_false_or_eq_true (t1681.2 != t1716.2) with c1721 | c1721
            · replace H := (ifT c1721).symm.trans H
              refine reg hP hn hm [(3, .b true)] [2, 3, 4, 13, 15, 119] [21, 22, 23] ⟨[(2, iV .u64 a2), (3, iV .u64 a3), (4, .ptr 21 0 0), (13, .ptr 22 0 0), (15, .ptr 23 0 0), (119, bV true)], [(21, some (.box 35 (aHist a0))), (22, some (.box 45 (abound_Key (t1681.1)))), (23, some (.box 54 (apluvialref08_Cell (t1716.1))))], 0⟩ [(t1681.2 != t1716.2) = true] (by kernel_rfl) ⟨by exact c1721, trivial⟩ ?_
              obtain rfl := Option.some.inj H
              exact Exists.intro _ (And.intro (fun _ _ h => h.conv (inv := [(21, 24), (22, 25), (23, 26)]) (vk := []) (e0 := []) (t := ⟨[(2, iV .u64 a2), (3, iV .u64 a3), (4, .ptr 24 0 0), (13, .ptr 25 0 0), (15, .ptr 26 0 0), (119, bV true)], [(24, some (.box 35 (aHist a0))), (25, some (.box 45 (abound_Key (t1681.1)))), (26, some (.box 54 (apluvialref08_Cell (t1716.1))))], 0⟩) (by kernel_rfl)) (And.intro rfl rfl))
            · replace H := (ifF c1721).symm.trans H
              obtain ⟨t1722, e1723, H⟩ := bind_of H
              refine reg hP hn hm [(3, .b false), (7, .call [] [] [] [] 0 (.agg (apluvialref08_Cell (t1722))) []), (9, .more (xAgg none))] [2, 3, 4, 13, 15, 119] [21, 22, 23] ⟨[(2, iV .u64 a2), (3, iV .u64 a3), (4, .ptr 21 0 0), (13, .ptr 22 0 0), (15, .ptr 23 0 0), (119, bV (!((((t1722).f0) == ((t1716.1).f0)) && ((((t1722).f1) == ((t1716.1).f1)) && ((((t1722).f2) == ((t1716.1).f2)) && ((((t1722).f3) == ((t1716.1).f3)) && true))))))], [(21, some (.box 35 (aHist a0))), (22, some (.box 45 (abound_Key (t1681.1)))), (23, some (.box 54 (apluvialref08_Cell (t1716.1))))], 0⟩ [(t1681.2 != t1716.2) = false, Enters Try.prog 24, Pv.Fn Try.prog 24 [.agg (abound_Key (t1681.1)), iV .u64 ((t1716.1).f3)] [] 0 (fun r o => r = .agg (apluvialref08_Cell (t1722)) ∧ o = [])] (by kernel_rfl) ⟨by exact c1721, by exact Try.call24, by exact f_pluviallaw08_cell.ok (t1681.1) ((t1716.1).f3) t1722 e1723, trivial⟩ ?_
              obtain rfl := Option.some.inj H
              exact Exists.intro _ (And.intro (fun _ _ h => h.conv (inv := [(21, 24), (22, 25), (23, 26)]) (vk := []) (e0 := []) (t := ⟨[(2, iV .u64 a2), (3, iV .u64 a3), (4, .ptr 24 0 0), (13, .ptr 25 0 0), (15, .ptr 26 0 0), (119, bV (!((((t1722).f0) == ((t1716.1).f0)) && ((((t1722).f1) == ((t1716.1).f1)) && ((((t1722).f2) == ((t1716.1).f2)) && ((((t1722).f3) == ((t1716.1).f3)) && true))))))], [(24, some (.box 35 (aHist a0))), (25, some (.box 45 (abound_Key (t1681.1)))), (26, some (.box 54 (apluvialref08_Cell (t1716.1))))], 0⟩) (by kernel_rfl)) (And.intro rfl rfl))
          · obtain ⟨x1724, rfl⟩ : ∃ z, z = o1939 := ⟨_, rfl⟩
            rintro e s ⟨rfl, rfl⟩
            refine AWp.cond x1724 rfl (fun c1725 => ?_) (fun c1725 => ?_)
            · replace H := (ifT c1725).symm.trans H
              refine AWp.seq ?_
              refine reg hP hn hm [] [8] [] ⟨[(8, bV false)], [], 0⟩ [] (by kernel_rfl) trivial ?_
              refine AWp.conv (inv := []) (vk := []) (e0 := []) (t := ⟨[(8, bV false)], [], 0⟩) (by kernel_rfl) ?_
              refine AWp.ret ?_
              obtain rfl := Option.some.inj H
              exact Exists.intro _ (And.intro (fun _ _ h => h) (And.intro (.inl rfl) (And.intro rfl (And.intro (by kernel_rfl) (by kernel_rfl)))))
            · replace H := (ifF c1725).symm.trans H
              refine AWp.skip ?_
              refine AWp.seq ?_
              obtain ⟨t1728, e1729, H⟩ := bind_of H
              refine reg hP hn hm [(3, .call [] [] [] [] 0 (.tup [.agg (abound_Key (t1728.1)), iV .i64 t1728.2]) [])] [2, 3, 4, 13, 14, 15] [24, 25, 26] ⟨[(2, iV .u64 a2), (3, iV .u64 a3), (4, .ptr 24 0 0), (13, .ptr 25 0 0), (14, iV .i64 t1728.2), (15, .ptr 26 0 0)], [(24, some (.box 35 (aHist a0))), (25, some (.box 45 (abound_Key (t1728.1)))), (26, some (.box 54 (apluvialref08_Cell (t1716.1))))], 0⟩ [Enters Try.prog 27, Pv.Fn Try.prog 27 [.agg (aHist a0), iV .u64 a2, iV .u64 a3] [] 0 (fun r o => r = .tup [.agg (abound_Key (t1728.1)), iV .i64 t1728.2] ∧ o = [])] (by kernel_rfl) ⟨by exact Try.call27, by exact f_rank_Quantile.ok a0 a2 a3 t1728 e1729, trivial⟩ ?_
              refine AWp.seq ?_
              obtain ⟨t1918, e1919, H⟩ := bind_of H
              refine reg hP hn hm [(3, .call [] [] [] [] 0 (.tup [.agg (apluvialref08_Cell (t1918.1)), iV .i64 t1918.2]) [])] [13, 14, 15, 16] [25, 26] ⟨[(13, .ptr 25 0 0), (14, iV .i64 t1728.2), (15, .ptr 26 0 0), (16, iV .i64 t1918.2)], [(25, some (.box 45 (abound_Key (t1728.1)))), (26, some (.box 54 (apluvialref08_Cell (t1918.1))))], 0⟩ [Enters Try.prog 28, Pv.Fn Try.prog 28 [.agg (aHist a0), iV .u64 a2, iV .u64 a3] [] 0 (fun r o => r = .tup [.agg (apluvialref08_Cell (t1918.1)), iV .i64 t1918.2] ∧ o = [])] (by kernel_rfl) ⟨by exact Try.call28, by exact f_pluvialref08_Quantile.ok a0 a2 a3 t1918 e1919, trivial⟩ ?_
              refine AWp.seq ?_
              obtain ⟨o1941, e1942, H⟩ := bind_of H
              refine AWp.mono (Q := fun e s => (match (generalizing := false) o1941 with | x1932 => e = .normal ∧ s = ⟨[(8, bV x1932)], [], 0⟩)) (AWp.cv ?_) ?_
              · replace H := e1942; clear e1942
                obtain ⟨t1926, e1927, H⟩ := bind_of H
                rcases Bool.eq_false_or_eq_true t1926 with c1928 | c1928
                · replace H := (ifT c1928).symm.trans H
                  rcases Bool.eq_false_or_eq_true (t1728.2 == t1918.2) with c1929 | c1929
                  · replace H := (ifT c1929).symm.trans H
                    obtain ⟨t1930, e1931, H⟩ := bind_of H
                    refine reg hP hn hm [(0, .call [] [] [] [] 0 (bV t1926) []), (1, .b true), (6, .b true), (10, .call [] [] [] [] 0 (.agg (apluvialref08_Cell (t1930))) []), (12, .more (xAgg none))] [8] [] ⟨[(8, bV ((((t1930).f0) == ((t1918.1).f0)) && ((((t1930).f1) == ((t1918.1).f1)) && ((((t1930).f2) == ((t1918.1).f2)) && ((((t1930).f3) == ((t1918.1).f3)) && true)))))], [], 0⟩ [Enters Try.prog 20, Pv.Fn Try.prog 20 [] [] 0 (fun r o => r = bV t1926 ∧ o = []), t1926 = true, (t1728.2 == t1918.2) = true, Enters Try.prog 24, Pv.Fn Try.prog 24 [.agg (abound_Key (t1728.1)), iV .u64 ((t1918.1).f3)] [] 0 (fun r o => r = .agg (apluvialref08_Cell (t1930)) ∧ o = [])] (by kernel_rfl) ⟨by exact Try.call20, by exact f_pluviallaw08_awake.ok  t1926 e1927, by exact c1928, by exact c1929, by exact Try.call24, by exact f_pluviallaw08_cell.ok (t1728.1) ((t1918.1).f3) t1930 e1931, trivial⟩ ?_
                    obtain rfl := Option.some.inj H
                    exact Exists.intro _ (And.intro (fun _ _ h => h.conv (inv := []) (vk := []) (e0 := []) (t := ⟨[(8, bV ((((t1930).f0) == ((t1918.1).f0)) && ((((t1930).f1) == ((t1918.1).f1)) && ((((t1930).f2) == ((t1918.1).f2)) && ((((t1930).f3) == ((t1918.1).f3)) && true)))))], [], 0⟩) (by kernel_rfl)) (And.intro rfl rfl))
                  · replace H := (ifF c1929).symm.trans H
                    refine reg hP hn hm [(0, .call [] [] [] [] 0 (bV t1926) []), (1, .b true), (6, .b false)] [8] [] ⟨[(8, bV false)], [], 0⟩ [Enters Try.prog 20, Pv.Fn Try.prog 20 [] [] 0 (fun r o => r = bV t1926 ∧ o = []), t1926 = true, (t1728.2 == t1918.2) = false] (by kernel_rfl) ⟨by exact Try.call20, by exact f_pluviallaw08_awake.ok  t1926 e1927, by exact c1928, by exact c1929, trivial⟩ ?_
                    obtain rfl := Option.some.inj H
                    exact Exists.intro _ (And.intro (fun _ _ h => h.conv (inv := []) (vk := []) (e0 := []) (t := ⟨[(8, bV false)], [], 0⟩) (by kernel_rfl)) (And.intro rfl rfl))
                · replace H := (ifF c1928).symm.trans H
                  refine reg hP hn hm [(0, .call [] [] [] [] 0 (bV t1926) []), (1, .b false)] [8] [] ⟨[(8, bV false)], [], 0⟩ [Enters Try.prog 20, Pv.Fn Try.prog 20 [] [] 0 (fun r o => r = bV t1926 ∧ o = []), t1926 = false] (by kernel_rfl) ⟨by exact Try.call20, by exact f_pluviallaw08_awake.ok  t1926 e1927, by exact c1928, trivial⟩ ?_
                  obtain rfl := Option.some.inj H
                  exact Exists.intro _ (And.intro (fun _ _ h => h.conv (inv := []) (vk := []) (e0 := []) (t := ⟨[(8, bV false)], [], 0⟩) (by kernel_rfl)) (And.intro rfl rfl))
              · obtain ⟨x1932, rfl⟩ : ∃ z, z = o1941 := ⟨_, rfl⟩
                rintro e s ⟨rfl, rfl⟩
                refine AWp.conv (inv := []) (vk := []) (e0 := []) (t := ⟨[(8, bV x1932)], [], 0⟩) (by kernel_rfl) ?_
                refine AWp.ret ?_
                obtain rfl := Option.some.inj H
                exact Exists.intro _ (And.intro (fun _ _ h => h) (And.intro (.inl rfl) (And.intro rfl (And.intro (by kernel_rfl) (by kernel_rfl)))))
end Go.Proofs.Yteogljahemehkaa.PvGC
