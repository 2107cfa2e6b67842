import Derived.Test.YteogljahemehkaaProg
import Derived.Test.YteogljahemehkaaPxRankDowns06
set_option linter.unusedVariables false
set_option linter.unnecessarySimpa false
set_option linter.unusedSimpArgs false
set_option maxRecDepth 10000
namespace Go.Proofs.Yteogljahemehkaa.PvGC
open Go Go.Pv
def f_rank_Order.l0 (a0 : THist) (x1316 : List Trank_Cell) (x1317 : Int) : Option (List Trank_Cell) := if (decide (x1317 ≥ (0 : Int))) = true then ((at? a0.f7 x1317) >>= fun b1323 => (chk ((x1316.length + [(⟨(⟨(-1), a0.f1, b1323.f0⟩ : Tbound_Key), b1323.f1⟩ : Trank_Cell)].length) * 32 ≤ 140737488355328)) >>= fun _ => f_rank_Order.l0 a0 (x1316 ++ [(⟨(⟨(-1), a0.f1, b1323.f0⟩ : Tbound_Key), b1323.f1⟩ : Trank_Cell)]) (IntKind.i64.wrap (x1317 - (1 : Int)))) else (some x1316)
partial_fixpoint
def f_rank_Order.l1 (a0 : THist) (x1341 : List Trank_Cell) (x1342 : Int) : Option (List Trank_Cell) := if (decide (x1342 < (a0.f6.length : Int))) = true then ((at? a0.f6 x1342) >>= fun b1347 => (chk ((x1341.length + [(⟨(⟨1, a0.f1, b1347.f0⟩ : Tbound_Key), b1347.f1⟩ : Trank_Cell)].length) * 32 ≤ 140737488355328)) >>= fun _ => f_rank_Order.l1 a0 (x1341 ++ [(⟨(⟨1, a0.f1, b1347.f0⟩ : Tbound_Key), b1347.f1⟩ : Trank_Cell)]) (IntKind.i64.wrap (x1342 + (1 : Int)))) else (some x1341)
partial_fixpoint
def f_rank_Order.f (a0 : THist) : Option (List Trank_Cell) := (f_rank_Order.l0 a0 [] (IntKind.i64.wrap ((a0.f7.length : Int) - (1 : Int)))) >>= fun x1327 => ((if (decide (a0.f3 > (0 : Int))) = true then ((chk ((x1327.length + [(⟨(⟨0, 0, 0⟩ : Tbound_Key), a0.f3⟩ : Trank_Cell)].length) * 32 ≤ 140737488355328)) >>= fun _ => some (x1327 ++ [(⟨(⟨0, 0, 0⟩ : Tbound_Key), a0.f3⟩ : Trank_Cell)])) else (some x1327)) : Option (List Trank_Cell)) >>= fun x1331 => (f_rank_Order.l1 a0 x1331 0) >>= fun x1352 => some x1352
theorem f_rank_Order.ok (a0 : THist) (r : List Trank_Cell) (H : f_rank_Order.f a0 = some r) : Pv.Fn Try.prog 21 [.agg (aHist a0)] [] 0 (fun x o => x = .own 0 ∧ o = [(0, some (.row 4 47 (r.map erank_Cell)))]) := by
  unfold f_rank_Order.f at H
  refine Fn.bodyK [0] Try.func21 rfl rfl (fun Γ hP hn => ?_)
  have hm : Try.prog.follows .mixedOrders = true := by kernel_rfl
  replace hn : Γ.n = 64 := hn
  refine AWp.seq ?_
  refine reg hP hn hm [(0, .k 0)] [1] [0] ⟨[(1, .ptr 0 0 0)], [(0, some (.box 35 (aHist a0)))], 0⟩ [] (by kernel_rfl) trivial ?_
  refine AWp.seq ?_
  refine reg hP hn hm [] [1, 3] [0] ⟨[(1, .ptr 0 0 0), (3, .none0)], [(0, some (.box 35 (aHist a0)))], 0⟩ [] (by kernel_rfl) trivial ?_
  refine AWp.seq ?_
  refine AWp.seq ?_
  refine reg hP hn hm [(2, .any (iV .i64 (a0.f7.length : Int)))] [1, 3, 4] [0] ⟨[(1, .ptr 0 0 0), (3, .none0), (4, iV .i64 (IntKind.i64.wrap ((a0.f7.length : Int) - (1 : Int))))], [(0, some (.box 35 (aHist a0)))], 0⟩ [((a0.f7.map eBucket).length : Int) = (a0.f7.length : Int)] (by kernel_rfl) ⟨by rw [len_map], trivial⟩ ?_
  refine AWp.block ?_
  obtain ⟨o1353, e1354, H⟩ := bind_of H
  refine AWp.loop (LWp.conv (inv := [(0, 3)]) (vk := []) (e0 := [4]) (t := ⟨[(1, .ptr 3 0 0), (3, .own 4), (4, iV .i64 (IntKind.i64.wrap ((a0.f7.length : Int) - (1 : Int))))], [(3, some (.box 35 (aHist a0))), (4, some (.row 4 47 ([].map erank_Cell)))], 0⟩) (by kernel_rfl) ?_)
  refine LWp.mono (Q := fun e s => (match (generalizing := false) o1353 with | x1327 => e = .exit 0 ∧ s = ⟨[(1, .ptr 7 0 0), (3, .own 8)], [(7, some (.box 35 (aHist a0))), (8, some (.row 4 47 (x1327.map erank_Cell)))], 0⟩)) (LWp.cv (withBody (fun body hbody => ?_))) ?_
  · refine f_rank_Order.l0.partial_correctness a0 (motive := fun x1316 x1317 o1353 => LWp Γ body (fun e s => ∃ t, Cv Γ s t ∧ (match (generalizing := false) o1353 with | x1327 => e = .exit 0 ∧ t = ⟨[(1, .ptr 7 0 0), (3, .own 8)], [(7, some (.box 35 (aHist a0))), (8, some (.row 4 47 (x1327.map erank_Cell)))], 0⟩)) ⟨[(1, .ptr 3 0 0), (3, .own 4), (4, iV .i64 x1317)], [(3, some (.box 35 (aHist a0))), (4, some (.row 4 47 (x1316.map erank_Cell)))], 0⟩) ?_ _ _ _ e1354
    clear H e1354 o1353; intro self ih x1316 x1317 o1353 H
    subst hbody
    refine LWp.round ?_
    refine AWp.seq ?_
    refine AWp.seq ?_
    refine reg hP hn hm [] [1, 3, 4, 12] [3, 4] ⟨[(1, .ptr 3 0 0), (3, .own 4), (4, iV .i64 x1317), (12, bV (decide (x1317 ≥ (0 : Int))))], [(3, some (.box 35 (aHist a0))), (4, some (.row 4 47 (x1316.map erank_Cell)))], 0⟩ [] (by kernel_rfl) trivial ?_
    refine AWp.cond (decide (x1317 ≥ (0 : Int))) rfl (fun c1318 => ?_) (fun c1318 => ?_)
    · replace H := (ifT c1318).symm.trans H
      refine AWp.skip ?_
      refine AWp.seq ?_
      refine AWp.block ?_
      obtain ⟨b1323, p1324, q1325, H⟩ := at_of H
      obtain ⟨c1326, H⟩ := chk_of H
      refine reg hP hn hm [(6, .c (eBucket b1323)), (13, .c (eBucket b1323)), (17, .app 5 ([(⟨(⟨(-1), a0.f1, b1323.f0⟩ : Tbound_Key), b1323.f1⟩ : Trank_Cell)].map erank_Cell)), (18, .app 6 ((x1316 ++ [(⟨(⟨(-1), a0.f1, b1323.f0⟩ : Tbound_Key), b1323.f1⟩ : Trank_Cell)]).map erank_Cell))] [1, 3, 4] [3, 6] ⟨[(1, .ptr 3 0 0), (3, .own 6), (4, iV .i64 x1317)], [(3, some (.box 35 (aHist a0))), (6, some (.row 4 47 ((x1316 ++ [(⟨(⟨(-1), a0.f1, b1323.f0⟩ : Tbound_Key), b1323.f1⟩ : Trank_Cell)]).map erank_Cell)))], 0⟩ [0 ≤ x1317, (a0.f7.map eBucket)[(Int.toNat (x1317))]? = some (eBucket b1323), 0 ≤ x1317, (a0.f7.map eBucket)[(Int.toNat (x1317))]? = some (eBucket b1323), [(⟨(⟨(-1), a0.f1, b1323.f0⟩ : Tbound_Key), b1323.f1⟩ : Trank_Cell)].map erank_Cell = [[iI .i64 (-1), iI .i64 a0.f1, iI .i64 b1323.f0, iI .u64 b1323.f1]], (x1316 ++ [(⟨(⟨(-1), a0.f1, b1323.f0⟩ : Tbound_Key), b1323.f1⟩ : Trank_Cell)]).map erank_Cell = (x1316.map erank_Cell) ++ ([(⟨(⟨(-1), a0.f1, b1323.f0⟩ : Tbound_Key), b1323.f1⟩ : Trank_Cell)].map erank_Cell), ∀ c ∈ ([(⟨(⟨(-1), a0.f1, b1323.f0⟩ : Tbound_Key), b1323.f1⟩ : Trank_Cell)].map erank_Cell), c.length = 4, ∀ c ∈ ([(⟨(⟨(-1), a0.f1, b1323.f0⟩ : Tbound_Key), b1323.f1⟩ : Trank_Cell)].map erank_Cell), leaves (c.map .im) = true, ((x1316.map erank_Cell).length + ([(⟨(⟨(-1), a0.f1, b1323.f0⟩ : Tbound_Key), b1323.f1⟩ : Trank_Cell)].map erank_Cell).length) * 32 ≤ 140737488355328] (by kernel_rfl) ⟨by exact p1324, by exact el_map eBucket q1325, by exact p1324, by exact el_map eBucket q1325, by exact rfl, by simp, by exact all_len _ _ _ (fun _ => rfl), by exact all_leaf _ _ (fun _ => rfl), by simpa using c1326, trivial⟩ ?_
      refine reg hP hn hm [] [1, 3, 4] [3, 6] ⟨[(1, .ptr 3 0 0), (3, .own 6), (4, iV .i64 (IntKind.i64.wrap (x1317 - (1 : Int))))], [(3, some (.box 35 (aHist a0))), (6, some (.row 4 47 ((x1316 ++ [(⟨(⟨(-1), a0.f1, b1323.f0⟩ : Tbound_Key), b1323.f1⟩ : Trank_Cell)]).map erank_Cell)))], 0⟩ [] (by kernel_rfl) trivial ?_
      exact LWp.conv (inv := [(3, 3), (6, 4)]) (vk := []) (e0 := []) (t := ⟨[(1, .ptr 3 0 0), (3, .own 4), (4, iV .i64 (IntKind.i64.wrap (x1317 - (1 : Int))))], [(3, some (.box 35 (aHist a0))), (4, some (.row 4 47 ((x1316 ++ [(⟨(⟨(-1), a0.f1, b1323.f0⟩ : Tbound_Key), b1323.f1⟩ : Trank_Cell)]).map erank_Cell)))], 0⟩) (by kernel_rfl) (ih _ _ _ H)
    · replace H := (ifF c1318).symm.trans H
      refine AWp.exit ?_
      obtain rfl := Option.some.inj H
      exact Exists.intro _ (And.intro (fun _ _ h => h.conv (inv := [(3, 7), (4, 8)]) (vk := []) (e0 := []) (t := ⟨[(1, .ptr 7 0 0), (3, .own 8)], [(7, some (.box 35 (aHist a0))), (8, some (.row 4 47 (x1316.map erank_Cell)))], 0⟩) (by kernel_rfl)) (And.intro rfl rfl))
  · obtain ⟨x1327, rfl⟩ : ∃ z, z = o1353 := ⟨_, rfl⟩
    rintro e s ⟨rfl, rfl⟩
    refine AWp.seq ?_
    refine AWp.seq ?_
    refine reg hP hn hm [] [1, 3, 36] [7, 8] ⟨[(1, .ptr 7 0 0), (3, .own 8), (36, bV (decide (a0.f3 > (0 : Int))))], [(7, some (.box 35 (aHist a0))), (8, some (.row 4 47 (x1327.map erank_Cell)))], 0⟩ [] (by kernel_rfl) trivial ?_
    obtain ⟨o1355, e1356, H⟩ := bind_of H
    refine AWp.mono (Q := fun e s => (match (generalizing := false) o1355 with | x1331 => e = .normal ∧ s = ⟨[(1, .ptr 11 0 0), (3, .own 12)], [(11, some (.box 35 (aHist a0))), (12, some (.row 4 47 (x1331.map erank_Cell)))], 0⟩)) (AWp.cv ?_) ?_
    · replace H := e1356; clear e1356
      refine AWp.cond (decide (a0.f3 > (0 : Int))) rfl (fun c1328 => ?_) (fun c1328 => ?_)
      · replace H := (ifT c1328).symm.trans H
        obtain ⟨c1330, H⟩ := chk_of H
        refine reg hP hn hm [(5, .app 9 ([(⟨(⟨0, 0, 0⟩ : Tbound_Key), a0.f3⟩ : Trank_Cell)].map erank_Cell)), (6, .app 10 ((x1327 ++ [(⟨(⟨0, 0, 0⟩ : Tbound_Key), a0.f3⟩ : Trank_Cell)]).map erank_Cell))] [1, 3] [7, 10] ⟨[(1, .ptr 7 0 0), (3, .own 10)], [(7, some (.box 35 (aHist a0))), (10, some (.row 4 47 ((x1327 ++ [(⟨(⟨0, 0, 0⟩ : Tbound_Key), a0.f3⟩ : Trank_Cell)]).map erank_Cell)))], 0⟩ [[(⟨(⟨0, 0, 0⟩ : Tbound_Key), a0.f3⟩ : Trank_Cell)].map erank_Cell = [[iI .i64 0, iI .i64 0, iI .i64 0, iI .u64 a0.f3]], (x1327 ++ [(⟨(⟨0, 0, 0⟩ : Tbound_Key), a0.f3⟩ : Trank_Cell)]).map erank_Cell = (x1327.map erank_Cell) ++ ([(⟨(⟨0, 0, 0⟩ : Tbound_Key), a0.f3⟩ : Trank_Cell)].map erank_Cell), ∀ c ∈ ([(⟨(⟨0, 0, 0⟩ : Tbound_Key), a0.f3⟩ : Trank_Cell)].map erank_Cell), c.length = 4, ∀ c ∈ ([(⟨(⟨0, 0, 0⟩ : Tbound_Key), a0.f3⟩ : Trank_Cell)].map erank_Cell), leaves (c.map .im) = true, ((x1327.map erank_Cell).length + ([(⟨(⟨0, 0, 0⟩ : Tbound_Key), a0.f3⟩ : Trank_Cell)].map erank_Cell).length) * 32 ≤ 140737488355328] (by kernel_rfl) ⟨by exact rfl, by simp, by exact all_len _ _ _ (fun _ => rfl), by exact all_leaf _ _ (fun _ => rfl), by simpa using c1330, trivial⟩ ?_
        obtain rfl := Option.some.inj H
        exact Exists.intro _ (And.intro (fun _ _ h => h.conv (inv := [(7, 11), (10, 12)]) (vk := []) (e0 := []) (t := ⟨[(1, .ptr 11 0 0), (3, .own 12)], [(11, some (.box 35 (aHist a0))), (12, some (.row 4 47 ((x1327 ++ [(⟨(⟨0, 0, 0⟩ : Tbound_Key), a0.f3⟩ : Trank_Cell)]).map erank_Cell)))], 0⟩) (by kernel_rfl)) (And.intro rfl rfl))
      · replace H := (ifF c1328).symm.trans H
        refine AWp.skip ?_
        obtain rfl := Option.some.inj H
        exact Exists.intro _ (And.intro (fun _ _ h => h.conv (inv := [(7, 11), (8, 12)]) (vk := []) (e0 := []) (t := ⟨[(1, .ptr 11 0 0), (3, .own 12)], [(11, some (.box 35 (aHist a0))), (12, some (.row 4 47 (x1327.map erank_Cell)))], 0⟩) (by kernel_rfl)) (And.intro rfl rfl))
    · obtain ⟨x1331, rfl⟩ : ∃ z, z = o1355 := ⟨_, rfl⟩
      rintro e s ⟨rfl, rfl⟩
      refine AWp.seq ?_
      refine AWp.seq ?_
      refine reg hP hn hm [(2, .any (iV .i64 (a0.f6.length : Int)))] [1, 3, 45, 46, 47] [11, 12] ⟨[(1, .ptr 11 0 0), (3, .own 12), (45, .im (.row (a0.f6.map eBucket))), (46, iV .i64 (a0.f6.length : Int)), (47, iV .i64 0)], [(11, some (.box 35 (aHist a0))), (12, some (.row 4 47 (x1331.map erank_Cell)))], 0⟩ [((a0.f6.map eBucket).length : Int) = (a0.f6.length : Int)] (by kernel_rfl) ⟨by rw [len_map], trivial⟩ ?_
      refine AWp.block ?_
      obtain ⟨o1357, e1358, H⟩ := bind_of H
      refine AWp.loop (LWp.conv (inv := [(11, 16), (12, 17)]) (vk := []) (e0 := []) (t := ⟨[(1, .ptr 16 0 0), (3, .own 17), (45, .im (.row (a0.f6.map eBucket))), (46, iV .i64 (a0.f6.length : Int)), (47, iV .i64 0)], [(16, some (.box 35 (aHist a0))), (17, some (.row 4 47 (x1331.map erank_Cell)))], 0⟩) (by kernel_rfl) ?_)
      refine LWp.mono (Q := fun e s => (match (generalizing := false) o1357 with | x1352 => e = .exit 2 ∧ s = ⟨[(3, .own 21)], [(21, some (.row 4 47 (x1352.map erank_Cell)))], 0⟩)) (LWp.cv (withBody (fun body hbody => ?_))) ?_
      · refine f_rank_Order.l1.partial_correctness a0 (motive := fun x1341 x1342 o1357 => LWp Γ body (fun e s => ∃ t, Cv Γ s t ∧ (match (generalizing := false) o1357 with | x1352 => e = .exit 2 ∧ t = ⟨[(3, .own 21)], [(21, some (.row 4 47 (x1352.map erank_Cell)))], 0⟩)) ⟨[(1, .ptr 16 0 0), (3, .own 17), (45, .im (.row (a0.f6.map eBucket))), (46, iV .i64 (a0.f6.length : Int)), (47, iV .i64 x1342)], [(16, some (.box 35 (aHist a0))), (17, some (.row 4 47 (x1341.map erank_Cell)))], 0⟩) ?_ _ _ _ e1358
        clear H e1358 o1357; intro self ih x1341 x1342 o1357 H
        subst hbody
        refine LWp.round ?_
        refine AWp.seq ?_
        refine reg hP hn hm [] [1, 3, 45, 46, 47, 48] [16, 17] ⟨[(1, .ptr 16 0 0), (3, .own 17), (45, .im (.row (a0.f6.map eBucket))), (46, iV .i64 (a0.f6.length : Int)), (47, iV .i64 x1342), (48, bV (decide (x1342 < (a0.f6.length : Int))))], [(16, some (.box 35 (aHist a0))), (17, some (.row 4 47 (x1341.map erank_Cell)))], 0⟩ [] (by kernel_rfl) trivial ?_
        refine AWp.seq ?_
        refine AWp.cond (decide (x1342 < (a0.f6.length : Int))) rfl (fun c1343 => ?_) (fun c1343 => ?_)
        · replace H := (ifT c1343).symm.trans H
          refine AWp.skip ?_
          refine AWp.seq ?_
          refine AWp.block ?_
          refine AWp.seq ?_
          obtain ⟨b1347, p1348, q1349, H⟩ := at_of H
          refine reg hP hn hm [(0, .c (eBucket b1347)), (2, .k 18)] [1, 3, 6, 45, 46, 47] [16, 17, 18] ⟨[(1, .ptr 16 0 0), (3, .own 17), (6, .ptr 18 0 0), (45, .im (.row (a0.f6.map eBucket))), (46, iV .i64 (a0.f6.length : Int)), (47, iV .i64 x1342)], [(16, some (.box 35 (aHist a0))), (17, some (.row 4 47 (x1341.map erank_Cell))), (18, some (.box 127 (aBucket b1347)))], 0⟩ [0 ≤ x1342, (a0.f6.map eBucket)[(Int.toNat (x1342))]? = some (eBucket b1347)] (by kernel_rfl) ⟨by exact p1348, by exact el_map eBucket q1349, trivial⟩ ?_
          obtain ⟨c1351, H⟩ := chk_of H
          refine reg hP hn hm [(9, .app 19 ([(⟨(⟨1, a0.f1, b1347.f0⟩ : Tbound_Key), b1347.f1⟩ : Trank_Cell)].map erank_Cell)), (10, .app 20 ((x1341 ++ [(⟨(⟨1, a0.f1, b1347.f0⟩ : Tbound_Key), b1347.f1⟩ : Trank_Cell)]).map erank_Cell))] [1, 3, 45, 46, 47] [16, 20] ⟨[(1, .ptr 16 0 0), (3, .own 20), (45, .im (.row (a0.f6.map eBucket))), (46, iV .i64 (a0.f6.length : Int)), (47, iV .i64 x1342)], [(16, some (.box 35 (aHist a0))), (20, some (.row 4 47 ((x1341 ++ [(⟨(⟨1, a0.f1, b1347.f0⟩ : Tbound_Key), b1347.f1⟩ : Trank_Cell)]).map erank_Cell)))], 0⟩ [[(⟨(⟨1, a0.f1, b1347.f0⟩ : Tbound_Key), b1347.f1⟩ : Trank_Cell)].map erank_Cell = [[iI .i64 1, iI .i64 a0.f1, iI .i64 b1347.f0, iI .u64 b1347.f1]], (x1341 ++ [(⟨(⟨1, a0.f1, b1347.f0⟩ : Tbound_Key), b1347.f1⟩ : Trank_Cell)]).map erank_Cell = (x1341.map erank_Cell) ++ ([(⟨(⟨1, a0.f1, b1347.f0⟩ : Tbound_Key), b1347.f1⟩ : Trank_Cell)].map erank_Cell), ∀ c ∈ ([(⟨(⟨1, a0.f1, b1347.f0⟩ : Tbound_Key), b1347.f1⟩ : Trank_Cell)].map erank_Cell), c.length = 4, ∀ c ∈ ([(⟨(⟨1, a0.f1, b1347.f0⟩ : Tbound_Key), b1347.f1⟩ : Trank_Cell)].map erank_Cell), leaves (c.map .im) = true, ((x1341.map erank_Cell).length + ([(⟨(⟨1, a0.f1, b1347.f0⟩ : Tbound_Key), b1347.f1⟩ : Trank_Cell)].map erank_Cell).length) * 32 ≤ 140737488355328] (by kernel_rfl) ⟨by exact rfl, by simp, by exact all_len _ _ _ (fun _ => rfl), by exact all_leaf _ _ (fun _ => rfl), by simpa using c1351, trivial⟩ ?_
          refine reg hP hn hm [] [1, 3, 45, 46, 47] [16, 20] ⟨[(1, .ptr 16 0 0), (3, .own 20), (45, .im (.row (a0.f6.map eBucket))), (46, iV .i64 (a0.f6.length : Int)), (47, iV .i64 (IntKind.i64.wrap (x1342 + (1 : Int))))], [(16, some (.box 35 (aHist a0))), (20, some (.row 4 47 ((x1341 ++ [(⟨(⟨1, a0.f1, b1347.f0⟩ : Tbound_Key), b1347.f1⟩ : Trank_Cell)]).map erank_Cell)))], 0⟩ [] (by kernel_rfl) trivial ?_
          exact LWp.conv (inv := [(16, 16), (20, 17)]) (vk := []) (e0 := []) (t := ⟨[(1, .ptr 16 0 0), (3, .own 17), (45, .im (.row (a0.f6.map eBucket))), (46, iV .i64 (a0.f6.length : Int)), (47, iV .i64 (IntKind.i64.wrap (x1342 + (1 : Int))))], [(16, some (.box 35 (aHist a0))), (17, some (.row 4 47 ((x1341 ++ [(⟨(⟨1, a0.f1, b1347.f0⟩ : Tbound_Key), b1347.f1⟩ : Trank_Cell)]).map erank_Cell)))], 0⟩) (by kernel_rfl) (ih _ _ _ H)
        · replace H := (ifF c1343).symm.trans H
          refine AWp.exit ?_
          obtain rfl := Option.some.inj H
          exact Exists.intro _ (And.intro (fun _ _ h => h.conv (inv := [(17, 21)]) (vk := []) (e0 := []) (t := ⟨[(3, .own 21)], [(21, some (.row 4 47 (x1341.map erank_Cell)))], 0⟩) (by kernel_rfl)) (And.intro rfl rfl))
      · obtain ⟨x1352, rfl⟩ : ∃ z, z = o1357 := ⟨_, rfl⟩
        rintro e s ⟨rfl, rfl⟩
        refine AWp.seq ?_
        refine reg hP hn hm [] [2] [21] ⟨[(2, .own 21)], [(21, some (.row 4 47 (x1352.map erank_Cell)))], 0⟩ [] (by kernel_rfl) trivial ?_
        refine AWp.conv (inv := [(21, 0)]) (vk := []) (e0 := []) (t := ⟨[(2, .own 0)], [(0, some (.row 4 47 (x1352.map erank_Cell)))], 0⟩) (by kernel_rfl) ?_
        refine AWp.ret ?_
        obtain rfl := Option.some.inj H
        exact Exists.intro _ (And.intro (fun _ _ h => h) (And.intro (.inl rfl) (And.intro rfl (And.intro (by kernel_rfl) (by kernel_rfl)))))
def f_rank_At.l0 (t1361 : List Trank_Cell) (x1371 : Int) (x1372 : Int) : Option ((Tbound_Key × Int) ⊕ Unit) := if (decide (x1372 < (t1361.length : Int))) = true then ((at? t1361 x1372) >>= fun b1377 => if (decide (x1371 ≤ b1377.f1)) = true then (some (.inl (b1377.f0, 0))) else (f_rank_At.l0 t1361 (IntKind.u64.wrap (x1371 - b1377.f1)) (IntKind.i64.wrap (x1372 + (1 : Int))))) else (some (.inr ()))
partial_fixpoint
def f_rank_At.f (a0 : THist) (a1 : Int) : Option (Tbound_Key × Int) := if (a0.f4 == (0 : Int)) = true then (some ((⟨0, 0, 0⟩ : Tbound_Key), 30)) else (((if (decide (a1 < (1 : Int))) = true then (some true) else (some (decide (a1 > a0.f4)))) : Option (Bool)) >>= fun x1305 => if x1305 = true then (some ((⟨0, 0, 0⟩ : Tbound_Key), 4)) else ((f_rank_Order.f a0) >>= fun t1361 => (f_rank_At.l0 t1361 a1 0) >>= fun oo => match oo with | .inl rr => (some rr) | .inr _ => (some ((⟨0, 0, 0⟩ : Tbound_Key), 4))))
theorem f_rank_At.ok (a0 : THist) (a1 : Int) (r : Tbound_Key × Int) (H : f_rank_At.f a0 a1 = some r) : Pv.Fn Try.prog 22 [.agg (aHist a0), iV .u64 a1] [] 0 (fun x o => x = .tup [.agg (abound_Key (r.1)), iV .i64 r.2] ∧ o = []) := by
  unfold f_rank_At.f at H
  refine Fn.bodyK [] Try.func22 rfl rfl (fun Γ hP hn => ?_)
  have hm : Try.prog.follows .mixedOrders = true := by kernel_rfl
  replace hn : Γ.n = 42 := hn
  refine AWp.seq ?_
  refine reg hP hn hm [(0, .k 0), (1, .k 1)] [1, 2, 4] [0, 1] ⟨[(1, iV .u64 a1), (2, .ptr 0 0 0), (4, .ptr 1 0 0)], [(0, some (.box 35 (aHist a0))), (1, some (.box 45 (abound_Key ⟨0, 0, 0⟩)))], 0⟩ [] (by kernel_rfl) trivial ?_
  refine AWp.seq ?_
  refine AWp.block ?_
  refine AWp.seq ?_
  refine reg hP hn hm [] [1, 2, 4, 8] [0, 1] ⟨[(1, iV .u64 a1), (2, .ptr 0 0 0), (4, .ptr 1 0 0), (8, bV (a0.f4 == (0 : Int)))], [(0, some (.box 35 (aHist a0))), (1, some (.box 45 (abound_Key ⟨0, 0, 0⟩)))], 0⟩ [] (by kernel_rfl) trivial ?_
  refine AWp.cond (a0.f4 == (0 : Int)) rfl (fun c1302 => ?_) (fun c1302 => ?_)
  · replace H := (ifT c1302).symm.trans H
    refine AWp.seq ?_
    refine reg hP hn hm [] [4, 5] [1] ⟨[(4, .ptr 1 0 0), (5, iV .i64 30)], [(1, some (.box 45 (abound_Key ⟨0, 0, 0⟩)))], 0⟩ [] (by kernel_rfl) trivial ?_
    refine AWp.conv (inv := [(1, 0)]) (vk := []) (e0 := []) (t := ⟨[(4, .ptr 0 0 0), (5, iV .i64 30)], [(0, some (.box 45 (abound_Key ((⟨0, 0, 0⟩ : Tbound_Key)))))], 0⟩) (by kernel_rfl) ?_
    refine AWp.ret ?_
    obtain rfl := Option.some.inj H
    exact Exists.intro _ (And.intro (fun _ _ h => h) (And.intro (.inl rfl) (And.intro rfl (And.intro (by kernel_rfl) (by kernel_rfl)))))
  · replace H := (ifF c1302).symm.trans H
    refine AWp.seq ?_
    obtain ⟨o1381, e1382, H⟩ := bind_of H
    refine AWp.mono (Q := fun e s => (match (generalizing := false) o1381 with | x1305 => e = .normal ∧ s = ⟨[(1, iV .u64 a1), (2, .ptr 2 0 0), (4, .ptr 3 0 0), (13, bV x1305)], [(2, some (.box 35 (aHist a0))), (3, some (.box 45 (abound_Key ⟨0, 0, 0⟩)))], 0⟩)) (AWp.cv ?_) ?_
    · replace H := e1382; clear e1382
      rcases Bool.eq_false_or_eq_true (decide (a1 < (1 : Int))) with c1304 | c1304
      · replace H := (ifT c1304).symm.trans H
        refine reg hP hn hm [(2, .b true)] [1, 2, 4, 13] [0, 1] ⟨[(1, iV .u64 a1), (2, .ptr 0 0 0), (4, .ptr 1 0 0), (13, bV true)], [(0, some (.box 35 (aHist a0))), (1, some (.box 45 (abound_Key ⟨0, 0, 0⟩)))], 0⟩ [(decide (a1 < (1 : Int))) = true] (by kernel_rfl) ⟨by exact c1304, trivial⟩ ?_
        obtain rfl := Option.some.inj H
        exact Exists.intro _ (And.intro (fun _ _ h => h.conv (inv := [(0, 2), (1, 3)]) (vk := []) (e0 := []) (t := ⟨[(1, iV .u64 a1), (2, .ptr 2 0 0), (4, .ptr 3 0 0), (13, bV true)], [(2, some (.box 35 (aHist a0))), (3, some (.box 45 (abound_Key ⟨0, 0, 0⟩)))], 0⟩) (by kernel_rfl)) (And.intro rfl rfl))
      · replace H := (ifF c1304).symm.trans H
        refine reg hP hn hm [(2, .b false)] [1, 2, 4, 13] [0, 1] ⟨[(1, iV .u64 a1), (2, .ptr 0 0 0), (4, .ptr 1 0 0), (13, bV (decide (a1 > a0.f4)))], [(0, some (.box 35 (aHist a0))), (1, some (.box 45 (abound_Key ⟨0, 0, 0⟩)))], 0⟩ [(decide (a1 < (1 : Int))) = false] (by kernel_rfl) ⟨by exact c1304, trivial⟩ ?_
        obtain rfl := Option.some.inj H
        exact Exists.intro _ (And.intro (fun _ _ h => h.conv (inv := [(0, 2), (1, 3)]) (vk := []) (e0 := []) (t := ⟨[(1, iV .u64 a1), (2, .ptr 2 0 0), (4, .ptr 3 0 0), (13, bV (decide (a1 > a0.f4)))], [(2, some (.box 35 (aHist a0))), (3, some (.box 45 (abound_Key ⟨0, 0, 0⟩)))], 0⟩) (by kernel_rfl)) (And.intro rfl rfl))
    · obtain ⟨x1305, rfl⟩ : ∃ z, z = o1381 := ⟨_, rfl⟩
      rintro e s ⟨rfl, rfl⟩
      refine AWp.cond x1305 rfl (fun c1306 => ?_) (fun c1306 => ?_)
      · replace H := (ifT c1306).symm.trans H
        refine AWp.seq ?_
        refine reg hP hn hm [] [4, 5] [3] ⟨[(4, .ptr 3 0 0), (5, iV .i64 4)], [(3, some (.box 45 (abound_Key ⟨0, 0, 0⟩)))], 0⟩ [] (by kernel_rfl) trivial ?_
        refine AWp.conv (inv := [(3, 0)]) (vk := []) (e0 := []) (t := ⟨[(4, .ptr 0 0 0), (5, iV .i64 4)], [(0, some (.box 45 (abound_Key ((⟨0, 0, 0⟩ : Tbound_Key)))))], 0⟩) (by kernel_rfl) ?_
        refine AWp.ret ?_
        obtain rfl := Option.some.inj H
        exact Exists.intro _ (And.intro (fun _ _ h => h) (And.intro (.inl rfl) (And.intro rfl (And.intro (by kernel_rfl) (by kernel_rfl)))))
      · replace H := (ifF c1306).symm.trans H
        refine AWp.skip ?_
        refine AWp.seq ?_
        refine AWp.seq ?_
        obtain ⟨t1361, e1362, H⟩ := bind_of H
        refine reg hP hn hm [(1, .call [] [(0, 4)] [] [4] 0 (.own 0) [(0, some (.row 4 47 (t1361.map erank_Cell)))]), (2, .any (iV .i64 (t1361.length : Int)))] [1, 4, 24, 25, 26] [3, 4] ⟨[(1, iV .u64 a1), (4, .ptr 3 0 0), (24, .own 4), (25, iV .i64 (t1361.length : Int)), (26, iV .i64 0)], [(3, some (.box 45 (abound_Key ⟨0, 0, 0⟩))), (4, some (.row 4 47 (t1361.map erank_Cell)))], 0⟩ [Enters Try.prog 21, Pv.Fn Try.prog 21 [.agg (aHist a0)] [] 0 (fun r o => r = .own 0 ∧ o = [(0, some (.row 4 47 (t1361.map erank_Cell)))]), ((t1361.map erank_Cell).length : Int) = (t1361.length : Int)] (by kernel_rfl) ⟨by exact Try.call21, by exact f_rank_Order.ok a0 t1361 e1362, by rw [len_map], trivial⟩ ?_
        refine AWp.block ?_
        obtain ⟨o1383, e1384, H⟩ := bind_of H
        refine AWp.loop (LWp.conv (inv := [(3, 6), (4, 7)]) (vk := []) (e0 := []) (t := ⟨[(1, iV .u64 a1), (4, .ptr 6 0 0), (24, .own 7), (25, iV .i64 (t1361.length : Int)), (26, iV .i64 0)], [(6, some (.box 45 (abound_Key ⟨0, 0, 0⟩))), (7, some (.row 4 47 (t1361.map erank_Cell)))], 0⟩) (by kernel_rfl) ?_)
        refine LWp.mono (Q := fun e s => (match (generalizing := false) o1383 with | .inl rr => e = .ret ∧ s.floor = 0 ∧ resOf Try.prog Try.f22 s = some (.tup [.agg (abound_Key (rr.1)), iV .i64 rr.2]) ∧ ([] : List (Nat × Option MObj)) = [] | .inr _ => e = .exit 1 ∧ s = ⟨[(4, .ptr 9 0 0)], [(9, some (.box 45 (abound_Key ⟨0, 0, 0⟩)))], 0⟩)) (LWp.cv (withBody (fun body hbody => ?_))) ?_
        · refine f_rank_At.l0.partial_correctness t1361 (motive := fun x1371 x1372 o1383 => LWp Γ body (fun e s => ∃ t, Cv Γ s t ∧ (match (generalizing := false) o1383 with | .inl rr => e = .ret ∧ t.floor = 0 ∧ resOf Try.prog Try.f22 t = some (.tup [.agg (abound_Key (rr.1)), iV .i64 rr.2]) ∧ ([] : List (Nat × Option MObj)) = [] | .inr _ => e = .exit 1 ∧ t = ⟨[(4, .ptr 9 0 0)], [(9, some (.box 45 (abound_Key ⟨0, 0, 0⟩)))], 0⟩)) ⟨[(1, iV .u64 x1371), (4, .ptr 6 0 0), (24, .own 7), (25, iV .i64 (t1361.length : Int)), (26, iV .i64 x1372)], [(6, some (.box 45 (abound_Key ⟨0, 0, 0⟩))), (7, some (.row 4 47 (t1361.map erank_Cell)))], 0⟩) ?_ _ _ _ e1384
          clear H e1384 o1383; intro self ih x1371 x1372 o1383 H
          subst hbody
          refine LWp.round ?_
          refine AWp.seq ?_
          refine reg hP hn hm [] [1, 4, 24, 25, 26, 27] [6, 7] ⟨[(1, iV .u64 x1371), (4, .ptr 6 0 0), (24, .own 7), (25, iV .i64 (t1361.length : Int)), (26, iV .i64 x1372), (27, bV (decide (x1372 < (t1361.length : Int))))], [(6, some (.box 45 (abound_Key ⟨0, 0, 0⟩))), (7, some (.row 4 47 (t1361.map erank_Cell)))], 0⟩ [] (by kernel_rfl) trivial ?_
          refine AWp.seq ?_
          refine AWp.cond (decide (x1372 < (t1361.length : Int))) rfl (fun c1373 => ?_) (fun c1373 => ?_)
          · replace H := (ifT c1373).symm.trans H
            refine AWp.skip ?_
            refine AWp.seq ?_
            refine AWp.block ?_
            refine AWp.seq ?_
            obtain ⟨b1377, p1378, q1379, H⟩ := at_of H
            refine reg hP hn hm [(1, .c (erank_Cell b1377)), (2, .k 8)] [1, 4, 7, 24, 25, 26] [6, 7, 8] ⟨[(1, iV .u64 x1371), (4, .ptr 6 0 0), (7, .ptr 8 0 0), (24, .own 7), (25, iV .i64 (t1361.length : Int)), (26, iV .i64 x1372)], [(6, some (.box 45 (abound_Key ⟨0, 0, 0⟩))), (7, some (.row 4 47 (t1361.map erank_Cell))), (8, some (.box 47 [iV .i64 b1377.f0.f0, iV .i64 b1377.f0.f1, iV .i64 b1377.f0.f2, iV .u64 b1377.f1]))], 0⟩ [0 ≤ x1372, x1372 < (((t1361.map erank_Cell).length : Nat) : Int), (t1361.map erank_Cell)[(Int.toNat (x1372))]? = some (erank_Cell b1377)] (by kernel_rfl) ⟨by exact p1378, by exact el_lt erank_Cell p1378 q1379, by exact el_map erank_Cell q1379, trivial⟩ ?_
            refine AWp.seq ?_
            refine AWp.seq ?_
            refine reg hP hn hm [] [1, 4, 7, 24, 25, 26, 33] [6, 7, 8] ⟨[(1, iV .u64 x1371), (4, .ptr 6 0 0), (7, .ptr 8 0 0), (24, .own 7), (25, iV .i64 (t1361.length : Int)), (26, iV .i64 x1372), (33, bV (decide (x1371 ≤ b1377.f1)))], [(6, some (.box 45 (abound_Key ⟨0, 0, 0⟩))), (7, some (.row 4 47 (t1361.map erank_Cell))), (8, some (.box 47 [iV .i64 b1377.f0.f0, iV .i64 b1377.f0.f1, iV .i64 b1377.f0.f2, iV .u64 b1377.f1]))], 0⟩ [] (by kernel_rfl) trivial ?_
            refine AWp.cond (decide (x1371 ≤ b1377.f1)) rfl (fun c1380 => ?_) (fun c1380 => ?_)
            · replace H := (ifT c1380).symm.trans H
              refine AWp.seq ?_
              refine reg hP hn hm [] [4, 5] [6] ⟨[(4, .ptr 6 0 0), (5, iV .i64 0)], [(6, some (.box 45 (abound_Key b1377.f0)))], 0⟩ [] (by kernel_rfl) trivial ?_
              refine AWp.conv (inv := [(6, 0)]) (vk := []) (e0 := []) (t := ⟨[(4, .ptr 0 0 0), (5, iV .i64 0)], [(0, some (.box 45 (abound_Key (b1377.f0))))], 0⟩) (by kernel_rfl) ?_
              refine AWp.ret ?_
              obtain rfl := Option.some.inj H
              exact Exists.intro _ (And.intro (fun _ _ h => h) (And.intro rfl (And.intro rfl (And.intro (by kernel_rfl) (by kernel_rfl)))))
            · replace H := (ifF c1380).symm.trans H
              refine AWp.skip ?_
              refine reg hP hn hm [] [1, 4, 24, 25, 26] [6, 7] ⟨[(1, iV .u64 (IntKind.u64.wrap (x1371 - b1377.f1))), (4, .ptr 6 0 0), (24, .own 7), (25, iV .i64 (t1361.length : Int)), (26, iV .i64 x1372)], [(6, some (.box 45 (abound_Key ⟨0, 0, 0⟩))), (7, some (.row 4 47 (t1361.map erank_Cell)))], 0⟩ [] (by kernel_rfl) trivial ?_
              refine reg hP hn hm [] [1, 4, 24, 25, 26] [6, 7] ⟨[(1, iV .u64 (IntKind.u64.wrap (x1371 - b1377.f1))), (4, .ptr 6 0 0), (24, .own 7), (25, iV .i64 (t1361.length : Int)), (26, iV .i64 (IntKind.i64.wrap (x1372 + (1 : Int))))], [(6, some (.box 45 (abound_Key ⟨0, 0, 0⟩))), (7, some (.row 4 47 (t1361.map erank_Cell)))], 0⟩ [] (by kernel_rfl) trivial ?_
              exact LWp.conv (inv := [(6, 6), (7, 7)]) (vk := []) (e0 := []) (t := ⟨[(1, iV .u64 (IntKind.u64.wrap (x1371 - b1377.f1))), (4, .ptr 6 0 0), (24, .own 7), (25, iV .i64 (t1361.length : Int)), (26, iV .i64 (IntKind.i64.wrap (x1372 + (1 : Int))))], [(6, some (.box 45 (abound_Key ⟨0, 0, 0⟩))), (7, some (.row 4 47 (t1361.map erank_Cell)))], 0⟩) (by kernel_rfl) (ih _ _ _ H)
          · replace H := (ifF c1373).symm.trans H
            refine AWp.exit ?_
            obtain rfl := Option.some.inj H
            exact Exists.intro _ (And.intro (fun _ _ h => h.conv (inv := [(6, 9)]) (vk := []) (e0 := []) (t := ⟨[(4, .ptr 9 0 0)], [(9, some (.box 45 (abound_Key ⟨0, 0, 0⟩)))], 0⟩) (by kernel_rfl)) (And.intro rfl rfl))
        · rcases o1383 with rr | _
          · skip
            rintro e s ⟨rfl, hfl, hres⟩
            obtain rfl := Option.some.inj H
            exact Exists.intro _ (And.intro (fun _ _ h => h) (And.intro (.inl rfl) (And.intro hfl hres)))
          · skip
            rintro e s ⟨rfl, rfl⟩
            refine AWp.seq ?_
            refine reg hP hn hm [] [4, 5] [9] ⟨[(4, .ptr 9 0 0), (5, iV .i64 4)], [(9, some (.box 45 (abound_Key ⟨0, 0, 0⟩)))], 0⟩ [] (by kernel_rfl) trivial ?_
            refine AWp.conv (inv := [(9, 0)]) (vk := []) (e0 := []) (t := ⟨[(4, .ptr 0 0 0), (5, iV .i64 4)], [(0, some (.box 45 (abound_Key ((⟨0, 0, 0⟩ : Tbound_Key)))))], 0⟩) (by kernel_rfl) ?_
            refine AWp.ret ?_
            obtain rfl := Option.some.inj H
            exact Exists.intro _ (And.intro (fun _ _ h => h) (And.intro (.inl rfl) (And.intro rfl (And.intro (by kernel_rfl) (by kernel_rfl)))))
def f_rank_Quantile.f (a0 : THist) (a1 : Int) (a2 : Int) : Option (Tbound_Key × Int) := ((if (a2 == (0 : Int)) = true then (some true) else (some (decide (a1 > a2)))) : Option (Bool)) >>= fun x1197 => if x1197 = true then (some ((⟨0, 0, 0⟩ : Tbound_Key), 1)) else (if (a0.f4 == (0 : Int)) = true then (some ((⟨0, 0, 0⟩ : Tbound_Key), 30)) else ((f_num_Mul.f a1 a0.f4) >>= fun t1297 => (f_num_Wide_Ceil.f (t1297) a2) >>= fun t1299 => if (t1299.2 != (0 : Int)) = true then (some ((⟨0, 0, 0⟩ : Tbound_Key), t1299.2)) else ((f_rank_At.f a0 (if (1 : Int) > t1299.1 then (1 : Int) else t1299.1)) >>= fun t1387 => some ((t1387.1), t1387.2))))
theorem f_rank_Quantile.ok (a0 : THist) (a1 : Int) (a2 : Int) (r : Tbound_Key × Int) (H : f_rank_Quantile.f a0 a1 a2 = some r) : Pv.Fn Try.prog 27 [.agg (aHist a0), iV .u64 a1, iV .u64 a2] [] 0 (fun x o => x = .tup [.agg (abound_Key (r.1)), iV .i64 r.2] ∧ o = []) := by
  unfold f_rank_Quantile.f at H
  refine Fn.bodyK [] Try.func27 rfl rfl (fun Γ hP hn => ?_)
  have hm : Try.prog.follows .mixedOrders = true := by kernel_rfl
  replace hn : Γ.n = 43 := hn
  refine AWp.seq ?_
  refine reg hP hn hm [(0, .k 0), (1, .k 1)] [1, 2, 3, 6] [0, 1] ⟨[(1, iV .u64 a1), (2, iV .u64 a2), (3, .ptr 0 0 0), (6, .ptr 1 0 0)], [(0, some (.box 35 (aHist a0))), (1, some (.box 45 (abound_Key ⟨0, 0, 0⟩)))], 0⟩ [] (by kernel_rfl) trivial ?_
  refine AWp.seq ?_
  refine AWp.block ?_
  refine AWp.seq ?_
  obtain ⟨o1389, e1390, H⟩ := bind_of H
  refine AWp.mono (Q := fun e s => (match (generalizing := false) o1389 with | x1197 => e = .normal ∧ s = ⟨[(1, iV .u64 a1), (2, iV .u64 a2), (3, .ptr 2 0 0), (6, .ptr 3 0 0), (10, bV x1197)], [(2, some (.box 35 (aHist a0))), (3, some (.box 45 (abound_Key ⟨0, 0, 0⟩)))], 0⟩)) (AWp.cv ?_) ?_
  · replace H := e1390; clear e1390
    rcases Bool.eq_false_or_eq_true (a2 == (0 : Int)) with c1196 | c1196
    · replace H := (ifT c1196).symm.trans H
      refine reg hP hn hm [(2, .b true)] [1, 2, 3, 6, 10] [0, 1] ⟨[(1, iV .u64 a1), (2, iV .u64 a2), (3, .ptr 0 0 0), (6, .ptr 1 0 0), (10, bV true)], [(0, some (.box 35 (aHist a0))), (1, some (.box 45 (abound_Key ⟨0, 0, 0⟩)))], 0⟩ [(a2 == (0 : Int)) = true] (by kernel_rfl) ⟨by exact c1196, trivial⟩ ?_
      obtain rfl := Option.some.inj H
      exact Exists.intro _ (And.intro (fun _ _ h => h.conv (inv := [(0, 2), (1, 3)]) (vk := []) (e0 := []) (t := ⟨[(1, iV .u64 a1), (2, iV .u64 a2), (3, .ptr 2 0 0), (6, .ptr 3 0 0), (10, bV true)], [(2, some (.box 35 (aHist a0))), (3, some (.box 45 (abound_Key ⟨0, 0, 0⟩)))], 0⟩) (by kernel_rfl)) (And.intro rfl rfl))
    · replace H := (ifF c1196).symm.trans H
      refine reg hP hn hm [(2, .b false)] [1, 2, 3, 6, 10] [0, 1] ⟨[(1, iV .u64 a1), (2, iV .u64 a2), (3, .ptr 0 0 0), (6, .ptr 1 0 0), (10, bV (decide (a1 > a2)))], [(0, some (.box 35 (aHist a0))), (1, some (.box 45 (abound_Key ⟨0, 0, 0⟩)))], 0⟩ [(a2 == (0 : Int)) = false] (by kernel_rfl) ⟨by exact c1196, trivial⟩ ?_
      obtain rfl := Option.some.inj H
      exact Exists.intro _ (And.intro (fun _ _ h => h.conv (inv := [(0, 2), (1, 3)]) (vk := []) (e0 := []) (t := ⟨[(1, iV .u64 a1), (2, iV .u64 a2), (3, .ptr 2 0 0), (6, .ptr 3 0 0), (10, bV (decide (a1 > a2)))], [(2, some (.box 35 (aHist a0))), (3, some (.box 45 (abound_Key ⟨0, 0, 0⟩)))], 0⟩) (by kernel_rfl)) (And.intro rfl rfl))
  · obtain ⟨x1197, rfl⟩ : ∃ z, z = o1389 := ⟨_, rfl⟩
    rintro e s ⟨rfl, rfl⟩
    refine AWp.cond x1197 rfl (fun c1198 => ?_) (fun c1198 => ?_)
    · replace H := (ifT c1198).symm.trans H
      refine AWp.seq ?_
      refine reg hP hn hm [] [6, 7] [3] ⟨[(6, .ptr 3 0 0), (7, iV .i64 1)], [(3, some (.box 45 (abound_Key ⟨0, 0, 0⟩)))], 0⟩ [] (by kernel_rfl) trivial ?_
      refine AWp.conv (inv := [(3, 0)]) (vk := []) (e0 := []) (t := ⟨[(6, .ptr 0 0 0), (7, iV .i64 1)], [(0, some (.box 45 (abound_Key ((⟨0, 0, 0⟩ : Tbound_Key)))))], 0⟩) (by kernel_rfl) ?_
      refine AWp.ret ?_
      obtain rfl := Option.some.inj H
      exact Exists.intro _ (And.intro (fun _ _ h => h) (And.intro (.inl rfl) (And.intro rfl (And.intro (by kernel_rfl) (by kernel_rfl)))))
    · replace H := (ifF c1198).symm.trans H
      refine AWp.seq ?_
      refine reg hP hn hm [] [1, 2, 3, 6, 19] [2, 3] ⟨[(1, iV .u64 a1), (2, iV .u64 a2), (3, .ptr 2 0 0), (6, .ptr 3 0 0), (19, bV (a0.f4 == (0 : Int)))], [(2, some (.box 35 (aHist a0))), (3, some (.box 45 (abound_Key ⟨0, 0, 0⟩)))], 0⟩ [] (by kernel_rfl) trivial ?_
      refine AWp.cond (a0.f4 == (0 : Int)) rfl (fun c1199 => ?_) (fun c1199 => ?_)
      · replace H := (ifT c1199).symm.trans H
        refine AWp.seq ?_
        refine reg hP hn hm [] [6, 7] [3] ⟨[(6, .ptr 3 0 0), (7, iV .i64 30)], [(3, some (.box 45 (abound_Key ⟨0, 0, 0⟩)))], 0⟩ [] (by kernel_rfl) trivial ?_
        refine AWp.conv (inv := [(3, 0)]) (vk := []) (e0 := []) (t := ⟨[(6, .ptr 0 0 0), (7, iV .i64 30)], [(0, some (.box 45 (abound_Key ((⟨0, 0, 0⟩ : Tbound_Key)))))], 0⟩) (by kernel_rfl) ?_
        refine AWp.ret ?_
        obtain rfl := Option.some.inj H
        exact Exists.intro _ (And.intro (fun _ _ h => h) (And.intro (.inl rfl) (And.intro rfl (And.intro (by kernel_rfl) (by kernel_rfl)))))
      · replace H := (ifF c1199).symm.trans H
        refine AWp.skip ?_
        refine AWp.seq ?_
        obtain ⟨t1297, e1298, H⟩ := bind_of H
        obtain ⟨t1299, e1300, H⟩ := bind_of H
        refine reg hP hn hm [(3, .call [] [] [] [] 0 (.agg (anum_Wide (t1297))) []), (5, .call [] [] [] [] 0 (.tup [iV .u64 t1299.1, iV .i64 t1299.2]) [])] [3, 6, 8, 9] [2, 3] ⟨[(3, .ptr 2 0 0), (6, .ptr 3 0 0), (8, iV .u64 t1299.1), (9, iV .i64 t1299.2)], [(2, some (.box 35 (aHist a0))), (3, some (.box 45 (abound_Key ⟨0, 0, 0⟩)))], 0⟩ [Enters Try.prog 70, Pv.Fn Try.prog 70 [iV .u64 a1, iV .u64 a0.f4] [] 0 (fun r o => r = .agg (anum_Wide (t1297)) ∧ o = []), Enters Try.prog 71, Pv.Fn Try.prog 71 [.agg (anum_Wide (t1297)), iV .u64 a2] [] 0 (fun r o => r = .tup [iV .u64 t1299.1, iV .i64 t1299.2] ∧ o = [])] (by kernel_rfl) ⟨by exact Try.call70, by exact f_num_Mul.ok a1 a0.f4 t1297 e1298, by exact Try.call71, by exact f_num_Wide_Ceil.ok (t1297) a2 t1299 e1300, trivial⟩ ?_
        refine AWp.seq ?_
        refine AWp.seq ?_
        refine reg hP hn hm [] [3, 6, 8, 9, 34] [2, 3] ⟨[(3, .ptr 2 0 0), (6, .ptr 3 0 0), (8, iV .u64 t1299.1), (9, iV .i64 t1299.2), (34, bV (t1299.2 != (0 : Int)))], [(2, some (.box 35 (aHist a0))), (3, some (.box 45 (abound_Key ⟨0, 0, 0⟩)))], 0⟩ [] (by kernel_rfl) trivial ?_
        refine AWp.cond (t1299.2 != (0 : Int)) rfl (fun c1301 => ?_) (fun c1301 => ?_)
        · replace H := (ifT c1301).symm.trans H
          refine AWp.seq ?_
          refine reg hP hn hm [] [6, 7] [3] ⟨[(6, .ptr 3 0 0), (7, iV .i64 t1299.2)], [(3, some (.box 45 (abound_Key ⟨0, 0, 0⟩)))], 0⟩ [] (by kernel_rfl) trivial ?_
          refine AWp.conv (inv := [(3, 0)]) (vk := []) (e0 := []) (t := ⟨[(6, .ptr 0 0 0), (7, iV .i64 t1299.2)], [(0, some (.box 45 (abound_Key ((⟨0, 0, 0⟩ : Tbound_Key)))))], 0⟩) (by kernel_rfl) ?_
          refine AWp.ret ?_
          obtain rfl := Option.some.inj H
          exact Exists.intro _ (And.intro (fun _ _ h => h) (And.intro (.inl rfl) (And.intro rfl (And.intro (by kernel_rfl) (by kernel_rfl)))))
        · replace H := (ifF c1301).symm.trans H
          refine AWp.skip ?_
          refine AWp.seq ?_
          obtain ⟨t1387, e1388, H⟩ := bind_of H
          refine reg hP hn hm [(2, .more xMax), (3, .call [] [] [] [] 0 (.tup [.agg (abound_Key (t1387.1)), iV .i64 t1387.2]) [])] [6, 7] [3] ⟨[(6, .ptr 3 0 0), (7, iV .i64 t1387.2)], [(3, some (.box 45 (abound_Key (t1387.1))))], 0⟩ [Enters Try.prog 22, Pv.Fn Try.prog 22 [.agg (aHist a0), iV .u64 (if (1 : Int) > t1299.1 then (1 : Int) else t1299.1)] [] 0 (fun r o => r = .tup [.agg (abound_Key (t1387.1)), iV .i64 t1387.2] ∧ o = [])] (by kernel_rfl) ⟨by exact Try.call22, by exact f_rank_At.ok a0 (if (1 : Int) > t1299.1 then (1 : Int) else t1299.1) t1387 e1388, trivial⟩ ?_
          refine AWp.conv (inv := [(3, 0)]) (vk := []) (e0 := []) (t := ⟨[(6, .ptr 0 0 0), (7, iV .i64 t1387.2)], [(0, some (.box 45 (abound_Key ((t1387.1)))))], 0⟩) (by kernel_rfl) ?_
          refine AWp.ret ?_
          obtain rfl := Option.some.inj H
          exact Exists.intro _ (And.intro (fun _ _ h => h) (And.intro (.inl rfl) (And.intro rfl (And.intro (by kernel_rfl) (by kernel_rfl)))))
def f_pluviallaw08_awake.f  : Option (Bool) := (f_hist_Empty.f 0 0) >>= fun t1191 => (f_hist_Make.f (t1191) [(⟨1, 2⟩ : TBucket), (⟨3, 2⟩ : TBucket)] ([] : List TBucket)) >>= fun t1193 => (f_rank_Quantile.f (t1193.1) 1 2) >>= fun t1393 => (f_rank_Quantile.f (t1193.1) 501 1000) >>= fun t1397 => ((if (t1193.2 == (0 : Int)) = true then (if (t1393.2 == (0 : Int)) = true then (if (t1397.2 == (0 : Int)) = true then (if ((((t1393.1).f0) == (1 : Int)) && ((((t1393.1).f1) == (0 : Int)) && ((((t1393.1).f2) == (1 : Int)) && true))) = true then (some ((((t1397.1).f0) == (1 : Int)) && ((((t1397.1).f1) == (0 : Int)) && ((((t1397.1).f2) == (3 : Int)) && true)))) else (some false)) else (some false)) else (some false)) else (some false)) : Option (Bool)) >>= fun x1407 => some x1407
theorem f_pluviallaw08_awake.ok  (r : Bool) (H : f_pluviallaw08_awake.f  = some r) : Pv.Fn Try.prog 20 [] [] 0 (fun x o => x = bV r ∧ o = []) := by
  unfold f_pluviallaw08_awake.f at H
  refine Fn.bodyK [] Try.func20 rfl rfl (fun Γ hP hn => ?_)
  have hm : Try.prog.follows .mixedOrders = true := by kernel_rfl
  replace hn : Γ.n = 45 := hn
  refine AWp.seq ?_
  refine reg hP hn hm [] [] [] ⟨[], [], 0⟩ [] (by kernel_rfl) trivial ?_
  refine AWp.seq ?_
  obtain ⟨t1191, e1192, H⟩ := bind_of H
  obtain ⟨t1193, e1194, H⟩ := bind_of H
  refine reg hP hn hm [(0, .call [] [] [] [] 0 (.agg (aHist (t1191))) []), (3, .app 0 ([(⟨1, 2⟩ : TBucket), (⟨3, 2⟩ : TBucket)].map eBucket)), (4, .call [] [] [0] [] 0 (.tup [.agg (aHist (t1193.1)), iV .i64 t1193.2]) []), (8, .k 1)] [1, 2] [1] ⟨[(1, .ptr 1 0 0), (2, iV .i64 t1193.2)], [(1, some (.box 35 (aHist (t1193.1))))], 0⟩ [Enters Try.prog 69, Pv.Fn Try.prog 69 [iV .i64 0, iV .i64 0] [] 0 (fun r o => r = .agg (aHist (t1191)) ∧ o = []), [(⟨1, 2⟩ : TBucket), (⟨3, 2⟩ : TBucket)].map eBucket = [[iI .i64 1, iI .u64 2], [iI .i64 3, iI .u64 2]], Enters Try.prog 68, Pv.Fn Try.prog 68 [.agg (aHist (t1191)), .im (.row ([(⟨1, 2⟩ : TBucket), (⟨3, 2⟩ : TBucket)].map eBucket)), .im (.row (([] : List TBucket).map eBucket))] [] 0 (fun r o => r = .tup [.agg (aHist (t1193.1)), iV .i64 t1193.2] ∧ o = [])] (by kernel_rfl) ⟨by exact Try.call69, by exact f_hist_Empty.ok 0 0 t1191 e1192, by exact rfl, by exact Try.call68, by exact f_hist_Make.ok (t1191) [(⟨1, 2⟩ : TBucket), (⟨3, 2⟩ : TBucket)] ([] : List TBucket) t1193 e1194, trivial⟩ ?_
  refine AWp.seq ?_
  obtain ⟨t1393, e1394, H⟩ := bind_of H
  refine reg hP hn hm [(1, .call [] [] [] [] 0 (.tup [.agg (abound_Key (t1393.1)), iV .i64 t1393.2]) []), (5, .k 2)] [1, 2, 3, 4] [1, 2] ⟨[(1, .ptr 1 0 0), (2, iV .i64 t1193.2), (3, .ptr 2 0 0), (4, iV .i64 t1393.2)], [(1, some (.box 35 (aHist (t1193.1)))), (2, some (.box 45 (abound_Key (t1393.1))))], 0⟩ [Enters Try.prog 27, Pv.Fn Try.prog 27 [.agg (aHist (t1193.1)), iV .u64 1, iV .u64 2] [] 0 (fun r o => r = .tup [.agg (abound_Key (t1393.1)), iV .i64 t1393.2] ∧ o = [])] (by kernel_rfl) ⟨by exact Try.call27, by exact f_rank_Quantile.ok (t1193.1) 1 2 t1393 e1394, trivial⟩ ?_
  refine AWp.seq ?_
  obtain ⟨t1397, e1398, H⟩ := bind_of H
  refine reg hP hn hm [(1, .call [] [] [] [] 0 (.tup [.agg (abound_Key (t1397.1)), iV .i64 t1397.2]) []), (5, .k 3)] [2, 3, 4, 5, 6] [2, 3] ⟨[(2, iV .i64 t1193.2), (3, .ptr 2 0 0), (4, iV .i64 t1393.2), (5, .ptr 3 0 0), (6, iV .i64 t1397.2)], [(2, some (.box 45 (abound_Key (t1393.1)))), (3, some (.box 45 (abound_Key (t1397.1))))], 0⟩ [Enters Try.prog 27, Pv.Fn Try.prog 27 [.agg (aHist (t1193.1)), iV .u64 501, iV .u64 1000] [] 0 (fun r o => r = .tup [.agg (abound_Key (t1397.1)), iV .i64 t1397.2] ∧ o = [])] (by kernel_rfl) ⟨by exact Try.call27, by exact f_rank_Quantile.ok (t1193.1) 501 1000 t1397 e1398, trivial⟩ ?_
  refine AWp.seq ?_
  obtain ⟨o1408, e1409, H⟩ := bind_of H
  refine AWp.mono (Q := fun e s => (match (generalizing := false) o1408 with | x1407 => e = .normal ∧ s = ⟨[(0, bV x1407)], [], 0⟩)) (AWp.cv ?_) ?_
  · replace H := e1409; clear e1409
    rcases Bool.eq_false_or_eq_true (t1193.2 == (0 : Int)) with c1403 | c1403
    · replace H := (ifT c1403).symm.trans H
      rcases Bool.eq_false_or_eq_true (t1393.2 == (0 : Int)) with c1404 | c1404
      · replace H := (ifT c1404).symm.trans H
        rcases Bool.eq_false_or_eq_true (t1397.2 == (0 : Int)) with c1405 | c1405
        · replace H := (ifT c1405).symm.trans H
          rcases Bool.eq_false_or_eq_true ((((t1393.1).f0) == (1 : Int)) && ((((t1393.1).f1) == (0 : Int)) && ((((t1393.1).f2) == (1 : Int)) && true))) with c1406 | c1406
          · replace H := (ifT c1406).symm.trans H
            refine reg hP hn hm [(2, .b true), (6, .b true), (10, .b true), (13, .more (xAgg none)), (15, .b true), (18, .more (xAgg none))] [0] [] ⟨[(0, bV ((((t1397.1).f0) == (1 : Int)) && ((((t1397.1).f1) == (0 : Int)) && ((((t1397.1).f2) == (3 : Int)) && true))))], [], 0⟩ [(t1193.2 == (0 : Int)) = true, (t1393.2 == (0 : Int)) = true, (t1397.2 == (0 : Int)) = true, ((((t1393.1).f0) == (1 : Int)) && ((((t1393.1).f1) == (0 : Int)) && ((((t1393.1).f2) == (1 : Int)) && true))) = true] (by kernel_rfl) ⟨by exact c1403, by exact c1404, by exact c1405, by exact c1406, trivial⟩ ?_
            obtain rfl := Option.some.inj H
            exact Exists.intro _ (And.intro (fun _ _ h => h.conv (inv := []) (vk := []) (e0 := []) (t := ⟨[(0, bV ((((t1397.1).f0) == (1 : Int)) && ((((t1397.1).f1) == (0 : Int)) && ((((t1397.1).f2) == (3 : Int)) && true))))], [], 0⟩) (by kernel_rfl)) (And.intro rfl rfl))
          · replace H := (ifF c1406).symm.trans H
            refine reg hP hn hm [(2, .b true), (6, .b true), (10, .b true), (13, .more (xAgg none)), (15, .b false)] [0] [] ⟨[(0, bV false)], [], 0⟩ [(t1193.2 == (0 : Int)) = true, (t1393.2 == (0 : Int)) = true, (t1397.2 == (0 : Int)) = true, ((((t1393.1).f0) == (1 : Int)) && ((((t1393.1).f1) == (0 : Int)) && ((((t1393.1).f2) == (1 : Int)) && true))) = false] (by kernel_rfl) ⟨by exact c1403, by exact c1404, by exact c1405, by exact c1406, trivial⟩ ?_
            obtain rfl := Option.some.inj H
            exact Exists.intro _ (And.intro (fun _ _ h => h.conv (inv := []) (vk := []) (e0 := []) (t := ⟨[(0, bV false)], [], 0⟩) (by kernel_rfl)) (And.intro rfl rfl))
        · replace H := (ifF c1405).symm.trans H
          refine reg hP hn hm [(2, .b true), (6, .b true), (10, .b false)] [0] [] ⟨[(0, bV false)], [], 0⟩ [(t1193.2 == (0 : Int)) = true, (t1393.2 == (0 : Int)) = true, (t1397.2 == (0 : Int)) = false] (by kernel_rfl) ⟨by exact c1403, by exact c1404, by exact c1405, trivial⟩ ?_
          obtain rfl := Option.some.inj H
          exact Exists.intro _ (And.intro (fun _ _ h => h.conv (inv := []) (vk := []) (e0 := []) (t := ⟨[(0, bV false)], [], 0⟩) (by kernel_rfl)) (And.intro rfl rfl))
      · replace H := (ifF c1404).symm.trans H
        refine reg hP hn hm [(2, .b true), (6, .b false)] [0] [] ⟨[(0, bV false)], [], 0⟩ [(t1193.2 == (0 : Int)) = true, (t1393.2 == (0 : Int)) = false] (by kernel_rfl) ⟨by exact c1403, by exact c1404, trivial⟩ ?_
        obtain rfl := Option.some.inj H
        exact Exists.intro _ (And.intro (fun _ _ h => h.conv (inv := []) (vk := []) (e0 := []) (t := ⟨[(0, bV false)], [], 0⟩) (by kernel_rfl)) (And.intro rfl rfl))
    · replace H := (ifF c1403).symm.trans H
      refine reg hP hn hm [(2, .b false)] [0] [] ⟨[(0, bV false)], [], 0⟩ [(t1193.2 == (0 : Int)) = false] (by kernel_rfl) ⟨by exact c1403, trivial⟩ ?_
      obtain rfl := Option.some.inj H
      exact Exists.intro _ (And.intro (fun _ _ h => h.conv (inv := []) (vk := []) (e0 := []) (t := ⟨[(0, bV false)], [], 0⟩) (by kernel_rfl)) (And.intro rfl rfl))
  · obtain ⟨x1407, rfl⟩ : ∃ z, z = o1408 := ⟨_, rfl⟩
    rintro e s ⟨rfl, rfl⟩
    refine AWp.conv (inv := []) (vk := []) (e0 := []) (t := ⟨[(0, bV x1407)], [], 0⟩) (by kernel_rfl) ?_
    refine AWp.ret ?_
    obtain rfl := Option.some.inj H
    exact Exists.intro _ (And.intro (fun _ _ h => h) (And.intro (.inl rfl) (And.intro rfl (And.intro (by kernel_rfl) (by kernel_rfl)))))
def f_rank_spot.f (a0 : Trank_Place) : Option (Int) := if (decide (a0.f0 > (0 : Int))) = true then (some (IntKind.i64.wrap ((1048576 : Int) + a0.f1))) else (if (decide (a0.f0 < (0 : Int))) = true then (some (IntKind.i64.wrap ((-1048576) - a0.f1))) else (some 0))
theorem f_rank_spot.ok (a0 : Trank_Place) (r : Int) (H : f_rank_spot.f a0 = some r) : Pv.Fn Try.prog 75 [.agg (arank_Place a0)] [] 0 (fun x o => x = iV .i64 r ∧ o = []) := by
  unfold f_rank_spot.f at H
  refine Fn.bodyK [] Try.func75 rfl rfl (fun Γ hP hn => ?_)
  have hm : Try.prog.follows .mixedOrders = true := by kernel_rfl
  replace hn : Γ.n = 17 := hn
  refine AWp.seq ?_
  refine reg hP hn hm [(0, .k 0)] [1] [0] ⟨[(1, .ptr 0 0 0)], [(0, some (.box 72 (arank_Place a0)))], 0⟩ [] (by kernel_rfl) trivial ?_
  refine AWp.seq ?_
  refine AWp.block ?_
  refine AWp.seq ?_
  refine reg hP hn hm [] [1, 3] [0] ⟨[(1, .ptr 0 0 0), (3, bV (decide (a0.f0 > (0 : Int))))], [(0, some (.box 72 (arank_Place a0)))], 0⟩ [] (by kernel_rfl) trivial ?_
  refine AWp.cond (decide (a0.f0 > (0 : Int))) rfl (fun c1972 => ?_) (fun c1972 => ?_)
  · replace H := (ifT c1972).symm.trans H
    refine AWp.seq ?_
    refine reg hP hn hm [] [2] [] ⟨[(2, iV .i64 (IntKind.i64.wrap ((1048576 : Int) + a0.f1)))], [], 0⟩ [] (by kernel_rfl) trivial ?_
    refine AWp.conv (inv := []) (vk := []) (e0 := []) (t := ⟨[(2, iV .i64 (IntKind.i64.wrap ((1048576 : Int) + a0.f1)))], [], 0⟩) (by kernel_rfl) ?_
    refine AWp.ret ?_
    obtain rfl := Option.some.inj H
    exact Exists.intro _ (And.intro (fun _ _ h => h) (And.intro (.inl rfl) (And.intro rfl (And.intro (by kernel_rfl) (by kernel_rfl)))))
  · replace H := (ifF c1972).symm.trans H
    refine AWp.seq ?_
    refine reg hP hn hm [] [1, 10] [0] ⟨[(1, .ptr 0 0 0), (10, bV (decide (a0.f0 < (0 : Int))))], [(0, some (.box 72 (arank_Place a0)))], 0⟩ [] (by kernel_rfl) trivial ?_
    refine AWp.cond (decide (a0.f0 < (0 : Int))) rfl (fun c1973 => ?_) (fun c1973 => ?_)
    · replace H := (ifT c1973).symm.trans H
      refine AWp.seq ?_
      refine reg hP hn hm [] [2] [] ⟨[(2, iV .i64 (IntKind.i64.wrap ((-1048576) - a0.f1)))], [], 0⟩ [] (by kernel_rfl) trivial ?_
      refine AWp.conv (inv := []) (vk := []) (e0 := []) (t := ⟨[(2, iV .i64 (IntKind.i64.wrap ((-1048576) - a0.f1)))], [], 0⟩) (by kernel_rfl) ?_
      refine AWp.ret ?_
      obtain rfl := Option.some.inj H
      exact Exists.intro _ (And.intro (fun _ _ h => h) (And.intro (.inl rfl) (And.intro rfl (And.intro (by kernel_rfl) (by kernel_rfl)))))
    · replace H := (ifF c1973).symm.trans H
      refine AWp.skip ?_
      refine AWp.seq ?_
      refine reg hP hn hm [] [2] [] ⟨[(2, iV .i64 0)], [], 0⟩ [] (by kernel_rfl) trivial ?_
      refine AWp.conv (inv := []) (vk := []) (e0 := []) (t := ⟨[(2, iV .i64 0)], [], 0⟩) (by kernel_rfl) ?_
      refine AWp.ret ?_
      obtain rfl := Option.some.inj H
      exact Exists.intro _ (And.intro (fun _ _ h => h) (And.intro (.inl rfl) (And.intro rfl (And.intro (by kernel_rfl) (by kernel_rfl)))))
def f_rank_ends.f (a0 : THist) (a1 : Trank_Cell) : Option (Int × Int) := if (decide (a1.f0.f0 > (0 : Int))) = true then ((f_bound_Low.f a0.f1 a1.f0.f2) >>= fun t1994 => (f_bound_Units.f a0.f1 a1.f0.f2) >>= fun t1996 => some (IntKind.i64.wrap ((1048576 : Int) + t1994), IntKind.i64.wrap ((1048576 : Int) + t1996))) else (if (decide (a1.f0.f0 < (0 : Int))) = true then ((f_bound_Units.f a0.f1 a1.f0.f2) >>= fun t2003 => (f_bound_Low.f a0.f1 a1.f0.f2) >>= fun t2005 => some (IntKind.i64.wrap ((-1048576) - t2003), IntKind.i64.wrap ((-1048576) - t2005))) else (if (a0.f2 == (-524288)) = true then (some (0, 0)) else (some (IntKind.i64.wrap ((-1048576) - a0.f2), IntKind.i64.wrap ((1048576 : Int) + a0.f2)))))
theorem f_rank_ends.ok (a0 : THist) (a1 : Trank_Cell) (r : Int × Int) (H : f_rank_ends.f a0 a1 = some r) : Pv.Fn Try.prog 76 [.agg (aHist a0), .agg (apluvialref08_Cell ⟨a1.f0.f0, a1.f0.f1, a1.f0.f2, a1.f1⟩)] [] 0 (fun x o => x = .tup [iV .i64 r.1, iV .i64 r.2] ∧ o = []) := by
  unfold f_rank_ends.f at H
  refine Fn.bodyK [] Try.func76 rfl rfl (fun Γ hP hn => ?_)
  have hm : Try.prog.follows .mixedOrders = true := by kernel_rfl
  replace hn : Γ.n = 54 := hn
  refine AWp.seq ?_
  refine reg hP hn hm [(0, .k 0), (1, .k 1)] [2, 3] [0, 1] ⟨[(2, .ptr 0 0 0), (3, .ptr 1 0 0)], [(0, some (.box 35 (aHist a0))), (1, some (.box 47 [iV .i64 a1.f0.f0, iV .i64 a1.f0.f1, iV .i64 a1.f0.f2, iV .u64 a1.f1]))], 0⟩ [] (by kernel_rfl) trivial ?_
  refine AWp.seq ?_
  refine AWp.block ?_
  refine AWp.seq ?_
  refine reg hP hn hm [] [2, 3, 6] [0, 1] ⟨[(2, .ptr 0 0 0), (3, .ptr 1 0 0), (6, bV (decide (a1.f0.f0 > (0 : Int))))], [(0, some (.box 35 (aHist a0))), (1, some (.box 47 [iV .i64 a1.f0.f0, iV .i64 a1.f0.f1, iV .i64 a1.f0.f2, iV .u64 a1.f1]))], 0⟩ [] (by kernel_rfl) trivial ?_
  refine AWp.cond (decide (a1.f0.f0 > (0 : Int))) rfl (fun c1989 => ?_) (fun c1989 => ?_)
  · replace H := (ifT c1989).symm.trans H
    refine AWp.seq ?_
    obtain ⟨t1994, e1995, H⟩ := bind_of H
    obtain ⟨t1996, e1997, H⟩ := bind_of H
    refine reg hP hn hm [(5, .call [] [] [] [] 0 (iV .i64 t1994) []), (12, .call [] [] [] [] 0 (iV .i64 t1996) [])] [4, 5] [] ⟨[(4, iV .i64 (IntKind.i64.wrap ((1048576 : Int) + t1994))), (5, iV .i64 (IntKind.i64.wrap ((1048576 : Int) + t1996)))], [], 0⟩ [Enters Try.prog 84, Pv.Fn Try.prog 84 [iV .i64 a0.f1, iV .i64 a1.f0.f2] [] 0 (fun r o => r = iV .i64 t1994 ∧ o = []), Enters Try.prog 43, Pv.Fn Try.prog 43 [iV .i64 a0.f1, iV .i64 a1.f0.f2] [] 0 (fun r o => r = iV .i64 t1996 ∧ o = [])] (by kernel_rfl) ⟨by exact Try.call84, by exact f_bound_Low.ok a0.f1 a1.f0.f2 t1994 e1995, by exact Try.call43, by exact f_bound_Units.ok a0.f1 a1.f0.f2 t1996 e1997, trivial⟩ ?_
    refine AWp.conv (inv := []) (vk := []) (e0 := []) (t := ⟨[(4, iV .i64 (IntKind.i64.wrap ((1048576 : Int) + t1994))), (5, iV .i64 (IntKind.i64.wrap ((1048576 : Int) + t1996)))], [], 0⟩) (by kernel_rfl) ?_
    refine AWp.ret ?_
    obtain rfl := Option.some.inj H
    exact Exists.intro _ (And.intro (fun _ _ h => h) (And.intro (.inl rfl) (And.intro rfl (And.intro (by kernel_rfl) (by kernel_rfl)))))
  · replace H := (ifF c1989).symm.trans H
    refine AWp.seq ?_
    refine reg hP hn hm [] [2, 3, 25] [0, 1] ⟨[(2, .ptr 0 0 0), (3, .ptr 1 0 0), (25, bV (decide (a1.f0.f0 < (0 : Int))))], [(0, some (.box 35 (aHist a0))), (1, some (.box 47 [iV .i64 a1.f0.f0, iV .i64 a1.f0.f1, iV .i64 a1.f0.f2, iV .u64 a1.f1]))], 0⟩ [] (by kernel_rfl) trivial ?_
    refine AWp.cond (decide (a1.f0.f0 < (0 : Int))) rfl (fun c1998 => ?_) (fun c1998 => ?_)
    · replace H := (ifT c1998).symm.trans H
      refine AWp.seq ?_
      obtain ⟨t2003, e2004, H⟩ := bind_of H
      obtain ⟨t2005, e2006, H⟩ := bind_of H
      refine reg hP hn hm [(5, .call [] [] [] [] 0 (iV .i64 t2003) []), (12, .call [] [] [] [] 0 (iV .i64 t2005) [])] [4, 5] [] ⟨[(4, iV .i64 (IntKind.i64.wrap ((-1048576) - t2003))), (5, iV .i64 (IntKind.i64.wrap ((-1048576) - t2005)))], [], 0⟩ [Enters Try.prog 43, Pv.Fn Try.prog 43 [iV .i64 a0.f1, iV .i64 a1.f0.f2] [] 0 (fun r o => r = iV .i64 t2003 ∧ o = []), Enters Try.prog 84, Pv.Fn Try.prog 84 [iV .i64 a0.f1, iV .i64 a1.f0.f2] [] 0 (fun r o => r = iV .i64 t2005 ∧ o = [])] (by kernel_rfl) ⟨by exact Try.call43, by exact f_bound_Units.ok a0.f1 a1.f0.f2 t2003 e2004, by exact Try.call84, by exact f_bound_Low.ok a0.f1 a1.f0.f2 t2005 e2006, trivial⟩ ?_
      refine AWp.conv (inv := []) (vk := []) (e0 := []) (t := ⟨[(4, iV .i64 (IntKind.i64.wrap ((-1048576) - t2003))), (5, iV .i64 (IntKind.i64.wrap ((-1048576) - t2005)))], [], 0⟩) (by kernel_rfl) ?_
      refine AWp.ret ?_
      obtain rfl := Option.some.inj H
      exact Exists.intro _ (And.intro (fun _ _ h => h) (And.intro (.inl rfl) (And.intro rfl (And.intro (by kernel_rfl) (by kernel_rfl)))))
    · replace H := (ifF c1998).symm.trans H
      refine AWp.seq ?_
      refine reg hP hn hm [] [2, 44] [0] ⟨[(2, .ptr 0 0 0), (44, bV (a0.f2 == (-524288)))], [(0, some (.box 35 (aHist a0)))], 0⟩ [] (by kernel_rfl) trivial ?_
      refine AWp.cond (a0.f2 == (-524288)) rfl (fun c2007 => ?_) (fun c2007 => ?_)
      · replace H := (ifT c2007).symm.trans H
        refine AWp.seq ?_
        refine reg hP hn hm [] [4, 5] [] ⟨[(4, iV .i64 0), (5, iV .i64 0)], [], 0⟩ [] (by kernel_rfl) trivial ?_
        refine AWp.conv (inv := []) (vk := []) (e0 := []) (t := ⟨[(4, iV .i64 0), (5, iV .i64 0)], [], 0⟩) (by kernel_rfl) ?_
        refine AWp.ret ?_
        obtain rfl := Option.some.inj H
        exact Exists.intro _ (And.intro (fun _ _ h => h) (And.intro (.inl rfl) (And.intro rfl (And.intro (by kernel_rfl) (by kernel_rfl)))))
      · replace H := (ifF c2007).symm.trans H
        refine AWp.skip ?_
        refine AWp.seq ?_
        refine reg hP hn hm [] [4, 5] [] ⟨[(4, iV .i64 (IntKind.i64.wrap ((-1048576) - a0.f2))), (5, iV .i64 (IntKind.i64.wrap ((1048576 : Int) + a0.f2)))], [], 0⟩ [] (by kernel_rfl) trivial ?_
        refine AWp.conv (inv := []) (vk := []) (e0 := []) (t := ⟨[(4, iV .i64 (IntKind.i64.wrap ((-1048576) - a0.f2))), (5, iV .i64 (IntKind.i64.wrap ((1048576 : Int) + a0.f2)))], [], 0⟩) (by kernel_rfl) ?_
        refine AWp.ret ?_
        obtain rfl := Option.some.inj H
        exact Exists.intro _ (And.intro (fun _ _ h => h) (And.intro (.inl rfl) (And.intro rfl (And.intro (by kernel_rfl) (by kernel_rfl)))))
end Go.Proofs.Yteogljahemehkaa.PvGC
set_option linter.unusedVariables false
set_option linter.unnecessarySimpa false
set_option linter.unusedSimpArgs false
set_option maxRecDepth 10000
namespace Go.Proofs.Yteogljahemehkaa.PvGC
open Go Go.Pv
def f_rank_Below.l0 (a0 : THist) (t1976 : Int) (t1980 : List Trank_Cell) (x2017 : Int) (x2018 : Int) (x2019 : Int) : Option (Int × Int) := if (decide (x2019 < (t1980.length : Int))) = true then ((at? t1980 x2019) >>= fun b2024 => (f_rank_ends.f a0 b2024) >>= fun t2029 => ((if (decide (t2029.2 ≤ t1976)) = true then (some (IntKind.u64.wrap (x2017 + b2024.f1), x2018)) else (((if (decide (t2029.1 < t1976)) = true then (some (IntKind.u64.wrap (x2018 + b2024.f1))) else (some x2018)) : Option (Int)) >>= fun x2033 => some (x2017, x2033))) : Option (Int × Int)) >>= fun oo => match oo with | (x2034, x2035) => (f_rank_Below.l0 a0 t1976 t1980 x2034 x2035 (IntKind.i64.wrap (x2019 + (1 : Int))))) else (some (x2017, x2018))
partial_fixpoint
def f_rank_Below.f (a0 : THist) (a1 : Trank_Place) : Option (Trank_Part × Int) := ((if (decide (a1.f0 < (-1))) = true then (some true) else (if (decide (a1.f0 > (1 : Int))) = true then (some true) else (if (a1.f0 != (0 : Int)) = true then (if (decide (a1.f1 ≤ (-262144))) = true then (some true) else (if (decide (a1.f1 > (262144 : Int))) = true then (some true) else (if (a1.f0 == (0 : Int)) = true then (some (a1.f1 != (0 : Int))) else (some false)))) else (if (a1.f0 == (0 : Int)) = true then (some (a1.f1 != (0 : Int))) else (some false))))) : Option (Bool)) >>= fun x1969 => if x1969 = true then (some ((⟨0, 0, 0⟩ : Trank_Part), 1)) else (if (a0.f4 == (0 : Int)) = true then (some ((⟨0, 0, 0⟩ : Trank_Part), 30)) else ((f_rank_spot.f a1) >>= fun t1976 => (f_rank_Order.f a0) >>= fun t1980 => (f_rank_Below.l0 a0 t1976 t1980 0 0 0) >>= fun oo => match oo with | (x2036, x2037) => (some ((⟨x2036, x2037, a0.f4⟩ : Trank_Part), 0))))
theorem f_rank_Below.ok (a0 : THist) (a1 : Trank_Place) (r : Trank_Part × Int) (H : f_rank_Below.f a0 a1 = some r) : Pv.Fn Try.prog 34 [.agg (aHist a0), .agg (arank_Place a1)] [] 0 (fun x o => x = .tup [.agg (arank_Part (r.1)), iV .i64 r.2] ∧ o = []) := by
  unfold f_rank_Below.f at H
  refine Fn.bodyK [] Try.func34 rfl rfl (fun Γ hP hn => ?_)
  have hm : Try.prog.follows .mixedOrders = true := by kernel_rfl
  replace hn : Γ.n = 90 := hn
  refine AWp.seq ?_
  refine reg hP hn hm [(0, .k 0), (1, .k 1), (2, .k 2)] [2, 3, 4] [0, 1, 2] ⟨[(2, .ptr 0 0 0), (3, .ptr 1 0 0), (4, .ptr 2 0 0)], [(0, some (.box 35 (aHist a0))), (1, some (.box 72 (arank_Place a1))), (2, some (.box 74 (arank_Part ⟨0, 0, 0⟩)))], 0⟩ [] (by kernel_rfl) trivial ?_
  refine AWp.seq ?_
  refine AWp.seq ?_
  obtain ⟨o2038, e2039, H⟩ := bind_of H
  refine AWp.mono (Q := fun e s => (match (generalizing := false) o2038 with | x1969 => e = .normal ∧ s = ⟨[(2, .ptr 3 0 0), (3, .ptr 4 0 0), (4, .ptr 5 0 0), (44, bV x1969)], [(3, some (.box 35 (aHist a0))), (4, some (.box 72 (arank_Place a1))), (5, some (.box 74 (arank_Part ⟨0, 0, 0⟩)))], 0⟩)) (AWp.cv ?_) ?_
  · replace H := e2039; clear e2039
    rcases Bool.eq_false_or_eq_true (decide (a1.f0 < (-1))) with c1962 | c1962
    · replace H := (ifT c1962).symm.trans H
      refine reg hP hn hm [(3, .b true)] [2, 3, 4, 44] [0, 1, 2] ⟨[(2, .ptr 0 0 0), (3, .ptr 1 0 0), (4, .ptr 2 0 0), (44, bV true)], [(0, some (.box 35 (aHist a0))), (1, some (.box 72 (arank_Place a1))), (2, some (.box 74 (arank_Part ⟨0, 0, 0⟩)))], 0⟩ [(decide (a1.f0 < (-1))) = true] (by kernel_rfl) ⟨by exact c1962, trivial⟩ ?_
      obtain rfl := Option.some.inj H
      exact Exists.intro _ (And.intro (fun _ _ h => h.conv (inv := [(0, 3), (1, 4), (2, 5)]) (vk := []) (e0 := []) (t := ⟨[(2, .ptr 3 0 0), (3, .ptr 4 0 0), (4, .ptr 5 0 0), (44, bV true)], [(3, some (.box 35 (aHist a0))), (4, some (.box 72 (arank_Place a1))), (5, some (.box 74 (arank_Part ⟨0, 0, 0⟩)))], 0⟩) (by kernel_rfl)) (And.intro rfl rfl))
    · replace H := (ifF c1962).symm.trans H
      rcases Bool.eq_false_or_eq_true (decide (a1.f0 > (1 : Int))) with c1963 | c1963
      · replace H := (ifT c1963).symm.trans H
        refine reg hP hn hm [(3, .b false), (8, .b true)] [2, 3, 4, 44] [0, 1, 2] ⟨[(2, .ptr 0 0 0), (3, .ptr 1 0 0), (4, .ptr 2 0 0), (44, bV true)], [(0, some (.box 35 (aHist a0))), (1, some (.box 72 (arank_Place a1))), (2, some (.box 74 (arank_Part ⟨0, 0, 0⟩)))], 0⟩ [(decide (a1.f0 < (-1))) = false, (decide (a1.f0 > (1 : Int))) = true] (by kernel_rfl) ⟨by exact c1962, by exact c1963, trivial⟩ ?_
        obtain rfl := Option.some.inj H
        exact Exists.intro _ (And.intro (fun _ _ h => h.conv (inv := [(0, 3), (1, 4), (2, 5)]) (vk := []) (e0 := []) (t := ⟨[(2, .ptr 3 0 0), (3, .ptr 4 0 0), (4, .ptr 5 0 0), (44, bV true)], [(3, some (.box 35 (aHist a0))), (4, some (.box 72 (arank_Place a1))), (5, some (.box 74 (arank_Part ⟨0, 0, 0⟩)))], 0⟩) (by kernel_rfl)) (And.intro rfl rfl))
      · replace H := (ifF c1963).symm.trans H
        rcases Bool.eq_false_or_eq_true (a1.f0 != (0 : Int)) with c1964 | c1964
        · replace H := (ifT c1964).symm.trans H
          rcases Bool.eq_false_or_eq_true (decide (a1.f1 ≤ (-262144))) with c1965 | c1965
          · replace H := (ifT c1965).symm.trans H
            refine reg hP hn hm [(3, .b false), (8, .b false), (12, .b true), (16, .b true)] [2, 3, 4, 44] [0, 1, 2] ⟨[(2, .ptr 0 0 0), (3, .ptr 1 0 0), (4, .ptr 2 0 0), (44, bV true)], [(0, some (.box 35 (aHist a0))), (1, some (.box 72 (arank_Place a1))), (2, some (.box 74 (arank_Part ⟨0, 0, 0⟩)))], 0⟩ [(decide (a1.f0 < (-1))) = false, (decide (a1.f0 > (1 : Int))) = false, (a1.f0 != (0 : Int)) = true, (decide (a1.f1 ≤ (-262144))) = true] (by kernel_rfl) ⟨by exact c1962, by exact c1963, by exact c1964, by exact c1965, trivial⟩ ?_
            obtain rfl := Option.some.inj H
            exact Exists.intro _ (And.intro (fun _ _ h => h.conv (inv := [(0, 3), (1, 4), (2, 5)]) (vk := []) (e0 := []) (t := ⟨[(2, .ptr 3 0 0), (3, .ptr 4 0 0), (4, .ptr 5 0 0), (44, bV true)], [(3, some (.box 35 (aHist a0))), (4, some (.box 72 (arank_Place a1))), (5, some (.box 74 (arank_Part ⟨0, 0, 0⟩)))], 0⟩) (by kernel_rfl)) (And.intro rfl rfl))
          · replace H := (ifF c1965).symm.trans H
            rcases Bool.eq_false_or_eq_true (decide (a1.f1 > (262144 : Int))) with c1966 | c1966
            · replace H := (ifT c1966).symm.trans H
              refine reg hP hn hm [(3, .b false), (8, .b false), (12, .b true), (16, .b false), (23, .b true)] [2, 3, 4, 44] [0, 1, 2] ⟨[(2, .ptr 0 0 0), (3, .ptr 1 0 0), (4, .ptr 2 0 0), (44, bV true)], [(0, some (.box 35 (aHist a0))), (1, some (.box 72 (arank_Place a1))), (2, some (.box 74 (arank_Part ⟨0, 0, 0⟩)))], 0⟩ [(decide (a1.f0 < (-1))) = false, (decide (a1.f0 > (1 : Int))) = false, (a1.f0 != (0 : Int)) = true, (decide (a1.f1 ≤ (-262144))) = false, (decide (a1.f1 > (262144 : Int))) = true] (by kernel_rfl) ⟨by exact c1962, by exact c1963, by exact c1964, by exact c1965, by exact c1966, trivial⟩ ?_
              obtain rfl := Option.some.inj H
              exact Exists.intro _ (And.intro (fun _ _ h => h.conv (inv := [(0, 3), (1, 4), (2, 5)]) (vk := []) (e0 := []) (t := ⟨[(2, .ptr 3 0 0), (3, .ptr 4 0 0), (4, .ptr 5 0 0), (44, bV true)], [(3, some (.box 35 (aHist a0))), (4, some (.box 72 (arank_Place a1))), (5, some (.box 74 (arank_Part ⟨0, 0, 0⟩)))], 0⟩) (by kernel_rfl)) (And.intro rfl rfl))
            · replace H := (ifF c1966).symm.trans H
              rcases Bool.eq_false_or_eq_true (a1.f0 == (0 : Int)) with c1967 | c1967
              · replace H := (ifT c1967).symm.trans H
                refine reg hP hn hm [(3, .b false), (8, .b false), (12, .b true), (16, .b false), (23, .b false), (27, .b true)] [2, 3, 4, 44] [0, 1, 2] ⟨[(2, .ptr 0 0 0), (3, .ptr 1 0 0), (4, .ptr 2 0 0), (44, bV (a1.f1 != (0 : Int)))], [(0, some (.box 35 (aHist a0))), (1, some (.box 72 (arank_Place a1))), (2, some (.box 74 (arank_Part ⟨0, 0, 0⟩)))], 0⟩ [(decide (a1.f0 < (-1))) = false, (decide (a1.f0 > (1 : Int))) = false, (a1.f0 != (0 : Int)) = true, (decide (a1.f1 ≤ (-262144))) = false, (decide (a1.f1 > (262144 : Int))) = false, (a1.f0 == (0 : Int)) = true] (by kernel_rfl) ⟨by exact c1962, by exact c1963, by exact c1964, by exact c1965, by exact c1966, by exact c1967, trivial⟩ ?_
                obtain rfl := Option.some.inj H
                exact Exists.intro _ (And.intro (fun _ _ h => h.conv (inv := [(0, 3), (1, 4), (2, 5)]) (vk := []) (e0 := []) (t := ⟨[(2, .ptr 3 0 0), (3, .ptr 4 0 0), (4, .ptr 5 0 0), (44, bV (a1.f1 != (0 : Int)))], [(3, some (.box 35 (aHist a0))), (4, some (.box 72 (arank_Place a1))), (5, some (.box 74 (arank_Part ⟨0, 0, 0⟩)))], 0⟩) (by kernel_rfl)) (And.intro rfl rfl))
              · replace H := (ifF c1967).symm.trans H
                refine reg hP hn hm [(3, .b false), (8, .b false), (12, .b true), (16, .b false), (23, .b false), (27, .b false)] [2, 3, 4, 44] [0, 1, 2] ⟨[(2, .ptr 0 0 0), (3, .ptr 1 0 0), (4, .ptr 2 0 0), (44, bV false)], [(0, some (.box 35 (aHist a0))), (1, some (.box 72 (arank_Place a1))), (2, some (.box 74 (arank_Part ⟨0, 0, 0⟩)))], 0⟩ [(decide (a1.f0 < (-1))) = false, (decide (a1.f0 > (1 : Int))) = false, (a1.f0 != (0 : Int)) = true, (decide (a1.f1 ≤ (-262144))) = false, (decide (a1.f1 > (262144 : Int))) = false, (a1.f0 == (0 : Int)) = false] (by kernel_rfl) ⟨by exact c1962, by exact c1963, by exact c1964, by exact c1965, by exact c1966, by exact c1967, trivial⟩ ?_
                obtain rfl := Option.some.inj H
                exact Exists.intro _ (And.intro (fun _ _ h => h.conv (inv := [(0, 3), (1, 4), (2, 5)]) (vk := []) (e0 := []) (t := ⟨[(2, .ptr 3 0 0), (3, .ptr 4 0 0), (4, .ptr 5 0 0), (44, bV false)], [(3, some (.box 35 (aHist a0))), (4, some (.box 72 (arank_Place a1))), (5, some (.box 74 (arank_Part ⟨0, 0, 0⟩)))], 0⟩) (by kernel_rfl)) (And.intro rfl rfl))
        · replace H := (ifF c1964).symm.trans H
          rcases Bool.eq_false_or_eq_true (a1.f0 == (0 : Int)) with c1968 | c1968
          · replace H := (ifT c1968).symm.trans H
            refine reg hP hn hm [(3, .b false), (8, .b false), (12, .b false), (27, .b true)] [2, 3, 4, 44] [0, 1, 2] ⟨[(2, .ptr 0 0 0), (3, .ptr 1 0 0), (4, .ptr 2 0 0), (44, bV (a1.f1 != (0 : Int)))], [(0, some (.box 35 (aHist a0))), (1, some (.box 72 (arank_Place a1))), (2, some (.box 74 (arank_Part ⟨0, 0, 0⟩)))], 0⟩ [(decide (a1.f0 < (-1))) = false, (decide (a1.f0 > (1 : Int))) = false, (a1.f0 != (0 : Int)) = false, (a1.f0 == (0 : Int)) = true] (by kernel_rfl) ⟨by exact c1962, by exact c1963, by exact c1964, by exact c1968, trivial⟩ ?_
            obtain rfl := Option.some.inj H
            exact Exists.intro _ (And.intro (fun _ _ h => h.conv (inv := [(0, 3), (1, 4), (2, 5)]) (vk := []) (e0 := []) (t := ⟨[(2, .ptr 3 0 0), (3, .ptr 4 0 0), (4, .ptr 5 0 0), (44, bV (a1.f1 != (0 : Int)))], [(3, some (.box 35 (aHist a0))), (4, some (.box 72 (arank_Place a1))), (5, some (.box 74 (arank_Part ⟨0, 0, 0⟩)))], 0⟩) (by kernel_rfl)) (And.intro rfl rfl))
          · replace H := (ifF c1968).symm.trans H
            refine reg hP hn hm [(3, .b false), (8, .b false), (12, .b false), (27, .b false)] [2, 3, 4, 44] [0, 1, 2] ⟨[(2, .ptr 0 0 0), (3, .ptr 1 0 0), (4, .ptr 2 0 0), (44, bV false)], [(0, some (.box 35 (aHist a0))), (1, some (.box 72 (arank_Place a1))), (2, some (.box 74 (arank_Part ⟨0, 0, 0⟩)))], 0⟩ [(decide (a1.f0 < (-1))) = false, (decide (a1.f0 > (1 : Int))) = false, (a1.f0 != (0 : Int)) = false, (a1.f0 == (0 : Int)) = false] (by kernel_rfl) ⟨by exact c1962, by exact c1963, by exact c1964, by exact c1968, trivial⟩ ?_
            obtain rfl := Option.some.inj H
            exact Exists.intro _ (And.intro (fun _ _ h => h.conv (inv := [(0, 3), (1, 4), (2, 5)]) (vk := []) (e0 := []) (t := ⟨[(2, .ptr 3 0 0), (3, .ptr 4 0 0), (4, .ptr 5 0 0), (44, bV false)], [(3, some (.box 35 (aHist a0))), (4, some (.box 72 (arank_Place a1))), (5, some (.box 74 (arank_Part ⟨0, 0, 0⟩)))], 0⟩) (by kernel_rfl)) (And.intro rfl rfl))
  · obtain ⟨x1969, rfl⟩ : ∃ z, z = o2038 := ⟨_, rfl⟩
    rintro e s ⟨rfl, rfl⟩
    refine AWp.cond x1969 rfl (fun c1970 => ?_) (fun c1970 => ?_)
    · replace H := (ifT c1970).symm.trans H
      refine AWp.seq ?_
      refine reg hP hn hm [] [4, 5] [5] ⟨[(4, .ptr 5 0 0), (5, iV .i64 1)], [(5, some (.box 74 (arank_Part ⟨0, 0, 0⟩)))], 0⟩ [] (by kernel_rfl) trivial ?_
      refine AWp.conv (inv := [(5, 0)]) (vk := []) (e0 := []) (t := ⟨[(4, .ptr 0 0 0), (5, iV .i64 1)], [(0, some (.box 74 (arank_Part ((⟨0, 0, 0⟩ : Trank_Part)))))], 0⟩) (by kernel_rfl) ?_
      refine AWp.ret ?_
      obtain rfl := Option.some.inj H
      exact Exists.intro _ (And.intro (fun _ _ h => h) (And.intro (.inl rfl) (And.intro rfl (And.intro (by kernel_rfl) (by kernel_rfl)))))
    · replace H := (ifF c1970).symm.trans H
      refine AWp.skip ?_
      refine AWp.seq ?_
      refine AWp.seq ?_
      refine reg hP hn hm [] [2, 3, 4, 48] [3, 4, 5] ⟨[(2, .ptr 3 0 0), (3, .ptr 4 0 0), (4, .ptr 5 0 0), (48, bV (a0.f4 == (0 : Int)))], [(3, some (.box 35 (aHist a0))), (4, some (.box 72 (arank_Place a1))), (5, some (.box 74 (arank_Part ⟨0, 0, 0⟩)))], 0⟩ [] (by kernel_rfl) trivial ?_
      refine AWp.cond (a0.f4 == (0 : Int)) rfl (fun c1971 => ?_) (fun c1971 => ?_)
      · replace H := (ifT c1971).symm.trans H
        refine AWp.seq ?_
        refine reg hP hn hm [] [4, 5] [5] ⟨[(4, .ptr 5 0 0), (5, iV .i64 30)], [(5, some (.box 74 (arank_Part ⟨0, 0, 0⟩)))], 0⟩ [] (by kernel_rfl) trivial ?_
        refine AWp.conv (inv := [(5, 0)]) (vk := []) (e0 := []) (t := ⟨[(4, .ptr 0 0 0), (5, iV .i64 30)], [(0, some (.box 74 (arank_Part ((⟨0, 0, 0⟩ : Trank_Part)))))], 0⟩) (by kernel_rfl) ?_
        refine AWp.ret ?_
        obtain rfl := Option.some.inj H
        exact Exists.intro _ (And.intro (fun _ _ h => h) (And.intro (.inl rfl) (And.intro rfl (And.intro (by kernel_rfl) (by kernel_rfl)))))
      · replace H := (ifF c1971).symm.trans H
        refine AWp.skip ?_
        refine AWp.seq ?_
        refine reg hP hn hm [(3, .k 6)] [2, 3, 4, 6] [3, 4, 5, 6] ⟨[(2, .ptr 3 0 0), (3, .ptr 4 0 0), (4, .ptr 5 0 0), (6, .ptr 6 0 0)], [(3, some (.box 35 (aHist a0))), (4, some (.box 72 (arank_Place a1))), (5, some (.box 74 (arank_Part ⟨0, 0, 0⟩))), (6, some (.box 74 (arank_Part ⟨0, 0, a0.f4⟩)))], 0⟩ [] (by kernel_rfl) trivial ?_
        refine AWp.seq ?_
        obtain ⟨t1976, e1977, H⟩ := bind_of H
        refine reg hP hn hm [(1, .call [] [] [] [] 0 (iV .i64 t1976) [])] [2, 4, 6, 7] [3, 5, 6] ⟨[(2, .ptr 3 0 0), (4, .ptr 5 0 0), (6, .ptr 6 0 0), (7, iV .i64 t1976)], [(3, some (.box 35 (aHist a0))), (5, some (.box 74 (arank_Part ⟨0, 0, 0⟩))), (6, some (.box 74 (arank_Part ⟨0, 0, a0.f4⟩)))], 0⟩ [Enters Try.prog 75, Pv.Fn Try.prog 75 [.agg (arank_Place a1)] [] 0 (fun r o => r = iV .i64 t1976 ∧ o = [])] (by kernel_rfl) ⟨by exact Try.call75, by exact f_rank_spot.ok a1 t1976 e1977, trivial⟩ ?_
        refine AWp.seq ?_
        refine AWp.seq ?_
        obtain ⟨t1980, e1981, H⟩ := bind_of H
        refine reg hP hn hm [(1, .call [] [(0, 7)] [] [7] 0 (.own 0) [(0, some (.row 4 47 (t1980.map erank_Cell)))]), (2, .any (iV .i64 (t1980.length : Int)))] [2, 4, 6, 7, 56, 57, 58] [3, 5, 6, 7] ⟨[(2, .ptr 3 0 0), (4, .ptr 5 0 0), (6, .ptr 6 0 0), (7, iV .i64 t1976), (56, .own 7), (57, iV .i64 (t1980.length : Int)), (58, iV .i64 0)], [(3, some (.box 35 (aHist a0))), (5, some (.box 74 (arank_Part ⟨0, 0, 0⟩))), (6, some (.box 74 (arank_Part ⟨0, 0, a0.f4⟩))), (7, some (.row 4 47 (t1980.map erank_Cell)))], 0⟩ [Enters Try.prog 21, Pv.Fn Try.prog 21 [.agg (aHist a0)] [] 0 (fun r o => r = .own 0 ∧ o = [(0, some (.row 4 47 (t1980.map erank_Cell)))]), ((t1980.map erank_Cell).length : Int) = (t1980.length : Int)] (by kernel_rfl) ⟨by exact Try.call21, by exact f_rank_Order.ok a0 t1980 e1981, by rw [len_map], trivial⟩ ?_
        refine AWp.block ?_
        obtain ⟨o2040, e2041, H⟩ := bind_of H
        refine AWp.loop (LWp.conv (inv := [(3, 17), (5, 18), (6, 19), (7, 20)]) (vk := []) (e0 := []) (t := ⟨[(2, .ptr 17 0 0), (4, .ptr 18 0 0), (6, .ptr 19 0 0), (7, iV .i64 t1976), (56, .own 20), (57, iV .i64 (t1980.length : Int)), (58, iV .i64 0)], [(17, some (.box 35 (aHist a0))), (18, some (.box 74 (arank_Part ⟨0, 0, 0⟩))), (19, some (.box 74 (arank_Part ⟨0, 0, a0.f4⟩))), (20, some (.row 4 47 (t1980.map erank_Cell)))], 0⟩) (by kernel_rfl) ?_)
        refine LWp.mono (Q := fun e s => (match (generalizing := false) o2040 with | (x2036, x2037) => e = .exit 0 ∧ s = ⟨[(4, .ptr 30 0 0), (6, .ptr 31 0 0)], [(30, some (.box 74 (arank_Part ⟨0, 0, 0⟩))), (31, some (.box 74 (arank_Part ⟨x2036, x2037, a0.f4⟩)))], 0⟩)) (LWp.cv (withBody (fun body hbody => ?_))) ?_
        · refine f_rank_Below.l0.partial_correctness a0 t1976 t1980 (motive := fun x2017 x2018 x2019 o2040 => LWp Γ body (fun e s => ∃ t, Cv Γ s t ∧ (match (generalizing := false) o2040 with | (x2036, x2037) => e = .exit 0 ∧ t = ⟨[(4, .ptr 30 0 0), (6, .ptr 31 0 0)], [(30, some (.box 74 (arank_Part ⟨0, 0, 0⟩))), (31, some (.box 74 (arank_Part ⟨x2036, x2037, a0.f4⟩)))], 0⟩)) ⟨[(2, .ptr 17 0 0), (4, .ptr 18 0 0), (6, .ptr 19 0 0), (7, iV .i64 t1976), (56, .own 20), (57, iV .i64 (t1980.length : Int)), (58, iV .i64 x2019)], [(17, some (.box 35 (aHist a0))), (18, some (.box 74 (arank_Part ⟨0, 0, 0⟩))), (19, some (.box 74 (arank_Part ⟨x2017, x2018, a0.f4⟩))), (20, some (.row 4 47 (t1980.map erank_Cell)))], 0⟩) ?_ _ _ _ _ e2041
          clear H e2041 o2040; intro self ih x2017 x2018 x2019 o2040 H
          subst hbody
          refine LWp.round ?_
          refine AWp.seq ?_
          refine reg hP hn hm [] [2, 4, 6, 7, 56, 57, 58, 59] [17, 18, 19, 20] ⟨[(2, .ptr 17 0 0), (4, .ptr 18 0 0), (6, .ptr 19 0 0), (7, iV .i64 t1976), (56, .own 20), (57, iV .i64 (t1980.length : Int)), (58, iV .i64 x2019), (59, bV (decide (x2019 < (t1980.length : Int))))], [(17, some (.box 35 (aHist a0))), (18, some (.box 74 (arank_Part ⟨0, 0, 0⟩))), (19, some (.box 74 (arank_Part ⟨x2017, x2018, a0.f4⟩))), (20, some (.row 4 47 (t1980.map erank_Cell)))], 0⟩ [] (by kernel_rfl) trivial ?_
          refine AWp.seq ?_
          refine AWp.cond (decide (x2019 < (t1980.length : Int))) rfl (fun c2020 => ?_) (fun c2020 => ?_)
          · replace H := (ifT c2020).symm.trans H
            refine AWp.skip ?_
            refine AWp.seq ?_
            refine AWp.block ?_
            refine AWp.seq ?_
            obtain ⟨b2024, p2025, q2026, H⟩ := at_of H
            refine reg hP hn hm [(1, .c (erank_Cell b2024)), (2, .k 21)] [2, 4, 6, 7, 9, 56, 57, 58] [17, 18, 19, 20, 21] ⟨[(2, .ptr 17 0 0), (4, .ptr 18 0 0), (6, .ptr 19 0 0), (7, iV .i64 t1976), (9, .ptr 21 0 0), (56, .own 20), (57, iV .i64 (t1980.length : Int)), (58, iV .i64 x2019)], [(17, some (.box 35 (aHist a0))), (18, some (.box 74 (arank_Part ⟨0, 0, 0⟩))), (19, some (.box 74 (arank_Part ⟨x2017, x2018, a0.f4⟩))), (20, some (.row 4 47 (t1980.map erank_Cell))), (21, some (.box 47 [iV .i64 b2024.f0.f0, iV .i64 b2024.f0.f1, iV .i64 b2024.f0.f2, iV .u64 b2024.f1]))], 0⟩ [0 ≤ x2019, x2019 < (((t1980.map erank_Cell).length : Nat) : Int), (t1980.map erank_Cell)[(Int.toNat (x2019))]? = some (erank_Cell b2024)] (by kernel_rfl) ⟨by exact p2025, by exact el_lt erank_Cell p2025 q2026, by exact el_map erank_Cell q2026, trivial⟩ ?_
            refine AWp.seq ?_
            obtain ⟨t2029, e2030, H⟩ := bind_of H
            refine reg hP hn hm [(2, .call [] [] [] [] 0 (.tup [iV .i64 t2029.1, iV .i64 t2029.2]) [])] [2, 4, 6, 7, 9, 10, 11, 56, 57, 58] [17, 18, 19, 20, 21] ⟨[(2, .ptr 17 0 0), (4, .ptr 18 0 0), (6, .ptr 19 0 0), (7, iV .i64 t1976), (9, .ptr 21 0 0), (10, iV .i64 t2029.1), (11, iV .i64 t2029.2), (56, .own 20), (57, iV .i64 (t1980.length : Int)), (58, iV .i64 x2019)], [(17, some (.box 35 (aHist a0))), (18, some (.box 74 (arank_Part ⟨0, 0, 0⟩))), (19, some (.box 74 (arank_Part ⟨x2017, x2018, a0.f4⟩))), (20, some (.row 4 47 (t1980.map erank_Cell))), (21, some (.box 47 [iV .i64 b2024.f0.f0, iV .i64 b2024.f0.f1, iV .i64 b2024.f0.f2, iV .u64 b2024.f1]))], 0⟩ [Enters Try.prog 76, Pv.Fn Try.prog 76 [.agg (aHist a0), .agg (apluvialref08_Cell ⟨b2024.f0.f0, b2024.f0.f1, b2024.f0.f2, b2024.f1⟩)] [] 0 (fun r o => r = .tup [iV .i64 t2029.1, iV .i64 t2029.2] ∧ o = [])] (by kernel_rfl) ⟨by exact Try.call76, by exact f_rank_ends.ok a0 b2024 t2029 e2030, trivial⟩ ?_
            refine AWp.block ?_
            refine AWp.seq ?_
            refine reg hP hn hm [] [2, 4, 6, 7, 9, 10, 56, 57, 58, 68] [17, 18, 19, 20, 21] ⟨[(2, .ptr 17 0 0), (4, .ptr 18 0 0), (6, .ptr 19 0 0), (7, iV .i64 t1976), (9, .ptr 21 0 0), (10, iV .i64 t2029.1), (56, .own 20), (57, iV .i64 (t1980.length : Int)), (58, iV .i64 x2019), (68, bV (decide (t2029.2 ≤ t1976)))], [(17, some (.box 35 (aHist a0))), (18, some (.box 74 (arank_Part ⟨0, 0, 0⟩))), (19, some (.box 74 (arank_Part ⟨x2017, x2018, a0.f4⟩))), (20, some (.row 4 47 (t1980.map erank_Cell))), (21, some (.box 47 [iV .i64 b2024.f0.f0, iV .i64 b2024.f0.f1, iV .i64 b2024.f0.f2, iV .u64 b2024.f1]))], 0⟩ [] (by kernel_rfl) trivial ?_
            obtain ⟨o2042, e2043, H⟩ := bind_of H
            refine AWp.mono (Q := fun e s => (match (generalizing := false) o2042 with | (x2034, x2035) => e = .normal ∧ s = ⟨[(2, .ptr 26 0 0), (4, .ptr 27 0 0), (6, .ptr 28 0 0), (7, iV .i64 t1976), (56, .own 29), (57, iV .i64 (t1980.length : Int)), (58, iV .i64 x2019)], [(26, some (.box 35 (aHist a0))), (27, some (.box 74 (arank_Part ⟨0, 0, 0⟩))), (28, some (.box 74 (arank_Part ⟨x2034, x2035, a0.f4⟩))), (29, some (.row 4 47 (t1980.map erank_Cell)))], 0⟩)) (AWp.cv ?_) ?_
            · replace H := e2043; clear e2043
              refine AWp.cond (decide (t2029.2 ≤ t1976)) rfl (fun c2031 => ?_) (fun c2031 => ?_)
              · replace H := (ifT c2031).symm.trans H
                refine reg hP hn hm [] [2, 4, 6, 7, 56, 57, 58] [17, 18, 19, 20] ⟨[(2, .ptr 17 0 0), (4, .ptr 18 0 0), (6, .ptr 19 0 0), (7, iV .i64 t1976), (56, .own 20), (57, iV .i64 (t1980.length : Int)), (58, iV .i64 x2019)], [(17, some (.box 35 (aHist a0))), (18, some (.box 74 (arank_Part ⟨0, 0, 0⟩))), (19, some (.box 74 (arank_Part ⟨(IntKind.u64.wrap (x2017 + b2024.f1)), x2018, a0.f4⟩))), (20, some (.row 4 47 (t1980.map erank_Cell)))], 0⟩ [] (by kernel_rfl) trivial ?_
                obtain rfl := Option.some.inj H
                exact Exists.intro _ (And.intro (fun _ _ h => h.conv (inv := [(17, 26), (18, 27), (19, 28), (20, 29)]) (vk := []) (e0 := []) (t := ⟨[(2, .ptr 26 0 0), (4, .ptr 27 0 0), (6, .ptr 28 0 0), (7, iV .i64 t1976), (56, .own 29), (57, iV .i64 (t1980.length : Int)), (58, iV .i64 x2019)], [(26, some (.box 35 (aHist a0))), (27, some (.box 74 (arank_Part ⟨0, 0, 0⟩))), (28, some (.box 74 (arank_Part ⟨(IntKind.u64.wrap (x2017 + b2024.f1)), x2018, a0.f4⟩))), (29, some (.row 4 47 (t1980.map erank_Cell)))], 0⟩) (by kernel_rfl)) (And.intro rfl rfl))
              · replace H := (ifF c2031).symm.trans H
                refine AWp.seq ?_
                refine reg hP hn hm [] [2, 4, 6, 7, 9, 56, 57, 58, 78] [17, 18, 19, 20, 21] ⟨[(2, .ptr 17 0 0), (4, .ptr 18 0 0), (6, .ptr 19 0 0), (7, iV .i64 t1976), (9, .ptr 21 0 0), (56, .own 20), (57, iV .i64 (t1980.length : Int)), (58, iV .i64 x2019), (78, bV (decide (t2029.1 < t1976)))], [(17, some (.box 35 (aHist a0))), (18, some (.box 74 (arank_Part ⟨0, 0, 0⟩))), (19, some (.box 74 (arank_Part ⟨x2017, x2018, a0.f4⟩))), (20, some (.row 4 47 (t1980.map erank_Cell))), (21, some (.box 47 [iV .i64 b2024.f0.f0, iV .i64 b2024.f0.f1, iV .i64 b2024.f0.f2, iV .u64 b2024.f1]))], 0⟩ [] (by kernel_rfl) trivial ?_
                obtain ⟨o2044, e2045, H⟩ := bind_of H
                refine AWp.mono (Q := fun e s => (match (generalizing := false) o2044 with | x2033 => e = .normal ∧ s = ⟨[(2, .ptr 22 0 0), (4, .ptr 23 0 0), (6, .ptr 24 0 0), (7, iV .i64 t1976), (56, .own 25), (57, iV .i64 (t1980.length : Int)), (58, iV .i64 x2019)], [(22, some (.box 35 (aHist a0))), (23, some (.box 74 (arank_Part ⟨0, 0, 0⟩))), (24, some (.box 74 (arank_Part ⟨x2017, x2033, a0.f4⟩))), (25, some (.row 4 47 (t1980.map erank_Cell)))], 0⟩)) (AWp.cv ?_) ?_
                · replace H := e2045; clear e2045
                  refine AWp.cond (decide (t2029.1 < t1976)) rfl (fun c2032 => ?_) (fun c2032 => ?_)
                  · replace H := (ifT c2032).symm.trans H
                    refine reg hP hn hm [] [2, 4, 6, 7, 56, 57, 58] [17, 18, 19, 20] ⟨[(2, .ptr 17 0 0), (4, .ptr 18 0 0), (6, .ptr 19 0 0), (7, iV .i64 t1976), (56, .own 20), (57, iV .i64 (t1980.length : Int)), (58, iV .i64 x2019)], [(17, some (.box 35 (aHist a0))), (18, some (.box 74 (arank_Part ⟨0, 0, 0⟩))), (19, some (.box 74 (arank_Part ⟨x2017, (IntKind.u64.wrap (x2018 + b2024.f1)), a0.f4⟩))), (20, some (.row 4 47 (t1980.map erank_Cell)))], 0⟩ [] (by kernel_rfl) trivial ?_
                    obtain rfl := Option.some.inj H
                    exact Exists.intro _ (And.intro (fun _ _ h => h.conv (inv := [(17, 22), (18, 23), (19, 24), (20, 25)]) (vk := []) (e0 := []) (t := ⟨[(2, .ptr 22 0 0), (4, .ptr 23 0 0), (6, .ptr 24 0 0), (7, iV .i64 t1976), (56, .own 25), (57, iV .i64 (t1980.length : Int)), (58, iV .i64 x2019)], [(22, some (.box 35 (aHist a0))), (23, some (.box 74 (arank_Part ⟨0, 0, 0⟩))), (24, some (.box 74 (arank_Part ⟨x2017, (IntKind.u64.wrap (x2018 + b2024.f1)), a0.f4⟩))), (25, some (.row 4 47 (t1980.map erank_Cell)))], 0⟩) (by kernel_rfl)) (And.intro rfl rfl))
                  · replace H := (ifF c2032).symm.trans H
                    refine AWp.skip ?_
                    obtain rfl := Option.some.inj H
                    exact Exists.intro _ (And.intro (fun _ _ h => h.conv (inv := [(17, 22), (18, 23), (19, 24), (20, 25)]) (vk := []) (e0 := []) (t := ⟨[(2, .ptr 22 0 0), (4, .ptr 23 0 0), (6, .ptr 24 0 0), (7, iV .i64 t1976), (56, .own 25), (57, iV .i64 (t1980.length : Int)), (58, iV .i64 x2019)], [(22, some (.box 35 (aHist a0))), (23, some (.box 74 (arank_Part ⟨0, 0, 0⟩))), (24, some (.box 74 (arank_Part ⟨x2017, x2018, a0.f4⟩))), (25, some (.row 4 47 (t1980.map erank_Cell)))], 0⟩) (by kernel_rfl)) (And.intro rfl rfl))
                · obtain ⟨x2033, rfl⟩ : ∃ z, z = o2044 := ⟨_, rfl⟩
                  rintro e s ⟨rfl, rfl⟩
                  obtain rfl := Option.some.inj H
                  exact Exists.intro _ (And.intro (fun _ _ h => h.conv (inv := [(22, 26), (23, 27), (24, 28), (25, 29)]) (vk := []) (e0 := []) (t := ⟨[(2, .ptr 26 0 0), (4, .ptr 27 0 0), (6, .ptr 28 0 0), (7, iV .i64 t1976), (56, .own 29), (57, iV .i64 (t1980.length : Int)), (58, iV .i64 x2019)], [(26, some (.box 35 (aHist a0))), (27, some (.box 74 (arank_Part ⟨0, 0, 0⟩))), (28, some (.box 74 (arank_Part ⟨x2017, x2033, a0.f4⟩))), (29, some (.row 4 47 (t1980.map erank_Cell)))], 0⟩) (by kernel_rfl)) (And.intro rfl rfl))
            · obtain ⟨x2034, x2035⟩ := o2042
              rintro e s ⟨rfl, rfl⟩
              refine reg hP hn hm [] [2, 4, 6, 7, 56, 57, 58] [26, 27, 28, 29] ⟨[(2, .ptr 26 0 0), (4, .ptr 27 0 0), (6, .ptr 28 0 0), (7, iV .i64 t1976), (56, .own 29), (57, iV .i64 (t1980.length : Int)), (58, iV .i64 (IntKind.i64.wrap (x2019 + (1 : Int))))], [(26, some (.box 35 (aHist a0))), (27, some (.box 74 (arank_Part ⟨0, 0, 0⟩))), (28, some (.box 74 (arank_Part ⟨x2034, x2035, a0.f4⟩))), (29, some (.row 4 47 (t1980.map erank_Cell)))], 0⟩ [] (by kernel_rfl) trivial ?_
              exact LWp.conv (inv := [(26, 17), (27, 18), (28, 19), (29, 20)]) (vk := []) (e0 := []) (t := ⟨[(2, .ptr 17 0 0), (4, .ptr 18 0 0), (6, .ptr 19 0 0), (7, iV .i64 t1976), (56, .own 20), (57, iV .i64 (t1980.length : Int)), (58, iV .i64 (IntKind.i64.wrap (x2019 + (1 : Int))))], [(17, some (.box 35 (aHist a0))), (18, some (.box 74 (arank_Part ⟨0, 0, 0⟩))), (19, some (.box 74 (arank_Part ⟨x2034, x2035, a0.f4⟩))), (20, some (.row 4 47 (t1980.map erank_Cell)))], 0⟩) (by kernel_rfl) (ih _ _ _ _ H)
          · replace H := (ifF c2020).symm.trans H
            refine AWp.exit ?_
            obtain rfl := Option.some.inj H
            exact Exists.intro _ (And.intro (fun _ _ h => h.conv (inv := [(18, 30), (19, 31)]) (vk := []) (e0 := []) (t := ⟨[(4, .ptr 30 0 0), (6, .ptr 31 0 0)], [(30, some (.box 74 (arank_Part ⟨0, 0, 0⟩))), (31, some (.box 74 (arank_Part ⟨x2017, x2018, a0.f4⟩)))], 0⟩) (by kernel_rfl)) (And.intro rfl rfl))
        · obtain ⟨x2036, x2037⟩ := o2040
          rintro e s ⟨rfl, rfl⟩
          refine AWp.seq ?_
          refine reg hP hn hm [] [4, 5] [30] ⟨[(4, .ptr 30 0 0), (5, iV .i64 0)], [(30, some (.box 74 (arank_Part ⟨x2036, x2037, a0.f4⟩)))], 0⟩ [] (by kernel_rfl) trivial ?_
          refine AWp.conv (inv := [(30, 0)]) (vk := []) (e0 := []) (t := ⟨[(4, .ptr 0 0 0), (5, iV .i64 0)], [(0, some (.box 74 (arank_Part ((⟨x2036, x2037, a0.f4⟩ : Trank_Part)))))], 0⟩) (by kernel_rfl) ?_
          refine AWp.ret ?_
          obtain rfl := Option.some.inj H
          exact Exists.intro _ (And.intro (fun _ _ h => h) (And.intro (.inl rfl) (And.intro rfl (And.intro (by kernel_rfl) (by kernel_rfl)))))
def f_num_Up.f (a0 : Int) (a1 : Int) : Option (Unit) := (chk (0 ≤ a1)) >>= fun _ => some ()
theorem f_num_Up.ok (a0 : Int) (a1 : Int) (r : Unit) (H : f_num_Up.f a0 a1 = some r) : Pv.Fn Try.prog 138 [iV .i64 a0, iV .u64 a1] [] 0 (fun x o => x = iV .i64 (IntKind.i64.wrap (0 - (Int.fdiv (IntKind.i64.wrap (0 - a0)) (2 ^ (min (Int.toNat (a1)) 64))))) ∧ o = []) := by
  unfold f_num_Up.f at H
  refine Fn.bodyK [] Try.func138 rfl rfl (fun Γ hP hn => ?_)
  have hm : Try.prog.follows .mixedOrders = true := by kernel_rfl
  replace hn : Γ.n = 10 := hn
  refine AWp.seq ?_
  refine reg hP hn hm [] [0, 1] [] ⟨[(0, iV .i64 a0), (1, iV .u64 a1)], [], 0⟩ [] (by kernel_rfl) trivial ?_
  refine AWp.seq ?_
  obtain ⟨c2273, H⟩ := chk_of H
  refine reg hP hn hm [] [4] [] ⟨[(4, iV .i64 (IntKind.i64.wrap (0 - (Int.fdiv (IntKind.i64.wrap (0 - a0)) (2 ^ (min (Int.toNat (a1)) 64))))))], [], 0⟩ [0 ≤ a1] (by kernel_rfl) ⟨by exact c2273, trivial⟩ ?_
  refine AWp.conv (inv := []) (vk := []) (e0 := []) (t := ⟨[(4, iV .i64 (IntKind.i64.wrap (0 - (Int.fdiv (IntKind.i64.wrap (0 - a0)) (2 ^ (min (Int.toNat (a1)) 64))))))], [], 0⟩) (by kernel_rfl) ?_
  refine AWp.ret ?_
  obtain rfl := Option.some.inj H
  exact Exists.intro _ (And.intro (fun _ _ h => h) (And.intro (.inl rfl) (And.intro rfl (And.intro (by kernel_rfl) (by kernel_rfl)))))
def f_bound_To.f (a0 : Int) (a1 : Int) (a2 : Int) : Option (Int × Int) := (((f_bound_Right.f a0) >>= fun t2259 => if (!t2259) = true then (some true) else ((f_bound_Right.f a1) >>= fun t2262 => if (!t2262) = true then (some true) else (some (decide (a1 > a0))))) : Option (Bool)) >>= fun x2265 => if x2265 = true then (some (0, 20)) else ((f_bound_In.f a0 a2) >>= fun t2269 => if (!t2269) = true then (some (0, 4)) else ((f_num_Up.f a2 (IntKind.u64.wrap (IntKind.i64.wrap (a0 - a1)))) >>= fun t2276 => some (IntKind.i64.wrap (0 - (Int.fdiv (IntKind.i64.wrap (0 - a2)) (2 ^ (min (Int.toNat ((IntKind.u64.wrap (IntKind.i64.wrap (a0 - a1))))) 64)))), 0)))
theorem f_bound_To.ok (a0 : Int) (a1 : Int) (a2 : Int) (r : Int × Int) (H : f_bound_To.f a0 a1 a2 = some r) : Pv.Fn Try.prog 109 [iV .i64 a0, iV .i64 a1, iV .i64 a2] [] 0 (fun x o => x = .tup [iV .i64 r.1, iV .i64 r.2] ∧ o = []) := by
  unfold f_bound_To.f at H
  refine Fn.bodyK [] Try.func109 rfl rfl (fun Γ hP hn => ?_)
  have hm : Try.prog.follows .mixedOrders = true := by kernel_rfl
  replace hn : Γ.n = 33 := hn
  refine AWp.seq ?_
  refine reg hP hn hm [] [0, 1, 2] [] ⟨[(0, iV .i64 a0), (1, iV .i64 a1), (2, iV .i64 a2)], [], 0⟩ [] (by kernel_rfl) trivial ?_
  refine AWp.seq ?_
  refine AWp.block ?_
  refine AWp.seq ?_
  obtain ⟨o2278, e2279, H⟩ := bind_of H
  refine AWp.mono (Q := fun e s => (match (generalizing := false) o2278 with | x2265 => e = .normal ∧ s = ⟨[(0, iV .i64 a0), (1, iV .i64 a1), (2, iV .i64 a2), (8, bV x2265)], [], 0⟩)) (AWp.cv ?_) ?_
  · replace H := e2279; clear e2279
    obtain ⟨t2259, e2260, H⟩ := bind_of H
    rcases Bool.eq_false_or_eq_true (!t2259) with c2261 | c2261
    · replace H := (ifT c2261).symm.trans H
      refine reg hP hn hm [(1, .call [] [] [] [] 0 (bV t2259) []), (3, .b true)] [0, 1, 2, 8] [] ⟨[(0, iV .i64 a0), (1, iV .i64 a1), (2, iV .i64 a2), (8, bV true)], [], 0⟩ [Enters Try.prog 80, Pv.Fn Try.prog 80 [iV .i64 a0] [] 0 (fun r o => r = bV t2259 ∧ o = []), (!t2259) = true] (by kernel_rfl) ⟨by exact Try.call80, by exact f_bound_Right.ok a0 t2259 e2260, by exact c2261, trivial⟩ ?_
      obtain rfl := Option.some.inj H
      exact Exists.intro _ (And.intro (fun _ _ h => h.conv (inv := []) (vk := []) (e0 := []) (t := ⟨[(0, iV .i64 a0), (1, iV .i64 a1), (2, iV .i64 a2), (8, bV true)], [], 0⟩) (by kernel_rfl)) (And.intro rfl rfl))
    · replace H := (ifF c2261).symm.trans H
      obtain ⟨t2262, e2263, H⟩ := bind_of H
      rcases Bool.eq_false_or_eq_true (!t2262) with c2264 | c2264
      · replace H := (ifT c2264).symm.trans H
        refine reg hP hn hm [(1, .call [] [] [] [] 0 (bV t2259) []), (3, .b false), (5, .call [] [] [] [] 0 (bV t2262) []), (8, .b true)] [0, 1, 2, 8] [] ⟨[(0, iV .i64 a0), (1, iV .i64 a1), (2, iV .i64 a2), (8, bV true)], [], 0⟩ [Enters Try.prog 80, Pv.Fn Try.prog 80 [iV .i64 a0] [] 0 (fun r o => r = bV t2259 ∧ o = []), (!t2259) = false, Enters Try.prog 80, Pv.Fn Try.prog 80 [iV .i64 a1] [] 0 (fun r o => r = bV t2262 ∧ o = []), (!t2262) = true] (by kernel_rfl) ⟨by exact Try.call80, by exact f_bound_Right.ok a0 t2259 e2260, by exact c2261, by exact Try.call80, by exact f_bound_Right.ok a1 t2262 e2263, by exact c2264, trivial⟩ ?_
        obtain rfl := Option.some.inj H
        exact Exists.intro _ (And.intro (fun _ _ h => h.conv (inv := []) (vk := []) (e0 := []) (t := ⟨[(0, iV .i64 a0), (1, iV .i64 a1), (2, iV .i64 a2), (8, bV true)], [], 0⟩) (by kernel_rfl)) (And.intro rfl rfl))
      · replace H := (ifF c2264).symm.trans H
        refine reg hP hn hm [(1, .call [] [] [] [] 0 (bV t2259) []), (3, .b false), (5, .call [] [] [] [] 0 (bV t2262) []), (8, .b false)] [0, 1, 2, 8] [] ⟨[(0, iV .i64 a0), (1, iV .i64 a1), (2, iV .i64 a2), (8, bV (decide (a1 > a0)))], [], 0⟩ [Enters Try.prog 80, Pv.Fn Try.prog 80 [iV .i64 a0] [] 0 (fun r o => r = bV t2259 ∧ o = []), (!t2259) = false, Enters Try.prog 80, Pv.Fn Try.prog 80 [iV .i64 a1] [] 0 (fun r o => r = bV t2262 ∧ o = []), (!t2262) = false] (by kernel_rfl) ⟨by exact Try.call80, by exact f_bound_Right.ok a0 t2259 e2260, by exact c2261, by exact Try.call80, by exact f_bound_Right.ok a1 t2262 e2263, by exact c2264, trivial⟩ ?_
        obtain rfl := Option.some.inj H
        exact Exists.intro _ (And.intro (fun _ _ h => h.conv (inv := []) (vk := []) (e0 := []) (t := ⟨[(0, iV .i64 a0), (1, iV .i64 a1), (2, iV .i64 a2), (8, bV (decide (a1 > a0)))], [], 0⟩) (by kernel_rfl)) (And.intro rfl rfl))
  · obtain ⟨x2265, rfl⟩ : ∃ z, z = o2278 := ⟨_, rfl⟩
    rintro e s ⟨rfl, rfl⟩
    refine AWp.cond x2265 rfl (fun c2266 => ?_) (fun c2266 => ?_)
    · replace H := (ifT c2266).symm.trans H
      refine AWp.seq ?_
      refine reg hP hn hm [] [6, 7] [] ⟨[(6, iV .i64 0), (7, iV .i64 20)], [], 0⟩ [] (by kernel_rfl) trivial ?_
      refine AWp.conv (inv := []) (vk := []) (e0 := []) (t := ⟨[(6, iV .i64 0), (7, iV .i64 20)], [], 0⟩) (by kernel_rfl) ?_
      refine AWp.ret ?_
      obtain rfl := Option.some.inj H
      exact Exists.intro _ (And.intro (fun _ _ h => h) (And.intro (.inl rfl) (And.intro rfl (And.intro (by kernel_rfl) (by kernel_rfl)))))
    · replace H := (ifF c2266).symm.trans H
      refine AWp.seq ?_
      obtain ⟨t2269, e2270, H⟩ := bind_of H
      refine reg hP hn hm [(2, .call [] [] [] [] 0 (bV t2269) [])] [0, 1, 2, 22] [] ⟨[(0, iV .i64 a0), (1, iV .i64 a1), (2, iV .i64 a2), (22, bV (!t2269))], [], 0⟩ [Enters Try.prog 83, Pv.Fn Try.prog 83 [iV .i64 a0, iV .i64 a2] [] 0 (fun r o => r = bV t2269 ∧ o = [])] (by kernel_rfl) ⟨by exact Try.call83, by exact f_bound_In.ok a0 a2 t2269 e2270, trivial⟩ ?_
      refine AWp.cond (!t2269) rfl (fun c2271 => ?_) (fun c2271 => ?_)
      · replace H := (ifT c2271).symm.trans H
        refine AWp.seq ?_
        refine reg hP hn hm [] [6, 7] [] ⟨[(6, iV .i64 0), (7, iV .i64 4)], [], 0⟩ [] (by kernel_rfl) trivial ?_
        refine AWp.conv (inv := []) (vk := []) (e0 := []) (t := ⟨[(6, iV .i64 0), (7, iV .i64 4)], [], 0⟩) (by kernel_rfl) ?_
        refine AWp.ret ?_
        obtain rfl := Option.some.inj H
        exact Exists.intro _ (And.intro (fun _ _ h => h) (And.intro (.inl rfl) (And.intro rfl (And.intro (by kernel_rfl) (by kernel_rfl)))))
      · replace H := (ifF c2271).symm.trans H
        refine AWp.skip ?_
        refine AWp.seq ?_
        obtain ⟨t2276, e2277, H⟩ := bind_of H
        refine reg hP hn hm [(5, .call [] [] [] [] 0 (iV .i64 (IntKind.i64.wrap (0 - (Int.fdiv (IntKind.i64.wrap (0 - a2)) (2 ^ (min (Int.toNat ((IntKind.u64.wrap (IntKind.i64.wrap (a0 - a1))))) 64)))))) [])] [6, 7] [] ⟨[(6, iV .i64 (IntKind.i64.wrap (0 - (Int.fdiv (IntKind.i64.wrap (0 - a2)) (2 ^ (min (Int.toNat ((IntKind.u64.wrap (IntKind.i64.wrap (a0 - a1))))) 64)))))), (7, iV .i64 0)], [], 0⟩ [Enters Try.prog 138, Pv.Fn Try.prog 138 [iV .i64 a2, iV .u64 (IntKind.u64.wrap (IntKind.i64.wrap (a0 - a1)))] [] 0 (fun r o => r = iV .i64 (IntKind.i64.wrap (0 - (Int.fdiv (IntKind.i64.wrap (0 - a2)) (2 ^ (min (Int.toNat ((IntKind.u64.wrap (IntKind.i64.wrap (a0 - a1))))) 64))))) ∧ o = [])] (by kernel_rfl) ⟨by exact Try.call138, by exact f_num_Up.ok a2 (IntKind.u64.wrap (IntKind.i64.wrap (a0 - a1))) t2276 e2277, trivial⟩ ?_
        refine AWp.conv (inv := []) (vk := []) (e0 := []) (t := ⟨[(6, iV .i64 (IntKind.i64.wrap (0 - (Int.fdiv (IntKind.i64.wrap (0 - a2)) (2 ^ (min (Int.toNat ((IntKind.u64.wrap (IntKind.i64.wrap (a0 - a1))))) 64)))))), (7, iV .i64 0)], [], 0⟩) (by kernel_rfl) ?_
        refine AWp.ret ?_
        obtain rfl := Option.some.inj H
        exact Exists.intro _ (And.intro (fun _ _ h => h) (And.intro (.inl rfl) (And.intro rfl (And.intro (by kernel_rfl) (by kernel_rfl)))))
def f_meld_down.l0 (a0 : List TBucket) (a1 : Int) (a2 : Int) (x2286 : List TBucket) (x2287 : Int) : Option (List TBucket) := if (decide (x2287 < (a0.length : Int))) = true then ((at? a0 x2287) >>= fun b2292 => (f_bound_To.f a1 a2 b2292.f0) >>= fun t2297 => (chk ((x2286.length + [(⟨t2297.1, b2292.f1⟩ : TBucket)].length) * 16 ≤ 140737488355328)) >>= fun _ => f_meld_down.l0 a0 a1 a2 (x2286 ++ [(⟨t2297.1, b2292.f1⟩ : TBucket)]) (IntKind.i64.wrap (x2287 + (1 : Int)))) else (some x2286)
partial_fixpoint
def f_meld_down.f (a0 : List TBucket) (a1 : Int) (a2 : Int) : Option (List TBucket) := (f_meld_down.l0 a0 a1 a2 [] 0) >>= fun x2301 => some x2301
theorem f_meld_down.ok (a0 : List TBucket) (a1 : Int) (a2 : Int) (r : List TBucket) (H : f_meld_down.f a0 a1 a2 = some r) : Pv.Fn Try.prog 81 [.im (.row (a0.map eBucket)), iV .i64 a1, iV .i64 a2] [] 0 (fun x o => x = .own 0 ∧ o = [(0, some (.row 2 127 (r.map eBucket)))]) := by
  unfold f_meld_down.f at H
  refine Fn.bodyK [0] Try.func81 rfl rfl (fun Γ hP hn => ?_)
  have hm : Try.prog.follows .mixedOrders = true := by kernel_rfl
  replace hn : Γ.n = 31 := hn
  refine AWp.seq ?_
  refine reg hP hn hm [] [0, 1, 2] [] ⟨[(0, .im (.row (a0.map eBucket))), (1, iV .i64 a1), (2, iV .i64 a2)], [], 0⟩ [] (by kernel_rfl) trivial ?_
  refine AWp.seq ?_
  refine reg hP hn hm [] [0, 1, 2, 7] [] ⟨[(0, .im (.row (a0.map eBucket))), (1, iV .i64 a1), (2, iV .i64 a2), (7, .none0)], [], 0⟩ [] (by kernel_rfl) trivial ?_
  refine AWp.seq ?_
  refine AWp.seq ?_
  refine reg hP hn hm [(1, .any (iV .i64 (a0.length : Int)))] [1, 2, 7, 10, 11, 12] [] ⟨[(1, iV .i64 a1), (2, iV .i64 a2), (7, .none0), (10, .im (.row (a0.map eBucket))), (11, iV .i64 (a0.length : Int)), (12, iV .i64 0)], [], 0⟩ [((a0.map eBucket).length : Int) = (a0.length : Int)] (by kernel_rfl) ⟨by rw [len_map], trivial⟩ ?_
  refine AWp.block ?_
  obtain ⟨o2302, e2303, H⟩ := bind_of H
  refine AWp.loop (LWp.conv (inv := []) (vk := []) (e0 := [3]) (t := ⟨[(1, iV .i64 a1), (2, iV .i64 a2), (7, .own 3), (10, .im (.row (a0.map eBucket))), (11, iV .i64 (a0.length : Int)), (12, iV .i64 0)], [(3, some (.row 2 127 ([].map eBucket)))], 0⟩) (by kernel_rfl) ?_)
  refine LWp.mono (Q := fun e s => (match (generalizing := false) o2302 with | x2301 => e = .exit 0 ∧ s = ⟨[(7, .own 7)], [(7, some (.row 2 127 (x2301.map eBucket)))], 0⟩)) (LWp.cv (withBody (fun body hbody => ?_))) ?_
  · refine f_meld_down.l0.partial_correctness a0 a1 a2 (motive := fun x2286 x2287 o2302 => LWp Γ body (fun e s => ∃ t, Cv Γ s t ∧ (match (generalizing := false) o2302 with | x2301 => e = .exit 0 ∧ t = ⟨[(7, .own 7)], [(7, some (.row 2 127 (x2301.map eBucket)))], 0⟩)) ⟨[(1, iV .i64 a1), (2, iV .i64 a2), (7, .own 3), (10, .im (.row (a0.map eBucket))), (11, iV .i64 (a0.length : Int)), (12, iV .i64 x2287)], [(3, some (.row 2 127 (x2286.map eBucket)))], 0⟩) ?_ _ _ _ e2303
    clear H e2303 o2302; intro self ih x2286 x2287 o2302 H
    subst hbody
    refine LWp.round ?_
    refine AWp.seq ?_
    refine reg hP hn hm [] [1, 2, 7, 10, 11, 12, 13] [3] ⟨[(1, iV .i64 a1), (2, iV .i64 a2), (7, .own 3), (10, .im (.row (a0.map eBucket))), (11, iV .i64 (a0.length : Int)), (12, iV .i64 x2287), (13, bV (decide (x2287 < (a0.length : Int))))], [(3, some (.row 2 127 (x2286.map eBucket)))], 0⟩ [] (by kernel_rfl) trivial ?_
    refine AWp.seq ?_
    refine AWp.cond (decide (x2287 < (a0.length : Int))) rfl (fun c2288 => ?_) (fun c2288 => ?_)
    · replace H := (ifT c2288).symm.trans H
      refine AWp.skip ?_
      refine AWp.seq ?_
      refine AWp.block ?_
      refine AWp.seq ?_
      obtain ⟨b2292, p2293, q2294, H⟩ := at_of H
      refine reg hP hn hm [(0, .c (eBucket b2292)), (2, .k 4)] [1, 2, 7, 9, 10, 11, 12] [3, 4] ⟨[(1, iV .i64 a1), (2, iV .i64 a2), (7, .own 3), (9, .ptr 4 0 0), (10, .im (.row (a0.map eBucket))), (11, iV .i64 (a0.length : Int)), (12, iV .i64 x2287)], [(3, some (.row 2 127 (x2286.map eBucket))), (4, some (.box 127 (aBucket b2292)))], 0⟩ [0 ≤ x2287, (a0.map eBucket)[(Int.toNat (x2287))]? = some (eBucket b2292)] (by kernel_rfl) ⟨by exact p2293, by exact el_map eBucket q2294, trivial⟩ ?_
      refine AWp.seq ?_
      obtain ⟨t2297, e2298, H⟩ := bind_of H
      refine reg hP hn hm [(4, .call [] [] [] [] 0 (.tup [iV .i64 t2297.1, iV .i64 t2297.2]) [])] [1, 2, 7, 9, 10, 11, 12] [3, 4] ⟨[(1, iV .i64 a1), (2, iV .i64 a2), (7, .own 3), (9, .ptr 4 0 0), (10, .im (.row (a0.map eBucket))), (11, iV .i64 (a0.length : Int)), (12, iV .i64 x2287)], [(3, some (.row 2 127 (x2286.map eBucket))), (4, some (.box 127 (aBucket ⟨t2297.1, b2292.f1⟩)))], 0⟩ [Enters Try.prog 109, Pv.Fn Try.prog 109 [iV .i64 a1, iV .i64 a2, iV .i64 b2292.f0] [] 0 (fun r o => r = .tup [iV .i64 t2297.1, iV .i64 t2297.2] ∧ o = [])] (by kernel_rfl) ⟨by exact Try.call109, by exact f_bound_To.ok a1 a2 b2292.f0 t2297 e2298, trivial⟩ ?_
      obtain ⟨c2300, H⟩ := chk_of H
      refine reg hP hn hm [(2, .app 5 ([(⟨t2297.1, b2292.f1⟩ : TBucket)].map eBucket)), (3, .app 6 ((x2286 ++ [(⟨t2297.1, b2292.f1⟩ : TBucket)]).map eBucket))] [1, 2, 7, 10, 11, 12] [6] ⟨[(1, iV .i64 a1), (2, iV .i64 a2), (7, .own 6), (10, .im (.row (a0.map eBucket))), (11, iV .i64 (a0.length : Int)), (12, iV .i64 x2287)], [(6, some (.row 2 127 ((x2286 ++ [(⟨t2297.1, b2292.f1⟩ : TBucket)]).map eBucket)))], 0⟩ [[(⟨t2297.1, b2292.f1⟩ : TBucket)].map eBucket = [[iI .i64 t2297.1, iI .u64 b2292.f1]], (x2286 ++ [(⟨t2297.1, b2292.f1⟩ : TBucket)]).map eBucket = (x2286.map eBucket) ++ ([(⟨t2297.1, b2292.f1⟩ : TBucket)].map eBucket), ∀ c ∈ ([(⟨t2297.1, b2292.f1⟩ : TBucket)].map eBucket), c.length = 2, ∀ c ∈ ([(⟨t2297.1, b2292.f1⟩ : TBucket)].map eBucket), leaves (c.map .im) = true, ((x2286.map eBucket).length + ([(⟨t2297.1, b2292.f1⟩ : TBucket)].map eBucket).length) * 16 ≤ 140737488355328] (by kernel_rfl) ⟨by exact rfl, by simp, by exact all_len _ _ _ (fun _ => rfl), by exact all_leaf _ _ (fun _ => rfl), by simpa using c2300, trivial⟩ ?_
      refine reg hP hn hm [] [1, 2, 7, 10, 11, 12] [6] ⟨[(1, iV .i64 a1), (2, iV .i64 a2), (7, .own 6), (10, .im (.row (a0.map eBucket))), (11, iV .i64 (a0.length : Int)), (12, iV .i64 (IntKind.i64.wrap (x2287 + (1 : Int))))], [(6, some (.row 2 127 ((x2286 ++ [(⟨t2297.1, b2292.f1⟩ : TBucket)]).map eBucket)))], 0⟩ [] (by kernel_rfl) trivial ?_
      exact LWp.conv (inv := [(6, 3)]) (vk := []) (e0 := []) (t := ⟨[(1, iV .i64 a1), (2, iV .i64 a2), (7, .own 3), (10, .im (.row (a0.map eBucket))), (11, iV .i64 (a0.length : Int)), (12, iV .i64 (IntKind.i64.wrap (x2287 + (1 : Int))))], [(3, some (.row 2 127 ((x2286 ++ [(⟨t2297.1, b2292.f1⟩ : TBucket)]).map eBucket)))], 0⟩) (by kernel_rfl) (ih _ _ _ H)
    · replace H := (ifF c2288).symm.trans H
      refine AWp.exit ?_
      obtain rfl := Option.some.inj H
      exact Exists.intro _ (And.intro (fun _ _ h => h.conv (inv := [(3, 7)]) (vk := []) (e0 := []) (t := ⟨[(7, .own 7)], [(7, some (.row 2 127 (x2286.map eBucket)))], 0⟩) (by kernel_rfl)) (And.intro rfl rfl))
  · obtain ⟨x2301, rfl⟩ : ∃ z, z = o2302 := ⟨_, rfl⟩
    rintro e s ⟨rfl, rfl⟩
    refine AWp.seq ?_
    refine reg hP hn hm [] [6] [7] ⟨[(6, .own 7)], [(7, some (.row 2 127 (x2301.map eBucket)))], 0⟩ [] (by kernel_rfl) trivial ?_
    refine AWp.conv (inv := [(7, 0)]) (vk := []) (e0 := []) (t := ⟨[(6, .own 0)], [(0, some (.row 2 127 (x2301.map eBucket)))], 0⟩) (by kernel_rfl) ?_
    refine AWp.ret ?_
    obtain rfl := Option.some.inj H
    exact Exists.intro _ (And.intro (fun _ _ h => h) (And.intro (.inl rfl) (And.intro rfl (And.intro (by kernel_rfl) (by kernel_rfl)))))
def f_meld_edge.l0 (a0 : THist) (a1 : List TBucket) (a2 : Int) (x2335 : Int) : Option (Int ⊕ Unit) := if (decide (x2335 < (a1.length : Int))) = true then ((at? a1 x2335) >>= fun b2340 => (((f_bound_Low.f a0.f1 b2340.f0) >>= fun t2348 => if (decide (t2348 < a2)) = true then ((f_bound_Units.f a0.f1 b2340.f0) >>= fun t2351 => some (decide (a2 < t2351))) else (some false)) : Option (Bool)) >>= fun x2353 => if x2353 = true then ((f_bound_Units.f a0.f1 b2340.f0) >>= fun t2357 => some (.inl t2357)) else (f_meld_edge.l0 a0 a1 a2 (IntKind.i64.wrap (x2335 + (1 : Int))))) else (some (.inr ()))
partial_fixpoint
def f_meld_edge.f (a0 : THist) (a1 : List TBucket) (a2 : Int) : Option (Int) := (f_meld_edge.l0 a0 a1 a2 0) >>= fun oo => match oo with | .inl rr => (some rr) | .inr _ => (some a2)
theorem f_meld_edge.ok (a0 : THist) (a1 : List TBucket) (a2 : Int) (r : Int) (H : f_meld_edge.f a0 a1 a2 = some r) : Pv.Fn Try.prog 110 [.agg (aHist a0), .im (.row (a1.map eBucket)), iV .i64 a2] [] 0 (fun x o => x = iV .i64 r ∧ o = []) := by
  unfold f_meld_edge.f at H
  refine Fn.bodyK [] Try.func110 rfl rfl (fun Γ hP hn => ?_)
  have hm : Try.prog.follows .mixedOrders = true := by kernel_rfl
  replace hn : Γ.n = 38 := hn
  refine AWp.seq ?_
  refine reg hP hn hm [(0, .k 0)] [1, 2, 3] [0] ⟨[(1, .im (.row (a1.map eBucket))), (2, iV .i64 a2), (3, .ptr 0 0 0)], [(0, some (.box 35 (aHist a0)))], 0⟩ [] (by kernel_rfl) trivial ?_
  refine AWp.seq ?_
  refine AWp.seq ?_
  refine reg hP hn hm [(1, .any (iV .i64 (a1.length : Int)))] [2, 3, 9, 10, 11] [0] ⟨[(2, iV .i64 a2), (3, .ptr 0 0 0), (9, .im (.row (a1.map eBucket))), (10, iV .i64 (a1.length : Int)), (11, iV .i64 0)], [(0, some (.box 35 (aHist a0)))], 0⟩ [((a1.map eBucket).length : Int) = (a1.length : Int)] (by kernel_rfl) ⟨by rw [len_map], trivial⟩ ?_
  refine AWp.block ?_
  obtain ⟨o2359, e2360, H⟩ := bind_of H
  refine AWp.loop (LWp.conv (inv := [(0, 4)]) (vk := []) (e0 := []) (t := ⟨[(2, iV .i64 a2), (3, .ptr 4 0 0), (9, .im (.row (a1.map eBucket))), (10, iV .i64 (a1.length : Int)), (11, iV .i64 0)], [(4, some (.box 35 (aHist a0)))], 0⟩) (by kernel_rfl) ?_)
  refine LWp.mono (Q := fun e s => (match (generalizing := false) o2359 with | .inl rr => e = .ret ∧ s.floor = 0 ∧ resOf Try.prog Try.f110 s = some (iV .i64 rr) ∧ ([] : List (Nat × Option MObj)) = [] | .inr _ => e = .exit 0 ∧ s = ⟨[(2, iV .i64 a2)], [], 0⟩)) (LWp.cv (withBody (fun body hbody => ?_))) ?_
  · refine f_meld_edge.l0.partial_correctness a0 a1 a2 (motive := fun x2335 o2359 => LWp Γ body (fun e s => ∃ t, Cv Γ s t ∧ (match (generalizing := false) o2359 with | .inl rr => e = .ret ∧ t.floor = 0 ∧ resOf Try.prog Try.f110 t = some (iV .i64 rr) ∧ ([] : List (Nat × Option MObj)) = [] | .inr _ => e = .exit 0 ∧ t = ⟨[(2, iV .i64 a2)], [], 0⟩)) ⟨[(2, iV .i64 a2), (3, .ptr 4 0 0), (9, .im (.row (a1.map eBucket))), (10, iV .i64 (a1.length : Int)), (11, iV .i64 x2335)], [(4, some (.box 35 (aHist a0)))], 0⟩) ?_ _ _ e2360
    clear H e2360 o2359; intro self ih x2335 o2359 H
    subst hbody
    refine LWp.round ?_
    refine AWp.seq ?_
    refine reg hP hn hm [] [2, 3, 9, 10, 11, 12] [4] ⟨[(2, iV .i64 a2), (3, .ptr 4 0 0), (9, .im (.row (a1.map eBucket))), (10, iV .i64 (a1.length : Int)), (11, iV .i64 x2335), (12, bV (decide (x2335 < (a1.length : Int))))], [(4, some (.box 35 (aHist a0)))], 0⟩ [] (by kernel_rfl) trivial ?_
    refine AWp.seq ?_
    refine AWp.cond (decide (x2335 < (a1.length : Int))) rfl (fun c2336 => ?_) (fun c2336 => ?_)
    · replace H := (ifT c2336).symm.trans H
      refine AWp.skip ?_
      refine AWp.seq ?_
      refine AWp.block ?_
      refine AWp.seq ?_
      obtain ⟨b2340, p2341, q2342, H⟩ := at_of H
      refine reg hP hn hm [(0, .c (eBucket b2340)), (2, .k 5)] [2, 3, 8, 9, 10, 11] [4, 5] ⟨[(2, iV .i64 a2), (3, .ptr 4 0 0), (8, .ptr 5 0 0), (9, .im (.row (a1.map eBucket))), (10, iV .i64 (a1.length : Int)), (11, iV .i64 x2335)], [(4, some (.box 35 (aHist a0))), (5, some (.box 127 (aBucket b2340)))], 0⟩ [0 ≤ x2335, (a1.map eBucket)[(Int.toNat (x2335))]? = some (eBucket b2340)] (by kernel_rfl) ⟨by exact p2341, by exact el_map eBucket q2342, trivial⟩ ?_
      refine AWp.seq ?_
      obtain ⟨o2361, e2362, H⟩ := bind_of H
      refine AWp.mono (Q := fun e s => (match (generalizing := false) o2361 with | x2353 => e = .normal ∧ s = ⟨[(2, iV .i64 a2), (3, .ptr 6 0 0), (8, .ptr 7 0 0), (9, .im (.row (a1.map eBucket))), (10, iV .i64 (a1.length : Int)), (11, iV .i64 x2335), (30, bV x2353)], [(6, some (.box 35 (aHist a0))), (7, some (.box 127 (aBucket b2340)))], 0⟩)) (AWp.cv ?_) ?_
      · replace H := e2362; clear e2362
        obtain ⟨t2348, e2349, H⟩ := bind_of H
        rcases Bool.eq_false_or_eq_true (decide (t2348 < a2)) with c2350 | c2350
        · replace H := (ifT c2350).symm.trans H
          obtain ⟨t2351, e2352, H⟩ := bind_of H
          refine reg hP hn hm [(4, .call [] [] [] [] 0 (iV .i64 t2348) []), (7, .b true), (13, .call [] [] [] [] 0 (iV .i64 t2351) [])] [2, 3, 8, 9, 10, 11, 23, 24, 25, 26, 27, 28, 29, 30] [4, 5] ⟨[(2, iV .i64 a2), (3, .ptr 4 0 0), (8, .ptr 5 0 0), (9, .im (.row (a1.map eBucket))), (10, iV .i64 (a1.length : Int)), (11, iV .i64 x2335), (23, iV .i64 a2), (24, .ptr 4 0 1), (25, iV .i64 a0.f1), (26, .ptr 5 0 0), (27, iV .i64 b2340.f0), (28, iV .i64 t2351), (29, bV (decide (a2 < t2351))), (30, bV (decide (a2 < t2351)))], [(4, some (.box 35 (aHist a0))), (5, some (.box 127 (aBucket b2340)))], 0⟩ [Enters Try.prog 84, Pv.Fn Try.prog 84 [iV .i64 a0.f1, iV .i64 b2340.f0] [] 0 (fun r o => r = iV .i64 t2348 ∧ o = []), (decide (t2348 < a2)) = true, Enters Try.prog 43, Pv.Fn Try.prog 43 [iV .i64 a0.f1, iV .i64 b2340.f0] [] 0 (fun r o => r = iV .i64 t2351 ∧ o = [])] (by kernel_rfl) ⟨by exact Try.call84, by exact f_bound_Low.ok a0.f1 b2340.f0 t2348 e2349, by exact c2350, by exact Try.call43, by exact f_bound_Units.ok a0.f1 b2340.f0 t2351 e2352, trivial⟩ ?_
          obtain rfl := Option.some.inj H
          exact Exists.intro _ (And.intro (fun _ _ h => h.conv (inv := [(4, 6), (5, 7)]) (vk := []) (e0 := []) (t := ⟨[(2, iV .i64 a2), (3, .ptr 6 0 0), (8, .ptr 7 0 0), (9, .im (.row (a1.map eBucket))), (10, iV .i64 (a1.length : Int)), (11, iV .i64 x2335), (30, bV (decide (a2 < t2351)))], [(6, some (.box 35 (aHist a0))), (7, some (.box 127 (aBucket b2340)))], 0⟩) (by kernel_rfl)) (And.intro rfl rfl))
        · replace H := (ifF c2350).symm.trans H
          refine reg hP hn hm [(4, .call [] [] [] [] 0 (iV .i64 t2348) []), (7, .b false)] [2, 3, 8, 9, 10, 11, 30] [4, 5] ⟨[(2, iV .i64 a2), (3, .ptr 4 0 0), (8, .ptr 5 0 0), (9, .im (.row (a1.map eBucket))), (10, iV .i64 (a1.length : Int)), (11, iV .i64 x2335), (30, bV false)], [(4, some (.box 35 (aHist a0))), (5, some (.box 127 (aBucket b2340)))], 0⟩ [Enters Try.prog 84, Pv.Fn Try.prog 84 [iV .i64 a0.f1, iV .i64 b2340.f0] [] 0 (fun r o => r = iV .i64 t2348 ∧ o = []), (decide (t2348 < a2)) = false] (by kernel_rfl) ⟨by exact Try.call84, by exact f_bound_Low.ok a0.f1 b2340.f0 t2348 e2349, by exact c2350, trivial⟩ ?_
          obtain rfl := Option.some.inj H
          exact Exists.intro _ (And.intro (fun _ _ h => h.conv (inv := [(4, 6), (5, 7)]) (vk := []) (e0 := []) (t := ⟨[(2, iV .i64 a2), (3, .ptr 6 0 0), (8, .ptr 7 0 0), (9, .im (.row (a1.map eBucket))), (10, iV .i64 (a1.length : Int)), (11, iV .i64 x2335), (30, bV false)], [(6, some (.box 35 (aHist a0))), (7, some (.box 127 (aBucket b2340)))], 0⟩) (by kernel_rfl)) (And.intro rfl rfl))
      · obtain ⟨x2353, rfl⟩ : ∃ z, z = o2361 := ⟨_, rfl⟩
        rintro e s ⟨rfl, rfl⟩
        refine AWp.cond x2353 rfl (fun c2354 => ?_) (fun c2354 => ?_)
        · replace H := (ifT c2354).symm.trans H
          refine AWp.seq ?_
          obtain ⟨t2357, e2358, H⟩ := bind_of H
          refine reg hP hn hm [(4, .call [] [] [] [] 0 (iV .i64 t2357) [])] [6] [] ⟨[(6, iV .i64 t2357)], [], 0⟩ [Enters Try.prog 43, Pv.Fn Try.prog 43 [iV .i64 a0.f1, iV .i64 b2340.f0] [] 0 (fun r o => r = iV .i64 t2357 ∧ o = [])] (by kernel_rfl) ⟨by exact Try.call43, by exact f_bound_Units.ok a0.f1 b2340.f0 t2357 e2358, trivial⟩ ?_
          refine AWp.conv (inv := []) (vk := []) (e0 := []) (t := ⟨[(6, iV .i64 t2357)], [], 0⟩) (by kernel_rfl) ?_
          refine AWp.ret ?_
          obtain rfl := Option.some.inj H
          exact Exists.intro _ (And.intro (fun _ _ h => h) (And.intro rfl (And.intro rfl (And.intro (by kernel_rfl) (by kernel_rfl)))))
        · replace H := (ifF c2354).symm.trans H
          refine AWp.skip ?_
          refine reg hP hn hm [] [2, 3, 9, 10, 11] [6] ⟨[(2, iV .i64 a2), (3, .ptr 6 0 0), (9, .im (.row (a1.map eBucket))), (10, iV .i64 (a1.length : Int)), (11, iV .i64 (IntKind.i64.wrap (x2335 + (1 : Int))))], [(6, some (.box 35 (aHist a0)))], 0⟩ [] (by kernel_rfl) trivial ?_
          exact LWp.conv (inv := [(6, 4)]) (vk := []) (e0 := []) (t := ⟨[(2, iV .i64 a2), (3, .ptr 4 0 0), (9, .im (.row (a1.map eBucket))), (10, iV .i64 (a1.length : Int)), (11, iV .i64 (IntKind.i64.wrap (x2335 + (1 : Int))))], [(4, some (.box 35 (aHist a0)))], 0⟩) (by kernel_rfl) (ih _ _ H)
    · replace H := (ifF c2336).symm.trans H
      refine AWp.exit ?_
      obtain rfl := Option.some.inj H
      exact Exists.intro _ (And.intro (fun _ _ h => h.conv (inv := []) (vk := []) (e0 := []) (t := ⟨[(2, iV .i64 a2)], [], 0⟩) (by kernel_rfl)) (And.intro rfl rfl))
  · rcases o2359 with rr | _
    · skip
      rintro e s ⟨rfl, hfl, hres⟩
      obtain rfl := Option.some.inj H
      exact Exists.intro _ (And.intro (fun _ _ h => h) (And.intro (.inl rfl) (And.intro hfl hres)))
    · skip
      rintro e s ⟨rfl, rfl⟩
      refine AWp.seq ?_
      refine reg hP hn hm [] [6] [] ⟨[(6, iV .i64 a2)], [], 0⟩ [] (by kernel_rfl) trivial ?_
      refine AWp.conv (inv := []) (vk := []) (e0 := []) (t := ⟨[(6, iV .i64 a2)], [], 0⟩) (by kernel_rfl) ?_
      refine AWp.ret ?_
      obtain rfl := Option.some.inj H
      exact Exists.intro _ (And.intro (fun _ _ h => h) (And.intro (.inl rfl) (And.intro rfl (And.intro (by kernel_rfl) (by kernel_rfl)))))
def f_meld_swallow_1_8ce.l0 (a0 : List TBucket) (a1_c0 : Int) (a1_c1 : Int) (a1_c2 : Int) (a1_c4 : Int) (a1_c5 : Int) (a1_c6 : List TBucket) (a1_c7 : List TBucket) (a2_c0 : Int) (x2391 : Int) (x2392 : List TBucket) (x2393 : Int) : Option ((List TBucket) × Int) := if (decide (x2393 < (a0.length : Int))) = true then ((at? a0 x2393) >>= fun b2398 => (f_bound_Units.f a1_c1 b2398.f0) >>= fun t2403 => ((if (decide (t2403 > a2_c0)) = true then ((chk ((x2392.length + [b2398].length) * 16 ≤ 140737488355328)) >>= fun _ => some (x2391, x2392 ++ [b2398])) else ((f_num_Add.f [x2391, b2398.f1]) >>= fun t2410 => some (t2410.1, x2392))) : Option (Int × (List TBucket))) >>= fun oo => match oo with | (x2412, x2413) => (f_meld_swallow_1_8ce.l0 a0 a1_c0 a1_c1 a1_c2 a1_c4 a1_c5 a1_c6 a1_c7 a2_c0 x2412 x2413 (IntKind.i64.wrap (x2393 + (1 : Int))))) else (some (x2392, x2391))
partial_fixpoint
def f_meld_swallow_1_8ce.f (a0 : List TBucket) (a1_c0 : Int) (a1_c1 : Int) (a1_c2 : Int) (a1_c3 : Int) (a1_c4 : Int) (a1_c5 : Int) (a1_c6 : List TBucket) (a1_c7 : List TBucket) (a2_c0 : Int) : Option ((List TBucket) × Int) := (f_meld_swallow_1_8ce.l0 a0 a1_c0 a1_c1 a1_c2 a1_c4 a1_c5 a1_c6 a1_c7 a2_c0 a1_c3 [] 0) >>= fun oo => match oo with | (x2414, x2415) => (some (x2414, x2415))
theorem f_meld_swallow_1_8ce.ok (a0 : List TBucket) (a1_c0 : Int) (a1_c1 : Int) (a1_c2 : Int) (a1_c3 : Int) (a1_c4 : Int) (a1_c5 : Int) (a1_c6 : List TBucket) (a1_c7 : List TBucket) (a2_c0 : Int) (r : (List TBucket) × Int) (H : f_meld_swallow_1_8ce.f a0 a1_c0 a1_c1 a1_c2 a1_c3 a1_c4 a1_c5 a1_c6 a1_c7 a2_c0 = some r) : Pv.Fn Try.prog 111 [.im (.row (a0.map eBucket)), .ptr 0 0 0, .ptr 1 0 0] [(0, some (.box 35 (aHist ⟨a1_c0, a1_c1, a1_c2, a1_c3, a1_c4, a1_c5, a1_c6, a1_c7⟩))), (1, some (.box 3 [iV .i64 a2_c0]))] 2 (fun x o => x = .own 2 ∧ o = [(0, some (.box 35 (aHist ⟨a1_c0, a1_c1, a1_c2, r.2, a1_c4, a1_c5, a1_c6, a1_c7⟩))), (1, some (.box 3 [iV .i64 a2_c0])), (2, some (.row 2 127 (r.1.map eBucket)))]) := by
  unfold f_meld_swallow_1_8ce.f at H
  refine Fn.bodyK [0, 1, 2] Try.func111 rfl rfl (fun Γ hP hn => ?_)
  have hm : Try.prog.follows .mixedOrders = true := by kernel_rfl
  replace hn : Γ.n = 37 := hn
  refine AWp.seq ?_
  refine reg hP hn hm [] [0, 1, 2] [0, 1] ⟨[(0, .im (.row (a0.map eBucket))), (1, .ptr 0 0 0), (2, .ptr 1 0 0)], [(0, some (.box 35 (aHist ⟨a1_c0, a1_c1, a1_c2, a1_c3, a1_c4, a1_c5, a1_c6, a1_c7⟩))), (1, some (.box 3 [iV .i64 a2_c0]))], 2⟩ [] (by kernel_rfl) trivial ?_
  refine AWp.seq ?_
  refine reg hP hn hm [] [0, 1, 2, 5] [0, 1] ⟨[(0, .im (.row (a0.map eBucket))), (1, .ptr 0 0 0), (2, .ptr 1 0 0), (5, .none0)], [(0, some (.box 35 (aHist ⟨a1_c0, a1_c1, a1_c2, a1_c3, a1_c4, a1_c5, a1_c6, a1_c7⟩))), (1, some (.box 3 [iV .i64 a2_c0]))], 2⟩ [] (by kernel_rfl) trivial ?_
  refine AWp.seq ?_
  refine AWp.seq ?_
  refine reg hP hn hm [(1, .any (iV .i64 (a0.length : Int)))] [1, 2, 5, 8, 9, 10] [0, 1] ⟨[(1, .ptr 0 0 0), (2, .ptr 1 0 0), (5, .none0), (8, .im (.row (a0.map eBucket))), (9, iV .i64 (a0.length : Int)), (10, iV .i64 0)], [(0, some (.box 35 (aHist ⟨a1_c0, a1_c1, a1_c2, a1_c3, a1_c4, a1_c5, a1_c6, a1_c7⟩))), (1, some (.box 3 [iV .i64 a2_c0]))], 2⟩ [((a0.map eBucket).length : Int) = (a0.length : Int)] (by kernel_rfl) ⟨by rw [len_map], trivial⟩ ?_
  refine AWp.block ?_
  obtain ⟨o2416, e2417, H⟩ := bind_of H
  refine AWp.loop (LWp.conv (inv := [(0, 0), (1, 1)]) (vk := []) (e0 := [7]) (t := ⟨[(1, .ptr 0 0 0), (2, .ptr 1 0 0), (5, .own 7), (8, .im (.row (a0.map eBucket))), (9, iV .i64 (a0.length : Int)), (10, iV .i64 0)], [(0, some (.box 35 (aHist ⟨a1_c0, a1_c1, a1_c2, a1_c3, a1_c4, a1_c5, a1_c6, a1_c7⟩))), (1, some (.box 3 [iV .i64 a2_c0])), (7, some (.row 2 127 ([].map eBucket)))], 2⟩) (by kernel_rfl) ?_)
  refine LWp.mono (Q := fun e s => (match (generalizing := false) o2416 with | (x2414, x2415) => e = .exit 0 ∧ s = ⟨[(5, .own 13)], [(0, some (.box 35 (aHist ⟨a1_c0, a1_c1, a1_c2, x2415, a1_c4, a1_c5, a1_c6, a1_c7⟩))), (1, some (.box 3 [iV .i64 a2_c0])), (13, some (.row 2 127 (x2414.map eBucket)))], 2⟩)) (LWp.cv (withBody (fun body hbody => ?_))) ?_
  · refine f_meld_swallow_1_8ce.l0.partial_correctness a0 a1_c0 a1_c1 a1_c2 a1_c4 a1_c5 a1_c6 a1_c7 a2_c0 (motive := fun x2391 x2392 x2393 o2416 => LWp Γ body (fun e s => ∃ t, Cv Γ s t ∧ (match (generalizing := false) o2416 with | (x2414, x2415) => e = .exit 0 ∧ t = ⟨[(5, .own 13)], [(0, some (.box 35 (aHist ⟨a1_c0, a1_c1, a1_c2, x2415, a1_c4, a1_c5, a1_c6, a1_c7⟩))), (1, some (.box 3 [iV .i64 a2_c0])), (13, some (.row 2 127 (x2414.map eBucket)))], 2⟩)) ⟨[(1, .ptr 0 0 0), (2, .ptr 1 0 0), (5, .own 7), (8, .im (.row (a0.map eBucket))), (9, iV .i64 (a0.length : Int)), (10, iV .i64 x2393)], [(0, some (.box 35 (aHist ⟨a1_c0, a1_c1, a1_c2, x2391, a1_c4, a1_c5, a1_c6, a1_c7⟩))), (1, some (.box 3 [iV .i64 a2_c0])), (7, some (.row 2 127 (x2392.map eBucket)))], 2⟩) ?_ _ _ _ _ e2417
    clear H e2417 o2416; intro self ih x2391 x2392 x2393 o2416 H
    subst hbody
    refine LWp.round ?_
    refine AWp.seq ?_
    refine reg hP hn hm [] [1, 2, 5, 8, 9, 10, 11] [0, 1, 7] ⟨[(1, .ptr 0 0 0), (2, .ptr 1 0 0), (5, .own 7), (8, .im (.row (a0.map eBucket))), (9, iV .i64 (a0.length : Int)), (10, iV .i64 x2393), (11, bV (decide (x2393 < (a0.length : Int))))], [(0, some (.box 35 (aHist ⟨a1_c0, a1_c1, a1_c2, x2391, a1_c4, a1_c5, a1_c6, a1_c7⟩))), (1, some (.box 3 [iV .i64 a2_c0])), (7, some (.row 2 127 (x2392.map eBucket)))], 2⟩ [] (by kernel_rfl) trivial ?_
    refine AWp.seq ?_
    refine AWp.cond (decide (x2393 < (a0.length : Int))) rfl (fun c2394 => ?_) (fun c2394 => ?_)
    · replace H := (ifT c2394).symm.trans H
      refine AWp.skip ?_
      refine AWp.seq ?_
      refine AWp.block ?_
      refine AWp.seq ?_
      obtain ⟨b2398, p2399, q2400, H⟩ := at_of H
      refine reg hP hn hm [(0, .c (eBucket b2398)), (2, .k 8)] [1, 2, 5, 7, 8, 9, 10] [0, 1, 7, 8] ⟨[(1, .ptr 0 0 0), (2, .ptr 1 0 0), (5, .own 7), (7, .ptr 8 0 0), (8, .im (.row (a0.map eBucket))), (9, iV .i64 (a0.length : Int)), (10, iV .i64 x2393)], [(0, some (.box 35 (aHist ⟨a1_c0, a1_c1, a1_c2, x2391, a1_c4, a1_c5, a1_c6, a1_c7⟩))), (1, some (.box 3 [iV .i64 a2_c0])), (7, some (.row 2 127 (x2392.map eBucket))), (8, some (.box 127 (aBucket b2398)))], 2⟩ [0 ≤ x2393, (a0.map eBucket)[(Int.toNat (x2393))]? = some (eBucket b2398)] (by kernel_rfl) ⟨by exact p2399, by exact el_map eBucket q2400, trivial⟩ ?_
      refine AWp.seq ?_
      obtain ⟨t2403, e2404, H⟩ := bind_of H
      refine reg hP hn hm [(4, .call [] [] [] [] 0 (iV .i64 t2403) [])] [1, 2, 5, 7, 8, 9, 10, 20] [0, 1, 7, 8] ⟨[(1, .ptr 0 0 0), (2, .ptr 1 0 0), (5, .own 7), (7, .ptr 8 0 0), (8, .im (.row (a0.map eBucket))), (9, iV .i64 (a0.length : Int)), (10, iV .i64 x2393), (20, bV (decide (t2403 > a2_c0)))], [(0, some (.box 35 (aHist ⟨a1_c0, a1_c1, a1_c2, x2391, a1_c4, a1_c5, a1_c6, a1_c7⟩))), (1, some (.box 3 [iV .i64 a2_c0])), (7, some (.row 2 127 (x2392.map eBucket))), (8, some (.box 127 (aBucket b2398)))], 2⟩ [Enters Try.prog 43, Pv.Fn Try.prog 43 [iV .i64 a1_c1, iV .i64 b2398.f0] [] 0 (fun r o => r = iV .i64 t2403 ∧ o = [])] (by kernel_rfl) ⟨by exact Try.call43, by exact f_bound_Units.ok a1_c1 b2398.f0 t2403 e2404, trivial⟩ ?_
      obtain ⟨o2418, e2419, H⟩ := bind_of H
      refine AWp.mono (Q := fun e s => (match (generalizing := false) o2418 with | (x2412, x2413) => e = .normal ∧ s = ⟨[(1, .ptr 0 0 0), (2, .ptr 1 0 0), (5, .own 12), (8, .im (.row (a0.map eBucket))), (9, iV .i64 (a0.length : Int)), (10, iV .i64 x2393)], [(0, some (.box 35 (aHist ⟨a1_c0, a1_c1, a1_c2, x2412, a1_c4, a1_c5, a1_c6, a1_c7⟩))), (1, some (.box 3 [iV .i64 a2_c0])), (12, some (.row 2 127 (x2413.map eBucket)))], 2⟩)) (AWp.cv ?_) ?_
      · replace H := e2419; clear e2419
        refine AWp.cond (decide (t2403 > a2_c0)) rfl (fun c2405 => ?_) (fun c2405 => ?_)
        · replace H := (ifT c2405).symm.trans H
          obtain ⟨c2407, H⟩ := chk_of H
          refine reg hP hn hm [(2, .app 9 ([b2398].map eBucket)), (3, .app 10 ((x2392 ++ [b2398]).map eBucket))] [1, 2, 5, 8, 9, 10] [0, 1, 10] ⟨[(1, .ptr 0 0 0), (2, .ptr 1 0 0), (5, .own 10), (8, .im (.row (a0.map eBucket))), (9, iV .i64 (a0.length : Int)), (10, iV .i64 x2393)], [(0, some (.box 35 (aHist ⟨a1_c0, a1_c1, a1_c2, x2391, a1_c4, a1_c5, a1_c6, a1_c7⟩))), (1, some (.box 3 [iV .i64 a2_c0])), (10, some (.row 2 127 ((x2392 ++ [b2398]).map eBucket)))], 2⟩ [[b2398].map eBucket = [[iI .i64 b2398.f0, iI .u64 b2398.f1]], (x2392 ++ [b2398]).map eBucket = (x2392.map eBucket) ++ ([b2398].map eBucket), ∀ c ∈ ([b2398].map eBucket), c.length = 2, ∀ c ∈ ([b2398].map eBucket), leaves (c.map .im) = true, ((x2392.map eBucket).length + ([b2398].map eBucket).length) * 16 ≤ 140737488355328] (by kernel_rfl) ⟨by exact rfl, by simp, by exact all_len _ _ _ (fun _ => rfl), by exact all_leaf _ _ (fun _ => rfl), by simpa using c2407, trivial⟩ ?_
          obtain rfl := Option.some.inj H
          exact Exists.intro _ (And.intro (fun _ _ h => h.conv (inv := [(0, 0), (1, 1), (10, 12)]) (vk := []) (e0 := []) (t := ⟨[(1, .ptr 0 0 0), (2, .ptr 1 0 0), (5, .own 12), (8, .im (.row (a0.map eBucket))), (9, iV .i64 (a0.length : Int)), (10, iV .i64 x2393)], [(0, some (.box 35 (aHist ⟨a1_c0, a1_c1, a1_c2, x2391, a1_c4, a1_c5, a1_c6, a1_c7⟩))), (1, some (.box 3 [iV .i64 a2_c0])), (12, some (.row 2 127 ((x2392 ++ [b2398]).map eBucket)))], 2⟩) (by kernel_rfl)) (And.intro rfl rfl))
        · replace H := (ifF c2405).symm.trans H
          obtain ⟨t2410, e2411, H⟩ := bind_of H
          refine reg hP hn hm [(4, .app 11 ([x2391, b2398.f1].map (encInt .u64))), (5, .call [] [] [11] [] 0 (.tup [iV .u64 t2410.1, iV .i64 t2410.2]) [])] [1, 2, 5, 8, 9, 10] [0, 1, 7] ⟨[(1, .ptr 0 0 0), (2, .ptr 1 0 0), (5, .own 7), (8, .im (.row (a0.map eBucket))), (9, iV .i64 (a0.length : Int)), (10, iV .i64 x2393)], [(0, some (.box 35 (aHist ⟨a1_c0, a1_c1, a1_c2, t2410.1, a1_c4, a1_c5, a1_c6, a1_c7⟩))), (1, some (.box 3 [iV .i64 a2_c0])), (7, some (.row 2 127 (x2392.map eBucket)))], 2⟩ [[x2391, b2398.f1].map (encInt .u64) = [[iI .u64 x2391], [iI .u64 b2398.f1]], Enters Try.prog 107, Pv.Fn Try.prog 107 [.im (.row ([x2391, b2398.f1].map (encInt .u64)))] [] 0 (fun r o => r = .tup [iV .u64 t2410.1, iV .i64 t2410.2] ∧ o = [])] (by kernel_rfl) ⟨by exact rfl, by exact Try.call107, by exact f_num_Add.ok [x2391, b2398.f1] t2410 e2411, trivial⟩ ?_
          obtain rfl := Option.some.inj H
          exact Exists.intro _ (And.intro (fun _ _ h => h.conv (inv := [(0, 0), (1, 1), (7, 12)]) (vk := []) (e0 := []) (t := ⟨[(1, .ptr 0 0 0), (2, .ptr 1 0 0), (5, .own 12), (8, .im (.row (a0.map eBucket))), (9, iV .i64 (a0.length : Int)), (10, iV .i64 x2393)], [(0, some (.box 35 (aHist ⟨a1_c0, a1_c1, a1_c2, t2410.1, a1_c4, a1_c5, a1_c6, a1_c7⟩))), (1, some (.box 3 [iV .i64 a2_c0])), (12, some (.row 2 127 (x2392.map eBucket)))], 2⟩) (by kernel_rfl)) (And.intro rfl rfl))
      · obtain ⟨x2412, x2413⟩ := o2418
        rintro e s ⟨rfl, rfl⟩
        refine reg hP hn hm [] [1, 2, 5, 8, 9, 10] [0, 1, 12] ⟨[(1, .ptr 0 0 0), (2, .ptr 1 0 0), (5, .own 12), (8, .im (.row (a0.map eBucket))), (9, iV .i64 (a0.length : Int)), (10, iV .i64 (IntKind.i64.wrap (x2393 + (1 : Int))))], [(0, some (.box 35 (aHist ⟨a1_c0, a1_c1, a1_c2, x2412, a1_c4, a1_c5, a1_c6, a1_c7⟩))), (1, some (.box 3 [iV .i64 a2_c0])), (12, some (.row 2 127 (x2413.map eBucket)))], 2⟩ [] (by kernel_rfl) trivial ?_
        exact LWp.conv (inv := [(0, 0), (1, 1), (12, 7)]) (vk := []) (e0 := []) (t := ⟨[(1, .ptr 0 0 0), (2, .ptr 1 0 0), (5, .own 7), (8, .im (.row (a0.map eBucket))), (9, iV .i64 (a0.length : Int)), (10, iV .i64 (IntKind.i64.wrap (x2393 + (1 : Int))))], [(0, some (.box 35 (aHist ⟨a1_c0, a1_c1, a1_c2, x2412, a1_c4, a1_c5, a1_c6, a1_c7⟩))), (1, some (.box 3 [iV .i64 a2_c0])), (7, some (.row 2 127 (x2413.map eBucket)))], 2⟩) (by kernel_rfl) (ih _ _ _ _ H)
    · replace H := (ifF c2394).symm.trans H
      refine AWp.exit ?_
      obtain rfl := Option.some.inj H
      exact Exists.intro _ (And.intro (fun _ _ h => h.conv (inv := [(7, 13), (0, 0), (1, 1)]) (vk := []) (e0 := []) (t := ⟨[(5, .own 13)], [(0, some (.box 35 (aHist ⟨a1_c0, a1_c1, a1_c2, x2391, a1_c4, a1_c5, a1_c6, a1_c7⟩))), (1, some (.box 3 [iV .i64 a2_c0])), (13, some (.row 2 127 (x2392.map eBucket)))], 2⟩) (by kernel_rfl)) (And.intro rfl rfl))
  · obtain ⟨x2414, x2415⟩ := o2416
    rintro e s ⟨rfl, rfl⟩
    refine AWp.seq ?_
    refine reg hP hn hm [] [4] [0, 1, 13] ⟨[(4, .own 13)], [(0, some (.box 35 (aHist ⟨a1_c0, a1_c1, a1_c2, x2415, a1_c4, a1_c5, a1_c6, a1_c7⟩))), (1, some (.box 3 [iV .i64 a2_c0])), (13, some (.row 2 127 (x2414.map eBucket)))], 2⟩ [] (by kernel_rfl) trivial ?_
    refine AWp.conv (inv := [(0, 0), (1, 1), (13, 2)]) (vk := []) (e0 := []) (t := ⟨[(4, .own 2)], [(0, some (.box 35 (aHist ⟨a1_c0, a1_c1, a1_c2, x2415, a1_c4, a1_c5, a1_c6, a1_c7⟩))), (1, some (.box 3 [iV .i64 a2_c0])), (2, some (.row 2 127 (x2414.map eBucket)))], 2⟩) (by kernel_rfl) ?_
    refine AWp.ret ?_
    obtain rfl := Option.some.inj H
    exact Exists.intro _ (And.intro (fun _ _ h => h) (And.intro (.inl rfl) (And.intro rfl (And.intro (by kernel_rfl) (by kernel_rfl)))))
def f_meld_swallow.f (a0 : THist) (a1 : List TBucket) (a2 : List TBucket) (a3 : Int) : Option (THist × Int) := (f_meld_edge.f a0 a1 a3) >>= fun t2367 => (f_meld_edge.f a0 a2 a3) >>= fun t2369 => (f_meld_swallow_1_8ce.f a1 a0.f0 a0.f1 a0.f2 a0.f3 a0.f4 a0.f5 a0.f6 a0.f7 (if t2369 > t2367 then t2369 else t2367)) >>= fun t2424 => (f_meld_swallow_1_8ce.f a2 a0.f0 a0.f1 a0.f2 t2424.2 a0.f4 a0.f5 a0.f6 a0.f7 (if t2369 > t2367 then t2369 else t2367)) >>= fun t2426 => (f_hist_Make.f (⟨a0.f0, a0.f1, (if t2369 > t2367 then t2369 else t2367), t2426.2, a0.f4, a0.f5, a0.f6, a0.f7⟩ : THist) t2424.1 t2426.1) >>= fun t2432 => some ((t2432.1), t2432.2)
theorem f_meld_swallow.ok (a0 : THist) (a1 : List TBucket) (a2 : List TBucket) (a3 : Int) (r : THist × Int) (H : f_meld_swallow.f a0 a1 a2 a3 = some r) : Pv.Fn Try.prog 82 [.agg (aHist a0), .im (.row (a1.map eBucket)), .im (.row (a2.map eBucket)), iV .i64 a3] [] 0 (fun x o => x = .tup [.agg (aHist (r.1)), iV .i64 r.2] ∧ o = []) := by
  unfold f_meld_swallow.f at H
  refine Fn.bodyK [] Try.func82 rfl rfl (fun Γ hP hn => ?_)
  have hm : Try.prog.follows .mixedOrders = true := by kernel_rfl
  replace hn : Γ.n = 35 := hn
  refine AWp.seq ?_
  refine reg hP hn hm [(0, .k 0), (1, .k 1), (2, .k 2)] [1, 2, 4, 7, 8] [0, 1, 2] ⟨[(1, .im (.row (a1.map eBucket))), (2, .im (.row (a2.map eBucket))), (4, .ptr 0 0 0), (7, .ptr 1 0 0), (8, .ptr 2 0 0)], [(0, some (.box 35 (aHist a0))), (1, some (.box 3 [iV .i64 a3])), (2, some (.box 35 [iV .i64 0, iV .i64 0, iV .i64 0, iV .u64 0, iV .u64 0, iV .i64 0, .none0, .none0]))], 0⟩ [] (by kernel_rfl) trivial ?_
  refine AWp.seq ?_
  obtain ⟨t2367, e2368, H⟩ := bind_of H
  obtain ⟨t2369, e2370, H⟩ := bind_of H
  refine reg hP hn hm [(3, .call [] [] [] [] 0 (iV .i64 t2367) []), (7, .call [] [] [] [] 0 (iV .i64 t2369) []), (8, .more xMax)] [1, 2, 4, 7, 8] [0, 1, 2] ⟨[(1, .im (.row (a1.map eBucket))), (2, .im (.row (a2.map eBucket))), (4, .ptr 0 0 0), (7, .ptr 1 0 0), (8, .ptr 2 0 0)], [(0, some (.box 35 (aHist a0))), (1, some (.box 3 [iV .i64 (if t2369 > t2367 then t2369 else t2367)])), (2, some (.box 35 [iV .i64 0, iV .i64 0, iV .i64 0, iV .u64 0, iV .u64 0, iV .i64 0, .none0, .none0]))], 0⟩ [Enters Try.prog 110, Pv.Fn Try.prog 110 [.agg (aHist a0), .im (.row (a1.map eBucket)), iV .i64 a3] [] 0 (fun r o => r = iV .i64 t2367 ∧ o = []), Enters Try.prog 110, Pv.Fn Try.prog 110 [.agg (aHist a0), .im (.row (a2.map eBucket)), iV .i64 a3] [] 0 (fun r o => r = iV .i64 t2369 ∧ o = [])] (by kernel_rfl) ⟨by exact Try.call110, by exact f_meld_edge.ok a0 a1 a3 t2367 e2368, by exact Try.call110, by exact f_meld_edge.ok a0 a2 a3 t2369 e2370, trivial⟩ ?_
  refine AWp.seq ?_
  refine reg hP hn hm [(0, .more xFunc)] [1, 2, 4, 7, 8, 10] [0, 1, 2] ⟨[(1, .im (.row (a1.map eBucket))), (2, .im (.row (a2.map eBucket))), (4, .ptr 0 0 0), (7, .ptr 1 0 0), (8, .ptr 2 0 0), (10, .fn 111 [.ptr 0 0 0, .ptr 1 0 0])], [(0, some (.box 35 (aHist a0))), (1, some (.box 3 [iV .i64 (if t2369 > t2367 then t2369 else t2367)])), (2, some (.box 35 [iV .i64 0, iV .i64 0, iV .i64 0, iV .u64 0, iV .u64 0, iV .i64 0, .none0, .none0]))], 0⟩ [] (by kernel_rfl) trivial ?_
  refine AWp.seq ?_
  obtain ⟨t2424, e2425, H⟩ := bind_of H
  obtain ⟨t2426, e2427, H⟩ := bind_of H
  refine reg hP hn hm [(2, .call [(0, 0), (1, 1)] [(0, 0), (1, 1), (2, 3)] [] [3] 2 (.own 2) [(0, some (.box 35 (aHist ⟨a0.f0, a0.f1, a0.f2, t2424.2, a0.f4, a0.f5, a0.f6, a0.f7⟩))), (1, some (.box 3 [iV .i64 (if t2369 > t2367 then t2369 else t2367)])), (2, some (.row 2 127 (t2424.1.map eBucket)))]), (5, .call [(0, 0), (1, 1)] [(0, 0), (1, 1), (2, 4)] [] [4] 2 (.own 2) [(0, some (.box 35 (aHist ⟨a0.f0, a0.f1, a0.f2, t2426.2, a0.f4, a0.f5, a0.f6, a0.f7⟩))), (1, some (.box 3 [iV .i64 (if t2369 > t2367 then t2369 else t2367)])), (2, some (.row 2 127 (t2426.1.map eBucket)))])] [1, 2, 4, 7, 8] [0, 1, 2, 3, 4] ⟨[(1, .own 3), (2, .own 4), (4, .ptr 0 0 0), (7, .ptr 1 0 0), (8, .ptr 2 0 0)], [(0, some (.box 35 (aHist ⟨a0.f0, a0.f1, a0.f2, t2426.2, a0.f4, a0.f5, a0.f6, a0.f7⟩))), (1, some (.box 3 [iV .i64 (if t2369 > t2367 then t2369 else t2367)])), (2, some (.box 35 [iV .i64 0, iV .i64 0, iV .i64 0, iV .u64 0, iV .u64 0, iV .i64 0, .none0, .none0])), (3, some (.row 2 127 (t2424.1.map eBucket))), (4, some (.row 2 127 (t2426.1.map eBucket)))], 0⟩ [Enters Try.prog 111, Pv.Fn Try.prog 111 [.im (.row (a1.map eBucket)), .ptr 0 0 0, .ptr 1 0 0] [(0, some (.box 35 (aHist a0))), (1, some (.box 3 [iV .i64 (if t2369 > t2367 then t2369 else t2367)]))] 2 (fun r o => r = .own 2 ∧ o = [(0, some (.box 35 (aHist ⟨a0.f0, a0.f1, a0.f2, t2424.2, a0.f4, a0.f5, a0.f6, a0.f7⟩))), (1, some (.box 3 [iV .i64 (if t2369 > t2367 then t2369 else t2367)])), (2, some (.row 2 127 (t2424.1.map eBucket)))]), Enters Try.prog 111, Pv.Fn Try.prog 111 [.im (.row (a2.map eBucket)), .ptr 0 0 0, .ptr 1 0 0] [(0, some (.box 35 (aHist ⟨a0.f0, a0.f1, a0.f2, t2424.2, a0.f4, a0.f5, a0.f6, a0.f7⟩))), (1, some (.box 3 [iV .i64 (if t2369 > t2367 then t2369 else t2367)]))] 2 (fun r o => r = .own 2 ∧ o = [(0, some (.box 35 (aHist ⟨a0.f0, a0.f1, a0.f2, t2426.2, a0.f4, a0.f5, a0.f6, a0.f7⟩))), (1, some (.box 3 [iV .i64 (if t2369 > t2367 then t2369 else t2367)])), (2, some (.row 2 127 (t2426.1.map eBucket)))])] (by kernel_rfl) ⟨by exact Try.call111, by exact f_meld_swallow_1_8ce.ok a1 a0.f0 a0.f1 a0.f2 a0.f3 a0.f4 a0.f5 a0.f6 a0.f7 (if t2369 > t2367 then t2369 else t2367) t2424 e2425, by exact Try.call111, by exact f_meld_swallow_1_8ce.ok a2 a0.f0 a0.f1 a0.f2 t2424.2 a0.f4 a0.f5 a0.f6 a0.f7 (if t2369 > t2367 then t2369 else t2367) t2426 e2427, trivial⟩ ?_
  refine AWp.seq ?_
  refine reg hP hn hm [] [1, 2, 4, 8] [0, 2, 3, 4] ⟨[(1, .own 3), (2, .own 4), (4, .ptr 0 0 0), (8, .ptr 2 0 0)], [(0, some (.box 35 (aHist ⟨a0.f0, a0.f1, (if t2369 > t2367 then t2369 else t2367), t2426.2, a0.f4, a0.f5, a0.f6, a0.f7⟩))), (2, some (.box 35 [iV .i64 0, iV .i64 0, iV .i64 0, iV .u64 0, iV .u64 0, iV .i64 0, .none0, .none0])), (3, some (.row 2 127 (t2424.1.map eBucket))), (4, some (.row 2 127 (t2426.1.map eBucket)))], 0⟩ [] (by kernel_rfl) trivial ?_
  refine AWp.seq ?_
  refine AWp.conv (inv := [(2, 2), (0, 0)]) (vk := [3, 4]) (e0 := []) (t := ⟨[(1, .im (.row (t2424.1.map eBucket))), (2, .im (.row (t2426.1.map eBucket))), (4, .ptr 0 0 0), (8, .ptr 2 0 0)], [(0, some (.box 35 (aHist ⟨a0.f0, a0.f1, (if t2369 > t2367 then t2369 else t2367), t2426.2, a0.f4, a0.f5, a0.f6, a0.f7⟩))), (2, some (.box 35 [iV .i64 0, iV .i64 0, iV .i64 0, iV .u64 0, iV .u64 0, iV .i64 0, .none0, .none0]))], 0⟩) (by kernel_rfl) ?_
  obtain ⟨t2432, e2433, H⟩ := bind_of H
  refine reg hP hn hm [(3, .call [] [] [] [] 0 (.tup [.agg (aHist (t2432.1)), iV .i64 t2432.2]) [])] [8, 9] [2] ⟨[(8, .ptr 2 0 0), (9, iV .i64 t2432.2)], [(2, some (.box 35 (aHist (t2432.1))))], 0⟩ [Enters Try.prog 68, Pv.Fn Try.prog 68 [.agg (aHist ⟨a0.f0, a0.f1, (if t2369 > t2367 then t2369 else t2367), t2426.2, a0.f4, a0.f5, a0.f6, a0.f7⟩), .im (.row (t2424.1.map eBucket)), .im (.row (t2426.1.map eBucket))] [] 0 (fun r o => r = .tup [.agg (aHist (t2432.1)), iV .i64 t2432.2] ∧ o = [])] (by kernel_rfl) ⟨by exact Try.call68, by exact f_hist_Make.ok (⟨a0.f0, a0.f1, (if t2369 > t2367 then t2369 else t2367), t2426.2, a0.f4, a0.f5, a0.f6, a0.f7⟩ : THist) t2424.1 t2426.1 t2432 e2433, trivial⟩ ?_
  refine AWp.conv (inv := [(2, 0)]) (vk := []) (e0 := []) (t := ⟨[(8, .ptr 0 0 0), (9, iV .i64 t2432.2)], [(0, some (.box 35 (aHist ((t2432.1)))))], 0⟩) (by kernel_rfl) ?_
  refine AWp.ret ?_
  obtain rfl := Option.some.inj H
  exact Exists.intro _ (And.intro (fun _ _ h => h) (And.intro (.inl rfl) (And.intro rfl (And.intro (by kernel_rfl) (by kernel_rfl)))))
def f_meld_Down.f (a0 : THist) (a1 : Int) : Option (THist × Int) := (((f_bound_Right.f a1) >>= fun t2241 => if (!t2241) = true then (some true) else (some (decide (a1 > a0.f1)))) : Option (Bool)) >>= fun x2244 => if x2244 = true then (some ((⟨0, 0, 0, 0, 0, 0, [], []⟩ : THist), 20)) else ((f_meld_down.f a0.f6 a0.f1 a1) >>= fun t2308 => (f_meld_down.f a0.f7 a0.f1 a1) >>= fun t2310 => (f_meld_swallow.f (⟨a0.f0, a1, a0.f2, a0.f3, a0.f4, a0.f5, a0.f6, a0.f7⟩ : THist) t2308 t2310 a0.f2) >>= fun t2438 => some ((t2438.1), t2438.2))
theorem f_meld_Down.ok (a0 : THist) (a1 : Int) (r : THist × Int) (H : f_meld_Down.f a0 a1 = some r) : Pv.Fn Try.prog 41 [.agg (aHist a0), iV .i64 a1] [] 0 (fun x o => x = .tup [.agg (aHist (r.1)), iV .i64 r.2] ∧ o = []) := by
  unfold f_meld_Down.f at H
  refine Fn.bodyK [] Try.func41 rfl rfl (fun Γ hP hn => ?_)
  have hm : Try.prog.follows .mixedOrders = true := by kernel_rfl
  replace hn : Γ.n = 41 := hn
  refine AWp.seq ?_
  refine reg hP hn hm [(0, .k 0), (1, .k 1)] [1, 2, 4] [0, 1] ⟨[(1, iV .i64 a1), (2, .ptr 0 0 0), (4, .ptr 1 0 0)], [(0, some (.box 35 (aHist a0))), (1, some (.box 35 [iV .i64 0, iV .i64 0, iV .i64 0, iV .u64 0, iV .u64 0, iV .i64 0, .none0, .none0]))], 0⟩ [] (by kernel_rfl) trivial ?_
  refine AWp.seq ?_
  refine AWp.seq ?_
  obtain ⟨o2440, e2441, H⟩ := bind_of H
  refine AWp.mono (Q := fun e s => (match (generalizing := false) o2440 with | x2244 => e = .normal ∧ s = ⟨[(1, iV .i64 a1), (2, .ptr 2 0 0), (4, .ptr 3 0 0), (17, bV x2244)], [(2, some (.box 35 (aHist a0))), (3, some (.box 35 [iV .i64 0, iV .i64 0, iV .i64 0, iV .u64 0, iV .u64 0, iV .i64 0, .none0, .none0]))], 0⟩)) (AWp.cv ?_) ?_
  · replace H := e2441; clear e2441
    obtain ⟨t2241, e2242, H⟩ := bind_of H
    rcases Bool.eq_false_or_eq_true (!t2241) with c2243 | c2243
    · replace H := (ifT c2243).symm.trans H
      refine reg hP hn hm [(1, .call [] [] [] [] 0 (bV t2241) []), (3, .b true)] [1, 2, 4, 17] [0, 1] ⟨[(1, iV .i64 a1), (2, .ptr 0 0 0), (4, .ptr 1 0 0), (17, bV true)], [(0, some (.box 35 (aHist a0))), (1, some (.box 35 [iV .i64 0, iV .i64 0, iV .i64 0, iV .u64 0, iV .u64 0, iV .i64 0, .none0, .none0]))], 0⟩ [Enters Try.prog 80, Pv.Fn Try.prog 80 [iV .i64 a1] [] 0 (fun r o => r = bV t2241 ∧ o = []), (!t2241) = true] (by kernel_rfl) ⟨by exact Try.call80, by exact f_bound_Right.ok a1 t2241 e2242, by exact c2243, trivial⟩ ?_
      obtain rfl := Option.some.inj H
      exact Exists.intro _ (And.intro (fun _ _ h => h.conv (inv := [(0, 2), (1, 3)]) (vk := []) (e0 := []) (t := ⟨[(1, iV .i64 a1), (2, .ptr 2 0 0), (4, .ptr 3 0 0), (17, bV true)], [(2, some (.box 35 (aHist a0))), (3, some (.box 35 [iV .i64 0, iV .i64 0, iV .i64 0, iV .u64 0, iV .u64 0, iV .i64 0, .none0, .none0]))], 0⟩) (by kernel_rfl)) (And.intro rfl rfl))
    · replace H := (ifF c2243).symm.trans H
      refine reg hP hn hm [(1, .call [] [] [] [] 0 (bV t2241) []), (3, .b false)] [1, 2, 4, 17] [0, 1] ⟨[(1, iV .i64 a1), (2, .ptr 0 0 0), (4, .ptr 1 0 0), (17, bV (decide (a1 > a0.f1)))], [(0, some (.box 35 (aHist a0))), (1, some (.box 35 [iV .i64 0, iV .i64 0, iV .i64 0, iV .u64 0, iV .u64 0, iV .i64 0, .none0, .none0]))], 0⟩ [Enters Try.prog 80, Pv.Fn Try.prog 80 [iV .i64 a1] [] 0 (fun r o => r = bV t2241 ∧ o = []), (!t2241) = false] (by kernel_rfl) ⟨by exact Try.call80, by exact f_bound_Right.ok a1 t2241 e2242, by exact c2243, trivial⟩ ?_
      obtain rfl := Option.some.inj H
      exact Exists.intro _ (And.intro (fun _ _ h => h.conv (inv := [(0, 2), (1, 3)]) (vk := []) (e0 := []) (t := ⟨[(1, iV .i64 a1), (2, .ptr 2 0 0), (4, .ptr 3 0 0), (17, bV (decide (a1 > a0.f1)))], [(2, some (.box 35 (aHist a0))), (3, some (.box 35 [iV .i64 0, iV .i64 0, iV .i64 0, iV .u64 0, iV .u64 0, iV .i64 0, .none0, .none0]))], 0⟩) (by kernel_rfl)) (And.intro rfl rfl))
  · obtain ⟨x2244, rfl⟩ : ∃ z, z = o2440 := ⟨_, rfl⟩
    rintro e s ⟨rfl, rfl⟩
    refine AWp.cond x2244 rfl (fun c2245 => ?_) (fun c2245 => ?_)
    · replace H := (ifT c2245).symm.trans H
      refine AWp.seq ?_
      refine reg hP hn hm [] [4, 5] [3] ⟨[(4, .ptr 3 0 0), (5, iV .i64 20)], [(3, some (.box 35 [iV .i64 0, iV .i64 0, iV .i64 0, iV .u64 0, iV .u64 0, iV .i64 0, .none0, .none0]))], 0⟩ [] (by kernel_rfl) trivial ?_
      refine AWp.conv (inv := [(3, 0)]) (vk := []) (e0 := []) (t := ⟨[(4, .ptr 0 0 0), (5, iV .i64 20)], [(0, some (.box 35 (aHist ((⟨0, 0, 0, 0, 0, 0, [], []⟩ : THist)))))], 0⟩) (by kernel_rfl) ?_
      refine AWp.ret ?_
      obtain rfl := Option.some.inj H
      exact Exists.intro _ (And.intro (fun _ _ h => h) (And.intro (.inl rfl) (And.intro rfl (And.intro (by kernel_rfl) (by kernel_rfl)))))
    · replace H := (ifF c2245).symm.trans H
      refine AWp.skip ?_
      refine AWp.seq ?_
      refine reg hP hn hm [] [1, 2, 4, 6] [2, 3] ⟨[(1, iV .i64 a1), (2, .ptr 2 0 0), (4, .ptr 3 0 0), (6, iV .i64 a0.f1)], [(2, some (.box 35 (aHist a0))), (3, some (.box 35 [iV .i64 0, iV .i64 0, iV .i64 0, iV .u64 0, iV .u64 0, iV .i64 0, .none0, .none0]))], 0⟩ [] (by kernel_rfl) trivial ?_
      refine AWp.seq ?_
      refine reg hP hn hm [] [1, 2, 4, 6] [2, 3] ⟨[(1, iV .i64 a1), (2, .ptr 2 0 0), (4, .ptr 3 0 0), (6, iV .i64 a0.f1)], [(2, some (.box 35 (aHist ⟨a0.f0, a1, a0.f2, a0.f3, a0.f4, a0.f5, a0.f6, a0.f7⟩))), (3, some (.box 35 [iV .i64 0, iV .i64 0, iV .i64 0, iV .u64 0, iV .u64 0, iV .i64 0, .none0, .none0]))], 0⟩ [] (by kernel_rfl) trivial ?_
      refine AWp.seq ?_
      obtain ⟨t2308, e2309, H⟩ := bind_of H
      obtain ⟨t2310, e2311, H⟩ := bind_of H
      refine reg hP hn hm [(4, .call [] [(0, 4)] [] [4] 0 (.own 0) [(0, some (.row 2 127 (t2308.map eBucket)))]), (9, .call [] [(0, 5)] [] [5] 0 (.own 0) [(0, some (.row 2 127 (t2310.map eBucket)))])] [2, 4, 7, 8] [2, 3, 4, 5] ⟨[(2, .ptr 2 0 0), (4, .ptr 3 0 0), (7, .own 4), (8, .own 5)], [(2, some (.box 35 (aHist ⟨a0.f0, a1, a0.f2, a0.f3, a0.f4, a0.f5, a0.f6, a0.f7⟩))), (3, some (.box 35 [iV .i64 0, iV .i64 0, iV .i64 0, iV .u64 0, iV .u64 0, iV .i64 0, .none0, .none0])), (4, some (.row 2 127 (t2308.map eBucket))), (5, some (.row 2 127 (t2310.map eBucket)))], 0⟩ [Enters Try.prog 81, Pv.Fn Try.prog 81 [.im (.row (a0.f6.map eBucket)), iV .i64 a0.f1, iV .i64 a1] [] 0 (fun r o => r = .own 0 ∧ o = [(0, some (.row 2 127 (t2308.map eBucket)))]), Enters Try.prog 81, Pv.Fn Try.prog 81 [.im (.row (a0.f7.map eBucket)), iV .i64 a0.f1, iV .i64 a1] [] 0 (fun r o => r = .own 0 ∧ o = [(0, some (.row 2 127 (t2310.map eBucket)))])] (by kernel_rfl) ⟨by exact Try.call81, by exact f_meld_down.ok a0.f6 a0.f1 a1 t2308 e2309, by exact Try.call81, by exact f_meld_down.ok a0.f7 a0.f1 a1 t2310 e2311, trivial⟩ ?_
      refine AWp.seq ?_
      refine AWp.conv (inv := [(2, 2), (3, 3)]) (vk := [4, 5]) (e0 := []) (t := ⟨[(2, .ptr 2 0 0), (4, .ptr 3 0 0), (7, .im (.row (t2308.map eBucket))), (8, .im (.row (t2310.map eBucket)))], [(2, some (.box 35 (aHist ⟨a0.f0, a1, a0.f2, a0.f3, a0.f4, a0.f5, a0.f6, a0.f7⟩))), (3, some (.box 35 [iV .i64 0, iV .i64 0, iV .i64 0, iV .u64 0, iV .u64 0, iV .i64 0, .none0, .none0]))], 0⟩) (by kernel_rfl) ?_
      obtain ⟨t2438, e2439, H⟩ := bind_of H
      refine reg hP hn hm [(5, .call [] [] [] [] 0 (.tup [.agg (aHist (t2438.1)), iV .i64 t2438.2]) [])] [4, 5] [3] ⟨[(4, .ptr 3 0 0), (5, iV .i64 t2438.2)], [(3, some (.box 35 (aHist (t2438.1))))], 0⟩ [Enters Try.prog 82, Pv.Fn Try.prog 82 [.agg (aHist ⟨a0.f0, a1, a0.f2, a0.f3, a0.f4, a0.f5, a0.f6, a0.f7⟩), .im (.row (t2308.map eBucket)), .im (.row (t2310.map eBucket)), iV .i64 a0.f2] [] 0 (fun r o => r = .tup [.agg (aHist (t2438.1)), iV .i64 t2438.2] ∧ o = [])] (by kernel_rfl) ⟨by exact Try.call82, by exact f_meld_swallow.ok (⟨a0.f0, a1, a0.f2, a0.f3, a0.f4, a0.f5, a0.f6, a0.f7⟩ : THist) t2308 t2310 a0.f2 t2438 e2439, trivial⟩ ?_
      refine AWp.conv (inv := [(3, 0)]) (vk := []) (e0 := []) (t := ⟨[(4, .ptr 0 0 0), (5, iV .i64 t2438.2)], [(0, some (.box 35 (aHist ((t2438.1)))))], 0⟩) (by kernel_rfl) ?_
      refine AWp.ret ?_
      obtain rfl := Option.some.inj H
      exact Exists.intro _ (And.intro (fun _ _ h => h) (And.intro (.inl rfl) (And.intro rfl (And.intro (by kernel_rfl) (by kernel_rfl)))))
def f_bound_Has.f (a0 : Tbound_Key) (a1 : Tbound_Key) : Option (Bool) := ((if (a0.f0 == a1.f0) = true then ((f_bound_In.f a0.f1 a0.f2) >>= fun t2480 => if t2480 = true then ((f_bound_In.f a1.f1 a1.f2) >>= fun t2483 => if t2483 = true then ((f_bound_Low.f a0.f1 a0.f2) >>= fun t2486 => (f_bound_Low.f a1.f1 a1.f2) >>= fun t2488 => if (decide (t2486 ≤ t2488)) = true then ((f_bound_Units.f a0.f1 a0.f2) >>= fun t2491 => (f_bound_Units.f a1.f1 a1.f2) >>= fun t2493 => some (decide (t2491 ≥ t2493))) else (some false)) else (some false)) else (some false)) else (some false)) : Option (Bool)) >>= fun x2495 => some x2495
theorem f_bound_Has.ok (a0 : Tbound_Key) (a1 : Tbound_Key) (r : Bool) (H : f_bound_Has.f a0 a1 = some r) : Pv.Fn Try.prog 42 [.agg (abound_Key a0), .agg (abound_Key a1)] [] 0 (fun x o => x = bV r ∧ o = []) := by
  unfold f_bound_Has.f at H
  refine Fn.bodyK [] Try.func42 rfl rfl (fun Γ hP hn => ?_)
  have hm : Try.prog.follows .mixedOrders = true := by kernel_rfl
  replace hn : Γ.n = 50 := hn
  refine AWp.seq ?_
  refine reg hP hn hm [(0, .k 0), (1, .k 1)] [2, 3] [0, 1] ⟨[(2, .ptr 0 0 0), (3, .ptr 1 0 0)], [(0, some (.box 45 (abound_Key a0))), (1, some (.box 45 (abound_Key a1)))], 0⟩ [] (by kernel_rfl) trivial ?_
  refine AWp.seq ?_
  obtain ⟨o2496, e2497, H⟩ := bind_of H
  refine AWp.mono (Q := fun e s => (match (generalizing := false) o2496 with | x2495 => e = .normal ∧ s = ⟨[(4, bV x2495)], [], 0⟩)) (AWp.cv ?_) ?_
  · replace H := e2497; clear e2497
    rcases Bool.eq_false_or_eq_true (a0.f0 == a1.f0) with c2479 | c2479
    · replace H := (ifT c2479).symm.trans H
      obtain ⟨t2480, e2481, H⟩ := bind_of H
      rcases Bool.eq_false_or_eq_true t2480 with c2482 | c2482
      · replace H := (ifT c2482).symm.trans H
        obtain ⟨t2483, e2484, H⟩ := bind_of H
        rcases Bool.eq_false_or_eq_true t2483 with c2485 | c2485
        · replace H := (ifT c2485).symm.trans H
          obtain ⟨t2486, e2487, H⟩ := bind_of H
          obtain ⟨t2488, e2489, H⟩ := bind_of H
          rcases Bool.eq_false_or_eq_true (decide (t2486 ≤ t2488)) with c2490 | c2490
          · replace H := (ifT c2490).symm.trans H
            obtain ⟨t2491, e2492, H⟩ := bind_of H
            obtain ⟨t2493, e2494, H⟩ := bind_of H
            refine reg hP hn hm [(5, .b true), (10, .call [] [] [] [] 0 (bV t2480) []), (12, .b true), (17, .call [] [] [] [] 0 (bV t2483) []), (19, .b true), (24, .call [] [] [] [] 0 (iV .i64 t2486) []), (29, .call [] [] [] [] 0 (iV .i64 t2488) []), (32, .b true), (37, .call [] [] [] [] 0 (iV .i64 t2491) []), (42, .call [] [] [] [] 0 (iV .i64 t2493) [])] [4] [] ⟨[(4, bV (decide (t2491 ≥ t2493)))], [], 0⟩ [(a0.f0 == a1.f0) = true, Enters Try.prog 83, Pv.Fn Try.prog 83 [iV .i64 a0.f1, iV .i64 a0.f2] [] 0 (fun r o => r = bV t2480 ∧ o = []), t2480 = true, Enters Try.prog 83, Pv.Fn Try.prog 83 [iV .i64 a1.f1, iV .i64 a1.f2] [] 0 (fun r o => r = bV t2483 ∧ o = []), t2483 = true, Enters Try.prog 84, Pv.Fn Try.prog 84 [iV .i64 a0.f1, iV .i64 a0.f2] [] 0 (fun r o => r = iV .i64 t2486 ∧ o = []), Enters Try.prog 84, Pv.Fn Try.prog 84 [iV .i64 a1.f1, iV .i64 a1.f2] [] 0 (fun r o => r = iV .i64 t2488 ∧ o = []), (decide (t2486 ≤ t2488)) = true, Enters Try.prog 43, Pv.Fn Try.prog 43 [iV .i64 a0.f1, iV .i64 a0.f2] [] 0 (fun r o => r = iV .i64 t2491 ∧ o = []), Enters Try.prog 43, Pv.Fn Try.prog 43 [iV .i64 a1.f1, iV .i64 a1.f2] [] 0 (fun r o => r = iV .i64 t2493 ∧ o = [])] (by kernel_rfl) ⟨by exact c2479, by exact Try.call83, by exact f_bound_In.ok a0.f1 a0.f2 t2480 e2481, by exact c2482, by exact Try.call83, by exact f_bound_In.ok a1.f1 a1.f2 t2483 e2484, by exact c2485, by exact Try.call84, by exact f_bound_Low.ok a0.f1 a0.f2 t2486 e2487, by exact Try.call84, by exact f_bound_Low.ok a1.f1 a1.f2 t2488 e2489, by exact c2490, by exact Try.call43, by exact f_bound_Units.ok a0.f1 a0.f2 t2491 e2492, by exact Try.call43, by exact f_bound_Units.ok a1.f1 a1.f2 t2493 e2494, trivial⟩ ?_
            obtain rfl := Option.some.inj H
            exact Exists.intro _ (And.intro (fun _ _ h => h.conv (inv := []) (vk := []) (e0 := []) (t := ⟨[(4, bV (decide (t2491 ≥ t2493)))], [], 0⟩) (by kernel_rfl)) (And.intro rfl rfl))
          · replace H := (ifF c2490).symm.trans H
            refine reg hP hn hm [(5, .b true), (10, .call [] [] [] [] 0 (bV t2480) []), (12, .b true), (17, .call [] [] [] [] 0 (bV t2483) []), (19, .b true), (24, .call [] [] [] [] 0 (iV .i64 t2486) []), (29, .call [] [] [] [] 0 (iV .i64 t2488) []), (32, .b false)] [4] [] ⟨[(4, bV false)], [], 0⟩ [(a0.f0 == a1.f0) = true, Enters Try.prog 83, Pv.Fn Try.prog 83 [iV .i64 a0.f1, iV .i64 a0.f2] [] 0 (fun r o => r = bV t2480 ∧ o = []), t2480 = true, Enters Try.prog 83, Pv.Fn Try.prog 83 [iV .i64 a1.f1, iV .i64 a1.f2] [] 0 (fun r o => r = bV t2483 ∧ o = []), t2483 = true, Enters Try.prog 84, Pv.Fn Try.prog 84 [iV .i64 a0.f1, iV .i64 a0.f2] [] 0 (fun r o => r = iV .i64 t2486 ∧ o = []), Enters Try.prog 84, Pv.Fn Try.prog 84 [iV .i64 a1.f1, iV .i64 a1.f2] [] 0 (fun r o => r = iV .i64 t2488 ∧ o = []), (decide (t2486 ≤ t2488)) = false] (by kernel_rfl) ⟨by exact c2479, by exact Try.call83, by exact f_bound_In.ok a0.f1 a0.f2 t2480 e2481, by exact c2482, by exact Try.call83, by exact f_bound_In.ok a1.f1 a1.f2 t2483 e2484, by exact c2485, by exact Try.call84, by exact f_bound_Low.ok a0.f1 a0.f2 t2486 e2487, by exact Try.call84, by exact f_bound_Low.ok a1.f1 a1.f2 t2488 e2489, by exact c2490, trivial⟩ ?_
            obtain rfl := Option.some.inj H
            exact Exists.intro _ (And.intro (fun _ _ h => h.conv (inv := []) (vk := []) (e0 := []) (t := ⟨[(4, bV false)], [], 0⟩) (by kernel_rfl)) (And.intro rfl rfl))
        · replace H := (ifF c2485).symm.trans H
          refine reg hP hn hm [(5, .b true), (10, .call [] [] [] [] 0 (bV t2480) []), (12, .b true), (17, .call [] [] [] [] 0 (bV t2483) []), (19, .b false)] [4] [] ⟨[(4, bV false)], [], 0⟩ [(a0.f0 == a1.f0) = true, Enters Try.prog 83, Pv.Fn Try.prog 83 [iV .i64 a0.f1, iV .i64 a0.f2] [] 0 (fun r o => r = bV t2480 ∧ o = []), t2480 = true, Enters Try.prog 83, Pv.Fn Try.prog 83 [iV .i64 a1.f1, iV .i64 a1.f2] [] 0 (fun r o => r = bV t2483 ∧ o = []), t2483 = false] (by kernel_rfl) ⟨by exact c2479, by exact Try.call83, by exact f_bound_In.ok a0.f1 a0.f2 t2480 e2481, by exact c2482, by exact Try.call83, by exact f_bound_In.ok a1.f1 a1.f2 t2483 e2484, by exact c2485, trivial⟩ ?_
          obtain rfl := Option.some.inj H
          exact Exists.intro _ (And.intro (fun _ _ h => h.conv (inv := []) (vk := []) (e0 := []) (t := ⟨[(4, bV false)], [], 0⟩) (by kernel_rfl)) (And.intro rfl rfl))
      · replace H := (ifF c2482).symm.trans H
        refine reg hP hn hm [(5, .b true), (10, .call [] [] [] [] 0 (bV t2480) []), (12, .b false)] [4] [] ⟨[(4, bV false)], [], 0⟩ [(a0.f0 == a1.f0) = true, Enters Try.prog 83, Pv.Fn Try.prog 83 [iV .i64 a0.f1, iV .i64 a0.f2] [] 0 (fun r o => r = bV t2480 ∧ o = []), t2480 = false] (by kernel_rfl) ⟨by exact c2479, by exact Try.call83, by exact f_bound_In.ok a0.f1 a0.f2 t2480 e2481, by exact c2482, trivial⟩ ?_
        obtain rfl := Option.some.inj H
        exact Exists.intro _ (And.intro (fun _ _ h => h.conv (inv := []) (vk := []) (e0 := []) (t := ⟨[(4, bV false)], [], 0⟩) (by kernel_rfl)) (And.intro rfl rfl))
    · replace H := (ifF c2479).symm.trans H
      refine reg hP hn hm [(5, .b false)] [4] [] ⟨[(4, bV false)], [], 0⟩ [(a0.f0 == a1.f0) = false] (by kernel_rfl) ⟨by exact c2479, trivial⟩ ?_
      obtain rfl := Option.some.inj H
      exact Exists.intro _ (And.intro (fun _ _ h => h.conv (inv := []) (vk := []) (e0 := []) (t := ⟨[(4, bV false)], [], 0⟩) (by kernel_rfl)) (And.intro rfl rfl))
  · obtain ⟨x2495, rfl⟩ : ∃ z, z = o2496 := ⟨_, rfl⟩
    rintro e s ⟨rfl, rfl⟩
    refine AWp.conv (inv := []) (vk := []) (e0 := []) (t := ⟨[(4, bV x2495)], [], 0⟩) (by kernel_rfl) ?_
    refine AWp.ret ?_
    obtain rfl := Option.some.inj H
    exact Exists.intro _ (And.intro (fun _ _ h => h) (And.intro (.inl rfl) (And.intro rfl (And.intro (by kernel_rfl) (by kernel_rfl)))))
def f_pluviallaw08_RankDowns.f (a0 : THist) (a1 : Int) (a2 : Int) (a3 : Bool) (a4 : Int) : Option (Bool) := (((f_pluviallaw08_right.f a0) >>= fun t2229 => if (!t2229) = true then (some true) else (some (a0.f2 != (-524288)))) : Option (Bool)) >>= fun x2232 => if x2232 = true then ((f_pluviallaw08_awake.f) >>= fun t2236 => some t2236) else ((f_meld_Down.f a0 a1) >>= fun t2444 => if (t2444.2 != (0 : Int)) = true then ((f_pluviallaw08_awake.f) >>= fun t2449 => some t2449) else ((f_rank_At.f a0 a2) >>= fun t2453 => (f_rank_At.f (t2444.1) a2) >>= fun t2457 => ((if (t2453.2 != t2457.2) = true then (some true) else (if (t2453.2 == (0 : Int)) = true then (if (((t2453.1).f0) != ((t2457.1).f0)) = true then (some true) else (if (((t2453.1).f0) != (0 : Int)) = true then ((f_bound_Has.f (t2457.1) (t2453.1)) >>= fun t2504 => some (!t2504)) else (some false))) else (some false))) : Option (Bool)) >>= fun x2506 => if x2506 = true then (some false) else ((f_bound_Units.f a1 (IntKind.i64.wrap (a4))) >>= fun t2510 => ((if a3 = true then (some (-1)) else (some 1)) : Option (Int)) >>= fun x2513 => (f_rank_Below.f a0 (⟨x2513, t2510⟩ : Trank_Place)) >>= fun t2516 => (f_rank_Below.f (t2444.1) (⟨x2513, t2510⟩ : Trank_Place)) >>= fun t2520 => (((f_pluviallaw08_awake.f) >>= fun t2526 => if t2526 = true then (if (t2516.2 == t2520.2) = true then (some ((((t2516.1).f0) == ((t2520.1).f0)) && ((((t2516.1).f1) == ((t2520.1).f1)) && ((((t2516.1).f2) == ((t2520.1).f2)) && true)))) else (some false)) else (some false)) : Option (Bool)) >>= fun x2530 => some x2530)))
theorem f_pluviallaw08_RankDowns.ok (a0 : THist) (a1 : Int) (a2 : Int) (a3 : Bool) (a4 : Int) (r : Bool) (H : f_pluviallaw08_RankDowns.f a0 a1 a2 a3 a4 = some r) : Pv.Fn Try.prog 11 [.agg (aHist a0), iV .i64 a1, iV .u64 a2, bV a3, iV .i16 a4] [] 0 (fun x o => x = bV r ∧ o = []) := by
  unfold f_pluviallaw08_RankDowns.f at H
  refine Fn.bodyK [] Try.func11 rfl rfl (fun Γ hP hn => ?_)
  have hm : Try.prog.follows .mixedOrders = true := by kernel_rfl
  replace hn : Γ.n = 111 := hn
  refine AWp.seq ?_
  refine reg hP hn hm [(0, .k 0)] [1, 2, 3, 4, 5] [0] ⟨[(1, iV .i64 a1), (2, iV .u64 a2), (3, bV a3), (4, iV .i16 a4), (5, .ptr 0 0 0)], [(0, some (.box 35 (aHist a0)))], 0⟩ [] (by kernel_rfl) trivial ?_
  refine AWp.seq ?_
  refine AWp.seq ?_
  obtain ⟨o2531, e2532, H⟩ := bind_of H
  refine AWp.mono (Q := fun e s => (match (generalizing := false) o2531 with | x2232 => e = .normal ∧ s = ⟨[(1, iV .i64 a1), (2, iV .u64 a2), (3, bV a3), (4, iV .i16 a4), (5, .ptr 1 0 0), (29, bV x2232)], [(1, some (.box 35 (aHist a0)))], 0⟩)) (AWp.cv ?_) ?_
  · replace H := e2532; clear e2532
    obtain ⟨t2229, e2230, H⟩ := bind_of H
    rcases Bool.eq_false_or_eq_true (!t2229) with c2231 | c2231
    · replace H := (ifT c2231).symm.trans H
      refine reg hP hn hm [(1, .call [] [] [] [] 0 (bV t2229) []), (3, .b true)] [1, 2, 3, 4, 5, 29] [0] ⟨[(1, iV .i64 a1), (2, iV .u64 a2), (3, bV a3), (4, iV .i16 a4), (5, .ptr 0 0 0), (29, bV true)], [(0, some (.box 35 (aHist a0)))], 0⟩ [Enters Try.prog 19, Pv.Fn Try.prog 19 [.agg (aHist a0)] [] 0 (fun r o => r = bV t2229 ∧ o = []), (!t2229) = true] (by kernel_rfl) ⟨by exact Try.call19, by exact f_pluviallaw08_right.ok a0 t2229 e2230, by exact c2231, trivial⟩ ?_
      obtain rfl := Option.some.inj H
      exact Exists.intro _ (And.intro (fun _ _ h => h.conv (inv := [(0, 1)]) (vk := []) (e0 := []) (t := ⟨[(1, iV .i64 a1), (2, iV .u64 a2), (3, bV a3), (4, iV .i16 a4), (5, .ptr 1 0 0), (29, bV true)], [(1, some (.box 35 (aHist a0)))], 0⟩) (by kernel_rfl)) (And.intro rfl rfl))
    · replace H := (ifF c2231).symm.trans H
      refine reg hP hn hm [(1, .call [] [] [] [] 0 (bV t2229) []), (3, .b false)] [1, 2, 3, 4, 5, 29] [0] ⟨[(1, iV .i64 a1), (2, iV .u64 a2), (3, bV a3), (4, iV .i16 a4), (5, .ptr 0 0 0), (29, bV (a0.f2 != (-524288)))], [(0, some (.box 35 (aHist a0)))], 0⟩ [Enters Try.prog 19, Pv.Fn Try.prog 19 [.agg (aHist a0)] [] 0 (fun r o => r = bV t2229 ∧ o = []), (!t2229) = false] (by kernel_rfl) ⟨by exact Try.call19, by exact f_pluviallaw08_right.ok a0 t2229 e2230, by exact c2231, trivial⟩ ?_
      obtain rfl := Option.some.inj H
      exact Exists.intro _ (And.intro (fun _ _ h => h.conv (inv := [(0, 1)]) (vk := []) (e0 := []) (t := ⟨[(1, iV .i64 a1), (2, iV .u64 a2), (3, bV a3), (4, iV .i16 a4), (5, .ptr 1 0 0), (29, bV (a0.f2 != (-524288)))], [(1, some (.box 35 (aHist a0)))], 0⟩) (by kernel_rfl)) (And.intro rfl rfl))
  · obtain ⟨x2232, rfl⟩ : ∃ z, z = o2531 := ⟨_, rfl⟩
    rintro e s ⟨rfl, rfl⟩
    refine AWp.cond x2232 rfl (fun c2233 => ?_) (fun c2233 => ?_)
    · replace H := (ifT c2233).symm.trans H
      refine AWp.seq ?_
      obtain ⟨t2236, e2237, H⟩ := bind_of H
      refine reg hP hn hm [(0, .call [] [] [] [] 0 (bV t2236) [])] [10] [] ⟨[(10, bV t2236)], [], 0⟩ [Enters Try.prog 20, Pv.Fn Try.prog 20 [] [] 0 (fun r o => r = bV t2236 ∧ o = [])] (by kernel_rfl) ⟨by exact Try.call20, by exact f_pluviallaw08_awake.ok  t2236 e2237, trivial⟩ ?_
      refine AWp.conv (inv := []) (vk := []) (e0 := []) (t := ⟨[(10, bV t2236)], [], 0⟩) (by kernel_rfl) ?_
      refine AWp.ret ?_
      obtain rfl := Option.some.inj H
      exact Exists.intro _ (And.intro (fun _ _ h => h) (And.intro (.inl rfl) (And.intro rfl (And.intro (by kernel_rfl) (by kernel_rfl)))))
    · replace H := (ifF c2233).symm.trans H
      refine AWp.skip ?_
      refine AWp.seq ?_
      obtain ⟨t2444, e2445, H⟩ := bind_of H
      refine reg hP hn hm [(2, .call [] [] [] [] 0 (.tup [.agg (aHist (t2444.1)), iV .i64 t2444.2]) []), (6, .k 2)] [1, 2, 3, 4, 5, 11, 12] [1, 2] ⟨[(1, iV .i64 a1), (2, iV .u64 a2), (3, bV a3), (4, iV .i16 a4), (5, .ptr 1 0 0), (11, .ptr 2 0 0), (12, iV .i64 t2444.2)], [(1, some (.box 35 (aHist a0))), (2, some (.box 35 (aHist (t2444.1))))], 0⟩ [Enters Try.prog 41, Pv.Fn Try.prog 41 [.agg (aHist a0), iV .i64 a1] [] 0 (fun r o => r = .tup [.agg (aHist (t2444.1)), iV .i64 t2444.2] ∧ o = [])] (by kernel_rfl) ⟨by exact Try.call41, by exact f_meld_Down.ok a0 a1 t2444 e2445, trivial⟩ ?_
      refine AWp.seq ?_
      refine AWp.seq ?_
      refine reg hP hn hm [] [1, 2, 3, 4, 5, 11, 38] [1, 2] ⟨[(1, iV .i64 a1), (2, iV .u64 a2), (3, bV a3), (4, iV .i16 a4), (5, .ptr 1 0 0), (11, .ptr 2 0 0), (38, bV (t2444.2 != (0 : Int)))], [(1, some (.box 35 (aHist a0))), (2, some (.box 35 (aHist (t2444.1))))], 0⟩ [] (by kernel_rfl) trivial ?_
      refine AWp.cond (t2444.2 != (0 : Int)) rfl (fun c2446 => ?_) (fun c2446 => ?_)
      · replace H := (ifT c2446).symm.trans H
        refine AWp.seq ?_
        obtain ⟨t2449, e2450, H⟩ := bind_of H
        refine reg hP hn hm [(0, .call [] [] [] [] 0 (bV t2449) [])] [10] [] ⟨[(10, bV t2449)], [], 0⟩ [Enters Try.prog 20, Pv.Fn Try.prog 20 [] [] 0 (fun r o => r = bV t2449 ∧ o = [])] (by kernel_rfl) ⟨by exact Try.call20, by exact f_pluviallaw08_awake.ok  t2449 e2450, trivial⟩ ?_
        refine AWp.conv (inv := []) (vk := []) (e0 := []) (t := ⟨[(10, bV t2449)], [], 0⟩) (by kernel_rfl) ?_
        refine AWp.ret ?_
        obtain rfl := Option.some.inj H
        exact Exists.intro _ (And.intro (fun _ _ h => h) (And.intro (.inl rfl) (And.intro rfl (And.intro (by kernel_rfl) (by kernel_rfl)))))
      · replace H := (ifF c2446).symm.trans H
        refine AWp.skip ?_
        refine AWp.seq ?_
        obtain ⟨t2453, e2454, H⟩ := bind_of H
        refine reg hP hn hm [(2, .call [] [] [] [] 0 (.tup [.agg (abound_Key (t2453.1)), iV .i64 t2453.2]) []), (6, .k 3)] [1, 2, 3, 4, 5, 11, 13, 14] [1, 2, 3] ⟨[(1, iV .i64 a1), (2, iV .u64 a2), (3, bV a3), (4, iV .i16 a4), (5, .ptr 1 0 0), (11, .ptr 2 0 0), (13, .ptr 3 0 0), (14, iV .i64 t2453.2)], [(1, some (.box 35 (aHist a0))), (2, some (.box 35 (aHist (t2444.1)))), (3, some (.box 45 (abound_Key (t2453.1))))], 0⟩ [Enters Try.prog 22, Pv.Fn Try.prog 22 [.agg (aHist a0), iV .u64 a2] [] 0 (fun r o => r = .tup [.agg (abound_Key (t2453.1)), iV .i64 t2453.2] ∧ o = [])] (by kernel_rfl) ⟨by exact Try.call22, by exact f_rank_At.ok a0 a2 t2453 e2454, trivial⟩ ?_
        refine AWp.seq ?_
        obtain ⟨t2457, e2458, H⟩ := bind_of H
        refine reg hP hn hm [(2, .call [] [] [] [] 0 (.tup [.agg (abound_Key (t2457.1)), iV .i64 t2457.2]) []), (6, .k 4)] [1, 3, 4, 5, 11, 13, 14, 15, 16] [1, 2, 3, 4] ⟨[(1, iV .i64 a1), (3, bV a3), (4, iV .i16 a4), (5, .ptr 1 0 0), (11, .ptr 2 0 0), (13, .ptr 3 0 0), (14, iV .i64 t2453.2), (15, .ptr 4 0 0), (16, iV .i64 t2457.2)], [(1, some (.box 35 (aHist a0))), (2, some (.box 35 (aHist (t2444.1)))), (3, some (.box 45 (abound_Key (t2453.1)))), (4, some (.box 45 (abound_Key (t2457.1))))], 0⟩ [Enters Try.prog 22, Pv.Fn Try.prog 22 [.agg (aHist (t2444.1)), iV .u64 a2] [] 0 (fun r o => r = .tup [.agg (abound_Key (t2457.1)), iV .i64 t2457.2] ∧ o = [])] (by kernel_rfl) ⟨by exact Try.call22, by exact f_rank_At.ok (t2444.1) a2 t2457 e2458, trivial⟩ ?_
        refine AWp.seq ?_
        refine AWp.seq ?_
        obtain ⟨o2533, e2534, H⟩ := bind_of H
        refine AWp.mono (Q := fun e s => (match (generalizing := false) o2533 with | x2506 => e = .normal ∧ s = ⟨[(1, iV .i64 a1), (3, bV a3), (4, iV .i16 a4), (5, .ptr 5 0 0), (11, .ptr 6 0 0), (80, bV x2506)], [(5, some (.box 35 (aHist a0))), (6, some (.box 35 (aHist (t2444.1))))], 0⟩)) (AWp.cv ?_) ?_
        · replace H := e2534; clear e2534
          rcases Bool.eq_false_or_eq_true (t2453.2 != t2457.2) with c2500 | c2500
          · replace H := (ifT c2500).symm.trans H
            refine reg hP hn hm [(3, .b true)] [1, 3, 4, 5, 11, 80] [1, 2] ⟨[(1, iV .i64 a1), (3, bV a3), (4, iV .i16 a4), (5, .ptr 1 0 0), (11, .ptr 2 0 0), (80, bV true)], [(1, some (.box 35 (aHist a0))), (2, some (.box 35 (aHist (t2444.1))))], 0⟩ [(t2453.2 != t2457.2) = true] (by kernel_rfl) ⟨by exact c2500, trivial⟩ ?_
            obtain rfl := Option.some.inj H
            exact Exists.intro _ (And.intro (fun _ _ h => h.conv (inv := [(1, 5), (2, 6)]) (vk := []) (e0 := []) (t := ⟨[(1, iV .i64 a1), (3, bV a3), (4, iV .i16 a4), (5, .ptr 5 0 0), (11, .ptr 6 0 0), (80, bV true)], [(5, some (.box 35 (aHist a0))), (6, some (.box 35 (aHist (t2444.1))))], 0⟩) (by kernel_rfl)) (And.intro rfl rfl))
          · replace H := (ifF c2500).symm.trans H
            rcases Bool.eq_false_or_eq_true (t2453.2 == (0 : Int)) with c2501 | c2501
            · replace H := (ifT c2501).symm.trans H
              rcases Bool.eq_false_or_eq_true (((t2453.1).f0) != ((t2457.1).f0)) with c2502 | c2502
              · replace H := (ifT c2502).symm.trans H
                refine reg hP hn hm [(3, .b false), (6, .b true), (14, .b true)] [1, 3, 4, 5, 11, 80] [1, 2] ⟨[(1, iV .i64 a1), (3, bV a3), (4, iV .i16 a4), (5, .ptr 1 0 0), (11, .ptr 2 0 0), (80, bV true)], [(1, some (.box 35 (aHist a0))), (2, some (.box 35 (aHist (t2444.1))))], 0⟩ [(t2453.2 != t2457.2) = false, (t2453.2 == (0 : Int)) = true, (((t2453.1).f0) != ((t2457.1).f0)) = true] (by kernel_rfl) ⟨by exact c2500, by exact c2501, by exact c2502, trivial⟩ ?_
                obtain rfl := Option.some.inj H
                exact Exists.intro _ (And.intro (fun _ _ h => h.conv (inv := [(1, 5), (2, 6)]) (vk := []) (e0 := []) (t := ⟨[(1, iV .i64 a1), (3, bV a3), (4, iV .i16 a4), (5, .ptr 5 0 0), (11, .ptr 6 0 0), (80, bV true)], [(5, some (.box 35 (aHist a0))), (6, some (.box 35 (aHist (t2444.1))))], 0⟩) (by kernel_rfl)) (And.intro rfl rfl))
              · replace H := (ifF c2502).symm.trans H
                rcases Bool.eq_false_or_eq_true (((t2453.1).f0) != (0 : Int)) with c2503 | c2503
                · replace H := (ifT c2503).symm.trans H
                  obtain ⟨t2504, e2505, H⟩ := bind_of H
                  refine reg hP hn hm [(3, .b false), (6, .b true), (14, .b false), (17, .b true), (22, .b true), (25, .call [] [] [] [] 0 (bV t2504) [])] [1, 3, 4, 5, 11, 80] [1, 2] ⟨[(1, iV .i64 a1), (3, bV a3), (4, iV .i16 a4), (5, .ptr 1 0 0), (11, .ptr 2 0 0), (80, bV (!t2504))], [(1, some (.box 35 (aHist a0))), (2, some (.box 35 (aHist (t2444.1))))], 0⟩ [(t2453.2 != t2457.2) = false, (t2453.2 == (0 : Int)) = true, (((t2453.1).f0) != ((t2457.1).f0)) = false, (t2453.2 == (0 : Int)) = true, (((t2453.1).f0) != (0 : Int)) = true, Enters Try.prog 42, Pv.Fn Try.prog 42 [.agg (abound_Key (t2457.1)), .agg (abound_Key (t2453.1))] [] 0 (fun r o => r = bV t2504 ∧ o = [])] (by kernel_rfl) ⟨by exact c2500, by exact c2501, by exact c2502, by exact c2501, by exact c2503, by exact Try.call42, by exact f_bound_Has.ok (t2457.1) (t2453.1) t2504 e2505, trivial⟩ ?_
                  obtain rfl := Option.some.inj H
                  exact Exists.intro _ (And.intro (fun _ _ h => h.conv (inv := [(1, 5), (2, 6)]) (vk := []) (e0 := []) (t := ⟨[(1, iV .i64 a1), (3, bV a3), (4, iV .i16 a4), (5, .ptr 5 0 0), (11, .ptr 6 0 0), (80, bV (!t2504))], [(5, some (.box 35 (aHist a0))), (6, some (.box 35 (aHist (t2444.1))))], 0⟩) (by kernel_rfl)) (And.intro rfl rfl))
                · replace H := (ifF c2503).symm.trans H
                  refine reg hP hn hm [(3, .b false), (6, .b true), (14, .b false), (17, .b true), (22, .b false)] [1, 3, 4, 5, 11, 80] [1, 2] ⟨[(1, iV .i64 a1), (3, bV a3), (4, iV .i16 a4), (5, .ptr 1 0 0), (11, .ptr 2 0 0), (80, bV false)], [(1, some (.box 35 (aHist a0))), (2, some (.box 35 (aHist (t2444.1))))], 0⟩ [(t2453.2 != t2457.2) = false, (t2453.2 == (0 : Int)) = true, (((t2453.1).f0) != ((t2457.1).f0)) = false, (t2453.2 == (0 : Int)) = true, (((t2453.1).f0) != (0 : Int)) = false] (by kernel_rfl) ⟨by exact c2500, by exact c2501, by exact c2502, by exact c2501, by exact c2503, trivial⟩ ?_
                  obtain rfl := Option.some.inj H
                  exact Exists.intro _ (And.intro (fun _ _ h => h.conv (inv := [(1, 5), (2, 6)]) (vk := []) (e0 := []) (t := ⟨[(1, iV .i64 a1), (3, bV a3), (4, iV .i16 a4), (5, .ptr 5 0 0), (11, .ptr 6 0 0), (80, bV false)], [(5, some (.box 35 (aHist a0))), (6, some (.box 35 (aHist (t2444.1))))], 0⟩) (by kernel_rfl)) (And.intro rfl rfl))
            · replace H := (ifF c2501).symm.trans H
              refine reg hP hn hm [(3, .b false), (6, .b false), (17, .b false)] [1, 3, 4, 5, 11, 80] [1, 2] ⟨[(1, iV .i64 a1), (3, bV a3), (4, iV .i16 a4), (5, .ptr 1 0 0), (11, .ptr 2 0 0), (80, bV false)], [(1, some (.box 35 (aHist a0))), (2, some (.box 35 (aHist (t2444.1))))], 0⟩ [(t2453.2 != t2457.2) = false, (t2453.2 == (0 : Int)) = false, (t2453.2 == (0 : Int)) = false] (by kernel_rfl) ⟨by exact c2500, by exact c2501, by exact c2501, trivial⟩ ?_
              obtain rfl := Option.some.inj H
              exact Exists.intro _ (And.intro (fun _ _ h => h.conv (inv := [(1, 5), (2, 6)]) (vk := []) (e0 := []) (t := ⟨[(1, iV .i64 a1), (3, bV a3), (4, iV .i16 a4), (5, .ptr 5 0 0), (11, .ptr 6 0 0), (80, bV false)], [(5, some (.box 35 (aHist a0))), (6, some (.box 35 (aHist (t2444.1))))], 0⟩) (by kernel_rfl)) (And.intro rfl rfl))
        · obtain ⟨x2506, rfl⟩ : ∃ z, z = o2533 := ⟨_, rfl⟩
          rintro e s ⟨rfl, rfl⟩
          refine AWp.cond x2506 rfl (fun c2507 => ?_) (fun c2507 => ?_)
          · replace H := (ifT c2507).symm.trans H
            refine AWp.seq ?_
            refine reg hP hn hm [] [10] [] ⟨[(10, bV false)], [], 0⟩ [] (by kernel_rfl) trivial ?_
            refine AWp.conv (inv := []) (vk := []) (e0 := []) (t := ⟨[(10, bV false)], [], 0⟩) (by kernel_rfl) ?_
            refine AWp.ret ?_
            obtain rfl := Option.some.inj H
            exact Exists.intro _ (And.intro (fun _ _ h => h) (And.intro (.inl rfl) (And.intro rfl (And.intro (by kernel_rfl) (by kernel_rfl)))))
          · replace H := (ifF c2507).symm.trans H
            refine AWp.skip ?_
            refine AWp.seq ?_
            obtain ⟨t2510, e2511, H⟩ := bind_of H
            refine reg hP hn hm [(3, .call [] [] [] [] 0 (iV .i64 t2510) []), (5, .k 7)] [3, 5, 11, 17] [5, 6, 7] ⟨[(3, bV a3), (5, .ptr 5 0 0), (11, .ptr 6 0 0), (17, .ptr 7 0 0)], [(5, some (.box 35 (aHist a0))), (6, some (.box 35 (aHist (t2444.1)))), (7, some (.box 72 (arank_Place ⟨1, t2510⟩)))], 0⟩ [Enters Try.prog 43, Pv.Fn Try.prog 43 [iV .i64 a1, iV .i64 (IntKind.i64.wrap (a4))] [] 0 (fun r o => r = iV .i64 t2510 ∧ o = [])] (by kernel_rfl) ⟨by exact Try.call43, by exact f_bound_Units.ok a1 (IntKind.i64.wrap (a4)) t2510 e2511, trivial⟩ ?_
            refine AWp.seq ?_
            refine AWp.seq ?_
            refine reg hP hn hm [] [5, 11, 17, 86] [5, 6, 7] ⟨[(5, .ptr 5 0 0), (11, .ptr 6 0 0), (17, .ptr 7 0 0), (86, bV a3)], [(5, some (.box 35 (aHist a0))), (6, some (.box 35 (aHist (t2444.1)))), (7, some (.box 72 (arank_Place ⟨1, t2510⟩)))], 0⟩ [] (by kernel_rfl) trivial ?_
            obtain ⟨o2535, e2536, H⟩ := bind_of H
            refine AWp.mono (Q := fun e s => (match (generalizing := false) o2535 with | x2513 => e = .normal ∧ s = ⟨[(5, .ptr 8 0 0), (11, .ptr 9 0 0), (17, .ptr 10 0 0)], [(8, some (.box 35 (aHist a0))), (9, some (.box 35 (aHist (t2444.1)))), (10, some (.box 72 (arank_Place ⟨x2513, t2510⟩)))], 0⟩)) (AWp.cv ?_) ?_
            · replace H := e2536; clear e2536
              refine AWp.cond a3 rfl (fun c2512 => ?_) (fun c2512 => ?_)
              · replace H := (ifT c2512).symm.trans H
                refine reg hP hn hm [] [5, 11, 17] [5, 6, 7] ⟨[(5, .ptr 5 0 0), (11, .ptr 6 0 0), (17, .ptr 7 0 0)], [(5, some (.box 35 (aHist a0))), (6, some (.box 35 (aHist (t2444.1)))), (7, some (.box 72 (arank_Place ⟨(-1), t2510⟩)))], 0⟩ [] (by kernel_rfl) trivial ?_
                obtain rfl := Option.some.inj H
                exact Exists.intro _ (And.intro (fun _ _ h => h.conv (inv := [(5, 8), (6, 9), (7, 10)]) (vk := []) (e0 := []) (t := ⟨[(5, .ptr 8 0 0), (11, .ptr 9 0 0), (17, .ptr 10 0 0)], [(8, some (.box 35 (aHist a0))), (9, some (.box 35 (aHist (t2444.1)))), (10, some (.box 72 (arank_Place ⟨(-1), t2510⟩)))], 0⟩) (by kernel_rfl)) (And.intro rfl rfl))
              · replace H := (ifF c2512).symm.trans H
                refine AWp.skip ?_
                obtain rfl := Option.some.inj H
                exact Exists.intro _ (And.intro (fun _ _ h => h.conv (inv := [(5, 8), (6, 9), (7, 10)]) (vk := []) (e0 := []) (t := ⟨[(5, .ptr 8 0 0), (11, .ptr 9 0 0), (17, .ptr 10 0 0)], [(8, some (.box 35 (aHist a0))), (9, some (.box 35 (aHist (t2444.1)))), (10, some (.box 72 (arank_Place ⟨1, t2510⟩)))], 0⟩) (by kernel_rfl)) (And.intro rfl rfl))
            · obtain ⟨x2513, rfl⟩ : ∃ z, z = o2535 := ⟨_, rfl⟩
              rintro e s ⟨rfl, rfl⟩
              refine AWp.seq ?_
              obtain ⟨t2516, e2517, H⟩ := bind_of H
              refine reg hP hn hm [(2, .call [] [] [] [] 0 (.tup [.agg (arank_Part (t2516.1)), iV .i64 t2516.2]) []), (6, .k 11)] [11, 17, 18, 19] [9, 10, 11] ⟨[(11, .ptr 9 0 0), (17, .ptr 10 0 0), (18, .ptr 11 0 0), (19, iV .i64 t2516.2)], [(9, some (.box 35 (aHist (t2444.1)))), (10, some (.box 72 (arank_Place ⟨x2513, t2510⟩))), (11, some (.box 74 (arank_Part (t2516.1))))], 0⟩ [Enters Try.prog 34, Pv.Fn Try.prog 34 [.agg (aHist a0), .agg (arank_Place ⟨x2513, t2510⟩)] [] 0 (fun r o => r = .tup [.agg (arank_Part (t2516.1)), iV .i64 t2516.2] ∧ o = [])] (by kernel_rfl) ⟨by exact Try.call34, by exact f_rank_Below.ok a0 (⟨x2513, t2510⟩ : Trank_Place) t2516 e2517, trivial⟩ ?_
              refine AWp.seq ?_
              obtain ⟨t2520, e2521, H⟩ := bind_of H
              refine reg hP hn hm [(2, .call [] [] [] [] 0 (.tup [.agg (arank_Part (t2520.1)), iV .i64 t2520.2]) []), (6, .k 12)] [18, 19, 20, 21] [11, 12] ⟨[(18, .ptr 11 0 0), (19, iV .i64 t2516.2), (20, .ptr 12 0 0), (21, iV .i64 t2520.2)], [(11, some (.box 74 (arank_Part (t2516.1)))), (12, some (.box 74 (arank_Part (t2520.1))))], 0⟩ [Enters Try.prog 34, Pv.Fn Try.prog 34 [.agg (aHist (t2444.1)), .agg (arank_Place ⟨x2513, t2510⟩)] [] 0 (fun r o => r = .tup [.agg (arank_Part (t2520.1)), iV .i64 t2520.2] ∧ o = [])] (by kernel_rfl) ⟨by exact Try.call34, by exact f_rank_Below.ok (t2444.1) (⟨x2513, t2510⟩ : Trank_Place) t2520 e2521, trivial⟩ ?_
              refine AWp.seq ?_
              obtain ⟨o2537, e2538, H⟩ := bind_of H
              refine AWp.mono (Q := fun e s => (match (generalizing := false) o2537 with | x2530 => e = .normal ∧ s = ⟨[(10, bV x2530)], [], 0⟩)) (AWp.cv ?_) ?_
              · replace H := e2538; clear e2538
                obtain ⟨t2526, e2527, H⟩ := bind_of H
                rcases Bool.eq_false_or_eq_true t2526 with c2528 | c2528
                · replace H := (ifT c2528).symm.trans H
                  rcases Bool.eq_false_or_eq_true (t2516.2 == t2520.2) with c2529 | c2529
                  · replace H := (ifT c2529).symm.trans H
                    refine reg hP hn hm [(0, .call [] [] [] [] 0 (bV t2526) []), (1, .b true), (6, .b true), (9, .more (xAgg none))] [10] [] ⟨[(10, bV ((((t2516.1).f0) == ((t2520.1).f0)) && ((((t2516.1).f1) == ((t2520.1).f1)) && ((((t2516.1).f2) == ((t2520.1).f2)) && true))))], [], 0⟩ [Enters Try.prog 20, Pv.Fn Try.prog 20 [] [] 0 (fun r o => r = bV t2526 ∧ o = []), t2526 = true, (t2516.2 == t2520.2) = true] (by kernel_rfl) ⟨by exact Try.call20, by exact f_pluviallaw08_awake.ok  t2526 e2527, by exact c2528, by exact c2529, trivial⟩ ?_
                    obtain rfl := Option.some.inj H
                    exact Exists.intro _ (And.intro (fun _ _ h => h.conv (inv := []) (vk := []) (e0 := []) (t := ⟨[(10, bV ((((t2516.1).f0) == ((t2520.1).f0)) && ((((t2516.1).f1) == ((t2520.1).f1)) && ((((t2516.1).f2) == ((t2520.1).f2)) && true))))], [], 0⟩) (by kernel_rfl)) (And.intro rfl rfl))
                  · replace H := (ifF c2529).symm.trans H
                    refine reg hP hn hm [(0, .call [] [] [] [] 0 (bV t2526) []), (1, .b true), (6, .b false)] [10] [] ⟨[(10, bV false)], [], 0⟩ [Enters Try.prog 20, Pv.Fn Try.prog 20 [] [] 0 (fun r o => r = bV t2526 ∧ o = []), t2526 = true, (t2516.2 == t2520.2) = false] (by kernel_rfl) ⟨by exact Try.call20, by exact f_pluviallaw08_awake.ok  t2526 e2527, by exact c2528, by exact c2529, trivial⟩ ?_
                    obtain rfl := Option.some.inj H
                    exact Exists.intro _ (And.intro (fun _ _ h => h.conv (inv := []) (vk := []) (e0 := []) (t := ⟨[(10, bV false)], [], 0⟩) (by kernel_rfl)) (And.intro rfl rfl))
                · replace H := (ifF c2528).symm.trans H
                  refine reg hP hn hm [(0, .call [] [] [] [] 0 (bV t2526) []), (1, .b false)] [10] [] ⟨[(10, bV false)], [], 0⟩ [Enters Try.prog 20, Pv.Fn Try.prog 20 [] [] 0 (fun r o => r = bV t2526 ∧ o = []), t2526 = false] (by kernel_rfl) ⟨by exact Try.call20, by exact f_pluviallaw08_awake.ok  t2526 e2527, by exact c2528, trivial⟩ ?_
                  obtain rfl := Option.some.inj H
                  exact Exists.intro _ (And.intro (fun _ _ h => h.conv (inv := []) (vk := []) (e0 := []) (t := ⟨[(10, bV false)], [], 0⟩) (by kernel_rfl)) (And.intro rfl rfl))
              · obtain ⟨x2530, rfl⟩ : ∃ z, z = o2537 := ⟨_, rfl⟩
                rintro e s ⟨rfl, rfl⟩
                refine AWp.conv (inv := []) (vk := []) (e0 := []) (t := ⟨[(10, bV x2530)], [], 0⟩) (by kernel_rfl) ?_
                refine AWp.ret ?_
                obtain rfl := Option.some.inj H
                exact Exists.intro _ (And.intro (fun _ _ h => h) (And.intro (.inl rfl) (And.intro rfl (And.intro (by kernel_rfl) (by kernel_rfl)))))
end Go.Proofs.Yteogljahemehkaa.PvGC
