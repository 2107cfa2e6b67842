import Derived.Test.YteogljahemehkaaProg
import Derived.Test.YteogljahemehkaaPxRankRises06
set_option linter.unusedVariables false
set_option linter.unnecessarySimpa false
set_option linter.unusedSimpArgs false
set_option maxRecDepth 10000
namespace Go.Proofs.Yteogljahemehkaa.PvGC
open Go Go.Pv
def f_rank_Order.l0 (a0 : THist) (x1316 : List Trank_Cell) (x1317 : Int) : Option (List Trank_Cell) := if (decide (x1317 ≥ (0 : Int))) = true then ((at? a0.f7 x1317) >>= fun b1323 => (chk ((x1316.length + [(⟨(⟨(-1), a0.f1, b1323.f0⟩ : Tbound_Key), b1323.f1⟩ : Trank_Cell)].length) * 32 ≤ 140737488355328)) >>= fun _ => f_rank_Order.l0 a0 (x1316 ++ [(⟨(⟨(-1), a0.f1, b1323.f0⟩ : Tbound_Key), b1323.f1⟩ : Trank_Cell)]) (IntKind.i64.wrap (x1317 - (1 : Int)))) else (some x1316)
partial_fixpoint
def f_rank_Order.l1 (a0 : THist) (x1341 : List Trank_Cell) (x1342 : Int) : Option (List Trank_Cell) := if (decide (x1342 < (a0.f6.length : Int))) = true then ((at? a0.f6 x1342) >>= fun b1347 => (chk ((x1341.length + [(⟨(⟨1, a0.f1, b1347.f0⟩ : Tbound_Key), b1347.f1⟩ : Trank_Cell)].length) * 32 ≤ 140737488355328)) >>= fun _ => f_rank_Order.l1 a0 (x1341 ++ [(⟨(⟨1, a0.f1, b1347.f0⟩ : Tbound_Key), b1347.f1⟩ : Trank_Cell)]) (IntKind.i64.wrap (x1342 + (1 : Int)))) else (some x1341)
partial_fixpoint
def f_rank_Order.f (a0 : THist) : Option (List Trank_Cell) := (f_rank_Order.l0 a0 [] (IntKind.i64.wrap ((a0.f7.length : Int) - (1 : Int)))) >>= fun x1327 => ((if (decide (a0.f3 > (0 : Int))) = true then ((chk ((x1327.length + [(⟨(⟨0, 0, 0⟩ : Tbound_Key), a0.f3⟩ : Trank_Cell)].length) * 32 ≤ 140737488355328)) >>= fun _ => some (x1327 ++ [(⟨(⟨0, 0, 0⟩ : Tbound_Key), a0.f3⟩ : Trank_Cell)])) else (some x1327)) : Option (List Trank_Cell)) >>= fun x1331 => (f_rank_Order.l1 a0 x1331 0) >>= fun x1352 => some x1352
theorem f_rank_Order.ok (a0 : THist) (r : List Trank_Cell) (H : f_rank_Order.f a0 = some r) : Pv.Fn Try.prog 21 [.agg (aHist a0)] [] 0 (fun x o => x = .own 0 ∧ o = [(0, some (.row 4 47 (r.map erank_Cell)))]) := by
  unfold f_rank_Order.f at H
  refine Fn.bodyK [0] Try.func21 rfl rfl (fun Γ hP hn => ?_)
  have hm : Try.prog.follows .mixedOrders = true := by kernel_rfl
  replace hn : Γ.n = 64 := hn
  refine AWp.seq ?_
  refine reg hP hn hm [(0, .k 0)] [1] [0] ⟨[(1, .ptr 0 0 0)], [(0, some (.box 35 (aHist a0)))], 0⟩ [] (by kernel_rfl) trivial ?_
  refine AWp.seq ?_
  refine reg hP hn hm [] [1, 3] [0] ⟨[(1, .ptr 0 0 0), (3, .none0)], [(0, some (.box 35 (aHist a0)))], 0⟩ [] (by kernel_rfl) trivial ?_
  refine AWp.seq ?_
  refine AWp.seq ?_
  refine reg hP hn hm [(2, .any (iV .i64 (a0.f7.length : Int)))] [1, 3, 4] [0] ⟨[(1, .ptr 0 0 0), (3, .none0), (4, iV .i64 (IntKind.i64.wrap ((a0.f7.length : Int) - (1 : Int))))], [(0, some (.box 35 (aHist a0)))], 0⟩ [((a0.f7.map eBucket).length : Int) = (a0.f7.length : Int)] (by kernel_rfl) ⟨by rw [len_map], trivial⟩ ?_
  refine AWp.block ?_
  obtain ⟨o1353, e1354, H⟩ := bind_of H
  refine AWp.loop (LWp.conv (inv := [(0, 3)]) (vk := []) (e0 := [4]) (t := ⟨[(1, .ptr 3 0 0), (3, .own 4), (4, iV .i64 (IntKind.i64.wrap ((a0.f7.length : Int) - (1 : Int))))], [(3, some (.box 35 (aHist a0))), (4, some (.row 4 47 ([].map erank_Cell)))], 0⟩) (by kernel_rfl) ?_)
  refine LWp.mono (Q := fun e s => (match (generalizing := false) o1353 with | x1327 => e = .exit 0 ∧ s = ⟨[(1, .ptr 7 0 0), (3, .own 8)], [(7, some (.box 35 (aHist a0))), (8, some (.row 4 47 (x1327.map erank_Cell)))], 0⟩)) (LWp.cv (withBody (fun body hbody => ?_))) ?_
  · refine f_rank_Order.l0.partial_correctness a0 (motive := fun x1316 x1317 o1353 => LWp Γ body (fun e s => ∃ t, Cv Γ s t ∧ (match (generalizing := false) o1353 with | x1327 => e = .exit 0 ∧ t = ⟨[(1, .ptr 7 0 0), (3, .own 8)], [(7, some (.box 35 (aHist a0))), (8, some (.row 4 47 (x1327.map erank_Cell)))], 0⟩)) ⟨[(1, .ptr 3 0 0), (3, .own 4), (4, iV .i64 x1317)], [(3, some (.box 35 (aHist a0))), (4, some (.row 4 47 (x1316.map erank_Cell)))], 0⟩) ?_ _ _ _ e1354
    clear H e1354 o1353; intro self ih x1316 x1317 o1353 H
    subst hbody
    refine LWp.round ?_
    refine AWp.seq ?_
    refine AWp.seq ?_
    refine reg hP hn hm [] [1, 3, 4, 12] [3, 4] ⟨[(1, .ptr 3 0 0), (3, .own 4), (4, iV .i64 x1317), (12, bV (decide (x1317 ≥ (0 : Int))))], [(3, some (.box 35 (aHist a0))), (4, some (.row 4 47 (x1316.map erank_Cell)))], 0⟩ [] (by kernel_rfl) trivial ?_
    refine AWp.cond (decide (x1317 ≥ (0 : Int))) rfl (fun c1318 => ?_) (fun c1318 => ?_)
    · replace H := (ifT c1318).symm.trans H
      refine AWp.skip ?_
      refine AWp.seq ?_
      refine AWp.block ?_
      obtain ⟨b1323, p1324, q1325, H⟩ := at_of H
      obtain ⟨c1326, H⟩ := chk_of H
      refine reg hP hn hm [(6, .c (eBucket b1323)), (13, .c (eBucket b1323)), (17, .app 5 ([(⟨(⟨(-1), a0.f1, b1323.f0⟩ : Tbound_Key), b1323.f1⟩ : Trank_Cell)].map erank_Cell)), (18, .app 6 ((x1316 ++ [(⟨(⟨(-1), a0.f1, b1323.f0⟩ : Tbound_Key), b1323.f1⟩ : Trank_Cell)]).map erank_Cell))] [1, 3, 4] [3, 6] ⟨[(1, .ptr 3 0 0), (3, .own 6), (4, iV .i64 x1317)], [(3, some (.box 35 (aHist a0))), (6, some (.row 4 47 ((x1316 ++ [(⟨(⟨(-1), a0.f1, b1323.f0⟩ : Tbound_Key), b1323.f1⟩ : Trank_Cell)]).map erank_Cell)))], 0⟩ [0 ≤ x1317, (a0.f7.map eBucket)[(Int.toNat (x1317))]? = some (eBucket b1323), 0 ≤ x1317, (a0.f7.map eBucket)[(Int.toNat (x1317))]? = some (eBucket b1323), [(⟨(⟨(-1), a0.f1, b1323.f0⟩ : Tbound_Key), b1323.f1⟩ : Trank_Cell)].map erank_Cell = [[iI .i64 (-1), iI .i64 a0.f1, iI .i64 b1323.f0, iI .u64 b1323.f1]], (x1316 ++ [(⟨(⟨(-1), a0.f1, b1323.f0⟩ : Tbound_Key), b1323.f1⟩ : Trank_Cell)]).map erank_Cell = (x1316.map erank_Cell) ++ ([(⟨(⟨(-1), a0.f1, b1323.f0⟩ : Tbound_Key), b1323.f1⟩ : Trank_Cell)].map erank_Cell), ∀ c ∈ ([(⟨(⟨(-1), a0.f1, b1323.f0⟩ : Tbound_Key), b1323.f1⟩ : Trank_Cell)].map erank_Cell), c.length = 4, ∀ c ∈ ([(⟨(⟨(-1), a0.f1, b1323.f0⟩ : Tbound_Key), b1323.f1⟩ : Trank_Cell)].map erank_Cell), leaves (c.map .im) = true, ((x1316.map erank_Cell).length + ([(⟨(⟨(-1), a0.f1, b1323.f0⟩ : Tbound_Key), b1323.f1⟩ : Trank_Cell)].map erank_Cell).length) * 32 ≤ 140737488355328] (by kernel_rfl) ⟨by exact p1324, by exact el_map eBucket q1325, by exact p1324, by exact el_map eBucket q1325, by exact rfl, by simp, by exact all_len _ _ _ (fun _ => rfl), by exact all_leaf _ _ (fun _ => rfl), by simpa using c1326, trivial⟩ ?_
      refine reg hP hn hm [] [1, 3, 4] [3, 6] ⟨[(1, .ptr 3 0 0), (3, .own 6), (4, iV .i64 (IntKind.i64.wrap (x1317 - (1 : Int))))], [(3, some (.box 35 (aHist a0))), (6, some (.row 4 47 ((x1316 ++ [(⟨(⟨(-1), a0.f1, b1323.f0⟩ : Tbound_Key), b1323.f1⟩ : Trank_Cell)]).map erank_Cell)))], 0⟩ [] (by kernel_rfl) trivial ?_
      exact LWp.conv (inv := [(3, 3), (6, 4)]) (vk := []) (e0 := []) (t := ⟨[(1, .ptr 3 0 0), (3, .own 4), (4, iV .i64 (IntKind.i64.wrap (x1317 - (1 : Int))))], [(3, some (.box 35 (aHist a0))), (4, some (.row 4 47 ((x1316 ++ [(⟨(⟨(-1), a0.f1, b1323.f0⟩ : Tbound_Key), b1323.f1⟩ : Trank_Cell)]).map erank_Cell)))], 0⟩) (by kernel_rfl) (ih _ _ _ H)
    · replace H := (ifF c1318).symm.trans H
      refine AWp.exit ?_
      obtain rfl := Option.some.inj H
      exact Exists.intro _ (And.intro (fun _ _ h => h.conv (inv := [(3, 7), (4, 8)]) (vk := []) (e0 := []) (t := ⟨[(1, .ptr 7 0 0), (3, .own 8)], [(7, some (.box 35 (aHist a0))), (8, some (.row 4 47 (x1316.map erank_Cell)))], 0⟩) (by kernel_rfl)) (And.intro rfl rfl))
  · obtain ⟨x1327, rfl⟩ : ∃ z, z = o1353 := ⟨_, rfl⟩
    rintro e s ⟨rfl, rfl⟩
    refine AWp.seq ?_
    refine AWp.seq ?_
    refine reg hP hn hm [] [1, 3, 36] [7, 8] ⟨[(1, .ptr 7 0 0), (3, .own 8), (36, bV (decide (a0.f3 > (0 : Int))))], [(7, some (.box 35 (aHist a0))), (8, some (.row 4 47 (x1327.map erank_Cell)))], 0⟩ [] (by kernel_rfl) trivial ?_
    obtain ⟨o1355, e1356, H⟩ := bind_of H
    refine AWp.mono (Q := fun e s => (match (generalizing := false) o1355 with | x1331 => e = .normal ∧ s = ⟨[(1, .ptr 11 0 0), (3, .own 12)], [(11, some (.box 35 (aHist a0))), (12, some (.row 4 47 (x1331.map erank_Cell)))], 0⟩)) (AWp.cv ?_) ?_
    · replace H := e1356; clear e1356
      refine AWp.cond (decide (a0.f3 > (0 : Int))) rfl (fun c1328 => ?_) (fun c1328 => ?_)
      · replace H := (ifT c1328).symm.trans H
        obtain ⟨c1330, H⟩ := chk_of H
        refine reg hP hn hm [(5, .app 9 ([(⟨(⟨0, 0, 0⟩ : Tbound_Key), a0.f3⟩ : Trank_Cell)].map erank_Cell)), (6, .app 10 ((x1327 ++ [(⟨(⟨0, 0, 0⟩ : Tbound_Key), a0.f3⟩ : Trank_Cell)]).map erank_Cell))] [1, 3] [7, 10] ⟨[(1, .ptr 7 0 0), (3, .own 10)], [(7, some (.box 35 (aHist a0))), (10, some (.row 4 47 ((x1327 ++ [(⟨(⟨0, 0, 0⟩ : Tbound_Key), a0.f3⟩ : Trank_Cell)]).map erank_Cell)))], 0⟩ [[(⟨(⟨0, 0, 0⟩ : Tbound_Key), a0.f3⟩ : Trank_Cell)].map erank_Cell = [[iI .i64 0, iI .i64 0, iI .i64 0, iI .u64 a0.f3]], (x1327 ++ [(⟨(⟨0, 0, 0⟩ : Tbound_Key), a0.f3⟩ : Trank_Cell)]).map erank_Cell = (x1327.map erank_Cell) ++ ([(⟨(⟨0, 0, 0⟩ : Tbound_Key), a0.f3⟩ : Trank_Cell)].map erank_Cell), ∀ c ∈ ([(⟨(⟨0, 0, 0⟩ : Tbound_Key), a0.f3⟩ : Trank_Cell)].map erank_Cell), c.length = 4, ∀ c ∈ ([(⟨(⟨0, 0, 0⟩ : Tbound_Key), a0.f3⟩ : Trank_Cell)].map erank_Cell), leaves (c.map .im) = true, ((x1327.map erank_Cell).length + ([(⟨(⟨0, 0, 0⟩ : Tbound_Key), a0.f3⟩ : Trank_Cell)].map erank_Cell).length) * 32 ≤ 140737488355328] (by kernel_rfl) ⟨by exact rfl, by simp, by exact all_len _ _ _ (fun _ => rfl), by exact all_leaf _ _ (fun _ => rfl), by simpa using c1330, trivial⟩ ?_
        obtain rfl := Option.some.inj H
        exact Exists.intro _ (And.intro (fun _ _ h => h.conv (inv := [(7, 11), (10, 12)]) (vk := []) (e0 := []) (t := ⟨[(1, .ptr 11 0 0), (3, .own 12)], [(11, some (.box 35 (aHist a0))), (12, some (.row 4 47 ((x1327 ++ [(⟨(⟨0, 0, 0⟩ : Tbound_Key), a0.f3⟩ : Trank_Cell)]).map erank_Cell)))], 0⟩) (by kernel_rfl)) (And.intro rfl rfl))
      · replace H := (ifF c1328).symm.trans H
        refine AWp.skip ?_
        obtain rfl := Option.some.inj H
        exact Exists.intro _ (And.intro (fun _ _ h => h.conv (inv := [(7, 11), (8, 12)]) (vk := []) (e0 := []) (t := ⟨[(1, .ptr 11 0 0), (3, .own 12)], [(11, some (.box 35 (aHist a0))), (12, some (.row 4 47 (x1327.map erank_Cell)))], 0⟩) (by kernel_rfl)) (And.intro rfl rfl))
    · obtain ⟨x1331, rfl⟩ : ∃ z, z = o1355 := ⟨_, rfl⟩
      rintro e s ⟨rfl, rfl⟩
      refine AWp.seq ?_
      refine AWp.seq ?_
      refine reg hP hn hm [(2, .any (iV .i64 (a0.f6.length : Int)))] [1, 3, 45, 46, 47] [11, 12] ⟨[(1, .ptr 11 0 0), (3, .own 12), (45, .im (.row (a0.f6.map eBucket))), (46, iV .i64 (a0.f6.length : Int)), (47, iV .i64 0)], [(11, some (.box 35 (aHist a0))), (12, some (.row 4 47 (x1331.map erank_Cell)))], 0⟩ [((a0.f6.map eBucket).length : Int) = (a0.f6.length : Int)] (by kernel_rfl) ⟨by rw [len_map], trivial⟩ ?_
      refine AWp.block ?_
      obtain ⟨o1357, e1358, H⟩ := bind_of H
      refine AWp.loop (LWp.conv (inv := [(11, 16), (12, 17)]) (vk := []) (e0 := []) (t := ⟨[(1, .ptr 16 0 0), (3, .own 17), (45, .im (.row (a0.f6.map eBucket))), (46, iV .i64 (a0.f6.length : Int)), (47, iV .i64 0)], [(16, some (.box 35 (aHist a0))), (17, some (.row 4 47 (x1331.map erank_Cell)))], 0⟩) (by kernel_rfl) ?_)
      refine LWp.mono (Q := fun e s => (match (generalizing := false) o1357 with | x1352 => e = .exit 2 ∧ s = ⟨[(3, .own 21)], [(21, some (.row 4 47 (x1352.map erank_Cell)))], 0⟩)) (LWp.cv (withBody (fun body hbody => ?_))) ?_
      · refine f_rank_Order.l1.partial_correctness a0 (motive := fun x1341 x1342 o1357 => LWp Γ body (fun e s => ∃ t, Cv Γ s t ∧ (match (generalizing := false) o1357 with | x1352 => e = .exit 2 ∧ t = ⟨[(3, .own 21)], [(21, some (.row 4 47 (x1352.map erank_Cell)))], 0⟩)) ⟨[(1, .ptr 16 0 0), (3, .own 17), (45, .im (.row (a0.f6.map eBucket))), (46, iV .i64 (a0.f6.length : Int)), (47, iV .i64 x1342)], [(16, some (.box 35 (aHist a0))), (17, some (.row 4 47 (x1341.map erank_Cell)))], 0⟩) ?_ _ _ _ e1358
        clear H e1358 o1357; intro self ih x1341 x1342 o1357 H
        subst hbody
        refine LWp.round ?_
        refine AWp.seq ?_
        refine reg hP hn hm [] [1, 3, 45, 46, 47, 48] [16, 17] ⟨[(1, .ptr 16 0 0), (3, .own 17), (45, .im (.row (a0.f6.map eBucket))), (46, iV .i64 (a0.f6.length : Int)), (47, iV .i64 x1342), (48, bV (decide (x1342 < (a0.f6.length : Int))))], [(16, some (.box 35 (aHist a0))), (17, some (.row 4 47 (x1341.map erank_Cell)))], 0⟩ [] (by kernel_rfl) trivial ?_
        refine AWp.seq ?_
        refine AWp.cond (decide (x1342 < (a0.f6.length : Int))) rfl (fun c1343 => ?_) (fun c1343 => ?_)
        · replace H := (ifT c1343).symm.trans H
          refine AWp.skip ?_
          refine AWp.seq ?_
          refine AWp.block ?_
          refine AWp.seq ?_
          obtain ⟨b1347, p1348, q1349, H⟩ := at_of H
          refine reg hP hn hm [(0, .c (eBucket b1347)), (2, .k 18)] [1, 3, 6, 45, 46, 47] [16, 17, 18] ⟨[(1, .ptr 16 0 0), (3, .own 17), (6, .ptr 18 0 0), (45, .im (.row (a0.f6.map eBucket))), (46, iV .i64 (a0.f6.length : Int)), (47, iV .i64 x1342)], [(16, some (.box 35 (aHist a0))), (17, some (.row 4 47 (x1341.map erank_Cell))), (18, some (.box 127 (aBucket b1347)))], 0⟩ [0 ≤ x1342, (a0.f6.map eBucket)[(Int.toNat (x1342))]? = some (eBucket b1347)] (by kernel_rfl) ⟨by exact p1348, by exact el_map eBucket q1349, trivial⟩ ?_
          obtain ⟨c1351, H⟩ := chk_of H
          refine reg hP hn hm [(9, .app 19 ([(⟨(⟨1, a0.f1, b1347.f0⟩ : Tbound_Key), b1347.f1⟩ : Trank_Cell)].map erank_Cell)), (10, .app 20 ((x1341 ++ [(⟨(⟨1, a0.f1, b1347.f0⟩ : Tbound_Key), b1347.f1⟩ : Trank_Cell)]).map erank_Cell))] [1, 3, 45, 46, 47] [16, 20] ⟨[(1, .ptr 16 0 0), (3, .own 20), (45, .im (.row (a0.f6.map eBucket))), (46, iV .i64 (a0.f6.length : Int)), (47, iV .i64 x1342)], [(16, some (.box 35 (aHist a0))), (20, some (.row 4 47 ((x1341 ++ [(⟨(⟨1, a0.f1, b1347.f0⟩ : Tbound_Key), b1347.f1⟩ : Trank_Cell)]).map erank_Cell)))], 0⟩ [[(⟨(⟨1, a0.f1, b1347.f0⟩ : Tbound_Key), b1347.f1⟩ : Trank_Cell)].map erank_Cell = [[iI .i64 1, iI .i64 a0.f1, iI .i64 b1347.f0, iI .u64 b1347.f1]], (x1341 ++ [(⟨(⟨1, a0.f1, b1347.f0⟩ : Tbound_Key), b1347.f1⟩ : Trank_Cell)]).map erank_Cell = (x1341.map erank_Cell) ++ ([(⟨(⟨1, a0.f1, b1347.f0⟩ : Tbound_Key), b1347.f1⟩ : Trank_Cell)].map erank_Cell), ∀ c ∈ ([(⟨(⟨1, a0.f1, b1347.f0⟩ : Tbound_Key), b1347.f1⟩ : Trank_Cell)].map erank_Cell), c.length = 4, ∀ c ∈ ([(⟨(⟨1, a0.f1, b1347.f0⟩ : Tbound_Key), b1347.f1⟩ : Trank_Cell)].map erank_Cell), leaves (c.map .im) = true, ((x1341.map erank_Cell).length + ([(⟨(⟨1, a0.f1, b1347.f0⟩ : Tbound_Key), b1347.f1⟩ : Trank_Cell)].map erank_Cell).length) * 32 ≤ 140737488355328] (by kernel_rfl) ⟨by exact rfl, by simp, by exact all_len _ _ _ (fun _ => rfl), by exact all_leaf _ _ (fun _ => rfl), by simpa using c1351, trivial⟩ ?_
          refine reg hP hn hm [] [1, 3, 45, 46, 47] [16, 20] ⟨[(1, .ptr 16 0 0), (3, .own 20), (45, .im (.row (a0.f6.map eBucket))), (46, iV .i64 (a0.f6.length : Int)), (47, iV .i64 (IntKind.i64.wrap (x1342 + (1 : Int))))], [(16, some (.box 35 (aHist a0))), (20, some (.row 4 47 ((x1341 ++ [(⟨(⟨1, a0.f1, b1347.f0⟩ : Tbound_Key), b1347.f1⟩ : Trank_Cell)]).map erank_Cell)))], 0⟩ [] (by kernel_rfl) trivial ?_
          exact LWp.conv (inv := [(16, 16), (20, 17)]) (vk := []) (e0 := []) (t := ⟨[(1, .ptr 16 0 0), (3, .own 17), (45, .im (.row (a0.f6.map eBucket))), (46, iV .i64 (a0.f6.length : Int)), (47, iV .i64 (IntKind.i64.wrap (x1342 + (1 : Int))))], [(16, some (.box 35 (aHist a0))), (17, some (.row 4 47 ((x1341 ++ [(⟨(⟨1, a0.f1, b1347.f0⟩ : Tbound_Key), b1347.f1⟩ : Trank_Cell)]).map erank_Cell)))], 0⟩) (by kernel_rfl) (ih _ _ _ H)
        · replace H := (ifF c1343).symm.trans H
          refine AWp.exit ?_
          obtain rfl := Option.some.inj H
          exact Exists.intro _ (And.intro (fun _ _ h => h.conv (inv := [(17, 21)]) (vk := []) (e0 := []) (t := ⟨[(3, .own 21)], [(21, some (.row 4 47 (x1341.map erank_Cell)))], 0⟩) (by kernel_rfl)) (And.intro rfl rfl))
      · obtain ⟨x1352, rfl⟩ : ∃ z, z = o1357 := ⟨_, rfl⟩
        rintro e s ⟨rfl, rfl⟩
        refine AWp.seq ?_
        refine reg hP hn hm [] [2] [21] ⟨[(2, .own 21)], [(21, some (.row 4 47 (x1352.map erank_Cell)))], 0⟩ [] (by kernel_rfl) trivial ?_
        refine AWp.conv (inv := [(21, 0)]) (vk := []) (e0 := []) (t := ⟨[(2, .own 0)], [(0, some (.row 4 47 (x1352.map erank_Cell)))], 0⟩) (by kernel_rfl) ?_
        refine AWp.ret ?_
        obtain rfl := Option.some.inj H
        exact Exists.intro _ (And.intro (fun _ _ h => h) (And.intro (.inl rfl) (And.intro rfl (And.intro (by kernel_rfl) (by kernel_rfl)))))
def f_rank_At.l0 (t1361 : List Trank_Cell) (x1371 : Int) (x1372 : Int) : Option ((Tbound_Key × Int) ⊕ Unit) := if (decide (x1372 < (t1361.length : Int))) = true then ((at? t1361 x1372) >>= fun b1377 => if (decide (x1371 ≤ b1377.f1)) = true then (some (.inl (b1377.f0, 0))) else (f_rank_At.l0 t1361 (IntKind.u64.wrap (x1371 - b1377.f1)) (IntKind.i64.wrap (x1372 + (1 : Int))))) else (some (.inr ()))
partial_fixpoint
def f_rank_At.f (a0 : THist) (a1 : Int) : Option (Tbound_Key × Int) := if (a0.f4 == (0 : Int)) = true then (some ((⟨0, 0, 0⟩ : Tbound_Key), 30)) else (((if (decide (a1 < (1 : Int))) = true then (some true) else (some (decide (a1 > a0.f4)))) : Option (Bool)) >>= fun x1305 => if x1305 = true then (some ((⟨0, 0, 0⟩ : Tbound_Key), 4)) else ((f_rank_Order.f a0) >>= fun t1361 => (f_rank_At.l0 t1361 a1 0) >>= fun oo => match oo with | .inl rr => (some rr) | .inr _ => (some ((⟨0, 0, 0⟩ : Tbound_Key), 4))))
theorem f_rank_At.ok (a0 : THist) (a1 : Int) (r : Tbound_Key × Int) (H : f_rank_At.f a0 a1 = some r) : Pv.Fn Try.prog 22 [.agg (aHist a0), iV .u64 a1] [] 0 (fun x o => x = .tup [.agg (abound_Key (r.1)), iV .i64 r.2] ∧ o = []) := by
  unfold f_rank_At.f at H
  refine Fn.bodyK [] Try.func22 rfl rfl (fun Γ hP hn => ?_)
  have hm : Try.prog.follows .mixedOrders = true := by kernel_rfl
  replace hn : Γ.n = 42 := hn
  refine AWp.seq ?_
  refine reg hP hn hm [(0, .k 0), (1, .k 1)] [1, 2, 4] [0, 1] ⟨[(1, iV .u64 a1), (2, .ptr 0 0 0), (4, .ptr 1 0 0)], [(0, some (.box 35 (aHist a0))), (1, some (.box 45 (abound_Key ⟨0, 0, 0⟩)))], 0⟩ [] (by kernel_rfl) trivial ?_
  refine AWp.seq ?_
  refine AWp.block ?_
  refine AWp.seq ?_
  refine reg hP hn hm [] [1, 2, 4, 8] [0, 1] ⟨[(1, iV .u64 a1), (2, .ptr 0 0 0), (4, .ptr 1 0 0), (8, bV (a0.f4 == (0 : Int)))], [(0, some (.box 35 (aHist a0))), (1, some (.box 45 (abound_Key ⟨0, 0, 0⟩)))], 0⟩ [] (by kernel_rfl) trivial ?_
  refine AWp.cond (a0.f4 == (0 : Int)) rfl (fun c1302 => ?_) (fun c1302 => ?_)
  · replace H := (ifT c1302).symm.trans H
    refine AWp.seq ?_
    refine reg hP hn hm [] [4, 5] [1] ⟨[(4, .ptr 1 0 0), (5, iV .i64 30)], [(1, some (.box 45 (abound_Key ⟨0, 0, 0⟩)))], 0⟩ [] (by kernel_rfl) trivial ?_
    refine AWp.conv (inv := [(1, 0)]) (vk := []) (e0 := []) (t := ⟨[(4, .ptr 0 0 0), (5, iV .i64 30)], [(0, some (.box 45 (abound_Key ((⟨0, 0, 0⟩ : Tbound_Key)))))], 0⟩) (by kernel_rfl) ?_
    refine AWp.ret ?_
    obtain rfl := Option.some.inj H
    exact Exists.intro _ (And.intro (fun _ _ h => h) (And.intro (.inl rfl) (And.intro rfl (And.intro (by kernel_rfl) (by kernel_rfl)))))
  · replace H := (ifF c1302).symm.trans H
    refine AWp.seq ?_
    obtain ⟨o1381, e1382, H⟩ := bind_of H
    refine AWp.mono (Q := fun e s => (match (generalizing := false) o1381 with | x1305 => e = .normal ∧ s = ⟨[(1, iV .u64 a1), (2, .ptr 2 0 0), (4, .ptr 3 0 0), (13, bV x1305)], [(2, some (.box 35 (aHist a0))), (3, some (.box 45 (abound_Key ⟨0, 0, 0⟩)))], 0⟩)) (AWp.cv ?_) ?_
    · replace H := e1382; clear e1382
      rcases Bool.eq_false_or_eq_true (decide (a1 < (1 : Int))) with c1304 | c1304
      · replace H := (ifT c1304).symm.trans H
        refine reg hP hn hm [(2, .b true)] [1, 2, 4, 13] [0, 1] ⟨[(1, iV .u64 a1), (2, .ptr 0 0 0), (4, .ptr 1 0 0), (13, bV true)], [(0, some (.box 35 (aHist a0))), (1, some (.box 45 (abound_Key ⟨0, 0, 0⟩)))], 0⟩ [(decide (a1 < (1 : Int))) = true] (by kernel_rfl) ⟨by exact c1304, trivial⟩ ?_
        obtain rfl := Option.some.inj H
        exact Exists.intro _ (And.intro (fun _ _ h => h.conv (inv := [(0, 2), (1, 3)]) (vk := []) (e0 := []) (t := ⟨[(1, iV .u64 a1), (2, .ptr 2 0 0), (4, .ptr 3 0 0), (13, bV true)], [(2, some (.box 35 (aHist a0))), (3, some (.box 45 (abound_Key ⟨0, 0, 0⟩)))], 0⟩) (by kernel_rfl)) (And.intro rfl rfl))
      · replace H := (ifF c1304).symm.trans H
        refine reg hP hn hm [(2, .b false)] [1, 2, 4, 13] [0, 1] ⟨[(1, iV .u64 a1), (2, .ptr 0 0 0), (4, .ptr 1 0 0), (13, bV (decide (a1 > a0.f4)))], [(0, some (.box 35 (aHist a0))), (1, some (.box 45 (abound_Key ⟨0, 0, 0⟩)))], 0⟩ [(decide (a1 < (1 : Int))) = false] (by kernel_rfl) ⟨by exact c1304, trivial⟩ ?_
        obtain rfl := Option.some.inj H
        exact Exists.intro _ (And.intro (fun _ _ h => h.conv (inv := [(0, 2), (1, 3)]) (vk := []) (e0 := []) (t := ⟨[(1, iV .u64 a1), (2, .ptr 2 0 0), (4, .ptr 3 0 0), (13, bV (decide (a1 > a0.f4)))], [(2, some (.box 35 (aHist a0))), (3, some (.box 45 (abound_Key ⟨0, 0, 0⟩)))], 0⟩) (by kernel_rfl)) (And.intro rfl rfl))
    · obtain ⟨x1305, rfl⟩ : ∃ z, z = o1381 := ⟨_, rfl⟩
      rintro e s ⟨rfl, rfl⟩
      refine AWp.cond x1305 rfl (fun c1306 => ?_) (fun c1306 => ?_)
      · replace H := (ifT c1306).symm.trans H
        refine AWp.seq ?_
        refine reg hP hn hm [] [4, 5] [3] ⟨[(4, .ptr 3 0 0), (5, iV .i64 4)], [(3, some (.box 45 (abound_Key ⟨0, 0, 0⟩)))], 0⟩ [] (by kernel_rfl) trivial ?_
        refine AWp.conv (inv := [(3, 0)]) (vk := []) (e0 := []) (t := ⟨[(4, .ptr 0 0 0), (5, iV .i64 4)], [(0, some (.box 45 (abound_Key ((⟨0, 0, 0⟩ : Tbound_Key)))))], 0⟩) (by kernel_rfl) ?_
        refine AWp.ret ?_
        obtain rfl := Option.some.inj H
        exact Exists.intro _ (And.intro (fun _ _ h => h) (And.intro (.inl rfl) (And.intro rfl (And.intro (by kernel_rfl) (by kernel_rfl)))))
      · replace H := (ifF c1306).symm.trans H
        refine AWp.skip ?_
        refine AWp.seq ?_
        refine AWp.seq ?_
        obtain ⟨t1361, e1362, H⟩ := bind_of H
        refine reg hP hn hm [(1, .call [] [(0, 4)] [] [4] 0 (.own 0) [(0, some (.row 4 47 (t1361.map erank_Cell)))]), (2, .any (iV .i64 (t1361.length : Int)))] [1, 4, 24, 25, 26] [3, 4] ⟨[(1, iV .u64 a1), (4, .ptr 3 0 0), (24, .own 4), (25, iV .i64 (t1361.length : Int)), (26, iV .i64 0)], [(3, some (.box 45 (abound_Key ⟨0, 0, 0⟩))), (4, some (.row 4 47 (t1361.map erank_Cell)))], 0⟩ [Enters Try.prog 21, Pv.Fn Try.prog 21 [.agg (aHist a0)] [] 0 (fun r o => r = .own 0 ∧ o = [(0, some (.row 4 47 (t1361.map erank_Cell)))]), ((t1361.map erank_Cell).length : Int) = (t1361.length : Int)] (by kernel_rfl) ⟨by exact Try.call21, by exact f_rank_Order.ok a0 t1361 e1362, by rw [len_map], trivial⟩ ?_
        refine AWp.block ?_
        obtain ⟨o1383, e1384, H⟩ := bind_of H
        refine AWp.loop (LWp.conv (inv := [(3, 6), (4, 7)]) (vk := []) (e0 := []) (t := ⟨[(1, iV .u64 a1), (4, .ptr 6 0 0), (24, .own 7), (25, iV .i64 (t1361.length : Int)), (26, iV .i64 0)], [(6, some (.box 45 (abound_Key ⟨0, 0, 0⟩))), (7, some (.row 4 47 (t1361.map erank_Cell)))], 0⟩) (by kernel_rfl) ?_)
        refine LWp.mono (Q := fun e s => (match (generalizing := false) o1383 with | .inl rr => e = .ret ∧ s.floor = 0 ∧ resOf Try.prog Try.f22 s = some (.tup [.agg (abound_Key (rr.1)), iV .i64 rr.2]) ∧ ([] : List (Nat × Option MObj)) = [] | .inr _ => e = .exit 1 ∧ s = ⟨[(4, .ptr 9 0 0)], [(9, some (.box 45 (abound_Key ⟨0, 0, 0⟩)))], 0⟩)) (LWp.cv (withBody (fun body hbody => ?_))) ?_
        · refine f_rank_At.l0.partial_correctness t1361 (motive := fun x1371 x1372 o1383 => LWp Γ body (fun e s => ∃ t, Cv Γ s t ∧ (match (generalizing := false) o1383 with | .inl rr => e = .ret ∧ t.floor = 0 ∧ resOf Try.prog Try.f22 t = some (.tup [.agg (abound_Key (rr.1)), iV .i64 rr.2]) ∧ ([] : List (Nat × Option MObj)) = [] | .inr _ => e = .exit 1 ∧ t = ⟨[(4, .ptr 9 0 0)], [(9, some (.box 45 (abound_Key ⟨0, 0, 0⟩)))], 0⟩)) ⟨[(1, iV .u64 x1371), (4, .ptr 6 0 0), (24, .own 7), (25, iV .i64 (t1361.length : Int)), (26, iV .i64 x1372)], [(6, some (.box 45 (abound_Key ⟨0, 0, 0⟩))), (7, some (.row 4 47 (t1361.map erank_Cell)))], 0⟩) ?_ _ _ _ e1384
          clear H e1384 o1383; intro self ih x1371 x1372 o1383 H
          subst hbody
          refine LWp.round ?_
          refine AWp.seq ?_
          refine reg hP hn hm [] [1, 4, 24, 25, 26, 27] [6, 7] ⟨[(1, iV .u64 x1371), (4, .ptr 6 0 0), (24, .own 7), (25, iV .i64 (t1361.length : Int)), (26, iV .i64 x1372), (27, bV (decide (x1372 < (t1361.length : Int))))], [(6, some (.box 45 (abound_Key ⟨0, 0, 0⟩))), (7, some (.row 4 47 (t1361.map erank_Cell)))], 0⟩ [] (by kernel_rfl) trivial ?_
          refine AWp.seq ?_
          refine AWp.cond (decide (x1372 < (t1361.length : Int))) rfl (fun c1373 => ?_) (fun c1373 => ?_)
          · replace H := (ifT c1373).symm.trans H
            refine AWp.skip ?_
            refine AWp.seq ?_
            refine AWp.block ?_
            refine AWp.seq ?_
            obtain ⟨b1377, p1378, q1379, H⟩ := at_of H
            refine reg hP hn hm [(1, .c (erank_Cell b1377)), (2, .k 8)] [1, 4, 7, 24, 25, 26] [6, 7, 8] ⟨[(1, iV .u64 x1371), (4, .ptr 6 0 0), (7, .ptr 8 0 0), (24, .own 7), (25, iV .i64 (t1361.length : Int)), (26, iV .i64 x1372)], [(6, some (.box 45 (abound_Key ⟨0, 0, 0⟩))), (7, some (.row 4 47 (t1361.map erank_Cell))), (8, some (.box 47 [iV .i64 b1377.f0.f0, iV .i64 b1377.f0.f1, iV .i64 b1377.f0.f2, iV .u64 b1377.f1]))], 0⟩ [0 ≤ x1372, x1372 < (((t1361.map erank_Cell).length : Nat) : Int), (t1361.map erank_Cell)[(Int.toNat (x1372))]? = some (erank_Cell b1377)] (by kernel_rfl) ⟨by exact p1378, by exact el_lt erank_Cell p1378 q1379, by exact el_map erank_Cell q1379, trivial⟩ ?_
            refine AWp.seq ?_
            refine AWp.seq ?_
            refine reg hP hn hm [] [1, 4, 7, 24, 25, 26, 33] [6, 7, 8] ⟨[(1, iV .u64 x1371), (4, .ptr 6 0 0), (7, .ptr 8 0 0), (24, .own 7), (25, iV .i64 (t1361.length : Int)), (26, iV .i64 x1372), (33, bV (decide (x1371 ≤ b1377.f1)))], [(6, some (.box 45 (abound_Key ⟨0, 0, 0⟩))), (7, some (.row 4 47 (t1361.map erank_Cell))), (8, some (.box 47 [iV .i64 b1377.f0.f0, iV .i64 b1377.f0.f1, iV .i64 b1377.f0.f2, iV .u64 b1377.f1]))], 0⟩ [] (by kernel_rfl) trivial ?_
            refine AWp.cond (decide (x1371 ≤ b1377.f1)) rfl (fun c1380 => ?_) (fun c1380 => ?_)
            · replace H := (ifT c1380).symm.trans H
              refine AWp.seq ?_
              refine reg hP hn hm [] [4, 5] [6] ⟨[(4, .ptr 6 0 0), (5, iV .i64 0)], [(6, some (.box 45 (abound_Key b1377.f0)))], 0⟩ [] (by kernel_rfl) trivial ?_
              refine AWp.conv (inv := [(6, 0)]) (vk := []) (e0 := []) (t := ⟨[(4, .ptr 0 0 0), (5, iV .i64 0)], [(0, some (.box 45 (abound_Key (b1377.f0))))], 0⟩) (by kernel_rfl) ?_
              refine AWp.ret ?_
              obtain rfl := Option.some.inj H
              exact Exists.intro _ (And.intro (fun _ _ h => h) (And.intro rfl (And.intro rfl (And.intro (by kernel_rfl) (by kernel_rfl)))))
            · replace H := (ifF c1380).symm.trans H
              refine AWp.skip ?_
              refine reg hP hn hm [] [1, 4, 24, 25, 26] [6, 7] ⟨[(1, iV .u64 (IntKind.u64.wrap (x1371 - b1377.f1))), (4, .ptr 6 0 0), (24, .own 7), (25, iV .i64 (t1361.length : Int)), (26, iV .i64 x1372)], [(6, some (.box 45 (abound_Key ⟨0, 0, 0⟩))), (7, some (.row 4 47 (t1361.map erank_Cell)))], 0⟩ [] (by kernel_rfl) trivial ?_
              refine reg hP hn hm [] [1, 4, 24, 25, 26] [6, 7] ⟨[(1, iV .u64 (IntKind.u64.wrap (x1371 - b1377.f1))), (4, .ptr 6 0 0), (24, .own 7), (25, iV .i64 (t1361.length : Int)), (26, iV .i64 (IntKind.i64.wrap (x1372 + (1 : Int))))], [(6, some (.box 45 (abound_Key ⟨0, 0, 0⟩))), (7, some (.row 4 47 (t1361.map erank_Cell)))], 0⟩ [] (by kernel_rfl) trivial ?_
              exact LWp.conv (inv := [(6, 6), (7, 7)]) (vk := []) (e0 := []) (t := ⟨[(1, iV .u64 (IntKind.u64.wrap (x1371 - b1377.f1))), (4, .ptr 6 0 0), (24, .own 7), (25, iV .i64 (t1361.length : Int)), (26, iV .i64 (IntKind.i64.wrap (x1372 + (1 : Int))))], [(6, some (.box 45 (abound_Key ⟨0, 0, 0⟩))), (7, some (.row 4 47 (t1361.map erank_Cell)))], 0⟩) (by kernel_rfl) (ih _ _ _ H)
          · replace H := (ifF c1373).symm.trans H
            refine AWp.exit ?_
            obtain rfl := Option.some.inj H
            exact Exists.intro _ (And.intro (fun _ _ h => h.conv (inv := [(6, 9)]) (vk := []) (e0 := []) (t := ⟨[(4, .ptr 9 0 0)], [(9, some (.box 45 (abound_Key ⟨0, 0, 0⟩)))], 0⟩) (by kernel_rfl)) (And.intro rfl rfl))
        · rcases o1383 with rr | _
          · skip
            rintro e s ⟨rfl, hfl, hres⟩
            obtain rfl := Option.some.inj H
            exact Exists.intro _ (And.intro (fun _ _ h => h) (And.intro (.inl rfl) (And.intro hfl hres)))
          · skip
            rintro e s ⟨rfl, rfl⟩
            refine AWp.seq ?_
            refine reg hP hn hm [] [4, 5] [9] ⟨[(4, .ptr 9 0 0), (5, iV .i64 4)], [(9, some (.box 45 (abound_Key ⟨0, 0, 0⟩)))], 0⟩ [] (by kernel_rfl) trivial ?_
            refine AWp.conv (inv := [(9, 0)]) (vk := []) (e0 := []) (t := ⟨[(4, .ptr 0 0 0), (5, iV .i64 4)], [(0, some (.box 45 (abound_Key ((⟨0, 0, 0⟩ : Tbound_Key)))))], 0⟩) (by kernel_rfl) ?_
            refine AWp.ret ?_
            obtain rfl := Option.some.inj H
            exact Exists.intro _ (And.intro (fun _ _ h => h) (And.intro (.inl rfl) (And.intro rfl (And.intro (by kernel_rfl) (by kernel_rfl)))))
def f_rank_Quantile.f (a0 : THist) (a1 : Int) (a2 : Int) : Option (Tbound_Key × Int) := ((if (a2 == (0 : Int)) = true then (some true) else (some (decide (a1 > a2)))) : Option (Bool)) >>= fun x1197 => if x1197 = true then (some ((⟨0, 0, 0⟩ : Tbound_Key), 1)) else (if (a0.f4 == (0 : Int)) = true then (some ((⟨0, 0, 0⟩ : Tbound_Key), 30)) else ((f_num_Mul.f a1 a0.f4) >>= fun t1297 => (f_num_Wide_Ceil.f (t1297) a2) >>= fun t1299 => if (t1299.2 != (0 : Int)) = true then (some ((⟨0, 0, 0⟩ : Tbound_Key), t1299.2)) else ((f_rank_At.f a0 (if (1 : Int) > t1299.1 then (1 : Int) else t1299.1)) >>= fun t1387 => some ((t1387.1), t1387.2))))
theorem f_rank_Quantile.ok (a0 : THist) (a1 : Int) (a2 : Int) (r : Tbound_Key × Int) (H : f_rank_Quantile.f a0 a1 a2 = some r) : Pv.Fn Try.prog 27 [.agg (aHist a0), iV .u64 a1, iV .u64 a2] [] 0 (fun x o => x = .tup [.agg (abound_Key (r.1)), iV .i64 r.2] ∧ o = []) := by
  unfold f_rank_Quantile.f at H
  refine Fn.bodyK [] Try.func27 rfl rfl (fun Γ hP hn => ?_)
  have hm : Try.prog.follows .mixedOrders = true := by kernel_rfl
  replace hn : Γ.n = 43 := hn
  refine AWp.seq ?_
  refine reg hP hn hm [(0, .k 0), (1, .k 1)] [1, 2, 3, 6] [0, 1] ⟨[(1, iV .u64 a1), (2, iV .u64 a2), (3, .ptr 0 0 0), (6, .ptr 1 0 0)], [(0, some (.box 35 (aHist a0))), (1, some (.box 45 (abound_Key ⟨0, 0, 0⟩)))], 0⟩ [] (by kernel_rfl) trivial ?_
  refine AWp.seq ?_
  refine AWp.block ?_
  refine AWp.seq ?_
  obtain ⟨o1389, e1390, H⟩ := bind_of H
  refine AWp.mono (Q := fun e s => (match (generalizing := false) o1389 with | x1197 => e = .normal ∧ s = ⟨[(1, iV .u64 a1), (2, iV .u64 a2), (3, .ptr 2 0 0), (6, .ptr 3 0 0), (10, bV x1197)], [(2, some (.box 35 (aHist a0))), (3, some (.box 45 (abound_Key ⟨0, 0, 0⟩)))], 0⟩)) (AWp.cv ?_) ?_
  · replace H := e1390; clear e1390
    rcases Bool.eq_false_or_eq_true (a2 == (0 : Int)) with c1196 | c1196
    · replace H := (ifT c1196).symm.trans H
      refine reg hP hn hm [(2, .b true)] [1, 2, 3, 6, 10] [0, 1] ⟨[(1, iV .u64 a1), (2, iV .u64 a2), (3, .ptr 0 0 0), (6, .ptr 1 0 0), (10, bV true)], [(0, some (.box 35 (aHist a0))), (1, some (.box 45 (abound_Key ⟨0, 0, 0⟩)))], 0⟩ [(a2 == (0 : Int)) = true] (by kernel_rfl) ⟨by exact c1196, trivial⟩ ?_
      obtain rfl := Option.some.inj H
      exact Exists.intro _ (And.intro (fun _ _ h => h.conv (inv := [(0, 2), (1, 3)]) (vk := []) (e0 := []) (t := ⟨[(1, iV .u64 a1), (2, iV .u64 a2), (3, .ptr 2 0 0), (6, .ptr 3 0 0), (10, bV true)], [(2, some (.box 35 (aHist a0))), (3, some (.box 45 (abound_Key ⟨0, 0, 0⟩)))], 0⟩) (by kernel_rfl)) (And.intro rfl rfl))
    · replace H := (ifF c1196).symm.trans H
      refine reg hP hn hm [(2, .b false)] [1, 2, 3, 6, 10] [0, 1] ⟨[(1, iV .u64 a1), (2, iV .u64 a2), (3, .ptr 0 0 0), (6, .ptr 1 0 0), (10, bV (decide (a1 > a2)))], [(0, some (.box 35 (aHist a0))), (1, some (.box 45 (abound_Key ⟨0, 0, 0⟩)))], 0⟩ [(a2 == (0 : Int)) = false] (by kernel_rfl) ⟨by exact c1196, trivial⟩ ?_
      obtain rfl := Option.some.inj H
      exact Exists.intro _ (And.intro (fun _ _ h => h.conv (inv := [(0, 2), (1, 3)]) (vk := []) (e0 := []) (t := ⟨[(1, iV .u64 a1), (2, iV .u64 a2), (3, .ptr 2 0 0), (6, .ptr 3 0 0), (10, bV (decide (a1 > a2)))], [(2, some (.box 35 (aHist a0))), (3, some (.box 45 (abound_Key ⟨0, 0, 0⟩)))], 0⟩) (by kernel_rfl)) (And.intro rfl rfl))
  · obtain ⟨x1197, rfl⟩ : ∃ z, z = o1389 := ⟨_, rfl⟩
    rintro e s ⟨rfl, rfl⟩
    refine AWp.cond x1197 rfl (fun c1198 => ?_) (fun c1198 => ?_)
    · replace H := (ifT c1198).symm.trans H
      refine AWp.seq ?_
      refine reg hP hn hm [] [6, 7] [3] ⟨[(6, .ptr 3 0 0), (7, iV .i64 1)], [(3, some (.box 45 (abound_Key ⟨0, 0, 0⟩)))], 0⟩ [] (by kernel_rfl) trivial ?_
      refine AWp.conv (inv := [(3, 0)]) (vk := []) (e0 := []) (t := ⟨[(6, .ptr 0 0 0), (7, iV .i64 1)], [(0, some (.box 45 (abound_Key ((⟨0, 0, 0⟩ : Tbound_Key)))))], 0⟩) (by kernel_rfl) ?_
      refine AWp.ret ?_
      obtain rfl := Option.some.inj H
      exact Exists.intro _ (And.intro (fun _ _ h => h) (And.intro (.inl rfl) (And.intro rfl (And.intro (by kernel_rfl) (by kernel_rfl)))))
    · replace H := (ifF c1198).symm.trans H
      refine AWp.seq ?_
      refine reg hP hn hm [] [1, 2, 3, 6, 19] [2, 3] ⟨[(1, iV .u64 a1), (2, iV .u64 a2), (3, .ptr 2 0 0), (6, .ptr 3 0 0), (19, bV (a0.f4 == (0 : Int)))], [(2, some (.box 35 (aHist a0))), (3, some (.box 45 (abound_Key ⟨0, 0, 0⟩)))], 0⟩ [] (by kernel_rfl) trivial ?_
      refine AWp.cond (a0.f4 == (0 : Int)) rfl (fun c1199 => ?_) (fun c1199 => ?_)
      · replace H := (ifT c1199).symm.trans H
        refine AWp.seq ?_
        refine reg hP hn hm [] [6, 7] [3] ⟨[(6, .ptr 3 0 0), (7, iV .i64 30)], [(3, some (.box 45 (abound_Key ⟨0, 0, 0⟩)))], 0⟩ [] (by kernel_rfl) trivial ?_
        refine AWp.conv (inv := [(3, 0)]) (vk := []) (e0 := []) (t := ⟨[(6, .ptr 0 0 0), (7, iV .i64 30)], [(0, some (.box 45 (abound_Key ((⟨0, 0, 0⟩ : Tbound_Key)))))], 0⟩) (by kernel_rfl) ?_
        refine AWp.ret ?_
        obtain rfl := Option.some.inj H
        exact Exists.intro _ (And.intro (fun _ _ h => h) (And.intro (.inl rfl) (And.intro rfl (And.intro (by kernel_rfl) (by kernel_rfl)))))
      · replace H := (ifF c1199).symm.trans H
        refine AWp.skip ?_
        refine AWp.seq ?_
        obtain ⟨t1297, e1298, H⟩ := bind_of H
        obtain ⟨t1299, e1300, H⟩ := bind_of H
        refine reg hP hn hm [(3, .call [] [] [] [] 0 (.agg (anum_Wide (t1297))) []), (5, .call [] [] [] [] 0 (.tup [iV .u64 t1299.1, iV .i64 t1299.2]) [])] [3, 6, 8, 9] [2, 3] ⟨[(3, .ptr 2 0 0), (6, .ptr 3 0 0), (8, iV .u64 t1299.1), (9, iV .i64 t1299.2)], [(2, some (.box 35 (aHist a0))), (3, some (.box 45 (abound_Key ⟨0, 0, 0⟩)))], 0⟩ [Enters Try.prog 70, Pv.Fn Try.prog 70 [iV .u64 a1, iV .u64 a0.f4] [] 0 (fun r o => r = .agg (anum_Wide (t1297)) ∧ o = []), Enters Try.prog 71, Pv.Fn Try.prog 71 [.agg (anum_Wide (t1297)), iV .u64 a2] [] 0 (fun r o => r = .tup [iV .u64 t1299.1, iV .i64 t1299.2] ∧ o = [])] (by kernel_rfl) ⟨by exact Try.call70, by exact f_num_Mul.ok a1 a0.f4 t1297 e1298, by exact Try.call71, by exact f_num_Wide_Ceil.ok (t1297) a2 t1299 e1300, trivial⟩ ?_
        refine AWp.seq ?_
        refine AWp.seq ?_
        refine reg hP hn hm [] [3, 6, 8, 9, 34] [2, 3] ⟨[(3, .ptr 2 0 0), (6, .ptr 3 0 0), (8, iV .u64 t1299.1), (9, iV .i64 t1299.2), (34, bV (t1299.2 != (0 : Int)))], [(2, some (.box 35 (aHist a0))), (3, some (.box 45 (abound_Key ⟨0, 0, 0⟩)))], 0⟩ [] (by kernel_rfl) trivial ?_
        refine AWp.cond (t1299.2 != (0 : Int)) rfl (fun c1301 => ?_) (fun c1301 => ?_)
        · replace H := (ifT c1301).symm.trans H
          refine AWp.seq ?_
          refine reg hP hn hm [] [6, 7] [3] ⟨[(6, .ptr 3 0 0), (7, iV .i64 t1299.2)], [(3, some (.box 45 (abound_Key ⟨0, 0, 0⟩)))], 0⟩ [] (by kernel_rfl) trivial ?_
          refine AWp.conv (inv := [(3, 0)]) (vk := []) (e0 := []) (t := ⟨[(6, .ptr 0 0 0), (7, iV .i64 t1299.2)], [(0, some (.box 45 (abound_Key ((⟨0, 0, 0⟩ : Tbound_Key)))))], 0⟩) (by kernel_rfl) ?_
          refine AWp.ret ?_
          obtain rfl := Option.some.inj H
          exact Exists.intro _ (And.intro (fun _ _ h => h) (And.intro (.inl rfl) (And.intro rfl (And.intro (by kernel_rfl) (by kernel_rfl)))))
        · replace H := (ifF c1301).symm.trans H
          refine AWp.skip ?_
          refine AWp.seq ?_
          obtain ⟨t1387, e1388, H⟩ := bind_of H
          refine reg hP hn hm [(2, .more xMax), (3, .call [] [] [] [] 0 (.tup [.agg (abound_Key (t1387.1)), iV .i64 t1387.2]) [])] [6, 7] [3] ⟨[(6, .ptr 3 0 0), (7, iV .i64 t1387.2)], [(3, some (.box 45 (abound_Key (t1387.1))))], 0⟩ [Enters Try.prog 22, Pv.Fn Try.prog 22 [.agg (aHist a0), iV .u64 (if (1 : Int) > t1299.1 then (1 : Int) else t1299.1)] [] 0 (fun r o => r = .tup [.agg (abound_Key (t1387.1)), iV .i64 t1387.2] ∧ o = [])] (by kernel_rfl) ⟨by exact Try.call22, by exact f_rank_At.ok a0 (if (1 : Int) > t1299.1 then (1 : Int) else t1299.1) t1387 e1388, trivial⟩ ?_
          refine AWp.conv (inv := [(3, 0)]) (vk := []) (e0 := []) (t := ⟨[(6, .ptr 0 0 0), (7, iV .i64 t1387.2)], [(0, some (.box 45 (abound_Key ((t1387.1)))))], 0⟩) (by kernel_rfl) ?_
          refine AWp.ret ?_
          obtain rfl := Option.some.inj H
          exact Exists.intro _ (And.intro (fun _ _ h => h) (And.intro (.inl rfl) (And.intro rfl (And.intro (by kernel_rfl) (by kernel_rfl)))))
def f_pluviallaw08_awake.f  : Option (Bool) := (f_hist_Empty.f 0 0) >>= fun t1191 => (f_hist_Make.f (t1191) [(⟨1, 2⟩ : TBucket), (⟨3, 2⟩ : TBucket)] ([] : List TBucket)) >>= fun t1193 => (f_rank_Quantile.f (t1193.1) 1 2) >>= fun t1393 => (f_rank_Quantile.f (t1193.1) 501 1000) >>= fun t1397 => ((if (t1193.2 == (0 : Int)) = true then (if (t1393.2 == (0 : Int)) = true then (if (t1397.2 == (0 : Int)) = true then (if ((((t1393.1).f0) == (1 : Int)) && ((((t1393.1).f1) == (0 : Int)) && ((((t1393.1).f2) == (1 : Int)) && true))) = true then (some ((((t1397.1).f0) == (1 : Int)) && ((((t1397.1).f1) == (0 : Int)) && ((((t1397.1).f2) == (3 : Int)) && true)))) else (some false)) else (some false)) else (some false)) else (some false)) : Option (Bool)) >>= fun x1407 => some x1407
theorem f_pluviallaw08_awake.ok  (r : Bool) (H : f_pluviallaw08_awake.f  = some r) : Pv.Fn Try.prog 20 [] [] 0 (fun x o => x = bV r ∧ o = []) := by
  unfold f_pluviallaw08_awake.f at H
  refine Fn.bodyK [] Try.func20 rfl rfl (fun Γ hP hn => ?_)
  have hm : Try.prog.follows .mixedOrders = true := by kernel_rfl
  replace hn : Γ.n = 45 := hn
  refine AWp.seq ?_
  refine reg hP hn hm [] [] [] ⟨[], [], 0⟩ [] (by kernel_rfl) trivial ?_
  refine AWp.seq ?_
  obtain ⟨t1191, e1192, H⟩ := bind_of H
  obtain ⟨t1193, e1194, H⟩ := bind_of H
  refine reg hP hn hm [(0, .call [] [] [] [] 0 (.agg (aHist (t1191))) []), (3, .app 0 ([(⟨1, 2⟩ : TBucket), (⟨3, 2⟩ : TBucket)].map eBucket)), (4, .call [] [] [0] [] 0 (.tup [.agg (aHist (t1193.1)), iV .i64 t1193.2]) []), (8, .k 1)] [1, 2] [1] ⟨[(1, .ptr 1 0 0), (2, iV .i64 t1193.2)], [(1, some (.box 35 (aHist (t1193.1))))], 0⟩ [Enters Try.prog 69, Pv.Fn Try.prog 69 [iV .i64 0, iV .i64 0] [] 0 (fun r o => r = .agg (aHist (t1191)) ∧ o = []), [(⟨1, 2⟩ : TBucket), (⟨3, 2⟩ : TBucket)].map eBucket = [[iI .i64 1, iI .u64 2], [iI .i64 3, iI .u64 2]], Enters Try.prog 68, Pv.Fn Try.prog 68 [.agg (aHist (t1191)), .im (.row ([(⟨1, 2⟩ : TBucket), (⟨3, 2⟩ : TBucket)].map eBucket)), .im (.row (([] : List TBucket).map eBucket))] [] 0 (fun r o => r = .tup [.agg (aHist (t1193.1)), iV .i64 t1193.2] ∧ o = [])] (by kernel_rfl) ⟨by exact Try.call69, by exact f_hist_Empty.ok 0 0 t1191 e1192, by exact rfl, by exact Try.call68, by exact f_hist_Make.ok (t1191) [(⟨1, 2⟩ : TBucket), (⟨3, 2⟩ : TBucket)] ([] : List TBucket) t1193 e1194, trivial⟩ ?_
  refine AWp.seq ?_
  obtain ⟨t1393, e1394, H⟩ := bind_of H
  refine reg hP hn hm [(1, .call [] [] [] [] 0 (.tup [.agg (abound_Key (t1393.1)), iV .i64 t1393.2]) []), (5, .k 2)] [1, 2, 3, 4] [1, 2] ⟨[(1, .ptr 1 0 0), (2, iV .i64 t1193.2), (3, .ptr 2 0 0), (4, iV .i64 t1393.2)], [(1, some (.box 35 (aHist (t1193.1)))), (2, some (.box 45 (abound_Key (t1393.1))))], 0⟩ [Enters Try.prog 27, Pv.Fn Try.prog 27 [.agg (aHist (t1193.1)), iV .u64 1, iV .u64 2] [] 0 (fun r o => r = .tup [.agg (abound_Key (t1393.1)), iV .i64 t1393.2] ∧ o = [])] (by kernel_rfl) ⟨by exact Try.call27, by exact f_rank_Quantile.ok (t1193.1) 1 2 t1393 e1394, trivial⟩ ?_
  refine AWp.seq ?_
  obtain ⟨t1397, e1398, H⟩ := bind_of H
  refine reg hP hn hm [(1, .call [] [] [] [] 0 (.tup [.agg (abound_Key (t1397.1)), iV .i64 t1397.2]) []), (5, .k 3)] [2, 3, 4, 5, 6] [2, 3] ⟨[(2, iV .i64 t1193.2), (3, .ptr 2 0 0), (4, iV .i64 t1393.2), (5, .ptr 3 0 0), (6, iV .i64 t1397.2)], [(2, some (.box 45 (abound_Key (t1393.1)))), (3, some (.box 45 (abound_Key (t1397.1))))], 0⟩ [Enters Try.prog 27, Pv.Fn Try.prog 27 [.agg (aHist (t1193.1)), iV .u64 501, iV .u64 1000] [] 0 (fun r o => r = .tup [.agg (abound_Key (t1397.1)), iV .i64 t1397.2] ∧ o = [])] (by kernel_rfl) ⟨by exact Try.call27, by exact f_rank_Quantile.ok (t1193.1) 501 1000 t1397 e1398, trivial⟩ ?_
  refine AWp.seq ?_
  obtain ⟨o1408, e1409, H⟩ := bind_of H
  refine AWp.mono (Q := fun e s => (match (generalizing := false) o1408 with | x1407 => e = .normal ∧ s = ⟨[(0, bV x1407)], [], 0⟩)) (AWp.cv ?_) ?_
  · replace H := e1409; clear e1409
    rcases Bool.eq_false_or_eq_true (t1193.2 == (0 : Int)) with c1403 | c1403
    · replace H := (ifT c1403).symm.trans H
      rcases Bool.eq_false_or_eq_true (t1393.2 == (0 : Int)) with c1404 | c1404
      · replace H := (ifT c1404).symm.trans H
        rcases Bool.eq_false_or_eq_true (t1397.2 == (0 : Int)) with c1405 | c1405
        · replace H := (ifT c1405).symm.trans H
          rcases Bool.eq_false_or_eq_true ((((t1393.1).f0) == (1 : Int)) && ((((t1393.1).f1) == (0 : Int)) && ((((t1393.1).f2) == (1 : Int)) && true))) with c1406 | c1406
          · replace H := (ifT c1406).symm.trans H
            refine reg hP hn hm [(2, .b true), (6, .b true), (10, .b true), (13, .more (xAgg none)), (15, .b true), (18, .more (xAgg none))] [0] [] ⟨[(0, bV ((((t1397.1).f0) == (1 : Int)) && ((((t1397.1).f1) == (0 : Int)) && ((((t1397.1).f2) == (3 : Int)) && true))))], [], 0⟩ [(t1193.2 == (0 : Int)) = true, (t1393.2 == (0 : Int)) = true, (t1397.2 == (0 : Int)) = true, ((((t1393.1).f0) == (1 : Int)) && ((((t1393.1).f1) == (0 : Int)) && ((((t1393.1).f2) == (1 : Int)) && true))) = true] (by kernel_rfl) ⟨by exact c1403, by exact c1404, by exact c1405, by exact c1406, trivial⟩ ?_
            obtain rfl := Option.some.inj H
            exact Exists.intro _ (And.intro (fun _ _ h => h.conv (inv := []) (vk := []) (e0 := []) (t := ⟨[(0, bV ((((t1397.1).f0) == (1 : Int)) && ((((t1397.1).f1) == (0 : Int)) && ((((t1397.1).f2) == (3 : Int)) && true))))], [], 0⟩) (by kernel_rfl)) (And.intro rfl rfl))
          · replace H := (ifF c1406).symm.trans H
            refine reg hP hn hm [(2, .b true), (6, .b true), (10, .b true), (13, .more (xAgg none)), (15, .b false)] [0] [] ⟨[(0, bV false)], [], 0⟩ [(t1193.2 == (0 : Int)) = true, (t1393.2 == (0 : Int)) = true, (t1397.2 == (0 : Int)) = true, ((((t1393.1).f0) == (1 : Int)) && ((((t1393.1).f1) == (0 : Int)) && ((((t1393.1).f2) == (1 : Int)) && true))) = false] (by kernel_rfl) ⟨by exact c1403, by exact c1404, by exact c1405, by exact c1406, trivial⟩ ?_
            obtain rfl := Option.some.inj H
            exact Exists.intro _ (And.intro (fun _ _ h => h.conv (inv := []) (vk := []) (e0 := []) (t := ⟨[(0, bV false)], [], 0⟩) (by kernel_rfl)) (And.intro rfl rfl))
        · replace H := (ifF c1405).symm.trans H
          refine reg hP hn hm [(2, .b true), (6, .b true), (10, .b false)] [0] [] ⟨[(0, bV false)], [], 0⟩ [(t1193.2 == (0 : Int)) = true, (t1393.2 == (0 : Int)) = true, (t1397.2 == (0 : Int)) = false] (by kernel_rfl) ⟨by exact c1403, by exact c1404, by exact c1405, trivial⟩ ?_
          obtain rfl := Option.some.inj H
          exact Exists.intro _ (And.intro (fun _ _ h => h.conv (inv := []) (vk := []) (e0 := []) (t := ⟨[(0, bV false)], [], 0⟩) (by kernel_rfl)) (And.intro rfl rfl))
      · replace H := (ifF c1404).symm.trans H
        refine reg hP hn hm [(2, .b true), (6, .b false)] [0] [] ⟨[(0, bV false)], [], 0⟩ [(t1193.2 == (0 : Int)) = true, (t1393.2 == (0 : Int)) = false] (by kernel_rfl) ⟨by exact c1403, by exact c1404, trivial⟩ ?_
        obtain rfl := Option.some.inj H
        exact Exists.intro _ (And.intro (fun _ _ h => h.conv (inv := []) (vk := []) (e0 := []) (t := ⟨[(0, bV false)], [], 0⟩) (by kernel_rfl)) (And.intro rfl rfl))
    · replace H := (ifF c1403).symm.trans H
      refine reg hP hn hm [(2, .b false)] [0] [] ⟨[(0, bV false)], [], 0⟩ [(t1193.2 == (0 : Int)) = false] (by kernel_rfl) ⟨by exact c1403, trivial⟩ ?_
      obtain rfl := Option.some.inj H
      exact Exists.intro _ (And.intro (fun _ _ h => h.conv (inv := []) (vk := []) (e0 := []) (t := ⟨[(0, bV false)], [], 0⟩) (by kernel_rfl)) (And.intro rfl rfl))
  · obtain ⟨x1407, rfl⟩ : ∃ z, z = o1408 := ⟨_, rfl⟩
    rintro e s ⟨rfl, rfl⟩
    refine AWp.conv (inv := []) (vk := []) (e0 := []) (t := ⟨[(0, bV x1407)], [], 0⟩) (by kernel_rfl) ?_
    refine AWp.ret ?_
    obtain rfl := Option.some.inj H
    exact Exists.intro _ (And.intro (fun _ _ h => h) (And.intro (.inl rfl) (And.intro rfl (And.intro (by kernel_rfl) (by kernel_rfl)))))
def f_rank_Compare.f (a0 : Tbound_Key) (a1 : Tbound_Key) : Option (Int) := if (decide ((IntKind.i64.wrap ((IntKind.i64.wrap (a0.f0 * (1048576 : Int))) + (IntKind.i64.wrap (a0.f0 * a0.f2)))) < (IntKind.i64.wrap ((IntKind.i64.wrap (a1.f0 * (1048576 : Int))) + (IntKind.i64.wrap (a1.f0 * a1.f2)))))) = true then (some (-1)) else (if (decide ((IntKind.i64.wrap ((IntKind.i64.wrap (a0.f0 * (1048576 : Int))) + (IntKind.i64.wrap (a0.f0 * a0.f2)))) > (IntKind.i64.wrap ((IntKind.i64.wrap (a1.f0 * (1048576 : Int))) + (IntKind.i64.wrap (a1.f0 * a1.f2)))))) = true then (some 1) else (some 0))
theorem f_rank_Compare.ok (a0 : Tbound_Key) (a1 : Tbound_Key) (r : Int) (H : f_rank_Compare.f a0 a1 = some r) : Pv.Fn Try.prog 25 [.agg (abound_Key a0), .agg (abound_Key a1)] [] 0 (fun x o => x = iV .i64 r ∧ o = []) := by
  unfold f_rank_Compare.f at H
  refine Fn.bodyK [] Try.func25 rfl rfl (fun Γ hP hn => ?_)
  have hm : Try.prog.follows .mixedOrders = true := by kernel_rfl
  replace hn : Γ.n = 35 := hn
  refine AWp.seq ?_
  refine reg hP hn hm [(0, .k 0), (1, .k 1)] [2, 3] [0, 1] ⟨[(2, .ptr 0 0 0), (3, .ptr 1 0 0)], [(0, some (.box 45 (abound_Key a0))), (1, some (.box 45 (abound_Key a1)))], 0⟩ [] (by kernel_rfl) trivial ?_
  refine AWp.seq ?_
  refine reg hP hn hm [] [2, 3, 5, 6] [0, 1] ⟨[(2, .ptr 0 0 0), (3, .ptr 1 0 0), (5, iV .i64 (IntKind.i64.wrap (a0.f0 * (1048576 : Int)))), (6, iV .i64 (IntKind.i64.wrap (a1.f0 * (1048576 : Int))))], [(0, some (.box 45 (abound_Key a0))), (1, some (.box 45 (abound_Key a1)))], 0⟩ [] (by kernel_rfl) trivial ?_
  refine AWp.seq ?_
  refine reg hP hn hm [] [3, 5, 6] [1] ⟨[(3, .ptr 1 0 0), (5, iV .i64 (IntKind.i64.wrap ((IntKind.i64.wrap (a0.f0 * (1048576 : Int))) + (IntKind.i64.wrap (a0.f0 * a0.f2))))), (6, iV .i64 (IntKind.i64.wrap (a1.f0 * (1048576 : Int))))], [(1, some (.box 45 (abound_Key a1)))], 0⟩ [] (by kernel_rfl) trivial ?_
  refine AWp.seq ?_
  refine reg hP hn hm [] [5, 6] [] ⟨[(5, iV .i64 (IntKind.i64.wrap ((IntKind.i64.wrap (a0.f0 * (1048576 : Int))) + (IntKind.i64.wrap (a0.f0 * a0.f2))))), (6, iV .i64 (IntKind.i64.wrap ((IntKind.i64.wrap (a1.f0 * (1048576 : Int))) + (IntKind.i64.wrap (a1.f0 * a1.f2)))))], [], 0⟩ [] (by kernel_rfl) trivial ?_
  refine AWp.seq ?_
  refine AWp.block ?_
  refine AWp.seq ?_
  refine reg hP hn hm [] [5, 6, 27] [] ⟨[(5, iV .i64 (IntKind.i64.wrap ((IntKind.i64.wrap (a0.f0 * (1048576 : Int))) + (IntKind.i64.wrap (a0.f0 * a0.f2))))), (6, iV .i64 (IntKind.i64.wrap ((IntKind.i64.wrap (a1.f0 * (1048576 : Int))) + (IntKind.i64.wrap (a1.f0 * a1.f2))))), (27, bV (decide ((IntKind.i64.wrap ((IntKind.i64.wrap (a0.f0 * (1048576 : Int))) + (IntKind.i64.wrap (a0.f0 * a0.f2)))) < (IntKind.i64.wrap ((IntKind.i64.wrap (a1.f0 * (1048576 : Int))) + (IntKind.i64.wrap (a1.f0 * a1.f2)))))))], [], 0⟩ [] (by kernel_rfl) trivial ?_
  refine AWp.cond (decide ((IntKind.i64.wrap ((IntKind.i64.wrap (a0.f0 * (1048576 : Int))) + (IntKind.i64.wrap (a0.f0 * a0.f2)))) < (IntKind.i64.wrap ((IntKind.i64.wrap (a1.f0 * (1048576 : Int))) + (IntKind.i64.wrap (a1.f0 * a1.f2)))))) rfl (fun c1621 => ?_) (fun c1621 => ?_)
  · replace H := (ifT c1621).symm.trans H
    refine AWp.seq ?_
    refine reg hP hn hm [] [4] [] ⟨[(4, iV .i64 (-1))], [], 0⟩ [] (by kernel_rfl) trivial ?_
    refine AWp.conv (inv := []) (vk := []) (e0 := []) (t := ⟨[(4, iV .i64 (-1))], [], 0⟩) (by kernel_rfl) ?_
    refine AWp.ret ?_
    obtain rfl := Option.some.inj H
    exact Exists.intro _ (And.intro (fun _ _ h => h) (And.intro (.inl rfl) (And.intro rfl (And.intro (by kernel_rfl) (by kernel_rfl)))))
  · replace H := (ifF c1621).symm.trans H
    refine AWp.seq ?_
    refine reg hP hn hm [] [31] [] ⟨[(31, bV (decide ((IntKind.i64.wrap ((IntKind.i64.wrap (a0.f0 * (1048576 : Int))) + (IntKind.i64.wrap (a0.f0 * a0.f2)))) > (IntKind.i64.wrap ((IntKind.i64.wrap (a1.f0 * (1048576 : Int))) + (IntKind.i64.wrap (a1.f0 * a1.f2)))))))], [], 0⟩ [] (by kernel_rfl) trivial ?_
    refine AWp.cond (decide ((IntKind.i64.wrap ((IntKind.i64.wrap (a0.f0 * (1048576 : Int))) + (IntKind.i64.wrap (a0.f0 * a0.f2)))) > (IntKind.i64.wrap ((IntKind.i64.wrap (a1.f0 * (1048576 : Int))) + (IntKind.i64.wrap (a1.f0 * a1.f2)))))) rfl (fun c1622 => ?_) (fun c1622 => ?_)
    · replace H := (ifT c1622).symm.trans H
      refine AWp.seq ?_
      refine reg hP hn hm [] [4] [] ⟨[(4, iV .i64 1)], [], 0⟩ [] (by kernel_rfl) trivial ?_
      refine AWp.conv (inv := []) (vk := []) (e0 := []) (t := ⟨[(4, iV .i64 1)], [], 0⟩) (by kernel_rfl) ?_
      refine AWp.ret ?_
      obtain rfl := Option.some.inj H
      exact Exists.intro _ (And.intro (fun _ _ h => h) (And.intro (.inl rfl) (And.intro rfl (And.intro (by kernel_rfl) (by kernel_rfl)))))
    · replace H := (ifF c1622).symm.trans H
      refine AWp.skip ?_
      refine AWp.seq ?_
      refine reg hP hn hm [] [4] [] ⟨[(4, iV .i64 0)], [], 0⟩ [] (by kernel_rfl) trivial ?_
      refine AWp.conv (inv := []) (vk := []) (e0 := []) (t := ⟨[(4, iV .i64 0)], [], 0⟩) (by kernel_rfl) ?_
      refine AWp.ret ?_
      obtain rfl := Option.some.inj H
      exact Exists.intro _ (And.intro (fun _ _ h => h) (And.intro (.inl rfl) (And.intro rfl (And.intro (by kernel_rfl) (by kernel_rfl)))))
def f_rank_spot.f (a0 : Trank_Place) : Option (Int) := if (decide (a0.f0 > (0 : Int))) = true then (some (IntKind.i64.wrap ((1048576 : Int) + a0.f1))) else (if (decide (a0.f0 < (0 : Int))) = true then (some (IntKind.i64.wrap ((-1048576) - a0.f1))) else (some 0))
theorem f_rank_spot.ok (a0 : Trank_Place) (r : Int) (H : f_rank_spot.f a0 = some r) : Pv.Fn Try.prog 75 [.agg (arank_Place a0)] [] 0 (fun x o => x = iV .i64 r ∧ o = []) := by
  unfold f_rank_spot.f at H
  refine Fn.bodyK [] Try.func75 rfl rfl (fun Γ hP hn => ?_)
  have hm : Try.prog.follows .mixedOrders = true := by kernel_rfl
  replace hn : Γ.n = 17 := hn
  refine AWp.seq ?_
  refine reg hP hn hm [(0, .k 0)] [1] [0] ⟨[(1, .ptr 0 0 0)], [(0, some (.box 72 (arank_Place a0)))], 0⟩ [] (by kernel_rfl) trivial ?_
  refine AWp.seq ?_
  refine AWp.block ?_
  refine AWp.seq ?_
  refine reg hP hn hm [] [1, 3] [0] ⟨[(1, .ptr 0 0 0), (3, bV (decide (a0.f0 > (0 : Int))))], [(0, some (.box 72 (arank_Place a0)))], 0⟩ [] (by kernel_rfl) trivial ?_
  refine AWp.cond (decide (a0.f0 > (0 : Int))) rfl (fun c1972 => ?_) (fun c1972 => ?_)
  · replace H := (ifT c1972).symm.trans H
    refine AWp.seq ?_
    refine reg hP hn hm [] [2] [] ⟨[(2, iV .i64 (IntKind.i64.wrap ((1048576 : Int) + a0.f1)))], [], 0⟩ [] (by kernel_rfl) trivial ?_
    refine AWp.conv (inv := []) (vk := []) (e0 := []) (t := ⟨[(2, iV .i64 (IntKind.i64.wrap ((1048576 : Int) + a0.f1)))], [], 0⟩) (by kernel_rfl) ?_
    refine AWp.ret ?_
    obtain rfl := Option.some.inj H
    exact Exists.intro _ (And.intro (fun _ _ h => h) (And.intro (.inl rfl) (And.intro rfl (And.intro (by kernel_rfl) (by kernel_rfl)))))
  · replace H := (ifF c1972).symm.trans H
    refine AWp.seq ?_
    refine reg hP hn hm [] [1, 10] [0] ⟨[(1, .ptr 0 0 0), (10, bV (decide (a0.f0 < (0 : Int))))], [(0, some (.box 72 (arank_Place a0)))], 0⟩ [] (by kernel_rfl) trivial ?_
    refine AWp.cond (decide (a0.f0 < (0 : Int))) rfl (fun c1973 => ?_) (fun c1973 => ?_)
    · replace H := (ifT c1973).symm.trans H
      refine AWp.seq ?_
      refine reg hP hn hm [] [2] [] ⟨[(2, iV .i64 (IntKind.i64.wrap ((-1048576) - a0.f1)))], [], 0⟩ [] (by kernel_rfl) trivial ?_
      refine AWp.conv (inv := []) (vk := []) (e0 := []) (t := ⟨[(2, iV .i64 (IntKind.i64.wrap ((-1048576) - a0.f1)))], [], 0⟩) (by kernel_rfl) ?_
      refine AWp.ret ?_
      obtain rfl := Option.some.inj H
      exact Exists.intro _ (And.intro (fun _ _ h => h) (And.intro (.inl rfl) (And.intro rfl (And.intro (by kernel_rfl) (by kernel_rfl)))))
    · replace H := (ifF c1973).symm.trans H
      refine AWp.skip ?_
      refine AWp.seq ?_
      refine reg hP hn hm [] [2] [] ⟨[(2, iV .i64 0)], [], 0⟩ [] (by kernel_rfl) trivial ?_
      refine AWp.conv (inv := []) (vk := []) (e0 := []) (t := ⟨[(2, iV .i64 0)], [], 0⟩) (by kernel_rfl) ?_
      refine AWp.ret ?_
      obtain rfl := Option.some.inj H
      exact Exists.intro _ (And.intro (fun _ _ h => h) (And.intro (.inl rfl) (And.intro rfl (And.intro (by kernel_rfl) (by kernel_rfl)))))
def f_rank_ends.f (a0 : THist) (a1 : Trank_Cell) : Option (Int × Int) := if (decide (a1.f0.f0 > (0 : Int))) = true then ((f_bound_Low.f a0.f1 a1.f0.f2) >>= fun t1994 => (f_bound_Units.f a0.f1 a1.f0.f2) >>= fun t1996 => some (IntKind.i64.wrap ((1048576 : Int) + t1994), IntKind.i64.wrap ((1048576 : Int) + t1996))) else (if (decide (a1.f0.f0 < (0 : Int))) = true then ((f_bound_Units.f a0.f1 a1.f0.f2) >>= fun t2003 => (f_bound_Low.f a0.f1 a1.f0.f2) >>= fun t2005 => some (IntKind.i64.wrap ((-1048576) - t2003), IntKind.i64.wrap ((-1048576) - t2005))) else (if (a0.f2 == (-524288)) = true then (some (0, 0)) else (some (IntKind.i64.wrap ((-1048576) - a0.f2), IntKind.i64.wrap ((1048576 : Int) + a0.f2)))))
theorem f_rank_ends.ok (a0 : THist) (a1 : Trank_Cell) (r : Int × Int) (H : f_rank_ends.f a0 a1 = some r) : Pv.Fn Try.prog 76 [.agg (aHist a0), .agg (apluvialref08_Cell ⟨a1.f0.f0, a1.f0.f1, a1.f0.f2, a1.f1⟩)] [] 0 (fun x o => x = .tup [iV .i64 r.1, iV .i64 r.2] ∧ o = []) := by
  unfold f_rank_ends.f at H
  refine Fn.bodyK [] Try.func76 rfl rfl (fun Γ hP hn => ?_)
  have hm : Try.prog.follows .mixedOrders = true := by kernel_rfl
  replace hn : Γ.n = 54 := hn
  refine AWp.seq ?_
  refine reg hP hn hm [(0, .k 0), (1, .k 1)] [2, 3] [0, 1] ⟨[(2, .ptr 0 0 0), (3, .ptr 1 0 0)], [(0, some (.box 35 (aHist a0))), (1, some (.box 47 [iV .i64 a1.f0.f0, iV .i64 a1.f0.f1, iV .i64 a1.f0.f2, iV .u64 a1.f1]))], 0⟩ [] (by kernel_rfl) trivial ?_
  refine AWp.seq ?_
  refine AWp.block ?_
  refine AWp.seq ?_
  refine reg hP hn hm [] [2, 3, 6] [0, 1] ⟨[(2, .ptr 0 0 0), (3, .ptr 1 0 0), (6, bV (decide (a1.f0.f0 > (0 : Int))))], [(0, some (.box 35 (aHist a0))), (1, some (.box 47 [iV .i64 a1.f0.f0, iV .i64 a1.f0.f1, iV .i64 a1.f0.f2, iV .u64 a1.f1]))], 0⟩ [] (by kernel_rfl) trivial ?_
  refine AWp.cond (decide (a1.f0.f0 > (0 : Int))) rfl (fun c1989 => ?_) (fun c1989 => ?_)
  · replace H := (ifT c1989).symm.trans H
    refine AWp.seq ?_
    obtain ⟨t1994, e1995, H⟩ := bind_of H
    obtain ⟨t1996, e1997, H⟩ := bind_of H
    refine reg hP hn hm [(5, .call [] [] [] [] 0 (iV .i64 t1994) []), (12, .call [] [] [] [] 0 (iV .i64 t1996) [])] [4, 5] [] ⟨[(4, iV .i64 (IntKind.i64.wrap ((1048576 : Int) + t1994))), (5, iV .i64 (IntKind.i64.wrap ((1048576 : Int) + t1996)))], [], 0⟩ [Enters Try.prog 84, Pv.Fn Try.prog 84 [iV .i64 a0.f1, iV .i64 a1.f0.f2] [] 0 (fun r o => r = iV .i64 t1994 ∧ o = []), Enters Try.prog 43, Pv.Fn Try.prog 43 [iV .i64 a0.f1, iV .i64 a1.f0.f2] [] 0 (fun r o => r = iV .i64 t1996 ∧ o = [])] (by kernel_rfl) ⟨by exact Try.call84, by exact f_bound_Low.ok a0.f1 a1.f0.f2 t1994 e1995, by exact Try.call43, by exact f_bound_Units.ok a0.f1 a1.f0.f2 t1996 e1997, trivial⟩ ?_
    refine AWp.conv (inv := []) (vk := []) (e0 := []) (t := ⟨[(4, iV .i64 (IntKind.i64.wrap ((1048576 : Int) + t1994))), (5, iV .i64 (IntKind.i64.wrap ((1048576 : Int) + t1996)))], [], 0⟩) (by kernel_rfl) ?_
    refine AWp.ret ?_
    obtain rfl := Option.some.inj H
    exact Exists.intro _ (And.intro (fun _ _ h => h) (And.intro (.inl rfl) (And.intro rfl (And.intro (by kernel_rfl) (by kernel_rfl)))))
  · replace H := (ifF c1989).symm.trans H
    refine AWp.seq ?_
    refine reg hP hn hm [] [2, 3, 25] [0, 1] ⟨[(2, .ptr 0 0 0), (3, .ptr 1 0 0), (25, bV (decide (a1.f0.f0 < (0 : Int))))], [(0, some (.box 35 (aHist a0))), (1, some (.box 47 [iV .i64 a1.f0.f0, iV .i64 a1.f0.f1, iV .i64 a1.f0.f2, iV .u64 a1.f1]))], 0⟩ [] (by kernel_rfl) trivial ?_
    refine AWp.cond (decide (a1.f0.f0 < (0 : Int))) rfl (fun c1998 => ?_) (fun c1998 => ?_)
    · replace H := (ifT c1998).symm.trans H
      refine AWp.seq ?_
      obtain ⟨t2003, e2004, H⟩ := bind_of H
      obtain ⟨t2005, e2006, H⟩ := bind_of H
      refine reg hP hn hm [(5, .call [] [] [] [] 0 (iV .i64 t2003) []), (12, .call [] [] [] [] 0 (iV .i64 t2005) [])] [4, 5] [] ⟨[(4, iV .i64 (IntKind.i64.wrap ((-1048576) - t2003))), (5, iV .i64 (IntKind.i64.wrap ((-1048576) - t2005)))], [], 0⟩ [Enters Try.prog 43, Pv.Fn Try.prog 43 [iV .i64 a0.f1, iV .i64 a1.f0.f2] [] 0 (fun r o => r = iV .i64 t2003 ∧ o = []), Enters Try.prog 84, Pv.Fn Try.prog 84 [iV .i64 a0.f1, iV .i64 a1.f0.f2] [] 0 (fun r o => r = iV .i64 t2005 ∧ o = [])] (by kernel_rfl) ⟨by exact Try.call43, by exact f_bound_Units.ok a0.f1 a1.f0.f2 t2003 e2004, by exact Try.call84, by exact f_bound_Low.ok a0.f1 a1.f0.f2 t2005 e2006, trivial⟩ ?_
      refine AWp.conv (inv := []) (vk := []) (e0 := []) (t := ⟨[(4, iV .i64 (IntKind.i64.wrap ((-1048576) - t2003))), (5, iV .i64 (IntKind.i64.wrap ((-1048576) - t2005)))], [], 0⟩) (by kernel_rfl) ?_
      refine AWp.ret ?_
      obtain rfl := Option.some.inj H
      exact Exists.intro _ (And.intro (fun _ _ h => h) (And.intro (.inl rfl) (And.intro rfl (And.intro (by kernel_rfl) (by kernel_rfl)))))
    · replace H := (ifF c1998).symm.trans H
      refine AWp.seq ?_
      refine reg hP hn hm [] [2, 44] [0] ⟨[(2, .ptr 0 0 0), (44, bV (a0.f2 == (-524288)))], [(0, some (.box 35 (aHist a0)))], 0⟩ [] (by kernel_rfl) trivial ?_
      refine AWp.cond (a0.f2 == (-524288)) rfl (fun c2007 => ?_) (fun c2007 => ?_)
      · replace H := (ifT c2007).symm.trans H
        refine AWp.seq ?_
        refine reg hP hn hm [] [4, 5] [] ⟨[(4, iV .i64 0), (5, iV .i64 0)], [], 0⟩ [] (by kernel_rfl) trivial ?_
        refine AWp.conv (inv := []) (vk := []) (e0 := []) (t := ⟨[(4, iV .i64 0), (5, iV .i64 0)], [], 0⟩) (by kernel_rfl) ?_
        refine AWp.ret ?_
        obtain rfl := Option.some.inj H
        exact Exists.intro _ (And.intro (fun _ _ h => h) (And.intro (.inl rfl) (And.intro rfl (And.intro (by kernel_rfl) (by kernel_rfl)))))
      · replace H := (ifF c2007).symm.trans H
        refine AWp.skip ?_
        refine AWp.seq ?_
        refine reg hP hn hm [] [4, 5] [] ⟨[(4, iV .i64 (IntKind.i64.wrap ((-1048576) - a0.f2))), (5, iV .i64 (IntKind.i64.wrap ((1048576 : Int) + a0.f2)))], [], 0⟩ [] (by kernel_rfl) trivial ?_
        refine AWp.conv (inv := []) (vk := []) (e0 := []) (t := ⟨[(4, iV .i64 (IntKind.i64.wrap ((-1048576) - a0.f2))), (5, iV .i64 (IntKind.i64.wrap ((1048576 : Int) + a0.f2)))], [], 0⟩) (by kernel_rfl) ?_
        refine AWp.ret ?_
        obtain rfl := Option.some.inj H
        exact Exists.intro _ (And.intro (fun _ _ h => h) (And.intro (.inl rfl) (And.intro rfl (And.intro (by kernel_rfl) (by kernel_rfl)))))
end Go.Proofs.Yteogljahemehkaa.PvGC
set_option linter.unusedVariables false
set_option linter.unnecessarySimpa false
set_option linter.unusedSimpArgs false
set_option maxRecDepth 10000
namespace Go.Proofs.Yteogljahemehkaa.PvGC
open Go Go.Pv
def f_rank_Below.l0 (a0 : THist) (t1976 : Int) (t1980 : List Trank_Cell) (x2017 : Int) (x2018 : Int) (x2019 : Int) : Option (Int × Int) := if (decide (x2019 < (t1980.length : Int))) = true then ((at? t1980 x2019) >>= fun b2024 => (f_rank_ends.f a0 b2024) >>= fun t2029 => ((if (decide (t2029.2 ≤ t1976)) = true then (some (IntKind.u64.wrap (x2017 + b2024.f1), x2018)) else (((if (decide (t2029.1 < t1976)) = true then (some (IntKind.u64.wrap (x2018 + b2024.f1))) else (some x2018)) : Option (Int)) >>= fun x2033 => some (x2017, x2033))) : Option (Int × Int)) >>= fun oo => match oo with | (x2034, x2035) => (f_rank_Below.l0 a0 t1976 t1980 x2034 x2035 (IntKind.i64.wrap (x2019 + (1 : Int))))) else (some (x2017, x2018))
partial_fixpoint
def f_rank_Below.f (a0 : THist) (a1 : Trank_Place) : Option (Trank_Part × Int) := ((if (decide (a1.f0 < (-1))) = true then (some true) else (if (decide (a1.f0 > (1 : Int))) = true then (some true) else (if (a1.f0 != (0 : Int)) = true then (if (decide (a1.f1 ≤ (-262144))) = true then (some true) else (if (decide (a1.f1 > (262144 : Int))) = true then (some true) else (if (a1.f0 == (0 : Int)) = true then (some (a1.f1 != (0 : Int))) else (some false)))) else (if (a1.f0 == (0 : Int)) = true then (some (a1.f1 != (0 : Int))) else (some false))))) : Option (Bool)) >>= fun x1969 => if x1969 = true then (some ((⟨0, 0, 0⟩ : Trank_Part), 1)) else (if (a0.f4 == (0 : Int)) = true then (some ((⟨0, 0, 0⟩ : Trank_Part), 30)) else ((f_rank_spot.f a1) >>= fun t1976 => (f_rank_Order.f a0) >>= fun t1980 => (f_rank_Below.l0 a0 t1976 t1980 0 0 0) >>= fun oo => match oo with | (x2036, x2037) => (some ((⟨x2036, x2037, a0.f4⟩ : Trank_Part), 0))))
theorem f_rank_Below.ok (a0 : THist) (a1 : Trank_Place) (r : Trank_Part × Int) (H : f_rank_Below.f a0 a1 = some r) : Pv.Fn Try.prog 34 [.agg (aHist a0), .agg (arank_Place a1)] [] 0 (fun x o => x = .tup [.agg (arank_Part (r.1)), iV .i64 r.2] ∧ o = []) := by
  unfold f_rank_Below.f at H
  refine Fn.bodyK [] Try.func34 rfl rfl (fun Γ hP hn => ?_)
  have hm : Try.prog.follows .mixedOrders = true := by kernel_rfl
  replace hn : Γ.n = 90 := hn
  refine AWp.seq ?_
  refine reg hP hn hm [(0, .k 0), (1, .k 1), (2, .k 2)] [2, 3, 4] [0, 1, 2] ⟨[(2, .ptr 0 0 0), (3, .ptr 1 0 0), (4, .ptr 2 0 0)], [(0, some (.box 35 (aHist a0))), (1, some (.box 72 (arank_Place a1))), (2, some (.box 74 (arank_Part ⟨0, 0, 0⟩)))], 0⟩ [] (by kernel_rfl) trivial ?_
  refine AWp.seq ?_
  refine AWp.seq ?_
  obtain ⟨o2038, e2039, H⟩ := bind_of H
  refine AWp.mono (Q := fun e s => (match (generalizing := false) o2038 with | x1969 => e = .normal ∧ s = ⟨[(2, .ptr 3 0 0), (3, .ptr 4 0 0), (4, .ptr 5 0 0), (44, bV x1969)], [(3, some (.box 35 (aHist a0))), (4, some (.box 72 (arank_Place a1))), (5, some (.box 74 (arank_Part ⟨0, 0, 0⟩)))], 0⟩)) (AWp.cv ?_) ?_
  · replace H := e2039; clear e2039
    rcases Bool.eq_false_or_eq_true (decide (a1.f0 < (-1))) with c1962 | c1962
    · replace H := (ifT c1962).symm.trans H
      refine reg hP hn hm [(3, .b true)] [2, 3, 4, 44] [0, 1, 2] ⟨[(2, .ptr 0 0 0), (3, .ptr 1 0 0), (4, .ptr 2 0 0), (44, bV true)], [(0, some (.box 35 (aHist a0))), (1, some (.box 72 (arank_Place a1))), (2, some (.box 74 (arank_Part ⟨0, 0, 0⟩)))], 0⟩ [(decide (a1.f0 < (-1))) = true] (by kernel_rfl) ⟨by exact c1962, trivial⟩ ?_
      obtain rfl := Option.some.inj H
      exact Exists.intro _ (And.intro (fun _ _ h => h.conv (inv := [(0, 3), (1, 4), (2, 5)]) (vk := []) (e0 := []) (t := ⟨[(2, .ptr 3 0 0), (3, .ptr 4 0 0), (4, .ptr 5 0 0), (44, bV true)], [(3, some (.box 35 (aHist a0))), (4, some (.box 72 (arank_Place a1))), (5, some (.box 74 (arank_Part ⟨0, 0, 0⟩)))], 0⟩) (by kernel_rfl)) (And.intro rfl rfl))
    · replace H := (ifF c1962).symm.trans H
      rcases Bool.eq_false_or_eq_true (decide (a1.f0 > (1 : Int))) with c1963 | c1963
      · replace H := (ifT c1963).symm.trans H
        refine reg hP hn hm [(3, .b false), (8, .b true)] [2, 3, 4, 44] [0, 1, 2] ⟨[(2, .ptr 0 0 0), (3, .ptr 1 0 0), (4, .ptr 2 0 0), (44, bV true)], [(0, some (.box 35 (aHist a0))), (1, some (.box 72 (arank_Place a1))), (2, some (.box 74 (arank_Part ⟨0, 0, 0⟩)))], 0⟩ [(decide (a1.f0 < (-1))) = false, (decide (a1.f0 > (1 : Int))) = true] (by kernel_rfl) ⟨by exact c1962, by exact c1963, trivial⟩ ?_
        obtain rfl := Option.some.inj H
        exact Exists.intro _ (And.intro (fun _ _ h => h.conv (inv := [(0, 3), (1, 4), (2, 5)]) (vk := []) (e0 := []) (t := ⟨[(2, .ptr 3 0 0), (3, .ptr 4 0 0), (4, .ptr 5 0 0), (44, bV true)], [(3, some (.box 35 (aHist a0))), (4, some (.box 72 (arank_Place a1))), (5, some (.box 74 (arank_Part ⟨0, 0, 0⟩)))], 0⟩) (by kernel_rfl)) (And.intro rfl rfl))
      · replace H := (ifF c1963).symm.trans H
        rcases Bool.eq_false_or_eq_true (a1.f0 != (0 : Int)) with c1964 | c1964
        · replace H := (ifT c1964).symm.trans H
          rcases Bool.eq_false_or_eq_true (decide (a1.f1 ≤ (-262144))) with c1965 | c1965
          · replace H := (ifT c1965).symm.trans H
            refine reg hP hn hm [(3, .b false), (8, .b false), (12, .b true), (16, .b true)] [2, 3, 4, 44] [0, 1, 2] ⟨[(2, .ptr 0 0 0), (3, .ptr 1 0 0), (4, .ptr 2 0 0), (44, bV true)], [(0, some (.box 35 (aHist a0))), (1, some (.box 72 (arank_Place a1))), (2, some (.box 74 (arank_Part ⟨0, 0, 0⟩)))], 0⟩ [(decide (a1.f0 < (-1))) = false, (decide (a1.f0 > (1 : Int))) = false, (a1.f0 != (0 : Int)) = true, (decide (a1.f1 ≤ (-262144))) = true] (by kernel_rfl) ⟨by exact c1962, by exact c1963, by exact c1964, by exact c1965, trivial⟩ ?_
            obtain rfl := Option.some.inj H
            exact Exists.intro _ (And.intro (fun _ _ h => h.conv (inv := [(0, 3), (1, 4), (2, 5)]) (vk := []) (e0 := []) (t := ⟨[(2, .ptr 3 0 0), (3, .ptr 4 0 0), (4, .ptr 5 0 0), (44, bV true)], [(3, some (.box 35 (aHist a0))), (4, some (.box 72 (arank_Place a1))), (5, some (.box 74 (arank_Part ⟨0, 0, 0⟩)))], 0⟩) (by kernel_rfl)) (And.intro rfl rfl))
          · replace H := (ifF c1965).symm.trans H
            rcases Bool.eq_false_or_eq_true (decide (a1.f1 > (262144 : Int))) with c1966 | c1966
            · replace H := (ifT c1966).symm.trans H
              refine reg hP hn hm [(3, .b false), (8, .b false), (12, .b true), (16, .b false), (23, .b true)] [2, 3, 4, 44] [0, 1, 2] ⟨[(2, .ptr 0 0 0), (3, .ptr 1 0 0), (4, .ptr 2 0 0), (44, bV true)], [(0, some (.box 35 (aHist a0))), (1, some (.box 72 (arank_Place a1))), (2, some (.box 74 (arank_Part ⟨0, 0, 0⟩)))], 0⟩ [(decide (a1.f0 < (-1))) = false, (decide (a1.f0 > (1 : Int))) = false, (a1.f0 != (0 : Int)) = true, (decide (a1.f1 ≤ (-262144))) = false, (decide (a1.f1 > (262144 : Int))) = true] (by kernel_rfl) ⟨by exact c1962, by exact c1963, by exact c1964, by exact c1965, by exact c1966, trivial⟩ ?_
              obtain rfl := Option.some.inj H
              exact Exists.intro _ (And.intro (fun _ _ h => h.conv (inv := [(0, 3), (1, 4), (2, 5)]) (vk := []) (e0 := []) (t := ⟨[(2, .ptr 3 0 0), (3, .ptr 4 0 0), (4, .ptr 5 0 0), (44, bV true)], [(3, some (.box 35 (aHist a0))), (4, some (.box 72 (arank_Place a1))), (5, some (.box 74 (arank_Part ⟨0, 0, 0⟩)))], 0⟩) (by kernel_rfl)) (And.intro rfl rfl))
            · replace H := (ifF c1966).symm.trans H
              rcases Bool.eq_false_or_eq_true (a1.f0 == (0 : Int)) with c1967 | c1967
              · replace H := (ifT c1967).symm.trans H
                refine reg hP hn hm [(3, .b false), (8, .b false), (12, .b true), (16, .b false), (23, .b false), (27, .b true)] [2, 3, 4, 44] [0, 1, 2] ⟨[(2, .ptr 0 0 0), (3, .ptr 1 0 0), (4, .ptr 2 0 0), (44, bV (a1.f1 != (0 : Int)))], [(0, some (.box 35 (aHist a0))), (1, some (.box 72 (arank_Place a1))), (2, some (.box 74 (arank_Part ⟨0, 0, 0⟩)))], 0⟩ [(decide (a1.f0 < (-1))) = false, (decide (a1.f0 > (1 : Int))) = false, (a1.f0 != (0 : Int)) = true, (decide (a1.f1 ≤ (-262144))) = false, (decide (a1.f1 > (262144 : Int))) = false, (a1.f0 == (0 : Int)) = true] (by kernel_rfl) ⟨by exact c1962, by exact c1963, by exact c1964, by exact c1965, by exact c1966, by exact c1967, trivial⟩ ?_
                obtain rfl := Option.some.inj H
                exact Exists.intro _ (And.intro (fun _ _ h => h.conv (inv := [(0, 3), (1, 4), (2, 5)]) (vk := []) (e0 := []) (t := ⟨[(2, .ptr 3 0 0), (3, .ptr 4 0 0), (4, .ptr 5 0 0), (44, bV (a1.f1 != (0 : Int)))], [(3, some (.box 35 (aHist a0))), (4, some (.box 72 (arank_Place a1))), (5, some (.box 74 (arank_Part ⟨0, 0, 0⟩)))], 0⟩) (by kernel_rfl)) (And.intro rfl rfl))
              · replace H := (ifF c1967).symm.trans H
                refine reg hP hn hm [(3, .b false), (8, .b false), (12, .b true), (16, .b false), (23, .b false), (27, .b false)] [2, 3, 4, 44] [0, 1, 2] ⟨[(2, .ptr 0 0 0), (3, .ptr 1 0 0), (4, .ptr 2 0 0), (44, bV false)], [(0, some (.box 35 (aHist a0))), (1, some (.box 72 (arank_Place a1))), (2, some (.box 74 (arank_Part ⟨0, 0, 0⟩)))], 0⟩ [(decide (a1.f0 < (-1))) = false, (decide (a1.f0 > (1 : Int))) = false, (a1.f0 != (0 : Int)) = true, (decide (a1.f1 ≤ (-262144))) = false, (decide (a1.f1 > (262144 : Int))) = false, (a1.f0 == (0 : Int)) = false] (by kernel_rfl) ⟨by exact c1962, by exact c1963, by exact c1964, by exact c1965, by exact c1966, by exact c1967, trivial⟩ ?_
                obtain rfl := Option.some.inj H
                exact Exists.intro _ (And.intro (fun _ _ h => h.conv (inv := [(0, 3), (1, 4), (2, 5)]) (vk := []) (e0 := []) (t := ⟨[(2, .ptr 3 0 0), (3, .ptr 4 0 0), (4, .ptr 5 0 0), (44, bV false)], [(3, some (.box 35 (aHist a0))), (4, some (.box 72 (arank_Place a1))), (5, some (.box 74 (arank_Part ⟨0, 0, 0⟩)))], 0⟩) (by kernel_rfl)) (And.intro rfl rfl))
        · replace H := (ifF c1964).symm.trans H
          rcases Bool.eq_false_or_eq_true (a1.f0 == (0 : Int)) with c1968 | c1968
          · replace H := (ifT c1968).symm.trans H
            refine reg hP hn hm [(3, .b false), (8, .b false), (12, .b false), (27, .b true)] [2, 3, 4, 44] [0, 1, 2] ⟨[(2, .ptr 0 0 0), (3, .ptr 1 0 0), (4, .ptr 2 0 0), (44, bV (a1.f1 != (0 : Int)))], [(0, some (.box 35 (aHist a0))), (1, some (.box 72 (arank_Place a1))), (2, some (.box 74 (arank_Part ⟨0, 0, 0⟩)))], 0⟩ [(decide (a1.f0 < (-1))) = false, (decide (a1.f0 > (1 : Int))) = false, (a1.f0 != (0 : Int)) = false, (a1.f0 == (0 : Int)) = true] (by kernel_rfl) ⟨by exact c1962, by exact c1963, by exact c1964, by exact c1968, trivial⟩ ?_
            obtain rfl := Option.some.inj H
            exact Exists.intro _ (And.intro (fun _ _ h => h.conv (inv := [(0, 3), (1, 4), (2, 5)]) (vk := []) (e0 := []) (t := ⟨[(2, .ptr 3 0 0), (3, .ptr 4 0 0), (4, .ptr 5 0 0), (44, bV (a1.f1 != (0 : Int)))], [(3, some (.box 35 (aHist a0))), (4, some (.box 72 (arank_Place a1))), (5, some (.box 74 (arank_Part ⟨0, 0, 0⟩)))], 0⟩) (by kernel_rfl)) (And.intro rfl rfl))
          · replace H := (ifF c1968).symm.trans H
            refine reg hP hn hm [(3, .b false), (8, .b false), (12, .b false), (27, .b false)] [2, 3, 4, 44] [0, 1, 2] ⟨[(2, .ptr 0 0 0), (3, .ptr 1 0 0), (4, .ptr 2 0 0), (44, bV false)], [(0, some (.box 35 (aHist a0))), (1, some (.box 72 (arank_Place a1))), (2, some (.box 74 (arank_Part ⟨0, 0, 0⟩)))], 0⟩ [(decide (a1.f0 < (-1))) = false, (decide (a1.f0 > (1 : Int))) = false, (a1.f0 != (0 : Int)) = false, (a1.f0 == (0 : Int)) = false] (by kernel_rfl) ⟨by exact c1962, by exact c1963, by exact c1964, by exact c1968, trivial⟩ ?_
            obtain rfl := Option.some.inj H
            exact Exists.intro _ (And.intro (fun _ _ h => h.conv (inv := [(0, 3), (1, 4), (2, 5)]) (vk := []) (e0 := []) (t := ⟨[(2, .ptr 3 0 0), (3, .ptr 4 0 0), (4, .ptr 5 0 0), (44, bV false)], [(3, some (.box 35 (aHist a0))), (4, some (.box 72 (arank_Place a1))), (5, some (.box 74 (arank_Part ⟨0, 0, 0⟩)))], 0⟩) (by kernel_rfl)) (And.intro rfl rfl))
  · obtain ⟨x1969, rfl⟩ : ∃ z, z = o2038 := ⟨_, rfl⟩
    rintro e s ⟨rfl, rfl⟩
    refine AWp.cond x1969 rfl (fun c1970 => ?_) (fun c1970 => ?_)
    · replace H := (ifT c1970).symm.trans H
      refine AWp.seq ?_
      refine reg hP hn hm [] [4, 5] [5] ⟨[(4, .ptr 5 0 0), (5, iV .i64 1)], [(5, some (.box 74 (arank_Part ⟨0, 0, 0⟩)))], 0⟩ [] (by kernel_rfl) trivial ?_
      refine AWp.conv (inv := [(5, 0)]) (vk := []) (e0 := []) (t := ⟨[(4, .ptr 0 0 0), (5, iV .i64 1)], [(0, some (.box 74 (arank_Part ((⟨0, 0, 0⟩ : Trank_Part)))))], 0⟩) (by kernel_rfl) ?_
      refine AWp.ret ?_
      obtain rfl := Option.some.inj H
      exact Exists.intro _ (And.intro (fun _ _ h => h) (And.intro (.inl rfl) (And.intro rfl (And.intro (by kernel_rfl) (by kernel_rfl)))))
    · replace H := (ifF c1970).symm.trans H
      refine AWp.skip ?_
      refine AWp.seq ?_
      refine AWp.seq ?_
      refine reg hP hn hm [] [2, 3, 4, 48] [3, 4, 5] ⟨[(2, .ptr 3 0 0), (3, .ptr 4 0 0), (4, .ptr 5 0 0), (48, bV (a0.f4 == (0 : Int)))], [(3, some (.box 35 (aHist a0))), (4, some (.box 72 (arank_Place a1))), (5, some (.box 74 (arank_Part ⟨0, 0, 0⟩)))], 0⟩ [] (by kernel_rfl) trivial ?_
      refine AWp.cond (a0.f4 == (0 : Int)) rfl (fun c1971 => ?_) (fun c1971 => ?_)
      · replace H := (ifT c1971).symm.trans H
        refine AWp.seq ?_
        refine reg hP hn hm [] [4, 5] [5] ⟨[(4, .ptr 5 0 0), (5, iV .i64 30)], [(5, some (.box 74 (arank_Part ⟨0, 0, 0⟩)))], 0⟩ [] (by kernel_rfl) trivial ?_
        refine AWp.conv (inv := [(5, 0)]) (vk := []) (e0 := []) (t := ⟨[(4, .ptr 0 0 0), (5, iV .i64 30)], [(0, some (.box 74 (arank_Part ((⟨0, 0, 0⟩ : Trank_Part)))))], 0⟩) (by kernel_rfl) ?_
        refine AWp.ret ?_
        obtain rfl := Option.some.inj H
        exact Exists.intro _ (And.intro (fun _ _ h => h) (And.intro (.inl rfl) (And.intro rfl (And.intro (by kernel_rfl) (by kernel_rfl)))))
      · replace H := (ifF c1971).symm.trans H
        refine AWp.skip ?_
        refine AWp.seq ?_
        refine reg hP hn hm [(3, .k 6)] [2, 3, 4, 6] [3, 4, 5, 6] ⟨[(2, .ptr 3 0 0), (3, .ptr 4 0 0), (4, .ptr 5 0 0), (6, .ptr 6 0 0)], [(3, some (.box 35 (aHist a0))), (4, some (.box 72 (arank_Place a1))), (5, some (.box 74 (arank_Part ⟨0, 0, 0⟩))), (6, some (.box 74 (arank_Part ⟨0, 0, a0.f4⟩)))], 0⟩ [] (by kernel_rfl) trivial ?_
        refine AWp.seq ?_
        obtain ⟨t1976, e1977, H⟩ := bind_of H
        refine reg hP hn hm [(1, .call [] [] [] [] 0 (iV .i64 t1976) [])] [2, 4, 6, 7] [3, 5, 6] ⟨[(2, .ptr 3 0 0), (4, .ptr 5 0 0), (6, .ptr 6 0 0), (7, iV .i64 t1976)], [(3, some (.box 35 (aHist a0))), (5, some (.box 74 (arank_Part ⟨0, 0, 0⟩))), (6, some (.box 74 (arank_Part ⟨0, 0, a0.f4⟩)))], 0⟩ [Enters Try.prog 75, Pv.Fn Try.prog 75 [.agg (arank_Place a1)] [] 0 (fun r o => r = iV .i64 t1976 ∧ o = [])] (by kernel_rfl) ⟨by exact Try.call75, by exact f_rank_spot.ok a1 t1976 e1977, trivial⟩ ?_
        refine AWp.seq ?_
        refine AWp.seq ?_
        obtain ⟨t1980, e1981, H⟩ := bind_of H
        refine reg hP hn hm [(1, .call [] [(0, 7)] [] [7] 0 (.own 0) [(0, some (.row 4 47 (t1980.map erank_Cell)))]), (2, .any (iV .i64 (t1980.length : Int)))] [2, 4, 6, 7, 56, 57, 58] [3, 5, 6, 7] ⟨[(2, .ptr 3 0 0), (4, .ptr 5 0 0), (6, .ptr 6 0 0), (7, iV .i64 t1976), (56, .own 7), (57, iV .i64 (t1980.length : Int)), (58, iV .i64 0)], [(3, some (.box 35 (aHist a0))), (5, some (.box 74 (arank_Part ⟨0, 0, 0⟩))), (6, some (.box 74 (arank_Part ⟨0, 0, a0.f4⟩))), (7, some (.row 4 47 (t1980.map erank_Cell)))], 0⟩ [Enters Try.prog 21, Pv.Fn Try.prog 21 [.agg (aHist a0)] [] 0 (fun r o => r = .own 0 ∧ o = [(0, some (.row 4 47 (t1980.map erank_Cell)))]), ((t1980.map erank_Cell).length : Int) = (t1980.length : Int)] (by kernel_rfl) ⟨by exact Try.call21, by exact f_rank_Order.ok a0 t1980 e1981, by rw [len_map], trivial⟩ ?_
        refine AWp.block ?_
        obtain ⟨o2040, e2041, H⟩ := bind_of H
        refine AWp.loop (LWp.conv (inv := [(3, 17), (5, 18), (6, 19), (7, 20)]) (vk := []) (e0 := []) (t := ⟨[(2, .ptr 17 0 0), (4, .ptr 18 0 0), (6, .ptr 19 0 0), (7, iV .i64 t1976), (56, .own 20), (57, iV .i64 (t1980.length : Int)), (58, iV .i64 0)], [(17, some (.box 35 (aHist a0))), (18, some (.box 74 (arank_Part ⟨0, 0, 0⟩))), (19, some (.box 74 (arank_Part ⟨0, 0, a0.f4⟩))), (20, some (.row 4 47 (t1980.map erank_Cell)))], 0⟩) (by kernel_rfl) ?_)
        refine LWp.mono (Q := fun e s => (match (generalizing := false) o2040 with | (x2036, x2037) => e = .exit 0 ∧ s = ⟨[(4, .ptr 30 0 0), (6, .ptr 31 0 0)], [(30, some (.box 74 (arank_Part ⟨0, 0, 0⟩))), (31, some (.box 74 (arank_Part ⟨x2036, x2037, a0.f4⟩)))], 0⟩)) (LWp.cv (withBody (fun body hbody => ?_))) ?_
        · refine f_rank_Below.l0.partial_correctness a0 t1976 t1980 (motive := fun x2017 x2018 x2019 o2040 => LWp Γ body (fun e s => ∃ t, Cv Γ s t ∧ (match (generalizing := false) o2040 with | (x2036, x2037) => e = .exit 0 ∧ t = ⟨[(4, .ptr 30 0 0), (6, .ptr 31 0 0)], [(30, some (.box 74 (arank_Part ⟨0, 0, 0⟩))), (31, some (.box 74 (arank_Part ⟨x2036, x2037, a0.f4⟩)))], 0⟩)) ⟨[(2, .ptr 17 0 0), (4, .ptr 18 0 0), (6, .ptr 19 0 0), (7, iV .i64 t1976), (56, .own 20), (57, iV .i64 (t1980.length : Int)), (58, iV .i64 x2019)], [(17, some (.box 35 (aHist a0))), (18, some (.box 74 (arank_Part ⟨0, 0, 0⟩))), (19, some (.box 74 (arank_Part ⟨x2017, x2018, a0.f4⟩))), (20, some (.row 4 47 (t1980.map erank_Cell)))], 0⟩) ?_ _ _ _ _ e2041
          clear H e2041 o2040; intro self ih x2017 x2018 x2019 o2040 H
          subst hbody
          refine LWp.round ?_
          refine AWp.seq ?_
          refine reg hP hn hm [] [2, 4, 6, 7, 56, 57, 58, 59] [17, 18, 19, 20] ⟨[(2, .ptr 17 0 0), (4, .ptr 18 0 0), (6, .ptr 19 0 0), (7, iV .i64 t1976), (56, .own 20), (57, iV .i64 (t1980.length : Int)), (58, iV .i64 x2019), (59, bV (decide (x2019 < (t1980.length : Int))))], [(17, some (.box 35 (aHist a0))), (18, some (.box 74 (arank_Part ⟨0, 0, 0⟩))), (19, some (.box 74 (arank_Part ⟨x2017, x2018, a0.f4⟩))), (20, some (.row 4 47 (t1980.map erank_Cell)))], 0⟩ [] (by kernel_rfl) trivial ?_
          refine AWp.seq ?_
          refine AWp.cond (decide (x2019 < (t1980.length : Int))) rfl (fun c2020 => ?_) (fun c2020 => ?_)
          · replace H := (ifT c2020).symm.trans H
            refine AWp.skip ?_
            refine AWp.seq ?_
            refine AWp.block ?_
            refine AWp.seq ?_
            obtain ⟨b2024, p2025, q2026, H⟩ := at_of H
            refine reg hP hn hm [(1, .c (erank_Cell b2024)), (2, .k 21)] [2, 4, 6, 7, 9, 56, 57, 58] [17, 18, 19, 20, 21] ⟨[(2, .ptr 17 0 0), (4, .ptr 18 0 0), (6, .ptr 19 0 0), (7, iV .i64 t1976), (9, .ptr 21 0 0), (56, .own 20), (57, iV .i64 (t1980.length : Int)), (58, iV .i64 x2019)], [(17, some (.box 35 (aHist a0))), (18, some (.box 74 (arank_Part ⟨0, 0, 0⟩))), (19, some (.box 74 (arank_Part ⟨x2017, x2018, a0.f4⟩))), (20, some (.row 4 47 (t1980.map erank_Cell))), (21, some (.box 47 [iV .i64 b2024.f0.f0, iV .i64 b2024.f0.f1, iV .i64 b2024.f0.f2, iV .u64 b2024.f1]))], 0⟩ [0 ≤ x2019, x2019 < (((t1980.map erank_Cell).length : Nat) : Int), (t1980.map erank_Cell)[(Int.toNat (x2019))]? = some (erank_Cell b2024)] (by kernel_rfl) ⟨by exact p2025, by exact el_lt erank_Cell p2025 q2026, by exact el_map erank_Cell q2026, trivial⟩ ?_
            refine AWp.seq ?_
            obtain ⟨t2029, e2030, H⟩ := bind_of H
            refine reg hP hn hm [(2, .call [] [] [] [] 0 (.tup [iV .i64 t2029.1, iV .i64 t2029.2]) [])] [2, 4, 6, 7, 9, 10, 11, 56, 57, 58] [17, 18, 19, 20, 21] ⟨[(2, .ptr 17 0 0), (4, .ptr 18 0 0), (6, .ptr 19 0 0), (7, iV .i64 t1976), (9, .ptr 21 0 0), (10, iV .i64 t2029.1), (11, iV .i64 t2029.2), (56, .own 20), (57, iV .i64 (t1980.length : Int)), (58, iV .i64 x2019)], [(17, some (.box 35 (aHist a0))), (18, some (.box 74 (arank_Part ⟨0, 0, 0⟩))), (19, some (.box 74 (arank_Part ⟨x2017, x2018, a0.f4⟩))), (20, some (.row 4 47 (t1980.map erank_Cell))), (21, some (.box 47 [iV .i64 b2024.f0.f0, iV .i64 b2024.f0.f1, iV .i64 b2024.f0.f2, iV .u64 b2024.f1]))], 0⟩ [Enters Try.prog 76, Pv.Fn Try.prog 76 [.agg (aHist a0), .agg (apluvialref08_Cell ⟨b2024.f0.f0, b2024.f0.f1, b2024.f0.f2, b2024.f1⟩)] [] 0 (fun r o => r = .tup [iV .i64 t2029.1, iV .i64 t2029.2] ∧ o = [])] (by kernel_rfl) ⟨by exact Try.call76, by exact f_rank_ends.ok a0 b2024 t2029 e2030, trivial⟩ ?_
            refine AWp.block ?_
            refine AWp.seq ?_
            refine reg hP hn hm [] [2, 4, 6, 7, 9, 10, 56, 57, 58, 68] [17, 18, 19, 20, 21] ⟨[(2, .ptr 17 0 0), (4, .ptr 18 0 0), (6, .ptr 19 0 0), (7, iV .i64 t1976), (9, .ptr 21 0 0), (10, iV .i64 t2029.1), (56, .own 20), (57, iV .i64 (t1980.length : Int)), (58, iV .i64 x2019), (68, bV (decide (t2029.2 ≤ t1976)))], [(17, some (.box 35 (aHist a0))), (18, some (.box 74 (arank_Part ⟨0, 0, 0⟩))), (19, some (.box 74 (arank_Part ⟨x2017, x2018, a0.f4⟩))), (20, some (.row 4 47 (t1980.map erank_Cell))), (21, some (.box 47 [iV .i64 b2024.f0.f0, iV .i64 b2024.f0.f1, iV .i64 b2024.f0.f2, iV .u64 b2024.f1]))], 0⟩ [] (by kernel_rfl) trivial ?_
            obtain ⟨o2042, e2043, H⟩ := bind_of H
            refine AWp.mono (Q := fun e s => (match (generalizing := false) o2042 with | (x2034, x2035) => e = .normal ∧ s = ⟨[(2, .ptr 26 0 0), (4, .ptr 27 0 0), (6, .ptr 28 0 0), (7, iV .i64 t1976), (56, .own 29), (57, iV .i64 (t1980.length : Int)), (58, iV .i64 x2019)], [(26, some (.box 35 (aHist a0))), (27, some (.box 74 (arank_Part ⟨0, 0, 0⟩))), (28, some (.box 74 (arank_Part ⟨x2034, x2035, a0.f4⟩))), (29, some (.row 4 47 (t1980.map erank_Cell)))], 0⟩)) (AWp.cv ?_) ?_
            · replace H := e2043; clear e2043
              refine AWp.cond (decide (t2029.2 ≤ t1976)) rfl (fun c2031 => ?_) (fun c2031 => ?_)
              · replace H := (ifT c2031).symm.trans H
                refine reg hP hn hm [] [2, 4, 6, 7, 56, 57, 58] [17, 18, 19, 20] ⟨[(2, .ptr 17 0 0), (4, .ptr 18 0 0), (6, .ptr 19 0 0), (7, iV .i64 t1976), (56, .own 20), (57, iV .i64 (t1980.length : Int)), (58, iV .i64 x2019)], [(17, some (.box 35 (aHist a0))), (18, some (.box 74 (arank_Part ⟨0, 0, 0⟩))), (19, some (.box 74 (arank_Part ⟨(IntKind.u64.wrap (x2017 + b2024.f1)), x2018, a0.f4⟩))), (20, some (.row 4 47 (t1980.map erank_Cell)))], 0⟩ [] (by kernel_rfl) trivial ?_
                obtain rfl := Option.some.inj H
                exact Exists.intro _ (And.intro (fun _ _ h => h.conv (inv := [(17, 26), (18, 27), (19, 28), (20, 29)]) (vk := []) (e0 := []) (t := ⟨[(2, .ptr 26 0 0), (4, .ptr 27 0 0), (6, .ptr 28 0 0), (7, iV .i64 t1976), (56, .own 29), (57, iV .i64 (t1980.length : Int)), (58, iV .i64 x2019)], [(26, some (.box 35 (aHist a0))), (27, some (.box 74 (arank_Part ⟨0, 0, 0⟩))), (28, some (.box 74 (arank_Part ⟨(IntKind.u64.wrap (x2017 + b2024.f1)), x2018, a0.f4⟩))), (29, some (.row 4 47 (t1980.map erank_Cell)))], 0⟩) (by kernel_rfl)) (And.intro rfl rfl))
              · replace H := (ifF c2031).symm.trans H
                refine AWp.seq ?_
                refine reg hP hn hm [] [2, 4, 6, 7, 9, 56, 57, 58, 78] [17, 18, 19, 20, 21] ⟨[(2, .ptr 17 0 0), (4, .ptr 18 0 0), (6, .ptr 19 0 0), (7, iV .i64 t1976), (9, .ptr 21 0 0), (56, .own 20), (57, iV .i64 (t1980.length : Int)), (58, iV .i64 x2019), (78, bV (decide (t2029.1 < t1976)))], [(17, some (.box 35 (aHist a0))), (18, some (.box 74 (arank_Part ⟨0, 0, 0⟩))), (19, some (.box 74 (arank_Part ⟨x2017, x2018, a0.f4⟩))), (20, some (.row 4 47 (t1980.map erank_Cell))), (21, some (.box 47 [iV .i64 b2024.f0.f0, iV .i64 b2024.f0.f1, iV .i64 b2024.f0.f2, iV .u64 b2024.f1]))], 0⟩ [] (by kernel_rfl) trivial ?_
                obtain ⟨o2044, e2045, H⟩ := bind_of H
                refine AWp.mono (Q := fun e s => (match (generalizing := false) o2044 with | x2033 => e = .normal ∧ s = ⟨[(2, .ptr 22 0 0), (4, .ptr 23 0 0), (6, .ptr 24 0 0), (7, iV .i64 t1976), (56, .own 25), (57, iV .i64 (t1980.length : Int)), (58, iV .i64 x2019)], [(22, some (.box 35 (aHist a0))), (23, some (.box 74 (arank_Part ⟨0, 0, 0⟩))), (24, some (.box 74 (arank_Part ⟨x2017, x2033, a0.f4⟩))), (25, some (.row 4 47 (t1980.map erank_Cell)))], 0⟩)) (AWp.cv ?_) ?_
                · replace H := e2045; clear e2045
                  refine AWp.cond (decide (t2029.1 < t1976)) rfl (fun c2032 => ?_) (fun c2032 => ?_)
                  · replace H := (ifT c2032).symm.trans H
                    refine reg hP hn hm [] [2, 4, 6, 7, 56, 57, 58] [17, 18, 19, 20] ⟨[(2, .ptr 17 0 0), (4, .ptr 18 0 0), (6, .ptr 19 0 0), (7, iV .i64 t1976), (56, .own 20), (57, iV .i64 (t1980.length : Int)), (58, iV .i64 x2019)], [(17, some (.box 35 (aHist a0))), (18, some (.box 74 (arank_Part ⟨0, 0, 0⟩))), (19, some (.box 74 (arank_Part ⟨x2017, (IntKind.u64.wrap (x2018 + b2024.f1)), a0.f4⟩))), (20, some (.row 4 47 (t1980.map erank_Cell)))], 0⟩ [] (by kernel_rfl) trivial ?_
                    obtain rfl := Option.some.inj H
                    exact Exists.intro _ (And.intro (fun _ _ h => h.conv (inv := [(17, 22), (18, 23), (19, 24), (20, 25)]) (vk := []) (e0 := []) (t := ⟨[(2, .ptr 22 0 0), (4, .ptr 23 0 0), (6, .ptr 24 0 0), (7, iV .i64 t1976), (56, .own 25), (57, iV .i64 (t1980.length : Int)), (58, iV .i64 x2019)], [(22, some (.box 35 (aHist a0))), (23, some (.box 74 (arank_Part ⟨0, 0, 0⟩))), (24, some (.box 74 (arank_Part ⟨x2017, (IntKind.u64.wrap (x2018 + b2024.f1)), a0.f4⟩))), (25, some (.row 4 47 (t1980.map erank_Cell)))], 0⟩) (by kernel_rfl)) (And.intro rfl rfl))
                  · replace H := (ifF c2032).symm.trans H
                    refine AWp.skip ?_
                    obtain rfl := Option.some.inj H
                    exact Exists.intro _ (And.intro (fun _ _ h => h.conv (inv := [(17, 22), (18, 23), (19, 24), (20, 25)]) (vk := []) (e0 := []) (t := ⟨[(2, .ptr 22 0 0), (4, .ptr 23 0 0), (6, .ptr 24 0 0), (7, iV .i64 t1976), (56, .own 25), (57, iV .i64 (t1980.length : Int)), (58, iV .i64 x2019)], [(22, some (.box 35 (aHist a0))), (23, some (.box 74 (arank_Part ⟨0, 0, 0⟩))), (24, some (.box 74 (arank_Part ⟨x2017, x2018, a0.f4⟩))), (25, some (.row 4 47 (t1980.map erank_Cell)))], 0⟩) (by kernel_rfl)) (And.intro rfl rfl))
                · obtain ⟨x2033, rfl⟩ : ∃ z, z = o2044 := ⟨_, rfl⟩
                  rintro e s ⟨rfl, rfl⟩
                  obtain rfl := Option.some.inj H
                  exact Exists.intro _ (And.intro (fun _ _ h => h.conv (inv := [(22, 26), (23, 27), (24, 28), (25, 29)]) (vk := []) (e0 := []) (t := ⟨[(2, .ptr 26 0 0), (4, .ptr 27 0 0), (6, .ptr 28 0 0), (7, iV .i64 t1976), (56, .own 29), (57, iV .i64 (t1980.length : Int)), (58, iV .i64 x2019)], [(26, some (.box 35 (aHist a0))), (27, some (.box 74 (arank_Part ⟨0, 0, 0⟩))), (28, some (.box 74 (arank_Part ⟨x2017, x2033, a0.f4⟩))), (29, some (.row 4 47 (t1980.map erank_Cell)))], 0⟩) (by kernel_rfl)) (And.intro rfl rfl))
            · obtain ⟨x2034, x2035⟩ := o2042
              rintro e s ⟨rfl, rfl⟩
              refine reg hP hn hm [] [2, 4, 6, 7, 56, 57, 58] [26, 27, 28, 29] ⟨[(2, .ptr 26 0 0), (4, .ptr 27 0 0), (6, .ptr 28 0 0), (7, iV .i64 t1976), (56, .own 29), (57, iV .i64 (t1980.length : Int)), (58, iV .i64 (IntKind.i64.wrap (x2019 + (1 : Int))))], [(26, some (.box 35 (aHist a0))), (27, some (.box 74 (arank_Part ⟨0, 0, 0⟩))), (28, some (.box 74 (arank_Part ⟨x2034, x2035, a0.f4⟩))), (29, some (.row 4 47 (t1980.map erank_Cell)))], 0⟩ [] (by kernel_rfl) trivial ?_
              exact LWp.conv (inv := [(26, 17), (27, 18), (28, 19), (29, 20)]) (vk := []) (e0 := []) (t := ⟨[(2, .ptr 17 0 0), (4, .ptr 18 0 0), (6, .ptr 19 0 0), (7, iV .i64 t1976), (56, .own 20), (57, iV .i64 (t1980.length : Int)), (58, iV .i64 (IntKind.i64.wrap (x2019 + (1 : Int))))], [(17, some (.box 35 (aHist a0))), (18, some (.box 74 (arank_Part ⟨0, 0, 0⟩))), (19, some (.box 74 (arank_Part ⟨x2034, x2035, a0.f4⟩))), (20, some (.row 4 47 (t1980.map erank_Cell)))], 0⟩) (by kernel_rfl) (ih _ _ _ _ H)
          · replace H := (ifF c2020).symm.trans H
            refine AWp.exit ?_
            obtain rfl := Option.some.inj H
            exact Exists.intro _ (And.intro (fun _ _ h => h.conv (inv := [(18, 30), (19, 31)]) (vk := []) (e0 := []) (t := ⟨[(4, .ptr 30 0 0), (6, .ptr 31 0 0)], [(30, some (.box 74 (arank_Part ⟨0, 0, 0⟩))), (31, some (.box 74 (arank_Part ⟨x2017, x2018, a0.f4⟩)))], 0⟩) (by kernel_rfl)) (And.intro rfl rfl))
        · obtain ⟨x2036, x2037⟩ := o2040
          rintro e s ⟨rfl, rfl⟩
          refine AWp.seq ?_
          refine reg hP hn hm [] [4, 5] [30] ⟨[(4, .ptr 30 0 0), (5, iV .i64 0)], [(30, some (.box 74 (arank_Part ⟨x2036, x2037, a0.f4⟩)))], 0⟩ [] (by kernel_rfl) trivial ?_
          refine AWp.conv (inv := [(30, 0)]) (vk := []) (e0 := []) (t := ⟨[(4, .ptr 0 0 0), (5, iV .i64 0)], [(0, some (.box 74 (arank_Part ((⟨x2036, x2037, a0.f4⟩ : Trank_Part)))))], 0⟩) (by kernel_rfl) ?_
          refine AWp.ret ?_
          obtain rfl := Option.some.inj H
          exact Exists.intro _ (And.intro (fun _ _ h => h) (And.intro (.inl rfl) (And.intro rfl (And.intro (by kernel_rfl) (by kernel_rfl)))))
def f_pluviallaw08_RankRises.f (a0 : THist) (a1 : Int) (a2 : Int) (a3 : Int) (a4 : Trank_Place) (a5 : Trank_Place) : Option (Bool) := (((f_pluviallaw08_right.f a0) >>= fun t2116 => if (!t2116) = true then (some true) else (if (a0.f4 == (0 : Int)) = true then (some true) else (some (a3 == (0 : Int))))) : Option (Bool)) >>= fun x2120 => if x2120 = true then ((f_pluviallaw08_awake.f) >>= fun t2124 => some t2124) else ((chk ((IntKind.u64.wrap ((IntKind.u64.wrap (Int.tdiv a3 (2 : Int))) + (1 : Int))) ≠ 0)) >>= fun _ => (f_rank_Order.f a0) >>= fun t2130 => (f_rank_Quantile.f a0 (if (Int.tmod a2 (IntKind.u64.wrap ((IntKind.u64.wrap (Int.tdiv a3 (2 : Int))) + (1 : Int)))) < (Int.tmod a1 (IntKind.u64.wrap ((IntKind.u64.wrap (Int.tdiv a3 (2 : Int))) + (1 : Int)))) then (Int.tmod a2 (IntKind.u64.wrap ((IntKind.u64.wrap (Int.tdiv a3 (2 : Int))) + (1 : Int)))) else (Int.tmod a1 (IntKind.u64.wrap ((IntKind.u64.wrap (Int.tdiv a3 (2 : Int))) + (1 : Int))))) a3) >>= fun t2134 => (f_rank_Quantile.f a0 (if (Int.tmod a2 (IntKind.u64.wrap ((IntKind.u64.wrap (Int.tdiv a3 (2 : Int))) + (1 : Int)))) > (Int.tmod a1 (IntKind.u64.wrap ((IntKind.u64.wrap (Int.tdiv a3 (2 : Int))) + (1 : Int)))) then (Int.tmod a2 (IntKind.u64.wrap ((IntKind.u64.wrap (Int.tdiv a3 (2 : Int))) + (1 : Int)))) else (Int.tmod a1 (IntKind.u64.wrap ((IntKind.u64.wrap (Int.tdiv a3 (2 : Int))) + (1 : Int))))) a3) >>= fun t2138 => (f_rank_Quantile.f a0 0 a3) >>= fun t2142 => (f_rank_Quantile.f a0 a3 a3) >>= fun t2146 => ((if (t2134.2 != (0 : Int)) = true then (some true) else (if (t2138.2 != (0 : Int)) = true then (some true) else (if (t2142.2 != (0 : Int)) = true then (some true) else (if (t2146.2 != (0 : Int)) = true then (some true) else (if ((t2130.length : Int) == (0 : Int)) = true then (some true) else ((f_rank_Compare.f (t2134.1) (t2138.1)) >>= fun t2168 => if (decide (t2168 > (0 : Int))) = true then (some true) else ((at? t2130 0) >>= fun b2171 => if (!((((t2142.1).f0) == b2171.f0.f0) && ((((t2142.1).f1) == b2171.f0.f1) && ((((t2142.1).f2) == b2171.f0.f2) && true)))) = true then (some true) else ((at? t2130 (IntKind.i64.wrap ((t2130.length : Int) - (1 : Int)))) >>= fun b2175 => some (!((((t2146.1).f0) == b2175.f0.f0) && ((((t2146.1).f1) == b2175.f0.f1) && ((((t2146.1).f2) == b2175.f0.f2) && true)))))))))))) : Option (Bool)) >>= fun x2178 => if x2178 = true then (some false) else ((f_rank_Below.f a0 a4) >>= fun t2182 => (f_rank_Below.f a0 a5) >>= fun t2186 => ((if (t2182.2 != (0 : Int)) = true then (some true) else (some (t2186.2 != (0 : Int)))) : Option (Bool)) >>= fun x2190 => if x2190 = true then ((f_pluviallaw08_awake.f) >>= fun t2194 => some t2194) else (((if (decide (a5.f0 > a4.f0)) = true then (some true) else (if (a5.f0 == a4.f0) = true then (some (decide ((IntKind.i64.wrap (a5.f0 * a5.f1)) ≥ (IntKind.i64.wrap (a4.f0 * a4.f1))))) else (some false))) : Option (Bool)) >>= fun x2200 => (((f_pluviallaw08_awake.f) >>= fun t2208 => if t2208 = true then (if (!x2200) = true then (if (decide ((IntKind.u64.wrap (((t2182.1).f0) + ((t2182.1).f1))) ≤ ((t2182.1).f2))) = true then (some (((t2182.1).f2) == a0.f4)) else (some false)) else (if (decide (((t2186.1).f0) ≥ ((t2182.1).f0))) = true then (if (decide ((IntKind.u64.wrap (((t2182.1).f0) + ((t2182.1).f1))) ≤ ((t2182.1).f2))) = true then (some (((t2182.1).f2) == a0.f4)) else (some false)) else (some false))) else (some false)) : Option (Bool)) >>= fun x2215 => some x2215)))
theorem f_pluviallaw08_RankRises.ok (a0 : THist) (a1 : Int) (a2 : Int) (a3 : Int) (a4 : Trank_Place) (a5 : Trank_Place) (r : Bool) (H : f_pluviallaw08_RankRises.f a0 a1 a2 a3 a4 a5 = some r) : Pv.Fn Try.prog 10 [.agg (aHist a0), iV .u64 a1, iV .u64 a2, iV .u64 a3, .agg (arank_Place a4), .agg (arank_Place a5)] [] 0 (fun x o => x = bV r ∧ o = []) := by
  unfold f_pluviallaw08_RankRises.f at H
  refine Fn.bodyK [] Try.func10 rfl rfl (fun Γ hP hn => ?_)
  have hm : Try.prog.follows .mixedOrders = true := by kernel_rfl
  replace hn : Γ.n = 200 := hn
  refine AWp.seq ?_
  refine reg hP hn hm [(0, .k 0), (1, .k 1), (2, .k 2)] [1, 2, 3, 6, 10, 11] [0, 1, 2] ⟨[(1, iV .u64 a1), (2, iV .u64 a2), (3, iV .u64 a3), (6, .ptr 0 0 0), (10, .ptr 1 0 0), (11, .ptr 2 0 0)], [(0, some (.box 35 (aHist a0))), (1, some (.box 72 (arank_Place a4))), (2, some (.box 72 (arank_Place a5)))], 0⟩ [] (by kernel_rfl) trivial ?_
  refine AWp.seq ?_
  refine AWp.seq ?_
  obtain ⟨o2216, e2217, H⟩ := bind_of H
  refine AWp.mono (Q := fun e s => (match (generalizing := false) o2216 with | x2120 => e = .normal ∧ s = ⟨[(1, iV .u64 a1), (2, iV .u64 a2), (3, iV .u64 a3), (6, .ptr 3 0 0), (10, .ptr 4 0 0), (11, .ptr 5 0 0), (38, bV x2120)], [(3, some (.box 35 (aHist a0))), (4, some (.box 72 (arank_Place a4))), (5, some (.box 72 (arank_Place a5)))], 0⟩)) (AWp.cv ?_) ?_
  · replace H := e2217; clear e2217
    obtain ⟨t2116, e2117, H⟩ := bind_of H
    rcases Bool.eq_false_or_eq_true (!t2116) with c2118 | c2118
    · replace H := (ifT c2118).symm.trans H
      refine reg hP hn hm [(1, .call [] [] [] [] 0 (bV t2116) []), (3, .b true)] [1, 2, 3, 6, 10, 11, 38] [0, 1, 2] ⟨[(1, iV .u64 a1), (2, iV .u64 a2), (3, iV .u64 a3), (6, .ptr 0 0 0), (10, .ptr 1 0 0), (11, .ptr 2 0 0), (38, bV true)], [(0, some (.box 35 (aHist a0))), (1, some (.box 72 (arank_Place a4))), (2, some (.box 72 (arank_Place a5)))], 0⟩ [Enters Try.prog 19, Pv.Fn Try.prog 19 [.agg (aHist a0)] [] 0 (fun r o => r = bV t2116 ∧ o = []), (!t2116) = true] (by kernel_rfl) ⟨by exact Try.call19, by exact f_pluviallaw08_right.ok a0 t2116 e2117, by exact c2118, trivial⟩ ?_
      obtain rfl := Option.some.inj H
      exact Exists.intro _ (And.intro (fun _ _ h => h.conv (inv := [(0, 3), (1, 4), (2, 5)]) (vk := []) (e0 := []) (t := ⟨[(1, iV .u64 a1), (2, iV .u64 a2), (3, iV .u64 a3), (6, .ptr 3 0 0), (10, .ptr 4 0 0), (11, .ptr 5 0 0), (38, bV true)], [(3, some (.box 35 (aHist a0))), (4, some (.box 72 (arank_Place a4))), (5, some (.box 72 (arank_Place a5)))], 0⟩) (by kernel_rfl)) (And.intro rfl rfl))
    · replace H := (ifF c2118).symm.trans H
      rcases Bool.eq_false_or_eq_true (a0.f4 == (0 : Int)) with c2119 | c2119
      · replace H := (ifT c2119).symm.trans H
        refine reg hP hn hm [(1, .call [] [] [] [] 0 (bV t2116) []), (3, .b false), (8, .b true)] [1, 2, 3, 6, 10, 11, 38] [0, 1, 2] ⟨[(1, iV .u64 a1), (2, iV .u64 a2), (3, iV .u64 a3), (6, .ptr 0 0 0), (10, .ptr 1 0 0), (11, .ptr 2 0 0), (38, bV true)], [(0, some (.box 35 (aHist a0))), (1, some (.box 72 (arank_Place a4))), (2, some (.box 72 (arank_Place a5)))], 0⟩ [Enters Try.prog 19, Pv.Fn Try.prog 19 [.agg (aHist a0)] [] 0 (fun r o => r = bV t2116 ∧ o = []), (!t2116) = false, (a0.f4 == (0 : Int)) = true] (by kernel_rfl) ⟨by exact Try.call19, by exact f_pluviallaw08_right.ok a0 t2116 e2117, by exact c2118, by exact c2119, trivial⟩ ?_
        obtain rfl := Option.some.inj H
        exact Exists.intro _ (And.intro (fun _ _ h => h.conv (inv := [(0, 3), (1, 4), (2, 5)]) (vk := []) (e0 := []) (t := ⟨[(1, iV .u64 a1), (2, iV .u64 a2), (3, iV .u64 a3), (6, .ptr 3 0 0), (10, .ptr 4 0 0), (11, .ptr 5 0 0), (38, bV true)], [(3, some (.box 35 (aHist a0))), (4, some (.box 72 (arank_Place a4))), (5, some (.box 72 (arank_Place a5)))], 0⟩) (by kernel_rfl)) (And.intro rfl rfl))
      · replace H := (ifF c2119).symm.trans H
        refine reg hP hn hm [(1, .call [] [] [] [] 0 (bV t2116) []), (3, .b false), (8, .b false)] [1, 2, 3, 6, 10, 11, 38] [0, 1, 2] ⟨[(1, iV .u64 a1), (2, iV .u64 a2), (3, iV .u64 a3), (6, .ptr 0 0 0), (10, .ptr 1 0 0), (11, .ptr 2 0 0), (38, bV (a3 == (0 : Int)))], [(0, some (.box 35 (aHist a0))), (1, some (.box 72 (arank_Place a4))), (2, some (.box 72 (arank_Place a5)))], 0⟩ [Enters Try.prog 19, Pv.Fn Try.prog 19 [.agg (aHist a0)] [] 0 (fun r o => r = bV t2116 ∧ o = []), (!t2116) = false, (a0.f4 == (0 : Int)) = false] (by kernel_rfl) ⟨by exact Try.call19, by exact f_pluviallaw08_right.ok a0 t2116 e2117, by exact c2118, by exact c2119, trivial⟩ ?_
        obtain rfl := Option.some.inj H
        exact Exists.intro _ (And.intro (fun _ _ h => h.conv (inv := [(0, 3), (1, 4), (2, 5)]) (vk := []) (e0 := []) (t := ⟨[(1, iV .u64 a1), (2, iV .u64 a2), (3, iV .u64 a3), (6, .ptr 3 0 0), (10, .ptr 4 0 0), (11, .ptr 5 0 0), (38, bV (a3 == (0 : Int)))], [(3, some (.box 35 (aHist a0))), (4, some (.box 72 (arank_Place a4))), (5, some (.box 72 (arank_Place a5)))], 0⟩) (by kernel_rfl)) (And.intro rfl rfl))
  · obtain ⟨x2120, rfl⟩ : ∃ z, z = o2216 := ⟨_, rfl⟩
    rintro e s ⟨rfl, rfl⟩
    refine AWp.cond x2120 rfl (fun c2121 => ?_) (fun c2121 => ?_)
    · replace H := (ifT c2121).symm.trans H
      refine AWp.seq ?_
      obtain ⟨t2124, e2125, H⟩ := bind_of H
      refine reg hP hn hm [(0, .call [] [] [] [] 0 (bV t2124) [])] [12] [] ⟨[(12, bV t2124)], [], 0⟩ [Enters Try.prog 20, Pv.Fn Try.prog 20 [] [] 0 (fun r o => r = bV t2124 ∧ o = [])] (by kernel_rfl) ⟨by exact Try.call20, by exact f_pluviallaw08_awake.ok  t2124 e2125, trivial⟩ ?_
      refine AWp.conv (inv := []) (vk := []) (e0 := []) (t := ⟨[(12, bV t2124)], [], 0⟩) (by kernel_rfl) ?_
      refine AWp.ret ?_
      obtain rfl := Option.some.inj H
      exact Exists.intro _ (And.intro (fun _ _ h => h) (And.intro (.inl rfl) (And.intro rfl (And.intro (by kernel_rfl) (by kernel_rfl)))))
    · replace H := (ifF c2121).symm.trans H
      refine AWp.skip ?_
      refine AWp.seq ?_
      obtain ⟨c2127, H⟩ := chk_of H
      refine reg hP hn hm [] [1, 2, 3, 6, 10, 11] [3, 4, 5] ⟨[(1, iV .u64 (Int.tmod a1 (IntKind.u64.wrap ((IntKind.u64.wrap (Int.tdiv a3 (2 : Int))) + (1 : Int))))), (2, iV .u64 (Int.tmod a2 (IntKind.u64.wrap ((IntKind.u64.wrap (Int.tdiv a3 (2 : Int))) + (1 : Int))))), (3, iV .u64 a3), (6, .ptr 3 0 0), (10, .ptr 4 0 0), (11, .ptr 5 0 0)], [(3, some (.box 35 (aHist a0))), (4, some (.box 72 (arank_Place a4))), (5, some (.box 72 (arank_Place a5)))], 0⟩ [(2 : Int) ≠ 0, (IntKind.u64.wrap ((IntKind.u64.wrap (Int.tdiv a3 (2 : Int))) + (1 : Int))) ≠ 0, (2 : Int) ≠ 0, (IntKind.u64.wrap ((IntKind.u64.wrap (Int.tdiv a3 (2 : Int))) + (1 : Int))) ≠ 0] (by kernel_rfl) ⟨by decide, by exact c2127, by decide, by exact c2127, trivial⟩ ?_
      refine AWp.seq ?_
      obtain ⟨t2130, e2131, H⟩ := bind_of H
      refine reg hP hn hm [(1, .call [] [(0, 6)] [] [6] 0 (.own 0) [(0, some (.row 4 47 (t2130.map erank_Cell)))])] [1, 2, 3, 6, 10, 11, 13] [3, 4, 5, 6] ⟨[(1, iV .u64 (Int.tmod a1 (IntKind.u64.wrap ((IntKind.u64.wrap (Int.tdiv a3 (2 : Int))) + (1 : Int))))), (2, iV .u64 (Int.tmod a2 (IntKind.u64.wrap ((IntKind.u64.wrap (Int.tdiv a3 (2 : Int))) + (1 : Int))))), (3, iV .u64 a3), (6, .ptr 3 0 0), (10, .ptr 4 0 0), (11, .ptr 5 0 0), (13, .own 6)], [(3, some (.box 35 (aHist a0))), (4, some (.box 72 (arank_Place a4))), (5, some (.box 72 (arank_Place a5))), (6, some (.row 4 47 (t2130.map erank_Cell)))], 0⟩ [Enters Try.prog 21, Pv.Fn Try.prog 21 [.agg (aHist a0)] [] 0 (fun r o => r = .own 0 ∧ o = [(0, some (.row 4 47 (t2130.map erank_Cell)))])] (by kernel_rfl) ⟨by exact Try.call21, by exact f_rank_Order.ok a0 t2130 e2131, trivial⟩ ?_
      refine AWp.seq ?_
      obtain ⟨t2134, e2135, H⟩ := bind_of H
      refine reg hP hn hm [(3, .more xMin), (5, .call [] [] [] [] 0 (.tup [.agg (abound_Key (t2134.1)), iV .i64 t2134.2]) []), (9, .k 7)] [1, 2, 3, 6, 10, 11, 13, 14, 15] [3, 4, 5, 6, 7] ⟨[(1, iV .u64 (Int.tmod a1 (IntKind.u64.wrap ((IntKind.u64.wrap (Int.tdiv a3 (2 : Int))) + (1 : Int))))), (2, iV .u64 (Int.tmod a2 (IntKind.u64.wrap ((IntKind.u64.wrap (Int.tdiv a3 (2 : Int))) + (1 : Int))))), (3, iV .u64 a3), (6, .ptr 3 0 0), (10, .ptr 4 0 0), (11, .ptr 5 0 0), (13, .own 6), (14, .ptr 7 0 0), (15, iV .i64 t2134.2)], [(3, some (.box 35 (aHist a0))), (4, some (.box 72 (arank_Place a4))), (5, some (.box 72 (arank_Place a5))), (6, some (.row 4 47 (t2130.map erank_Cell))), (7, some (.box 45 (abound_Key (t2134.1))))], 0⟩ [Enters Try.prog 27, Pv.Fn Try.prog 27 [.agg (aHist a0), iV .u64 (if (Int.tmod a2 (IntKind.u64.wrap ((IntKind.u64.wrap (Int.tdiv a3 (2 : Int))) + (1 : Int)))) < (Int.tmod a1 (IntKind.u64.wrap ((IntKind.u64.wrap (Int.tdiv a3 (2 : Int))) + (1 : Int)))) then (Int.tmod a2 (IntKind.u64.wrap ((IntKind.u64.wrap (Int.tdiv a3 (2 : Int))) + (1 : Int)))) else (Int.tmod a1 (IntKind.u64.wrap ((IntKind.u64.wrap (Int.tdiv a3 (2 : Int))) + (1 : Int))))), iV .u64 a3] [] 0 (fun r o => r = .tup [.agg (abound_Key (t2134.1)), iV .i64 t2134.2] ∧ o = [])] (by kernel_rfl) ⟨by exact Try.call27, by exact f_rank_Quantile.ok a0 (if (Int.tmod a2 (IntKind.u64.wrap ((IntKind.u64.wrap (Int.tdiv a3 (2 : Int))) + (1 : Int)))) < (Int.tmod a1 (IntKind.u64.wrap ((IntKind.u64.wrap (Int.tdiv a3 (2 : Int))) + (1 : Int)))) then (Int.tmod a2 (IntKind.u64.wrap ((IntKind.u64.wrap (Int.tdiv a3 (2 : Int))) + (1 : Int)))) else (Int.tmod a1 (IntKind.u64.wrap ((IntKind.u64.wrap (Int.tdiv a3 (2 : Int))) + (1 : Int))))) a3 t2134 e2135, trivial⟩ ?_
      refine AWp.seq ?_
      obtain ⟨t2138, e2139, H⟩ := bind_of H
      refine reg hP hn hm [(3, .more xMax), (5, .call [] [] [] [] 0 (.tup [.agg (abound_Key (t2138.1)), iV .i64 t2138.2]) []), (9, .k 8)] [3, 6, 10, 11, 13, 14, 15, 16, 17] [3, 4, 5, 6, 7, 8] ⟨[(3, iV .u64 a3), (6, .ptr 3 0 0), (10, .ptr 4 0 0), (11, .ptr 5 0 0), (13, .own 6), (14, .ptr 7 0 0), (15, iV .i64 t2134.2), (16, .ptr 8 0 0), (17, iV .i64 t2138.2)], [(3, some (.box 35 (aHist a0))), (4, some (.box 72 (arank_Place a4))), (5, some (.box 72 (arank_Place a5))), (6, some (.row 4 47 (t2130.map erank_Cell))), (7, some (.box 45 (abound_Key (t2134.1)))), (8, some (.box 45 (abound_Key (t2138.1))))], 0⟩ [Enters Try.prog 27, Pv.Fn Try.prog 27 [.agg (aHist a0), iV .u64 (if (Int.tmod a2 (IntKind.u64.wrap ((IntKind.u64.wrap (Int.tdiv a3 (2 : Int))) + (1 : Int)))) > (Int.tmod a1 (IntKind.u64.wrap ((IntKind.u64.wrap (Int.tdiv a3 (2 : Int))) + (1 : Int)))) then (Int.tmod a2 (IntKind.u64.wrap ((IntKind.u64.wrap (Int.tdiv a3 (2 : Int))) + (1 : Int)))) else (Int.tmod a1 (IntKind.u64.wrap ((IntKind.u64.wrap (Int.tdiv a3 (2 : Int))) + (1 : Int))))), iV .u64 a3] [] 0 (fun r o => r = .tup [.agg (abound_Key (t2138.1)), iV .i64 t2138.2] ∧ o = [])] (by kernel_rfl) ⟨by exact Try.call27, by exact f_rank_Quantile.ok a0 (if (Int.tmod a2 (IntKind.u64.wrap ((IntKind.u64.wrap (Int.tdiv a3 (2 : Int))) + (1 : Int)))) > (Int.tmod a1 (IntKind.u64.wrap ((IntKind.u64.wrap (Int.tdiv a3 (2 : Int))) + (1 : Int)))) then (Int.tmod a2 (IntKind.u64.wrap ((IntKind.u64.wrap (Int.tdiv a3 (2 : Int))) + (1 : Int)))) else (Int.tmod a1 (IntKind.u64.wrap ((IntKind.u64.wrap (Int.tdiv a3 (2 : Int))) + (1 : Int))))) a3 t2138 e2139, trivial⟩ ?_
      refine AWp.seq ?_
      obtain ⟨t2142, e2143, H⟩ := bind_of H
      refine reg hP hn hm [(2, .call [] [] [] [] 0 (.tup [.agg (abound_Key (t2142.1)), iV .i64 t2142.2]) []), (6, .k 9)] [3, 6, 10, 11, 13, 14, 15, 16, 17, 18, 19] [3, 4, 5, 6, 7, 8, 9] ⟨[(3, iV .u64 a3), (6, .ptr 3 0 0), (10, .ptr 4 0 0), (11, .ptr 5 0 0), (13, .own 6), (14, .ptr 7 0 0), (15, iV .i64 t2134.2), (16, .ptr 8 0 0), (17, iV .i64 t2138.2), (18, .ptr 9 0 0), (19, iV .i64 t2142.2)], [(3, some (.box 35 (aHist a0))), (4, some (.box 72 (arank_Place a4))), (5, some (.box 72 (arank_Place a5))), (6, some (.row 4 47 (t2130.map erank_Cell))), (7, some (.box 45 (abound_Key (t2134.1)))), (8, some (.box 45 (abound_Key (t2138.1)))), (9, some (.box 45 (abound_Key (t2142.1))))], 0⟩ [Enters Try.prog 27, Pv.Fn Try.prog 27 [.agg (aHist a0), iV .u64 0, iV .u64 a3] [] 0 (fun r o => r = .tup [.agg (abound_Key (t2142.1)), iV .i64 t2142.2] ∧ o = [])] (by kernel_rfl) ⟨by exact Try.call27, by exact f_rank_Quantile.ok a0 0 a3 t2142 e2143, trivial⟩ ?_
      refine AWp.seq ?_
      obtain ⟨t2146, e2147, H⟩ := bind_of H
      refine reg hP hn hm [(3, .call [] [] [] [] 0 (.tup [.agg (abound_Key (t2146.1)), iV .i64 t2146.2]) []), (7, .k 10)] [6, 10, 11, 13, 14, 15, 16, 17, 18, 19, 20, 21] [3, 4, 5, 6, 7, 8, 9, 10] ⟨[(6, .ptr 3 0 0), (10, .ptr 4 0 0), (11, .ptr 5 0 0), (13, .own 6), (14, .ptr 7 0 0), (15, iV .i64 t2134.2), (16, .ptr 8 0 0), (17, iV .i64 t2138.2), (18, .ptr 9 0 0), (19, iV .i64 t2142.2), (20, .ptr 10 0 0), (21, iV .i64 t2146.2)], [(3, some (.box 35 (aHist a0))), (4, some (.box 72 (arank_Place a4))), (5, some (.box 72 (arank_Place a5))), (6, some (.row 4 47 (t2130.map erank_Cell))), (7, some (.box 45 (abound_Key (t2134.1)))), (8, some (.box 45 (abound_Key (t2138.1)))), (9, some (.box 45 (abound_Key (t2142.1)))), (10, some (.box 45 (abound_Key (t2146.1))))], 0⟩ [Enters Try.prog 27, Pv.Fn Try.prog 27 [.agg (aHist a0), iV .u64 a3, iV .u64 a3] [] 0 (fun r o => r = .tup [.agg (abound_Key (t2146.1)), iV .i64 t2146.2] ∧ o = [])] (by kernel_rfl) ⟨by exact Try.call27, by exact f_rank_Quantile.ok a0 a3 a3 t2146 e2147, trivial⟩ ?_
      refine AWp.seq ?_
      refine AWp.seq ?_
      obtain ⟨o2218, e2219, H⟩ := bind_of H
      refine AWp.mono (Q := fun e s => (match (generalizing := false) o2218 with | x2178 => e = .normal ∧ s = ⟨[(6, .ptr 11 0 0), (10, .ptr 12 0 0), (11, .ptr 13 0 0), (126, bV x2178)], [(11, some (.box 35 (aHist a0))), (12, some (.box 72 (arank_Place a4))), (13, some (.box 72 (arank_Place a5)))], 0⟩)) (AWp.cv ?_) ?_
      · replace H := e2219; clear e2219
        rcases Bool.eq_false_or_eq_true (t2134.2 != (0 : Int)) with c2163 | c2163
        · replace H := (ifT c2163).symm.trans H
          refine reg hP hn hm [(2, .b true)] [6, 10, 11, 126] [3, 4, 5] ⟨[(6, .ptr 3 0 0), (10, .ptr 4 0 0), (11, .ptr 5 0 0), (126, bV true)], [(3, some (.box 35 (aHist a0))), (4, some (.box 72 (arank_Place a4))), (5, some (.box 72 (arank_Place a5)))], 0⟩ [(t2134.2 != (0 : Int)) = true] (by kernel_rfl) ⟨by exact c2163, trivial⟩ ?_
          obtain rfl := Option.some.inj H
          exact Exists.intro _ (And.intro (fun _ _ h => h.conv (inv := [(3, 11), (4, 12), (5, 13)]) (vk := []) (e0 := []) (t := ⟨[(6, .ptr 11 0 0), (10, .ptr 12 0 0), (11, .ptr 13 0 0), (126, bV true)], [(11, some (.box 35 (aHist a0))), (12, some (.box 72 (arank_Place a4))), (13, some (.box 72 (arank_Place a5)))], 0⟩) (by kernel_rfl)) (And.intro rfl rfl))
        · replace H := (ifF c2163).symm.trans H
          rcases Bool.eq_false_or_eq_true (t2138.2 != (0 : Int)) with c2164 | c2164
          · replace H := (ifT c2164).symm.trans H
            refine reg hP hn hm [(2, .b false), (6, .b true)] [6, 10, 11, 126] [3, 4, 5] ⟨[(6, .ptr 3 0 0), (10, .ptr 4 0 0), (11, .ptr 5 0 0), (126, bV true)], [(3, some (.box 35 (aHist a0))), (4, some (.box 72 (arank_Place a4))), (5, some (.box 72 (arank_Place a5)))], 0⟩ [(t2134.2 != (0 : Int)) = false, (t2138.2 != (0 : Int)) = true] (by kernel_rfl) ⟨by exact c2163, by exact c2164, trivial⟩ ?_
            obtain rfl := Option.some.inj H
            exact Exists.intro _ (And.intro (fun _ _ h => h.conv (inv := [(3, 11), (4, 12), (5, 13)]) (vk := []) (e0 := []) (t := ⟨[(6, .ptr 11 0 0), (10, .ptr 12 0 0), (11, .ptr 13 0 0), (126, bV true)], [(11, some (.box 35 (aHist a0))), (12, some (.box 72 (arank_Place a4))), (13, some (.box 72 (arank_Place a5)))], 0⟩) (by kernel_rfl)) (And.intro rfl rfl))
          · replace H := (ifF c2164).symm.trans H
            rcases Bool.eq_false_or_eq_true (t2142.2 != (0 : Int)) with c2165 | c2165
            · replace H := (ifT c2165).symm.trans H
              refine reg hP hn hm [(2, .b false), (6, .b false), (10, .b true)] [6, 10, 11, 126] [3, 4, 5] ⟨[(6, .ptr 3 0 0), (10, .ptr 4 0 0), (11, .ptr 5 0 0), (126, bV true)], [(3, some (.box 35 (aHist a0))), (4, some (.box 72 (arank_Place a4))), (5, some (.box 72 (arank_Place a5)))], 0⟩ [(t2134.2 != (0 : Int)) = false, (t2138.2 != (0 : Int)) = false, (t2142.2 != (0 : Int)) = true] (by kernel_rfl) ⟨by exact c2163, by exact c2164, by exact c2165, trivial⟩ ?_
              obtain rfl := Option.some.inj H
              exact Exists.intro _ (And.intro (fun _ _ h => h.conv (inv := [(3, 11), (4, 12), (5, 13)]) (vk := []) (e0 := []) (t := ⟨[(6, .ptr 11 0 0), (10, .ptr 12 0 0), (11, .ptr 13 0 0), (126, bV true)], [(11, some (.box 35 (aHist a0))), (12, some (.box 72 (arank_Place a4))), (13, some (.box 72 (arank_Place a5)))], 0⟩) (by kernel_rfl)) (And.intro rfl rfl))
            · replace H := (ifF c2165).symm.trans H
              rcases Bool.eq_false_or_eq_true (t2146.2 != (0 : Int)) with c2166 | c2166
              · replace H := (ifT c2166).symm.trans H
                refine reg hP hn hm [(2, .b false), (6, .b false), (10, .b false), (14, .b true)] [6, 10, 11, 126] [3, 4, 5] ⟨[(6, .ptr 3 0 0), (10, .ptr 4 0 0), (11, .ptr 5 0 0), (126, bV true)], [(3, some (.box 35 (aHist a0))), (4, some (.box 72 (arank_Place a4))), (5, some (.box 72 (arank_Place a5)))], 0⟩ [(t2134.2 != (0 : Int)) = false, (t2138.2 != (0 : Int)) = false, (t2142.2 != (0 : Int)) = false, (t2146.2 != (0 : Int)) = true] (by kernel_rfl) ⟨by exact c2163, by exact c2164, by exact c2165, by exact c2166, trivial⟩ ?_
                obtain rfl := Option.some.inj H
                exact Exists.intro _ (And.intro (fun _ _ h => h.conv (inv := [(3, 11), (4, 12), (5, 13)]) (vk := []) (e0 := []) (t := ⟨[(6, .ptr 11 0 0), (10, .ptr 12 0 0), (11, .ptr 13 0 0), (126, bV true)], [(11, some (.box 35 (aHist a0))), (12, some (.box 72 (arank_Place a4))), (13, some (.box 72 (arank_Place a5)))], 0⟩) (by kernel_rfl)) (And.intro rfl rfl))
              · replace H := (ifF c2166).symm.trans H
                rcases Bool.eq_false_or_eq_true ((t2130.length : Int) == (0 : Int)) with c2167 | c2167
                · replace H := (ifT c2167).symm.trans H
                  refine reg hP hn hm [(2, .b false), (6, .b false), (10, .b false), (14, .b false), (16, .any (iV .i64 (t2130.length : Int))), (19, .b true)] [6, 10, 11, 126] [3, 4, 5] ⟨[(6, .ptr 3 0 0), (10, .ptr 4 0 0), (11, .ptr 5 0 0), (126, bV true)], [(3, some (.box 35 (aHist a0))), (4, some (.box 72 (arank_Place a4))), (5, some (.box 72 (arank_Place a5)))], 0⟩ [(t2134.2 != (0 : Int)) = false, (t2138.2 != (0 : Int)) = false, (t2142.2 != (0 : Int)) = false, (t2146.2 != (0 : Int)) = false, ((t2130.map erank_Cell).length : Int) = (t2130.length : Int), ((t2130.length : Int) == (0 : Int)) = true] (by kernel_rfl) ⟨by exact c2163, by exact c2164, by exact c2165, by exact c2166, by rw [len_map], by exact c2167, trivial⟩ ?_
                  obtain rfl := Option.some.inj H
                  exact Exists.intro _ (And.intro (fun _ _ h => h.conv (inv := [(3, 11), (4, 12), (5, 13)]) (vk := []) (e0 := []) (t := ⟨[(6, .ptr 11 0 0), (10, .ptr 12 0 0), (11, .ptr 13 0 0), (126, bV true)], [(11, some (.box 35 (aHist a0))), (12, some (.box 72 (arank_Place a4))), (13, some (.box 72 (arank_Place a5)))], 0⟩) (by kernel_rfl)) (And.intro rfl rfl))
                · replace H := (ifF c2167).symm.trans H
                  obtain ⟨t2168, e2169, H⟩ := bind_of H
                  rcases Bool.eq_false_or_eq_true (decide (t2168 > (0 : Int))) with c2170 | c2170
                  · replace H := (ifT c2170).symm.trans H
                    refine reg hP hn hm [(2, .b false), (6, .b false), (10, .b false), (14, .b false), (16, .any (iV .i64 (t2130.length : Int))), (19, .b false), (22, .call [] [] [] [] 0 (iV .i64 t2168) []), (25, .b true)] [6, 10, 11, 126] [3, 4, 5] ⟨[(6, .ptr 3 0 0), (10, .ptr 4 0 0), (11, .ptr 5 0 0), (126, bV true)], [(3, some (.box 35 (aHist a0))), (4, some (.box 72 (arank_Place a4))), (5, some (.box 72 (arank_Place a5)))], 0⟩ [(t2134.2 != (0 : Int)) = false, (t2138.2 != (0 : Int)) = false, (t2142.2 != (0 : Int)) = false, (t2146.2 != (0 : Int)) = false, ((t2130.map erank_Cell).length : Int) = (t2130.length : Int), ((t2130.length : Int) == (0 : Int)) = false, Enters Try.prog 25, Pv.Fn Try.prog 25 [.agg (abound_Key (t2134.1)), .agg (abound_Key (t2138.1))] [] 0 (fun r o => r = iV .i64 t2168 ∧ o = []), (decide (t2168 > (0 : Int))) = true] (by kernel_rfl) ⟨by exact c2163, by exact c2164, by exact c2165, by exact c2166, by rw [len_map], by exact c2167, by exact Try.call25, by exact f_rank_Compare.ok (t2134.1) (t2138.1) t2168 e2169, by exact c2170, trivial⟩ ?_
                    obtain rfl := Option.some.inj H
                    exact Exists.intro _ (And.intro (fun _ _ h => h.conv (inv := [(3, 11), (4, 12), (5, 13)]) (vk := []) (e0 := []) (t := ⟨[(6, .ptr 11 0 0), (10, .ptr 12 0 0), (11, .ptr 13 0 0), (126, bV true)], [(11, some (.box 35 (aHist a0))), (12, some (.box 72 (arank_Place a4))), (13, some (.box 72 (arank_Place a5)))], 0⟩) (by kernel_rfl)) (And.intro rfl rfl))
                  · replace H := (ifF c2170).symm.trans H
                    obtain ⟨b2171, p2172, q2173, H⟩ := at_of H
                    rcases Bool.eq_false_or_eq_true (!((((t2142.1).f0) == b2171.f0.f0) && ((((t2142.1).f1) == b2171.f0.f1) && ((((t2142.1).f2) == b2171.f0.f2) && true)))) with c2174 | c2174
                    · replace H := (ifT c2174).symm.trans H
                      refine reg hP hn hm [(2, .b false), (6, .b false), (10, .b false), (14, .b false), (16, .any (iV .i64 (t2130.length : Int))), (19, .b false), (22, .call [] [] [] [] 0 (iV .i64 t2168) []), (25, .b false), (30, .c (erank_Cell b2171)), (31, .more (xAgg none)), (33, .b true)] [6, 10, 11, 126] [3, 4, 5] ⟨[(6, .ptr 3 0 0), (10, .ptr 4 0 0), (11, .ptr 5 0 0), (126, bV true)], [(3, some (.box 35 (aHist a0))), (4, some (.box 72 (arank_Place a4))), (5, some (.box 72 (arank_Place a5)))], 0⟩ [(t2134.2 != (0 : Int)) = false, (t2138.2 != (0 : Int)) = false, (t2142.2 != (0 : Int)) = false, (t2146.2 != (0 : Int)) = false, ((t2130.map erank_Cell).length : Int) = (t2130.length : Int), ((t2130.length : Int) == (0 : Int)) = false, Enters Try.prog 25, Pv.Fn Try.prog 25 [.agg (abound_Key (t2134.1)), .agg (abound_Key (t2138.1))] [] 0 (fun r o => r = iV .i64 t2168 ∧ o = []), (decide (t2168 > (0 : Int))) = false, 0 ≤ (0 : Int), 0 < (((t2130.map erank_Cell).length : Nat) : Int), (t2130.map erank_Cell)[(Int.toNat (0))]? = some (erank_Cell b2171), (!((((t2142.1).f0) == b2171.f0.f0) && ((((t2142.1).f1) == b2171.f0.f1) && ((((t2142.1).f2) == b2171.f0.f2) && true)))) = true] (by kernel_rfl) ⟨by exact c2163, by exact c2164, by exact c2165, by exact c2166, by rw [len_map], by exact c2167, by exact Try.call25, by exact f_rank_Compare.ok (t2134.1) (t2138.1) t2168 e2169, by exact c2170, by exact p2172, by exact el_lt erank_Cell p2172 q2173, by exact el_map erank_Cell q2173, by exact c2174, trivial⟩ ?_
                      obtain rfl := Option.some.inj H
                      exact Exists.intro _ (And.intro (fun _ _ h => h.conv (inv := [(3, 11), (4, 12), (5, 13)]) (vk := []) (e0 := []) (t := ⟨[(6, .ptr 11 0 0), (10, .ptr 12 0 0), (11, .ptr 13 0 0), (126, bV true)], [(11, some (.box 35 (aHist a0))), (12, some (.box 72 (arank_Place a4))), (13, some (.box 72 (arank_Place a5)))], 0⟩) (by kernel_rfl)) (And.intro rfl rfl))
                    · replace H := (ifF c2174).symm.trans H
                      obtain ⟨b2175, p2176, q2177, H⟩ := at_of H
                      refine reg hP hn hm [(2, .b false), (6, .b false), (10, .b false), (14, .b false), (16, .any (iV .i64 (t2130.length : Int))), (19, .b false), (22, .call [] [] [] [] 0 (iV .i64 t2168) []), (25, .b false), (30, .c (erank_Cell b2171)), (31, .more (xAgg none)), (33, .b false), (37, .any (iV .i64 (t2130.length : Int))), (41, .c (erank_Cell b2175)), (42, .more (xAgg none))] [6, 10, 11, 126] [3, 4, 5] ⟨[(6, .ptr 3 0 0), (10, .ptr 4 0 0), (11, .ptr 5 0 0), (126, bV (!((((t2146.1).f0) == b2175.f0.f0) && ((((t2146.1).f1) == b2175.f0.f1) && ((((t2146.1).f2) == b2175.f0.f2) && true)))))], [(3, some (.box 35 (aHist a0))), (4, some (.box 72 (arank_Place a4))), (5, some (.box 72 (arank_Place a5)))], 0⟩ [(t2134.2 != (0 : Int)) = false, (t2138.2 != (0 : Int)) = false, (t2142.2 != (0 : Int)) = false, (t2146.2 != (0 : Int)) = false, ((t2130.map erank_Cell).length : Int) = (t2130.length : Int), ((t2130.length : Int) == (0 : Int)) = false, Enters Try.prog 25, Pv.Fn Try.prog 25 [.agg (abound_Key (t2134.1)), .agg (abound_Key (t2138.1))] [] 0 (fun r o => r = iV .i64 t2168 ∧ o = []), (decide (t2168 > (0 : Int))) = false, 0 ≤ (0 : Int), 0 < (((t2130.map erank_Cell).length : Nat) : Int), (t2130.map erank_Cell)[(Int.toNat (0))]? = some (erank_Cell b2171), (!((((t2142.1).f0) == b2171.f0.f0) && ((((t2142.1).f1) == b2171.f0.f1) && ((((t2142.1).f2) == b2171.f0.f2) && true)))) = false, ((t2130.map erank_Cell).length : Int) = (t2130.length : Int), 0 ≤ (IntKind.i64.wrap ((t2130.length : Int) - (1 : Int))), IntKind.i64.wrap ((t2130.length : Int) - (1 : Int)) < (((t2130.map erank_Cell).length : Nat) : Int), (t2130.map erank_Cell)[(Int.toNat (IntKind.i64.wrap ((t2130.length : Int) - (1 : Int))))]? = some (erank_Cell b2175)] (by kernel_rfl) ⟨by exact c2163, by exact c2164, by exact c2165, by exact c2166, by rw [len_map], by exact c2167, by exact Try.call25, by exact f_rank_Compare.ok (t2134.1) (t2138.1) t2168 e2169, by exact c2170, by exact p2172, by exact el_lt erank_Cell p2172 q2173, by exact el_map erank_Cell q2173, by exact c2174, by rw [len_map], by exact p2176, by exact el_lt erank_Cell p2176 q2177, by exact el_map erank_Cell q2177, trivial⟩ ?_
                      obtain rfl := Option.some.inj H
                      exact Exists.intro _ (And.intro (fun _ _ h => h.conv (inv := [(3, 11), (4, 12), (5, 13)]) (vk := []) (e0 := []) (t := ⟨[(6, .ptr 11 0 0), (10, .ptr 12 0 0), (11, .ptr 13 0 0), (126, bV (!((((t2146.1).f0) == b2175.f0.f0) && ((((t2146.1).f1) == b2175.f0.f1) && ((((t2146.1).f2) == b2175.f0.f2) && true)))))], [(11, some (.box 35 (aHist a0))), (12, some (.box 72 (arank_Place a4))), (13, some (.box 72 (arank_Place a5)))], 0⟩) (by kernel_rfl)) (And.intro rfl rfl))
      · obtain ⟨x2178, rfl⟩ : ∃ z, z = o2218 := ⟨_, rfl⟩
        rintro e s ⟨rfl, rfl⟩
        refine AWp.cond x2178 rfl (fun c2179 => ?_) (fun c2179 => ?_)
        · replace H := (ifT c2179).symm.trans H
          refine AWp.seq ?_
          refine reg hP hn hm [] [12] [] ⟨[(12, bV false)], [], 0⟩ [] (by kernel_rfl) trivial ?_
          refine AWp.conv (inv := []) (vk := []) (e0 := []) (t := ⟨[(12, bV false)], [], 0⟩) (by kernel_rfl) ?_
          refine AWp.ret ?_
          obtain rfl := Option.some.inj H
          exact Exists.intro _ (And.intro (fun _ _ h => h) (And.intro (.inl rfl) (And.intro rfl (And.intro (by kernel_rfl) (by kernel_rfl)))))
        · replace H := (ifF c2179).symm.trans H
          refine AWp.skip ?_
          refine AWp.seq ?_
          obtain ⟨t2182, e2183, H⟩ := bind_of H
          refine reg hP hn hm [(2, .call [] [] [] [] 0 (.tup [.agg (arank_Part (t2182.1)), iV .i64 t2182.2]) []), (6, .k 14)] [6, 10, 11, 22, 23] [11, 12, 13, 14] ⟨[(6, .ptr 11 0 0), (10, .ptr 12 0 0), (11, .ptr 13 0 0), (22, .ptr 14 0 0), (23, iV .i64 t2182.2)], [(11, some (.box 35 (aHist a0))), (12, some (.box 72 (arank_Place a4))), (13, some (.box 72 (arank_Place a5))), (14, some (.box 74 (arank_Part (t2182.1))))], 0⟩ [Enters Try.prog 34, Pv.Fn Try.prog 34 [.agg (aHist a0), .agg (arank_Place a4)] [] 0 (fun r o => r = .tup [.agg (arank_Part (t2182.1)), iV .i64 t2182.2] ∧ o = [])] (by kernel_rfl) ⟨by exact Try.call34, by exact f_rank_Below.ok a0 a4 t2182 e2183, trivial⟩ ?_
          refine AWp.seq ?_
          obtain ⟨t2186, e2187, H⟩ := bind_of H
          refine reg hP hn hm [(2, .call [] [] [] [] 0 (.tup [.agg (arank_Part (t2186.1)), iV .i64 t2186.2]) []), (6, .k 15)] [6, 10, 11, 22, 23, 24, 25] [11, 12, 13, 14, 15] ⟨[(6, .ptr 11 0 0), (10, .ptr 12 0 0), (11, .ptr 13 0 0), (22, .ptr 14 0 0), (23, iV .i64 t2182.2), (24, .ptr 15 0 0), (25, iV .i64 t2186.2)], [(11, some (.box 35 (aHist a0))), (12, some (.box 72 (arank_Place a4))), (13, some (.box 72 (arank_Place a5))), (14, some (.box 74 (arank_Part (t2182.1)))), (15, some (.box 74 (arank_Part (t2186.1))))], 0⟩ [Enters Try.prog 34, Pv.Fn Try.prog 34 [.agg (aHist a0), .agg (arank_Place a5)] [] 0 (fun r o => r = .tup [.agg (arank_Part (t2186.1)), iV .i64 t2186.2] ∧ o = [])] (by kernel_rfl) ⟨by exact Try.call34, by exact f_rank_Below.ok a0 a5 t2186 e2187, trivial⟩ ?_
          refine AWp.seq ?_
          refine AWp.seq ?_
          obtain ⟨o2220, e2221, H⟩ := bind_of H
          refine AWp.mono (Q := fun e s => (match (generalizing := false) o2220 with | x2190 => e = .normal ∧ s = ⟨[(6, .ptr 16 0 0), (10, .ptr 17 0 0), (11, .ptr 18 0 0), (22, .ptr 19 0 0), (24, .ptr 20 0 0), (144, bV x2190)], [(16, some (.box 35 (aHist a0))), (17, some (.box 72 (arank_Place a4))), (18, some (.box 72 (arank_Place a5))), (19, some (.box 74 (arank_Part (t2182.1)))), (20, some (.box 74 (arank_Part (t2186.1))))], 0⟩)) (AWp.cv ?_) ?_
          · replace H := e2221; clear e2221
            rcases Bool.eq_false_or_eq_true (t2182.2 != (0 : Int)) with c2189 | c2189
            · replace H := (ifT c2189).symm.trans H
              refine reg hP hn hm [(2, .b true)] [6, 10, 11, 22, 24, 144] [11, 12, 13, 14, 15] ⟨[(6, .ptr 11 0 0), (10, .ptr 12 0 0), (11, .ptr 13 0 0), (22, .ptr 14 0 0), (24, .ptr 15 0 0), (144, bV true)], [(11, some (.box 35 (aHist a0))), (12, some (.box 72 (arank_Place a4))), (13, some (.box 72 (arank_Place a5))), (14, some (.box 74 (arank_Part (t2182.1)))), (15, some (.box 74 (arank_Part (t2186.1))))], 0⟩ [(t2182.2 != (0 : Int)) = true] (by kernel_rfl) ⟨by exact c2189, trivial⟩ ?_
              obtain rfl := Option.some.inj H
              exact Exists.intro _ (And.intro (fun _ _ h => h.conv (inv := [(11, 16), (12, 17), (13, 18), (14, 19), (15, 20)]) (vk := []) (e0 := []) (t := ⟨[(6, .ptr 16 0 0), (10, .ptr 17 0 0), (11, .ptr 18 0 0), (22, .ptr 19 0 0), (24, .ptr 20 0 0), (144, bV true)], [(16, some (.box 35 (aHist a0))), (17, some (.box 72 (arank_Place a4))), (18, some (.box 72 (arank_Place a5))), (19, some (.box 74 (arank_Part (t2182.1)))), (20, some (.box 74 (arank_Part (t2186.1))))], 0⟩) (by kernel_rfl)) (And.intro rfl rfl))
            · replace H := (ifF c2189).symm.trans H
              refine reg hP hn hm [(2, .b false)] [6, 10, 11, 22, 24, 144] [11, 12, 13, 14, 15] ⟨[(6, .ptr 11 0 0), (10, .ptr 12 0 0), (11, .ptr 13 0 0), (22, .ptr 14 0 0), (24, .ptr 15 0 0), (144, bV (t2186.2 != (0 : Int)))], [(11, some (.box 35 (aHist a0))), (12, some (.box 72 (arank_Place a4))), (13, some (.box 72 (arank_Place a5))), (14, some (.box 74 (arank_Part (t2182.1)))), (15, some (.box 74 (arank_Part (t2186.1))))], 0⟩ [(t2182.2 != (0 : Int)) = false] (by kernel_rfl) ⟨by exact c2189, trivial⟩ ?_
              obtain rfl := Option.some.inj H
              exact Exists.intro _ (And.intro (fun _ _ h => h.conv (inv := [(11, 16), (12, 17), (13, 18), (14, 19), (15, 20)]) (vk := []) (e0 := []) (t := ⟨[(6, .ptr 16 0 0), (10, .ptr 17 0 0), (11, .ptr 18 0 0), (22, .ptr 19 0 0), (24, .ptr 20 0 0), (144, bV (t2186.2 != (0 : Int)))], [(16, some (.box 35 (aHist a0))), (17, some (.box 72 (arank_Place a4))), (18, some (.box 72 (arank_Place a5))), (19, some (.box 74 (arank_Part (t2182.1)))), (20, some (.box 74 (arank_Part (t2186.1))))], 0⟩) (by kernel_rfl)) (And.intro rfl rfl))
          · obtain ⟨x2190, rfl⟩ : ∃ z, z = o2220 := ⟨_, rfl⟩
            rintro e s ⟨rfl, rfl⟩
            refine AWp.cond x2190 rfl (fun c2191 => ?_) (fun c2191 => ?_)
            · replace H := (ifT c2191).symm.trans H
              refine AWp.seq ?_
              obtain ⟨t2194, e2195, H⟩ := bind_of H
              refine reg hP hn hm [(0, .call [] [] [] [] 0 (bV t2194) [])] [12] [] ⟨[(12, bV t2194)], [], 0⟩ [Enters Try.prog 20, Pv.Fn Try.prog 20 [] [] 0 (fun r o => r = bV t2194 ∧ o = [])] (by kernel_rfl) ⟨by exact Try.call20, by exact f_pluviallaw08_awake.ok  t2194 e2195, trivial⟩ ?_
              refine AWp.conv (inv := []) (vk := []) (e0 := []) (t := ⟨[(12, bV t2194)], [], 0⟩) (by kernel_rfl) ?_
              refine AWp.ret ?_
              obtain rfl := Option.some.inj H
              exact Exists.intro _ (And.intro (fun _ _ h => h) (And.intro (.inl rfl) (And.intro rfl (And.intro (by kernel_rfl) (by kernel_rfl)))))
            · replace H := (ifF c2191).symm.trans H
              refine AWp.skip ?_
              refine AWp.seq ?_
              obtain ⟨o2222, e2223, H⟩ := bind_of H
              refine AWp.mono (Q := fun e s => (match (generalizing := false) o2222 with | x2200 => e = .normal ∧ s = ⟨[(6, .ptr 21 0 0), (22, .ptr 22 0 0), (24, .ptr 23 0 0), (26, bV x2200)], [(21, some (.box 35 (aHist a0))), (22, some (.box 74 (arank_Part (t2182.1)))), (23, some (.box 74 (arank_Part (t2186.1))))], 0⟩)) (AWp.cv ?_) ?_
              · replace H := e2223; clear e2223
                rcases Bool.eq_false_or_eq_true (decide (a5.f0 > a4.f0)) with c2198 | c2198
                · replace H := (ifT c2198).symm.trans H
                  refine reg hP hn hm [(5, .b true)] [6, 22, 24, 26] [16, 19, 20] ⟨[(6, .ptr 16 0 0), (22, .ptr 19 0 0), (24, .ptr 20 0 0), (26, bV true)], [(16, some (.box 35 (aHist a0))), (19, some (.box 74 (arank_Part (t2182.1)))), (20, some (.box 74 (arank_Part (t2186.1))))], 0⟩ [(decide (a5.f0 > a4.f0)) = true] (by kernel_rfl) ⟨by exact c2198, trivial⟩ ?_
                  obtain rfl := Option.some.inj H
                  exact Exists.intro _ (And.intro (fun _ _ h => h.conv (inv := [(16, 21), (19, 22), (20, 23)]) (vk := []) (e0 := []) (t := ⟨[(6, .ptr 21 0 0), (22, .ptr 22 0 0), (24, .ptr 23 0 0), (26, bV true)], [(21, some (.box 35 (aHist a0))), (22, some (.box 74 (arank_Part (t2182.1)))), (23, some (.box 74 (arank_Part (t2186.1))))], 0⟩) (by kernel_rfl)) (And.intro rfl rfl))
                · replace H := (ifF c2198).symm.trans H
                  rcases Bool.eq_false_or_eq_true (a5.f0 == a4.f0) with c2199 | c2199
                  · replace H := (ifT c2199).symm.trans H
                    refine reg hP hn hm [(5, .b false), (11, .b true)] [6, 22, 24, 26] [16, 19, 20] ⟨[(6, .ptr 16 0 0), (22, .ptr 19 0 0), (24, .ptr 20 0 0), (26, bV (decide ((IntKind.i64.wrap (a5.f0 * a5.f1)) ≥ (IntKind.i64.wrap (a4.f0 * a4.f1)))))], [(16, some (.box 35 (aHist a0))), (19, some (.box 74 (arank_Part (t2182.1)))), (20, some (.box 74 (arank_Part (t2186.1))))], 0⟩ [(decide (a5.f0 > a4.f0)) = false, (a5.f0 == a4.f0) = true] (by kernel_rfl) ⟨by exact c2198, by exact c2199, trivial⟩ ?_
                    obtain rfl := Option.some.inj H
                    exact Exists.intro _ (And.intro (fun _ _ h => h.conv (inv := [(16, 21), (19, 22), (20, 23)]) (vk := []) (e0 := []) (t := ⟨[(6, .ptr 21 0 0), (22, .ptr 22 0 0), (24, .ptr 23 0 0), (26, bV (decide ((IntKind.i64.wrap (a5.f0 * a5.f1)) ≥ (IntKind.i64.wrap (a4.f0 * a4.f1)))))], [(21, some (.box 35 (aHist a0))), (22, some (.box 74 (arank_Part (t2182.1)))), (23, some (.box 74 (arank_Part (t2186.1))))], 0⟩) (by kernel_rfl)) (And.intro rfl rfl))
                  · replace H := (ifF c2199).symm.trans H
                    refine reg hP hn hm [(5, .b false), (11, .b false)] [6, 22, 24, 26] [16, 19, 20] ⟨[(6, .ptr 16 0 0), (22, .ptr 19 0 0), (24, .ptr 20 0 0), (26, bV false)], [(16, some (.box 35 (aHist a0))), (19, some (.box 74 (arank_Part (t2182.1)))), (20, some (.box 74 (arank_Part (t2186.1))))], 0⟩ [(decide (a5.f0 > a4.f0)) = false, (a5.f0 == a4.f0) = false] (by kernel_rfl) ⟨by exact c2198, by exact c2199, trivial⟩ ?_
                    obtain rfl := Option.some.inj H
                    exact Exists.intro _ (And.intro (fun _ _ h => h.conv (inv := [(16, 21), (19, 22), (20, 23)]) (vk := []) (e0 := []) (t := ⟨[(6, .ptr 21 0 0), (22, .ptr 22 0 0), (24, .ptr 23 0 0), (26, bV false)], [(21, some (.box 35 (aHist a0))), (22, some (.box 74 (arank_Part (t2182.1)))), (23, some (.box 74 (arank_Part (t2186.1))))], 0⟩) (by kernel_rfl)) (And.intro rfl rfl))
              · obtain ⟨x2200, rfl⟩ : ∃ z, z = o2222 := ⟨_, rfl⟩
                rintro e s ⟨rfl, rfl⟩
                refine AWp.seq ?_
                obtain ⟨o2224, e2225, H⟩ := bind_of H
                refine AWp.mono (Q := fun e s => (match (generalizing := false) o2224 with | x2215 => e = .normal ∧ s = ⟨[(12, bV x2215)], [], 0⟩)) (AWp.cv ?_) ?_
                · replace H := e2225; clear e2225
                  obtain ⟨t2208, e2209, H⟩ := bind_of H
                  rcases Bool.eq_false_or_eq_true t2208 with c2210 | c2210
                  · replace H := (ifT c2210).symm.trans H
                    rcases Bool.eq_false_or_eq_true (!x2200) with c2211 | c2211
                    · replace H := (ifT c2211).symm.trans H
                      rcases Bool.eq_false_or_eq_true (decide ((IntKind.u64.wrap (((t2182.1).f0) + ((t2182.1).f1))) ≤ ((t2182.1).f2))) with c2212 | c2212
                      · replace H := (ifT c2212).symm.trans H
                        refine reg hP hn hm [(0, .call [] [] [] [] 0 (bV t2208) []), (1, .b true), (4, .b true), (22, .b true)] [12] [] ⟨[(12, bV (((t2182.1).f2) == a0.f4))], [], 0⟩ [Enters Try.prog 20, Pv.Fn Try.prog 20 [] [] 0 (fun r o => r = bV t2208 ∧ o = []), t2208 = true, (!x2200) = true, (decide ((IntKind.u64.wrap (((t2182.1).f0) + ((t2182.1).f1))) ≤ ((t2182.1).f2))) = true] (by kernel_rfl) ⟨by exact Try.call20, by exact f_pluviallaw08_awake.ok  t2208 e2209, by exact c2210, by exact c2211, by exact c2212, trivial⟩ ?_
                        obtain rfl := Option.some.inj H
                        exact Exists.intro _ (And.intro (fun _ _ h => h.conv (inv := []) (vk := []) (e0 := []) (t := ⟨[(12, bV (((t2182.1).f2) == a0.f4))], [], 0⟩) (by kernel_rfl)) (And.intro rfl rfl))
                      · replace H := (ifF c2212).symm.trans H
                        refine reg hP hn hm [(0, .call [] [] [] [] 0 (bV t2208) []), (1, .b true), (4, .b true), (22, .b false)] [12] [] ⟨[(12, bV false)], [], 0⟩ [Enters Try.prog 20, Pv.Fn Try.prog 20 [] [] 0 (fun r o => r = bV t2208 ∧ o = []), t2208 = true, (!x2200) = true, (decide ((IntKind.u64.wrap (((t2182.1).f0) + ((t2182.1).f1))) ≤ ((t2182.1).f2))) = false] (by kernel_rfl) ⟨by exact Try.call20, by exact f_pluviallaw08_awake.ok  t2208 e2209, by exact c2210, by exact c2211, by exact c2212, trivial⟩ ?_
                        obtain rfl := Option.some.inj H
                        exact Exists.intro _ (And.intro (fun _ _ h => h.conv (inv := []) (vk := []) (e0 := []) (t := ⟨[(12, bV false)], [], 0⟩) (by kernel_rfl)) (And.intro rfl rfl))
                    · replace H := (ifF c2211).symm.trans H
                      rcases Bool.eq_false_or_eq_true (decide (((t2186.1).f0) ≥ ((t2182.1).f0))) with c2213 | c2213
                      · replace H := (ifT c2213).symm.trans H
                        rcases Bool.eq_false_or_eq_true (decide ((IntKind.u64.wrap (((t2182.1).f0) + ((t2182.1).f1))) ≤ ((t2182.1).f2))) with c2214 | c2214
                        · replace H := (ifT c2214).symm.trans H
                          refine reg hP hn hm [(0, .call [] [] [] [] 0 (bV t2208) []), (1, .b true), (4, .b false), (12, .b true), (22, .b true)] [12] [] ⟨[(12, bV (((t2182.1).f2) == a0.f4))], [], 0⟩ [Enters Try.prog 20, Pv.Fn Try.prog 20 [] [] 0 (fun r o => r = bV t2208 ∧ o = []), t2208 = true, (!x2200) = false, (decide (((t2186.1).f0) ≥ ((t2182.1).f0))) = true, (decide ((IntKind.u64.wrap (((t2182.1).f0) + ((t2182.1).f1))) ≤ ((t2182.1).f2))) = true] (by kernel_rfl) ⟨by exact Try.call20, by exact f_pluviallaw08_awake.ok  t2208 e2209, by exact c2210, by exact c2211, by exact c2213, by exact c2214, trivial⟩ ?_
                          obtain rfl := Option.some.inj H
                          exact Exists.intro _ (And.intro (fun _ _ h => h.conv (inv := []) (vk := []) (e0 := []) (t := ⟨[(12, bV (((t2182.1).f2) == a0.f4))], [], 0⟩) (by kernel_rfl)) (And.intro rfl rfl))
                        · replace H := (ifF c2214).symm.trans H
                          refine reg hP hn hm [(0, .call [] [] [] [] 0 (bV t2208) []), (1, .b true), (4, .b false), (12, .b true), (22, .b false)] [12] [] ⟨[(12, bV false)], [], 0⟩ [Enters Try.prog 20, Pv.Fn Try.prog 20 [] [] 0 (fun r o => r = bV t2208 ∧ o = []), t2208 = true, (!x2200) = false, (decide (((t2186.1).f0) ≥ ((t2182.1).f0))) = true, (decide ((IntKind.u64.wrap (((t2182.1).f0) + ((t2182.1).f1))) ≤ ((t2182.1).f2))) = false] (by kernel_rfl) ⟨by exact Try.call20, by exact f_pluviallaw08_awake.ok  t2208 e2209, by exact c2210, by exact c2211, by exact c2213, by exact c2214, trivial⟩ ?_
                          obtain rfl := Option.some.inj H
                          exact Exists.intro _ (And.intro (fun _ _ h => h.conv (inv := []) (vk := []) (e0 := []) (t := ⟨[(12, bV false)], [], 0⟩) (by kernel_rfl)) (And.intro rfl rfl))
                      · replace H := (ifF c2213).symm.trans H
                        refine reg hP hn hm [(0, .call [] [] [] [] 0 (bV t2208) []), (1, .b true), (4, .b false), (12, .b false)] [12] [] ⟨[(12, bV false)], [], 0⟩ [Enters Try.prog 20, Pv.Fn Try.prog 20 [] [] 0 (fun r o => r = bV t2208 ∧ o = []), t2208 = true, (!x2200) = false, (decide (((t2186.1).f0) ≥ ((t2182.1).f0))) = false] (by kernel_rfl) ⟨by exact Try.call20, by exact f_pluviallaw08_awake.ok  t2208 e2209, by exact c2210, by exact c2211, by exact c2213, trivial⟩ ?_
                        obtain rfl := Option.some.inj H
                        exact Exists.intro _ (And.intro (fun _ _ h => h.conv (inv := []) (vk := []) (e0 := []) (t := ⟨[(12, bV false)], [], 0⟩) (by kernel_rfl)) (And.intro rfl rfl))
                  · replace H := (ifF c2210).symm.trans H
                    refine reg hP hn hm [(0, .call [] [] [] [] 0 (bV t2208) []), (1, .b false)] [12] [] ⟨[(12, bV false)], [], 0⟩ [Enters Try.prog 20, Pv.Fn Try.prog 20 [] [] 0 (fun r o => r = bV t2208 ∧ o = []), t2208 = false] (by kernel_rfl) ⟨by exact Try.call20, by exact f_pluviallaw08_awake.ok  t2208 e2209, by exact c2210, trivial⟩ ?_
                    obtain rfl := Option.some.inj H
                    exact Exists.intro _ (And.intro (fun _ _ h => h.conv (inv := []) (vk := []) (e0 := []) (t := ⟨[(12, bV false)], [], 0⟩) (by kernel_rfl)) (And.intro rfl rfl))
                · obtain ⟨x2215, rfl⟩ : ∃ z, z = o2224 := ⟨_, rfl⟩
                  rintro e s ⟨rfl, rfl⟩
                  refine AWp.conv (inv := []) (vk := []) (e0 := []) (t := ⟨[(12, bV x2215)], [], 0⟩) (by kernel_rfl) ?_
                  refine AWp.ret ?_
                  obtain rfl := Option.some.inj H
                  exact Exists.intro _ (And.intro (fun _ _ h => h) (And.intro (.inl rfl) (And.intro rfl (And.intro (by kernel_rfl) (by kernel_rfl)))))
end Go.Proofs.Yteogljahemehkaa.PvGC
