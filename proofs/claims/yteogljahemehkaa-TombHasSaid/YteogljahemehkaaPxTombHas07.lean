import Derived.Test.YteogljahemehkaaProg
import Derived.Test.YteogljahemehkaaPxTombHas06
set_option linter.unusedVariables false
set_option linter.unnecessarySimpa false
set_option linter.unusedSimpArgs false
set_option maxRecDepth 10000
namespace Go.Proofs.Yteogljahemehkaa.PvGC1
open Go Go.Pv
def f_slices_partitionCmpFunc_tomb_Range_tomb_Of_2.l0 (a0 : List Ttomb_Range) (a1 : Int) (a2 : Int) (a3 : Int) (b1273 : Ttomb_Range) (b1276 : Ttomb_Range) (x1302 : Int) : Option (Int) := ((if (decide (x1302 ≤ (IntKind.i64.wrap (a2 - (1 : Int))))) = true then ((at? ((a0.set (Int.toNat (a1)) b1273).set (Int.toNat (a3)) b1276) x1302) >>= fun b1313 => (at? ((a0.set (Int.toNat (a1)) b1273).set (Int.toNat (a3)) b1276) a1) >>= fun b1316 => (f_tomb_Of_2.f b1313 b1316) >>= fun t1319 => some (decide (t1319 < (0 : Int)))) else (some false)) : Option (Bool)) >>= fun x1321 => if x1321 = true then (f_slices_partitionCmpFunc_tomb_Range_tomb_Of_2.l0 a0 a1 a2 a3 b1273 b1276 (IntKind.i64.wrap (x1302 + (1 : Int)))) else (some x1302)
partial_fixpoint
def f_slices_partitionCmpFunc_tomb_Range_tomb_Of_2.l1 (a0 : List Ttomb_Range) (a1 : Int) (a3 : Int) (b1273 : Ttomb_Range) (b1276 : Ttomb_Range) (x1323 : Int) (x1344 : Int) : Option (Int) := ((if (decide (x1323 ≤ x1344)) = true then ((at? ((a0.set (Int.toNat (a1)) b1273).set (Int.toNat (a3)) b1276) x1344) >>= fun b1355 => (at? ((a0.set (Int.toNat (a1)) b1273).set (Int.toNat (a3)) b1276) a1) >>= fun b1358 => (f_tomb_Of_2.f b1355 b1358) >>= fun t1361 => some (!(decide (t1361 < (0 : Int))))) else (some false)) : Option (Bool)) >>= fun x1363 => if x1363 = true then (f_slices_partitionCmpFunc_tomb_Range_tomb_Of_2.l1 a0 a1 a3 b1273 b1276 x1323 (IntKind.i64.wrap (x1344 - (1 : Int)))) else (some x1344)
partial_fixpoint
def f_slices_partitionCmpFunc_tomb_Range_tomb_Of_2.l3 (a1 : Int) (x1506 : List Ttomb_Range) (x1508 : Int) (x1529 : Int) : Option (Int) := ((if (decide (x1529 ≤ x1508)) = true then ((at? x1506 x1529) >>= fun b1540 => (at? x1506 a1) >>= fun b1543 => (f_tomb_Of_2.f b1540 b1543) >>= fun t1546 => some (decide (t1546 < (0 : Int)))) else (some false)) : Option (Bool)) >>= fun x1548 => if x1548 = true then (f_slices_partitionCmpFunc_tomb_Range_tomb_Of_2.l3 a1 x1506 x1508 (IntKind.i64.wrap (x1529 + (1 : Int)))) else (some x1529)
partial_fixpoint
def f_slices_partitionCmpFunc_tomb_Range_tomb_Of_2.l4 (a1 : Int) (x1506 : List Ttomb_Range) (x1550 : Int) (x1571 : Int) : Option (Int) := ((if (decide (x1550 ≤ x1571)) = true then ((at? x1506 x1571) >>= fun b1582 => (at? x1506 a1) >>= fun b1585 => (f_tomb_Of_2.f b1582 b1585) >>= fun t1588 => some (!(decide (t1588 < (0 : Int))))) else (some false)) : Option (Bool)) >>= fun x1590 => if x1590 = true then (f_slices_partitionCmpFunc_tomb_Range_tomb_Of_2.l4 a1 x1506 x1550 (IntKind.i64.wrap (x1571 - (1 : Int)))) else (some x1571)
partial_fixpoint
def f_slices_partitionCmpFunc_tomb_Range_tomb_Of_2.l2 (a1 : Int) (x1506 : List Ttomb_Range) (x1507 : Int) (x1508 : Int) : Option ((List Ttomb_Range) × Int) := (f_slices_partitionCmpFunc_tomb_Range_tomb_Of_2.l3 a1 x1506 x1508 x1507) >>= fun x1550 => (f_slices_partitionCmpFunc_tomb_Range_tomb_Of_2.l4 a1 x1506 x1550 x1508) >>= fun x1592 => if (decide (x1550 > x1592)) = true then (some (x1506, x1592)) else ((at? x1506 x1592) >>= fun b1603 => (at? x1506 x1550) >>= fun b1606 => (at? (x1506.set (Int.toNat (x1550)) b1603) x1592) >>= fun b1609 => f_slices_partitionCmpFunc_tomb_Range_tomb_Of_2.l2 a1 ((x1506.set (Int.toNat (x1550)) b1603).set (Int.toNat (x1592)) b1606) (IntKind.i64.wrap (x1550 + (1 : Int))) (IntKind.i64.wrap (x1592 - (1 : Int))))
partial_fixpoint
def f_slices_partitionCmpFunc_tomb_Range_tomb_Of_2.f (a0 : List Ttomb_Range) (a1 : Int) (a2 : Int) (a3 : Int) : Option (Int × Bool × (List Ttomb_Range)) := (at? a0 a3) >>= fun b1273 => (at? a0 a1) >>= fun b1276 => (at? (a0.set (Int.toNat (a1)) b1273) a3) >>= fun b1279 => (f_slices_partitionCmpFunc_tomb_Range_tomb_Of_2.l0 a0 a1 a2 a3 b1273 b1276 (IntKind.i64.wrap (a1 + (1 : Int)))) >>= fun x1323 => (f_slices_partitionCmpFunc_tomb_Range_tomb_Of_2.l1 a0 a1 a3 b1273 b1276 x1323 (IntKind.i64.wrap (a2 - (1 : Int)))) >>= fun x1365 => if (decide (x1323 > x1365)) = true then ((at? ((a0.set (Int.toNat (a1)) b1273).set (Int.toNat (a3)) b1276) a1) >>= fun b1376 => (at? ((a0.set (Int.toNat (a1)) b1273).set (Int.toNat (a3)) b1276) x1365) >>= fun b1379 => (at? (((a0.set (Int.toNat (a1)) b1273).set (Int.toNat (a3)) b1276).set (Int.toNat (x1365)) b1376) a1) >>= fun b1382 => some (x1365, true, (((a0.set (Int.toNat (a1)) b1273).set (Int.toNat (a3)) b1276).set (Int.toNat (x1365)) b1376).set (Int.toNat (a1)) b1379)) else ((at? ((a0.set (Int.toNat (a1)) b1273).set (Int.toNat (a3)) b1276) x1365) >>= fun b1394 => (at? ((a0.set (Int.toNat (a1)) b1273).set (Int.toNat (a3)) b1276) x1323) >>= fun b1397 => (at? (((a0.set (Int.toNat (a1)) b1273).set (Int.toNat (a3)) b1276).set (Int.toNat (x1323)) b1394) x1365) >>= fun b1400 => (f_slices_partitionCmpFunc_tomb_Range_tomb_Of_2.l2 a1 ((((a0.set (Int.toNat (a1)) b1273).set (Int.toNat (a3)) b1276).set (Int.toNat (x1323)) b1394).set (Int.toNat (x1365)) b1397) (IntKind.i64.wrap (x1323 + (1 : Int))) (IntKind.i64.wrap (x1365 - (1 : Int)))) >>= fun oo => match oo with | (x1612, x1613) => ((at? x1612 a1) >>= fun b1623 => (at? x1612 x1613) >>= fun b1626 => (at? (x1612.set (Int.toNat (x1613)) b1623) a1) >>= fun b1629 => some (x1613, false, (x1612.set (Int.toNat (x1613)) b1623).set (Int.toNat (a1)) b1626)))
theorem f_slices_partitionCmpFunc_tomb_Range_tomb_Of_2.ok (a0 : List Ttomb_Range) (a1 : Int) (a2 : Int) (a3 : Int) (r : Int × Bool × (List Ttomb_Range)) (H : f_slices_partitionCmpFunc_tomb_Range_tomb_Of_2.f a0 a1 a2 a3 = some r) : Pv.Fn Try.prog 127 [.own 0, iV .i64 a1, iV .i64 a2, iV .i64 a3, .im (.sc (.func (.func 59) #[] #[]))] [(0, some (.row 2 64 (a0.map etomb_Range)))] 1 (fun x o => x = .tup [iV .i64 r.1, bV r.2.1] ∧ o = [(0, some (.row 2 64 (r.2.2.map etomb_Range)))]) := by
  unfold f_slices_partitionCmpFunc_tomb_Range_tomb_Of_2.f at H
  refine Fn.bodyK [0] Try.func127 rfl rfl (fun Γ hP hn => ?_)
  have hm : Try.prog.follows .mixedOrders = true := by kernel_rfl
  replace hn : Γ.n = 178 := hn
  refine AWp.seq ?_
  refine reg hP hn hm [] [0, 1, 2, 3, 4] [0] ⟨[(0, .own 0), (1, iV .i64 a1), (2, iV .i64 a2), (3, iV .i64 a3), (4, .im (.sc (.func (.func 59) #[] #[])))], [(0, some (.row 2 64 (a0.map etomb_Range)))], 1⟩ [] (by kernel_rfl) trivial ?_
  refine AWp.seq ?_
  obtain ⟨b1273, p1274, q1275, H⟩ := at_of H
  obtain ⟨b1276, p1277, q1278, H⟩ := at_of H
  obtain ⟨b1279, p1280, q1281, H⟩ := at_of H
  refine reg hP hn hm [(7, .c (etomb_Range b1273)), (11, .c (etomb_Range b1276)), (13, .put (etomb_Range b1276) ((a0.set (Int.toNat (a1)) b1273).map etomb_Range)), (15, .put (etomb_Range b1279) (((a0.set (Int.toNat (a1)) b1273).set (Int.toNat (a3)) b1276).map etomb_Range))] [0, 1, 2, 4] [0] ⟨[(0, .own 0), (1, iV .i64 a1), (2, iV .i64 a2), (4, .im (.sc (.func (.func 59) #[] #[])))], [(0, some (.row 2 64 (((a0.set (Int.toNat (a1)) b1273).set (Int.toNat (a3)) b1276).map etomb_Range)))], 1⟩ [0 ≤ a3, a3 < (((a0.map etomb_Range).length : Nat) : Int), (a0.map etomb_Range)[(Int.toNat (a3))]? = some (etomb_Range b1273), 0 ≤ a1, a1 < (((a0.map etomb_Range).length : Nat) : Int), (a0.map etomb_Range)[(Int.toNat (a1))]? = some (etomb_Range b1276), 0 ≤ a1, a1 < (((a0.map etomb_Range).length : Nat) : Int), (a0.map etomb_Range)[(Int.toNat (a1))]? = some (etomb_Range b1276), (a0.set (Int.toNat (a1)) b1273).map etomb_Range = (a0.map etomb_Range).set (Int.toNat (a1)) (splice (etomb_Range b1276) 0 [iI .i64 b1273.f0, iI .i64 b1273.f1]), 0 ≤ a3, a3 < ((((a0.set (Int.toNat (a1)) b1273).map etomb_Range).length : Nat) : Int), ((a0.set (Int.toNat (a1)) b1273).map etomb_Range)[(Int.toNat (a3))]? = some (etomb_Range b1279), ((a0.set (Int.toNat (a1)) b1273).set (Int.toNat (a3)) b1276).map etomb_Range = ((a0.set (Int.toNat (a1)) b1273).map etomb_Range).set (Int.toNat (a3)) (splice (etomb_Range b1279) 0 [iI .i64 b1276.f0, iI .i64 b1276.f1])] (by kernel_rfl) ⟨by exact p1274, by exact el_lt etomb_Range p1274 q1275, by exact el_map etomb_Range q1275, by exact p1277, by exact el_lt etomb_Range p1277 q1278, by exact el_map etomb_Range q1278, by exact p1277, by exact el_lt etomb_Range p1277 q1278, by exact el_map etomb_Range q1278, by exact set1 _ _ _ _, by exact p1280, by exact el_lt etomb_Range p1280 q1281, by exact el_map etomb_Range q1281, by exact set1 _ _ _ _, trivial⟩ ?_
  refine AWp.seq ?_
  refine reg hP hn hm [] [0, 1, 4, 12, 13] [0] ⟨[(0, .own 0), (1, iV .i64 a1), (4, .im (.sc (.func (.func 59) #[] #[]))), (12, iV .i64 (IntKind.i64.wrap (a1 + (1 : Int)))), (13, iV .i64 (IntKind.i64.wrap (a2 - (1 : Int))))], [(0, some (.row 2 64 (((a0.set (Int.toNat (a1)) b1273).set (Int.toNat (a3)) b1276).map etomb_Range)))], 1⟩ [] (by kernel_rfl) trivial ?_
  refine AWp.seq ?_
  refine AWp.block ?_
  obtain ⟨o1632, e1633, H⟩ := bind_of H
  refine AWp.loop (LWp.conv (inv := [(0, 0)]) (vk := []) (e0 := []) (t := ⟨[(0, .own 0), (1, iV .i64 a1), (4, .im (.sc (.func (.func 59) #[] #[]))), (12, iV .i64 (IntKind.i64.wrap (a1 + (1 : Int)))), (13, iV .i64 (IntKind.i64.wrap (a2 - (1 : Int))))], [(0, some (.row 2 64 (((a0.set (Int.toNat (a1)) b1273).set (Int.toNat (a3)) b1276).map etomb_Range)))], 1⟩) (by kernel_rfl) ?_)
  refine LWp.mono (Q := fun e s => (match (generalizing := false) o1632 with | x1323 => e = .exit 0 ∧ s = ⟨[(0, .own 0), (1, iV .i64 a1), (4, .im (.sc (.func (.func 59) #[] #[]))), (12, iV .i64 x1323), (13, iV .i64 (IntKind.i64.wrap (a2 - (1 : Int))))], [(0, some (.row 2 64 (((a0.set (Int.toNat (a1)) b1273).set (Int.toNat (a3)) b1276).map etomb_Range)))], 1⟩)) (LWp.cv (withBody (fun body hbody => ?_))) ?_
  · refine f_slices_partitionCmpFunc_tomb_Range_tomb_Of_2.l0.partial_correctness a0 a1 a2 a3 b1273 b1276 (motive := fun x1302 o1632 => LWp Γ body (fun e s => ∃ t, Cv Γ s t ∧ (match (generalizing := false) o1632 with | x1323 => e = .exit 0 ∧ t = ⟨[(0, .own 0), (1, iV .i64 a1), (4, .im (.sc (.func (.func 59) #[] #[]))), (12, iV .i64 x1323), (13, iV .i64 (IntKind.i64.wrap (a2 - (1 : Int))))], [(0, some (.row 2 64 (((a0.set (Int.toNat (a1)) b1273).set (Int.toNat (a3)) b1276).map etomb_Range)))], 1⟩)) ⟨[(0, .own 0), (1, iV .i64 a1), (4, .im (.sc (.func (.func 59) #[] #[]))), (12, iV .i64 x1302), (13, iV .i64 (IntKind.i64.wrap (a2 - (1 : Int))))], [(0, some (.row 2 64 (((a0.set (Int.toNat (a1)) b1273).set (Int.toNat (a3)) b1276).map etomb_Range)))], 1⟩) ?_ _ _ e1633
    clear H e1633 o1632; intro self ih x1302 o1632 H
    subst hbody
    refine LWp.round ?_
    refine AWp.seq ?_
    refine AWp.seq ?_
    obtain ⟨o1634, e1635, H⟩ := bind_of H
    refine AWp.mono (Q := fun e s => (match (generalizing := false) o1634 with | x1321 => e = .normal ∧ s = ⟨[(0, .own 0), (1, iV .i64 a1), (4, .im (.sc (.func (.func 59) #[] #[]))), (12, iV .i64 x1302), (13, iV .i64 (IntKind.i64.wrap (a2 - (1 : Int)))), (47, bV x1321)], [(0, some (.row 2 64 (((a0.set (Int.toNat (a1)) b1273).set (Int.toNat (a3)) b1276).map etomb_Range)))], 1⟩)) (AWp.cv ?_) ?_
    · replace H := e1635; clear e1635
      rcases Bool.eq_false_or_eq_true (decide (x1302 ≤ (IntKind.i64.wrap (a2 - (1 : Int))))) with c1312 | c1312
      · replace H := (ifT c1312).symm.trans H
        obtain ⟨b1313, p1314, q1315, H⟩ := at_of H
        obtain ⟨b1316, p1317, q1318, H⟩ := at_of H
        obtain ⟨t1319, e1320, H⟩ := bind_of H
        refine reg hP hn hm [(3, .b true), (8, .c (etomb_Range b1313)), (12, .c (etomb_Range b1316)), (13, .call [] [] [] [] 0 (iV .i64 t1319) [])] [0, 1, 4, 12, 13, 36, 37, 38, 39, 40, 41, 42, 43, 44, 45, 46, 47] [0] ⟨[(0, .own 0), (1, iV .i64 a1), (4, .im (.sc (.func (.func 59) #[] #[]))), (12, iV .i64 x1302), (13, iV .i64 (IntKind.i64.wrap (a2 - (1 : Int)))), (36, .im (.sc (.func (.func 59) #[] #[]))), (37, .own 0), (38, iV .i64 x1302), (39, .ptr 0 (Int.toNat (x1302)) 0), (40, .agg (atomb_Range b1313)), (41, .own 0), (42, iV .i64 a1), (43, .ptr 0 (Int.toNat (a1)) 0), (44, .agg (atomb_Range b1316)), (45, iV .i64 t1319), (46, bV (decide (t1319 < (0 : Int)))), (47, bV (decide (t1319 < (0 : Int))))], [(0, some (.row 2 64 (((a0.set (Int.toNat (a1)) b1273).set (Int.toNat (a3)) b1276).map etomb_Range)))], 1⟩ [(decide (x1302 ≤ (IntKind.i64.wrap (a2 - (1 : Int))))) = true, 0 ≤ x1302, x1302 < (((((a0.set (Int.toNat (a1)) b1273).set (Int.toNat (a3)) b1276).map etomb_Range).length : Nat) : Int), (((a0.set (Int.toNat (a1)) b1273).set (Int.toNat (a3)) b1276).map etomb_Range)[(Int.toNat (x1302))]? = some (etomb_Range b1313), 0 ≤ a1, a1 < (((((a0.set (Int.toNat (a1)) b1273).set (Int.toNat (a3)) b1276).map etomb_Range).length : Nat) : Int), (((a0.set (Int.toNat (a1)) b1273).set (Int.toNat (a3)) b1276).map etomb_Range)[(Int.toNat (a1))]? = some (etomb_Range b1316), Enters Try.prog 59, Pv.Fn Try.prog 59 [.agg (atomb_Range b1313), .agg (atomb_Range b1316)] [] 0 (fun r o => r = iV .i64 t1319 ∧ o = [])] (by kernel_rfl) ⟨by exact c1312, by exact p1314, by exact el_lt etomb_Range p1314 q1315, by exact el_map etomb_Range q1315, by exact p1317, by exact el_lt etomb_Range p1317 q1318, by exact el_map etomb_Range q1318, by exact Try.call59, by exact f_tomb_Of_2.ok b1313 b1316 t1319 e1320, trivial⟩ ?_
        obtain rfl := Option.some.inj H
        exact Exists.intro _ (And.intro (fun _ _ h => h.conv (inv := [(0, 0)]) (vk := []) (e0 := []) (t := ⟨[(0, .own 0), (1, iV .i64 a1), (4, .im (.sc (.func (.func 59) #[] #[]))), (12, iV .i64 x1302), (13, iV .i64 (IntKind.i64.wrap (a2 - (1 : Int)))), (47, bV (decide (t1319 < (0 : Int))))], [(0, some (.row 2 64 (((a0.set (Int.toNat (a1)) b1273).set (Int.toNat (a3)) b1276).map etomb_Range)))], 1⟩) (by kernel_rfl)) (And.intro rfl rfl))
      · replace H := (ifF c1312).symm.trans H
        refine reg hP hn hm [(3, .b false)] [0, 1, 4, 12, 13, 47] [0] ⟨[(0, .own 0), (1, iV .i64 a1), (4, .im (.sc (.func (.func 59) #[] #[]))), (12, iV .i64 x1302), (13, iV .i64 (IntKind.i64.wrap (a2 - (1 : Int)))), (47, bV false)], [(0, some (.row 2 64 (((a0.set (Int.toNat (a1)) b1273).set (Int.toNat (a3)) b1276).map etomb_Range)))], 1⟩ [(decide (x1302 ≤ (IntKind.i64.wrap (a2 - (1 : Int))))) = false] (by kernel_rfl) ⟨by exact c1312, trivial⟩ ?_
        obtain rfl := Option.some.inj H
        exact Exists.intro _ (And.intro (fun _ _ h => h.conv (inv := [(0, 0)]) (vk := []) (e0 := []) (t := ⟨[(0, .own 0), (1, iV .i64 a1), (4, .im (.sc (.func (.func 59) #[] #[]))), (12, iV .i64 x1302), (13, iV .i64 (IntKind.i64.wrap (a2 - (1 : Int)))), (47, bV false)], [(0, some (.row 2 64 (((a0.set (Int.toNat (a1)) b1273).set (Int.toNat (a3)) b1276).map etomb_Range)))], 1⟩) (by kernel_rfl)) (And.intro rfl rfl))
    · obtain ⟨x1321, rfl⟩ : ∃ z, z = o1634 := ⟨_, rfl⟩
      rintro e s ⟨rfl, rfl⟩
      refine AWp.cond x1321 rfl (fun c1322 => ?_) (fun c1322 => ?_)
      · replace H := (ifT c1322).symm.trans H
        refine AWp.skip ?_
        refine AWp.block ?_
        refine reg hP hn hm [] [0, 1, 4, 12, 13] [0] ⟨[(0, .own 0), (1, iV .i64 a1), (4, .im (.sc (.func (.func 59) #[] #[]))), (12, iV .i64 (IntKind.i64.wrap (x1302 + (1 : Int)))), (13, iV .i64 (IntKind.i64.wrap (a2 - (1 : Int))))], [(0, some (.row 2 64 (((a0.set (Int.toNat (a1)) b1273).set (Int.toNat (a3)) b1276).map etomb_Range)))], 1⟩ [] (by kernel_rfl) trivial ?_
        exact LWp.conv (inv := [(0, 0)]) (vk := []) (e0 := []) (t := ⟨[(0, .own 0), (1, iV .i64 a1), (4, .im (.sc (.func (.func 59) #[] #[]))), (12, iV .i64 (IntKind.i64.wrap (x1302 + (1 : Int)))), (13, iV .i64 (IntKind.i64.wrap (a2 - (1 : Int))))], [(0, some (.row 2 64 (((a0.set (Int.toNat (a1)) b1273).set (Int.toNat (a3)) b1276).map etomb_Range)))], 1⟩) (by kernel_rfl) (ih _ _ H)
      · replace H := (ifF c1322).symm.trans H
        refine AWp.exit ?_
        obtain rfl := Option.some.inj H
        exact Exists.intro _ (And.intro (fun _ _ h => h.conv (inv := [(0, 0)]) (vk := []) (e0 := []) (t := ⟨[(0, .own 0), (1, iV .i64 a1), (4, .im (.sc (.func (.func 59) #[] #[]))), (12, iV .i64 x1302), (13, iV .i64 (IntKind.i64.wrap (a2 - (1 : Int))))], [(0, some (.row 2 64 (((a0.set (Int.toNat (a1)) b1273).set (Int.toNat (a3)) b1276).map etomb_Range)))], 1⟩) (by kernel_rfl)) (And.intro rfl rfl))
  · obtain ⟨x1323, rfl⟩ : ∃ z, z = o1632 := ⟨_, rfl⟩
    rintro e s ⟨rfl, rfl⟩
    refine AWp.seq ?_
    refine AWp.block ?_
    obtain ⟨o1636, e1637, H⟩ := bind_of H
    refine AWp.loop (LWp.conv (inv := [(0, 0)]) (vk := []) (e0 := []) (t := ⟨[(0, .own 0), (1, iV .i64 a1), (4, .im (.sc (.func (.func 59) #[] #[]))), (12, iV .i64 x1323), (13, iV .i64 (IntKind.i64.wrap (a2 - (1 : Int))))], [(0, some (.row 2 64 (((a0.set (Int.toNat (a1)) b1273).set (Int.toNat (a3)) b1276).map etomb_Range)))], 1⟩) (by kernel_rfl) ?_)
    refine LWp.mono (Q := fun e s => (match (generalizing := false) o1636 with | x1365 => e = .exit 2 ∧ s = ⟨[(0, .own 0), (1, iV .i64 a1), (4, .im (.sc (.func (.func 59) #[] #[]))), (12, iV .i64 x1323), (13, iV .i64 x1365)], [(0, some (.row 2 64 (((a0.set (Int.toNat (a1)) b1273).set (Int.toNat (a3)) b1276).map etomb_Range)))], 1⟩)) (LWp.cv (withBody (fun body hbody => ?_))) ?_
    · refine f_slices_partitionCmpFunc_tomb_Range_tomb_Of_2.l1.partial_correctness a0 a1 a3 b1273 b1276 x1323 (motive := fun x1344 o1636 => LWp Γ body (fun e s => ∃ t, Cv Γ s t ∧ (match (generalizing := false) o1636 with | x1365 => e = .exit 2 ∧ t = ⟨[(0, .own 0), (1, iV .i64 a1), (4, .im (.sc (.func (.func 59) #[] #[]))), (12, iV .i64 x1323), (13, iV .i64 x1365)], [(0, some (.row 2 64 (((a0.set (Int.toNat (a1)) b1273).set (Int.toNat (a3)) b1276).map etomb_Range)))], 1⟩)) ⟨[(0, .own 0), (1, iV .i64 a1), (4, .im (.sc (.func (.func 59) #[] #[]))), (12, iV .i64 x1323), (13, iV .i64 x1344)], [(0, some (.row 2 64 (((a0.set (Int.toNat (a1)) b1273).set (Int.toNat (a3)) b1276).map etomb_Range)))], 1⟩) ?_ _ _ e1637
      clear H e1637 o1636; intro self ih x1344 o1636 H
      subst hbody
      refine LWp.round ?_
      refine AWp.seq ?_
      refine AWp.seq ?_
      obtain ⟨o1638, e1639, H⟩ := bind_of H
      refine AWp.mono (Q := fun e s => (match (generalizing := false) o1638 with | x1363 => e = .normal ∧ s = ⟨[(0, .own 0), (1, iV .i64 a1), (4, .im (.sc (.func (.func 59) #[] #[]))), (12, iV .i64 x1323), (13, iV .i64 x1344), (66, bV x1363)], [(0, some (.row 2 64 (((a0.set (Int.toNat (a1)) b1273).set (Int.toNat (a3)) b1276).map etomb_Range)))], 1⟩)) (AWp.cv ?_) ?_
      · replace H := e1639; clear e1639
        rcases Bool.eq_false_or_eq_true (decide (x1323 ≤ x1344)) with c1354 | c1354
        · replace H := (ifT c1354).symm.trans H
          obtain ⟨b1355, p1356, q1357, H⟩ := at_of H
          obtain ⟨b1358, p1359, q1360, H⟩ := at_of H
          obtain ⟨t1361, e1362, H⟩ := bind_of H
          refine reg hP hn hm [(3, .b true), (8, .c (etomb_Range b1355)), (12, .c (etomb_Range b1358)), (13, .call [] [] [] [] 0 (iV .i64 t1361) [])] [0, 1, 4, 12, 13, 54, 55, 56, 57, 58, 59, 60, 61, 62, 63, 64, 65, 66] [0] ⟨[(0, .own 0), (1, iV .i64 a1), (4, .im (.sc (.func (.func 59) #[] #[]))), (12, iV .i64 x1323), (13, iV .i64 x1344), (54, .im (.sc (.func (.func 59) #[] #[]))), (55, .own 0), (56, iV .i64 x1344), (57, .ptr 0 (Int.toNat (x1344)) 0), (58, .agg (atomb_Range b1355)), (59, .own 0), (60, iV .i64 a1), (61, .ptr 0 (Int.toNat (a1)) 0), (62, .agg (atomb_Range b1358)), (63, iV .i64 t1361), (64, bV (decide (t1361 < (0 : Int)))), (65, bV (!(decide (t1361 < (0 : Int))))), (66, bV (!(decide (t1361 < (0 : Int)))))], [(0, some (.row 2 64 (((a0.set (Int.toNat (a1)) b1273).set (Int.toNat (a3)) b1276).map etomb_Range)))], 1⟩ [(decide (x1323 ≤ x1344)) = true, 0 ≤ x1344, x1344 < (((((a0.set (Int.toNat (a1)) b1273).set (Int.toNat (a3)) b1276).map etomb_Range).length : Nat) : Int), (((a0.set (Int.toNat (a1)) b1273).set (Int.toNat (a3)) b1276).map etomb_Range)[(Int.toNat (x1344))]? = some (etomb_Range b1355), 0 ≤ a1, a1 < (((((a0.set (Int.toNat (a1)) b1273).set (Int.toNat (a3)) b1276).map etomb_Range).length : Nat) : Int), (((a0.set (Int.toNat (a1)) b1273).set (Int.toNat (a3)) b1276).map etomb_Range)[(Int.toNat (a1))]? = some (etomb_Range b1358), Enters Try.prog 59, Pv.Fn Try.prog 59 [.agg (atomb_Range b1355), .agg (atomb_Range b1358)] [] 0 (fun r o => r = iV .i64 t1361 ∧ o = [])] (by kernel_rfl) ⟨by exact c1354, by exact p1356, by exact el_lt etomb_Range p1356 q1357, by exact el_map etomb_Range q1357, by exact p1359, by exact el_lt etomb_Range p1359 q1360, by exact el_map etomb_Range q1360, by exact Try.call59, by exact f_tomb_Of_2.ok b1355 b1358 t1361 e1362, trivial⟩ ?_
          obtain rfl := Option.some.inj H
          exact Exists.intro _ (And.intro (fun _ _ h => h.conv (inv := [(0, 0)]) (vk := []) (e0 := []) (t := ⟨[(0, .own 0), (1, iV .i64 a1), (4, .im (.sc (.func (.func 59) #[] #[]))), (12, iV .i64 x1323), (13, iV .i64 x1344), (66, bV (!(decide (t1361 < (0 : Int)))))], [(0, some (.row 2 64 (((a0.set (Int.toNat (a1)) b1273).set (Int.toNat (a3)) b1276).map etomb_Range)))], 1⟩) (by kernel_rfl)) (And.intro rfl rfl))
        · replace H := (ifF c1354).symm.trans H
          refine reg hP hn hm [(3, .b false)] [0, 1, 4, 12, 13, 66] [0] ⟨[(0, .own 0), (1, iV .i64 a1), (4, .im (.sc (.func (.func 59) #[] #[]))), (12, iV .i64 x1323), (13, iV .i64 x1344), (66, bV false)], [(0, some (.row 2 64 (((a0.set (Int.toNat (a1)) b1273).set (Int.toNat (a3)) b1276).map etomb_Range)))], 1⟩ [(decide (x1323 ≤ x1344)) = false] (by kernel_rfl) ⟨by exact c1354, trivial⟩ ?_
          obtain rfl := Option.some.inj H
          exact Exists.intro _ (And.intro (fun _ _ h => h.conv (inv := [(0, 0)]) (vk := []) (e0 := []) (t := ⟨[(0, .own 0), (1, iV .i64 a1), (4, .im (.sc (.func (.func 59) #[] #[]))), (12, iV .i64 x1323), (13, iV .i64 x1344), (66, bV false)], [(0, some (.row 2 64 (((a0.set (Int.toNat (a1)) b1273).set (Int.toNat (a3)) b1276).map etomb_Range)))], 1⟩) (by kernel_rfl)) (And.intro rfl rfl))
      · obtain ⟨x1363, rfl⟩ : ∃ z, z = o1638 := ⟨_, rfl⟩
        rintro e s ⟨rfl, rfl⟩
        refine AWp.cond x1363 rfl (fun c1364 => ?_) (fun c1364 => ?_)
        · replace H := (ifT c1364).symm.trans H
          refine AWp.skip ?_
          refine AWp.block ?_
          refine reg hP hn hm [] [0, 1, 4, 12, 13] [0] ⟨[(0, .own 0), (1, iV .i64 a1), (4, .im (.sc (.func (.func 59) #[] #[]))), (12, iV .i64 x1323), (13, iV .i64 (IntKind.i64.wrap (x1344 - (1 : Int))))], [(0, some (.row 2 64 (((a0.set (Int.toNat (a1)) b1273).set (Int.toNat (a3)) b1276).map etomb_Range)))], 1⟩ [] (by kernel_rfl) trivial ?_
          exact LWp.conv (inv := [(0, 0)]) (vk := []) (e0 := []) (t := ⟨[(0, .own 0), (1, iV .i64 a1), (4, .im (.sc (.func (.func 59) #[] #[]))), (12, iV .i64 x1323), (13, iV .i64 (IntKind.i64.wrap (x1344 - (1 : Int))))], [(0, some (.row 2 64 (((a0.set (Int.toNat (a1)) b1273).set (Int.toNat (a3)) b1276).map etomb_Range)))], 1⟩) (by kernel_rfl) (ih _ _ H)
        · replace H := (ifF c1364).symm.trans H
          refine AWp.exit ?_
          obtain rfl := Option.some.inj H
          exact Exists.intro _ (And.intro (fun _ _ h => h.conv (inv := [(0, 0)]) (vk := []) (e0 := []) (t := ⟨[(0, .own 0), (1, iV .i64 a1), (4, .im (.sc (.func (.func 59) #[] #[]))), (12, iV .i64 x1323), (13, iV .i64 x1344)], [(0, some (.row 2 64 (((a0.set (Int.toNat (a1)) b1273).set (Int.toNat (a3)) b1276).map etomb_Range)))], 1⟩) (by kernel_rfl)) (And.intro rfl rfl))
    · obtain ⟨x1365, rfl⟩ : ∃ z, z = o1636 := ⟨_, rfl⟩
      rintro e s ⟨rfl, rfl⟩
      refine AWp.seq ?_
      refine AWp.seq ?_
      refine reg hP hn hm [] [0, 1, 4, 12, 13, 71] [0] ⟨[(0, .own 0), (1, iV .i64 a1), (4, .im (.sc (.func (.func 59) #[] #[]))), (12, iV .i64 x1323), (13, iV .i64 x1365), (71, bV (decide (x1323 > x1365)))], [(0, some (.row 2 64 (((a0.set (Int.toNat (a1)) b1273).set (Int.toNat (a3)) b1276).map etomb_Range)))], 1⟩ [] (by kernel_rfl) trivial ?_
      refine AWp.cond (decide (x1323 > x1365)) rfl (fun c1366 => ?_) (fun c1366 => ?_)
      · replace H := (ifT c1366).symm.trans H
        refine AWp.seq ?_
        obtain ⟨b1376, p1377, q1378, H⟩ := at_of H
        obtain ⟨b1379, p1380, q1381, H⟩ := at_of H
        obtain ⟨b1382, p1383, q1384, H⟩ := at_of H
        refine reg hP hn hm [(7, .c (etomb_Range b1376)), (11, .c (etomb_Range b1379)), (13, .put (etomb_Range b1379) ((((a0.set (Int.toNat (a1)) b1273).set (Int.toNat (a3)) b1276).set (Int.toNat (x1365)) b1376).map etomb_Range)), (15, .put (etomb_Range b1382) (((((a0.set (Int.toNat (a1)) b1273).set (Int.toNat (a3)) b1276).set (Int.toNat (x1365)) b1376).set (Int.toNat (a1)) b1379).map etomb_Range))] [13] [0] ⟨[(13, iV .i64 x1365)], [(0, some (.row 2 64 (((((a0.set (Int.toNat (a1)) b1273).set (Int.toNat (a3)) b1276).set (Int.toNat (x1365)) b1376).set (Int.toNat (a1)) b1379).map etomb_Range)))], 1⟩ [0 ≤ a1, a1 < (((((a0.set (Int.toNat (a1)) b1273).set (Int.toNat (a3)) b1276).map etomb_Range).length : Nat) : Int), (((a0.set (Int.toNat (a1)) b1273).set (Int.toNat (a3)) b1276).map etomb_Range)[(Int.toNat (a1))]? = some (etomb_Range b1376), 0 ≤ x1365, x1365 < (((((a0.set (Int.toNat (a1)) b1273).set (Int.toNat (a3)) b1276).map etomb_Range).length : Nat) : Int), (((a0.set (Int.toNat (a1)) b1273).set (Int.toNat (a3)) b1276).map etomb_Range)[(Int.toNat (x1365))]? = some (etomb_Range b1379), 0 ≤ x1365, x1365 < (((((a0.set (Int.toNat (a1)) b1273).set (Int.toNat (a3)) b1276).map etomb_Range).length : Nat) : Int), (((a0.set (Int.toNat (a1)) b1273).set (Int.toNat (a3)) b1276).map etomb_Range)[(Int.toNat (x1365))]? = some (etomb_Range b1379), (((a0.set (Int.toNat (a1)) b1273).set (Int.toNat (a3)) b1276).set (Int.toNat (x1365)) b1376).map etomb_Range = (((a0.set (Int.toNat (a1)) b1273).set (Int.toNat (a3)) b1276).map etomb_Range).set (Int.toNat (x1365)) (splice (etomb_Range b1379) 0 [iI .i64 b1376.f0, iI .i64 b1376.f1]), 0 ≤ a1, a1 < ((((((a0.set (Int.toNat (a1)) b1273).set (Int.toNat (a3)) b1276).set (Int.toNat (x1365)) b1376).map etomb_Range).length : Nat) : Int), ((((a0.set (Int.toNat (a1)) b1273).set (Int.toNat (a3)) b1276).set (Int.toNat (x1365)) b1376).map etomb_Range)[(Int.toNat (a1))]? = some (etomb_Range b1382), ((((a0.set (Int.toNat (a1)) b1273).set (Int.toNat (a3)) b1276).set (Int.toNat (x1365)) b1376).set (Int.toNat (a1)) b1379).map etomb_Range = ((((a0.set (Int.toNat (a1)) b1273).set (Int.toNat (a3)) b1276).set (Int.toNat (x1365)) b1376).map etomb_Range).set (Int.toNat (a1)) (splice (etomb_Range b1382) 0 [iI .i64 b1379.f0, iI .i64 b1379.f1])] (by kernel_rfl) ⟨by exact p1377, by exact el_lt etomb_Range p1377 q1378, by exact el_map etomb_Range q1378, by exact p1380, by exact el_lt etomb_Range p1380 q1381, by exact el_map etomb_Range q1381, by exact p1380, by exact el_lt etomb_Range p1380 q1381, by exact el_map etomb_Range q1381, by exact set1 _ _ _ _, by exact p1383, by exact el_lt etomb_Range p1383 q1384, by exact el_map etomb_Range q1384, by exact set1 _ _ _ _, trivial⟩ ?_
        refine AWp.seq ?_
        refine reg hP hn hm [] [10, 11] [0] ⟨[(10, iV .i64 x1365), (11, bV true)], [(0, some (.row 2 64 (((((a0.set (Int.toNat (a1)) b1273).set (Int.toNat (a3)) b1276).set (Int.toNat (x1365)) b1376).set (Int.toNat (a1)) b1379).map etomb_Range)))], 1⟩ [] (by kernel_rfl) trivial ?_
        refine AWp.conv (inv := [(0, 0)]) (vk := []) (e0 := []) (t := ⟨[(10, iV .i64 x1365), (11, bV true)], [(0, some (.row 2 64 (((((a0.set (Int.toNat (a1)) b1273).set (Int.toNat (a3)) b1276).set (Int.toNat (x1365)) b1376).set (Int.toNat (a1)) b1379).map etomb_Range)))], 1⟩) (by kernel_rfl) ?_
        refine AWp.ret ?_
        obtain rfl := Option.some.inj H
        exact Exists.intro _ (And.intro (fun _ _ h => h) (And.intro (.inl rfl) (And.intro rfl (And.intro (by kernel_rfl) (by kernel_rfl)))))
      · replace H := (ifF c1366).symm.trans H
        refine AWp.skip ?_
        refine AWp.seq ?_
        obtain ⟨b1394, p1395, q1396, H⟩ := at_of H
        obtain ⟨b1397, p1398, q1399, H⟩ := at_of H
        obtain ⟨b1400, p1401, q1402, H⟩ := at_of H
        refine reg hP hn hm [(7, .c (etomb_Range b1394)), (11, .c (etomb_Range b1397)), (13, .put (etomb_Range b1397) ((((a0.set (Int.toNat (a1)) b1273).set (Int.toNat (a3)) b1276).set (Int.toNat (x1323)) b1394).map etomb_Range)), (15, .put (etomb_Range b1400) (((((a0.set (Int.toNat (a1)) b1273).set (Int.toNat (a3)) b1276).set (Int.toNat (x1323)) b1394).set (Int.toNat (x1365)) b1397).map etomb_Range))] [0, 1, 4, 12, 13] [0] ⟨[(0, .own 0), (1, iV .i64 a1), (4, .im (.sc (.func (.func 59) #[] #[]))), (12, iV .i64 x1323), (13, iV .i64 x1365)], [(0, some (.row 2 64 (((((a0.set (Int.toNat (a1)) b1273).set (Int.toNat (a3)) b1276).set (Int.toNat (x1323)) b1394).set (Int.toNat (x1365)) b1397).map etomb_Range)))], 1⟩ [0 ≤ x1365, x1365 < (((((a0.set (Int.toNat (a1)) b1273).set (Int.toNat (a3)) b1276).map etomb_Range).length : Nat) : Int), (((a0.set (Int.toNat (a1)) b1273).set (Int.toNat (a3)) b1276).map etomb_Range)[(Int.toNat (x1365))]? = some (etomb_Range b1394), 0 ≤ x1323, x1323 < (((((a0.set (Int.toNat (a1)) b1273).set (Int.toNat (a3)) b1276).map etomb_Range).length : Nat) : Int), (((a0.set (Int.toNat (a1)) b1273).set (Int.toNat (a3)) b1276).map etomb_Range)[(Int.toNat (x1323))]? = some (etomb_Range b1397), 0 ≤ x1323, x1323 < (((((a0.set (Int.toNat (a1)) b1273).set (Int.toNat (a3)) b1276).map etomb_Range).length : Nat) : Int), (((a0.set (Int.toNat (a1)) b1273).set (Int.toNat (a3)) b1276).map etomb_Range)[(Int.toNat (x1323))]? = some (etomb_Range b1397), (((a0.set (Int.toNat (a1)) b1273).set (Int.toNat (a3)) b1276).set (Int.toNat (x1323)) b1394).map etomb_Range = (((a0.set (Int.toNat (a1)) b1273).set (Int.toNat (a3)) b1276).map etomb_Range).set (Int.toNat (x1323)) (splice (etomb_Range b1397) 0 [iI .i64 b1394.f0, iI .i64 b1394.f1]), 0 ≤ x1365, x1365 < ((((((a0.set (Int.toNat (a1)) b1273).set (Int.toNat (a3)) b1276).set (Int.toNat (x1323)) b1394).map etomb_Range).length : Nat) : Int), ((((a0.set (Int.toNat (a1)) b1273).set (Int.toNat (a3)) b1276).set (Int.toNat (x1323)) b1394).map etomb_Range)[(Int.toNat (x1365))]? = some (etomb_Range b1400), ((((a0.set (Int.toNat (a1)) b1273).set (Int.toNat (a3)) b1276).set (Int.toNat (x1323)) b1394).set (Int.toNat (x1365)) b1397).map etomb_Range = ((((a0.set (Int.toNat (a1)) b1273).set (Int.toNat (a3)) b1276).set (Int.toNat (x1323)) b1394).map etomb_Range).set (Int.toNat (x1365)) (splice (etomb_Range b1400) 0 [iI .i64 b1397.f0, iI .i64 b1397.f1])] (by kernel_rfl) ⟨by exact p1395, by exact el_lt etomb_Range p1395 q1396, by exact el_map etomb_Range q1396, by exact p1398, by exact el_lt etomb_Range p1398 q1399, by exact el_map etomb_Range q1399, by exact p1398, by exact el_lt etomb_Range p1398 q1399, by exact el_map etomb_Range q1399, by exact set1 _ _ _ _, by exact p1401, by exact el_lt etomb_Range p1401 q1402, by exact el_map etomb_Range q1402, by exact set1 _ _ _ _, trivial⟩ ?_
        refine AWp.seq ?_
        refine reg hP hn hm [] [0, 1, 4, 12, 13] [0] ⟨[(0, .own 0), (1, iV .i64 a1), (4, .im (.sc (.func (.func 59) #[] #[]))), (12, iV .i64 (IntKind.i64.wrap (x1323 + (1 : Int)))), (13, iV .i64 x1365)], [(0, some (.row 2 64 (((((a0.set (Int.toNat (a1)) b1273).set (Int.toNat (a3)) b1276).set (Int.toNat (x1323)) b1394).set (Int.toNat (x1365)) b1397).map etomb_Range)))], 1⟩ [] (by kernel_rfl) trivial ?_
        refine AWp.seq ?_
        refine reg hP hn hm [] [0, 1, 4, 12, 13] [0] ⟨[(0, .own 0), (1, iV .i64 a1), (4, .im (.sc (.func (.func 59) #[] #[]))), (12, iV .i64 (IntKind.i64.wrap (x1323 + (1 : Int)))), (13, iV .i64 (IntKind.i64.wrap (x1365 - (1 : Int))))], [(0, some (.row 2 64 (((((a0.set (Int.toNat (a1)) b1273).set (Int.toNat (a3)) b1276).set (Int.toNat (x1323)) b1394).set (Int.toNat (x1365)) b1397).map etomb_Range)))], 1⟩ [] (by kernel_rfl) trivial ?_
        refine AWp.seq ?_
        refine AWp.block ?_
        obtain ⟨o1640, e1641, H⟩ := bind_of H
        refine AWp.loop (LWp.conv (inv := [(0, 0)]) (vk := []) (e0 := []) (t := ⟨[(0, .own 0), (1, iV .i64 a1), (4, .im (.sc (.func (.func 59) #[] #[]))), (12, iV .i64 (IntKind.i64.wrap (x1323 + (1 : Int)))), (13, iV .i64 (IntKind.i64.wrap (x1365 - (1 : Int))))], [(0, some (.row 2 64 (((((a0.set (Int.toNat (a1)) b1273).set (Int.toNat (a3)) b1276).set (Int.toNat (x1323)) b1394).set (Int.toNat (x1365)) b1397).map etomb_Range)))], 1⟩) (by kernel_rfl) ?_)
        refine LWp.mono (Q := fun e s => (match (generalizing := false) o1640 with | (x1612, x1613) => e = .exit 4 ∧ s = ⟨[(0, .own 0), (1, iV .i64 a1), (13, iV .i64 x1613)], [(0, some (.row 2 64 (x1612.map etomb_Range)))], 1⟩)) (LWp.cv (withBody (fun body hbody => ?_))) ?_
        · refine f_slices_partitionCmpFunc_tomb_Range_tomb_Of_2.l2.partial_correctness a1 (motive := fun x1506 x1507 x1508 o1640 => LWp Γ body (fun e s => ∃ t, Cv Γ s t ∧ (match (generalizing := false) o1640 with | (x1612, x1613) => e = .exit 4 ∧ t = ⟨[(0, .own 0), (1, iV .i64 a1), (13, iV .i64 x1613)], [(0, some (.row 2 64 (x1612.map etomb_Range)))], 1⟩)) ⟨[(0, .own 0), (1, iV .i64 a1), (4, .im (.sc (.func (.func 59) #[] #[]))), (12, iV .i64 x1507), (13, iV .i64 x1508)], [(0, some (.row 2 64 (x1506.map etomb_Range)))], 1⟩) ?_ _ _ _ _ e1641
          clear H e1641 o1640; intro self ih x1506 x1507 x1508 o1640 H
          subst hbody
          refine LWp.round ?_
          refine AWp.block ?_
          refine AWp.seq ?_
          refine AWp.block ?_
          obtain ⟨o1642, e1643, H⟩ := bind_of H
          refine AWp.loop (LWp.conv (inv := [(0, 0)]) (vk := []) (e0 := []) (t := ⟨[(0, .own 0), (1, iV .i64 a1), (4, .im (.sc (.func (.func 59) #[] #[]))), (12, iV .i64 x1507), (13, iV .i64 x1508)], [(0, some (.row 2 64 (x1506.map etomb_Range)))], 1⟩) (by kernel_rfl) ?_)
          refine LWp.mono (Q := fun e s => (match (generalizing := false) o1642 with | x1550 => e = .exit 6 ∧ s = ⟨[(0, .own 0), (1, iV .i64 a1), (4, .im (.sc (.func (.func 59) #[] #[]))), (12, iV .i64 x1550), (13, iV .i64 x1508)], [(0, some (.row 2 64 (x1506.map etomb_Range)))], 1⟩)) (LWp.cv (withBody (fun body hbody => ?_))) ?_
          · refine f_slices_partitionCmpFunc_tomb_Range_tomb_Of_2.l3.partial_correctness a1 x1506 x1508 (motive := fun x1529 o1642 => LWp Γ body (fun e s => ∃ t, Cv Γ s t ∧ (match (generalizing := false) o1642 with | x1550 => e = .exit 6 ∧ t = ⟨[(0, .own 0), (1, iV .i64 a1), (4, .im (.sc (.func (.func 59) #[] #[]))), (12, iV .i64 x1550), (13, iV .i64 x1508)], [(0, some (.row 2 64 (x1506.map etomb_Range)))], 1⟩)) ⟨[(0, .own 0), (1, iV .i64 a1), (4, .im (.sc (.func (.func 59) #[] #[]))), (12, iV .i64 x1529), (13, iV .i64 x1508)], [(0, some (.row 2 64 (x1506.map etomb_Range)))], 1⟩) ?_ _ _ e1643
            clear H e1643 o1642; intro self ih x1529 o1642 H
            subst hbody
            refine LWp.round ?_
            refine AWp.seq ?_
            refine AWp.seq ?_
            obtain ⟨o1644, e1645, H⟩ := bind_of H
            refine AWp.mono (Q := fun e s => (match (generalizing := false) o1644 with | x1548 => e = .normal ∧ s = ⟨[(0, .own 0), (1, iV .i64 a1), (4, .im (.sc (.func (.func 59) #[] #[]))), (12, iV .i64 x1529), (13, iV .i64 x1508), (120, bV x1548)], [(0, some (.row 2 64 (x1506.map etomb_Range)))], 1⟩)) (AWp.cv ?_) ?_
            · replace H := e1645; clear e1645
              rcases Bool.eq_false_or_eq_true (decide (x1529 ≤ x1508)) with c1539 | c1539
              · replace H := (ifT c1539).symm.trans H
                obtain ⟨b1540, p1541, q1542, H⟩ := at_of H
                obtain ⟨b1543, p1544, q1545, H⟩ := at_of H
                obtain ⟨t1546, e1547, H⟩ := bind_of H
                refine reg hP hn hm [(3, .b true), (8, .c (etomb_Range b1540)), (12, .c (etomb_Range b1543)), (13, .call [] [] [] [] 0 (iV .i64 t1546) [])] [0, 1, 4, 12, 13, 109, 110, 111, 112, 113, 114, 115, 116, 117, 118, 119, 120] [0] ⟨[(0, .own 0), (1, iV .i64 a1), (4, .im (.sc (.func (.func 59) #[] #[]))), (12, iV .i64 x1529), (13, iV .i64 x1508), (109, .im (.sc (.func (.func 59) #[] #[]))), (110, .own 0), (111, iV .i64 x1529), (112, .ptr 0 (Int.toNat (x1529)) 0), (113, .agg (atomb_Range b1540)), (114, .own 0), (115, iV .i64 a1), (116, .ptr 0 (Int.toNat (a1)) 0), (117, .agg (atomb_Range b1543)), (118, iV .i64 t1546), (119, bV (decide (t1546 < (0 : Int)))), (120, bV (decide (t1546 < (0 : Int))))], [(0, some (.row 2 64 (x1506.map etomb_Range)))], 1⟩ [(decide (x1529 ≤ x1508)) = true, 0 ≤ x1529, x1529 < (((x1506.map etomb_Range).length : Nat) : Int), (x1506.map etomb_Range)[(Int.toNat (x1529))]? = some (etomb_Range b1540), 0 ≤ a1, a1 < (((x1506.map etomb_Range).length : Nat) : Int), (x1506.map etomb_Range)[(Int.toNat (a1))]? = some (etomb_Range b1543), Enters Try.prog 59, Pv.Fn Try.prog 59 [.agg (atomb_Range b1540), .agg (atomb_Range b1543)] [] 0 (fun r o => r = iV .i64 t1546 ∧ o = [])] (by kernel_rfl) ⟨by exact c1539, by exact p1541, by exact el_lt etomb_Range p1541 q1542, by exact el_map etomb_Range q1542, by exact p1544, by exact el_lt etomb_Range p1544 q1545, by exact el_map etomb_Range q1545, by exact Try.call59, by exact f_tomb_Of_2.ok b1540 b1543 t1546 e1547, trivial⟩ ?_
                obtain rfl := Option.some.inj H
                exact Exists.intro _ (And.intro (fun _ _ h => h.conv (inv := [(0, 0)]) (vk := []) (e0 := []) (t := ⟨[(0, .own 0), (1, iV .i64 a1), (4, .im (.sc (.func (.func 59) #[] #[]))), (12, iV .i64 x1529), (13, iV .i64 x1508), (120, bV (decide (t1546 < (0 : Int))))], [(0, some (.row 2 64 (x1506.map etomb_Range)))], 1⟩) (by kernel_rfl)) (And.intro rfl rfl))
              · replace H := (ifF c1539).symm.trans H
                refine reg hP hn hm [(3, .b false)] [0, 1, 4, 12, 13, 120] [0] ⟨[(0, .own 0), (1, iV .i64 a1), (4, .im (.sc (.func (.func 59) #[] #[]))), (12, iV .i64 x1529), (13, iV .i64 x1508), (120, bV false)], [(0, some (.row 2 64 (x1506.map etomb_Range)))], 1⟩ [(decide (x1529 ≤ x1508)) = false] (by kernel_rfl) ⟨by exact c1539, trivial⟩ ?_
                obtain rfl := Option.some.inj H
                exact Exists.intro _ (And.intro (fun _ _ h => h.conv (inv := [(0, 0)]) (vk := []) (e0 := []) (t := ⟨[(0, .own 0), (1, iV .i64 a1), (4, .im (.sc (.func (.func 59) #[] #[]))), (12, iV .i64 x1529), (13, iV .i64 x1508), (120, bV false)], [(0, some (.row 2 64 (x1506.map etomb_Range)))], 1⟩) (by kernel_rfl)) (And.intro rfl rfl))
            · obtain ⟨x1548, rfl⟩ : ∃ z, z = o1644 := ⟨_, rfl⟩
              rintro e s ⟨rfl, rfl⟩
              refine AWp.cond x1548 rfl (fun c1549 => ?_) (fun c1549 => ?_)
              · replace H := (ifT c1549).symm.trans H
                refine AWp.skip ?_
                refine AWp.block ?_
                refine reg hP hn hm [] [0, 1, 4, 12, 13] [0] ⟨[(0, .own 0), (1, iV .i64 a1), (4, .im (.sc (.func (.func 59) #[] #[]))), (12, iV .i64 (IntKind.i64.wrap (x1529 + (1 : Int)))), (13, iV .i64 x1508)], [(0, some (.row 2 64 (x1506.map etomb_Range)))], 1⟩ [] (by kernel_rfl) trivial ?_
                exact LWp.conv (inv := [(0, 0)]) (vk := []) (e0 := []) (t := ⟨[(0, .own 0), (1, iV .i64 a1), (4, .im (.sc (.func (.func 59) #[] #[]))), (12, iV .i64 (IntKind.i64.wrap (x1529 + (1 : Int)))), (13, iV .i64 x1508)], [(0, some (.row 2 64 (x1506.map etomb_Range)))], 1⟩) (by kernel_rfl) (ih _ _ H)
              · replace H := (ifF c1549).symm.trans H
                refine AWp.exit ?_
                obtain rfl := Option.some.inj H
                exact Exists.intro _ (And.intro (fun _ _ h => h.conv (inv := [(0, 0)]) (vk := []) (e0 := []) (t := ⟨[(0, .own 0), (1, iV .i64 a1), (4, .im (.sc (.func (.func 59) #[] #[]))), (12, iV .i64 x1529), (13, iV .i64 x1508)], [(0, some (.row 2 64 (x1506.map etomb_Range)))], 1⟩) (by kernel_rfl)) (And.intro rfl rfl))
          · obtain ⟨x1550, rfl⟩ : ∃ z, z = o1642 := ⟨_, rfl⟩
            rintro e s ⟨rfl, rfl⟩
            refine AWp.seq ?_
            refine AWp.block ?_
            obtain ⟨o1646, e1647, H⟩ := bind_of H
            refine AWp.loop (LWp.conv (inv := [(0, 0)]) (vk := []) (e0 := []) (t := ⟨[(0, .own 0), (1, iV .i64 a1), (4, .im (.sc (.func (.func 59) #[] #[]))), (12, iV .i64 x1550), (13, iV .i64 x1508)], [(0, some (.row 2 64 (x1506.map etomb_Range)))], 1⟩) (by kernel_rfl) ?_)
            refine LWp.mono (Q := fun e s => (match (generalizing := false) o1646 with | x1592 => e = .exit 8 ∧ s = ⟨[(0, .own 0), (1, iV .i64 a1), (4, .im (.sc (.func (.func 59) #[] #[]))), (12, iV .i64 x1550), (13, iV .i64 x1592)], [(0, some (.row 2 64 (x1506.map etomb_Range)))], 1⟩)) (LWp.cv (withBody (fun body hbody => ?_))) ?_
            · refine f_slices_partitionCmpFunc_tomb_Range_tomb_Of_2.l4.partial_correctness a1 x1506 x1550 (motive := fun x1571 o1646 => LWp Γ body (fun e s => ∃ t, Cv Γ s t ∧ (match (generalizing := false) o1646 with | x1592 => e = .exit 8 ∧ t = ⟨[(0, .own 0), (1, iV .i64 a1), (4, .im (.sc (.func (.func 59) #[] #[]))), (12, iV .i64 x1550), (13, iV .i64 x1592)], [(0, some (.row 2 64 (x1506.map etomb_Range)))], 1⟩)) ⟨[(0, .own 0), (1, iV .i64 a1), (4, .im (.sc (.func (.func 59) #[] #[]))), (12, iV .i64 x1550), (13, iV .i64 x1571)], [(0, some (.row 2 64 (x1506.map etomb_Range)))], 1⟩) ?_ _ _ e1647
              clear H e1647 o1646; intro self ih x1571 o1646 H
              subst hbody
              refine LWp.round ?_
              refine AWp.seq ?_
              refine AWp.seq ?_
              obtain ⟨o1648, e1649, H⟩ := bind_of H
              refine AWp.mono (Q := fun e s => (match (generalizing := false) o1648 with | x1590 => e = .normal ∧ s = ⟨[(0, .own 0), (1, iV .i64 a1), (4, .im (.sc (.func (.func 59) #[] #[]))), (12, iV .i64 x1550), (13, iV .i64 x1571), (139, bV x1590)], [(0, some (.row 2 64 (x1506.map etomb_Range)))], 1⟩)) (AWp.cv ?_) ?_
              · replace H := e1649; clear e1649
                rcases Bool.eq_false_or_eq_true (decide (x1550 ≤ x1571)) with c1581 | c1581
                · replace H := (ifT c1581).symm.trans H
                  obtain ⟨b1582, p1583, q1584, H⟩ := at_of H
                  obtain ⟨b1585, p1586, q1587, H⟩ := at_of H
                  obtain ⟨t1588, e1589, H⟩ := bind_of H
                  refine reg hP hn hm [(3, .b true), (8, .c (etomb_Range b1582)), (12, .c (etomb_Range b1585)), (13, .call [] [] [] [] 0 (iV .i64 t1588) [])] [0, 1, 4, 12, 13, 127, 128, 129, 130, 131, 132, 133, 134, 135, 136, 137, 138, 139] [0] ⟨[(0, .own 0), (1, iV .i64 a1), (4, .im (.sc (.func (.func 59) #[] #[]))), (12, iV .i64 x1550), (13, iV .i64 x1571), (127, .im (.sc (.func (.func 59) #[] #[]))), (128, .own 0), (129, iV .i64 x1571), (130, .ptr 0 (Int.toNat (x1571)) 0), (131, .agg (atomb_Range b1582)), (132, .own 0), (133, iV .i64 a1), (134, .ptr 0 (Int.toNat (a1)) 0), (135, .agg (atomb_Range b1585)), (136, iV .i64 t1588), (137, bV (decide (t1588 < (0 : Int)))), (138, bV (!(decide (t1588 < (0 : Int))))), (139, bV (!(decide (t1588 < (0 : Int)))))], [(0, some (.row 2 64 (x1506.map etomb_Range)))], 1⟩ [(decide (x1550 ≤ x1571)) = true, 0 ≤ x1571, x1571 < (((x1506.map etomb_Range).length : Nat) : Int), (x1506.map etomb_Range)[(Int.toNat (x1571))]? = some (etomb_Range b1582), 0 ≤ a1, a1 < (((x1506.map etomb_Range).length : Nat) : Int), (x1506.map etomb_Range)[(Int.toNat (a1))]? = some (etomb_Range b1585), Enters Try.prog 59, Pv.Fn Try.prog 59 [.agg (atomb_Range b1582), .agg (atomb_Range b1585)] [] 0 (fun r o => r = iV .i64 t1588 ∧ o = [])] (by kernel_rfl) ⟨by exact c1581, by exact p1583, by exact el_lt etomb_Range p1583 q1584, by exact el_map etomb_Range q1584, by exact p1586, by exact el_lt etomb_Range p1586 q1587, by exact el_map etomb_Range q1587, by exact Try.call59, by exact f_tomb_Of_2.ok b1582 b1585 t1588 e1589, trivial⟩ ?_
                  obtain rfl := Option.some.inj H
                  exact Exists.intro _ (And.intro (fun _ _ h => h.conv (inv := [(0, 0)]) (vk := []) (e0 := []) (t := ⟨[(0, .own 0), (1, iV .i64 a1), (4, .im (.sc (.func (.func 59) #[] #[]))), (12, iV .i64 x1550), (13, iV .i64 x1571), (139, bV (!(decide (t1588 < (0 : Int)))))], [(0, some (.row 2 64 (x1506.map etomb_Range)))], 1⟩) (by kernel_rfl)) (And.intro rfl rfl))
                · replace H := (ifF c1581).symm.trans H
                  refine reg hP hn hm [(3, .b false)] [0, 1, 4, 12, 13, 139] [0] ⟨[(0, .own 0), (1, iV .i64 a1), (4, .im (.sc (.func (.func 59) #[] #[]))), (12, iV .i64 x1550), (13, iV .i64 x1571), (139, bV false)], [(0, some (.row 2 64 (x1506.map etomb_Range)))], 1⟩ [(decide (x1550 ≤ x1571)) = false] (by kernel_rfl) ⟨by exact c1581, trivial⟩ ?_
                  obtain rfl := Option.some.inj H
                  exact Exists.intro _ (And.intro (fun _ _ h => h.conv (inv := [(0, 0)]) (vk := []) (e0 := []) (t := ⟨[(0, .own 0), (1, iV .i64 a1), (4, .im (.sc (.func (.func 59) #[] #[]))), (12, iV .i64 x1550), (13, iV .i64 x1571), (139, bV false)], [(0, some (.row 2 64 (x1506.map etomb_Range)))], 1⟩) (by kernel_rfl)) (And.intro rfl rfl))
              · obtain ⟨x1590, rfl⟩ : ∃ z, z = o1648 := ⟨_, rfl⟩
                rintro e s ⟨rfl, rfl⟩
                refine AWp.cond x1590 rfl (fun c1591 => ?_) (fun c1591 => ?_)
                · replace H := (ifT c1591).symm.trans H
                  refine AWp.skip ?_
                  refine AWp.block ?_
                  refine reg hP hn hm [] [0, 1, 4, 12, 13] [0] ⟨[(0, .own 0), (1, iV .i64 a1), (4, .im (.sc (.func (.func 59) #[] #[]))), (12, iV .i64 x1550), (13, iV .i64 (IntKind.i64.wrap (x1571 - (1 : Int))))], [(0, some (.row 2 64 (x1506.map etomb_Range)))], 1⟩ [] (by kernel_rfl) trivial ?_
                  exact LWp.conv (inv := [(0, 0)]) (vk := []) (e0 := []) (t := ⟨[(0, .own 0), (1, iV .i64 a1), (4, .im (.sc (.func (.func 59) #[] #[]))), (12, iV .i64 x1550), (13, iV .i64 (IntKind.i64.wrap (x1571 - (1 : Int))))], [(0, some (.row 2 64 (x1506.map etomb_Range)))], 1⟩) (by kernel_rfl) (ih _ _ H)
                · replace H := (ifF c1591).symm.trans H
                  refine AWp.exit ?_
                  obtain rfl := Option.some.inj H
                  exact Exists.intro _ (And.intro (fun _ _ h => h.conv (inv := [(0, 0)]) (vk := []) (e0 := []) (t := ⟨[(0, .own 0), (1, iV .i64 a1), (4, .im (.sc (.func (.func 59) #[] #[]))), (12, iV .i64 x1550), (13, iV .i64 x1571)], [(0, some (.row 2 64 (x1506.map etomb_Range)))], 1⟩) (by kernel_rfl)) (And.intro rfl rfl))
            · obtain ⟨x1592, rfl⟩ : ∃ z, z = o1646 := ⟨_, rfl⟩
              rintro e s ⟨rfl, rfl⟩
              refine AWp.seq ?_
              refine AWp.seq ?_
              refine reg hP hn hm [] [0, 1, 4, 12, 13, 144] [0] ⟨[(0, .own 0), (1, iV .i64 a1), (4, .im (.sc (.func (.func 59) #[] #[]))), (12, iV .i64 x1550), (13, iV .i64 x1592), (144, bV (decide (x1550 > x1592)))], [(0, some (.row 2 64 (x1506.map etomb_Range)))], 1⟩ [] (by kernel_rfl) trivial ?_
              refine AWp.cond (decide (x1550 > x1592)) rfl (fun c1593 => ?_) (fun c1593 => ?_)
              · replace H := (ifT c1593).symm.trans H
                refine AWp.exit ?_
                obtain rfl := Option.some.inj H
                exact Exists.intro _ (And.intro (fun _ _ h => h.conv (inv := [(0, 0)]) (vk := []) (e0 := []) (t := ⟨[(0, .own 0), (1, iV .i64 a1), (13, iV .i64 x1592)], [(0, some (.row 2 64 (x1506.map etomb_Range)))], 1⟩) (by kernel_rfl)) (And.intro rfl rfl))
              · replace H := (ifF c1593).symm.trans H
                refine AWp.skip ?_
                refine AWp.seq ?_
                obtain ⟨b1603, p1604, q1605, H⟩ := at_of H
                obtain ⟨b1606, p1607, q1608, H⟩ := at_of H
                obtain ⟨b1609, p1610, q1611, H⟩ := at_of H
                refine reg hP hn hm [(7, .c (etomb_Range b1603)), (11, .c (etomb_Range b1606)), (13, .put (etomb_Range b1606) ((x1506.set (Int.toNat (x1550)) b1603).map etomb_Range)), (15, .put (etomb_Range b1609) (((x1506.set (Int.toNat (x1550)) b1603).set (Int.toNat (x1592)) b1606).map etomb_Range))] [0, 1, 4, 12, 13] [0] ⟨[(0, .own 0), (1, iV .i64 a1), (4, .im (.sc (.func (.func 59) #[] #[]))), (12, iV .i64 x1550), (13, iV .i64 x1592)], [(0, some (.row 2 64 (((x1506.set (Int.toNat (x1550)) b1603).set (Int.toNat (x1592)) b1606).map etomb_Range)))], 1⟩ [0 ≤ x1592, x1592 < (((x1506.map etomb_Range).length : Nat) : Int), (x1506.map etomb_Range)[(Int.toNat (x1592))]? = some (etomb_Range b1603), 0 ≤ x1550, x1550 < (((x1506.map etomb_Range).length : Nat) : Int), (x1506.map etomb_Range)[(Int.toNat (x1550))]? = some (etomb_Range b1606), 0 ≤ x1550, x1550 < (((x1506.map etomb_Range).length : Nat) : Int), (x1506.map etomb_Range)[(Int.toNat (x1550))]? = some (etomb_Range b1606), (x1506.set (Int.toNat (x1550)) b1603).map etomb_Range = (x1506.map etomb_Range).set (Int.toNat (x1550)) (splice (etomb_Range b1606) 0 [iI .i64 b1603.f0, iI .i64 b1603.f1]), 0 ≤ x1592, x1592 < ((((x1506.set (Int.toNat (x1550)) b1603).map etomb_Range).length : Nat) : Int), ((x1506.set (Int.toNat (x1550)) b1603).map etomb_Range)[(Int.toNat (x1592))]? = some (etomb_Range b1609), ((x1506.set (Int.toNat (x1550)) b1603).set (Int.toNat (x1592)) b1606).map etomb_Range = ((x1506.set (Int.toNat (x1550)) b1603).map etomb_Range).set (Int.toNat (x1592)) (splice (etomb_Range b1609) 0 [iI .i64 b1606.f0, iI .i64 b1606.f1])] (by kernel_rfl) ⟨by exact p1604, by exact el_lt etomb_Range p1604 q1605, by exact el_map etomb_Range q1605, by exact p1607, by exact el_lt etomb_Range p1607 q1608, by exact el_map etomb_Range q1608, by exact p1607, by exact el_lt etomb_Range p1607 q1608, by exact el_map etomb_Range q1608, by exact set1 _ _ _ _, by exact p1610, by exact el_lt etomb_Range p1610 q1611, by exact el_map etomb_Range q1611, by exact set1 _ _ _ _, trivial⟩ ?_
                refine AWp.seq ?_
                refine reg hP hn hm [] [0, 1, 4, 12, 13] [0] ⟨[(0, .own 0), (1, iV .i64 a1), (4, .im (.sc (.func (.func 59) #[] #[]))), (12, iV .i64 (IntKind.i64.wrap (x1550 + (1 : Int)))), (13, iV .i64 x1592)], [(0, some (.row 2 64 (((x1506.set (Int.toNat (x1550)) b1603).set (Int.toNat (x1592)) b1606).map etomb_Range)))], 1⟩ [] (by kernel_rfl) trivial ?_
                refine reg hP hn hm [] [0, 1, 4, 12, 13] [0] ⟨[(0, .own 0), (1, iV .i64 a1), (4, .im (.sc (.func (.func 59) #[] #[]))), (12, iV .i64 (IntKind.i64.wrap (x1550 + (1 : Int)))), (13, iV .i64 (IntKind.i64.wrap (x1592 - (1 : Int))))], [(0, some (.row 2 64 (((x1506.set (Int.toNat (x1550)) b1603).set (Int.toNat (x1592)) b1606).map etomb_Range)))], 1⟩ [] (by kernel_rfl) trivial ?_
                exact LWp.conv (inv := [(0, 0)]) (vk := []) (e0 := []) (t := ⟨[(0, .own 0), (1, iV .i64 a1), (4, .im (.sc (.func (.func 59) #[] #[]))), (12, iV .i64 (IntKind.i64.wrap (x1550 + (1 : Int)))), (13, iV .i64 (IntKind.i64.wrap (x1592 - (1 : Int))))], [(0, some (.row 2 64 (((x1506.set (Int.toNat (x1550)) b1603).set (Int.toNat (x1592)) b1606).map etomb_Range)))], 1⟩) (by kernel_rfl) (ih _ _ _ _ H)
        · obtain ⟨x1612, x1613⟩ := o1640
          rintro e s ⟨rfl, rfl⟩
          refine AWp.seq ?_
          obtain ⟨b1623, p1624, q1625, H⟩ := at_of H
          obtain ⟨b1626, p1627, q1628, H⟩ := at_of H
          obtain ⟨b1629, p1630, q1631, H⟩ := at_of H
          refine reg hP hn hm [(7, .c (etomb_Range b1623)), (11, .c (etomb_Range b1626)), (13, .put (etomb_Range b1626) ((x1612.set (Int.toNat (x1613)) b1623).map etomb_Range)), (15, .put (etomb_Range b1629) (((x1612.set (Int.toNat (x1613)) b1623).set (Int.toNat (a1)) b1626).map etomb_Range))] [13] [0] ⟨[(13, iV .i64 x1613)], [(0, some (.row 2 64 (((x1612.set (Int.toNat (x1613)) b1623).set (Int.toNat (a1)) b1626).map etomb_Range)))], 1⟩ [0 ≤ a1, a1 < (((x1612.map etomb_Range).length : Nat) : Int), (x1612.map etomb_Range)[(Int.toNat (a1))]? = some (etomb_Range b1623), 0 ≤ x1613, x1613 < (((x1612.map etomb_Range).length : Nat) : Int), (x1612.map etomb_Range)[(Int.toNat (x1613))]? = some (etomb_Range b1626), 0 ≤ x1613, x1613 < (((x1612.map etomb_Range).length : Nat) : Int), (x1612.map etomb_Range)[(Int.toNat (x1613))]? = some (etomb_Range b1626), (x1612.set (Int.toNat (x1613)) b1623).map etomb_Range = (x1612.map etomb_Range).set (Int.toNat (x1613)) (splice (etomb_Range b1626) 0 [iI .i64 b1623.f0, iI .i64 b1623.f1]), 0 ≤ a1, a1 < ((((x1612.set (Int.toNat (x1613)) b1623).map etomb_Range).length : Nat) : Int), ((x1612.set (Int.toNat (x1613)) b1623).map etomb_Range)[(Int.toNat (a1))]? = some (etomb_Range b1629), ((x1612.set (Int.toNat (x1613)) b1623).set (Int.toNat (a1)) b1626).map etomb_Range = ((x1612.set (Int.toNat (x1613)) b1623).map etomb_Range).set (Int.toNat (a1)) (splice (etomb_Range b1629) 0 [iI .i64 b1626.f0, iI .i64 b1626.f1])] (by kernel_rfl) ⟨by exact p1624, by exact el_lt etomb_Range p1624 q1625, by exact el_map etomb_Range q1625, by exact p1627, by exact el_lt etomb_Range p1627 q1628, by exact el_map etomb_Range q1628, by exact p1627, by exact el_lt etomb_Range p1627 q1628, by exact el_map etomb_Range q1628, by exact set1 _ _ _ _, by exact p1630, by exact el_lt etomb_Range p1630 q1631, by exact el_map etomb_Range q1631, by exact set1 _ _ _ _, trivial⟩ ?_
          refine AWp.seq ?_
          refine reg hP hn hm [] [10, 11] [0] ⟨[(10, iV .i64 x1613), (11, bV false)], [(0, some (.row 2 64 (((x1612.set (Int.toNat (x1613)) b1623).set (Int.toNat (a1)) b1626).map etomb_Range)))], 1⟩ [] (by kernel_rfl) trivial ?_
          refine AWp.conv (inv := [(0, 0)]) (vk := []) (e0 := []) (t := ⟨[(10, iV .i64 x1613), (11, bV false)], [(0, some (.row 2 64 (((x1612.set (Int.toNat (x1613)) b1623).set (Int.toNat (a1)) b1626).map etomb_Range)))], 1⟩) (by kernel_rfl) ?_
          refine AWp.ret ?_
          obtain rfl := Option.some.inj H
          exact Exists.intro _ (And.intro (fun _ _ h => h) (And.intro (.inl rfl) (And.intro rfl (And.intro (by kernel_rfl) (by kernel_rfl)))))
def f_slices_nextPowerOfTwo.f (a0 : Int) : Option (Int) := (f_bits_Len.f (IntKind.u64.wrap (a0))) >>= fun t1694 => (chk (0 ≤ t1694)) >>= fun _ => some (IntKind.u64.wrap ((1 : Int) * 2 ^ (min (Int.toNat (t1694)) 64)))
theorem f_slices_nextPowerOfTwo.ok (a0 : Int) (r : Int) (H : f_slices_nextPowerOfTwo.f a0 = some r) : Pv.Fn Try.prog 143 [iV .i64 a0] [] 0 (fun x o => x = iV .u64 r ∧ o = []) := by
  unfold f_slices_nextPowerOfTwo.f at H
  refine Fn.bodyK [] Try.func143 rfl rfl (fun Γ hP hn => ?_)
  have hm : Try.prog.follows .mixedOrders = true := by kernel_rfl
  replace hn : Γ.n = 7 := hn
  refine AWp.seq ?_
  refine reg hP hn hm [] [0] [] ⟨[(0, iV .i64 a0)], [], 0⟩ [] (by kernel_rfl) trivial ?_
  refine AWp.seq ?_
  obtain ⟨t1694, e1695, H⟩ := bind_of H
  obtain ⟨c1696, H⟩ := chk_of H
  refine reg hP hn hm [(2, .call [] [] [] [] 0 (iV .i64 t1694) [])] [2] [] ⟨[(2, iV .u64 (IntKind.u64.wrap ((1 : Int) * 2 ^ (min (Int.toNat (t1694)) 64))))], [], 0⟩ [Enters Try.prog 95, Pv.Fn Try.prog 95 [iV .u64 (IntKind.u64.wrap (a0))] [] 0 (fun r o => r = iV .i64 t1694 ∧ o = []), 0 ≤ t1694] (by kernel_rfl) ⟨by exact Try.call95, by exact f_bits_Len.ok (IntKind.u64.wrap (a0)) t1694 e1695, by exact c1696, trivial⟩ ?_
  refine AWp.conv (inv := []) (vk := []) (e0 := []) (t := ⟨[(2, iV .u64 (IntKind.u64.wrap ((1 : Int) * 2 ^ (min (Int.toNat (t1694)) 64))))], [], 0⟩) (by kernel_rfl) ?_
  refine AWp.ret ?_
  obtain rfl := Option.some.inj H
  exact Exists.intro _ (And.intro (fun _ _ h => h) (And.intro (.inl rfl) (And.intro rfl (And.intro (by kernel_rfl) (by kernel_rfl)))))
def f_slices_xorshift_Next_6cb.f (a0_c0 : Int) : Option (Unit) := some ()
theorem f_slices_xorshift_Next_6cb.ok (a0_c0 : Int) (r : Unit) (H : f_slices_xorshift_Next_6cb.f a0_c0 = some r) : Pv.Fn Try.prog 144 [.ptr 0 0 0] [(0, some (.box 201 [iV .u64 a0_c0]))] 1 (fun x o => x = iV .u64 (IntKind.u64.wrap (((BitVec.toNat (BitVec.ofInt 64 (IntKind.u64.wrap (((BitVec.toNat (BitVec.ofInt 64 (IntKind.u64.wrap (((BitVec.toNat (BitVec.ofInt 64 a0_c0 ^^^ BitVec.ofInt 64 (IntKind.u64.wrap (a0_c0 * 8192))) : Nat) : Int))) ^^^ BitVec.ofInt 64 (Int.fdiv (IntKind.u64.wrap (((BitVec.toNat (BitVec.ofInt 64 a0_c0 ^^^ BitVec.ofInt 64 (IntKind.u64.wrap (a0_c0 * 8192))) : Nat) : Int))) 128)) : Nat) : Int))) ^^^ BitVec.ofInt 64 (IntKind.u64.wrap ((IntKind.u64.wrap (((BitVec.toNat (BitVec.ofInt 64 (IntKind.u64.wrap (((BitVec.toNat (BitVec.ofInt 64 a0_c0 ^^^ BitVec.ofInt 64 (IntKind.u64.wrap (a0_c0 * 8192))) : Nat) : Int))) ^^^ BitVec.ofInt 64 (Int.fdiv (IntKind.u64.wrap (((BitVec.toNat (BitVec.ofInt 64 a0_c0 ^^^ BitVec.ofInt 64 (IntKind.u64.wrap (a0_c0 * 8192))) : Nat) : Int))) 128)) : Nat) : Int))) * 131072))) : Nat) : Int))) ∧ o = [(0, some (.box 201 [iV .u64 (IntKind.u64.wrap (((BitVec.toNat (BitVec.ofInt 64 (IntKind.u64.wrap (((BitVec.toNat (BitVec.ofInt 64 (IntKind.u64.wrap (((BitVec.toNat (BitVec.ofInt 64 a0_c0 ^^^ BitVec.ofInt 64 (IntKind.u64.wrap (a0_c0 * 8192))) : Nat) : Int))) ^^^ BitVec.ofInt 64 (Int.fdiv (IntKind.u64.wrap (((BitVec.toNat (BitVec.ofInt 64 a0_c0 ^^^ BitVec.ofInt 64 (IntKind.u64.wrap (a0_c0 * 8192))) : Nat) : Int))) 128)) : Nat) : Int))) ^^^ BitVec.ofInt 64 (IntKind.u64.wrap ((IntKind.u64.wrap (((BitVec.toNat (BitVec.ofInt 64 (IntKind.u64.wrap (((BitVec.toNat (BitVec.ofInt 64 a0_c0 ^^^ BitVec.ofInt 64 (IntKind.u64.wrap (a0_c0 * 8192))) : Nat) : Int))) ^^^ BitVec.ofInt 64 (Int.fdiv (IntKind.u64.wrap (((BitVec.toNat (BitVec.ofInt 64 a0_c0 ^^^ BitVec.ofInt 64 (IntKind.u64.wrap (a0_c0 * 8192))) : Nat) : Int))) 128)) : Nat) : Int))) * 131072))) : Nat) : Int)))]))]) := by
  unfold f_slices_xorshift_Next_6cb.f at H
  refine Fn.bodyK [0] Try.func144 rfl rfl (fun Γ hP hn => ?_)
  have hm : Try.prog.follows .mixedOrders = true := by kernel_rfl
  replace hn : Γ.n = 33 := hn
  refine AWp.seq ?_
  refine reg hP hn hm [] [0] [0] ⟨[(0, .ptr 0 0 0)], [(0, some (.box 201 [iV .u64 a0_c0]))], 1⟩ [] (by kernel_rfl) trivial ?_
  refine AWp.seq ?_
  refine reg hP hn hm [] [0] [0] ⟨[(0, .ptr 0 0 0)], [(0, some (.box 201 [iV .u64 (IntKind.u64.wrap (((BitVec.toNat (BitVec.ofInt 64 a0_c0 ^^^ BitVec.ofInt 64 (IntKind.u64.wrap (a0_c0 * 8192))) : Nat) : Int)))]))], 1⟩ [(0 : Int) ≤ 13] (by kernel_rfl) ⟨by decide, trivial⟩ ?_
  refine AWp.seq ?_
  refine reg hP hn hm [] [0] [0] ⟨[(0, .ptr 0 0 0)], [(0, some (.box 201 [iV .u64 (IntKind.u64.wrap (((BitVec.toNat (BitVec.ofInt 64 (IntKind.u64.wrap (((BitVec.toNat (BitVec.ofInt 64 a0_c0 ^^^ BitVec.ofInt 64 (IntKind.u64.wrap (a0_c0 * 8192))) : Nat) : Int))) ^^^ BitVec.ofInt 64 (Int.fdiv (IntKind.u64.wrap (((BitVec.toNat (BitVec.ofInt 64 a0_c0 ^^^ BitVec.ofInt 64 (IntKind.u64.wrap (a0_c0 * 8192))) : Nat) : Int))) 128)) : Nat) : Int)))]))], 1⟩ [(0 : Int) ≤ 7] (by kernel_rfl) ⟨by decide, trivial⟩ ?_
  refine AWp.seq ?_
  refine reg hP hn hm [] [0] [0] ⟨[(0, .ptr 0 0 0)], [(0, some (.box 201 [iV .u64 (IntKind.u64.wrap (((BitVec.toNat (BitVec.ofInt 64 (IntKind.u64.wrap (((BitVec.toNat (BitVec.ofInt 64 (IntKind.u64.wrap (((BitVec.toNat (BitVec.ofInt 64 a0_c0 ^^^ BitVec.ofInt 64 (IntKind.u64.wrap (a0_c0 * 8192))) : Nat) : Int))) ^^^ BitVec.ofInt 64 (Int.fdiv (IntKind.u64.wrap (((BitVec.toNat (BitVec.ofInt 64 a0_c0 ^^^ BitVec.ofInt 64 (IntKind.u64.wrap (a0_c0 * 8192))) : Nat) : Int))) 128)) : Nat) : Int))) ^^^ BitVec.ofInt 64 (IntKind.u64.wrap ((IntKind.u64.wrap (((BitVec.toNat (BitVec.ofInt 64 (IntKind.u64.wrap (((BitVec.toNat (BitVec.ofInt 64 a0_c0 ^^^ BitVec.ofInt 64 (IntKind.u64.wrap (a0_c0 * 8192))) : Nat) : Int))) ^^^ BitVec.ofInt 64 (Int.fdiv (IntKind.u64.wrap (((BitVec.toNat (BitVec.ofInt 64 a0_c0 ^^^ BitVec.ofInt 64 (IntKind.u64.wrap (a0_c0 * 8192))) : Nat) : Int))) 128)) : Nat) : Int))) * 131072))) : Nat) : Int)))]))], 1⟩ [(0 : Int) ≤ 17] (by kernel_rfl) ⟨by decide, trivial⟩ ?_
  refine AWp.seq ?_
  refine reg hP hn hm [] [2] [0] ⟨[(2, iV .u64 (IntKind.u64.wrap (((BitVec.toNat (BitVec.ofInt 64 (IntKind.u64.wrap (((BitVec.toNat (BitVec.ofInt 64 (IntKind.u64.wrap (((BitVec.toNat (BitVec.ofInt 64 a0_c0 ^^^ BitVec.ofInt 64 (IntKind.u64.wrap (a0_c0 * 8192))) : Nat) : Int))) ^^^ BitVec.ofInt 64 (Int.fdiv (IntKind.u64.wrap (((BitVec.toNat (BitVec.ofInt 64 a0_c0 ^^^ BitVec.ofInt 64 (IntKind.u64.wrap (a0_c0 * 8192))) : Nat) : Int))) 128)) : Nat) : Int))) ^^^ BitVec.ofInt 64 (IntKind.u64.wrap ((IntKind.u64.wrap (((BitVec.toNat (BitVec.ofInt 64 (IntKind.u64.wrap (((BitVec.toNat (BitVec.ofInt 64 a0_c0 ^^^ BitVec.ofInt 64 (IntKind.u64.wrap (a0_c0 * 8192))) : Nat) : Int))) ^^^ BitVec.ofInt 64 (Int.fdiv (IntKind.u64.wrap (((BitVec.toNat (BitVec.ofInt 64 a0_c0 ^^^ BitVec.ofInt 64 (IntKind.u64.wrap (a0_c0 * 8192))) : Nat) : Int))) 128)) : Nat) : Int))) * 131072))) : Nat) : Int))))], [(0, some (.box 201 [iV .u64 (IntKind.u64.wrap (((BitVec.toNat (BitVec.ofInt 64 (IntKind.u64.wrap (((BitVec.toNat (BitVec.ofInt 64 (IntKind.u64.wrap (((BitVec.toNat (BitVec.ofInt 64 a0_c0 ^^^ BitVec.ofInt 64 (IntKind.u64.wrap (a0_c0 * 8192))) : Nat) : Int))) ^^^ BitVec.ofInt 64 (Int.fdiv (IntKind.u64.wrap (((BitVec.toNat (BitVec.ofInt 64 a0_c0 ^^^ BitVec.ofInt 64 (IntKind.u64.wrap (a0_c0 * 8192))) : Nat) : Int))) 128)) : Nat) : Int))) ^^^ BitVec.ofInt 64 (IntKind.u64.wrap ((IntKind.u64.wrap (((BitVec.toNat (BitVec.ofInt 64 (IntKind.u64.wrap (((BitVec.toNat (BitVec.ofInt 64 a0_c0 ^^^ BitVec.ofInt 64 (IntKind.u64.wrap (a0_c0 * 8192))) : Nat) : Int))) ^^^ BitVec.ofInt 64 (Int.fdiv (IntKind.u64.wrap (((BitVec.toNat (BitVec.ofInt 64 a0_c0 ^^^ BitVec.ofInt 64 (IntKind.u64.wrap (a0_c0 * 8192))) : Nat) : Int))) 128)) : Nat) : Int))) * 131072))) : Nat) : Int)))]))], 1⟩ [] (by kernel_rfl) trivial ?_
  refine AWp.conv (inv := [(0, 0)]) (vk := []) (e0 := []) (t := ⟨[(2, iV .u64 (IntKind.u64.wrap (((BitVec.toNat (BitVec.ofInt 64 (IntKind.u64.wrap (((BitVec.toNat (BitVec.ofInt 64 (IntKind.u64.wrap (((BitVec.toNat (BitVec.ofInt 64 a0_c0 ^^^ BitVec.ofInt 64 (IntKind.u64.wrap (a0_c0 * 8192))) : Nat) : Int))) ^^^ BitVec.ofInt 64 (Int.fdiv (IntKind.u64.wrap (((BitVec.toNat (BitVec.ofInt 64 a0_c0 ^^^ BitVec.ofInt 64 (IntKind.u64.wrap (a0_c0 * 8192))) : Nat) : Int))) 128)) : Nat) : Int))) ^^^ BitVec.ofInt 64 (IntKind.u64.wrap ((IntKind.u64.wrap (((BitVec.toNat (BitVec.ofInt 64 (IntKind.u64.wrap (((BitVec.toNat (BitVec.ofInt 64 a0_c0 ^^^ BitVec.ofInt 64 (IntKind.u64.wrap (a0_c0 * 8192))) : Nat) : Int))) ^^^ BitVec.ofInt 64 (Int.fdiv (IntKind.u64.wrap (((BitVec.toNat (BitVec.ofInt 64 a0_c0 ^^^ BitVec.ofInt 64 (IntKind.u64.wrap (a0_c0 * 8192))) : Nat) : Int))) 128)) : Nat) : Int))) * 131072))) : Nat) : Int))))], [(0, some (.box 201 [iV .u64 (IntKind.u64.wrap (((BitVec.toNat (BitVec.ofInt 64 (IntKind.u64.wrap (((BitVec.toNat (BitVec.ofInt 64 (IntKind.u64.wrap (((BitVec.toNat (BitVec.ofInt 64 a0_c0 ^^^ BitVec.ofInt 64 (IntKind.u64.wrap (a0_c0 * 8192))) : Nat) : Int))) ^^^ BitVec.ofInt 64 (Int.fdiv (IntKind.u64.wrap (((BitVec.toNat (BitVec.ofInt 64 a0_c0 ^^^ BitVec.ofInt 64 (IntKind.u64.wrap (a0_c0 * 8192))) : Nat) : Int))) 128)) : Nat) : Int))) ^^^ BitVec.ofInt 64 (IntKind.u64.wrap ((IntKind.u64.wrap (((BitVec.toNat (BitVec.ofInt 64 (IntKind.u64.wrap (((BitVec.toNat (BitVec.ofInt 64 a0_c0 ^^^ BitVec.ofInt 64 (IntKind.u64.wrap (a0_c0 * 8192))) : Nat) : Int))) ^^^ BitVec.ofInt 64 (Int.fdiv (IntKind.u64.wrap (((BitVec.toNat (BitVec.ofInt 64 a0_c0 ^^^ BitVec.ofInt 64 (IntKind.u64.wrap (a0_c0 * 8192))) : Nat) : Int))) 128)) : Nat) : Int))) * 131072))) : Nat) : Int)))]))], 1⟩) (by kernel_rfl) ?_
  refine AWp.ret ?_
  obtain rfl := Option.some.inj H
  exact Exists.intro _ (And.intro (fun _ _ h => h) (And.intro (.inl rfl) (And.intro rfl (And.intro (by kernel_rfl) (by kernel_rfl)))))
def f_slices_breakPatternsCmpFunc_tomb_Range_tomb_Of_2.l0 (a1 : Int) (a2 : Int) (t1699 : Int) (x1726 : List Ttomb_Range) (x1727 : Int) (x1728 : Int) : Option (List Ttomb_Range) := if (decide (x1728 ≤ (IntKind.i64.wrap ((IntKind.i64.wrap (a1 + (IntKind.i64.wrap ((IntKind.i64.wrap (Int.tdiv (IntKind.i64.wrap (a2 - a1)) (4 : Int))) * (2 : Int))))) + (1 : Int))))) = true then ((f_slices_xorshift_Next_6cb.f x1727) >>= fun t1732 => ((if (decide ((IntKind.i64.wrap (IntKind.u64.wrap (((BitVec.toNat (BitVec.ofInt 64 (IntKind.u64.wrap (((BitVec.toNat (BitVec.ofInt 64 (IntKind.u64.wrap (((BitVec.toNat (BitVec.ofInt 64 (IntKind.u64.wrap (((BitVec.toNat (BitVec.ofInt 64 x1727 ^^^ BitVec.ofInt 64 (IntKind.u64.wrap (x1727 * 8192))) : Nat) : Int))) ^^^ BitVec.ofInt 64 (Int.fdiv (IntKind.u64.wrap (((BitVec.toNat (BitVec.ofInt 64 x1727 ^^^ BitVec.ofInt 64 (IntKind.u64.wrap (x1727 * 8192))) : Nat) : Int))) 128)) : Nat) : Int))) ^^^ BitVec.ofInt 64 (IntKind.u64.wrap ((IntKind.u64.wrap (((BitVec.toNat (BitVec.ofInt 64 (IntKind.u64.wrap (((BitVec.toNat (BitVec.ofInt 64 x1727 ^^^ BitVec.ofInt 64 (IntKind.u64.wrap (x1727 * 8192))) : Nat) : Int))) ^^^ BitVec.ofInt 64 (Int.fdiv (IntKind.u64.wrap (((BitVec.toNat (BitVec.ofInt 64 x1727 ^^^ BitVec.ofInt 64 (IntKind.u64.wrap (x1727 * 8192))) : Nat) : Int))) 128)) : Nat) : Int))) * 131072))) : Nat) : Int))) &&& BitVec.ofInt 64 (IntKind.u64.wrap (t1699 - (1 : Int)))) : Nat) : Int)))) ≥ (IntKind.i64.wrap (a2 - a1)))) = true then (some (IntKind.i64.wrap ((IntKind.i64.wrap (IntKind.u64.wrap (((BitVec.toNat (BitVec.ofInt 64 (IntKind.u64.wrap (((BitVec.toNat (BitVec.ofInt 64 (IntKind.u64.wrap (((BitVec.toNat (BitVec.ofInt 64 (IntKind.u64.wrap (((BitVec.toNat (BitVec.ofInt 64 x1727 ^^^ BitVec.ofInt 64 (IntKind.u64.wrap (x1727 * 8192))) : Nat) : Int))) ^^^ BitVec.ofInt 64 (Int.fdiv (IntKind.u64.wrap (((BitVec.toNat (BitVec.ofInt 64 x1727 ^^^ BitVec.ofInt 64 (IntKind.u64.wrap (x1727 * 8192))) : Nat) : Int))) 128)) : Nat) : Int))) ^^^ BitVec.ofInt 64 (IntKind.u64.wrap ((IntKind.u64.wrap (((BitVec.toNat (BitVec.ofInt 64 (IntKind.u64.wrap (((BitVec.toNat (BitVec.ofInt 64 x1727 ^^^ BitVec.ofInt 64 (IntKind.u64.wrap (x1727 * 8192))) : Nat) : Int))) ^^^ BitVec.ofInt 64 (Int.fdiv (IntKind.u64.wrap (((BitVec.toNat (BitVec.ofInt 64 x1727 ^^^ BitVec.ofInt 64 (IntKind.u64.wrap (x1727 * 8192))) : Nat) : Int))) 128)) : Nat) : Int))) * 131072))) : Nat) : Int))) &&& BitVec.ofInt 64 (IntKind.u64.wrap (t1699 - (1 : Int)))) : Nat) : Int)))) - (IntKind.i64.wrap (a2 - a1))))) else (some (IntKind.i64.wrap (IntKind.u64.wrap (((BitVec.toNat (BitVec.ofInt 64 (IntKind.u64.wrap (((BitVec.toNat (BitVec.ofInt 64 (IntKind.u64.wrap (((BitVec.toNat (BitVec.ofInt 64 (IntKind.u64.wrap (((BitVec.toNat (BitVec.ofInt 64 x1727 ^^^ BitVec.ofInt 64 (IntKind.u64.wrap (x1727 * 8192))) : Nat) : Int))) ^^^ BitVec.ofInt 64 (Int.fdiv (IntKind.u64.wrap (((BitVec.toNat (BitVec.ofInt 64 x1727 ^^^ BitVec.ofInt 64 (IntKind.u64.wrap (x1727 * 8192))) : Nat) : Int))) 128)) : Nat) : Int))) ^^^ BitVec.ofInt 64 (IntKind.u64.wrap ((IntKind.u64.wrap (((BitVec.toNat (BitVec.ofInt 64 (IntKind.u64.wrap (((BitVec.toNat (BitVec.ofInt 64 x1727 ^^^ BitVec.ofInt 64 (IntKind.u64.wrap (x1727 * 8192))) : Nat) : Int))) ^^^ BitVec.ofInt 64 (Int.fdiv (IntKind.u64.wrap (((BitVec.toNat (BitVec.ofInt 64 x1727 ^^^ BitVec.ofInt 64 (IntKind.u64.wrap (x1727 * 8192))) : Nat) : Int))) 128)) : Nat) : Int))) * 131072))) : Nat) : Int))) &&& BitVec.ofInt 64 (IntKind.u64.wrap (t1699 - (1 : Int)))) : Nat) : Int)))))) : Option (Int)) >>= fun x1735 => (at? x1726 (IntKind.i64.wrap (a1 + x1735))) >>= fun b1745 => (at? x1726 x1728) >>= fun b1748 => (at? (x1726.set (Int.toNat (x1728)) b1745) (IntKind.i64.wrap (a1 + x1735))) >>= fun b1751 => f_slices_breakPatternsCmpFunc_tomb_Range_tomb_Of_2.l0 a1 a2 t1699 ((x1726.set (Int.toNat (x1728)) b1745).set (Int.toNat (IntKind.i64.wrap (a1 + x1735))) b1748) (IntKind.u64.wrap (((BitVec.toNat (BitVec.ofInt 64 (IntKind.u64.wrap (((BitVec.toNat (BitVec.ofInt 64 (IntKind.u64.wrap (((BitVec.toNat (BitVec.ofInt 64 x1727 ^^^ BitVec.ofInt 64 (IntKind.u64.wrap (x1727 * 8192))) : Nat) : Int))) ^^^ BitVec.ofInt 64 (Int.fdiv (IntKind.u64.wrap (((BitVec.toNat (BitVec.ofInt 64 x1727 ^^^ BitVec.ofInt 64 (IntKind.u64.wrap (x1727 * 8192))) : Nat) : Int))) 128)) : Nat) : Int))) ^^^ BitVec.ofInt 64 (IntKind.u64.wrap ((IntKind.u64.wrap (((BitVec.toNat (BitVec.ofInt 64 (IntKind.u64.wrap (((BitVec.toNat (BitVec.ofInt 64 x1727 ^^^ BitVec.ofInt 64 (IntKind.u64.wrap (x1727 * 8192))) : Nat) : Int))) ^^^ BitVec.ofInt 64 (Int.fdiv (IntKind.u64.wrap (((BitVec.toNat (BitVec.ofInt 64 x1727 ^^^ BitVec.ofInt 64 (IntKind.u64.wrap (x1727 * 8192))) : Nat) : Int))) 128)) : Nat) : Int))) * 131072))) : Nat) : Int))) (IntKind.i64.wrap (x1728 + (1 : Int)))) else (some x1726)
partial_fixpoint
def f_slices_breakPatternsCmpFunc_tomb_Range_tomb_Of_2.f (a0 : List Ttomb_Range) (a1 : Int) (a2 : Int) : Option (List Ttomb_Range) := ((if (decide ((IntKind.i64.wrap (a2 - a1)) ≥ (8 : Int))) = true then ((f_slices_nextPowerOfTwo.f (IntKind.i64.wrap (a2 - a1))) >>= fun t1699 => (f_slices_breakPatternsCmpFunc_tomb_Range_tomb_Of_2.l0 a1 a2 t1699 a0 (IntKind.u64.wrap (IntKind.i64.wrap (a2 - a1))) (IntKind.i64.wrap ((IntKind.i64.wrap (a1 + (IntKind.i64.wrap ((IntKind.i64.wrap (Int.tdiv (IntKind.i64.wrap (a2 - a1)) (4 : Int))) * (2 : Int))))) - (1 : Int)))) >>= fun x1754 => some x1754) else (some a0)) : Option (List Ttomb_Range)) >>= fun x1755 => some x1755
theorem f_slices_breakPatternsCmpFunc_tomb_Range_tomb_Of_2.ok (a0 : List Ttomb_Range) (a1 : Int) (a2 : Int) (r : List Ttomb_Range) (H : f_slices_breakPatternsCmpFunc_tomb_Range_tomb_Of_2.f a0 a1 a2 = some r) : Pv.Fn Try.prog 122 [.own 0, iV .i64 a1, iV .i64 a2, .im (.sc (.func (.func 59) #[] #[]))] [(0, some (.row 2 64 (a0.map etomb_Range)))] 1 (fun x o => x = .tup [] ∧ o = [(0, some (.row 2 64 (r.map etomb_Range)))]) := by
  unfold f_slices_breakPatternsCmpFunc_tomb_Range_tomb_Of_2.f at H
  refine Fn.bodyK [0] Try.func122 rfl rfl (fun Γ hP hn => ?_)
  have hm : Try.prog.follows .mixedOrders = true := by kernel_rfl
  replace hn : Γ.n = 67 := hn
  refine AWp.seq ?_
  refine reg hP hn hm [] [0, 1, 8] [0] ⟨[(0, .own 0), (1, iV .i64 a1), (8, iV .i64 (IntKind.i64.wrap (a2 - a1)))], [(0, some (.row 2 64 (a0.map etomb_Range)))], 1⟩ [] (by kernel_rfl) trivial ?_
  refine AWp.seq ?_
  refine reg hP hn hm [] [0, 1, 8, 17] [0] ⟨[(0, .own 0), (1, iV .i64 a1), (8, iV .i64 (IntKind.i64.wrap (a2 - a1))), (17, bV (decide ((IntKind.i64.wrap (a2 - a1)) ≥ (8 : Int))))], [(0, some (.row 2 64 (a0.map etomb_Range)))], 1⟩ [] (by kernel_rfl) trivial ?_
  obtain ⟨o1756, e1757, H⟩ := bind_of H
  refine AWp.mono (Q := fun e s => (match (generalizing := false) o1756 with | x1755 => e = .normal ∧ s = ⟨[], [(0, some (.row 2 64 (x1755.map etomb_Range)))], 1⟩)) (AWp.cv ?_) ?_
  · replace H := e1757; clear e1757
    refine AWp.cond (decide ((IntKind.i64.wrap (a2 - a1)) ≥ (8 : Int))) rfl (fun c1690 => ?_) (fun c1690 => ?_)
    · replace H := (ifT c1690).symm.trans H
      refine AWp.seq ?_
      refine reg hP hn hm [(2, .k 1)] [0, 1, 8, 9] [0, 1] ⟨[(0, .own 0), (1, iV .i64 a1), (8, iV .i64 (IntKind.i64.wrap (a2 - a1))), (9, .ptr 1 0 0)], [(0, some (.row 2 64 (a0.map etomb_Range))), (1, some (.box 201 [iV .u64 (IntKind.u64.wrap (IntKind.i64.wrap (a2 - a1)))]))], 1⟩ [] (by kernel_rfl) trivial ?_
      refine AWp.seq ?_
      obtain ⟨t1699, e1700, H⟩ := bind_of H
      refine reg hP hn hm [(1, .call [] [] [] [] 0 (iV .u64 t1699) [])] [0, 1, 8, 9, 10] [0, 1] ⟨[(0, .own 0), (1, iV .i64 a1), (8, iV .i64 (IntKind.i64.wrap (a2 - a1))), (9, .ptr 1 0 0), (10, iV .u64 t1699)], [(0, some (.row 2 64 (a0.map etomb_Range))), (1, some (.box 201 [iV .u64 (IntKind.u64.wrap (IntKind.i64.wrap (a2 - a1)))]))], 1⟩ [Enters Try.prog 143, Pv.Fn Try.prog 143 [iV .i64 (IntKind.i64.wrap (a2 - a1))] [] 0 (fun r o => r = iV .u64 t1699 ∧ o = [])] (by kernel_rfl) ⟨by exact Try.call143, by exact f_slices_nextPowerOfTwo.ok (IntKind.i64.wrap (a2 - a1)) t1699 e1700, trivial⟩ ?_
      refine AWp.seq ?_
      refine reg hP hn hm [] [0, 1, 8, 9, 10, 11] [0, 1] ⟨[(0, .own 0), (1, iV .i64 a1), (8, iV .i64 (IntKind.i64.wrap (a2 - a1))), (9, .ptr 1 0 0), (10, iV .u64 t1699), (11, iV .i64 (IntKind.i64.wrap ((IntKind.i64.wrap (a1 + (IntKind.i64.wrap ((IntKind.i64.wrap (Int.tdiv (IntKind.i64.wrap (a2 - a1)) (4 : Int))) * (2 : Int))))) - (1 : Int))))], [(0, some (.row 2 64 (a0.map etomb_Range))), (1, some (.box 201 [iV .u64 (IntKind.u64.wrap (IntKind.i64.wrap (a2 - a1)))]))], 1⟩ [(4 : Int) ≠ 0] (by kernel_rfl) ⟨by decide, trivial⟩ ?_
      refine AWp.block ?_
      obtain ⟨o1758, e1759, H⟩ := bind_of H
      refine AWp.loop (LWp.conv (inv := [(0, 0), (1, 3)]) (vk := []) (e0 := []) (t := ⟨[(0, .own 0), (1, iV .i64 a1), (8, iV .i64 (IntKind.i64.wrap (a2 - a1))), (9, .ptr 3 0 0), (10, iV .u64 t1699), (11, iV .i64 (IntKind.i64.wrap ((IntKind.i64.wrap (a1 + (IntKind.i64.wrap ((IntKind.i64.wrap (Int.tdiv (IntKind.i64.wrap (a2 - a1)) (4 : Int))) * (2 : Int))))) - (1 : Int))))], [(0, some (.row 2 64 (a0.map etomb_Range))), (3, some (.box 201 [iV .u64 (IntKind.u64.wrap (IntKind.i64.wrap (a2 - a1)))]))], 1⟩) (by kernel_rfl) ?_)
      refine LWp.mono (Q := fun e s => (match (generalizing := false) o1758 with | x1754 => e = .exit 0 ∧ s = ⟨[], [(0, some (.row 2 64 (x1754.map etomb_Range)))], 1⟩)) (LWp.cv (withBody (fun body hbody => ?_))) ?_
      · refine f_slices_breakPatternsCmpFunc_tomb_Range_tomb_Of_2.l0.partial_correctness a1 a2 t1699 (motive := fun x1726 x1727 x1728 o1758 => LWp Γ body (fun e s => ∃ t, Cv Γ s t ∧ (match (generalizing := false) o1758 with | x1754 => e = .exit 0 ∧ t = ⟨[], [(0, some (.row 2 64 (x1754.map etomb_Range)))], 1⟩)) ⟨[(0, .own 0), (1, iV .i64 a1), (8, iV .i64 (IntKind.i64.wrap (a2 - a1))), (9, .ptr 3 0 0), (10, iV .u64 t1699), (11, iV .i64 x1728)], [(0, some (.row 2 64 (x1726.map etomb_Range))), (3, some (.box 201 [iV .u64 x1727]))], 1⟩) ?_ _ _ _ _ e1759
        clear H e1759 o1758; intro self ih x1726 x1727 x1728 o1758 H
        subst hbody
        refine LWp.round ?_
        refine AWp.seq ?_
        refine AWp.seq ?_
        refine reg hP hn hm [] [0, 1, 8, 9, 10, 11, 35] [0, 3] ⟨[(0, .own 0), (1, iV .i64 a1), (8, iV .i64 (IntKind.i64.wrap (a2 - a1))), (9, .ptr 3 0 0), (10, iV .u64 t1699), (11, iV .i64 x1728), (35, bV (decide (x1728 ≤ (IntKind.i64.wrap ((IntKind.i64.wrap (a1 + (IntKind.i64.wrap ((IntKind.i64.wrap (Int.tdiv (IntKind.i64.wrap (a2 - a1)) (4 : Int))) * (2 : Int))))) + (1 : Int))))))], [(0, some (.row 2 64 (x1726.map etomb_Range))), (3, some (.box 201 [iV .u64 x1727]))], 1⟩ [(4 : Int) ≠ 0] (by kernel_rfl) ⟨by decide, trivial⟩ ?_
        refine AWp.cond (decide (x1728 ≤ (IntKind.i64.wrap ((IntKind.i64.wrap (a1 + (IntKind.i64.wrap ((IntKind.i64.wrap (Int.tdiv (IntKind.i64.wrap (a2 - a1)) (4 : Int))) * (2 : Int))))) + (1 : Int))))) rfl (fun c1729 => ?_) (fun c1729 => ?_)
        · replace H := (ifT c1729).symm.trans H
          refine AWp.skip ?_
          refine AWp.seq ?_
          refine AWp.block ?_
          refine AWp.seq ?_
          obtain ⟨t1732, e1733, H⟩ := bind_of H
          refine reg hP hn hm [(0, .call [(3, 0)] [(0, 3)] [] [] 1 (iV .u64 (IntKind.u64.wrap (((BitVec.toNat (BitVec.ofInt 64 (IntKind.u64.wrap (((BitVec.toNat (BitVec.ofInt 64 (IntKind.u64.wrap (((BitVec.toNat (BitVec.ofInt 64 x1727 ^^^ BitVec.ofInt 64 (IntKind.u64.wrap (x1727 * 8192))) : Nat) : Int))) ^^^ BitVec.ofInt 64 (Int.fdiv (IntKind.u64.wrap (((BitVec.toNat (BitVec.ofInt 64 x1727 ^^^ BitVec.ofInt 64 (IntKind.u64.wrap (x1727 * 8192))) : Nat) : Int))) 128)) : Nat) : Int))) ^^^ BitVec.ofInt 64 (IntKind.u64.wrap ((IntKind.u64.wrap (((BitVec.toNat (BitVec.ofInt 64 (IntKind.u64.wrap (((BitVec.toNat (BitVec.ofInt 64 x1727 ^^^ BitVec.ofInt 64 (IntKind.u64.wrap (x1727 * 8192))) : Nat) : Int))) ^^^ BitVec.ofInt 64 (Int.fdiv (IntKind.u64.wrap (((BitVec.toNat (BitVec.ofInt 64 x1727 ^^^ BitVec.ofInt 64 (IntKind.u64.wrap (x1727 * 8192))) : Nat) : Int))) 128)) : Nat) : Int))) * 131072))) : Nat) : Int)))) [(0, some (.box 201 [iV .u64 (IntKind.u64.wrap (((BitVec.toNat (BitVec.ofInt 64 (IntKind.u64.wrap (((BitVec.toNat (BitVec.ofInt 64 (IntKind.u64.wrap (((BitVec.toNat (BitVec.ofInt 64 x1727 ^^^ BitVec.ofInt 64 (IntKind.u64.wrap (x1727 * 8192))) : Nat) : Int))) ^^^ BitVec.ofInt 64 (Int.fdiv (IntKind.u64.wrap (((BitVec.toNat (BitVec.ofInt 64 x1727 ^^^ BitVec.ofInt 64 (IntKind.u64.wrap (x1727 * 8192))) : Nat) : Int))) 128)) : Nat) : Int))) ^^^ BitVec.ofInt 64 (IntKind.u64.wrap ((IntKind.u64.wrap (((BitVec.toNat (BitVec.ofInt 64 (IntKind.u64.wrap (((BitVec.toNat (BitVec.ofInt 64 x1727 ^^^ BitVec.ofInt 64 (IntKind.u64.wrap (x1727 * 8192))) : Nat) : Int))) ^^^ BitVec.ofInt 64 (Int.fdiv (IntKind.u64.wrap (((BitVec.toNat (BitVec.ofInt 64 x1727 ^^^ BitVec.ofInt 64 (IntKind.u64.wrap (x1727 * 8192))) : Nat) : Int))) 128)) : Nat) : Int))) * 131072))) : Nat) : Int)))]))])] [0, 1, 8, 9, 10, 11, 12] [0, 3] ⟨[(0, .own 0), (1, iV .i64 a1), (8, iV .i64 (IntKind.i64.wrap (a2 - a1))), (9, .ptr 3 0 0), (10, iV .u64 t1699), (11, iV .i64 x1728), (12, iV .i64 (IntKind.i64.wrap (IntKind.u64.wrap (((BitVec.toNat (BitVec.ofInt 64 (IntKind.u64.wrap (((BitVec.toNat (BitVec.ofInt 64 (IntKind.u64.wrap (((BitVec.toNat (BitVec.ofInt 64 (IntKind.u64.wrap (((BitVec.toNat (BitVec.ofInt 64 x1727 ^^^ BitVec.ofInt 64 (IntKind.u64.wrap (x1727 * 8192))) : Nat) : Int))) ^^^ BitVec.ofInt 64 (Int.fdiv (IntKind.u64.wrap (((BitVec.toNat (BitVec.ofInt 64 x1727 ^^^ BitVec.ofInt 64 (IntKind.u64.wrap (x1727 * 8192))) : Nat) : Int))) 128)) : Nat) : Int))) ^^^ BitVec.ofInt 64 (IntKind.u64.wrap ((IntKind.u64.wrap (((BitVec.toNat (BitVec.ofInt 64 (IntKind.u64.wrap (((BitVec.toNat (BitVec.ofInt 64 x1727 ^^^ BitVec.ofInt 64 (IntKind.u64.wrap (x1727 * 8192))) : Nat) : Int))) ^^^ BitVec.ofInt 64 (Int.fdiv (IntKind.u64.wrap (((BitVec.toNat (BitVec.ofInt 64 x1727 ^^^ BitVec.ofInt 64 (IntKind.u64.wrap (x1727 * 8192))) : Nat) : Int))) 128)) : Nat) : Int))) * 131072))) : Nat) : Int))) &&& BitVec.ofInt 64 (IntKind.u64.wrap (t1699 - (1 : Int)))) : Nat) : Int)))))], [(0, some (.row 2 64 (x1726.map etomb_Range))), (3, some (.box 201 [iV .u64 (IntKind.u64.wrap (((BitVec.toNat (BitVec.ofInt 64 (IntKind.u64.wrap (((BitVec.toNat (BitVec.ofInt 64 (IntKind.u64.wrap (((BitVec.toNat (BitVec.ofInt 64 x1727 ^^^ BitVec.ofInt 64 (IntKind.u64.wrap (x1727 * 8192))) : Nat) : Int))) ^^^ BitVec.ofInt 64 (Int.fdiv (IntKind.u64.wrap (((BitVec.toNat (BitVec.ofInt 64 x1727 ^^^ BitVec.ofInt 64 (IntKind.u64.wrap (x1727 * 8192))) : Nat) : Int))) 128)) : Nat) : Int))) ^^^ BitVec.ofInt 64 (IntKind.u64.wrap ((IntKind.u64.wrap (((BitVec.toNat (BitVec.ofInt 64 (IntKind.u64.wrap (((BitVec.toNat (BitVec.ofInt 64 x1727 ^^^ BitVec.ofInt 64 (IntKind.u64.wrap (x1727 * 8192))) : Nat) : Int))) ^^^ BitVec.ofInt 64 (Int.fdiv (IntKind.u64.wrap (((BitVec.toNat (BitVec.ofInt 64 x1727 ^^^ BitVec.ofInt 64 (IntKind.u64.wrap (x1727 * 8192))) : Nat) : Int))) 128)) : Nat) : Int))) * 131072))) : Nat) : Int)))]))], 1⟩ [Enters Try.prog 144, Pv.Fn Try.prog 144 [.ptr 0 0 0] [(0, some (.box 201 [iV .u64 x1727]))] 1 (fun r o => r = iV .u64 (IntKind.u64.wrap (((BitVec.toNat (BitVec.ofInt 64 (IntKind.u64.wrap (((BitVec.toNat (BitVec.ofInt 64 (IntKind.u64.wrap (((BitVec.toNat (BitVec.ofInt 64 x1727 ^^^ BitVec.ofInt 64 (IntKind.u64.wrap (x1727 * 8192))) : Nat) : Int))) ^^^ BitVec.ofInt 64 (Int.fdiv (IntKind.u64.wrap (((BitVec.toNat (BitVec.ofInt 64 x1727 ^^^ BitVec.ofInt 64 (IntKind.u64.wrap (x1727 * 8192))) : Nat) : Int))) 128)) : Nat) : Int))) ^^^ BitVec.ofInt 64 (IntKind.u64.wrap ((IntKind.u64.wrap (((BitVec.toNat (BitVec.ofInt 64 (IntKind.u64.wrap (((BitVec.toNat (BitVec.ofInt 64 x1727 ^^^ BitVec.ofInt 64 (IntKind.u64.wrap (x1727 * 8192))) : Nat) : Int))) ^^^ BitVec.ofInt 64 (Int.fdiv (IntKind.u64.wrap (((BitVec.toNat (BitVec.ofInt 64 x1727 ^^^ BitVec.ofInt 64 (IntKind.u64.wrap (x1727 * 8192))) : Nat) : Int))) 128)) : Nat) : Int))) * 131072))) : Nat) : Int))) ∧ o = [(0, some (.box 201 [iV .u64 (IntKind.u64.wrap (((BitVec.toNat (BitVec.ofInt 64 (IntKind.u64.wrap (((BitVec.toNat (BitVec.ofInt 64 (IntKind.u64.wrap (((BitVec.toNat (BitVec.ofInt 64 x1727 ^^^ BitVec.ofInt 64 (IntKind.u64.wrap (x1727 * 8192))) : Nat) : Int))) ^^^ BitVec.ofInt 64 (Int.fdiv (IntKind.u64.wrap (((BitVec.toNat (BitVec.ofInt 64 x1727 ^^^ BitVec.ofInt 64 (IntKind.u64.wrap (x1727 * 8192))) : Nat) : Int))) 128)) : Nat) : Int))) ^^^ BitVec.ofInt 64 (IntKind.u64.wrap ((IntKind.u64.wrap (((BitVec.toNat (BitVec.ofInt 64 (IntKind.u64.wrap (((BitVec.toNat (BitVec.ofInt 64 x1727 ^^^ BitVec.ofInt 64 (IntKind.u64.wrap (x1727 * 8192))) : Nat) : Int))) ^^^ BitVec.ofInt 64 (Int.fdiv (IntKind.u64.wrap (((BitVec.toNat (BitVec.ofInt 64 x1727 ^^^ BitVec.ofInt 64 (IntKind.u64.wrap (x1727 * 8192))) : Nat) : Int))) 128)) : Nat) : Int))) * 131072))) : Nat) : Int)))]))])] (by kernel_rfl) ⟨by exact Try.call144, by exact f_slices_xorshift_Next_6cb.ok x1727 t1732 e1733, trivial⟩ ?_
          refine AWp.seq ?_
          refine AWp.seq ?_
          refine reg hP hn hm [] [0, 1, 8, 9, 10, 11, 12, 45] [0, 3] ⟨[(0, .own 0), (1, iV .i64 a1), (8, iV .i64 (IntKind.i64.wrap (a2 - a1))), (9, .ptr 3 0 0), (10, iV .u64 t1699), (11, iV .i64 x1728), (12, iV .i64 (IntKind.i64.wrap (IntKind.u64.wrap (((BitVec.toNat (BitVec.ofInt 64 (IntKind.u64.wrap (((BitVec.toNat (BitVec.ofInt 64 (IntKind.u64.wrap (((BitVec.toNat (BitVec.ofInt 64 (IntKind.u64.wrap (((BitVec.toNat (BitVec.ofInt 64 x1727 ^^^ BitVec.ofInt 64 (IntKind.u64.wrap (x1727 * 8192))) : Nat) : Int))) ^^^ BitVec.ofInt 64 (Int.fdiv (IntKind.u64.wrap (((BitVec.toNat (BitVec.ofInt 64 x1727 ^^^ BitVec.ofInt 64 (IntKind.u64.wrap (x1727 * 8192))) : Nat) : Int))) 128)) : Nat) : Int))) ^^^ BitVec.ofInt 64 (IntKind.u64.wrap ((IntKind.u64.wrap (((BitVec.toNat (BitVec.ofInt 64 (IntKind.u64.wrap (((BitVec.toNat (BitVec.ofInt 64 x1727 ^^^ BitVec.ofInt 64 (IntKind.u64.wrap (x1727 * 8192))) : Nat) : Int))) ^^^ BitVec.ofInt 64 (Int.fdiv (IntKind.u64.wrap (((BitVec.toNat (BitVec.ofInt 64 x1727 ^^^ BitVec.ofInt 64 (IntKind.u64.wrap (x1727 * 8192))) : Nat) : Int))) 128)) : Nat) : Int))) * 131072))) : Nat) : Int))) &&& BitVec.ofInt 64 (IntKind.u64.wrap (t1699 - (1 : Int)))) : Nat) : Int))))), (45, bV (decide ((IntKind.i64.wrap (IntKind.u64.wrap (((BitVec.toNat (BitVec.ofInt 64 (IntKind.u64.wrap (((BitVec.toNat (BitVec.ofInt 64 (IntKind.u64.wrap (((BitVec.toNat (BitVec.ofInt 64 (IntKind.u64.wrap (((BitVec.toNat (BitVec.ofInt 64 x1727 ^^^ BitVec.ofInt 64 (IntKind.u64.wrap (x1727 * 8192))) : Nat) : Int))) ^^^ BitVec.ofInt 64 (Int.fdiv (IntKind.u64.wrap (((BitVec.toNat (BitVec.ofInt 64 x1727 ^^^ BitVec.ofInt 64 (IntKind.u64.wrap (x1727 * 8192))) : Nat) : Int))) 128)) : Nat) : Int))) ^^^ BitVec.ofInt 64 (IntKind.u64.wrap ((IntKind.u64.wrap (((BitVec.toNat (BitVec.ofInt 64 (IntKind.u64.wrap (((BitVec.toNat (BitVec.ofInt 64 x1727 ^^^ BitVec.ofInt 64 (IntKind.u64.wrap (x1727 * 8192))) : Nat) : Int))) ^^^ BitVec.ofInt 64 (Int.fdiv (IntKind.u64.wrap (((BitVec.toNat (BitVec.ofInt 64 x1727 ^^^ BitVec.ofInt 64 (IntKind.u64.wrap (x1727 * 8192))) : Nat) : Int))) 128)) : Nat) : Int))) * 131072))) : Nat) : Int))) &&& BitVec.ofInt 64 (IntKind.u64.wrap (t1699 - (1 : Int)))) : Nat) : Int)))) ≥ (IntKind.i64.wrap (a2 - a1)))))], [(0, some (.row 2 64 (x1726.map etomb_Range))), (3, some (.box 201 [iV .u64 (IntKind.u64.wrap (((BitVec.toNat (BitVec.ofInt 64 (IntKind.u64.wrap (((BitVec.toNat (BitVec.ofInt 64 (IntKind.u64.wrap (((BitVec.toNat (BitVec.ofInt 64 x1727 ^^^ BitVec.ofInt 64 (IntKind.u64.wrap (x1727 * 8192))) : Nat) : Int))) ^^^ BitVec.ofInt 64 (Int.fdiv (IntKind.u64.wrap (((BitVec.toNat (BitVec.ofInt 64 x1727 ^^^ BitVec.ofInt 64 (IntKind.u64.wrap (x1727 * 8192))) : Nat) : Int))) 128)) : Nat) : Int))) ^^^ BitVec.ofInt 64 (IntKind.u64.wrap ((IntKind.u64.wrap (((BitVec.toNat (BitVec.ofInt 64 (IntKind.u64.wrap (((BitVec.toNat (BitVec.ofInt 64 x1727 ^^^ BitVec.ofInt 64 (IntKind.u64.wrap (x1727 * 8192))) : Nat) : Int))) ^^^ BitVec.ofInt 64 (Int.fdiv (IntKind.u64.wrap (((BitVec.toNat (BitVec.ofInt 64 x1727 ^^^ BitVec.ofInt 64 (IntKind.u64.wrap (x1727 * 8192))) : Nat) : Int))) 128)) : Nat) : Int))) * 131072))) : Nat) : Int)))]))], 1⟩ [] (by kernel_rfl) trivial ?_
          obtain ⟨o1760, e1761, H⟩ := bind_of H
          refine AWp.mono (Q := fun e s => (match (generalizing := false) o1760 with | x1735 => e = .normal ∧ s = ⟨[(0, .own 0), (1, iV .i64 a1), (8, iV .i64 (IntKind.i64.wrap (a2 - a1))), (9, .ptr 4 0 0), (10, iV .u64 t1699), (11, iV .i64 x1728), (12, iV .i64 x1735)], [(0, some (.row 2 64 (x1726.map etomb_Range))), (4, some (.box 201 [iV .u64 (IntKind.u64.wrap (((BitVec.toNat (BitVec.ofInt 64 (IntKind.u64.wrap (((BitVec.toNat (BitVec.ofInt 64 (IntKind.u64.wrap (((BitVec.toNat (BitVec.ofInt 64 x1727 ^^^ BitVec.ofInt 64 (IntKind.u64.wrap (x1727 * 8192))) : Nat) : Int))) ^^^ BitVec.ofInt 64 (Int.fdiv (IntKind.u64.wrap (((BitVec.toNat (BitVec.ofInt 64 x1727 ^^^ BitVec.ofInt 64 (IntKind.u64.wrap (x1727 * 8192))) : Nat) : Int))) 128)) : Nat) : Int))) ^^^ BitVec.ofInt 64 (IntKind.u64.wrap ((IntKind.u64.wrap (((BitVec.toNat (BitVec.ofInt 64 (IntKind.u64.wrap (((BitVec.toNat (BitVec.ofInt 64 x1727 ^^^ BitVec.ofInt 64 (IntKind.u64.wrap (x1727 * 8192))) : Nat) : Int))) ^^^ BitVec.ofInt 64 (Int.fdiv (IntKind.u64.wrap (((BitVec.toNat (BitVec.ofInt 64 x1727 ^^^ BitVec.ofInt 64 (IntKind.u64.wrap (x1727 * 8192))) : Nat) : Int))) 128)) : Nat) : Int))) * 131072))) : Nat) : Int)))]))], 1⟩)) (AWp.cv ?_) ?_
          · replace H := e1761; clear e1761
            refine AWp.cond (decide ((IntKind.i64.wrap (IntKind.u64.wrap (((BitVec.toNat (BitVec.ofInt 64 (IntKind.u64.wrap (((BitVec.toNat (BitVec.ofInt 64 (IntKind.u64.wrap (((BitVec.toNat (BitVec.ofInt 64 (IntKind.u64.wrap (((BitVec.toNat (BitVec.ofInt 64 x1727 ^^^ BitVec.ofInt 64 (IntKind.u64.wrap (x1727 * 8192))) : Nat) : Int))) ^^^ BitVec.ofInt 64 (Int.fdiv (IntKind.u64.wrap (((BitVec.toNat (BitVec.ofInt 64 x1727 ^^^ BitVec.ofInt 64 (IntKind.u64.wrap (x1727 * 8192))) : Nat) : Int))) 128)) : Nat) : Int))) ^^^ BitVec.ofInt 64 (IntKind.u64.wrap ((IntKind.u64.wrap (((BitVec.toNat (BitVec.ofInt 64 (IntKind.u64.wrap (((BitVec.toNat (BitVec.ofInt 64 x1727 ^^^ BitVec.ofInt 64 (IntKind.u64.wrap (x1727 * 8192))) : Nat) : Int))) ^^^ BitVec.ofInt 64 (Int.fdiv (IntKind.u64.wrap (((BitVec.toNat (BitVec.ofInt 64 x1727 ^^^ BitVec.ofInt 64 (IntKind.u64.wrap (x1727 * 8192))) : Nat) : Int))) 128)) : Nat) : Int))) * 131072))) : Nat) : Int))) &&& BitVec.ofInt 64 (IntKind.u64.wrap (t1699 - (1 : Int)))) : Nat) : Int)))) ≥ (IntKind.i64.wrap (a2 - a1)))) rfl (fun c1734 => ?_) (fun c1734 => ?_)
            · replace H := (ifT c1734).symm.trans H
              refine reg hP hn hm [] [0, 1, 8, 9, 10, 11, 12] [0, 3] ⟨[(0, .own 0), (1, iV .i64 a1), (8, iV .i64 (IntKind.i64.wrap (a2 - a1))), (9, .ptr 3 0 0), (10, iV .u64 t1699), (11, iV .i64 x1728), (12, iV .i64 (IntKind.i64.wrap ((IntKind.i64.wrap (IntKind.u64.wrap (((BitVec.toNat (BitVec.ofInt 64 (IntKind.u64.wrap (((BitVec.toNat (BitVec.ofInt 64 (IntKind.u64.wrap (((BitVec.toNat (BitVec.ofInt 64 (IntKind.u64.wrap (((BitVec.toNat (BitVec.ofInt 64 x1727 ^^^ BitVec.ofInt 64 (IntKind.u64.wrap (x1727 * 8192))) : Nat) : Int))) ^^^ BitVec.ofInt 64 (Int.fdiv (IntKind.u64.wrap (((BitVec.toNat (BitVec.ofInt 64 x1727 ^^^ BitVec.ofInt 64 (IntKind.u64.wrap (x1727 * 8192))) : Nat) : Int))) 128)) : Nat) : Int))) ^^^ BitVec.ofInt 64 (IntKind.u64.wrap ((IntKind.u64.wrap (((BitVec.toNat (BitVec.ofInt 64 (IntKind.u64.wrap (((BitVec.toNat (BitVec.ofInt 64 x1727 ^^^ BitVec.ofInt 64 (IntKind.u64.wrap (x1727 * 8192))) : Nat) : Int))) ^^^ BitVec.ofInt 64 (Int.fdiv (IntKind.u64.wrap (((BitVec.toNat (BitVec.ofInt 64 x1727 ^^^ BitVec.ofInt 64 (IntKind.u64.wrap (x1727 * 8192))) : Nat) : Int))) 128)) : Nat) : Int))) * 131072))) : Nat) : Int))) &&& BitVec.ofInt 64 (IntKind.u64.wrap (t1699 - (1 : Int)))) : Nat) : Int)))) - (IntKind.i64.wrap (a2 - a1)))))], [(0, some (.row 2 64 (x1726.map etomb_Range))), (3, some (.box 201 [iV .u64 (IntKind.u64.wrap (((BitVec.toNat (BitVec.ofInt 64 (IntKind.u64.wrap (((BitVec.toNat (BitVec.ofInt 64 (IntKind.u64.wrap (((BitVec.toNat (BitVec.ofInt 64 x1727 ^^^ BitVec.ofInt 64 (IntKind.u64.wrap (x1727 * 8192))) : Nat) : Int))) ^^^ BitVec.ofInt 64 (Int.fdiv (IntKind.u64.wrap (((BitVec.toNat (BitVec.ofInt 64 x1727 ^^^ BitVec.ofInt 64 (IntKind.u64.wrap (x1727 * 8192))) : Nat) : Int))) 128)) : Nat) : Int))) ^^^ BitVec.ofInt 64 (IntKind.u64.wrap ((IntKind.u64.wrap (((BitVec.toNat (BitVec.ofInt 64 (IntKind.u64.wrap (((BitVec.toNat (BitVec.ofInt 64 x1727 ^^^ BitVec.ofInt 64 (IntKind.u64.wrap (x1727 * 8192))) : Nat) : Int))) ^^^ BitVec.ofInt 64 (Int.fdiv (IntKind.u64.wrap (((BitVec.toNat (BitVec.ofInt 64 x1727 ^^^ BitVec.ofInt 64 (IntKind.u64.wrap (x1727 * 8192))) : Nat) : Int))) 128)) : Nat) : Int))) * 131072))) : Nat) : Int)))]))], 1⟩ [] (by kernel_rfl) trivial ?_
              obtain rfl := Option.some.inj H
              exact Exists.intro _ (And.intro (fun _ _ h => h.conv (inv := [(0, 0), (3, 4)]) (vk := []) (e0 := []) (t := ⟨[(0, .own 0), (1, iV .i64 a1), (8, iV .i64 (IntKind.i64.wrap (a2 - a1))), (9, .ptr 4 0 0), (10, iV .u64 t1699), (11, iV .i64 x1728), (12, iV .i64 (IntKind.i64.wrap ((IntKind.i64.wrap (IntKind.u64.wrap (((BitVec.toNat (BitVec.ofInt 64 (IntKind.u64.wrap (((BitVec.toNat (BitVec.ofInt 64 (IntKind.u64.wrap (((BitVec.toNat (BitVec.ofInt 64 (IntKind.u64.wrap (((BitVec.toNat (BitVec.ofInt 64 x1727 ^^^ BitVec.ofInt 64 (IntKind.u64.wrap (x1727 * 8192))) : Nat) : Int))) ^^^ BitVec.ofInt 64 (Int.fdiv (IntKind.u64.wrap (((BitVec.toNat (BitVec.ofInt 64 x1727 ^^^ BitVec.ofInt 64 (IntKind.u64.wrap (x1727 * 8192))) : Nat) : Int))) 128)) : Nat) : Int))) ^^^ BitVec.ofInt 64 (IntKind.u64.wrap ((IntKind.u64.wrap (((BitVec.toNat (BitVec.ofInt 64 (IntKind.u64.wrap (((BitVec.toNat (BitVec.ofInt 64 x1727 ^^^ BitVec.ofInt 64 (IntKind.u64.wrap (x1727 * 8192))) : Nat) : Int))) ^^^ BitVec.ofInt 64 (Int.fdiv (IntKind.u64.wrap (((BitVec.toNat (BitVec.ofInt 64 x1727 ^^^ BitVec.ofInt 64 (IntKind.u64.wrap (x1727 * 8192))) : Nat) : Int))) 128)) : Nat) : Int))) * 131072))) : Nat) : Int))) &&& BitVec.ofInt 64 (IntKind.u64.wrap (t1699 - (1 : Int)))) : Nat) : Int)))) - (IntKind.i64.wrap (a2 - a1)))))], [(0, some (.row 2 64 (x1726.map etomb_Range))), (4, some (.box 201 [iV .u64 (IntKind.u64.wrap (((BitVec.toNat (BitVec.ofInt 64 (IntKind.u64.wrap (((BitVec.toNat (BitVec.ofInt 64 (IntKind.u64.wrap (((BitVec.toNat (BitVec.ofInt 64 x1727 ^^^ BitVec.ofInt 64 (IntKind.u64.wrap (x1727 * 8192))) : Nat) : Int))) ^^^ BitVec.ofInt 64 (Int.fdiv (IntKind.u64.wrap (((BitVec.toNat (BitVec.ofInt 64 x1727 ^^^ BitVec.ofInt 64 (IntKind.u64.wrap (x1727 * 8192))) : Nat) : Int))) 128)) : Nat) : Int))) ^^^ BitVec.ofInt 64 (IntKind.u64.wrap ((IntKind.u64.wrap (((BitVec.toNat (BitVec.ofInt 64 (IntKind.u64.wrap (((BitVec.toNat (BitVec.ofInt 64 x1727 ^^^ BitVec.ofInt 64 (IntKind.u64.wrap (x1727 * 8192))) : Nat) : Int))) ^^^ BitVec.ofInt 64 (Int.fdiv (IntKind.u64.wrap (((BitVec.toNat (BitVec.ofInt 64 x1727 ^^^ BitVec.ofInt 64 (IntKind.u64.wrap (x1727 * 8192))) : Nat) : Int))) 128)) : Nat) : Int))) * 131072))) : Nat) : Int)))]))], 1⟩) (by kernel_rfl)) (And.intro rfl rfl))
            · replace H := (ifF c1734).symm.trans H
              refine AWp.skip ?_
              obtain rfl := Option.some.inj H
              exact Exists.intro _ (And.intro (fun _ _ h => h.conv (inv := [(0, 0), (3, 4)]) (vk := []) (e0 := []) (t := ⟨[(0, .own 0), (1, iV .i64 a1), (8, iV .i64 (IntKind.i64.wrap (a2 - a1))), (9, .ptr 4 0 0), (10, iV .u64 t1699), (11, iV .i64 x1728), (12, iV .i64 (IntKind.i64.wrap (IntKind.u64.wrap (((BitVec.toNat (BitVec.ofInt 64 (IntKind.u64.wrap (((BitVec.toNat (BitVec.ofInt 64 (IntKind.u64.wrap (((BitVec.toNat (BitVec.ofInt 64 (IntKind.u64.wrap (((BitVec.toNat (BitVec.ofInt 64 x1727 ^^^ BitVec.ofInt 64 (IntKind.u64.wrap (x1727 * 8192))) : Nat) : Int))) ^^^ BitVec.ofInt 64 (Int.fdiv (IntKind.u64.wrap (((BitVec.toNat (BitVec.ofInt 64 x1727 ^^^ BitVec.ofInt 64 (IntKind.u64.wrap (x1727 * 8192))) : Nat) : Int))) 128)) : Nat) : Int))) ^^^ BitVec.ofInt 64 (IntKind.u64.wrap ((IntKind.u64.wrap (((BitVec.toNat (BitVec.ofInt 64 (IntKind.u64.wrap (((BitVec.toNat (BitVec.ofInt 64 x1727 ^^^ BitVec.ofInt 64 (IntKind.u64.wrap (x1727 * 8192))) : Nat) : Int))) ^^^ BitVec.ofInt 64 (Int.fdiv (IntKind.u64.wrap (((BitVec.toNat (BitVec.ofInt 64 x1727 ^^^ BitVec.ofInt 64 (IntKind.u64.wrap (x1727 * 8192))) : Nat) : Int))) 128)) : Nat) : Int))) * 131072))) : Nat) : Int))) &&& BitVec.ofInt 64 (IntKind.u64.wrap (t1699 - (1 : Int)))) : Nat) : Int)))))], [(0, some (.row 2 64 (x1726.map etomb_Range))), (4, some (.box 201 [iV .u64 (IntKind.u64.wrap (((BitVec.toNat (BitVec.ofInt 64 (IntKind.u64.wrap (((BitVec.toNat (BitVec.ofInt 64 (IntKind.u64.wrap (((BitVec.toNat (BitVec.ofInt 64 x1727 ^^^ BitVec.ofInt 64 (IntKind.u64.wrap (x1727 * 8192))) : Nat) : Int))) ^^^ BitVec.ofInt 64 (Int.fdiv (IntKind.u64.wrap (((BitVec.toNat (BitVec.ofInt 64 x1727 ^^^ BitVec.ofInt 64 (IntKind.u64.wrap (x1727 * 8192))) : Nat) : Int))) 128)) : Nat) : Int))) ^^^ BitVec.ofInt 64 (IntKind.u64.wrap ((IntKind.u64.wrap (((BitVec.toNat (BitVec.ofInt 64 (IntKind.u64.wrap (((BitVec.toNat (BitVec.ofInt 64 x1727 ^^^ BitVec.ofInt 64 (IntKind.u64.wrap (x1727 * 8192))) : Nat) : Int))) ^^^ BitVec.ofInt 64 (Int.fdiv (IntKind.u64.wrap (((BitVec.toNat (BitVec.ofInt 64 x1727 ^^^ BitVec.ofInt 64 (IntKind.u64.wrap (x1727 * 8192))) : Nat) : Int))) 128)) : Nat) : Int))) * 131072))) : Nat) : Int)))]))], 1⟩) (by kernel_rfl)) (And.intro rfl rfl))
          · obtain ⟨x1735, rfl⟩ : ∃ z, z = o1760 := ⟨_, rfl⟩
            rintro e s ⟨rfl, rfl⟩
            obtain ⟨b1745, p1746, q1747, H⟩ := at_of H
            obtain ⟨b1748, p1749, q1750, H⟩ := at_of H
            obtain ⟨b1751, p1752, q1753, H⟩ := at_of H
            refine reg hP hn hm [(11, .c (etomb_Range b1745)), (15, .c (etomb_Range b1748)), (17, .put (etomb_Range b1748) ((x1726.set (Int.toNat (x1728)) b1745).map etomb_Range)), (19, .put (etomb_Range b1751) (((x1726.set (Int.toNat (x1728)) b1745).set (Int.toNat (IntKind.i64.wrap (a1 + x1735))) b1748).map etomb_Range))] [0, 1, 8, 9, 10, 11] [0, 4] ⟨[(0, .own 0), (1, iV .i64 a1), (8, iV .i64 (IntKind.i64.wrap (a2 - a1))), (9, .ptr 4 0 0), (10, iV .u64 t1699), (11, iV .i64 x1728)], [(0, some (.row 2 64 (((x1726.set (Int.toNat (x1728)) b1745).set (Int.toNat (IntKind.i64.wrap (a1 + x1735))) b1748).map etomb_Range))), (4, some (.box 201 [iV .u64 (IntKind.u64.wrap (((BitVec.toNat (BitVec.ofInt 64 (IntKind.u64.wrap (((BitVec.toNat (BitVec.ofInt 64 (IntKind.u64.wrap (((BitVec.toNat (BitVec.ofInt 64 x1727 ^^^ BitVec.ofInt 64 (IntKind.u64.wrap (x1727 * 8192))) : Nat) : Int))) ^^^ BitVec.ofInt 64 (Int.fdiv (IntKind.u64.wrap (((BitVec.toNat (BitVec.ofInt 64 x1727 ^^^ BitVec.ofInt 64 (IntKind.u64.wrap (x1727 * 8192))) : Nat) : Int))) 128)) : Nat) : Int))) ^^^ BitVec.ofInt 64 (IntKind.u64.wrap ((IntKind.u64.wrap (((BitVec.toNat (BitVec.ofInt 64 (IntKind.u64.wrap (((BitVec.toNat (BitVec.ofInt 64 x1727 ^^^ BitVec.ofInt 64 (IntKind.u64.wrap (x1727 * 8192))) : Nat) : Int))) ^^^ BitVec.ofInt 64 (Int.fdiv (IntKind.u64.wrap (((BitVec.toNat (BitVec.ofInt 64 x1727 ^^^ BitVec.ofInt 64 (IntKind.u64.wrap (x1727 * 8192))) : Nat) : Int))) 128)) : Nat) : Int))) * 131072))) : Nat) : Int)))]))], 1⟩ [0 ≤ (IntKind.i64.wrap (a1 + x1735)), IntKind.i64.wrap (a1 + x1735) < (((x1726.map etomb_Range).length : Nat) : Int), (x1726.map etomb_Range)[(Int.toNat (IntKind.i64.wrap (a1 + x1735)))]? = some (etomb_Range b1745), 0 ≤ x1728, x1728 < (((x1726.map etomb_Range).length : Nat) : Int), (x1726.map etomb_Range)[(Int.toNat (x1728))]? = some (etomb_Range b1748), 0 ≤ x1728, x1728 < (((x1726.map etomb_Range).length : Nat) : Int), (x1726.map etomb_Range)[(Int.toNat (x1728))]? = some (etomb_Range b1748), (x1726.set (Int.toNat (x1728)) b1745).map etomb_Range = (x1726.map etomb_Range).set (Int.toNat (x1728)) (splice (etomb_Range b1748) 0 [iI .i64 b1745.f0, iI .i64 b1745.f1]), 0 ≤ (IntKind.i64.wrap (a1 + x1735)), IntKind.i64.wrap (a1 + x1735) < ((((x1726.set (Int.toNat (x1728)) b1745).map etomb_Range).length : Nat) : Int), ((x1726.set (Int.toNat (x1728)) b1745).map etomb_Range)[(Int.toNat (IntKind.i64.wrap (a1 + x1735)))]? = some (etomb_Range b1751), ((x1726.set (Int.toNat (x1728)) b1745).set (Int.toNat (IntKind.i64.wrap (a1 + x1735))) b1748).map etomb_Range = ((x1726.set (Int.toNat (x1728)) b1745).map etomb_Range).set (Int.toNat (IntKind.i64.wrap (a1 + x1735))) (splice (etomb_Range b1751) 0 [iI .i64 b1748.f0, iI .i64 b1748.f1])] (by kernel_rfl) ⟨by exact p1746, by exact el_lt etomb_Range p1746 q1747, by exact el_map etomb_Range q1747, by exact p1749, by exact el_lt etomb_Range p1749 q1750, by exact el_map etomb_Range q1750, by exact p1749, by exact el_lt etomb_Range p1749 q1750, by exact el_map etomb_Range q1750, by exact set1 _ _ _ _, by exact p1752, by exact el_lt etomb_Range p1752 q1753, by exact el_map etomb_Range q1753, by exact set1 _ _ _ _, trivial⟩ ?_
            refine reg hP hn hm [] [0, 1, 8, 9, 10, 11] [0, 4] ⟨[(0, .own 0), (1, iV .i64 a1), (8, iV .i64 (IntKind.i64.wrap (a2 - a1))), (9, .ptr 4 0 0), (10, iV .u64 t1699), (11, iV .i64 (IntKind.i64.wrap (x1728 + (1 : Int))))], [(0, some (.row 2 64 (((x1726.set (Int.toNat (x1728)) b1745).set (Int.toNat (IntKind.i64.wrap (a1 + x1735))) b1748).map etomb_Range))), (4, some (.box 201 [iV .u64 (IntKind.u64.wrap (((BitVec.toNat (BitVec.ofInt 64 (IntKind.u64.wrap (((BitVec.toNat (BitVec.ofInt 64 (IntKind.u64.wrap (((BitVec.toNat (BitVec.ofInt 64 x1727 ^^^ BitVec.ofInt 64 (IntKind.u64.wrap (x1727 * 8192))) : Nat) : Int))) ^^^ BitVec.ofInt 64 (Int.fdiv (IntKind.u64.wrap (((BitVec.toNat (BitVec.ofInt 64 x1727 ^^^ BitVec.ofInt 64 (IntKind.u64.wrap (x1727 * 8192))) : Nat) : Int))) 128)) : Nat) : Int))) ^^^ BitVec.ofInt 64 (IntKind.u64.wrap ((IntKind.u64.wrap (((BitVec.toNat (BitVec.ofInt 64 (IntKind.u64.wrap (((BitVec.toNat (BitVec.ofInt 64 x1727 ^^^ BitVec.ofInt 64 (IntKind.u64.wrap (x1727 * 8192))) : Nat) : Int))) ^^^ BitVec.ofInt 64 (Int.fdiv (IntKind.u64.wrap (((BitVec.toNat (BitVec.ofInt 64 x1727 ^^^ BitVec.ofInt 64 (IntKind.u64.wrap (x1727 * 8192))) : Nat) : Int))) 128)) : Nat) : Int))) * 131072))) : Nat) : Int)))]))], 1⟩ [] (by kernel_rfl) trivial ?_
            exact LWp.conv (inv := [(0, 0), (4, 3)]) (vk := []) (e0 := []) (t := ⟨[(0, .own 0), (1, iV .i64 a1), (8, iV .i64 (IntKind.i64.wrap (a2 - a1))), (9, .ptr 3 0 0), (10, iV .u64 t1699), (11, iV .i64 (IntKind.i64.wrap (x1728 + (1 : Int))))], [(0, some (.row 2 64 (((x1726.set (Int.toNat (x1728)) b1745).set (Int.toNat (IntKind.i64.wrap (a1 + x1735))) b1748).map etomb_Range))), (3, some (.box 201 [iV .u64 (IntKind.u64.wrap (((BitVec.toNat (BitVec.ofInt 64 (IntKind.u64.wrap (((BitVec.toNat (BitVec.ofInt 64 (IntKind.u64.wrap (((BitVec.toNat (BitVec.ofInt 64 x1727 ^^^ BitVec.ofInt 64 (IntKind.u64.wrap (x1727 * 8192))) : Nat) : Int))) ^^^ BitVec.ofInt 64 (Int.fdiv (IntKind.u64.wrap (((BitVec.toNat (BitVec.ofInt 64 x1727 ^^^ BitVec.ofInt 64 (IntKind.u64.wrap (x1727 * 8192))) : Nat) : Int))) 128)) : Nat) : Int))) ^^^ BitVec.ofInt 64 (IntKind.u64.wrap ((IntKind.u64.wrap (((BitVec.toNat (BitVec.ofInt 64 (IntKind.u64.wrap (((BitVec.toNat (BitVec.ofInt 64 x1727 ^^^ BitVec.ofInt 64 (IntKind.u64.wrap (x1727 * 8192))) : Nat) : Int))) ^^^ BitVec.ofInt 64 (Int.fdiv (IntKind.u64.wrap (((BitVec.toNat (BitVec.ofInt 64 x1727 ^^^ BitVec.ofInt 64 (IntKind.u64.wrap (x1727 * 8192))) : Nat) : Int))) 128)) : Nat) : Int))) * 131072))) : Nat) : Int)))]))], 1⟩) (by kernel_rfl) (ih _ _ _ _ H)
        · replace H := (ifF c1729).symm.trans H
          refine AWp.exit ?_
          obtain rfl := Option.some.inj H
          exact Exists.intro _ (And.intro (fun _ _ h => h.conv (inv := [(0, 0)]) (vk := []) (e0 := []) (t := ⟨[], [(0, some (.row 2 64 (x1726.map etomb_Range)))], 1⟩) (by kernel_rfl)) (And.intro rfl rfl))
      · obtain ⟨x1754, rfl⟩ : ∃ z, z = o1758 := ⟨_, rfl⟩
        rintro e s ⟨rfl, rfl⟩
        obtain rfl := Option.some.inj H
        exact Exists.intro _ (And.intro (fun _ _ h => h.conv (inv := [(0, 0)]) (vk := []) (e0 := []) (t := ⟨[], [(0, some (.row 2 64 (x1754.map etomb_Range)))], 1⟩) (by kernel_rfl)) (And.intro rfl rfl))
    · replace H := (ifF c1690).symm.trans H
      refine AWp.skip ?_
      obtain rfl := Option.some.inj H
      exact Exists.intro _ (And.intro (fun _ _ h => h.conv (inv := [(0, 0)]) (vk := []) (e0 := []) (t := ⟨[], [(0, some (.row 2 64 (a0.map etomb_Range)))], 1⟩) (by kernel_rfl)) (And.intro rfl rfl))
  · obtain ⟨x1755, rfl⟩ : ∃ z, z = o1756 := ⟨_, rfl⟩
    rintro e s ⟨rfl, rfl⟩
    obtain rfl := Option.some.inj H
    exact Exists.intro ⟨[], [(0, some (.row 2 64 (x1755.map etomb_Range)))], 1⟩ (And.intro (fun _ _ h => h.conv (inv := [(0, 0)]) (vk := []) (e0 := []) (t := ⟨[], [(0, some (.row 2 64 (x1755.map etomb_Range)))], 1⟩) (by kernel_rfl)) (And.intro (.inr rfl) (And.intro rfl (And.intro (by kernel_rfl) (by kernel_rfl)))))
def f_slices_pdqsortCmpFunc_tomb_Range_tomb_Of_2.l0 (self : (List Ttomb_Range) → Int → Int → Int → Option (List Ttomb_Range)) (x1839 : List Ttomb_Range) (x1840 : Int) (x1841 : Int) (x1842 : Int) (x1843 : Bool) (x1844 : Bool) : Option (List Ttomb_Range) := ((if (decide ((IntKind.i64.wrap (x1841 - x1840)) ≤ (12 : Int))) = true then ((f_slices_insertionSortCmpFunc_tomb_Range_tomb_Of_2.f x1839 x1840 x1841) >>= fun t1848 => some (.inl t1848)) else (if (x1842 == (0 : Int)) = true then ((f_slices_heapSortCmpFunc_tomb_Range_tomb_Of_2.f x1839 x1840 x1841) >>= fun t1853 => some (.inl t1853)) else (((if (!x1843) = true then ((f_slices_breakPatternsCmpFunc_tomb_Range_tomb_Of_2.f x1839 x1840 x1841) >>= fun t1858 => some (t1858, IntKind.i64.wrap (x1842 - (1 : Int)))) else (some (x1839, x1842))) : Option ((List Ttomb_Range) × Int)) >>= fun oo => match oo with | (x1860, x1861) => ((f_slices_choosePivotCmpFunc_tomb_Range_tomb_Of_2.f x1860 x1840 x1841) >>= fun t1864 => ((if (t1864.2 == (2 : Int)) = true then ((f_slices_reverseRangeCmpFunc_tomb_Range_tomb_Of_2.f x1860 x1840 x1841) >>= fun t1869 => some (t1869, IntKind.i64.wrap ((IntKind.i64.wrap (x1841 - (1 : Int))) - (IntKind.i64.wrap (t1864.1 - x1840))), 1)) else (some (x1860, t1864.1, t1864.2))) : Option ((List Ttomb_Range) × Int × Int)) >>= fun oo => match oo with | (x1871, x1872, x1873) => (((if x1843 = true then (if x1844 = true then (some (x1873 == (1 : Int))) else (some false)) else (some false)) : Option (Bool)) >>= fun x1878 => ((if x1878 = true then ((f_slices_partialInsertionSortCmpFunc_tomb_Range_tomb_Of_2.f x1871 x1840 x1841) >>= fun t1882 => if t1882.1 = true then (some (.inl t1882.2)) else (some (.inr t1882.2))) else (some (.inr x1871))) : Option ((List Ttomb_Range) ⊕ (List Ttomb_Range))) >>= fun oo => match oo with | .inl rr => (some (.inl rr)) | .inr x1885 => (((if (decide (x1840 > (0 : Int))) = true then ((at? x1885 (IntKind.i64.wrap (x1840 - (1 : Int)))) >>= fun b1896 => (at? x1885 x1872) >>= fun b1899 => (f_tomb_Of_2.f b1896 b1899) >>= fun t1902 => some (!(decide (t1902 < (0 : Int))))) else (some false)) : Option (Bool)) >>= fun x1904 => if x1904 = true then ((f_slices_partitionEqualCmpFunc_tomb_Range_tomb_Of_2.f x1885 x1840 x1841 x1872) >>= fun t1908 => some (.inr (t1908.2, t1908.1, x1841, x1861, x1843, x1844))) else ((f_slices_partitionCmpFunc_tomb_Range_tomb_Of_2.f x1885 x1840 x1841 x1872) >>= fun t1912 => ((if (decide ((IntKind.i64.wrap (t1912.1 - x1840)) < (IntKind.i64.wrap (x1841 - t1912.1)))) = true then ((self t1912.2.2 x1840 t1912.1 x1861) >>= fun t1917 => some (t1917, IntKind.i64.wrap (t1912.1 + (1 : Int)), x1841, (decide ((IntKind.i64.wrap (t1912.1 - x1840)) ≥ (IntKind.i64.wrap (Int.tdiv (IntKind.i64.wrap (x1841 - x1840)) (8 : Int))))))) else ((self t1912.2.2 (IntKind.i64.wrap (t1912.1 + (1 : Int))) x1841 x1861) >>= fun t1921 => some (t1921, x1840, t1912.1, (decide ((IntKind.i64.wrap (x1841 - t1912.1)) ≥ (IntKind.i64.wrap (Int.tdiv (IntKind.i64.wrap (x1841 - x1840)) (8 : Int)))))))) : Option ((List Ttomb_Range) × Int × Int × Bool)) >>= fun oo => match oo with | (x1923, x1924, x1925, x1926) => (some (.inr (x1923, x1924, x1925, x1861, x1926, t1912.2.1)))))))))) : Option ((List Ttomb_Range) ⊕ ((List Ttomb_Range) × Int × Int × Int × Bool × Bool))) >>= fun oo => match oo with | .inl rr => (some rr) | .inr (x1927, x1928, x1929, x1930, x1931, x1932) => (f_slices_pdqsortCmpFunc_tomb_Range_tomb_Of_2.l0 self x1927 x1928 x1929 x1930 x1931 x1932)
partial_fixpoint
def f_slices_pdqsortCmpFunc_tomb_Range_tomb_Of_2.fu : Nat → (List Ttomb_Range) → Int → Int → Int → Option (List Ttomb_Range)
  | 0, _, _, _, _ => none
  | k + 1, a0, a1, a2, a3 => (f_slices_pdqsortCmpFunc_tomb_Range_tomb_Of_2.l0 (f_slices_pdqsortCmpFunc_tomb_Range_tomb_Of_2.fu k) a0 a1 a2 a3 true true) >>= fun rr => some rr
def f_slices_pdqsortCmpFunc_tomb_Range_tomb_Of_2.f (a0 : List Ttomb_Range) (a1 : Int) (a2 : Int) (a3 : Int) : Option (List Ttomb_Range) := f_slices_pdqsortCmpFunc_tomb_Range_tomb_Of_2.fu 100 a0 a1 a2 a3
theorem f_slices_pdqsortCmpFunc_tomb_Range_tomb_Of_2.oku (k : Nat) (a0 : List Ttomb_Range) (a1 : Int) (a2 : Int) (a3 : Int) (r : List Ttomb_Range) (H : f_slices_pdqsortCmpFunc_tomb_Range_tomb_Of_2.fu k a0 a1 a2 a3 = some r) : Pv.Fn Try.prog 94 [.own 0, iV .i64 a1, iV .i64 a2, iV .i64 a3, .im (.sc (.func (.func 59) #[] #[]))] [(0, some (.row 2 64 (a0.map etomb_Range)))] 1 (fun x o => x = .tup [] ∧ o = [(0, some (.row 2 64 (r.map etomb_Range)))]) := by
  induction k generalizing a0 a1 a2 a3 r with
  | zero => simp [f_slices_pdqsortCmpFunc_tomb_Range_tomb_Of_2.fu] at H
  | succ k ihF =>
  rw [f_slices_pdqsortCmpFunc_tomb_Range_tomb_Of_2.fu] at H
  refine Fn.bodyK [0] Try.func94 rfl rfl (fun Γ hP hn => ?_)
  have hm : Try.prog.follows .mixedOrders = true := by kernel_rfl
  replace hn : Γ.n = 148 := hn
  refine AWp.seq ?_
  refine reg hP hn hm [] [0, 1, 2, 3, 4, 10] [0] ⟨[(0, .own 0), (1, iV .i64 a1), (2, iV .i64 a2), (3, iV .i64 a3), (4, .im (.sc (.func (.func 59) #[] #[]))), (10, bV true)], [(0, some (.row 2 64 (a0.map etomb_Range)))], 1⟩ [] (by kernel_rfl) trivial ?_
  refine AWp.seq ?_
  refine reg hP hn hm [] [0, 1, 2, 3, 4, 10, 11] [0] ⟨[(0, .own 0), (1, iV .i64 a1), (2, iV .i64 a2), (3, iV .i64 a3), (4, .im (.sc (.func (.func 59) #[] #[]))), (10, bV true), (11, bV true)], [(0, some (.row 2 64 (a0.map etomb_Range)))], 1⟩ [] (by kernel_rfl) trivial ?_
  refine AWp.block ?_
  obtain ⟨o1933, e1934, H⟩ := bind_of H
  refine AWp.loop (LWp.conv (inv := [(0, 0)]) (vk := []) (e0 := []) (t := ⟨[(0, .own 0), (1, iV .i64 a1), (2, iV .i64 a2), (3, iV .i64 a3), (4, .im (.sc (.func (.func 59) #[] #[]))), (10, bV true), (11, bV true)], [(0, some (.row 2 64 (a0.map etomb_Range)))], 1⟩) (by kernel_rfl) ?_)
  refine LWp.mono (Q := fun e s => (match (generalizing := false) o1933 with | rr => e = .ret ∧ s.floor = 1 ∧ resOf Try.prog Try.f94 s = some (.tup []) ∧ ([(0, s.obj 0)] : List (Nat × Option MObj)) = [(0, some (.row 2 64 (rr.map etomb_Range)))])) (LWp.cv (withBody (fun body hbody => ?_))) ?_
  · refine f_slices_pdqsortCmpFunc_tomb_Range_tomb_Of_2.l0.partial_correctness (f_slices_pdqsortCmpFunc_tomb_Range_tomb_Of_2.fu k) (motive := fun x1839 x1840 x1841 x1842 x1843 x1844 o1933 => LWp Γ body (fun e s => ∃ t, Cv Γ s t ∧ (match (generalizing := false) o1933 with | rr => e = .ret ∧ t.floor = 1 ∧ resOf Try.prog Try.f94 t = some (.tup []) ∧ ([(0, t.obj 0)] : List (Nat × Option MObj)) = [(0, some (.row 2 64 (rr.map etomb_Range)))])) ⟨[(0, .own 0), (1, iV .i64 x1840), (2, iV .i64 x1841), (3, iV .i64 x1842), (4, .im (.sc (.func (.func 59) #[] #[]))), (10, bV x1843), (11, bV x1844)], [(0, some (.row 2 64 (x1839.map etomb_Range)))], 1⟩) ?_ _ _ _ _ _ _ _ e1934
    clear H e1934 o1933; intro self ih x1839 x1840 x1841 x1842 x1843 x1844 o1933 H
    subst hbody
    refine LWp.round ?_
    obtain ⟨o1935, e1936, H⟩ := bind_of H
    refine AWp.mono (Q := fun e s => (match (generalizing := false) o1935 with | .inl rr => e = .ret ∧ s.floor = 1 ∧ resOf Try.prog Try.f94 s = some (.tup []) ∧ ([(0, s.obj 0)] : List (Nat × Option MObj)) = [(0, some (.row 2 64 (rr.map etomb_Range)))] | .inr (x1927, x1928, x1929, x1930, x1931, x1932) => e = .normal ∧ s = ⟨[(0, .own 0), (1, iV .i64 x1928), (2, iV .i64 x1929), (3, iV .i64 x1930), (4, .im (.sc (.func (.func 59) #[] #[]))), (10, bV x1931), (11, bV x1932)], [(0, some (.row 2 64 (x1927.map etomb_Range)))], 1⟩)) (AWp.cv ?_) ?_
    · replace H := e1936; clear e1936
      refine AWp.block ?_
      refine AWp.seq ?_
      refine reg hP hn hm [] [0, 1, 2, 3, 4, 10, 11, 12] [0] ⟨[(0, .own 0), (1, iV .i64 x1840), (2, iV .i64 x1841), (3, iV .i64 x1842), (4, .im (.sc (.func (.func 59) #[] #[]))), (10, bV x1843), (11, bV x1844), (12, iV .i64 (IntKind.i64.wrap (x1841 - x1840)))], [(0, some (.row 2 64 (x1839.map etomb_Range)))], 1⟩ [] (by kernel_rfl) trivial ?_
      refine AWp.seq ?_
      refine AWp.seq ?_
      refine reg hP hn hm [] [0, 1, 2, 3, 4, 10, 11, 12, 25] [0] ⟨[(0, .own 0), (1, iV .i64 x1840), (2, iV .i64 x1841), (3, iV .i64 x1842), (4, .im (.sc (.func (.func 59) #[] #[]))), (10, bV x1843), (11, bV x1844), (12, iV .i64 (IntKind.i64.wrap (x1841 - x1840))), (25, bV (decide ((IntKind.i64.wrap (x1841 - x1840)) ≤ (12 : Int))))], [(0, some (.row 2 64 (x1839.map etomb_Range)))], 1⟩ [] (by kernel_rfl) trivial ?_
      refine AWp.cond (decide ((IntKind.i64.wrap (x1841 - x1840)) ≤ (12 : Int))) rfl (fun c1845 => ?_) (fun c1845 => ?_)
      · replace H := (ifT c1845).symm.trans H
        refine AWp.seq ?_
        obtain ⟨t1848, e1849, H⟩ := bind_of H
        refine reg hP hn hm [(4, .call [(0, 0)] [(0, 0)] [] [] 1 (.tup []) [(0, some (.row 2 64 (t1848.map etomb_Range)))])] [] [0] ⟨[], [(0, some (.row 2 64 (t1848.map etomb_Range)))], 1⟩ [Enters Try.prog 120, Pv.Fn Try.prog 120 [.own 0, iV .i64 x1840, iV .i64 x1841, .im (.sc (.func (.func 59) #[] #[]))] [(0, some (.row 2 64 (x1839.map etomb_Range)))] 1 (fun r o => r = .tup [] ∧ o = [(0, some (.row 2 64 (t1848.map etomb_Range)))])] (by kernel_rfl) ⟨by exact Try.call120, by exact f_slices_insertionSortCmpFunc_tomb_Range_tomb_Of_2.ok x1839 x1840 x1841 t1848 e1849, trivial⟩ ?_
        refine AWp.conv (inv := [(0, 0)]) (vk := []) (e0 := []) (t := ⟨[], [(0, some (.row 2 64 (t1848.map etomb_Range)))], 1⟩) (by kernel_rfl) ?_
        refine AWp.ret ?_
        obtain rfl := Option.some.inj H
        exact Exists.intro _ (And.intro (fun _ _ h => h) (And.intro rfl (And.intro rfl (And.intro (by kernel_rfl) (by kernel_rfl)))))
      · replace H := (ifF c1845).symm.trans H
        refine AWp.skip ?_
        refine AWp.seq ?_
        refine AWp.seq ?_
        refine reg hP hn hm [] [0, 1, 2, 3, 4, 10, 11, 12, 32] [0] ⟨[(0, .own 0), (1, iV .i64 x1840), (2, iV .i64 x1841), (3, iV .i64 x1842), (4, .im (.sc (.func (.func 59) #[] #[]))), (10, bV x1843), (11, bV x1844), (12, iV .i64 (IntKind.i64.wrap (x1841 - x1840))), (32, bV (x1842 == (0 : Int)))], [(0, some (.row 2 64 (x1839.map etomb_Range)))], 1⟩ [] (by kernel_rfl) trivial ?_
        refine AWp.cond (x1842 == (0 : Int)) rfl (fun c1850 => ?_) (fun c1850 => ?_)
        · replace H := (ifT c1850).symm.trans H
          refine AWp.seq ?_
          obtain ⟨t1853, e1854, H⟩ := bind_of H
          refine reg hP hn hm [(4, .call [(0, 0)] [(0, 0)] [] [] 1 (.tup []) [(0, some (.row 2 64 (t1853.map etomb_Range)))])] [] [0] ⟨[], [(0, some (.row 2 64 (t1853.map etomb_Range)))], 1⟩ [Enters Try.prog 121, Pv.Fn Try.prog 121 [.own 0, iV .i64 x1840, iV .i64 x1841, .im (.sc (.func (.func 59) #[] #[]))] [(0, some (.row 2 64 (x1839.map etomb_Range)))] 1 (fun r o => r = .tup [] ∧ o = [(0, some (.row 2 64 (t1853.map etomb_Range)))])] (by kernel_rfl) ⟨by exact Try.call121, by exact f_slices_heapSortCmpFunc_tomb_Range_tomb_Of_2.ok x1839 x1840 x1841 t1853 e1854, trivial⟩ ?_
          refine AWp.conv (inv := [(0, 0)]) (vk := []) (e0 := []) (t := ⟨[], [(0, some (.row 2 64 (t1853.map etomb_Range)))], 1⟩) (by kernel_rfl) ?_
          refine AWp.ret ?_
          obtain rfl := Option.some.inj H
          exact Exists.intro _ (And.intro (fun _ _ h => h) (And.intro rfl (And.intro rfl (And.intro (by kernel_rfl) (by kernel_rfl)))))
        · replace H := (ifF c1850).symm.trans H
          refine AWp.skip ?_
          refine AWp.seq ?_
          refine AWp.seq ?_
          refine reg hP hn hm [] [0, 1, 2, 3, 4, 10, 11, 12, 39] [0] ⟨[(0, .own 0), (1, iV .i64 x1840), (2, iV .i64 x1841), (3, iV .i64 x1842), (4, .im (.sc (.func (.func 59) #[] #[]))), (10, bV x1843), (11, bV x1844), (12, iV .i64 (IntKind.i64.wrap (x1841 - x1840))), (39, bV (!x1843))], [(0, some (.row 2 64 (x1839.map etomb_Range)))], 1⟩ [] (by kernel_rfl) trivial ?_
          obtain ⟨o1937, e1938, H⟩ := bind_of H
          refine AWp.mono (Q := fun e s => (match (generalizing := false) o1937 with | (x1860, x1861) => e = .normal ∧ s = ⟨[(0, .own 0), (1, iV .i64 x1840), (2, iV .i64 x1841), (3, iV .i64 x1861), (4, .im (.sc (.func (.func 59) #[] #[]))), (10, bV x1843), (11, bV x1844), (12, iV .i64 (IntKind.i64.wrap (x1841 - x1840)))], [(0, some (.row 2 64 (x1860.map etomb_Range)))], 1⟩)) (AWp.cv ?_) ?_
          · replace H := e1938; clear e1938
            refine AWp.cond (!x1843) rfl (fun c1855 => ?_) (fun c1855 => ?_)
            · replace H := (ifT c1855).symm.trans H
              refine AWp.seq ?_
              obtain ⟨t1858, e1859, H⟩ := bind_of H
              refine reg hP hn hm [(4, .call [(0, 0)] [(0, 0)] [] [] 1 (.tup []) [(0, some (.row 2 64 (t1858.map etomb_Range)))])] [0, 1, 2, 3, 4, 10, 11, 12] [0] ⟨[(0, .own 0), (1, iV .i64 x1840), (2, iV .i64 x1841), (3, iV .i64 x1842), (4, .im (.sc (.func (.func 59) #[] #[]))), (10, bV x1843), (11, bV x1844), (12, iV .i64 (IntKind.i64.wrap (x1841 - x1840)))], [(0, some (.row 2 64 (t1858.map etomb_Range)))], 1⟩ [Enters Try.prog 122, Pv.Fn Try.prog 122 [.own 0, iV .i64 x1840, iV .i64 x1841, .im (.sc (.func (.func 59) #[] #[]))] [(0, some (.row 2 64 (x1839.map etomb_Range)))] 1 (fun r o => r = .tup [] ∧ o = [(0, some (.row 2 64 (t1858.map etomb_Range)))])] (by kernel_rfl) ⟨by exact Try.call122, by exact f_slices_breakPatternsCmpFunc_tomb_Range_tomb_Of_2.ok x1839 x1840 x1841 t1858 e1859, trivial⟩ ?_
              refine reg hP hn hm [] [0, 1, 2, 3, 4, 10, 11, 12] [0] ⟨[(0, .own 0), (1, iV .i64 x1840), (2, iV .i64 x1841), (3, iV .i64 (IntKind.i64.wrap (x1842 - (1 : Int)))), (4, .im (.sc (.func (.func 59) #[] #[]))), (10, bV x1843), (11, bV x1844), (12, iV .i64 (IntKind.i64.wrap (x1841 - x1840)))], [(0, some (.row 2 64 (t1858.map etomb_Range)))], 1⟩ [] (by kernel_rfl) trivial ?_
              obtain rfl := Option.some.inj H
              exact Exists.intro _ (And.intro (fun _ _ h => h.conv (inv := [(0, 0)]) (vk := []) (e0 := []) (t := ⟨[(0, .own 0), (1, iV .i64 x1840), (2, iV .i64 x1841), (3, iV .i64 (IntKind.i64.wrap (x1842 - (1 : Int)))), (4, .im (.sc (.func (.func 59) #[] #[]))), (10, bV x1843), (11, bV x1844), (12, iV .i64 (IntKind.i64.wrap (x1841 - x1840)))], [(0, some (.row 2 64 (t1858.map etomb_Range)))], 1⟩) (by kernel_rfl)) (And.intro rfl rfl))
            · replace H := (ifF c1855).symm.trans H
              refine AWp.skip ?_
              obtain rfl := Option.some.inj H
              exact Exists.intro _ (And.intro (fun _ _ h => h.conv (inv := [(0, 0)]) (vk := []) (e0 := []) (t := ⟨[(0, .own 0), (1, iV .i64 x1840), (2, iV .i64 x1841), (3, iV .i64 x1842), (4, .im (.sc (.func (.func 59) #[] #[]))), (10, bV x1843), (11, bV x1844), (12, iV .i64 (IntKind.i64.wrap (x1841 - x1840)))], [(0, some (.row 2 64 (x1839.map etomb_Range)))], 1⟩) (by kernel_rfl)) (And.intro rfl rfl))
          · obtain ⟨x1860, x1861⟩ := o1937
            rintro e s ⟨rfl, rfl⟩
            refine AWp.seq ?_
            obtain ⟨t1864, e1865, H⟩ := bind_of H
            refine reg hP hn hm [(4, .call [(0, 0)] [(0, 0)] [] [] 1 (.tup [iV .i64 t1864.1, iV .i64 t1864.2]) [(0, some (.row 2 64 (x1860.map etomb_Range)))])] [0, 1, 2, 3, 4, 10, 11, 12, 13, 14] [0] ⟨[(0, .own 0), (1, iV .i64 x1840), (2, iV .i64 x1841), (3, iV .i64 x1861), (4, .im (.sc (.func (.func 59) #[] #[]))), (10, bV x1843), (11, bV x1844), (12, iV .i64 (IntKind.i64.wrap (x1841 - x1840))), (13, iV .i64 t1864.1), (14, iV .i64 t1864.2)], [(0, some (.row 2 64 (x1860.map etomb_Range)))], 1⟩ [Enters Try.prog 123, Pv.Fn Try.prog 123 [.own 0, iV .i64 x1840, iV .i64 x1841, .im (.sc (.func (.func 59) #[] #[]))] [(0, some (.row 2 64 (x1860.map etomb_Range)))] 1 (fun r o => r = .tup [iV .i64 t1864.1, iV .i64 t1864.2] ∧ o = [(0, some (.row 2 64 (x1860.map etomb_Range)))])] (by kernel_rfl) ⟨by exact Try.call123, by exact f_slices_choosePivotCmpFunc_tomb_Range_tomb_Of_2.ok x1860 x1840 x1841 t1864 e1865, trivial⟩ ?_
            refine AWp.seq ?_
            refine AWp.seq ?_
            refine reg hP hn hm [] [0, 1, 2, 3, 4, 10, 11, 12, 13, 14, 56] [0] ⟨[(0, .own 0), (1, iV .i64 x1840), (2, iV .i64 x1841), (3, iV .i64 x1861), (4, .im (.sc (.func (.func 59) #[] #[]))), (10, bV x1843), (11, bV x1844), (12, iV .i64 (IntKind.i64.wrap (x1841 - x1840))), (13, iV .i64 t1864.1), (14, iV .i64 t1864.2), (56, bV (t1864.2 == (2 : Int)))], [(0, some (.row 2 64 (x1860.map etomb_Range)))], 1⟩ [] (by kernel_rfl) trivial ?_
            obtain ⟨o1939, e1940, H⟩ := bind_of H
            refine AWp.mono (Q := fun e s => (match (generalizing := false) o1939 with | (x1871, x1872, x1873) => e = .normal ∧ s = ⟨[(0, .own 0), (1, iV .i64 x1840), (2, iV .i64 x1841), (3, iV .i64 x1861), (4, .im (.sc (.func (.func 59) #[] #[]))), (10, bV x1843), (11, bV x1844), (12, iV .i64 (IntKind.i64.wrap (x1841 - x1840))), (13, iV .i64 x1872), (14, iV .i64 x1873)], [(0, some (.row 2 64 (x1871.map etomb_Range)))], 1⟩)) (AWp.cv ?_) ?_
            · replace H := e1940; clear e1940
              refine AWp.cond (t1864.2 == (2 : Int)) rfl (fun c1866 => ?_) (fun c1866 => ?_)
              · replace H := (ifT c1866).symm.trans H
                refine AWp.seq ?_
                obtain ⟨t1869, e1870, H⟩ := bind_of H
                refine reg hP hn hm [(4, .call [(0, 0)] [(0, 0)] [] [] 1 (.tup []) [(0, some (.row 2 64 (t1869.map etomb_Range)))])] [0, 1, 2, 3, 4, 10, 11, 12, 13] [0] ⟨[(0, .own 0), (1, iV .i64 x1840), (2, iV .i64 x1841), (3, iV .i64 x1861), (4, .im (.sc (.func (.func 59) #[] #[]))), (10, bV x1843), (11, bV x1844), (12, iV .i64 (IntKind.i64.wrap (x1841 - x1840))), (13, iV .i64 t1864.1)], [(0, some (.row 2 64 (t1869.map etomb_Range)))], 1⟩ [Enters Try.prog 124, Pv.Fn Try.prog 124 [.own 0, iV .i64 x1840, iV .i64 x1841, .im (.sc (.func (.func 59) #[] #[]))] [(0, some (.row 2 64 (x1860.map etomb_Range)))] 1 (fun r o => r = .tup [] ∧ o = [(0, some (.row 2 64 (t1869.map etomb_Range)))])] (by kernel_rfl) ⟨by exact Try.call124, by exact f_slices_reverseRangeCmpFunc_tomb_Range_tomb_Of_2.ok x1860 x1840 x1841 t1869 e1870, trivial⟩ ?_
                refine AWp.seq ?_
                refine reg hP hn hm [] [0, 1, 2, 3, 4, 10, 11, 12, 13] [0] ⟨[(0, .own 0), (1, iV .i64 x1840), (2, iV .i64 x1841), (3, iV .i64 x1861), (4, .im (.sc (.func (.func 59) #[] #[]))), (10, bV x1843), (11, bV x1844), (12, iV .i64 (IntKind.i64.wrap (x1841 - x1840))), (13, iV .i64 (IntKind.i64.wrap ((IntKind.i64.wrap (x1841 - (1 : Int))) - (IntKind.i64.wrap (t1864.1 - x1840)))))], [(0, some (.row 2 64 (t1869.map etomb_Range)))], 1⟩ [] (by kernel_rfl) trivial ?_
                refine reg hP hn hm [] [0, 1, 2, 3, 4, 10, 11, 12, 13, 14] [0] ⟨[(0, .own 0), (1, iV .i64 x1840), (2, iV .i64 x1841), (3, iV .i64 x1861), (4, .im (.sc (.func (.func 59) #[] #[]))), (10, bV x1843), (11, bV x1844), (12, iV .i64 (IntKind.i64.wrap (x1841 - x1840))), (13, iV .i64 (IntKind.i64.wrap ((IntKind.i64.wrap (x1841 - (1 : Int))) - (IntKind.i64.wrap (t1864.1 - x1840))))), (14, iV .i64 1)], [(0, some (.row 2 64 (t1869.map etomb_Range)))], 1⟩ [] (by kernel_rfl) trivial ?_
                obtain rfl := Option.some.inj H
                exact Exists.intro _ (And.intro (fun _ _ h => h.conv (inv := [(0, 0)]) (vk := []) (e0 := []) (t := ⟨[(0, .own 0), (1, iV .i64 x1840), (2, iV .i64 x1841), (3, iV .i64 x1861), (4, .im (.sc (.func (.func 59) #[] #[]))), (10, bV x1843), (11, bV x1844), (12, iV .i64 (IntKind.i64.wrap (x1841 - x1840))), (13, iV .i64 (IntKind.i64.wrap ((IntKind.i64.wrap (x1841 - (1 : Int))) - (IntKind.i64.wrap (t1864.1 - x1840))))), (14, iV .i64 1)], [(0, some (.row 2 64 (t1869.map etomb_Range)))], 1⟩) (by kernel_rfl)) (And.intro rfl rfl))
              · replace H := (ifF c1866).symm.trans H
                refine AWp.skip ?_
                obtain rfl := Option.some.inj H
                exact Exists.intro _ (And.intro (fun _ _ h => h.conv (inv := [(0, 0)]) (vk := []) (e0 := []) (t := ⟨[(0, .own 0), (1, iV .i64 x1840), (2, iV .i64 x1841), (3, iV .i64 x1861), (4, .im (.sc (.func (.func 59) #[] #[]))), (10, bV x1843), (11, bV x1844), (12, iV .i64 (IntKind.i64.wrap (x1841 - x1840))), (13, iV .i64 t1864.1), (14, iV .i64 t1864.2)], [(0, some (.row 2 64 (x1860.map etomb_Range)))], 1⟩) (by kernel_rfl)) (And.intro rfl rfl))
            · obtain ⟨x1871, x1872, x1873⟩ := o1939
              rintro e s ⟨rfl, rfl⟩
              refine AWp.seq ?_
              refine AWp.seq ?_
              obtain ⟨o1941, e1942, H⟩ := bind_of H
              refine AWp.mono (Q := fun e s => (match (generalizing := false) o1941 with | x1878 => e = .normal ∧ s = ⟨[(0, .own 0), (1, iV .i64 x1840), (2, iV .i64 x1841), (3, iV .i64 x1861), (4, .im (.sc (.func (.func 59) #[] #[]))), (10, bV x1843), (11, bV x1844), (12, iV .i64 (IntKind.i64.wrap (x1841 - x1840))), (13, iV .i64 x1872), (75, bV x1878)], [(0, some (.row 2 64 (x1871.map etomb_Range)))], 1⟩)) (AWp.cv ?_) ?_
              · replace H := e1942; clear e1942
                rcases Bool.eq_false_or_eq_true x1843 with c1876 | c1876
                · replace H := (ifT c1876).symm.trans H
                  rcases Bool.eq_false_or_eq_true x1844 with c1877 | c1877
                  · replace H := (ifT c1877).symm.trans H
                    refine reg hP hn hm [(1, .b true), (4, .b true)] [0, 1, 2, 3, 4, 10, 11, 12, 13, 70, 73, 74, 75] [0] ⟨[(0, .own 0), (1, iV .i64 x1840), (2, iV .i64 x1841), (3, iV .i64 x1861), (4, .im (.sc (.func (.func 59) #[] #[]))), (10, bV x1843), (11, bV x1844), (12, iV .i64 (IntKind.i64.wrap (x1841 - x1840))), (13, iV .i64 x1872), (70, bV x1844), (73, iV .i64 x1873), (74, bV (x1873 == (1 : Int))), (75, bV (x1873 == (1 : Int)))], [(0, some (.row 2 64 (x1871.map etomb_Range)))], 1⟩ [x1843 = true, x1844 = true] (by kernel_rfl) ⟨by exact c1876, by exact c1877, trivial⟩ ?_
                    obtain rfl := Option.some.inj H
                    exact Exists.intro _ (And.intro (fun _ _ h => h.conv (inv := [(0, 0)]) (vk := []) (e0 := []) (t := ⟨[(0, .own 0), (1, iV .i64 x1840), (2, iV .i64 x1841), (3, iV .i64 x1861), (4, .im (.sc (.func (.func 59) #[] #[]))), (10, bV x1843), (11, bV x1844), (12, iV .i64 (IntKind.i64.wrap (x1841 - x1840))), (13, iV .i64 x1872), (75, bV (x1873 == (1 : Int)))], [(0, some (.row 2 64 (x1871.map etomb_Range)))], 1⟩) (by kernel_rfl)) (And.intro rfl rfl))
                  · replace H := (ifF c1877).symm.trans H
                    refine reg hP hn hm [(1, .b true), (4, .b false)] [0, 1, 2, 3, 4, 10, 11, 12, 13, 70, 75] [0] ⟨[(0, .own 0), (1, iV .i64 x1840), (2, iV .i64 x1841), (3, iV .i64 x1861), (4, .im (.sc (.func (.func 59) #[] #[]))), (10, bV x1843), (11, bV x1844), (12, iV .i64 (IntKind.i64.wrap (x1841 - x1840))), (13, iV .i64 x1872), (70, bV x1844), (75, bV false)], [(0, some (.row 2 64 (x1871.map etomb_Range)))], 1⟩ [x1843 = true, x1844 = false] (by kernel_rfl) ⟨by exact c1876, by exact c1877, trivial⟩ ?_
                    obtain rfl := Option.some.inj H
                    exact Exists.intro _ (And.intro (fun _ _ h => h.conv (inv := [(0, 0)]) (vk := []) (e0 := []) (t := ⟨[(0, .own 0), (1, iV .i64 x1840), (2, iV .i64 x1841), (3, iV .i64 x1861), (4, .im (.sc (.func (.func 59) #[] #[]))), (10, bV x1843), (11, bV x1844), (12, iV .i64 (IntKind.i64.wrap (x1841 - x1840))), (13, iV .i64 x1872), (75, bV false)], [(0, some (.row 2 64 (x1871.map etomb_Range)))], 1⟩) (by kernel_rfl)) (And.intro rfl rfl))
                · replace H := (ifF c1876).symm.trans H
                  refine reg hP hn hm [(1, .b false)] [0, 1, 2, 3, 4, 10, 11, 12, 13, 75] [0] ⟨[(0, .own 0), (1, iV .i64 x1840), (2, iV .i64 x1841), (3, iV .i64 x1861), (4, .im (.sc (.func (.func 59) #[] #[]))), (10, bV x1843), (11, bV x1844), (12, iV .i64 (IntKind.i64.wrap (x1841 - x1840))), (13, iV .i64 x1872), (75, bV false)], [(0, some (.row 2 64 (x1871.map etomb_Range)))], 1⟩ [x1843 = false] (by kernel_rfl) ⟨by exact c1876, trivial⟩ ?_
                  obtain rfl := Option.some.inj H
                  exact Exists.intro _ (And.intro (fun _ _ h => h.conv (inv := [(0, 0)]) (vk := []) (e0 := []) (t := ⟨[(0, .own 0), (1, iV .i64 x1840), (2, iV .i64 x1841), (3, iV .i64 x1861), (4, .im (.sc (.func (.func 59) #[] #[]))), (10, bV x1843), (11, bV x1844), (12, iV .i64 (IntKind.i64.wrap (x1841 - x1840))), (13, iV .i64 x1872), (75, bV false)], [(0, some (.row 2 64 (x1871.map etomb_Range)))], 1⟩) (by kernel_rfl)) (And.intro rfl rfl))
              · obtain ⟨x1878, rfl⟩ : ∃ z, z = o1941 := ⟨_, rfl⟩
                rintro e s ⟨rfl, rfl⟩
                obtain ⟨o1943, e1944, H⟩ := bind_of H
                refine AWp.mono (Q := fun e s => (match (generalizing := false) o1943 with | .inl rr => e = .ret ∧ s.floor = 1 ∧ resOf Try.prog Try.f94 s = some (.tup []) ∧ ([(0, s.obj 0)] : List (Nat × Option MObj)) = [(0, some (.row 2 64 (rr.map etomb_Range)))] | .inr x1885 => e = .normal ∧ s = ⟨[(0, .own 0), (1, iV .i64 x1840), (2, iV .i64 x1841), (3, iV .i64 x1861), (4, .im (.sc (.func (.func 59) #[] #[]))), (10, bV x1843), (11, bV x1844), (12, iV .i64 (IntKind.i64.wrap (x1841 - x1840))), (13, iV .i64 x1872)], [(0, some (.row 2 64 (x1885.map etomb_Range)))], 1⟩)) (AWp.cv ?_) ?_
                · replace H := e1944; clear e1944
                  refine AWp.cond x1878 rfl (fun c1879 => ?_) (fun c1879 => ?_)
                  · replace H := (ifT c1879).symm.trans H
                    refine AWp.seq ?_
                    obtain ⟨t1882, e1883, H⟩ := bind_of H
                    refine reg hP hn hm [(4, .call [(0, 0)] [(0, 0)] [] [] 1 (bV t1882.1) [(0, some (.row 2 64 (t1882.2.map etomb_Range)))])] [0, 1, 2, 3, 4, 10, 11, 12, 13, 80] [0] ⟨[(0, .own 0), (1, iV .i64 x1840), (2, iV .i64 x1841), (3, iV .i64 x1861), (4, .im (.sc (.func (.func 59) #[] #[]))), (10, bV x1843), (11, bV x1844), (12, iV .i64 (IntKind.i64.wrap (x1841 - x1840))), (13, iV .i64 x1872), (80, bV t1882.1)], [(0, some (.row 2 64 (t1882.2.map etomb_Range)))], 1⟩ [Enters Try.prog 125, Pv.Fn Try.prog 125 [.own 0, iV .i64 x1840, iV .i64 x1841, .im (.sc (.func (.func 59) #[] #[]))] [(0, some (.row 2 64 (x1871.map etomb_Range)))] 1 (fun r o => r = bV t1882.1 ∧ o = [(0, some (.row 2 64 (t1882.2.map etomb_Range)))])] (by kernel_rfl) ⟨by exact Try.call125, by exact f_slices_partialInsertionSortCmpFunc_tomb_Range_tomb_Of_2.ok x1871 x1840 x1841 t1882 e1883, trivial⟩ ?_
                    refine AWp.cond t1882.1 rfl (fun c1884 => ?_) (fun c1884 => ?_)
                    · replace H := (ifT c1884).symm.trans H
                      refine AWp.conv (inv := [(0, 0)]) (vk := []) (e0 := []) (t := ⟨[], [(0, some (.row 2 64 (t1882.2.map etomb_Range)))], 1⟩) (by kernel_rfl) ?_
                      refine AWp.ret ?_
                      obtain rfl := Option.some.inj H
                      exact Exists.intro _ (And.intro (fun _ _ h => h) (And.intro rfl (And.intro rfl (And.intro (by kernel_rfl) (by kernel_rfl)))))
                    · replace H := (ifF c1884).symm.trans H
                      refine AWp.skip ?_
                      obtain rfl := Option.some.inj H
                      exact Exists.intro _ (And.intro (fun _ _ h => h.conv (inv := [(0, 0)]) (vk := []) (e0 := []) (t := ⟨[(0, .own 0), (1, iV .i64 x1840), (2, iV .i64 x1841), (3, iV .i64 x1861), (4, .im (.sc (.func (.func 59) #[] #[]))), (10, bV x1843), (11, bV x1844), (12, iV .i64 (IntKind.i64.wrap (x1841 - x1840))), (13, iV .i64 x1872)], [(0, some (.row 2 64 (t1882.2.map etomb_Range)))], 1⟩) (by kernel_rfl)) (And.intro rfl rfl))
                  · replace H := (ifF c1879).symm.trans H
                    refine AWp.skip ?_
                    obtain rfl := Option.some.inj H
                    exact Exists.intro _ (And.intro (fun _ _ h => h.conv (inv := [(0, 0)]) (vk := []) (e0 := []) (t := ⟨[(0, .own 0), (1, iV .i64 x1840), (2, iV .i64 x1841), (3, iV .i64 x1861), (4, .im (.sc (.func (.func 59) #[] #[]))), (10, bV x1843), (11, bV x1844), (12, iV .i64 (IntKind.i64.wrap (x1841 - x1840))), (13, iV .i64 x1872)], [(0, some (.row 2 64 (x1871.map etomb_Range)))], 1⟩) (by kernel_rfl)) (And.intro rfl rfl))
                · rcases o1943 with rr | x1885
                  · skip
                    rintro e s ⟨rfl, hfl, hres⟩
                    obtain rfl := Option.some.inj H
                    exact Exists.intro _ (And.intro (fun _ _ h => h) (And.intro rfl (And.intro hfl hres)))
                  · skip
                    rintro e s ⟨rfl, rfl⟩
                    refine AWp.seq ?_
                    refine AWp.seq ?_
                    obtain ⟨o1945, e1946, H⟩ := bind_of H
                    refine AWp.mono (Q := fun e s => (match (generalizing := false) o1945 with | x1904 => e = .normal ∧ s = ⟨[(0, .own 0), (1, iV .i64 x1840), (2, iV .i64 x1841), (3, iV .i64 x1861), (4, .im (.sc (.func (.func 59) #[] #[]))), (10, bV x1843), (11, bV x1844), (12, iV .i64 (IntKind.i64.wrap (x1841 - x1840))), (13, iV .i64 x1872), (97, bV x1904)], [(0, some (.row 2 64 (x1885.map etomb_Range)))], 1⟩)) (AWp.cv ?_) ?_
                    · replace H := e1946; clear e1946
                      rcases Bool.eq_false_or_eq_true (decide (x1840 > (0 : Int))) with c1895 | c1895
                      · replace H := (ifT c1895).symm.trans H
                        obtain ⟨b1896, p1897, q1898, H⟩ := at_of H
                        obtain ⟨b1899, p1900, q1901, H⟩ := at_of H
                        obtain ⟨t1902, e1903, H⟩ := bind_of H
                        refine reg hP hn hm [(2, .b true), (8, .c (etomb_Range b1896)), (12, .c (etomb_Range b1899)), (13, .call [] [] [] [] 0 (iV .i64 t1902) [])] [0, 1, 2, 3, 4, 10, 11, 12, 13, 84, 85, 86, 87, 88, 89, 90, 91, 92, 93, 94, 95, 96, 97] [0] ⟨[(0, .own 0), (1, iV .i64 x1840), (2, iV .i64 x1841), (3, iV .i64 x1861), (4, .im (.sc (.func (.func 59) #[] #[]))), (10, bV x1843), (11, bV x1844), (12, iV .i64 (IntKind.i64.wrap (x1841 - x1840))), (13, iV .i64 x1872), (84, .im (.sc (.func (.func 59) #[] #[]))), (85, .own 0), (86, iV .i64 x1840), (87, iV .i64 (IntKind.i64.wrap (x1840 - (1 : Int)))), (88, .ptr 0 (Int.toNat (IntKind.i64.wrap (x1840 - (1 : Int)))) 0), (89, .agg (atomb_Range b1896)), (90, .own 0), (91, iV .i64 x1872), (92, .ptr 0 (Int.toNat (x1872)) 0), (93, .agg (atomb_Range b1899)), (94, iV .i64 t1902), (95, bV (decide (t1902 < (0 : Int)))), (96, bV (!(decide (t1902 < (0 : Int))))), (97, bV (!(decide (t1902 < (0 : Int)))))], [(0, some (.row 2 64 (x1885.map etomb_Range)))], 1⟩ [(decide (x1840 > (0 : Int))) = true, 0 ≤ (IntKind.i64.wrap (x1840 - (1 : Int))), IntKind.i64.wrap (x1840 - (1 : Int)) < (((x1885.map etomb_Range).length : Nat) : Int), (x1885.map etomb_Range)[(Int.toNat (IntKind.i64.wrap (x1840 - (1 : Int))))]? = some (etomb_Range b1896), 0 ≤ x1872, x1872 < (((x1885.map etomb_Range).length : Nat) : Int), (x1885.map etomb_Range)[(Int.toNat (x1872))]? = some (etomb_Range b1899), Enters Try.prog 59, Pv.Fn Try.prog 59 [.agg (atomb_Range b1896), .agg (atomb_Range b1899)] [] 0 (fun r o => r = iV .i64 t1902 ∧ o = [])] (by kernel_rfl) ⟨by exact c1895, by exact p1897, by exact el_lt etomb_Range p1897 q1898, by exact el_map etomb_Range q1898, by exact p1900, by exact el_lt etomb_Range p1900 q1901, by exact el_map etomb_Range q1901, by exact Try.call59, by exact f_tomb_Of_2.ok b1896 b1899 t1902 e1903, trivial⟩ ?_
                        obtain rfl := Option.some.inj H
                        exact Exists.intro _ (And.intro (fun _ _ h => h.conv (inv := [(0, 0)]) (vk := []) (e0 := []) (t := ⟨[(0, .own 0), (1, iV .i64 x1840), (2, iV .i64 x1841), (3, iV .i64 x1861), (4, .im (.sc (.func (.func 59) #[] #[]))), (10, bV x1843), (11, bV x1844), (12, iV .i64 (IntKind.i64.wrap (x1841 - x1840))), (13, iV .i64 x1872), (97, bV (!(decide (t1902 < (0 : Int)))))], [(0, some (.row 2 64 (x1885.map etomb_Range)))], 1⟩) (by kernel_rfl)) (And.intro rfl rfl))
                      · replace H := (ifF c1895).symm.trans H
                        refine reg hP hn hm [(2, .b false)] [0, 1, 2, 3, 4, 10, 11, 12, 13, 97] [0] ⟨[(0, .own 0), (1, iV .i64 x1840), (2, iV .i64 x1841), (3, iV .i64 x1861), (4, .im (.sc (.func (.func 59) #[] #[]))), (10, bV x1843), (11, bV x1844), (12, iV .i64 (IntKind.i64.wrap (x1841 - x1840))), (13, iV .i64 x1872), (97, bV false)], [(0, some (.row 2 64 (x1885.map etomb_Range)))], 1⟩ [(decide (x1840 > (0 : Int))) = false] (by kernel_rfl) ⟨by exact c1895, trivial⟩ ?_
                        obtain rfl := Option.some.inj H
                        exact Exists.intro _ (And.intro (fun _ _ h => h.conv (inv := [(0, 0)]) (vk := []) (e0 := []) (t := ⟨[(0, .own 0), (1, iV .i64 x1840), (2, iV .i64 x1841), (3, iV .i64 x1861), (4, .im (.sc (.func (.func 59) #[] #[]))), (10, bV x1843), (11, bV x1844), (12, iV .i64 (IntKind.i64.wrap (x1841 - x1840))), (13, iV .i64 x1872), (97, bV false)], [(0, some (.row 2 64 (x1885.map etomb_Range)))], 1⟩) (by kernel_rfl)) (And.intro rfl rfl))
                    · obtain ⟨x1904, rfl⟩ : ∃ z, z = o1945 := ⟨_, rfl⟩
                      rintro e s ⟨rfl, rfl⟩
                      refine AWp.cond x1904 rfl (fun c1905 => ?_) (fun c1905 => ?_)
                      · replace H := (ifT c1905).symm.trans H
                        refine AWp.seq ?_
                        obtain ⟨t1908, e1909, H⟩ := bind_of H
                        refine reg hP hn hm [(5, .call [(0, 0)] [(0, 0)] [] [] 1 (iV .i64 t1908.1) [(0, some (.row 2 64 (t1908.2.map etomb_Range)))])] [0, 2, 3, 4, 10, 11, 15] [0] ⟨[(0, .own 0), (2, iV .i64 x1841), (3, iV .i64 x1861), (4, .im (.sc (.func (.func 59) #[] #[]))), (10, bV x1843), (11, bV x1844), (15, iV .i64 t1908.1)], [(0, some (.row 2 64 (t1908.2.map etomb_Range)))], 1⟩ [Enters Try.prog 126, Pv.Fn Try.prog 126 [.own 0, iV .i64 x1840, iV .i64 x1841, iV .i64 x1872, .im (.sc (.func (.func 59) #[] #[]))] [(0, some (.row 2 64 (x1885.map etomb_Range)))] 1 (fun r o => r = iV .i64 t1908.1 ∧ o = [(0, some (.row 2 64 (t1908.2.map etomb_Range)))])] (by kernel_rfl) ⟨by exact Try.call126, by exact f_slices_partitionEqualCmpFunc_tomb_Range_tomb_Of_2.ok x1885 x1840 x1841 x1872 t1908 e1909, trivial⟩ ?_
                        refine AWp.seq ?_
                        refine reg hP hn hm [] [0, 1, 2, 3, 4, 10, 11] [0] ⟨[(0, .own 0), (1, iV .i64 t1908.1), (2, iV .i64 x1841), (3, iV .i64 x1861), (4, .im (.sc (.func (.func 59) #[] #[]))), (10, bV x1843), (11, bV x1844)], [(0, some (.row 2 64 (t1908.2.map etomb_Range)))], 1⟩ [] (by kernel_rfl) trivial ?_
                        refine AWp.exit ?_
                        obtain rfl := Option.some.inj H
                        exact Exists.intro _ (And.intro (fun _ _ h => h.conv (inv := [(0, 0)]) (vk := []) (e0 := []) (t := ⟨[(0, .own 0), (1, iV .i64 t1908.1), (2, iV .i64 x1841), (3, iV .i64 x1861), (4, .im (.sc (.func (.func 59) #[] #[]))), (10, bV x1843), (11, bV x1844)], [(0, some (.row 2 64 (t1908.2.map etomb_Range)))], 1⟩) (by kernel_rfl)) (And.intro rfl rfl))
                      · replace H := (ifF c1905).symm.trans H
                        refine AWp.skip ?_
                        refine AWp.seq ?_
                        obtain ⟨t1912, e1913, H⟩ := bind_of H
                        refine reg hP hn hm [(5, .call [(0, 0)] [(0, 0)] [] [] 1 (.tup [iV .i64 t1912.1, bV t1912.2.1]) [(0, some (.row 2 64 (t1912.2.2.map etomb_Range)))])] [0, 1, 2, 3, 4, 12, 16, 17] [0] ⟨[(0, .own 0), (1, iV .i64 x1840), (2, iV .i64 x1841), (3, iV .i64 x1861), (4, .im (.sc (.func (.func 59) #[] #[]))), (12, iV .i64 (IntKind.i64.wrap (x1841 - x1840))), (16, iV .i64 t1912.1), (17, bV t1912.2.1)], [(0, some (.row 2 64 (t1912.2.2.map etomb_Range)))], 1⟩ [Enters Try.prog 127, Pv.Fn Try.prog 127 [.own 0, iV .i64 x1840, iV .i64 x1841, iV .i64 x1872, .im (.sc (.func (.func 59) #[] #[]))] [(0, some (.row 2 64 (x1885.map etomb_Range)))] 1 (fun r o => r = .tup [iV .i64 t1912.1, bV t1912.2.1] ∧ o = [(0, some (.row 2 64 (t1912.2.2.map etomb_Range)))])] (by kernel_rfl) ⟨by exact Try.call127, by exact f_slices_partitionCmpFunc_tomb_Range_tomb_Of_2.ok x1885 x1840 x1841 x1872 t1912 e1913, trivial⟩ ?_
                        refine AWp.seq ?_
                        refine reg hP hn hm [] [0, 1, 2, 3, 4, 11, 12, 16] [0] ⟨[(0, .own 0), (1, iV .i64 x1840), (2, iV .i64 x1841), (3, iV .i64 x1861), (4, .im (.sc (.func (.func 59) #[] #[]))), (11, bV t1912.2.1), (12, iV .i64 (IntKind.i64.wrap (x1841 - x1840))), (16, iV .i64 t1912.1)], [(0, some (.row 2 64 (t1912.2.2.map etomb_Range)))], 1⟩ [] (by kernel_rfl) trivial ?_
                        refine AWp.seq ?_
                        refine reg hP hn hm [] [0, 1, 2, 3, 4, 11, 12, 16, 18, 19] [0] ⟨[(0, .own 0), (1, iV .i64 x1840), (2, iV .i64 x1841), (3, iV .i64 x1861), (4, .im (.sc (.func (.func 59) #[] #[]))), (11, bV t1912.2.1), (12, iV .i64 (IntKind.i64.wrap (x1841 - x1840))), (16, iV .i64 t1912.1), (18, iV .i64 (IntKind.i64.wrap (t1912.1 - x1840))), (19, iV .i64 (IntKind.i64.wrap (x1841 - t1912.1)))], [(0, some (.row 2 64 (t1912.2.2.map etomb_Range)))], 1⟩ [] (by kernel_rfl) trivial ?_
                        refine AWp.seq ?_
                        refine reg hP hn hm [] [0, 1, 2, 3, 4, 11, 16, 18, 19, 20] [0] ⟨[(0, .own 0), (1, iV .i64 x1840), (2, iV .i64 x1841), (3, iV .i64 x1861), (4, .im (.sc (.func (.func 59) #[] #[]))), (11, bV t1912.2.1), (16, iV .i64 t1912.1), (18, iV .i64 (IntKind.i64.wrap (t1912.1 - x1840))), (19, iV .i64 (IntKind.i64.wrap (x1841 - t1912.1))), (20, iV .i64 (IntKind.i64.wrap (Int.tdiv (IntKind.i64.wrap (x1841 - x1840)) (8 : Int))))], [(0, some (.row 2 64 (t1912.2.2.map etomb_Range)))], 1⟩ [(8 : Int) ≠ 0] (by kernel_rfl) ⟨by decide, trivial⟩ ?_
                        refine AWp.seq ?_
                        refine reg hP hn hm [] [0, 1, 2, 3, 4, 11, 16, 18, 19, 20, 125] [0] ⟨[(0, .own 0), (1, iV .i64 x1840), (2, iV .i64 x1841), (3, iV .i64 x1861), (4, .im (.sc (.func (.func 59) #[] #[]))), (11, bV t1912.2.1), (16, iV .i64 t1912.1), (18, iV .i64 (IntKind.i64.wrap (t1912.1 - x1840))), (19, iV .i64 (IntKind.i64.wrap (x1841 - t1912.1))), (20, iV .i64 (IntKind.i64.wrap (Int.tdiv (IntKind.i64.wrap (x1841 - x1840)) (8 : Int)))), (125, bV (decide ((IntKind.i64.wrap (t1912.1 - x1840)) < (IntKind.i64.wrap (x1841 - t1912.1)))))], [(0, some (.row 2 64 (t1912.2.2.map etomb_Range)))], 1⟩ [] (by kernel_rfl) trivial ?_
                        obtain ⟨o1947, e1948, H⟩ := bind_of H
                        refine AWp.mono (Q := fun e s => (match (generalizing := false) o1947 with | (x1923, x1924, x1925, x1926) => e = .normal ∧ s = ⟨[(0, .own 0), (1, iV .i64 x1924), (2, iV .i64 x1925), (3, iV .i64 x1861), (4, .im (.sc (.func (.func 59) #[] #[]))), (10, bV x1926), (11, bV t1912.2.1)], [(0, some (.row 2 64 (x1923.map etomb_Range)))], 1⟩)) (AWp.cv ?_) ?_
                        · replace H := e1948; clear e1948
                          refine AWp.cond (decide ((IntKind.i64.wrap (t1912.1 - x1840)) < (IntKind.i64.wrap (x1841 - t1912.1)))) rfl (fun c1914 => ?_) (fun c1914 => ?_)
                          · replace H := (ifT c1914).symm.trans H
                            refine AWp.seq ?_
                            refine reg hP hn hm [] [0, 1, 2, 3, 4, 10, 11, 16] [0] ⟨[(0, .own 0), (1, iV .i64 x1840), (2, iV .i64 x1841), (3, iV .i64 x1861), (4, .im (.sc (.func (.func 59) #[] #[]))), (10, bV (decide ((IntKind.i64.wrap (t1912.1 - x1840)) ≥ (IntKind.i64.wrap (Int.tdiv (IntKind.i64.wrap (x1841 - x1840)) (8 : Int)))))), (11, bV t1912.2.1), (16, iV .i64 t1912.1)], [(0, some (.row 2 64 (t1912.2.2.map etomb_Range)))], 1⟩ [] (by kernel_rfl) trivial ?_
                            refine AWp.seq ?_
                            obtain ⟨t1917, e1918, H⟩ := bind_of H
                            refine reg hP hn hm [(5, .call [(0, 0)] [(0, 0)] [] [] 1 (.tup []) [(0, some (.row 2 64 (t1917.map etomb_Range)))])] [0, 2, 3, 4, 10, 11, 16] [0] ⟨[(0, .own 0), (2, iV .i64 x1841), (3, iV .i64 x1861), (4, .im (.sc (.func (.func 59) #[] #[]))), (10, bV (decide ((IntKind.i64.wrap (t1912.1 - x1840)) ≥ (IntKind.i64.wrap (Int.tdiv (IntKind.i64.wrap (x1841 - x1840)) (8 : Int)))))), (11, bV t1912.2.1), (16, iV .i64 t1912.1)], [(0, some (.row 2 64 (t1917.map etomb_Range)))], 1⟩ [Enters Try.prog 94, Pv.Fn Try.prog 94 [.own 0, iV .i64 x1840, iV .i64 t1912.1, iV .i64 x1861, .im (.sc (.func (.func 59) #[] #[]))] [(0, some (.row 2 64 (t1912.2.2.map etomb_Range)))] 1 (fun r o => r = .tup [] ∧ o = [(0, some (.row 2 64 (t1917.map etomb_Range)))])] (by kernel_rfl) ⟨by exact Try.call94, by exact ihF t1912.2.2 x1840 t1912.1 x1861 _ e1918, trivial⟩ ?_
                            refine reg hP hn hm [] [0, 1, 2, 3, 4, 10, 11] [0] ⟨[(0, .own 0), (1, iV .i64 (IntKind.i64.wrap (t1912.1 + (1 : Int)))), (2, iV .i64 x1841), (3, iV .i64 x1861), (4, .im (.sc (.func (.func 59) #[] #[]))), (10, bV (decide ((IntKind.i64.wrap (t1912.1 - x1840)) ≥ (IntKind.i64.wrap (Int.tdiv (IntKind.i64.wrap (x1841 - x1840)) (8 : Int)))))), (11, bV t1912.2.1)], [(0, some (.row 2 64 (t1917.map etomb_Range)))], 1⟩ [] (by kernel_rfl) trivial ?_
                            obtain rfl := Option.some.inj H
                            exact Exists.intro _ (And.intro (fun _ _ h => h.conv (inv := [(0, 0)]) (vk := []) (e0 := []) (t := ⟨[(0, .own 0), (1, iV .i64 (IntKind.i64.wrap (t1912.1 + (1 : Int)))), (2, iV .i64 x1841), (3, iV .i64 x1861), (4, .im (.sc (.func (.func 59) #[] #[]))), (10, bV (decide ((IntKind.i64.wrap (t1912.1 - x1840)) ≥ (IntKind.i64.wrap (Int.tdiv (IntKind.i64.wrap (x1841 - x1840)) (8 : Int)))))), (11, bV t1912.2.1)], [(0, some (.row 2 64 (t1917.map etomb_Range)))], 1⟩) (by kernel_rfl)) (And.intro rfl rfl))
                          · replace H := (ifF c1914).symm.trans H
                            refine AWp.seq ?_
                            refine reg hP hn hm [] [0, 1, 2, 3, 4, 10, 11, 16] [0] ⟨[(0, .own 0), (1, iV .i64 x1840), (2, iV .i64 x1841), (3, iV .i64 x1861), (4, .im (.sc (.func (.func 59) #[] #[]))), (10, bV (decide ((IntKind.i64.wrap (x1841 - t1912.1)) ≥ (IntKind.i64.wrap (Int.tdiv (IntKind.i64.wrap (x1841 - x1840)) (8 : Int)))))), (11, bV t1912.2.1), (16, iV .i64 t1912.1)], [(0, some (.row 2 64 (t1912.2.2.map etomb_Range)))], 1⟩ [] (by kernel_rfl) trivial ?_
                            refine AWp.seq ?_
                            obtain ⟨t1921, e1922, H⟩ := bind_of H
                            refine reg hP hn hm [(6, .call [(0, 0)] [(0, 0)] [] [] 1 (.tup []) [(0, some (.row 2 64 (t1921.map etomb_Range)))])] [0, 1, 3, 4, 10, 11, 16] [0] ⟨[(0, .own 0), (1, iV .i64 x1840), (3, iV .i64 x1861), (4, .im (.sc (.func (.func 59) #[] #[]))), (10, bV (decide ((IntKind.i64.wrap (x1841 - t1912.1)) ≥ (IntKind.i64.wrap (Int.tdiv (IntKind.i64.wrap (x1841 - x1840)) (8 : Int)))))), (11, bV t1912.2.1), (16, iV .i64 t1912.1)], [(0, some (.row 2 64 (t1921.map etomb_Range)))], 1⟩ [Enters Try.prog 94, Pv.Fn Try.prog 94 [.own 0, iV .i64 (IntKind.i64.wrap (t1912.1 + (1 : Int))), iV .i64 x1841, iV .i64 x1861, .im (.sc (.func (.func 59) #[] #[]))] [(0, some (.row 2 64 (t1912.2.2.map etomb_Range)))] 1 (fun r o => r = .tup [] ∧ o = [(0, some (.row 2 64 (t1921.map etomb_Range)))])] (by kernel_rfl) ⟨by exact Try.call94, by exact ihF t1912.2.2 (IntKind.i64.wrap (t1912.1 + (1 : Int))) x1841 x1861 _ e1922, trivial⟩ ?_
                            refine reg hP hn hm [] [0, 1, 2, 3, 4, 10, 11] [0] ⟨[(0, .own 0), (1, iV .i64 x1840), (2, iV .i64 t1912.1), (3, iV .i64 x1861), (4, .im (.sc (.func (.func 59) #[] #[]))), (10, bV (decide ((IntKind.i64.wrap (x1841 - t1912.1)) ≥ (IntKind.i64.wrap (Int.tdiv (IntKind.i64.wrap (x1841 - x1840)) (8 : Int)))))), (11, bV t1912.2.1)], [(0, some (.row 2 64 (t1921.map etomb_Range)))], 1⟩ [] (by kernel_rfl) trivial ?_
                            obtain rfl := Option.some.inj H
                            exact Exists.intro _ (And.intro (fun _ _ h => h.conv (inv := [(0, 0)]) (vk := []) (e0 := []) (t := ⟨[(0, .own 0), (1, iV .i64 x1840), (2, iV .i64 t1912.1), (3, iV .i64 x1861), (4, .im (.sc (.func (.func 59) #[] #[]))), (10, bV (decide ((IntKind.i64.wrap (x1841 - t1912.1)) ≥ (IntKind.i64.wrap (Int.tdiv (IntKind.i64.wrap (x1841 - x1840)) (8 : Int)))))), (11, bV t1912.2.1)], [(0, some (.row 2 64 (t1921.map etomb_Range)))], 1⟩) (by kernel_rfl)) (And.intro rfl rfl))
                        · obtain ⟨x1923, x1924, x1925, x1926⟩ := o1947
                          rintro e s ⟨rfl, rfl⟩
                          obtain rfl := Option.some.inj H
                          exact Exists.intro _ (And.intro (fun _ _ h => h.conv (inv := [(0, 0)]) (vk := []) (e0 := []) (t := ⟨[(0, .own 0), (1, iV .i64 x1924), (2, iV .i64 x1925), (3, iV .i64 x1861), (4, .im (.sc (.func (.func 59) #[] #[]))), (10, bV x1926), (11, bV t1912.2.1)], [(0, some (.row 2 64 (x1923.map etomb_Range)))], 1⟩) (by kernel_rfl)) (And.intro rfl rfl))
    · rcases o1935 with rr | ⟨x1927, x1928, x1929, x1930, x1931, x1932⟩
      · skip
        rintro e s ⟨rfl, hfl, hres⟩
        obtain rfl := Option.some.inj H
        exact Exists.intro _ (And.intro (fun _ _ h => h) (And.intro rfl (And.intro hfl hres)))
      · skip
        rintro e s ⟨rfl, rfl⟩
        exact LWp.conv (inv := [(0, 0)]) (vk := []) (e0 := []) (t := ⟨[(0, .own 0), (1, iV .i64 x1928), (2, iV .i64 x1929), (3, iV .i64 x1930), (4, .im (.sc (.func (.func 59) #[] #[]))), (10, bV x1931), (11, bV x1932)], [(0, some (.row 2 64 (x1927.map etomb_Range)))], 1⟩) (by kernel_rfl) (ih _ _ _ _ _ _ _ H)
  · obtain ⟨rr, rfl⟩ : ∃ z, z = o1933 := ⟨_, rfl⟩
    rintro e s ⟨rfl, hfl, hres⟩
    obtain rfl := Option.some.inj H
    exact Exists.intro _ (And.intro (fun _ _ h => h) (And.intro (.inl rfl) (And.intro hfl hres)))
theorem f_slices_pdqsortCmpFunc_tomb_Range_tomb_Of_2.ok (a0 : List Ttomb_Range) (a1 : Int) (a2 : Int) (a3 : Int) (r : List Ttomb_Range) (H : f_slices_pdqsortCmpFunc_tomb_Range_tomb_Of_2.f a0 a1 a2 a3 = some r) : Pv.Fn Try.prog 94 [.own 0, iV .i64 a1, iV .i64 a2, iV .i64 a3, .im (.sc (.func (.func 59) #[] #[]))] [(0, some (.row 2 64 (a0.map etomb_Range)))] 1 (fun x o => x = .tup [] ∧ o = [(0, some (.row 2 64 (r.map etomb_Range)))]) := f_slices_pdqsortCmpFunc_tomb_Range_tomb_Of_2.oku 100 a0 a1 a2 a3 r H
def f_slices_SortFunc_tomb_Range_tomb_Of_2.f (a0 : List Ttomb_Range) : Option (List Ttomb_Range) := (f_bits_Len.f (IntKind.u64.wrap ((a0.length : Int)))) >>= fun t1951 => (f_slices_pdqsortCmpFunc_tomb_Range_tomb_Of_2.f a0 0 (a0.length : Int) t1951) >>= fun t1953 => some t1953
theorem f_slices_SortFunc_tomb_Range_tomb_Of_2.ok (a0 : List Ttomb_Range) (r : List Ttomb_Range) (H : f_slices_SortFunc_tomb_Range_tomb_Of_2.f a0 = some r) : Pv.Fn Try.prog 58 [.own 0, .im (.sc (.func (.func 59) #[] #[]))] [(0, some (.row 2 64 (a0.map etomb_Range)))] 1 (fun x o => x = .tup [] ∧ o = [(0, some (.row 2 64 (r.map etomb_Range)))]) := by
  unfold f_slices_SortFunc_tomb_Range_tomb_Of_2.f at H
  refine Fn.bodyK [0] Try.func58 rfl rfl (fun Γ hP hn => ?_)
  have hm : Try.prog.follows .mixedOrders = true := by kernel_rfl
  replace hn : Γ.n = 14 := hn
  refine AWp.seq ?_
  refine reg hP hn hm [(1, .any (iV .i64 (a0.length : Int)))] [0, 1, 4] [0] ⟨[(0, .own 0), (1, .im (.sc (.func (.func 59) #[] #[]))), (4, iV .i64 (a0.length : Int))], [(0, some (.row 2 64 (a0.map etomb_Range)))], 1⟩ [((a0.map etomb_Range).length : Int) = (a0.length : Int)] (by kernel_rfl) ⟨by rw [len_map], trivial⟩ ?_
  obtain ⟨t1951, e1952, H⟩ := bind_of H
  obtain ⟨t1953, e1954, H⟩ := bind_of H
  refine reg hP hn hm [(4, .call [] [] [] [] 0 (iV .i64 t1951) []), (6, .call [(0, 0)] [(0, 0)] [] [] 1 (.tup []) [(0, some (.row 2 64 (t1953.map etomb_Range)))])] [] [0] ⟨[], [(0, some (.row 2 64 (t1953.map etomb_Range)))], 1⟩ [Enters Try.prog 95, Pv.Fn Try.prog 95 [iV .u64 (IntKind.u64.wrap ((a0.length : Int)))] [] 0 (fun r o => r = iV .i64 t1951 ∧ o = []), Enters Try.prog 94, Pv.Fn Try.prog 94 [.own 0, iV .i64 0, iV .i64 (a0.length : Int), iV .i64 t1951, .im (.sc (.func (.func 59) #[] #[]))] [(0, some (.row 2 64 (a0.map etomb_Range)))] 1 (fun r o => r = .tup [] ∧ o = [(0, some (.row 2 64 (t1953.map etomb_Range)))])] (by kernel_rfl) ⟨by exact Try.call95, by exact f_bits_Len.ok (IntKind.u64.wrap ((a0.length : Int))) t1951 e1952, by exact Try.call94, by exact f_slices_pdqsortCmpFunc_tomb_Range_tomb_Of_2.ok a0 0 (a0.length : Int) t1951 t1953 e1954, trivial⟩ ?_
  obtain rfl := Option.some.inj H
  exact Exists.intro ⟨[], [(0, some (.row 2 64 (t1953.map etomb_Range)))], 1⟩ (And.intro (fun _ _ h => h.conv (inv := [(0, 0)]) (vk := []) (e0 := []) (t := ⟨[], [(0, some (.row 2 64 (t1953.map etomb_Range)))], 1⟩) (by kernel_rfl)) (And.intro (.inr rfl) (And.intro rfl (And.intro (by kernel_rfl) (by kernel_rfl)))))
def f_tomb_Of.l0 (t1957 : List Ttomb_Range) (x1968 : List Ttomb_Range) (x1969 : Int) : Option (List Ttomb_Range) := if (decide (x1969 < (t1957.length : Int))) = true then ((((at? t1957 x1969) >>= fun b1974 => ((if (decide ((x1968.length : Int) > (0 : Int))) = true then ((at? x1968 (IntKind.i64.wrap ((x1968.length : Int) - (1 : Int)))) >>= fun b1982 => some (decide (b1974.f0 ≤ (IntKind.i64.wrap (b1982.f1 + (1 : Int)))))) else (some false)) : Option (Bool)) >>= fun x1985 => if x1985 = true then ((at? x1968 (IntKind.i64.wrap ((x1968.length : Int) - (1 : Int)))) >>= fun b1990 => some (x1968.set (Int.toNat (IntKind.i64.wrap ((x1968.length : Int) - (1 : Int)))) (⟨b1990.f0, (if b1974.f1 > b1990.f1 then b1974.f1 else b1990.f1)⟩ : Ttomb_Range))) else ((chk ((x1968.length + [b1974].length) * 16 ≤ 140737488355328)) >>= fun _ => some (x1968 ++ [b1974]))) : Option (List Ttomb_Range)) >>= fun x1995 => f_tomb_Of.l0 t1957 x1995 (IntKind.i64.wrap (x1969 + (1 : Int)))) else (some x1968)
partial_fixpoint
def f_tomb_Of.f (a0 : List Ttomb_Range) : Option (Ttomb_Set) := (f_slices_Clone_tomb_Range.f a0) >>= fun t105 => (f_slices_DeleteFunc_tomb_Range_tomb_Of_1.f t105) >>= fun t107 => (f_slices_SortFunc_tomb_Range_tomb_Of_2.f t107) >>= fun t1957 => (f_tomb_Of.l0 t1957 [] 0) >>= fun x1996 => some (⟨x1996⟩ : Ttomb_Set)
theorem f_tomb_Of.ok (a0 : List Ttomb_Range) (r : Ttomb_Set) (H : f_tomb_Of.f a0 = some r) : Pv.Fn Try.prog 14 [.im (.row (a0.map etomb_Range))] [] 0 (fun x o => x = .agg [.own 0] ∧ o = [(0, some (.row 2 64 (((r).f0).map etomb_Range)))]) := by
  unfold f_tomb_Of.f at H
  refine Fn.bodyK [0] Try.func14 rfl rfl (fun Γ hP hn => ?_)
  have hm : Try.prog.follows .mixedOrders = true := by kernel_rfl
  replace hn : Γ.n = 60 := hn
  refine AWp.seq ?_
  refine reg hP hn hm [(0, .k 0)] [0, 2] [0] ⟨[(0, .im (.row (a0.map etomb_Range))), (2, .ptr 0 0 0)], [(0, some (.box 27 [.none0]))], 0⟩ [] (by kernel_rfl) trivial ?_
  refine AWp.seq ?_
  obtain ⟨t105, e106, H⟩ := bind_of H
  obtain ⟨t107, e108, H⟩ := bind_of H
  refine reg hP hn hm [(1, .call [] [(0, 1)] [] [1] 0 (.own 0) [(0, some (.row 2 64 (t105.map etomb_Range)))]), (2, .call [(1, 0)] [(1, 2)] [] [2] 1 (.own 1) [(0, none), (1, some (.row 2 64 (t107.map etomb_Range)))])] [0, 2] [0, 2] ⟨[(0, .own 2), (2, .ptr 0 0 0)], [(0, some (.box 27 [.none0])), (2, some (.row 2 64 (t107.map etomb_Range)))], 0⟩ [Enters Try.prog 56, Pv.Fn Try.prog 56 [.im (.row (a0.map etomb_Range))] [] 0 (fun r o => r = .own 0 ∧ o = [(0, some (.row 2 64 (t105.map etomb_Range)))]), Enters Try.prog 55, Pv.Fn Try.prog 55 [.own 0, .im (.sc (.func (.func 57) #[] #[]))] [(0, some (.row 2 64 (t105.map etomb_Range)))] 1 (fun r o => r = .own 1 ∧ o = [(0, none), (1, some (.row 2 64 (t107.map etomb_Range)))])] (by kernel_rfl) ⟨by exact Try.call56, by exact f_slices_Clone_tomb_Range.ok a0 t105 e106, by exact Try.call55, by exact f_slices_DeleteFunc_tomb_Range_tomb_Of_1.ok t105 t107 e108, trivial⟩ ?_
  refine AWp.seq ?_
  obtain ⟨t1957, e1958, H⟩ := bind_of H
  refine reg hP hn hm [(1, .call [(2, 0)] [(0, 2)] [] [] 1 (.tup []) [(0, some (.row 2 64 (t1957.map etomb_Range)))])] [0, 2] [0, 2] ⟨[(0, .own 2), (2, .ptr 0 0 0)], [(0, some (.box 27 [.none0])), (2, some (.row 2 64 (t1957.map etomb_Range)))], 0⟩ [Enters Try.prog 58, Pv.Fn Try.prog 58 [.own 0, .im (.sc (.func (.func 59) #[] #[]))] [(0, some (.row 2 64 (t107.map etomb_Range)))] 1 (fun r o => r = .tup [] ∧ o = [(0, some (.row 2 64 (t1957.map etomb_Range)))])] (by kernel_rfl) ⟨by exact Try.call58, by exact f_slices_SortFunc_tomb_Range_tomb_Of_2.ok t107 t1957 e1958, trivial⟩ ?_
  refine AWp.seq ?_
  refine reg hP hn hm [(0, .k 3)] [0, 2, 3] [0, 2, 3] ⟨[(0, .own 2), (2, .ptr 0 0 0), (3, .ptr 3 0 0)], [(0, some (.box 27 [.none0])), (2, some (.row 2 64 (t1957.map etomb_Range))), (3, some (.box 27 [.none0]))], 0⟩ [] (by kernel_rfl) trivial ?_
  refine AWp.seq ?_
  refine AWp.seq ?_
  refine reg hP hn hm [(1, .any (iV .i64 (t1957.length : Int)))] [2, 3, 12, 13, 14] [0, 2, 3] ⟨[(2, .ptr 0 0 0), (3, .ptr 3 0 0), (12, .own 2), (13, iV .i64 (t1957.length : Int)), (14, iV .i64 0)], [(0, some (.box 27 [.none0])), (2, some (.row 2 64 (t1957.map etomb_Range))), (3, some (.box 27 [.none0]))], 0⟩ [((t1957.map etomb_Range).length : Int) = (t1957.length : Int)] (by kernel_rfl) ⟨by rw [len_map], trivial⟩ ?_
  refine AWp.block ?_
  obtain ⟨o1997, e1998, H⟩ := bind_of H
  refine AWp.loop (LWp.conv (inv := [(0, 7), (2, 10), (3, 8)]) (vk := []) (e0 := [9]) (t := ⟨[(2, .ptr 7 0 0), (3, .ptr 8 0 0), (12, .own 10), (13, iV .i64 (t1957.length : Int)), (14, iV .i64 0)], [(7, some (.box 27 [.none0])), (8, some (.box 27 [.own 9])), (9, some (.row 2 64 ([].map etomb_Range))), (10, some (.row 2 64 (t1957.map etomb_Range)))], 0⟩) (by kernel_rfl) ?_)
  refine LWp.mono (Q := fun e s => (match (generalizing := false) o1997 with | x1996 => e = .exit 0 ∧ s = ⟨[(2, .ptr 23 0 0), (3, .ptr 24 0 0)], [(23, some (.box 27 [.none0])), (24, some (.box 27 [.own 25])), (25, some (.row 2 64 (x1996.map etomb_Range)))], 0⟩)) (LWp.cv (withBody (fun body hbody => ?_))) ?_
  · refine f_tomb_Of.l0.partial_correctness t1957 (motive := fun x1968 x1969 o1997 => LWp Γ body (fun e s => ∃ t, Cv Γ s t ∧ (match (generalizing := false) o1997 with | x1996 => e = .exit 0 ∧ t = ⟨[(2, .ptr 23 0 0), (3, .ptr 24 0 0)], [(23, some (.box 27 [.none0])), (24, some (.box 27 [.own 25])), (25, some (.row 2 64 (x1996.map etomb_Range)))], 0⟩)) ⟨[(2, .ptr 7 0 0), (3, .ptr 8 0 0), (12, .own 10), (13, iV .i64 (t1957.length : Int)), (14, iV .i64 x1969)], [(7, some (.box 27 [.none0])), (8, some (.box 27 [.own 9])), (9, some (.row 2 64 (x1968.map etomb_Range))), (10, some (.row 2 64 (t1957.map etomb_Range)))], 0⟩) ?_ _ _ _ e1998
    clear H e1998 o1997; intro self ih x1968 x1969 o1997 H
    subst hbody
    refine LWp.round ?_
    refine AWp.seq ?_
    refine reg hP hn hm [] [2, 3, 12, 13, 14, 15] [7, 8, 9, 10] ⟨[(2, .ptr 7 0 0), (3, .ptr 8 0 0), (12, .own 10), (13, iV .i64 (t1957.length : Int)), (14, iV .i64 x1969), (15, bV (decide (x1969 < (t1957.length : Int))))], [(7, some (.box 27 [.none0])), (8, some (.box 27 [.own 9])), (9, some (.row 2 64 (x1968.map etomb_Range))), (10, some (.row 2 64 (t1957.map etomb_Range)))], 0⟩ [] (by kernel_rfl) trivial ?_
    refine AWp.seq ?_
    refine AWp.cond (decide (x1969 < (t1957.length : Int))) rfl (fun c1970 => ?_) (fun c1970 => ?_)
    · replace H := (ifT c1970).symm.trans H
      refine AWp.skip ?_
      refine AWp.seq ?_
      obtain ⟨o1999, e2000, H⟩ := bind_of H
      refine AWp.mono (Q := fun e s => (match (generalizing := false) o1999 with | x1995 => e = .normal ∧ s = ⟨[(2, .ptr 19 0 0), (3, .ptr 20 0 0), (12, .own 22), (13, iV .i64 (t1957.length : Int)), (14, iV .i64 x1969)], [(19, some (.box 27 [.none0])), (20, some (.box 27 [.own 21])), (21, some (.row 2 64 (x1995.map etomb_Range))), (22, some (.row 2 64 (t1957.map etomb_Range)))], 0⟩)) (AWp.cv ?_) ?_
      · replace H := e2000; clear e2000
        refine AWp.block ?_
        refine AWp.seq ?_
        obtain ⟨b1974, p1975, q1976, H⟩ := at_of H
        refine reg hP hn hm [(1, .c (etomb_Range b1974)), (2, .k 11)] [2, 3, 5, 12, 13, 14] [7, 8, 9, 10, 11] ⟨[(2, .ptr 7 0 0), (3, .ptr 8 0 0), (5, .ptr 11 0 0), (12, .own 10), (13, iV .i64 (t1957.length : Int)), (14, iV .i64 x1969)], [(7, some (.box 27 [.none0])), (8, some (.box 27 [.own 9])), (9, some (.row 2 64 (x1968.map etomb_Range))), (10, some (.row 2 64 (t1957.map etomb_Range))), (11, some (.box 64 (atomb_Range b1974)))], 0⟩ [0 ≤ x1969, x1969 < (((t1957.map etomb_Range).length : Nat) : Int), (t1957.map etomb_Range)[(Int.toNat (x1969))]? = some (etomb_Range b1974)] (by kernel_rfl) ⟨by exact p1975, by exact el_lt etomb_Range p1975 q1976, by exact el_map etomb_Range q1976, trivial⟩ ?_
        refine AWp.seq ?_
        refine reg hP hn hm [(2, .any (iV .i64 (x1968.length : Int)))] [2, 3, 5, 6, 12, 13, 14] [7, 8, 9, 10, 11] ⟨[(2, .ptr 7 0 0), (3, .ptr 8 0 0), (5, .ptr 11 0 0), (6, iV .i64 (x1968.length : Int)), (12, .own 10), (13, iV .i64 (t1957.length : Int)), (14, iV .i64 x1969)], [(7, some (.box 27 [.none0])), (8, some (.box 27 [.own 9])), (9, some (.row 2 64 (x1968.map etomb_Range))), (10, some (.row 2 64 (t1957.map etomb_Range))), (11, some (.box 64 (atomb_Range b1974)))], 0⟩ [((x1968.map etomb_Range).length : Int) = (x1968.length : Int)] (by kernel_rfl) ⟨by rw [len_map], trivial⟩ ?_
        refine AWp.seq ?_
        refine AWp.seq ?_
        obtain ⟨o2001, e2002, H⟩ := bind_of H
        refine AWp.mono (Q := fun e s => (match (generalizing := false) o2001 with | x1985 => e = .normal ∧ s = ⟨[(2, .ptr 12 0 0), (3, .ptr 13 0 0), (5, .ptr 15 0 0), (6, iV .i64 (x1968.length : Int)), (12, .own 16), (13, iV .i64 (t1957.length : Int)), (14, iV .i64 x1969), (35, bV x1985)], [(12, some (.box 27 [.none0])), (13, some (.box 27 [.own 14])), (14, some (.row 2 64 (x1968.map etomb_Range))), (15, some (.box 64 (atomb_Range b1974))), (16, some (.row 2 64 (t1957.map etomb_Range)))], 0⟩)) (AWp.cv ?_) ?_
        · replace H := e2002; clear e2002
          rcases Bool.eq_false_or_eq_true (decide ((x1968.length : Int) > (0 : Int))) with c1981 | c1981
          · replace H := (ifT c1981).symm.trans H
            obtain ⟨b1982, p1983, q1984, H⟩ := at_of H
            refine reg hP hn hm [(2, .b true), (11, .c (etomb_Range b1982))] [2, 3, 5, 6, 12, 13, 14, 24, 25, 26, 27, 28, 29, 30, 31, 32, 33, 34, 35] [7, 8, 9, 10, 11] ⟨[(2, .ptr 7 0 0), (3, .ptr 8 0 0), (5, .ptr 11 0 0), (6, iV .i64 (x1968.length : Int)), (12, .own 10), (13, iV .i64 (t1957.length : Int)), (14, iV .i64 x1969), (24, .ptr 11 0 0), (25, iV .i64 b1974.f0), (26, .ptr 8 0 0), (27, .own 9), (28, iV .i64 (x1968.length : Int)), (29, iV .i64 (IntKind.i64.wrap ((x1968.length : Int) - (1 : Int)))), (30, .ptr 9 (Int.toNat (IntKind.i64.wrap ((x1968.length : Int) - (1 : Int)))) 0), (31, .ptr 9 (Int.toNat (IntKind.i64.wrap ((x1968.length : Int) - (1 : Int)))) 1), (32, iV .i64 b1982.f1), (33, iV .i64 (IntKind.i64.wrap (b1982.f1 + (1 : Int)))), (34, bV (decide (b1974.f0 ≤ (IntKind.i64.wrap (b1982.f1 + (1 : Int)))))), (35, bV (decide (b1974.f0 ≤ (IntKind.i64.wrap (b1982.f1 + (1 : Int))))))], [(7, some (.box 27 [.none0])), (8, some (.box 27 [.own 9])), (9, some (.row 2 64 (x1968.map etomb_Range))), (10, some (.row 2 64 (t1957.map etomb_Range))), (11, some (.box 64 (atomb_Range b1974)))], 0⟩ [(decide ((x1968.length : Int) > (0 : Int))) = true, 0 ≤ (IntKind.i64.wrap ((x1968.length : Int) - (1 : Int))), IntKind.i64.wrap ((x1968.length : Int) - (1 : Int)) < (((x1968.map etomb_Range).length : Nat) : Int), (x1968.map etomb_Range)[(Int.toNat (IntKind.i64.wrap ((x1968.length : Int) - (1 : Int))))]? = some (etomb_Range b1982)] (by kernel_rfl) ⟨by exact c1981, by exact p1983, by exact el_lt etomb_Range p1983 q1984, by exact el_map etomb_Range q1984, trivial⟩ ?_
            obtain rfl := Option.some.inj H
            exact Exists.intro _ (And.intro (fun _ _ h => h.conv (inv := [(7, 12), (8, 13), (9, 14), (11, 15), (10, 16)]) (vk := []) (e0 := []) (t := ⟨[(2, .ptr 12 0 0), (3, .ptr 13 0 0), (5, .ptr 15 0 0), (6, iV .i64 (x1968.length : Int)), (12, .own 16), (13, iV .i64 (t1957.length : Int)), (14, iV .i64 x1969), (35, bV (decide (b1974.f0 ≤ (IntKind.i64.wrap (b1982.f1 + (1 : Int))))))], [(12, some (.box 27 [.none0])), (13, some (.box 27 [.own 14])), (14, some (.row 2 64 (x1968.map etomb_Range))), (15, some (.box 64 (atomb_Range b1974))), (16, some (.row 2 64 (t1957.map etomb_Range)))], 0⟩) (by kernel_rfl)) (And.intro rfl rfl))
          · replace H := (ifF c1981).symm.trans H
            refine reg hP hn hm [(2, .b false)] [2, 3, 5, 6, 12, 13, 14, 35] [7, 8, 9, 10, 11] ⟨[(2, .ptr 7 0 0), (3, .ptr 8 0 0), (5, .ptr 11 0 0), (6, iV .i64 (x1968.length : Int)), (12, .own 10), (13, iV .i64 (t1957.length : Int)), (14, iV .i64 x1969), (35, bV false)], [(7, some (.box 27 [.none0])), (8, some (.box 27 [.own 9])), (9, some (.row 2 64 (x1968.map etomb_Range))), (10, some (.row 2 64 (t1957.map etomb_Range))), (11, some (.box 64 (atomb_Range b1974)))], 0⟩ [(decide ((x1968.length : Int) > (0 : Int))) = false] (by kernel_rfl) ⟨by exact c1981, trivial⟩ ?_
            obtain rfl := Option.some.inj H
            exact Exists.intro _ (And.intro (fun _ _ h => h.conv (inv := [(7, 12), (8, 13), (9, 14), (11, 15), (10, 16)]) (vk := []) (e0 := []) (t := ⟨[(2, .ptr 12 0 0), (3, .ptr 13 0 0), (5, .ptr 15 0 0), (6, iV .i64 (x1968.length : Int)), (12, .own 16), (13, iV .i64 (t1957.length : Int)), (14, iV .i64 x1969), (35, bV false)], [(12, some (.box 27 [.none0])), (13, some (.box 27 [.own 14])), (14, some (.row 2 64 (x1968.map etomb_Range))), (15, some (.box 64 (atomb_Range b1974))), (16, some (.row 2 64 (t1957.map etomb_Range)))], 0⟩) (by kernel_rfl)) (And.intro rfl rfl))
        · obtain ⟨x1985, rfl⟩ : ∃ z, z = o2001 := ⟨_, rfl⟩
          rintro e s ⟨rfl, rfl⟩
          refine AWp.cond x1985 rfl (fun c1986 => ?_) (fun c1986 => ?_)
          · replace H := (ifT c1986).symm.trans H
            refine AWp.seq ?_
            obtain ⟨b1990, p1991, q1992, H⟩ := at_of H
            refine reg hP hn hm [(10, .c (etomb_Range b1990)), (13, .more xMax), (16, .put (etomb_Range b1990) ((x1968.set (Int.toNat (IntKind.i64.wrap ((x1968.length : Int) - (1 : Int)))) (⟨b1990.f0, (if b1974.f1 > b1990.f1 then b1974.f1 else b1990.f1)⟩ : Ttomb_Range)).map etomb_Range))] [2, 3, 12, 13, 14] [12, 13, 14, 16] ⟨[(2, .ptr 12 0 0), (3, .ptr 13 0 0), (12, .own 16), (13, iV .i64 (t1957.length : Int)), (14, iV .i64 x1969)], [(12, some (.box 27 [.none0])), (13, some (.box 27 [.own 14])), (14, some (.row 2 64 ((x1968.set (Int.toNat (IntKind.i64.wrap ((x1968.length : Int) - (1 : Int)))) (⟨b1990.f0, (if b1974.f1 > b1990.f1 then b1974.f1 else b1990.f1)⟩ : Ttomb_Range)).map etomb_Range))), (16, some (.row 2 64 (t1957.map etomb_Range)))], 0⟩ [0 ≤ (IntKind.i64.wrap ((x1968.length : Int) - (1 : Int))), IntKind.i64.wrap ((x1968.length : Int) - (1 : Int)) < (((x1968.map etomb_Range).length : Nat) : Int), (x1968.map etomb_Range)[(Int.toNat (IntKind.i64.wrap ((x1968.length : Int) - (1 : Int))))]? = some (etomb_Range b1990), 0 ≤ (IntKind.i64.wrap ((x1968.length : Int) - (1 : Int))), IntKind.i64.wrap ((x1968.length : Int) - (1 : Int)) < (((x1968.map etomb_Range).length : Nat) : Int), (x1968.map etomb_Range)[(Int.toNat (IntKind.i64.wrap ((x1968.length : Int) - (1 : Int))))]? = some (etomb_Range b1990), (x1968.set (Int.toNat (IntKind.i64.wrap ((x1968.length : Int) - (1 : Int)))) (⟨b1990.f0, (if b1974.f1 > b1990.f1 then b1974.f1 else b1990.f1)⟩ : Ttomb_Range)).map etomb_Range = (x1968.map etomb_Range).set (Int.toNat (IntKind.i64.wrap ((x1968.length : Int) - (1 : Int)))) (splice (etomb_Range b1990) 1 [iI .i64 (if b1974.f1 > b1990.f1 then b1974.f1 else b1990.f1)])] (by kernel_rfl) ⟨by exact p1991, by exact el_lt etomb_Range p1991 q1992, by exact el_map etomb_Range q1992, by exact p1991, by exact el_lt etomb_Range p1991 q1992, by exact el_map etomb_Range q1992, by exact set1 _ _ _ _, trivial⟩ ?_
            refine AWp.exit ?_
            obtain rfl := Option.some.inj H
            exact Exists.intro _ (And.intro (fun _ _ h => h.conv (inv := [(12, 19), (13, 20), (14, 21), (16, 22)]) (vk := []) (e0 := []) (t := ⟨[(2, .ptr 19 0 0), (3, .ptr 20 0 0), (12, .own 22), (13, iV .i64 (t1957.length : Int)), (14, iV .i64 x1969)], [(19, some (.box 27 [.none0])), (20, some (.box 27 [.own 21])), (21, some (.row 2 64 ((x1968.set (Int.toNat (IntKind.i64.wrap ((x1968.length : Int) - (1 : Int)))) (⟨b1990.f0, (if b1974.f1 > b1990.f1 then b1974.f1 else b1990.f1)⟩ : Ttomb_Range)).map etomb_Range))), (22, some (.row 2 64 (t1957.map etomb_Range)))], 0⟩) (by kernel_rfl)) (And.intro rfl rfl))
          · replace H := (ifF c1986).symm.trans H
            refine AWp.skip ?_
            obtain ⟨c1994, H⟩ := chk_of H
            refine reg hP hn hm [(3, .app 17 ([b1974].map etomb_Range)), (4, .app 18 ((x1968 ++ [b1974]).map etomb_Range))] [2, 3, 12, 13, 14] [12, 13, 16, 18] ⟨[(2, .ptr 12 0 0), (3, .ptr 13 0 0), (12, .own 16), (13, iV .i64 (t1957.length : Int)), (14, iV .i64 x1969)], [(12, some (.box 27 [.none0])), (13, some (.box 27 [.own 18])), (16, some (.row 2 64 (t1957.map etomb_Range))), (18, some (.row 2 64 ((x1968 ++ [b1974]).map etomb_Range)))], 0⟩ [[b1974].map etomb_Range = [[iI .i64 b1974.f0, iI .i64 b1974.f1]], (x1968 ++ [b1974]).map etomb_Range = (x1968.map etomb_Range) ++ ([b1974].map etomb_Range), ∀ c ∈ ([b1974].map etomb_Range), c.length = 2, ∀ c ∈ ([b1974].map etomb_Range), leaves (c.map .im) = true, ((x1968.map etomb_Range).length + ([b1974].map etomb_Range).length) * 16 ≤ 140737488355328] (by kernel_rfl) ⟨by exact rfl, by simp, by exact all_len _ _ _ (fun _ => rfl), by exact all_leaf _ _ (fun _ => rfl), by simpa using c1994, trivial⟩ ?_
            obtain rfl := Option.some.inj H
            exact Exists.intro _ (And.intro (fun _ _ h => h.conv (inv := [(12, 19), (13, 20), (18, 21), (16, 22)]) (vk := []) (e0 := []) (t := ⟨[(2, .ptr 19 0 0), (3, .ptr 20 0 0), (12, .own 22), (13, iV .i64 (t1957.length : Int)), (14, iV .i64 x1969)], [(19, some (.box 27 [.none0])), (20, some (.box 27 [.own 21])), (21, some (.row 2 64 ((x1968 ++ [b1974]).map etomb_Range))), (22, some (.row 2 64 (t1957.map etomb_Range)))], 0⟩) (by kernel_rfl)) (And.intro rfl rfl))
      · obtain ⟨x1995, rfl⟩ : ∃ z, z = o1999 := ⟨_, rfl⟩
        rintro e s ⟨rfl, rfl⟩
        refine reg hP hn hm [] [2, 3, 12, 13, 14] [19, 20, 21, 22] ⟨[(2, .ptr 19 0 0), (3, .ptr 20 0 0), (12, .own 22), (13, iV .i64 (t1957.length : Int)), (14, iV .i64 (IntKind.i64.wrap (x1969 + (1 : Int))))], [(19, some (.box 27 [.none0])), (20, some (.box 27 [.own 21])), (21, some (.row 2 64 (x1995.map etomb_Range))), (22, some (.row 2 64 (t1957.map etomb_Range)))], 0⟩ [] (by kernel_rfl) trivial ?_
        exact LWp.conv (inv := [(19, 7), (20, 8), (21, 9), (22, 10)]) (vk := []) (e0 := []) (t := ⟨[(2, .ptr 7 0 0), (3, .ptr 8 0 0), (12, .own 10), (13, iV .i64 (t1957.length : Int)), (14, iV .i64 (IntKind.i64.wrap (x1969 + (1 : Int))))], [(7, some (.box 27 [.none0])), (8, some (.box 27 [.own 9])), (9, some (.row 2 64 (x1995.map etomb_Range))), (10, some (.row 2 64 (t1957.map etomb_Range)))], 0⟩) (by kernel_rfl) (ih _ _ _ H)
    · replace H := (ifF c1970).symm.trans H
      refine AWp.exit ?_
      obtain rfl := Option.some.inj H
      exact Exists.intro _ (And.intro (fun _ _ h => h.conv (inv := [(7, 23), (8, 24), (9, 25)]) (vk := []) (e0 := []) (t := ⟨[(2, .ptr 23 0 0), (3, .ptr 24 0 0)], [(23, some (.box 27 [.none0])), (24, some (.box 27 [.own 25])), (25, some (.row 2 64 (x1968.map etomb_Range)))], 0⟩) (by kernel_rfl)) (And.intro rfl rfl))
  · obtain ⟨x1996, rfl⟩ : ∃ z, z = o1997 := ⟨_, rfl⟩
    rintro e s ⟨rfl, rfl⟩
    refine AWp.seq ?_
    refine reg hP hn hm [] [2] [23, 25] ⟨[(2, .ptr 23 0 0)], [(23, some (.box 27 [.own 25])), (25, some (.row 2 64 (x1996.map etomb_Range)))], 0⟩ [] (by kernel_rfl) trivial ?_
    refine AWp.conv (inv := [(23, 1), (25, 0)]) (vk := []) (e0 := []) (t := ⟨[(2, .ptr 1 0 0)], [(0, some (.row 2 64 ((((⟨x1996⟩ : Ttomb_Set)).f0).map etomb_Range))), (1, some (.box 27 [.own 0]))], 0⟩) (by kernel_rfl) ?_
    refine AWp.ret ?_
    obtain rfl := Option.some.inj H
    exact Exists.intro _ (And.intro (fun _ _ h => h) (And.intro (.inl rfl) (And.intro rfl (And.intro (by kernel_rfl) (by kernel_rfl)))))
def f_tomb_Set_Ranges.f (a0 : Ttomb_Set) : Option (List Ttomb_Range) := (f_slices_Clone_tomb_Range.f a0.f0) >>= fun t2007 => some t2007
theorem f_tomb_Set_Ranges.ok (a0 : Ttomb_Set) (r : List Ttomb_Range) (H : f_tomb_Set_Ranges.f a0 = some r) : Pv.Fn Try.prog 31 [.agg [.im (.row (a0.f0.map etomb_Range))]] [] 0 (fun x o => x = .own 0 ∧ o = [(0, some (.row 2 64 (r.map etomb_Range)))]) := by
  unfold f_tomb_Set_Ranges.f at H
  refine Fn.bodyK [0] Try.func31 rfl rfl (fun Γ hP hn => ?_)
  have hm : Try.prog.follows .mixedOrders = true := by kernel_rfl
  replace hn : Γ.n = 6 := hn
  refine AWp.seq ?_
  refine reg hP hn hm [(0, .k 0)] [1] [0] ⟨[(1, .ptr 0 0 0)], [(0, some (.box 27 [.im (.row (a0.f0.map etomb_Range))]))], 0⟩ [] (by kernel_rfl) trivial ?_
  refine AWp.seq ?_
  obtain ⟨t2007, e2008, H⟩ := bind_of H
  refine reg hP hn hm [(2, .call [] [(0, 1)] [] [1] 0 (.own 0) [(0, some (.row 2 64 (t2007.map etomb_Range)))])] [2] [1] ⟨[(2, .own 1)], [(1, some (.row 2 64 (t2007.map etomb_Range)))], 0⟩ [Enters Try.prog 56, Pv.Fn Try.prog 56 [.im (.row (a0.f0.map etomb_Range))] [] 0 (fun r o => r = .own 0 ∧ o = [(0, some (.row 2 64 (t2007.map etomb_Range)))])] (by kernel_rfl) ⟨by exact Try.call56, by exact f_slices_Clone_tomb_Range.ok a0.f0 t2007 e2008, trivial⟩ ?_
  refine AWp.conv (inv := [(1, 0)]) (vk := []) (e0 := []) (t := ⟨[(2, .own 0)], [(0, some (.row 2 64 (t2007.map etomb_Range)))], 0⟩) (by kernel_rfl) ?_
  refine AWp.ret ?_
  obtain rfl := Option.some.inj H
  exact Exists.intro _ (And.intro (fun _ _ h => h) (And.intro (.inl rfl) (And.intro rfl (And.intro (by kernel_rfl) (by kernel_rfl)))))
def f_pluviallaw14_awake.f  : Option (Bool) := (f_tomb_Of.f [(⟨4, 5⟩ : Ttomb_Range), (⟨1, 3⟩ : Ttomb_Range), (⟨9, 9⟩ : Ttomb_Range)]) >>= fun t2011 => (f_tomb_Set_Ranges.f (t2011)) >>= fun t2013 => ((if ((t2013.length : Int) == (2 : Int)) = true then ((at? t2013 0) >>= fun b2024 => if ((b2024.f0 == (1 : Int)) && ((b2024.f1 == (5 : Int)) && true)) = true then ((at? t2013 1) >>= fun b2028 => some ((b2028.f0 == (9 : Int)) && ((b2028.f1 == (9 : Int)) && true))) else (some false)) else (some false)) : Option (Bool)) >>= fun x2031 => some x2031
theorem f_pluviallaw14_awake.ok  (r : Bool) (H : f_pluviallaw14_awake.f  = some r) : Pv.Fn Try.prog 13 [] [] 0 (fun x o => x = bV r ∧ o = []) := by
  unfold f_pluviallaw14_awake.f at H
  refine Fn.bodyK [] Try.func13 rfl rfl (fun Γ hP hn => ?_)
  have hm : Try.prog.follows .mixedOrders = true := by kernel_rfl
  replace hn : Γ.n = 25 := hn
  refine AWp.seq ?_
  refine reg hP hn hm [] [] [] ⟨[], [], 0⟩ [] (by kernel_rfl) trivial ?_
  refine AWp.seq ?_
  obtain ⟨t2011, e2012, H⟩ := bind_of H
  obtain ⟨t2013, e2014, H⟩ := bind_of H
  refine reg hP hn hm [(3, .app 0 ([(⟨4, 5⟩ : Ttomb_Range), (⟨1, 3⟩ : Ttomb_Range), (⟨9, 9⟩ : Ttomb_Range)].map etomb_Range)), (4, .call [] [(0, 1)] [0] [1] 0 (.agg [.own 0]) [(0, some (.row 2 64 (((t2011).f0).map etomb_Range)))]), (5, .call [] [(0, 2)] [1] [2] 0 (.own 0) [(0, some (.row 2 64 (t2013.map etomb_Range)))])] [1] [2] ⟨[(1, .own 2)], [(2, some (.row 2 64 (t2013.map etomb_Range)))], 0⟩ [[(⟨4, 5⟩ : Ttomb_Range), (⟨1, 3⟩ : Ttomb_Range), (⟨9, 9⟩ : Ttomb_Range)].map etomb_Range = [[iI .i64 4, iI .i64 5], [iI .i64 1, iI .i64 3], [iI .i64 9, iI .i64 9]], Enters Try.prog 14, Pv.Fn Try.prog 14 [.im (.row ([(⟨4, 5⟩ : Ttomb_Range), (⟨1, 3⟩ : Ttomb_Range), (⟨9, 9⟩ : Ttomb_Range)].map etomb_Range))] [] 0 (fun r o => r = .agg [.own 0] ∧ o = [(0, some (.row 2 64 (((t2011).f0).map etomb_Range)))]), Enters Try.prog 31, Pv.Fn Try.prog 31 [.agg [.im (.row (((t2011).f0).map etomb_Range))]] [] 0 (fun r o => r = .own 0 ∧ o = [(0, some (.row 2 64 (t2013.map etomb_Range)))])] (by kernel_rfl) ⟨by exact rfl, by exact Try.call14, by exact f_tomb_Of.ok [(⟨4, 5⟩ : Ttomb_Range), (⟨1, 3⟩ : Ttomb_Range), (⟨9, 9⟩ : Ttomb_Range)] t2011 e2012, by exact Try.call31, by exact f_tomb_Set_Ranges.ok (t2011) t2013 e2014, trivial⟩ ?_
  refine AWp.seq ?_
  obtain ⟨o2032, e2033, H⟩ := bind_of H
  refine AWp.mono (Q := fun e s => (match (generalizing := false) o2032 with | x2031 => e = .normal ∧ s = ⟨[(0, bV x2031)], [], 0⟩)) (AWp.cv ?_) ?_
  · replace H := e2033; clear e2033
    rcases Bool.eq_false_or_eq_true ((t2013.length : Int) == (2 : Int)) with c2023 | c2023
    · replace H := (ifT c2023).symm.trans H
      obtain ⟨b2024, p2025, q2026, H⟩ := at_of H
      rcases Bool.eq_false_or_eq_true ((b2024.f0 == (1 : Int)) && ((b2024.f1 == (5 : Int)) && true)) with c2027 | c2027
      · replace H := (ifT c2027).symm.trans H
        obtain ⟨b2028, p2029, q2030, H⟩ := at_of H
        refine reg hP hn hm [(1, .any (iV .i64 (t2013.length : Int))), (3, .b true), (6, .c (etomb_Range b2024)), (8, .more (xAgg none)), (10, .b true), (13, .c (etomb_Range b2028)), (15, .more (xAgg none))] [0] [] ⟨[(0, bV ((b2028.f0 == (9 : Int)) && ((b2028.f1 == (9 : Int)) && true)))], [], 0⟩ [((t2013.map etomb_Range).length : Int) = (t2013.length : Int), ((t2013.length : Int) == (2 : Int)) = true, 0 ≤ (0 : Int), 0 < (((t2013.map etomb_Range).length : Nat) : Int), (t2013.map etomb_Range)[(Int.toNat (0))]? = some (etomb_Range b2024), ((b2024.f0 == (1 : Int)) && ((b2024.f1 == (5 : Int)) && true)) = true, 0 ≤ (1 : Int), 1 < (((t2013.map etomb_Range).length : Nat) : Int), (t2013.map etomb_Range)[(Int.toNat (1))]? = some (etomb_Range b2028)] (by kernel_rfl) ⟨by rw [len_map], by exact c2023, by exact p2025, by exact el_lt etomb_Range p2025 q2026, by exact el_map etomb_Range q2026, by exact c2027, by exact p2029, by exact el_lt etomb_Range p2029 q2030, by exact el_map etomb_Range q2030, trivial⟩ ?_
        obtain rfl := Option.some.inj H
        exact Exists.intro _ (And.intro (fun _ _ h => h.conv (inv := []) (vk := []) (e0 := []) (t := ⟨[(0, bV ((b2028.f0 == (9 : Int)) && ((b2028.f1 == (9 : Int)) && true)))], [], 0⟩) (by kernel_rfl)) (And.intro rfl rfl))
      · replace H := (ifF c2027).symm.trans H
        refine reg hP hn hm [(1, .any (iV .i64 (t2013.length : Int))), (3, .b true), (6, .c (etomb_Range b2024)), (8, .more (xAgg none)), (10, .b false)] [0] [] ⟨[(0, bV false)], [], 0⟩ [((t2013.map etomb_Range).length : Int) = (t2013.length : Int), ((t2013.length : Int) == (2 : Int)) = true, 0 ≤ (0 : Int), 0 < (((t2013.map etomb_Range).length : Nat) : Int), (t2013.map etomb_Range)[(Int.toNat (0))]? = some (etomb_Range b2024), ((b2024.f0 == (1 : Int)) && ((b2024.f1 == (5 : Int)) && true)) = false] (by kernel_rfl) ⟨by rw [len_map], by exact c2023, by exact p2025, by exact el_lt etomb_Range p2025 q2026, by exact el_map etomb_Range q2026, by exact c2027, trivial⟩ ?_
        obtain rfl := Option.some.inj H
        exact Exists.intro _ (And.intro (fun _ _ h => h.conv (inv := []) (vk := []) (e0 := []) (t := ⟨[(0, bV false)], [], 0⟩) (by kernel_rfl)) (And.intro rfl rfl))
    · replace H := (ifF c2023).symm.trans H
      refine reg hP hn hm [(1, .any (iV .i64 (t2013.length : Int))), (3, .b false)] [0] [] ⟨[(0, bV false)], [], 0⟩ [((t2013.map etomb_Range).length : Int) = (t2013.length : Int), ((t2013.length : Int) == (2 : Int)) = false] (by kernel_rfl) ⟨by rw [len_map], by exact c2023, trivial⟩ ?_
      obtain rfl := Option.some.inj H
      exact Exists.intro _ (And.intro (fun _ _ h => h.conv (inv := []) (vk := []) (e0 := []) (t := ⟨[(0, bV false)], [], 0⟩) (by kernel_rfl)) (And.intro rfl rfl))
  · obtain ⟨x2031, rfl⟩ : ∃ z, z = o2032 := ⟨_, rfl⟩
    rintro e s ⟨rfl, rfl⟩
    refine AWp.conv (inv := []) (vk := []) (e0 := []) (t := ⟨[(0, bV x2031)], [], 0⟩) (by kernel_rfl) ?_
    refine AWp.ret ?_
    obtain rfl := Option.some.inj H
    exact Exists.intro _ (And.intro (fun _ _ h => h) (And.intro (.inl rfl) (And.intro rfl (And.intro (by kernel_rfl) (by kernel_rfl)))))
def f_pluviallaw14_To.l0 (a0 : List Ttomb_Range) (x2047 : List Ttomb_Range) (x2048 : Int) : Option (List Ttomb_Range) := if (decide (x2048 < (a0.length : Int))) = true then ((at? a0 x2048) >>= fun b2053 => (chk ((x2047.length + [b2053].length) * 16 ≤ 140737488355328)) >>= fun _ => f_pluviallaw14_To.l0 a0 (x2047 ++ [b2053]) (IntKind.i64.wrap (x2048 + (1 : Int)))) else (some x2047)
partial_fixpoint
def f_pluviallaw14_To.f (a0 : List Ttomb_Range) : Option (List Ttomb_Range) := (f_pluviallaw14_To.l0 a0 [] 0) >>= fun x2058 => some x2058
theorem f_pluviallaw14_To.ok (a0 : List Ttomb_Range) (r : List Ttomb_Range) (H : f_pluviallaw14_To.f a0 = some r) : Pv.Fn Try.prog 15 [.im (.row (a0.map etomb_Range))] [] 0 (fun x o => x = .own 0 ∧ o = [(0, some (.row 2 64 (r.map etomb_Range)))]) := by
  unfold f_pluviallaw14_To.f at H
  refine Fn.bodyK [0] Try.func15 rfl rfl (fun Γ hP hn => ?_)
  have hm : Try.prog.follows .mixedOrders = true := by kernel_rfl
  replace hn : Γ.n = 18 := hn
  refine AWp.seq ?_
  refine reg hP hn hm [] [0] [] ⟨[(0, .im (.row (a0.map etomb_Range)))], [], 0⟩ [] (by kernel_rfl) trivial ?_
  refine AWp.seq ?_
  refine reg hP hn hm [] [0, 3] [] ⟨[(0, .im (.row (a0.map etomb_Range))), (3, .none0)], [], 0⟩ [] (by kernel_rfl) trivial ?_
  refine AWp.seq ?_
  refine AWp.seq ?_
  refine reg hP hn hm [(1, .any (iV .i64 (a0.length : Int)))] [3, 6, 7, 8] [] ⟨[(3, .none0), (6, .im (.row (a0.map etomb_Range))), (7, iV .i64 (a0.length : Int)), (8, iV .i64 0)], [], 0⟩ [((a0.map etomb_Range).length : Int) = (a0.length : Int)] (by kernel_rfl) ⟨by rw [len_map], trivial⟩ ?_
  refine AWp.block ?_
  obtain ⟨o2059, e2060, H⟩ := bind_of H
  refine AWp.loop (LWp.conv (inv := []) (vk := []) (e0 := [3]) (t := ⟨[(3, .own 3), (6, .im (.row (a0.map etomb_Range))), (7, iV .i64 (a0.length : Int)), (8, iV .i64 0)], [(3, some (.row 2 64 ([].map etomb_Range)))], 0⟩) (by kernel_rfl) ?_)
  refine LWp.mono (Q := fun e s => (match (generalizing := false) o2059 with | x2058 => e = .exit 0 ∧ s = ⟨[(3, .own 7)], [(7, some (.row 2 64 (x2058.map etomb_Range)))], 0⟩)) (LWp.cv (withBody (fun body hbody => ?_))) ?_
  · refine f_pluviallaw14_To.l0.partial_correctness a0 (motive := fun x2047 x2048 o2059 => LWp Γ body (fun e s => ∃ t, Cv Γ s t ∧ (match (generalizing := false) o2059 with | x2058 => e = .exit 0 ∧ t = ⟨[(3, .own 7)], [(7, some (.row 2 64 (x2058.map etomb_Range)))], 0⟩)) ⟨[(3, .own 3), (6, .im (.row (a0.map etomb_Range))), (7, iV .i64 (a0.length : Int)), (8, iV .i64 x2048)], [(3, some (.row 2 64 (x2047.map etomb_Range)))], 0⟩) ?_ _ _ _ e2060
    clear H e2060 o2059; intro self ih x2047 x2048 o2059 H
    subst hbody
    refine LWp.round ?_
    refine AWp.seq ?_
    refine reg hP hn hm [] [3, 6, 7, 8, 9] [3] ⟨[(3, .own 3), (6, .im (.row (a0.map etomb_Range))), (7, iV .i64 (a0.length : Int)), (8, iV .i64 x2048), (9, bV (decide (x2048 < (a0.length : Int))))], [(3, some (.row 2 64 (x2047.map etomb_Range)))], 0⟩ [] (by kernel_rfl) trivial ?_
    refine AWp.seq ?_
    refine AWp.cond (decide (x2048 < (a0.length : Int))) rfl (fun c2049 => ?_) (fun c2049 => ?_)
    · replace H := (ifT c2049).symm.trans H
      refine AWp.skip ?_
      refine AWp.seq ?_
      refine AWp.block ?_
      refine AWp.seq ?_
      obtain ⟨b2053, p2054, q2055, H⟩ := at_of H
      refine reg hP hn hm [(0, .c (etomb_Range b2053)), (2, .k 4)] [3, 5, 6, 7, 8] [3, 4] ⟨[(3, .own 3), (5, .ptr 4 0 0), (6, .im (.row (a0.map etomb_Range))), (7, iV .i64 (a0.length : Int)), (8, iV .i64 x2048)], [(3, some (.row 2 64 (x2047.map etomb_Range))), (4, some (.box 63 (atomb_Range b2053)))], 0⟩ [0 ≤ x2048, (a0.map etomb_Range)[(Int.toNat (x2048))]? = some (etomb_Range b2053)] (by kernel_rfl) ⟨by exact p2054, by exact el_map etomb_Range q2055, trivial⟩ ?_
      obtain ⟨c2057, H⟩ := chk_of H
      refine reg hP hn hm [(2, .app 5 ([b2053].map etomb_Range)), (3, .app 6 ((x2047 ++ [b2053]).map etomb_Range))] [3, 6, 7, 8] [6] ⟨[(3, .own 6), (6, .im (.row (a0.map etomb_Range))), (7, iV .i64 (a0.length : Int)), (8, iV .i64 x2048)], [(6, some (.row 2 64 ((x2047 ++ [b2053]).map etomb_Range)))], 0⟩ [[b2053].map etomb_Range = [[iI .i64 b2053.f0, iI .i64 b2053.f1]], (x2047 ++ [b2053]).map etomb_Range = (x2047.map etomb_Range) ++ ([b2053].map etomb_Range), ∀ c ∈ ([b2053].map etomb_Range), c.length = 2, ∀ c ∈ ([b2053].map etomb_Range), leaves (c.map .im) = true, ((x2047.map etomb_Range).length + ([b2053].map etomb_Range).length) * 16 ≤ 140737488355328] (by kernel_rfl) ⟨by exact rfl, by simp, by exact all_len _ _ _ (fun _ => rfl), by exact all_leaf _ _ (fun _ => rfl), by simpa using c2057, trivial⟩ ?_
      refine reg hP hn hm [] [3, 6, 7, 8] [6] ⟨[(3, .own 6), (6, .im (.row (a0.map etomb_Range))), (7, iV .i64 (a0.length : Int)), (8, iV .i64 (IntKind.i64.wrap (x2048 + (1 : Int))))], [(6, some (.row 2 64 ((x2047 ++ [b2053]).map etomb_Range)))], 0⟩ [] (by kernel_rfl) trivial ?_
      exact LWp.conv (inv := [(6, 3)]) (vk := []) (e0 := []) (t := ⟨[(3, .own 3), (6, .im (.row (a0.map etomb_Range))), (7, iV .i64 (a0.length : Int)), (8, iV .i64 (IntKind.i64.wrap (x2048 + (1 : Int))))], [(3, some (.row 2 64 ((x2047 ++ [b2053]).map etomb_Range)))], 0⟩) (by kernel_rfl) (ih _ _ _ H)
    · replace H := (ifF c2049).symm.trans H
      refine AWp.exit ?_
      obtain rfl := Option.some.inj H
      exact Exists.intro _ (And.intro (fun _ _ h => h.conv (inv := [(3, 7)]) (vk := []) (e0 := []) (t := ⟨[(3, .own 7)], [(7, some (.row 2 64 (x2047.map etomb_Range)))], 0⟩) (by kernel_rfl)) (And.intro rfl rfl))
  · obtain ⟨x2058, rfl⟩ : ∃ z, z = o2059 := ⟨_, rfl⟩
    rintro e s ⟨rfl, rfl⟩
    refine AWp.seq ?_
    refine reg hP hn hm [] [2] [7] ⟨[(2, .own 7)], [(7, some (.row 2 64 (x2058.map etomb_Range)))], 0⟩ [] (by kernel_rfl) trivial ?_
    refine AWp.conv (inv := [(7, 0)]) (vk := []) (e0 := []) (t := ⟨[(2, .own 0)], [(0, some (.row 2 64 (x2058.map etomb_Range)))], 0⟩) (by kernel_rfl) ?_
    refine AWp.ret ?_
    obtain rfl := Option.some.inj H
    exact Exists.intro _ (And.intro (fun _ _ h => h) (And.intro (.inl rfl) (And.intro rfl (And.intro (by kernel_rfl) (by kernel_rfl)))))
def f_slices_Clone_api_Sample.f (a0 : List TSample) : Option (List TSample) := (chk ((([] : List TSample).length + a0.length) * 104 ≤ 140737488355328)) >>= fun _ => some a0
theorem f_slices_Clone_api_Sample.ok (a0 r : List TSample) (H : f_slices_Clone_api_Sample.f a0 = some r) : Pv.Fn Try.prog 63 [.im (.row (a0.map eSample))] [] 0 (fun x o => x = .own 0 ∧ o = [(0, some (.row 9 37 (r.map eSample)))]) := by
  unfold f_slices_Clone_api_Sample.f at H
  obtain ⟨c1, H⟩ := chk_of H
  obtain rfl := Option.some.inj H
  refine Fn.bodyK [0] Try.func63 rfl rfl (fun Γ hP hn => ?_)
  have hm : Try.prog.follows .mixedOrders = true := by kernel_rfl
  replace hn : Γ.n = 8 := hn
  refine AWp.seq ?_
  refine reg hP hn hm [] [0, 2] [] ⟨[(0, .im (.row (a0.map eSample))), (2, .none0)], [], 0⟩ [] (by kernel_rfl) trivial ?_
  refine AWp.seq ?_
  cases a0 with
  | nil =>
    refine AWp.nilSplit 0 rfl (fun b m => ?_)
    refine AWp.seq ?_
    cases b with
    | none =>
      refine reg hP hn hm [(1, .more xNil)] [2, 4] [] ⟨[(2, .none0), (4, bV true)], [], 0⟩ [] (by kernel_rfl) trivial ?_
      refine AWp.cond true rfl (fun _ => ?_) (fun h => nomatch h)
      refine AWp.seq ?_
      refine reg hP hn hm [] [2] [] ⟨[(2, .none0)], [], 0⟩ [] (by kernel_rfl) trivial ?_
      refine AWp.conv (inv := []) (vk := []) (e0 := [0]) (t := ⟨[(2, .own 0)], [(0, some (.row 9 37 []))], 0⟩) (by kernel_rfl) ?_
      refine AWp.ret ?_
      exact Exists.intro _ (And.intro (fun _ _ h => h) (And.intro (.inl rfl) (And.intro rfl (And.intro (by kernel_rfl) (by kernel_rfl)))))
    | some b =>
      refine reg hP hn hm [(1, .more xNil)] [0, 2, 4] [] ⟨[(0, .im (.sc (.slice (some b) 0 m))), (2, .none0), (4, bV false)], [], 0⟩ [] (by kernel_rfl) trivial ?_
      refine AWp.cond false rfl (fun h => nomatch h) (fun _ => ?_)
      refine AWp.skip ?_
      refine AWp.unsplit 0 rfl ?_
      refine AWp.seq ?_
      refine reg hP hn hm [(0, .app 0 ([] : List (List Im))), (2, .app 1 (([] : List TSample).map eSample))] [2] [1] ⟨[(2, .own 1)], [(1, some (.row 9 37 (([] : List TSample).map eSample)))], 0⟩ [([] : List (List Im)) = [], ([] : List TSample).map eSample = ([] : List (List Im)) ++ ([] : List TSample).map eSample, ∀ c ∈ ([] : List TSample).map eSample, c.length = 9, ∀ c ∈ ([] : List TSample).map eSample, leaves (c.map .im) = true, (([] : List (List Im)).length + (([] : List TSample).map eSample).length) * 104 ≤ 140737488355328] (by kernel_rfl) ⟨rfl, by simp, by exact all_len _ _ _ (fun _ => rfl), by exact all_leaf _ _ (fun _ => rfl), by simpa using c1, trivial⟩ ?_
      refine AWp.conv (inv := [(1, 0)]) (vk := []) (e0 := []) (t := ⟨[(2, .own 0)], [(0, some (.row 9 37 (([] : List TSample).map eSample)))], 0⟩) (by kernel_rfl) ?_
      refine AWp.ret ?_
      exact Exists.intro _ (And.intro (fun _ _ h => h) (And.intro (.inl rfl) (And.intro rfl (And.intro (by kernel_rfl) (by kernel_rfl)))))
  | cons y l =>
    refine AWp.seq ?_
    refine reg hP hn hm [(1, .more xNil)] [0, 2, 4] [] ⟨[(0, .im (.row ((y :: l).map eSample))), (2, .none0), (4, bV false)], [], 0⟩ [] (by kernel_rfl) trivial ?_
    refine AWp.cond false rfl (fun h => nomatch h) (fun _ => ?_)
    refine AWp.skip ?_
    refine AWp.seq ?_
    refine reg hP hn hm [(0, .app 0 ([] : List (List Im))), (2, .app 1 ((y :: l).map eSample))] [2] [1] ⟨[(2, .own 1)], [(1, some (.row 9 37 ((y :: l).map eSample)))], 0⟩ [([] : List (List Im)) = [], (y :: l).map eSample = ([] : List (List Im)) ++ (y :: l).map eSample, ∀ c ∈ (y :: l).map eSample, c.length = 9, ∀ c ∈ (y :: l).map eSample, leaves (c.map .im) = true, (([] : List (List Im)).length + ((y :: l).map eSample).length) * 104 ≤ 140737488355328] (by kernel_rfl) ⟨rfl, by simp, by exact all_len _ _ _ (fun _ => rfl), by exact all_leaf _ _ (fun _ => rfl), by simpa using c1, trivial⟩ ?_
    refine AWp.conv (inv := [(1, 0)]) (vk := []) (e0 := []) (t := ⟨[(2, .own 0)], [(0, some (.row 9 37 ((y :: l).map eSample)))], 0⟩) (by kernel_rfl) ?_
    refine AWp.ret ?_
    exact Exists.intro _ (And.intro (fun _ _ h => h) (And.intro (.inl rfl) (And.intro rfl (And.intro (by kernel_rfl) (by kernel_rfl)))))
def f_tomb_Set_Has_1.f (a0 : Ttomb_Range) (a1 : Int) : Option (Int) := (f_cmp_Compare_int64.f a0.f0 a1) >>= fun t2102 => some t2102
theorem f_tomb_Set_Has_1.ok (a0 : Ttomb_Range) (a1 : Int) (r : Int) (H : f_tomb_Set_Has_1.f a0 a1 = some r) : Pv.Fn Try.prog 66 [.agg (atomb_Range a0), iV .i64 a1] [] 0 (fun x o => x = iV .i64 r ∧ o = []) := by
  unfold f_tomb_Set_Has_1.f at H
  refine Fn.bodyK [] Try.func66 rfl rfl (fun Γ hP hn => ?_)
  have hm : Try.prog.follows .mixedOrders = true := by kernel_rfl
  replace hn : Γ.n = 9 := hn
  refine AWp.seq ?_
  refine reg hP hn hm [(0, .k 0)] [1, 2] [0] ⟨[(1, iV .i64 a1), (2, .ptr 0 0 0)], [(0, some (.box 64 (atomb_Range a0)))], 0⟩ [] (by kernel_rfl) trivial ?_
  refine AWp.seq ?_
  obtain ⟨t2102, e2103, H⟩ := bind_of H
  refine reg hP hn hm [(3, .call [] [] [] [] 0 (iV .i64 t2102) [])] [4] [] ⟨[(4, iV .i64 t2102)], [], 0⟩ [Enters Try.prog 61, Pv.Fn Try.prog 61 [iV .i64 a0.f0, iV .i64 a1] [] 0 (fun r o => r = iV .i64 t2102 ∧ o = [])] (by kernel_rfl) ⟨by exact Try.call61, by exact f_cmp_Compare_int64.ok a0.f0 a1 t2102 e2103, trivial⟩ ?_
  refine AWp.conv (inv := []) (vk := []) (e0 := []) (t := ⟨[(4, iV .i64 t2102)], [], 0⟩) (by kernel_rfl) ?_
  refine AWp.ret ?_
  obtain rfl := Option.some.inj H
  exact Exists.intro _ (And.intro (fun _ _ h => h) (And.intro (.inl rfl) (And.intro rfl (And.intro (by kernel_rfl) (by kernel_rfl)))))
def f_slices_BinarySearchFunc_tomb_Range_tomb_Set_Has_1.l0 (a0 : List Ttomb_Range) (a1 : Int) (x2114 : Int) (x2115 : Int) : Option (Int) := if (decide (x2114 < x2115)) = true then ((at? a0 (IntKind.i64.wrap (Int.fdiv (IntKind.u64.wrap (IntKind.i64.wrap (x2114 + x2115))) 2))) >>= fun b2122 => (f_tomb_Set_Has_1.f b2122 a1) >>= fun t2125 => ((if (decide (t2125 < (0 : Int))) = true then (some (IntKind.i64.wrap ((IntKind.i64.wrap (Int.fdiv (IntKind.u64.wrap (IntKind.i64.wrap (x2114 + x2115))) 2)) + (1 : Int)), x2115)) else (some (x2114, IntKind.i64.wrap (Int.fdiv (IntKind.u64.wrap (IntKind.i64.wrap (x2114 + x2115))) 2)))) : Option (Int × Int)) >>= fun oo => match oo with | (x2128, x2129) => (f_slices_BinarySearchFunc_tomb_Range_tomb_Set_Has_1.l0 a0 a1 x2128 x2129)) else (some x2114)
partial_fixpoint
def f_slices_BinarySearchFunc_tomb_Range_tomb_Set_Has_1.f (a0 : List Ttomb_Range) (a1 : Int) : Option (Int × Bool) := (f_slices_BinarySearchFunc_tomb_Range_tomb_Set_Has_1.l0 a0 a1 0 (a0.length : Int)) >>= fun x2130 => ((if (decide (x2130 < (a0.length : Int))) = true then ((at? a0 x2130) >>= fun b2138 => (f_tomb_Set_Has_1.f b2138 a1) >>= fun t2141 => some (t2141 == (0 : Int))) else (some false)) : Option (Bool)) >>= fun x2143 => some (x2130, x2143)
theorem f_slices_BinarySearchFunc_tomb_Range_tomb_Set_Has_1.ok (a0 : List Ttomb_Range) (a1 : Int) (r : Int × Bool) (H : f_slices_BinarySearchFunc_tomb_Range_tomb_Set_Has_1.f a0 a1 = some r) : Pv.Fn Try.prog 65 [.im (.row (a0.map etomb_Range)), iV .i64 a1, .im (.sc (.func (.func 66) #[] #[]))] [] 0 (fun x o => x = .tup [iV .i64 r.1, bV r.2] ∧ o = []) := by
  unfold f_slices_BinarySearchFunc_tomb_Range_tomb_Set_Has_1.f at H
  refine Fn.bodyK [] Try.func65 rfl rfl (fun Γ hP hn => ?_)
  have hm : Try.prog.follows .mixedOrders = true := by kernel_rfl
  replace hn : Γ.n = 49 := hn
  refine AWp.seq ?_
  refine reg hP hn hm [] [0, 1, 2] [] ⟨[(0, .im (.row (a0.map etomb_Range))), (1, iV .i64 a1), (2, .im (.sc (.func (.func 66) #[] #[])))], [], 0⟩ [] (by kernel_rfl) trivial ?_
  refine AWp.seq ?_
  refine reg hP hn hm [(1, .any (iV .i64 (a0.length : Int)))] [0, 1, 2, 8] [] ⟨[(0, .im (.row (a0.map etomb_Range))), (1, iV .i64 a1), (2, .im (.sc (.func (.func 66) #[] #[]))), (8, iV .i64 (a0.length : Int))], [], 0⟩ [((a0.map etomb_Range).length : Int) = (a0.length : Int)] (by kernel_rfl) ⟨by rw [len_map], trivial⟩ ?_
  refine AWp.seq ?_
  refine reg hP hn hm [] [0, 1, 2, 8, 9, 10] [] ⟨[(0, .im (.row (a0.map etomb_Range))), (1, iV .i64 a1), (2, .im (.sc (.func (.func 66) #[] #[]))), (8, iV .i64 (a0.length : Int)), (9, iV .i64 0), (10, iV .i64 (a0.length : Int))], [], 0⟩ [] (by kernel_rfl) trivial ?_
  refine AWp.seq ?_
  refine AWp.block ?_
  obtain ⟨o2144, e2145, H⟩ := bind_of H
  refine AWp.loop (LWp.conv (inv := []) (vk := []) (e0 := []) (t := ⟨[(0, .im (.row (a0.map etomb_Range))), (1, iV .i64 a1), (2, .im (.sc (.func (.func 66) #[] #[]))), (8, iV .i64 (a0.length : Int)), (9, iV .i64 0), (10, iV .i64 (a0.length : Int))], [], 0⟩) (by kernel_rfl) ?_)
  refine LWp.mono (Q := fun e s => (match (generalizing := false) o2144 with | x2130 => e = .exit 0 ∧ s = ⟨[(0, .im (.row (a0.map etomb_Range))), (1, iV .i64 a1), (2, .im (.sc (.func (.func 66) #[] #[]))), (8, iV .i64 (a0.length : Int)), (9, iV .i64 x2130)], [], 0⟩)) (LWp.cv (withBody (fun body hbody => ?_))) ?_
  · refine f_slices_BinarySearchFunc_tomb_Range_tomb_Set_Has_1.l0.partial_correctness a0 a1 (motive := fun x2114 x2115 o2144 => LWp Γ body (fun e s => ∃ t, Cv Γ s t ∧ (match (generalizing := false) o2144 with | x2130 => e = .exit 0 ∧ t = ⟨[(0, .im (.row (a0.map etomb_Range))), (1, iV .i64 a1), (2, .im (.sc (.func (.func 66) #[] #[]))), (8, iV .i64 (a0.length : Int)), (9, iV .i64 x2130)], [], 0⟩)) ⟨[(0, .im (.row (a0.map etomb_Range))), (1, iV .i64 a1), (2, .im (.sc (.func (.func 66) #[] #[]))), (8, iV .i64 (a0.length : Int)), (9, iV .i64 x2114), (10, iV .i64 x2115)], [], 0⟩) ?_ _ _ _ e2145
    clear H e2145 o2144; intro self ih x2114 x2115 o2144 H
    subst hbody
    refine LWp.round ?_
    refine AWp.seq ?_
    refine AWp.seq ?_
    refine reg hP hn hm [] [0, 1, 2, 8, 9, 10, 17] [] ⟨[(0, .im (.row (a0.map etomb_Range))), (1, iV .i64 a1), (2, .im (.sc (.func (.func 66) #[] #[]))), (8, iV .i64 (a0.length : Int)), (9, iV .i64 x2114), (10, iV .i64 x2115), (17, bV (decide (x2114 < x2115)))], [], 0⟩ [] (by kernel_rfl) trivial ?_
    refine AWp.cond (decide (x2114 < x2115)) rfl (fun c2116 => ?_) (fun c2116 => ?_)
    · replace H := (ifT c2116).symm.trans H
      refine AWp.skip ?_
      refine AWp.block ?_
      refine AWp.seq ?_
      refine reg hP hn hm [] [0, 1, 2, 8, 9, 10, 11] [] ⟨[(0, .im (.row (a0.map etomb_Range))), (1, iV .i64 a1), (2, .im (.sc (.func (.func 66) #[] #[]))), (8, iV .i64 (a0.length : Int)), (9, iV .i64 x2114), (10, iV .i64 x2115), (11, iV .i64 (IntKind.i64.wrap (Int.fdiv (IntKind.u64.wrap (IntKind.i64.wrap (x2114 + x2115))) 2)))], [], 0⟩ [(0 : Int) ≤ 1] (by kernel_rfl) ⟨by decide, trivial⟩ ?_
      refine AWp.seq ?_
      obtain ⟨b2122, p2123, q2124, H⟩ := at_of H
      obtain ⟨t2125, e2126, H⟩ := bind_of H
      refine reg hP hn hm [(3, .c (etomb_Range b2122)), (6, .call [] [] [] [] 0 (iV .i64 t2125) [])] [0, 1, 2, 8, 9, 10, 11, 31] [] ⟨[(0, .im (.row (a0.map etomb_Range))), (1, iV .i64 a1), (2, .im (.sc (.func (.func 66) #[] #[]))), (8, iV .i64 (a0.length : Int)), (9, iV .i64 x2114), (10, iV .i64 x2115), (11, iV .i64 (IntKind.i64.wrap (Int.fdiv (IntKind.u64.wrap (IntKind.i64.wrap (x2114 + x2115))) 2))), (31, bV (decide (t2125 < (0 : Int))))], [], 0⟩ [0 ≤ (IntKind.i64.wrap (Int.fdiv (IntKind.u64.wrap (IntKind.i64.wrap (x2114 + x2115))) 2)), (a0.map etomb_Range)[(Int.toNat (IntKind.i64.wrap (Int.fdiv (IntKind.u64.wrap (IntKind.i64.wrap (x2114 + x2115))) 2)))]? = some (etomb_Range b2122), Enters Try.prog 66, Pv.Fn Try.prog 66 [.agg (atomb_Range b2122), iV .i64 a1] [] 0 (fun r o => r = iV .i64 t2125 ∧ o = [])] (by kernel_rfl) ⟨by exact p2123, by exact el_map etomb_Range q2124, by exact Try.call66, by exact f_tomb_Set_Has_1.ok b2122 a1 t2125 e2126, trivial⟩ ?_
      obtain ⟨o2146, e2147, H⟩ := bind_of H
      refine AWp.mono (Q := fun e s => (match (generalizing := false) o2146 with | (x2128, x2129) => e = .normal ∧ s = ⟨[(0, .im (.row (a0.map etomb_Range))), (1, iV .i64 a1), (2, .im (.sc (.func (.func 66) #[] #[]))), (8, iV .i64 (a0.length : Int)), (9, iV .i64 x2128), (10, iV .i64 x2129)], [], 0⟩)) (AWp.cv ?_) ?_
      · replace H := e2147; clear e2147
        refine AWp.cond (decide (t2125 < (0 : Int))) rfl (fun c2127 => ?_) (fun c2127 => ?_)
        · replace H := (ifT c2127).symm.trans H
          refine reg hP hn hm [] [0, 1, 2, 8, 9, 10] [] ⟨[(0, .im (.row (a0.map etomb_Range))), (1, iV .i64 a1), (2, .im (.sc (.func (.func 66) #[] #[]))), (8, iV .i64 (a0.length : Int)), (9, iV .i64 (IntKind.i64.wrap ((IntKind.i64.wrap (Int.fdiv (IntKind.u64.wrap (IntKind.i64.wrap (x2114 + x2115))) 2)) + (1 : Int)))), (10, iV .i64 x2115)], [], 0⟩ [] (by kernel_rfl) trivial ?_
          obtain rfl := Option.some.inj H
          exact Exists.intro _ (And.intro (fun _ _ h => h.conv (inv := []) (vk := []) (e0 := []) (t := ⟨[(0, .im (.row (a0.map etomb_Range))), (1, iV .i64 a1), (2, .im (.sc (.func (.func 66) #[] #[]))), (8, iV .i64 (a0.length : Int)), (9, iV .i64 (IntKind.i64.wrap ((IntKind.i64.wrap (Int.fdiv (IntKind.u64.wrap (IntKind.i64.wrap (x2114 + x2115))) 2)) + (1 : Int)))), (10, iV .i64 x2115)], [], 0⟩) (by kernel_rfl)) (And.intro rfl rfl))
        · replace H := (ifF c2127).symm.trans H
          refine reg hP hn hm [] [0, 1, 2, 8, 9, 10] [] ⟨[(0, .im (.row (a0.map etomb_Range))), (1, iV .i64 a1), (2, .im (.sc (.func (.func 66) #[] #[]))), (8, iV .i64 (a0.length : Int)), (9, iV .i64 x2114), (10, iV .i64 (IntKind.i64.wrap (Int.fdiv (IntKind.u64.wrap (IntKind.i64.wrap (x2114 + x2115))) 2)))], [], 0⟩ [] (by kernel_rfl) trivial ?_
          obtain rfl := Option.some.inj H
          exact Exists.intro _ (And.intro (fun _ _ h => h.conv (inv := []) (vk := []) (e0 := []) (t := ⟨[(0, .im (.row (a0.map etomb_Range))), (1, iV .i64 a1), (2, .im (.sc (.func (.func 66) #[] #[]))), (8, iV .i64 (a0.length : Int)), (9, iV .i64 x2114), (10, iV .i64 (IntKind.i64.wrap (Int.fdiv (IntKind.u64.wrap (IntKind.i64.wrap (x2114 + x2115))) 2)))], [], 0⟩) (by kernel_rfl)) (And.intro rfl rfl))
      · obtain ⟨x2128, x2129⟩ := o2146
        rintro e s ⟨rfl, rfl⟩
        exact LWp.conv (inv := []) (vk := []) (e0 := []) (t := ⟨[(0, .im (.row (a0.map etomb_Range))), (1, iV .i64 a1), (2, .im (.sc (.func (.func 66) #[] #[]))), (8, iV .i64 (a0.length : Int)), (9, iV .i64 x2128), (10, iV .i64 x2129)], [], 0⟩) (by kernel_rfl) (ih _ _ _ H)
    · replace H := (ifF c2116).symm.trans H
      refine AWp.exit ?_
      obtain rfl := Option.some.inj H
      exact Exists.intro _ (And.intro (fun _ _ h => h.conv (inv := []) (vk := []) (e0 := []) (t := ⟨[(0, .im (.row (a0.map etomb_Range))), (1, iV .i64 a1), (2, .im (.sc (.func (.func 66) #[] #[]))), (8, iV .i64 (a0.length : Int)), (9, iV .i64 x2114)], [], 0⟩) (by kernel_rfl)) (And.intro rfl rfl))
  · obtain ⟨x2130, rfl⟩ : ∃ z, z = o2144 := ⟨_, rfl⟩
    rintro e s ⟨rfl, rfl⟩
    refine AWp.seq ?_
    obtain ⟨o2148, e2149, H⟩ := bind_of H
    refine AWp.mono (Q := fun e s => (match (generalizing := false) o2148 with | x2143 => e = .normal ∧ s = ⟨[(6, iV .i64 x2130), (7, bV x2143)], [], 0⟩)) (AWp.cv ?_) ?_
    · replace H := e2149; clear e2149
      rcases Bool.eq_false_or_eq_true (decide (x2130 < (a0.length : Int))) with c2137 | c2137
      · replace H := (ifT c2137).symm.trans H
        obtain ⟨b2138, p2139, q2140, H⟩ := at_of H
        obtain ⟨t2141, e2142, H⟩ := bind_of H
        refine reg hP hn hm [(4, .b true), (8, .c (etomb_Range b2138)), (11, .call [] [] [] [] 0 (iV .i64 t2141) [])] [6, 7] [] ⟨[(6, iV .i64 x2130), (7, bV (t2141 == (0 : Int)))], [], 0⟩ [(decide (x2130 < (a0.length : Int))) = true, 0 ≤ x2130, (a0.map etomb_Range)[(Int.toNat (x2130))]? = some (etomb_Range b2138), Enters Try.prog 66, Pv.Fn Try.prog 66 [.agg (atomb_Range b2138), iV .i64 a1] [] 0 (fun r o => r = iV .i64 t2141 ∧ o = [])] (by kernel_rfl) ⟨by exact c2137, by exact p2139, by exact el_map etomb_Range q2140, by exact Try.call66, by exact f_tomb_Set_Has_1.ok b2138 a1 t2141 e2142, trivial⟩ ?_
        obtain rfl := Option.some.inj H
        exact Exists.intro _ (And.intro (fun _ _ h => h.conv (inv := []) (vk := []) (e0 := []) (t := ⟨[(6, iV .i64 x2130), (7, bV (t2141 == (0 : Int)))], [], 0⟩) (by kernel_rfl)) (And.intro rfl rfl))
      · replace H := (ifF c2137).symm.trans H
        refine reg hP hn hm [(4, .b false)] [6, 7] [] ⟨[(6, iV .i64 x2130), (7, bV false)], [], 0⟩ [(decide (x2130 < (a0.length : Int))) = false] (by kernel_rfl) ⟨by exact c2137, trivial⟩ ?_
        obtain rfl := Option.some.inj H
        exact Exists.intro _ (And.intro (fun _ _ h => h.conv (inv := []) (vk := []) (e0 := []) (t := ⟨[(6, iV .i64 x2130), (7, bV false)], [], 0⟩) (by kernel_rfl)) (And.intro rfl rfl))
    · obtain ⟨x2143, rfl⟩ : ∃ z, z = o2148 := ⟨_, rfl⟩
      rintro e s ⟨rfl, rfl⟩
      refine AWp.conv (inv := []) (vk := []) (e0 := []) (t := ⟨[(6, iV .i64 x2130), (7, bV x2143)], [], 0⟩) (by kernel_rfl) ?_
      refine AWp.ret ?_
      obtain rfl := Option.some.inj H
      exact Exists.intro _ (And.intro (fun _ _ h => h) (And.intro (.inl rfl) (And.intro rfl (And.intro (by kernel_rfl) (by kernel_rfl)))))
def f_tomb_Set_Has.f (a0 : Ttomb_Set) (a1 : Int) : Option (Bool) := (f_slices_BinarySearchFunc_tomb_Range_tomb_Set_Has_1.f a0.f0 a1) >>= fun t2152 => ((if t2152.2 = true then (some true) else (if (decide (t2152.1 > (0 : Int))) = true then ((at? a0.f0 (IntKind.i64.wrap (t2152.1 - (1 : Int)))) >>= fun b2161 => some (decide (b2161.f1 ≥ a1))) else (some false))) : Option (Bool)) >>= fun x2164 => some x2164
theorem f_tomb_Set_Has.ok (a0 : Ttomb_Set) (a1 : Int) (r : Bool) (H : f_tomb_Set_Has.f a0 a1 = some r) : Pv.Fn Try.prog 17 [.agg [.im (.row (a0.f0.map etomb_Range))], iV .i64 a1] [] 0 (fun x o => x = bV r ∧ o = []) := by
  unfold f_tomb_Set_Has.f at H
  refine Fn.bodyK [] Try.func17 rfl rfl (fun Γ hP hn => ?_)
  have hm : Try.prog.follows .mixedOrders = true := by kernel_rfl
  replace hn : Γ.n = 30 := hn
  refine AWp.seq ?_
  refine reg hP hn hm [(0, .k 0)] [1, 2] [0] ⟨[(1, iV .i64 a1), (2, .ptr 0 0 0)], [(0, some (.box 27 [.im (.row (a0.f0.map etomb_Range))]))], 0⟩ [] (by kernel_rfl) trivial ?_
  refine AWp.seq ?_
  obtain ⟨t2152, e2153, H⟩ := bind_of H
  refine reg hP hn hm [(3, .call [] [] [] [] 0 (.tup [iV .i64 t2152.1, bV t2152.2]) [])] [1, 2, 5, 6] [0] ⟨[(1, iV .i64 a1), (2, .ptr 0 0 0), (5, iV .i64 t2152.1), (6, bV t2152.2)], [(0, some (.box 27 [.im (.row (a0.f0.map etomb_Range))]))], 0⟩ [Enters Try.prog 65, Pv.Fn Try.prog 65 [.im (.row (a0.f0.map etomb_Range)), iV .i64 a1, .im (.sc (.func (.func 66) #[] #[]))] [] 0 (fun r o => r = .tup [iV .i64 t2152.1, bV t2152.2] ∧ o = [])] (by kernel_rfl) ⟨by exact Try.call65, by exact f_slices_BinarySearchFunc_tomb_Range_tomb_Set_Has_1.ok a0.f0 a1 t2152 e2153, trivial⟩ ?_
  refine AWp.seq ?_
  obtain ⟨o2165, e2166, H⟩ := bind_of H
  refine AWp.mono (Q := fun e s => (match (generalizing := false) o2165 with | x2164 => e = .normal ∧ s = ⟨[(4, bV x2164)], [], 0⟩)) (AWp.cv ?_) ?_
  · replace H := e2166; clear e2166
    rcases Bool.eq_false_or_eq_true t2152.2 with c2159 | c2159
    · replace H := (ifT c2159).symm.trans H
      refine reg hP hn hm [(1, .b true)] [4] [] ⟨[(4, bV true)], [], 0⟩ [t2152.2 = true] (by kernel_rfl) ⟨by exact c2159, trivial⟩ ?_
      obtain rfl := Option.some.inj H
      exact Exists.intro _ (And.intro (fun _ _ h => h.conv (inv := []) (vk := []) (e0 := []) (t := ⟨[(4, bV true)], [], 0⟩) (by kernel_rfl)) (And.intro rfl rfl))
    · replace H := (ifF c2159).symm.trans H
      rcases Bool.eq_false_or_eq_true (decide (t2152.1 > (0 : Int))) with c2160 | c2160
      · replace H := (ifT c2160).symm.trans H
        obtain ⟨b2161, p2162, q2163, H⟩ := at_of H
        refine reg hP hn hm [(1, .b false), (4, .b true), (9, .c (etomb_Range b2161))] [4] [] ⟨[(4, bV (decide (b2161.f1 ≥ a1)))], [], 0⟩ [t2152.2 = false, (decide (t2152.1 > (0 : Int))) = true, 0 ≤ (IntKind.i64.wrap (t2152.1 - (1 : Int))), (a0.f0.map etomb_Range)[(Int.toNat (IntKind.i64.wrap (t2152.1 - (1 : Int))))]? = some (etomb_Range b2161)] (by kernel_rfl) ⟨by exact c2159, by exact c2160, by exact p2162, by exact el_map etomb_Range q2163, trivial⟩ ?_
        obtain rfl := Option.some.inj H
        exact Exists.intro _ (And.intro (fun _ _ h => h.conv (inv := []) (vk := []) (e0 := []) (t := ⟨[(4, bV (decide (b2161.f1 ≥ a1)))], [], 0⟩) (by kernel_rfl)) (And.intro rfl rfl))
      · replace H := (ifF c2160).symm.trans H
        refine reg hP hn hm [(1, .b false), (4, .b false)] [4] [] ⟨[(4, bV false)], [], 0⟩ [t2152.2 = false, (decide (t2152.1 > (0 : Int))) = false] (by kernel_rfl) ⟨by exact c2159, by exact c2160, trivial⟩ ?_
        obtain rfl := Option.some.inj H
        exact Exists.intro _ (And.intro (fun _ _ h => h.conv (inv := []) (vk := []) (e0 := []) (t := ⟨[(4, bV false)], [], 0⟩) (by kernel_rfl)) (And.intro rfl rfl))
  · obtain ⟨x2164, rfl⟩ : ∃ z, z = o2165 := ⟨_, rfl⟩
    rintro e s ⟨rfl, rfl⟩
    refine AWp.conv (inv := []) (vk := []) (e0 := []) (t := ⟨[(4, bV x2164)], [], 0⟩) (by kernel_rfl) ?_
    refine AWp.ret ?_
    obtain rfl := Option.some.inj H
    exact Exists.intro _ (And.intro (fun _ _ h => h) (And.intro (.inl rfl) (And.intro rfl (And.intro (by kernel_rfl) (by kernel_rfl)))))
def f_tomb_Set_Keep_1_79b.f (a0 : TSample) (a1_c0 : List Ttomb_Range) : Option (Bool) := (f_tomb_Set_Has.f (⟨a1_c0⟩ : Ttomb_Set) a0.f0) >>= fun t2169 => some t2169
theorem f_tomb_Set_Keep_1_79b.ok (a0 : TSample) (a1_c0 : List Ttomb_Range) (r : Bool) (H : f_tomb_Set_Keep_1_79b.f a0 a1_c0 = some r) : Pv.Fn Try.prog 64 [.agg [iV .i64 a0.f0, iV .i64 a0.f1.f0, iV .i64 a0.f1.f1, iV .i64 a0.f1.f2, iV .u64 a0.f1.f3, iV .u64 a0.f1.f4, iV .i64 a0.f1.f5, .im (.row (a0.f1.f6.map eBucket)), .im (.row (a0.f1.f7.map eBucket))], .ptr 0 0 0] [(0, some (.box 27 [.im (.row (a1_c0.map etomb_Range))]))] 1 (fun x o => x = bV r ∧ o = [(0, some (.box 27 [.im (.row (a1_c0.map etomb_Range))]))]) := by
  unfold f_tomb_Set_Keep_1_79b.f at H
  refine Fn.bodyK [0] Try.func64 rfl rfl (fun Γ hP hn => ?_)
  have hm : Try.prog.follows .mixedOrders = true := by kernel_rfl
  replace hn : Γ.n = 8 := hn
  refine AWp.seq ?_
  refine reg hP hn hm [(0, .k 1)] [1, 2] [0, 1] ⟨[(1, .ptr 0 0 0), (2, .ptr 1 0 0)], [(0, some (.box 27 [.im (.row (a1_c0.map etomb_Range))])), (1, some (.box 37 [iV .i64 a0.f0, iV .i64 a0.f1.f0, iV .i64 a0.f1.f1, iV .i64 a0.f1.f2, iV .u64 a0.f1.f3, iV .u64 a0.f1.f4, iV .i64 a0.f1.f5, .im (.row (a0.f1.f6.map eBucket)), .im (.row (a0.f1.f7.map eBucket))]))], 1⟩ [] (by kernel_rfl) trivial ?_
  refine AWp.seq ?_
  obtain ⟨t2169, e2170, H⟩ := bind_of H
  refine reg hP hn hm [(3, .call [] [] [] [] 0 (bV t2169) [])] [3] [0] ⟨[(3, bV t2169)], [(0, some (.box 27 [.im (.row (a1_c0.map etomb_Range))]))], 1⟩ [Enters Try.prog 17, Pv.Fn Try.prog 17 [.agg [.im (.row (((⟨a1_c0⟩ : Ttomb_Set).f0).map etomb_Range))], iV .i64 a0.f0] [] 0 (fun r o => r = bV t2169 ∧ o = [])] (by kernel_rfl) ⟨by exact Try.call17, by exact f_tomb_Set_Has.ok (⟨a1_c0⟩ : Ttomb_Set) a0.f0 t2169 e2170, trivial⟩ ?_
  refine AWp.conv (inv := [(0, 0)]) (vk := []) (e0 := []) (t := ⟨[(3, bV t2169)], [(0, some (.box 27 [.im (.row (a1_c0.map etomb_Range))]))], 1⟩) (by kernel_rfl) ?_
  refine AWp.ret ?_
  obtain rfl := Option.some.inj H
  exact Exists.intro _ (And.intro (fun _ _ h => h) (And.intro (.inl rfl) (And.intro rfl (And.intro (by kernel_rfl) (by kernel_rfl)))))
def f_slices_IndexFunc_api_Sample_tomb_Set_Keep_1_28a.l0 (a0 : List TSample) (a1_f0_c0 : List Ttomb_Range) (x2179 : Int) : Option (Int ⊕ Unit) := if (decide (x2179 < (a0.length : Int))) = true then ((at? a0 x2179) >>= fun b2186 => (f_tomb_Set_Keep_1_79b.f b2186 a1_f0_c0) >>= fun t2189 => if t2189 = true then (some (.inl x2179)) else (f_slices_IndexFunc_api_Sample_tomb_Set_Keep_1_28a.l0 a0 a1_f0_c0 (IntKind.i64.wrap (x2179 + (1 : Int))))) else (some (.inr ()))
partial_fixpoint
def f_slices_IndexFunc_api_Sample_tomb_Set_Keep_1_28a.f (a0 : List TSample) (a1_f0_c0 : List Ttomb_Range) : Option (Int) := (f_slices_IndexFunc_api_Sample_tomb_Set_Keep_1_28a.l0 a0 a1_f0_c0 0) >>= fun oo => match oo with | .inl rr => (some rr) | .inr _ => (some (-1))
theorem f_slices_IndexFunc_api_Sample_tomb_Set_Keep_1_28a.ok (a0 : List TSample) (a1_f0_c0 : List Ttomb_Range) (r : Int) (H : f_slices_IndexFunc_api_Sample_tomb_Set_Keep_1_28a.f a0 a1_f0_c0 = some r) : Pv.Fn Try.prog 97 [.own 0, .fn 64 [.ptr 1 0 0]] [(0, some (.row 9 37 (a0.map eSample))), (1, some (.box 27 [.im (.row (a1_f0_c0.map etomb_Range))]))] 2 (fun x o => x = iV .i64 r ∧ o = [(0, some (.row 9 37 (a0.map eSample))), (1, some (.box 27 [.im (.row (a1_f0_c0.map etomb_Range))]))]) := by
  unfold f_slices_IndexFunc_api_Sample_tomb_Set_Keep_1_28a.f at H
  refine Fn.bodyK [0, 1] Try.func97 rfl rfl (fun Γ hP hn => ?_)
  have hm : Try.prog.follows .mixedOrders = true := by kernel_rfl
  replace hn : Γ.n = 19 := hn
  refine AWp.seq ?_
  refine reg hP hn hm [] [0, 1] [0, 1] ⟨[(0, .own 0), (1, .fn 64 [.ptr 1 0 0])], [(0, some (.row 9 37 (a0.map eSample))), (1, some (.box 27 [.im (.row (a1_f0_c0.map etomb_Range))]))], 2⟩ [] (by kernel_rfl) trivial ?_
  refine AWp.seq ?_
  refine AWp.seq ?_
  refine reg hP hn hm [(1, .any (iV .i64 (a0.length : Int)))] [0, 1, 7, 8] [0, 1] ⟨[(0, .own 0), (1, .fn 64 [.ptr 1 0 0]), (7, iV .i64 (a0.length : Int)), (8, iV .i64 0)], [(0, some (.row 9 37 (a0.map eSample))), (1, some (.box 27 [.im (.row (a1_f0_c0.map etomb_Range))]))], 2⟩ [((a0.map eSample).length : Int) = (a0.length : Int)] (by kernel_rfl) ⟨by rw [len_map], trivial⟩ ?_
  refine AWp.block ?_
  obtain ⟨o2192, e2193, H⟩ := bind_of H
  refine AWp.loop (LWp.conv (inv := [(0, 0), (1, 1)]) (vk := []) (e0 := []) (t := ⟨[(0, .own 0), (1, .fn 64 [.ptr 1 0 0]), (7, iV .i64 (a0.length : Int)), (8, iV .i64 0)], [(0, some (.row 9 37 (a0.map eSample))), (1, some (.box 27 [.im (.row (a1_f0_c0.map etomb_Range))]))], 2⟩) (by kernel_rfl) ?_)
  refine LWp.mono (Q := fun e s => (match (generalizing := false) o2192 with | .inl rr => e = .ret ∧ s.floor = 2 ∧ resOf Try.prog Try.f97 s = some (iV .i64 rr) ∧ ([(0, s.obj 0), (1, s.obj 1)] : List (Nat × Option MObj)) = [(0, some (.row 9 37 (a0.map eSample))), (1, some (.box 27 [.im (.row (a1_f0_c0.map etomb_Range))]))] | .inr _ => e = .exit 0 ∧ s = ⟨[], [(0, some (.row 9 37 (a0.map eSample))), (1, some (.box 27 [.im (.row (a1_f0_c0.map etomb_Range))]))], 2⟩)) (LWp.cv (withBody (fun body hbody => ?_))) ?_
  · refine f_slices_IndexFunc_api_Sample_tomb_Set_Keep_1_28a.l0.partial_correctness a0 a1_f0_c0 (motive := fun x2179 o2192 => LWp Γ body (fun e s => ∃ t, Cv Γ s t ∧ (match (generalizing := false) o2192 with | .inl rr => e = .ret ∧ t.floor = 2 ∧ resOf Try.prog Try.f97 t = some (iV .i64 rr) ∧ ([(0, t.obj 0), (1, t.obj 1)] : List (Nat × Option MObj)) = [(0, some (.row 9 37 (a0.map eSample))), (1, some (.box 27 [.im (.row (a1_f0_c0.map etomb_Range))]))] | .inr _ => e = .exit 0 ∧ t = ⟨[], [(0, some (.row 9 37 (a0.map eSample))), (1, some (.box 27 [.im (.row (a1_f0_c0.map etomb_Range))]))], 2⟩)) ⟨[(0, .own 0), (1, .fn 64 [.ptr 1 0 0]), (7, iV .i64 (a0.length : Int)), (8, iV .i64 x2179)], [(0, some (.row 9 37 (a0.map eSample))), (1, some (.box 27 [.im (.row (a1_f0_c0.map etomb_Range))]))], 2⟩) ?_ _ _ e2193
    clear H e2193 o2192; intro self ih x2179 o2192 H
    subst hbody
    refine LWp.round ?_
    refine AWp.seq ?_
    refine reg hP hn hm [] [0, 1, 7, 8, 9] [0, 1] ⟨[(0, .own 0), (1, .fn 64 [.ptr 1 0 0]), (7, iV .i64 (a0.length : Int)), (8, iV .i64 x2179), (9, bV (decide (x2179 < (a0.length : Int))))], [(0, some (.row 9 37 (a0.map eSample))), (1, some (.box 27 [.im (.row (a1_f0_c0.map etomb_Range))]))], 2⟩ [] (by kernel_rfl) trivial ?_
    refine AWp.seq ?_
    refine AWp.cond (decide (x2179 < (a0.length : Int))) rfl (fun c2180 => ?_) (fun c2180 => ?_)
    · replace H := (ifT c2180).symm.trans H
      refine AWp.skip ?_
      refine AWp.seq ?_
      refine AWp.block ?_
      refine AWp.seq ?_
      refine reg hP hn hm [] [0, 1, 5, 7, 8] [0, 1] ⟨[(0, .own 0), (1, .fn 64 [.ptr 1 0 0]), (5, iV .i64 x2179), (7, iV .i64 (a0.length : Int)), (8, iV .i64 x2179)], [(0, some (.row 9 37 (a0.map eSample))), (1, some (.box 27 [.im (.row (a1_f0_c0.map etomb_Range))]))], 2⟩ [] (by kernel_rfl) trivial ?_
      refine AWp.seq ?_
      obtain ⟨b2186, p2187, q2188, H⟩ := at_of H
      obtain ⟨t2189, e2190, H⟩ := bind_of H
      refine reg hP hn hm [(4, .c (eSample b2186)), (5, .call [(1, 0)] [(0, 1)] [] [] 1 (bV t2189) [(0, some (.box 27 [.im (.row (a1_f0_c0.map etomb_Range))]))])] [0, 1, 5, 7, 8, 16] [0, 1] ⟨[(0, .own 0), (1, .fn 64 [.ptr 1 0 0]), (5, iV .i64 x2179), (7, iV .i64 (a0.length : Int)), (8, iV .i64 x2179), (16, bV t2189)], [(0, some (.row 9 37 (a0.map eSample))), (1, some (.box 27 [.im (.row (a1_f0_c0.map etomb_Range))]))], 2⟩ [0 ≤ x2179, x2179 < (((a0.map eSample).length : Nat) : Int), (a0.map eSample)[(Int.toNat (x2179))]? = some (eSample b2186), Enters Try.prog 64, Pv.Fn Try.prog 64 [.agg [iV .i64 b2186.f0, iV .i64 b2186.f1.f0, iV .i64 b2186.f1.f1, iV .i64 b2186.f1.f2, iV .u64 b2186.f1.f3, iV .u64 b2186.f1.f4, iV .i64 b2186.f1.f5, .im (.row (b2186.f1.f6.map eBucket)), .im (.row (b2186.f1.f7.map eBucket))], .ptr 0 0 0] [(0, some (.box 27 [.im (.row (a1_f0_c0.map etomb_Range))]))] 1 (fun r o => r = bV t2189 ∧ o = [(0, some (.box 27 [.im (.row (a1_f0_c0.map etomb_Range))]))])] (by kernel_rfl) ⟨by exact p2187, by exact el_lt eSample p2187 q2188, by exact el_map eSample q2188, by exact Try.call64, by exact f_tomb_Set_Keep_1_79b.ok b2186 a1_f0_c0 t2189 e2190, trivial⟩ ?_
      refine AWp.cond t2189 rfl (fun c2191 => ?_) (fun c2191 => ?_)
      · replace H := (ifT c2191).symm.trans H
        refine AWp.seq ?_
        refine reg hP hn hm [] [4] [0, 1] ⟨[(4, iV .i64 x2179)], [(0, some (.row 9 37 (a0.map eSample))), (1, some (.box 27 [.im (.row (a1_f0_c0.map etomb_Range))]))], 2⟩ [] (by kernel_rfl) trivial ?_
        refine AWp.conv (inv := [(0, 0), (1, 1)]) (vk := []) (e0 := []) (t := ⟨[(4, iV .i64 x2179)], [(0, some (.row 9 37 (a0.map eSample))), (1, some (.box 27 [.im (.row (a1_f0_c0.map etomb_Range))]))], 2⟩) (by kernel_rfl) ?_
        refine AWp.ret ?_
        obtain rfl := Option.some.inj H
        exact Exists.intro _ (And.intro (fun _ _ h => h) (And.intro rfl (And.intro rfl (And.intro (by kernel_rfl) (by kernel_rfl)))))
      · replace H := (ifF c2191).symm.trans H
        refine AWp.skip ?_
        refine reg hP hn hm [] [0, 1, 7, 8] [0, 1] ⟨[(0, .own 0), (1, .fn 64 [.ptr 1 0 0]), (7, iV .i64 (a0.length : Int)), (8, iV .i64 (IntKind.i64.wrap (x2179 + (1 : Int))))], [(0, some (.row 9 37 (a0.map eSample))), (1, some (.box 27 [.im (.row (a1_f0_c0.map etomb_Range))]))], 2⟩ [] (by kernel_rfl) trivial ?_
        exact LWp.conv (inv := [(0, 0), (1, 1)]) (vk := []) (e0 := []) (t := ⟨[(0, .own 0), (1, .fn 64 [.ptr 1 0 0]), (7, iV .i64 (a0.length : Int)), (8, iV .i64 (IntKind.i64.wrap (x2179 + (1 : Int))))], [(0, some (.row 9 37 (a0.map eSample))), (1, some (.box 27 [.im (.row (a1_f0_c0.map etomb_Range))]))], 2⟩) (by kernel_rfl) (ih _ _ H)
    · replace H := (ifF c2180).symm.trans H
      refine AWp.exit ?_
      obtain rfl := Option.some.inj H
      exact Exists.intro _ (And.intro (fun _ _ h => h.conv (inv := [(0, 0), (1, 1)]) (vk := []) (e0 := []) (t := ⟨[], [(0, some (.row 9 37 (a0.map eSample))), (1, some (.box 27 [.im (.row (a1_f0_c0.map etomb_Range))]))], 2⟩) (by kernel_rfl)) (And.intro rfl rfl))
  · rcases o2192 with rr | _
    · skip
      rintro e s ⟨rfl, hfl, hres⟩
      obtain rfl := Option.some.inj H
      exact Exists.intro _ (And.intro (fun _ _ h => h) (And.intro (.inl rfl) (And.intro hfl hres)))
    · skip
      rintro e s ⟨rfl, rfl⟩
      refine AWp.seq ?_
      refine reg hP hn hm [] [4] [0, 1] ⟨[(4, iV .i64 (-1))], [(0, some (.row 9 37 (a0.map eSample))), (1, some (.box 27 [.im (.row (a1_f0_c0.map etomb_Range))]))], 2⟩ [] (by kernel_rfl) trivial ?_
      refine AWp.conv (inv := [(0, 0), (1, 1)]) (vk := []) (e0 := []) (t := ⟨[(4, iV .i64 (-1))], [(0, some (.row 9 37 (a0.map eSample))), (1, some (.box 27 [.im (.row (a1_f0_c0.map etomb_Range))]))], 2⟩) (by kernel_rfl) ?_
      refine AWp.ret ?_
      obtain rfl := Option.some.inj H
      exact Exists.intro _ (And.intro (fun _ _ h => h) (And.intro (.inl rfl) (And.intro rfl (And.intro (by kernel_rfl) (by kernel_rfl)))))
end Go.Proofs.Yteogljahemehkaa.PvGC1
