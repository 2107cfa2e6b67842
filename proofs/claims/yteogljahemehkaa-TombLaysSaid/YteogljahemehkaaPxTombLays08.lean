import Derived.Test.YteogljahemehkaaProg
import Derived.Test.YteogljahemehkaaPxTombLays07
set_option linter.unusedVariables false
set_option linter.unnecessarySimpa false
set_option linter.unusedSimpArgs false
set_option maxRecDepth 10000
namespace Go.Proofs.Yteogljahemehkaa.PvGC1
open Go Go.Pv
def f_tomb_Set_Empty.f (a0 : Ttomb_Set) : Option (Unit) := some ()
theorem f_tomb_Set_Empty.ok (a0 : Ttomb_Set) (r : Unit) (H : f_tomb_Set_Empty.f a0 = some r) : Pv.Fn Try.prog 18 [.agg [.im (.row (a0.f0.map etomb_Range))]] [] 0 (fun x o => x = bV ((a0.f0.length : Int) == (0 : Int)) ∧ o = []) := by
  unfold f_tomb_Set_Empty.f at H
  refine Fn.bodyK [] Try.func18 rfl rfl (fun Γ hP hn => ?_)
  have hm : Try.prog.follows .mixedOrders = true := by kernel_rfl
  replace hn : Γ.n = 7 := hn
  refine AWp.seq ?_
  refine reg hP hn hm [(0, .k 0)] [1] [0] ⟨[(1, .ptr 0 0 0)], [(0, some (.box 27 [.im (.row (a0.f0.map etomb_Range))]))], 0⟩ [] (by kernel_rfl) trivial ?_
  refine AWp.seq ?_
  refine reg hP hn hm [(2, .any (iV .i64 (a0.f0.length : Int)))] [2] [] ⟨[(2, bV ((a0.f0.length : Int) == (0 : Int)))], [], 0⟩ [((a0.f0.map etomb_Range).length : Int) = (a0.f0.length : Int)] (by kernel_rfl) ⟨by rw [len_map], trivial⟩ ?_
  refine AWp.conv (inv := []) (vk := []) (e0 := []) (t := ⟨[(2, bV ((a0.f0.length : Int) == (0 : Int)))], [], 0⟩) (by kernel_rfl) ?_
  refine AWp.ret ?_
  obtain rfl := Option.some.inj H
  exact Exists.intro _ (And.intro (fun _ _ h => h) (And.intro (.inl rfl) (And.intro rfl (And.intro (by kernel_rfl) (by kernel_rfl)))))
def f_pluviallaw14_same.l0 (t2461 : List Ttomb_Range) (t2463 : List Ttomb_Range) (x2480 : Int) : Option (Bool ⊕ Unit) := if (decide (x2480 < (t2461.length : Int))) = true then ((at? t2461 x2480) >>= fun b2488 => (at? t2463 x2480) >>= fun b2491 => if (!((b2488.f0 == b2491.f0) && ((b2488.f1 == b2491.f1) && true))) = true then (some (.inl false)) else (f_pluviallaw14_same.l0 t2461 t2463 (IntKind.i64.wrap (x2480 + (1 : Int))))) else (some (.inr ()))
partial_fixpoint
def f_pluviallaw14_same.f (a0 : Ttomb_Set) (a1 : Ttomb_Set) : Option (Bool) := (f_tomb_Set_Ranges.f a0) >>= fun t2461 => (f_tomb_Set_Ranges.f a1) >>= fun t2463 => if ((t2461.length : Int) != (t2463.length : Int)) = true then (some false) else ((f_pluviallaw14_same.l0 t2461 t2463 0) >>= fun oo => match oo with | .inl rr => (some rr) | .inr _ => (some true))
theorem f_pluviallaw14_same.ok (a0 : Ttomb_Set) (a1 : Ttomb_Set) (r : Bool) (H : f_pluviallaw14_same.f a0 a1 = some r) : Pv.Fn Try.prog 29 [.agg [.im (.row (a0.f0.map etomb_Range))], .agg [.im (.row (a1.f0.map etomb_Range))]] [] 0 (fun x o => x = bV r ∧ o = []) := by
  unfold f_pluviallaw14_same.f at H
  refine Fn.bodyK [] Try.func29 rfl rfl (fun Γ hP hn => ?_)
  have hm : Try.prog.follows .mixedOrders = true := by kernel_rfl
  replace hn : Γ.n = 32 := hn
  refine AWp.seq ?_
  refine reg hP hn hm [(0, .k 0), (1, .k 1)] [2, 3] [0, 1] ⟨[(2, .ptr 0 0 0), (3, .ptr 1 0 0)], [(0, some (.box 27 [.im (.row (a0.f0.map etomb_Range))])), (1, some (.box 27 [.im (.row (a1.f0.map etomb_Range))]))], 0⟩ [] (by kernel_rfl) trivial ?_
  refine AWp.seq ?_
  obtain ⟨t2461, e2462, H⟩ := bind_of H
  obtain ⟨t2463, e2464, H⟩ := bind_of H
  refine reg hP hn hm [(1, .call [] [(0, 2)] [] [2] 0 (.own 0) [(0, some (.row 2 64 (t2461.map etomb_Range)))]), (3, .call [] [(0, 3)] [] [3] 0 (.own 0) [(0, some (.row 2 64 (t2463.map etomb_Range)))])] [5, 6] [2, 3] ⟨[(5, .own 2), (6, .own 3)], [(2, some (.row 2 64 (t2461.map etomb_Range))), (3, some (.row 2 64 (t2463.map etomb_Range)))], 0⟩ [Enters Try.prog 31, Pv.Fn Try.prog 31 [.agg [.im (.row (a0.f0.map etomb_Range))]] [] 0 (fun r o => r = .own 0 ∧ o = [(0, some (.row 2 64 (t2461.map etomb_Range)))]), Enters Try.prog 31, Pv.Fn Try.prog 31 [.agg [.im (.row (a1.f0.map etomb_Range))]] [] 0 (fun r o => r = .own 0 ∧ o = [(0, some (.row 2 64 (t2463.map etomb_Range)))])] (by kernel_rfl) ⟨by exact Try.call31, by exact f_tomb_Set_Ranges.ok a0 t2461 e2462, by exact Try.call31, by exact f_tomb_Set_Ranges.ok a1 t2463 e2464, trivial⟩ ?_
  refine AWp.seq ?_
  refine AWp.seq ?_
  refine reg hP hn hm [(1, .any (iV .i64 (t2461.length : Int))), (3, .any (iV .i64 (t2463.length : Int)))] [5, 6, 16] [2, 3] ⟨[(5, .own 2), (6, .own 3), (16, bV ((t2461.length : Int) != (t2463.length : Int)))], [(2, some (.row 2 64 (t2461.map etomb_Range))), (3, some (.row 2 64 (t2463.map etomb_Range)))], 0⟩ [((t2461.map etomb_Range).length : Int) = (t2461.length : Int), ((t2463.map etomb_Range).length : Int) = (t2463.length : Int)] (by kernel_rfl) ⟨by rw [len_map], by rw [len_map], trivial⟩ ?_
  refine AWp.cond ((t2461.length : Int) != (t2463.length : Int)) rfl (fun c2465 => ?_) (fun c2465 => ?_)
  · replace H := (ifT c2465).symm.trans H
    refine AWp.seq ?_
    refine reg hP hn hm [] [4] [] ⟨[(4, bV false)], [], 0⟩ [] (by kernel_rfl) trivial ?_
    refine AWp.conv (inv := []) (vk := []) (e0 := []) (t := ⟨[(4, bV false)], [], 0⟩) (by kernel_rfl) ?_
    refine AWp.ret ?_
    obtain rfl := Option.some.inj H
    exact Exists.intro _ (And.intro (fun _ _ h => h) (And.intro (.inl rfl) (And.intro rfl (And.intro (by kernel_rfl) (by kernel_rfl)))))
  · replace H := (ifF c2465).symm.trans H
    refine AWp.skip ?_
    refine AWp.seq ?_
    refine AWp.seq ?_
    refine reg hP hn hm [(1, .any (iV .i64 (t2461.length : Int)))] [5, 6, 18, 19] [2, 3] ⟨[(5, .own 2), (6, .own 3), (18, iV .i64 (t2461.length : Int)), (19, iV .i64 0)], [(2, some (.row 2 64 (t2461.map etomb_Range))), (3, some (.row 2 64 (t2463.map etomb_Range)))], 0⟩ [((t2461.map etomb_Range).length : Int) = (t2461.length : Int)] (by kernel_rfl) ⟨by rw [len_map], trivial⟩ ?_
    refine AWp.block ?_
    obtain ⟨o2495, e2496, H⟩ := bind_of H
    refine AWp.loop (LWp.conv (inv := [(2, 4), (3, 5)]) (vk := []) (e0 := []) (t := ⟨[(5, .own 4), (6, .own 5), (18, iV .i64 (t2461.length : Int)), (19, iV .i64 0)], [(4, some (.row 2 64 (t2461.map etomb_Range))), (5, some (.row 2 64 (t2463.map etomb_Range)))], 0⟩) (by kernel_rfl) ?_)
    refine LWp.mono (Q := fun e s => (match (generalizing := false) o2495 with | .inl rr => e = .ret ∧ s.floor = 0 ∧ resOf Try.prog Try.f29 s = some (bV rr) ∧ ([] : List (Nat × Option MObj)) = [] | .inr _ => e = .exit 0 ∧ s = ⟨[], [], 0⟩)) (LWp.cv (withBody (fun body hbody => ?_))) ?_
    · refine f_pluviallaw14_same.l0.partial_correctness t2461 t2463 (motive := fun x2480 o2495 => LWp Γ body (fun e s => ∃ t, Cv Γ s t ∧ (match (generalizing := false) o2495 with | .inl rr => e = .ret ∧ t.floor = 0 ∧ resOf Try.prog Try.f29 t = some (bV rr) ∧ ([] : List (Nat × Option MObj)) = [] | .inr _ => e = .exit 0 ∧ t = ⟨[], [], 0⟩)) ⟨[(5, .own 4), (6, .own 5), (18, iV .i64 (t2461.length : Int)), (19, iV .i64 x2480)], [(4, some (.row 2 64 (t2461.map etomb_Range))), (5, some (.row 2 64 (t2463.map etomb_Range)))], 0⟩) ?_ _ _ e2496
      clear H e2496 o2495; intro self ih x2480 o2495 H
      subst hbody
      refine LWp.round ?_
      refine AWp.seq ?_
      refine reg hP hn hm [] [5, 6, 18, 19, 20] [4, 5] ⟨[(5, .own 4), (6, .own 5), (18, iV .i64 (t2461.length : Int)), (19, iV .i64 x2480), (20, bV (decide (x2480 < (t2461.length : Int))))], [(4, some (.row 2 64 (t2461.map etomb_Range))), (5, some (.row 2 64 (t2463.map etomb_Range)))], 0⟩ [] (by kernel_rfl) trivial ?_
      refine AWp.seq ?_
      refine AWp.cond (decide (x2480 < (t2461.length : Int))) rfl (fun c2481 => ?_) (fun c2481 => ?_)
      · replace H := (ifT c2481).symm.trans H
        refine AWp.skip ?_
        refine AWp.seq ?_
        refine AWp.block ?_
        refine AWp.seq ?_
        refine reg hP hn hm [] [5, 6, 7, 18, 19] [4, 5] ⟨[(5, .own 4), (6, .own 5), (7, iV .i64 x2480), (18, iV .i64 (t2461.length : Int)), (19, iV .i64 x2480)], [(4, some (.row 2 64 (t2461.map etomb_Range))), (5, some (.row 2 64 (t2463.map etomb_Range)))], 0⟩ [] (by kernel_rfl) trivial ?_
        refine AWp.seq ?_
        obtain ⟨b2488, p2489, q2490, H⟩ := at_of H
        obtain ⟨b2491, p2492, q2493, H⟩ := at_of H
        refine reg hP hn hm [(3, .c (etomb_Range b2488)), (7, .c (etomb_Range b2491)), (8, .more (xAgg none))] [5, 6, 18, 19, 30] [4, 5] ⟨[(5, .own 4), (6, .own 5), (18, iV .i64 (t2461.length : Int)), (19, iV .i64 x2480), (30, bV (!((b2488.f0 == b2491.f0) && ((b2488.f1 == b2491.f1) && true))))], [(4, some (.row 2 64 (t2461.map etomb_Range))), (5, some (.row 2 64 (t2463.map etomb_Range)))], 0⟩ [0 ≤ x2480, x2480 < (((t2461.map etomb_Range).length : Nat) : Int), (t2461.map etomb_Range)[(Int.toNat (x2480))]? = some (etomb_Range b2488), 0 ≤ x2480, x2480 < (((t2463.map etomb_Range).length : Nat) : Int), (t2463.map etomb_Range)[(Int.toNat (x2480))]? = some (etomb_Range b2491)] (by kernel_rfl) ⟨by exact p2489, by exact el_lt etomb_Range p2489 q2490, by exact el_map etomb_Range q2490, by exact p2492, by exact el_lt etomb_Range p2492 q2493, by exact el_map etomb_Range q2493, trivial⟩ ?_
        refine AWp.cond (!((b2488.f0 == b2491.f0) && ((b2488.f1 == b2491.f1) && true))) rfl (fun c2494 => ?_) (fun c2494 => ?_)
        · replace H := (ifT c2494).symm.trans H
          refine AWp.seq ?_
          refine reg hP hn hm [] [4] [] ⟨[(4, bV false)], [], 0⟩ [] (by kernel_rfl) trivial ?_
          refine AWp.conv (inv := []) (vk := []) (e0 := []) (t := ⟨[(4, bV false)], [], 0⟩) (by kernel_rfl) ?_
          refine AWp.ret ?_
          obtain rfl := Option.some.inj H
          exact Exists.intro _ (And.intro (fun _ _ h => h) (And.intro rfl (And.intro rfl (And.intro (by kernel_rfl) (by kernel_rfl)))))
        · replace H := (ifF c2494).symm.trans H
          refine AWp.skip ?_
          refine reg hP hn hm [] [5, 6, 18, 19] [4, 5] ⟨[(5, .own 4), (6, .own 5), (18, iV .i64 (t2461.length : Int)), (19, iV .i64 (IntKind.i64.wrap (x2480 + (1 : Int))))], [(4, some (.row 2 64 (t2461.map etomb_Range))), (5, some (.row 2 64 (t2463.map etomb_Range)))], 0⟩ [] (by kernel_rfl) trivial ?_
          exact LWp.conv (inv := [(4, 4), (5, 5)]) (vk := []) (e0 := []) (t := ⟨[(5, .own 4), (6, .own 5), (18, iV .i64 (t2461.length : Int)), (19, iV .i64 (IntKind.i64.wrap (x2480 + (1 : Int))))], [(4, some (.row 2 64 (t2461.map etomb_Range))), (5, some (.row 2 64 (t2463.map etomb_Range)))], 0⟩) (by kernel_rfl) (ih _ _ H)
      · replace H := (ifF c2481).symm.trans H
        refine AWp.exit ?_
        obtain rfl := Option.some.inj H
        exact Exists.intro _ (And.intro (fun _ _ h => h.conv (inv := []) (vk := []) (e0 := []) (t := ⟨[], [], 0⟩) (by kernel_rfl)) (And.intro rfl rfl))
    · rcases o2495 with rr | _
      · skip
        rintro e s ⟨rfl, hfl, hres⟩
        obtain rfl := Option.some.inj H
        exact Exists.intro _ (And.intro (fun _ _ h => h) (And.intro (.inl rfl) (And.intro hfl hres)))
      · skip
        rintro e s ⟨rfl, rfl⟩
        refine AWp.seq ?_
        refine reg hP hn hm [] [4] [] ⟨[(4, bV true)], [], 0⟩ [] (by kernel_rfl) trivial ?_
        refine AWp.conv (inv := []) (vk := []) (e0 := []) (t := ⟨[(4, bV true)], [], 0⟩) (by kernel_rfl) ?_
        refine AWp.ret ?_
        obtain rfl := Option.some.inj H
        exact Exists.intro _ (And.intro (fun _ _ h => h) (And.intro (.inl rfl) (And.intro rfl (And.intro (by kernel_rfl) (by kernel_rfl)))))
def f_pluvialref14_Right.f (a0 : Ttomb_Range) : Option (Bool) := ((if (decide (a0.f0 ≥ (0 : Int))) = true then (if (decide (a0.f1 ≥ a0.f0)) = true then (some (decide (a0.f1 ≤ (1099511627776 : Int)))) else (some false)) else (some false)) : Option (Bool)) >>= fun x2765 => some x2765
theorem f_pluvialref14_Right.ok (a0 : Ttomb_Range) (r : Bool) (H : f_pluvialref14_Right.f a0 = some r) : Pv.Fn Try.prog 37 [.agg (atomb_Range a0)] [] 0 (fun x o => x = bV r ∧ o = []) := by
  unfold f_pluvialref14_Right.f at H
  refine Fn.bodyK [] Try.func37 rfl rfl (fun Γ hP hn => ?_)
  have hm : Try.prog.follows .mixedOrders = true := by kernel_rfl
  replace hn : Γ.n = 18 := hn
  refine AWp.seq ?_
  refine reg hP hn hm [(0, .k 0)] [1] [0] ⟨[(1, .ptr 0 0 0)], [(0, some (.box 63 (atomb_Range a0)))], 0⟩ [] (by kernel_rfl) trivial ?_
  refine AWp.seq ?_
  obtain ⟨o2766, e2767, H⟩ := bind_of H
  refine AWp.mono (Q := fun e s => (match (generalizing := false) o2766 with | x2765 => e = .normal ∧ s = ⟨[(2, bV x2765)], [], 0⟩)) (AWp.cv ?_) ?_
  · replace H := e2767; clear e2767
    rcases Bool.eq_false_or_eq_true (decide (a0.f0 ≥ (0 : Int))) with c2763 | c2763
    · replace H := (ifT c2763).symm.trans H
      rcases Bool.eq_false_or_eq_true (decide (a0.f1 ≥ a0.f0)) with c2764 | c2764
      · replace H := (ifT c2764).symm.trans H
        refine reg hP hn hm [(3, .b true), (10, .b true)] [2] [] ⟨[(2, bV (decide (a0.f1 ≤ (1099511627776 : Int))))], [], 0⟩ [(decide (a0.f0 ≥ (0 : Int))) = true, (decide (a0.f1 ≥ a0.f0)) = true] (by kernel_rfl) ⟨by exact c2763, by exact c2764, trivial⟩ ?_
        obtain rfl := Option.some.inj H
        exact Exists.intro _ (And.intro (fun _ _ h => h.conv (inv := []) (vk := []) (e0 := []) (t := ⟨[(2, bV (decide (a0.f1 ≤ (1099511627776 : Int))))], [], 0⟩) (by kernel_rfl)) (And.intro rfl rfl))
      · replace H := (ifF c2764).symm.trans H
        refine reg hP hn hm [(3, .b true), (10, .b false)] [2] [] ⟨[(2, bV false)], [], 0⟩ [(decide (a0.f0 ≥ (0 : Int))) = true, (decide (a0.f1 ≥ a0.f0)) = false] (by kernel_rfl) ⟨by exact c2763, by exact c2764, trivial⟩ ?_
        obtain rfl := Option.some.inj H
        exact Exists.intro _ (And.intro (fun _ _ h => h.conv (inv := []) (vk := []) (e0 := []) (t := ⟨[(2, bV false)], [], 0⟩) (by kernel_rfl)) (And.intro rfl rfl))
    · replace H := (ifF c2763).symm.trans H
      refine reg hP hn hm [(3, .b false)] [2] [] ⟨[(2, bV false)], [], 0⟩ [(decide (a0.f0 ≥ (0 : Int))) = false] (by kernel_rfl) ⟨by exact c2763, trivial⟩ ?_
      obtain rfl := Option.some.inj H
      exact Exists.intro _ (And.intro (fun _ _ h => h.conv (inv := []) (vk := []) (e0 := []) (t := ⟨[(2, bV false)], [], 0⟩) (by kernel_rfl)) (And.intro rfl rfl))
  · obtain ⟨x2765, rfl⟩ : ∃ z, z = o2766 := ⟨_, rfl⟩
    rintro e s ⟨rfl, rfl⟩
    refine AWp.conv (inv := []) (vk := []) (e0 := []) (t := ⟨[(2, bV x2765)], [], 0⟩) (by kernel_rfl) ?_
    refine AWp.ret ?_
    obtain rfl := Option.some.inj H
    exact Exists.intro _ (And.intro (fun _ _ h => h) (And.intro (.inl rfl) (And.intro rfl (And.intro (by kernel_rfl) (by kernel_rfl)))))
def f_pluviallaw14_apart.l0 (a0 : List Ttomb_Range) (x2776 : Int) : Option (Bool ⊕ Unit) := if (decide (x2776 < (a0.length : Int))) = true then ((at? a0 x2776) >>= fun b2781 => (((f_pluvialref14_Right.f b2781) >>= fun t2791 => if (!t2791) = true then (some true) else (if (decide (x2776 > (0 : Int))) = true then ((at? a0 (IntKind.i64.wrap (x2776 - (1 : Int)))) >>= fun b2795 => some (decide ((IntKind.i64.wrap (b2795.f1 + (1 : Int))) ≥ b2781.f0))) else (some false))) : Option (Bool)) >>= fun x2798 => if x2798 = true then (some (.inl false)) else (f_pluviallaw14_apart.l0 a0 (IntKind.i64.wrap (x2776 + (1 : Int))))) else (some (.inr ()))
partial_fixpoint
def f_pluviallaw14_apart.f (a0 : List Ttomb_Range) : Option (Bool) := (f_pluviallaw14_apart.l0 a0 0) >>= fun oo => match oo with | .inl rr => (some rr) | .inr _ => (some true)
theorem f_pluviallaw14_apart.ok (a0 : List Ttomb_Range) (r : Bool) (H : f_pluviallaw14_apart.f a0 = some r) : Pv.Fn Try.prog 36 [.im (.row (a0.map etomb_Range))] [] 0 (fun x o => x = bV r ∧ o = []) := by
  unfold f_pluviallaw14_apart.f at H
  refine Fn.bodyK [] Try.func36 rfl rfl (fun Γ hP hn => ?_)
  have hm : Try.prog.follows .mixedOrders = true := by kernel_rfl
  replace hn : Γ.n = 32 := hn
  refine AWp.seq ?_
  refine reg hP hn hm [] [0] [] ⟨[(0, .im (.row (a0.map etomb_Range)))], [], 0⟩ [] (by kernel_rfl) trivial ?_
  refine AWp.seq ?_
  refine AWp.seq ?_
  refine reg hP hn hm [(1, .any (iV .i64 (a0.length : Int)))] [0, 5, 6, 7] [] ⟨[(0, .im (.row (a0.map etomb_Range))), (5, .im (.row (a0.map etomb_Range))), (6, iV .i64 (a0.length : Int)), (7, iV .i64 0)], [], 0⟩ [((a0.map etomb_Range).length : Int) = (a0.length : Int)] (by kernel_rfl) ⟨by rw [len_map], trivial⟩ ?_
  refine AWp.block ?_
  obtain ⟨o2800, e2801, H⟩ := bind_of H
  refine AWp.loop (LWp.conv (inv := []) (vk := []) (e0 := []) (t := ⟨[(0, .im (.row (a0.map etomb_Range))), (5, .im (.row (a0.map etomb_Range))), (6, iV .i64 (a0.length : Int)), (7, iV .i64 0)], [], 0⟩) (by kernel_rfl) ?_)
  refine LWp.mono (Q := fun e s => (match (generalizing := false) o2800 with | .inl rr => e = .ret ∧ s.floor = 0 ∧ resOf Try.prog Try.f36 s = some (bV rr) ∧ ([] : List (Nat × Option MObj)) = [] | .inr _ => e = .exit 0 ∧ s = ⟨[], [], 0⟩)) (LWp.cv (withBody (fun body hbody => ?_))) ?_
  · refine f_pluviallaw14_apart.l0.partial_correctness a0 (motive := fun x2776 o2800 => LWp Γ body (fun e s => ∃ t, Cv Γ s t ∧ (match (generalizing := false) o2800 with | .inl rr => e = .ret ∧ t.floor = 0 ∧ resOf Try.prog Try.f36 t = some (bV rr) ∧ ([] : List (Nat × Option MObj)) = [] | .inr _ => e = .exit 0 ∧ t = ⟨[], [], 0⟩)) ⟨[(0, .im (.row (a0.map etomb_Range))), (5, .im (.row (a0.map etomb_Range))), (6, iV .i64 (a0.length : Int)), (7, iV .i64 x2776)], [], 0⟩) ?_ _ _ e2801
    clear H e2801 o2800; intro self ih x2776 o2800 H
    subst hbody
    refine LWp.round ?_
    refine AWp.seq ?_
    refine reg hP hn hm [] [0, 5, 6, 7, 8] [] ⟨[(0, .im (.row (a0.map etomb_Range))), (5, .im (.row (a0.map etomb_Range))), (6, iV .i64 (a0.length : Int)), (7, iV .i64 x2776), (8, bV (decide (x2776 < (a0.length : Int))))], [], 0⟩ [] (by kernel_rfl) trivial ?_
    refine AWp.seq ?_
    refine AWp.cond (decide (x2776 < (a0.length : Int))) rfl (fun c2777 => ?_) (fun c2777 => ?_)
    · replace H := (ifT c2777).symm.trans H
      refine AWp.skip ?_
      refine AWp.seq ?_
      refine AWp.block ?_
      refine AWp.seq ?_
      obtain ⟨b2781, p2782, q2783, H⟩ := at_of H
      refine reg hP hn hm [(1, .c (etomb_Range b2781)), (3, .k 1)] [0, 3, 4, 5, 6, 7] [1] ⟨[(0, .im (.row (a0.map etomb_Range))), (3, iV .i64 x2776), (4, .ptr 1 0 0), (5, .im (.row (a0.map etomb_Range))), (6, iV .i64 (a0.length : Int)), (7, iV .i64 x2776)], [(1, some (.box 64 (atomb_Range b2781)))], 0⟩ [0 ≤ x2776, (a0.map etomb_Range)[(Int.toNat (x2776))]? = some (etomb_Range b2781)] (by kernel_rfl) ⟨by exact p2782, by exact el_map etomb_Range q2783, trivial⟩ ?_
      refine AWp.seq ?_
      obtain ⟨o2802, e2803, H⟩ := bind_of H
      refine AWp.mono (Q := fun e s => (match (generalizing := false) o2802 with | x2798 => e = .normal ∧ s = ⟨[(0, .im (.row (a0.map etomb_Range))), (5, .im (.row (a0.map etomb_Range))), (6, iV .i64 (a0.length : Int)), (7, iV .i64 x2776), (30, bV x2798)], [], 0⟩)) (AWp.cv ?_) ?_
      · replace H := e2803; clear e2803
        obtain ⟨t2791, e2792, H⟩ := bind_of H
        rcases Bool.eq_false_or_eq_true (!t2791) with c2793 | c2793
        · replace H := (ifT c2793).symm.trans H
          refine reg hP hn hm [(1, .call [] [] [] [] 0 (bV t2791) []), (3, .b true)] [0, 5, 6, 7, 30] [] ⟨[(0, .im (.row (a0.map etomb_Range))), (5, .im (.row (a0.map etomb_Range))), (6, iV .i64 (a0.length : Int)), (7, iV .i64 x2776), (30, bV true)], [], 0⟩ [Enters Try.prog 37, Pv.Fn Try.prog 37 [.agg (atomb_Range b2781)] [] 0 (fun r o => r = bV t2791 ∧ o = []), (!t2791) = true] (by kernel_rfl) ⟨by exact Try.call37, by exact f_pluvialref14_Right.ok b2781 t2791 e2792, by exact c2793, trivial⟩ ?_
          obtain rfl := Option.some.inj H
          exact Exists.intro _ (And.intro (fun _ _ h => h.conv (inv := []) (vk := []) (e0 := []) (t := ⟨[(0, .im (.row (a0.map etomb_Range))), (5, .im (.row (a0.map etomb_Range))), (6, iV .i64 (a0.length : Int)), (7, iV .i64 x2776), (30, bV true)], [], 0⟩) (by kernel_rfl)) (And.intro rfl rfl))
        · replace H := (ifF c2793).symm.trans H
          rcases Bool.eq_false_or_eq_true (decide (x2776 > (0 : Int))) with c2794 | c2794
          · replace H := (ifT c2794).symm.trans H
            obtain ⟨b2795, p2796, q2797, H⟩ := at_of H
            refine reg hP hn hm [(1, .call [] [] [] [] 0 (bV t2791) []), (3, .b false), (6, .b true), (10, .c (etomb_Range b2795))] [0, 5, 6, 7, 16, 17, 18, 19, 20, 21, 22, 23, 24, 25, 26, 27, 28, 29, 30] [1] ⟨[(0, .im (.row (a0.map etomb_Range))), (5, .im (.row (a0.map etomb_Range))), (6, iV .i64 (a0.length : Int)), (7, iV .i64 x2776), (16, iV .i64 x2776), (17, bV (decide (x2776 > (0 : Int)))), (18, bV true), (19, .im (.row (a0.map etomb_Range))), (20, iV .i64 x2776), (21, iV .i64 (IntKind.i64.wrap (x2776 - (1 : Int)))), (22, .ip [iI .i64 b2795.f0, iI .i64 b2795.f1]), (23, .ip [iI .i64 b2795.f1]), (24, iV .i64 b2795.f1), (25, iV .i64 (IntKind.i64.wrap (b2795.f1 + (1 : Int)))), (26, .ptr 1 0 0), (27, iV .i64 b2781.f0), (28, bV (decide ((IntKind.i64.wrap (b2795.f1 + (1 : Int))) ≥ b2781.f0))), (29, bV (decide ((IntKind.i64.wrap (b2795.f1 + (1 : Int))) ≥ b2781.f0))), (30, bV (decide ((IntKind.i64.wrap (b2795.f1 + (1 : Int))) ≥ b2781.f0)))], [(1, some (.box 64 (atomb_Range b2781)))], 0⟩ [Enters Try.prog 37, Pv.Fn Try.prog 37 [.agg (atomb_Range b2781)] [] 0 (fun r o => r = bV t2791 ∧ o = []), (!t2791) = false, (decide (x2776 > (0 : Int))) = true, 0 ≤ (IntKind.i64.wrap (x2776 - (1 : Int))), (a0.map etomb_Range)[(Int.toNat (IntKind.i64.wrap (x2776 - (1 : Int))))]? = some (etomb_Range b2795)] (by kernel_rfl) ⟨by exact Try.call37, by exact f_pluvialref14_Right.ok b2781 t2791 e2792, by exact c2793, by exact c2794, by exact p2796, by exact el_map etomb_Range q2797, trivial⟩ ?_
            obtain rfl := Option.some.inj H
            exact Exists.intro _ (And.intro (fun _ _ h => h.conv (inv := []) (vk := []) (e0 := []) (t := ⟨[(0, .im (.row (a0.map etomb_Range))), (5, .im (.row (a0.map etomb_Range))), (6, iV .i64 (a0.length : Int)), (7, iV .i64 x2776), (30, bV (decide ((IntKind.i64.wrap (b2795.f1 + (1 : Int))) ≥ b2781.f0)))], [], 0⟩) (by kernel_rfl)) (And.intro rfl rfl))
          · replace H := (ifF c2794).symm.trans H
            refine reg hP hn hm [(1, .call [] [] [] [] 0 (bV t2791) []), (3, .b false), (6, .b false)] [0, 5, 6, 7, 16, 17, 18, 29, 30] [] ⟨[(0, .im (.row (a0.map etomb_Range))), (5, .im (.row (a0.map etomb_Range))), (6, iV .i64 (a0.length : Int)), (7, iV .i64 x2776), (16, iV .i64 x2776), (17, bV (decide (x2776 > (0 : Int)))), (18, bV false), (29, bV false), (30, bV false)], [], 0⟩ [Enters Try.prog 37, Pv.Fn Try.prog 37 [.agg (atomb_Range b2781)] [] 0 (fun r o => r = bV t2791 ∧ o = []), (!t2791) = false, (decide (x2776 > (0 : Int))) = false] (by kernel_rfl) ⟨by exact Try.call37, by exact f_pluvialref14_Right.ok b2781 t2791 e2792, by exact c2793, by exact c2794, trivial⟩ ?_
            obtain rfl := Option.some.inj H
            exact Exists.intro _ (And.intro (fun _ _ h => h.conv (inv := []) (vk := []) (e0 := []) (t := ⟨[(0, .im (.row (a0.map etomb_Range))), (5, .im (.row (a0.map etomb_Range))), (6, iV .i64 (a0.length : Int)), (7, iV .i64 x2776), (30, bV false)], [], 0⟩) (by kernel_rfl)) (And.intro rfl rfl))
      · obtain ⟨x2798, rfl⟩ : ∃ z, z = o2802 := ⟨_, rfl⟩
        rintro e s ⟨rfl, rfl⟩
        refine AWp.cond x2798 rfl (fun c2799 => ?_) (fun c2799 => ?_)
        · replace H := (ifT c2799).symm.trans H
          refine AWp.seq ?_
          refine reg hP hn hm [] [2] [] ⟨[(2, bV false)], [], 0⟩ [] (by kernel_rfl) trivial ?_
          refine AWp.conv (inv := []) (vk := []) (e0 := []) (t := ⟨[(2, bV false)], [], 0⟩) (by kernel_rfl) ?_
          refine AWp.ret ?_
          obtain rfl := Option.some.inj H
          exact Exists.intro _ (And.intro (fun _ _ h => h) (And.intro rfl (And.intro rfl (And.intro (by kernel_rfl) (by kernel_rfl)))))
        · replace H := (ifF c2799).symm.trans H
          refine AWp.skip ?_
          refine reg hP hn hm [] [0, 5, 6, 7] [] ⟨[(0, .im (.row (a0.map etomb_Range))), (5, .im (.row (a0.map etomb_Range))), (6, iV .i64 (a0.length : Int)), (7, iV .i64 (IntKind.i64.wrap (x2776 + (1 : Int))))], [], 0⟩ [] (by kernel_rfl) trivial ?_
          exact LWp.conv (inv := []) (vk := []) (e0 := []) (t := ⟨[(0, .im (.row (a0.map etomb_Range))), (5, .im (.row (a0.map etomb_Range))), (6, iV .i64 (a0.length : Int)), (7, iV .i64 (IntKind.i64.wrap (x2776 + (1 : Int))))], [], 0⟩) (by kernel_rfl) (ih _ _ H)
    · replace H := (ifF c2777).symm.trans H
      refine AWp.exit ?_
      obtain rfl := Option.some.inj H
      exact Exists.intro _ (And.intro (fun _ _ h => h.conv (inv := []) (vk := []) (e0 := []) (t := ⟨[], [], 0⟩) (by kernel_rfl)) (And.intro rfl rfl))
  · rcases o2800 with rr | _
    · skip
      rintro e s ⟨rfl, hfl, hres⟩
      obtain rfl := Option.some.inj H
      exact Exists.intro _ (And.intro (fun _ _ h => h) (And.intro (.inl rfl) (And.intro hfl hres)))
    · skip
      rintro e s ⟨rfl, rfl⟩
      refine AWp.seq ?_
      refine reg hP hn hm [] [2] [] ⟨[(2, bV true)], [], 0⟩ [] (by kernel_rfl) trivial ?_
      refine AWp.conv (inv := []) (vk := []) (e0 := []) (t := ⟨[(2, bV true)], [], 0⟩) (by kernel_rfl) ?_
      refine AWp.ret ?_
      obtain rfl := Option.some.inj H
      exact Exists.intro _ (And.intro (fun _ _ h => h) (And.intro (.inl rfl) (And.intro rfl (And.intro (by kernel_rfl) (by kernel_rfl)))))
end Go.Proofs.Yteogljahemehkaa.PvGC1
set_option linter.unusedVariables false
set_option linter.unnecessarySimpa false
set_option linter.unusedSimpArgs false
set_option maxRecDepth 10000
namespace Go.Proofs.Yteogljahemehkaa.PvGC1
open Go Go.Pv
def f_bits_classes.f  : Option (List Int) := some [0, 3, 7, 12, 20, 32, 64]
theorem f_bits_classes.ok  (r : List Int) (H : f_bits_classes.f  = some r) : Pv.Fn Try.prog 114 [] [] 0 (fun x o => x = .own 0 ∧ o = [(0, some (.row 1 3 (r.map (encInt .i64))))]) := by
  unfold f_bits_classes.f at H
  refine Fn.bodyK [0] Try.func114 rfl rfl (fun Γ hP hn => ?_)
  have hm : Try.prog.follows .mixedOrders = true := by kernel_rfl
  replace hn : Γ.n = 2 := hn
  refine AWp.seq ?_
  refine reg hP hn hm [] [] [] ⟨[], [], 0⟩ [] (by kernel_rfl) trivial ?_
  refine AWp.seq ?_
  refine reg hP hn hm [(0, .app 0 ([0, 3, 7, 12, 20, 32, 64].map (encInt .i64)))] [0] [0] ⟨[(0, .own 0)], [(0, some (.row 1 3 ([0, 3, 7, 12, 20, 32, 64].map (encInt .i64))))], 0⟩ [[0, 3, 7, 12, 20, 32, 64].map (encInt .i64) = [[iI .i64 0], [iI .i64 3], [iI .i64 7], [iI .i64 12], [iI .i64 20], [iI .i64 32], [iI .i64 64]]] (by kernel_rfl) ⟨by exact rfl, trivial⟩ ?_
  refine AWp.conv (inv := [(0, 0)]) (vk := []) (e0 := []) (t := ⟨[(0, .own 0)], [(0, some (.row 1 3 ([0, 3, 7, 12, 20, 32, 64].map (encInt .i64))))], 0⟩) (by kernel_rfl) ?_
  refine AWp.ret ?_
  obtain rfl := Option.some.inj H
  exact Exists.intro _ (And.intro (fun _ _ h => h) (And.intro (.inl rfl) (And.intro rfl (And.intro (by kernel_rfl) (by kernel_rfl)))))
def f_bits_long.l0 (x3223 : Int) (x3224 : Int) : Option (Int) := if (decide (x3223 > (0 : Int))) = true then (f_bits_long.l0  (Int.fdiv x3223 2) (IntKind.i64.wrap (x3224 + (1 : Int)))) else (some x3224)
partial_fixpoint
def f_bits_long.f (a0 : Int) : Option (Int) := (f_bits_long.l0  a0 0) >>= fun x3226 => some x3226
theorem f_bits_long.ok (a0 : Int) (r : Int) (H : f_bits_long.f a0 = some r) : Pv.Fn Try.prog 116 [iV .u64 a0] [] 0 (fun x o => x = iV .i64 r ∧ o = []) := by
  unfold f_bits_long.f at H
  refine Fn.bodyK [] Try.func116 rfl rfl (fun Γ hP hn => ?_)
  have hm : Try.prog.follows .mixedOrders = true := by kernel_rfl
  replace hn : Γ.n = 11 := hn
  refine AWp.seq ?_
  refine reg hP hn hm [] [0] [] ⟨[(0, iV .u64 a0)], [], 0⟩ [] (by kernel_rfl) trivial ?_
  refine AWp.seq ?_
  refine reg hP hn hm [] [0, 3] [] ⟨[(0, iV .u64 a0), (3, iV .i64 0)], [], 0⟩ [] (by kernel_rfl) trivial ?_
  refine AWp.seq ?_
  refine AWp.block ?_
  obtain ⟨o3227, e3228, H⟩ := bind_of H
  refine AWp.loop (LWp.conv (inv := []) (vk := []) (e0 := []) (t := ⟨[(0, iV .u64 a0), (3, iV .i64 0)], [], 0⟩) (by kernel_rfl) ?_)
  refine LWp.mono (Q := fun e s => (match (generalizing := false) o3227 with | x3226 => e = .exit 0 ∧ s = ⟨[(3, iV .i64 x3226)], [], 0⟩)) (LWp.cv (withBody (fun body hbody => ?_))) ?_
  · refine f_bits_long.l0.partial_correctness  (motive := fun x3223 x3224 o3227 => LWp Γ body (fun e s => ∃ t, Cv Γ s t ∧ (match (generalizing := false) o3227 with | x3226 => e = .exit 0 ∧ t = ⟨[(3, iV .i64 x3226)], [], 0⟩)) ⟨[(0, iV .u64 x3223), (3, iV .i64 x3224)], [], 0⟩) ?_ _ _ _ e3228
    clear H e3228 o3227; intro self ih x3223 x3224 o3227 H
    subst hbody
    refine LWp.round ?_
    refine AWp.seq ?_
    refine AWp.seq ?_
    refine reg hP hn hm [] [0, 3, 5] [] ⟨[(0, iV .u64 x3223), (3, iV .i64 x3224), (5, bV (decide (x3223 > (0 : Int))))], [], 0⟩ [] (by kernel_rfl) trivial ?_
    refine AWp.cond (decide (x3223 > (0 : Int))) rfl (fun c3225 => ?_) (fun c3225 => ?_)
    · replace H := (ifT c3225).symm.trans H
      refine AWp.skip ?_
      refine AWp.seq ?_
      refine AWp.block ?_
      refine reg hP hn hm [] [0, 3] [] ⟨[(0, iV .u64 x3223), (3, iV .i64 (IntKind.i64.wrap (x3224 + (1 : Int))))], [], 0⟩ [] (by kernel_rfl) trivial ?_
      refine reg hP hn hm [] [0, 3] [] ⟨[(0, iV .u64 (Int.fdiv x3223 2)), (3, iV .i64 (IntKind.i64.wrap (x3224 + (1 : Int))))], [], 0⟩ [(0 : Int) ≤ 1] (by kernel_rfl) ⟨by decide, trivial⟩ ?_
      exact LWp.conv (inv := []) (vk := []) (e0 := []) (t := ⟨[(0, iV .u64 (Int.fdiv x3223 2)), (3, iV .i64 (IntKind.i64.wrap (x3224 + (1 : Int))))], [], 0⟩) (by kernel_rfl) (ih _ _ _ H)
    · replace H := (ifF c3225).symm.trans H
      refine AWp.exit ?_
      obtain rfl := Option.some.inj H
      exact Exists.intro _ (And.intro (fun _ _ h => h.conv (inv := []) (vk := []) (e0 := []) (t := ⟨[(3, iV .i64 x3224)], [], 0⟩) (by kernel_rfl)) (And.intro rfl rfl))
  · obtain ⟨x3226, rfl⟩ : ∃ z, z = o3227 := ⟨_, rfl⟩
    rintro e s ⟨rfl, rfl⟩
    refine AWp.seq ?_
    refine reg hP hn hm [] [2] [] ⟨[(2, iV .i64 x3226)], [], 0⟩ [] (by kernel_rfl) trivial ?_
    refine AWp.conv (inv := []) (vk := []) (e0 := []) (t := ⟨[(2, iV .i64 x3226)], [], 0⟩) (by kernel_rfl) ?_
    refine AWp.ret ?_
    obtain rfl := Option.some.inj H
    exact Exists.intro _ (And.intro (fun _ _ h => h) (And.intro (.inl rfl) (And.intro rfl (And.intro (by kernel_rfl) (by kernel_rfl)))))
def f_cmp_isNaN_int.f (a0 : Int) : Option (Unit) := some ()
theorem f_cmp_isNaN_int.ok (a0 : Int) (r : Unit) (H : f_cmp_isNaN_int.f a0 = some r) : Pv.Fn Try.prog 148 [iV .i64 a0] [] 0 (fun x o => x = bV (a0 != a0) ∧ o = []) := by
  unfold f_cmp_isNaN_int.f at H
  refine Fn.bodyK [] Try.func148 rfl rfl (fun Γ hP hn => ?_)
  have hm : Try.prog.follows .mixedOrders = true := by kernel_rfl
  replace hn : Γ.n = 6 := hn
  refine AWp.seq ?_
  refine reg hP hn hm [] [0] [] ⟨[(0, iV .i64 a0)], [], 0⟩ [] (by kernel_rfl) trivial ?_
  refine AWp.seq ?_
  refine reg hP hn hm [] [2] [] ⟨[(2, bV (a0 != a0))], [], 0⟩ [] (by kernel_rfl) trivial ?_
  refine AWp.conv (inv := []) (vk := []) (e0 := []) (t := ⟨[(2, bV (a0 != a0))], [], 0⟩) (by kernel_rfl) ?_
  refine AWp.ret ?_
  obtain rfl := Option.some.inj H
  exact Exists.intro _ (And.intro (fun _ _ h => h) (And.intro (.inl rfl) (And.intro rfl (And.intro (by kernel_rfl) (by kernel_rfl)))))
def f_cmp_Less_int.f (a0 : Int) (a1 : Int) : Option (Bool) := (((f_cmp_isNaN_int.f a0) >>= fun t3241 => if (a0 != a0) = true then ((f_cmp_isNaN_int.f a1) >>= fun t3244 => if (!(a1 != a1)) = true then (some true) else (some (decide (a0 < a1)))) else (some (decide (a0 < a1)))) : Option (Bool)) >>= fun x3247 => some x3247
theorem f_cmp_Less_int.ok (a0 : Int) (a1 : Int) (r : Bool) (H : f_cmp_Less_int.f a0 a1 = some r) : Pv.Fn Try.prog 139 [iV .i64 a0, iV .i64 a1] [] 0 (fun x o => x = bV r ∧ o = []) := by
  unfold f_cmp_Less_int.f at H
  refine Fn.bodyK [] Try.func139 rfl rfl (fun Γ hP hn => ?_)
  have hm : Try.prog.follows .mixedOrders = true := by kernel_rfl
  replace hn : Γ.n = 17 := hn
  refine AWp.seq ?_
  refine reg hP hn hm [] [0, 1] [] ⟨[(0, iV .i64 a0), (1, iV .i64 a1)], [], 0⟩ [] (by kernel_rfl) trivial ?_
  refine AWp.seq ?_
  obtain ⟨o3248, e3249, H⟩ := bind_of H
  refine AWp.mono (Q := fun e s => (match (generalizing := false) o3248 with | x3247 => e = .normal ∧ s = ⟨[(4, bV x3247)], [], 0⟩)) (AWp.cv ?_) ?_
  · replace H := e3249; clear e3249
    obtain ⟨t3241, e3242, H⟩ := bind_of H
    rcases Bool.eq_false_or_eq_true (a0 != a0) with c3243 | c3243
    · replace H := (ifT c3243).symm.trans H
      obtain ⟨t3244, e3245, H⟩ := bind_of H
      rcases Bool.eq_false_or_eq_true (!(a1 != a1)) with c3246 | c3246
      · replace H := (ifT c3246).symm.trans H
        refine reg hP hn hm [(1, .call [] [] [] [] 0 (bV (a0 != a0)) []), (2, .b true), (4, .call [] [] [] [] 0 (bV (a1 != a1)) []), (7, .b true)] [4] [] ⟨[(4, bV true)], [], 0⟩ [Enters Try.prog 148, Pv.Fn Try.prog 148 [iV .i64 a0] [] 0 (fun r o => r = bV (a0 != a0) ∧ o = []), (a0 != a0) = true, Enters Try.prog 148, Pv.Fn Try.prog 148 [iV .i64 a1] [] 0 (fun r o => r = bV (a1 != a1) ∧ o = []), (!(a1 != a1)) = true] (by kernel_rfl) ⟨by exact Try.call148, by exact f_cmp_isNaN_int.ok a0 t3241 e3242, by exact c3243, by exact Try.call148, by exact f_cmp_isNaN_int.ok a1 t3244 e3245, by exact c3246, trivial⟩ ?_
        obtain rfl := Option.some.inj H
        exact Exists.intro _ (And.intro (fun _ _ h => h.conv (inv := []) (vk := []) (e0 := []) (t := ⟨[(4, bV true)], [], 0⟩) (by kernel_rfl)) (And.intro rfl rfl))
      · replace H := (ifF c3246).symm.trans H
        refine reg hP hn hm [(1, .call [] [] [] [] 0 (bV (a0 != a0)) []), (2, .b true), (4, .call [] [] [] [] 0 (bV (a1 != a1)) []), (7, .b false)] [4] [] ⟨[(4, bV (decide (a0 < a1)))], [], 0⟩ [Enters Try.prog 148, Pv.Fn Try.prog 148 [iV .i64 a0] [] 0 (fun r o => r = bV (a0 != a0) ∧ o = []), (a0 != a0) = true, Enters Try.prog 148, Pv.Fn Try.prog 148 [iV .i64 a1] [] 0 (fun r o => r = bV (a1 != a1) ∧ o = []), (!(a1 != a1)) = false] (by kernel_rfl) ⟨by exact Try.call148, by exact f_cmp_isNaN_int.ok a0 t3241 e3242, by exact c3243, by exact Try.call148, by exact f_cmp_isNaN_int.ok a1 t3244 e3245, by exact c3246, trivial⟩ ?_
        obtain rfl := Option.some.inj H
        exact Exists.intro _ (And.intro (fun _ _ h => h.conv (inv := []) (vk := []) (e0 := []) (t := ⟨[(4, bV (decide (a0 < a1)))], [], 0⟩) (by kernel_rfl)) (And.intro rfl rfl))
    · replace H := (ifF c3243).symm.trans H
      refine reg hP hn hm [(1, .call [] [] [] [] 0 (bV (a0 != a0)) []), (2, .b false)] [4] [] ⟨[(4, bV (decide (a0 < a1)))], [], 0⟩ [Enters Try.prog 148, Pv.Fn Try.prog 148 [iV .i64 a0] [] 0 (fun r o => r = bV (a0 != a0) ∧ o = []), (a0 != a0) = false] (by kernel_rfl) ⟨by exact Try.call148, by exact f_cmp_isNaN_int.ok a0 t3241 e3242, by exact c3243, trivial⟩ ?_
      obtain rfl := Option.some.inj H
      exact Exists.intro _ (And.intro (fun _ _ h => h.conv (inv := []) (vk := []) (e0 := []) (t := ⟨[(4, bV (decide (a0 < a1)))], [], 0⟩) (by kernel_rfl)) (And.intro rfl rfl))
  · obtain ⟨x3247, rfl⟩ : ∃ z, z = o3248 := ⟨_, rfl⟩
    rintro e s ⟨rfl, rfl⟩
    refine AWp.conv (inv := []) (vk := []) (e0 := []) (t := ⟨[(4, bV x3247)], [], 0⟩) (by kernel_rfl) ?_
    refine AWp.ret ?_
    obtain rfl := Option.some.inj H
    exact Exists.intro _ (And.intro (fun _ _ h => h) (And.intro (.inl rfl) (And.intro rfl (And.intro (by kernel_rfl) (by kernel_rfl)))))
def f_slices_isNaN_int.f (a0 : Int) : Option (Unit) := some ()
theorem f_slices_isNaN_int.ok (a0 : Int) (r : Unit) (H : f_slices_isNaN_int.f a0 = some r) : Pv.Fn Try.prog 140 [iV .i64 a0] [] 0 (fun x o => x = bV (a0 != a0) ∧ o = []) := by
  unfold f_slices_isNaN_int.f at H
  refine Fn.bodyK [] Try.func140 rfl rfl (fun Γ hP hn => ?_)
  have hm : Try.prog.follows .mixedOrders = true := by kernel_rfl
  replace hn : Γ.n = 6 := hn
  refine AWp.seq ?_
  refine reg hP hn hm [] [0] [] ⟨[(0, iV .i64 a0)], [], 0⟩ [] (by kernel_rfl) trivial ?_
  refine AWp.seq ?_
  refine reg hP hn hm [] [2] [] ⟨[(2, bV (a0 != a0))], [], 0⟩ [] (by kernel_rfl) trivial ?_
  refine AWp.conv (inv := []) (vk := []) (e0 := []) (t := ⟨[(2, bV (a0 != a0))], [], 0⟩) (by kernel_rfl) ?_
  refine AWp.ret ?_
  obtain rfl := Option.some.inj H
  exact Exists.intro _ (And.intro (fun _ _ h => h) (And.intro (.inl rfl) (And.intro rfl (And.intro (by kernel_rfl) (by kernel_rfl)))))
def f_slices_BinarySearch_int.l0 (a0 : List Int) (a1 : Int) (x3260 : Int) (x3261 : Int) : Option (Int) := if (decide (x3260 < x3261)) = true then ((at? a0 (IntKind.i64.wrap (Int.fdiv (IntKind.u64.wrap (IntKind.i64.wrap (x3260 + x3261))) 2))) >>= fun b3268 => (f_cmp_Less_int.f b3268 a1) >>= fun t3271 => ((if t3271 = true then (some (IntKind.i64.wrap ((IntKind.i64.wrap (Int.fdiv (IntKind.u64.wrap (IntKind.i64.wrap (x3260 + x3261))) 2)) + (1 : Int)), x3261)) else (some (x3260, IntKind.i64.wrap (Int.fdiv (IntKind.u64.wrap (IntKind.i64.wrap (x3260 + x3261))) 2)))) : Option (Int × Int)) >>= fun oo => match oo with | (x3274, x3275) => (f_slices_BinarySearch_int.l0 a0 a1 x3274 x3275)) else (some x3260)
partial_fixpoint
def f_slices_BinarySearch_int.f (a0 : List Int) (a1 : Int) : Option (Int × Bool) := (f_slices_BinarySearch_int.l0 a0 a1 0 (a0.length : Int)) >>= fun x3276 => ((if (decide (x3276 < (a0.length : Int))) = true then ((at? a0 x3276) >>= fun b3288 => if (b3288 == a1) = true then (some true) else ((f_slices_isNaN_int.f b3288) >>= fun t3292 => if (b3288 != b3288) = true then ((f_slices_isNaN_int.f a1) >>= fun t3295 => some (a1 != a1)) else (some false))) else (some false)) : Option (Bool)) >>= fun x3297 => some (x3276, x3297)
theorem f_slices_BinarySearch_int.ok (a0 : List Int) (a1 : Int) (r : Int × Bool) (H : f_slices_BinarySearch_int.f a0 a1 = some r) : Pv.Fn Try.prog 115 [.im (.row (a0.map (encInt .i64))), iV .i64 a1] [] 0 (fun x o => x = .tup [iV .i64 r.1, bV r.2] ∧ o = []) := by
  unfold f_slices_BinarySearch_int.f at H
  refine Fn.bodyK [] Try.func115 rfl rfl (fun Γ hP hn => ?_)
  have hm : Try.prog.follows .mixedOrders = true := by kernel_rfl
  replace hn : Γ.n = 54 := hn
  refine AWp.seq ?_
  refine reg hP hn hm [] [0, 1] [] ⟨[(0, .im (.row (a0.map (encInt .i64)))), (1, iV .i64 a1)], [], 0⟩ [] (by kernel_rfl) trivial ?_
  refine AWp.seq ?_
  refine reg hP hn hm [(1, .any (iV .i64 (a0.length : Int)))] [0, 1, 6] [] ⟨[(0, .im (.row (a0.map (encInt .i64)))), (1, iV .i64 a1), (6, iV .i64 (a0.length : Int))], [], 0⟩ [((a0.map (encInt .i64)).length : Int) = (a0.length : Int)] (by kernel_rfl) ⟨by rw [len_map], trivial⟩ ?_
  refine AWp.seq ?_
  refine reg hP hn hm [] [0, 1, 6, 7, 8] [] ⟨[(0, .im (.row (a0.map (encInt .i64)))), (1, iV .i64 a1), (6, iV .i64 (a0.length : Int)), (7, iV .i64 0), (8, iV .i64 (a0.length : Int))], [], 0⟩ [] (by kernel_rfl) trivial ?_
  refine AWp.seq ?_
  refine AWp.block ?_
  obtain ⟨o3298, e3299, H⟩ := bind_of H
  refine AWp.loop (LWp.conv (inv := []) (vk := []) (e0 := []) (t := ⟨[(0, .im (.row (a0.map (encInt .i64)))), (1, iV .i64 a1), (6, iV .i64 (a0.length : Int)), (7, iV .i64 0), (8, iV .i64 (a0.length : Int))], [], 0⟩) (by kernel_rfl) ?_)
  refine LWp.mono (Q := fun e s => (match (generalizing := false) o3298 with | x3276 => e = .exit 0 ∧ s = ⟨[(0, .im (.row (a0.map (encInt .i64)))), (1, iV .i64 a1), (6, iV .i64 (a0.length : Int)), (7, iV .i64 x3276)], [], 0⟩)) (LWp.cv (withBody (fun body hbody => ?_))) ?_
  · refine f_slices_BinarySearch_int.l0.partial_correctness a0 a1 (motive := fun x3260 x3261 o3298 => LWp Γ body (fun e s => ∃ t, Cv Γ s t ∧ (match (generalizing := false) o3298 with | x3276 => e = .exit 0 ∧ t = ⟨[(0, .im (.row (a0.map (encInt .i64)))), (1, iV .i64 a1), (6, iV .i64 (a0.length : Int)), (7, iV .i64 x3276)], [], 0⟩)) ⟨[(0, .im (.row (a0.map (encInt .i64)))), (1, iV .i64 a1), (6, iV .i64 (a0.length : Int)), (7, iV .i64 x3260), (8, iV .i64 x3261)], [], 0⟩) ?_ _ _ _ e3299
    clear H e3299 o3298; intro self ih x3260 x3261 o3298 H
    subst hbody
    refine LWp.round ?_
    refine AWp.seq ?_
    refine AWp.seq ?_
    refine reg hP hn hm [] [0, 1, 6, 7, 8, 15] [] ⟨[(0, .im (.row (a0.map (encInt .i64)))), (1, iV .i64 a1), (6, iV .i64 (a0.length : Int)), (7, iV .i64 x3260), (8, iV .i64 x3261), (15, bV (decide (x3260 < x3261)))], [], 0⟩ [] (by kernel_rfl) trivial ?_
    refine AWp.cond (decide (x3260 < x3261)) rfl (fun c3262 => ?_) (fun c3262 => ?_)
    · replace H := (ifT c3262).symm.trans H
      refine AWp.skip ?_
      refine AWp.block ?_
      refine AWp.seq ?_
      refine reg hP hn hm [] [0, 1, 6, 7, 8, 9] [] ⟨[(0, .im (.row (a0.map (encInt .i64)))), (1, iV .i64 a1), (6, iV .i64 (a0.length : Int)), (7, iV .i64 x3260), (8, iV .i64 x3261), (9, iV .i64 (IntKind.i64.wrap (Int.fdiv (IntKind.u64.wrap (IntKind.i64.wrap (x3260 + x3261))) 2)))], [], 0⟩ [(0 : Int) ≤ 1] (by kernel_rfl) ⟨by decide, trivial⟩ ?_
      refine AWp.seq ?_
      obtain ⟨b3268, p3269, q3270, H⟩ := at_of H
      obtain ⟨t3271, e3272, H⟩ := bind_of H
      refine reg hP hn hm [(2, .c ((encInt .i64) b3268)), (5, .call [] [] [] [] 0 (bV t3271) [])] [0, 1, 6, 7, 8, 9, 27] [] ⟨[(0, .im (.row (a0.map (encInt .i64)))), (1, iV .i64 a1), (6, iV .i64 (a0.length : Int)), (7, iV .i64 x3260), (8, iV .i64 x3261), (9, iV .i64 (IntKind.i64.wrap (Int.fdiv (IntKind.u64.wrap (IntKind.i64.wrap (x3260 + x3261))) 2))), (27, bV t3271)], [], 0⟩ [0 ≤ (IntKind.i64.wrap (Int.fdiv (IntKind.u64.wrap (IntKind.i64.wrap (x3260 + x3261))) 2)), (a0.map (encInt .i64))[(Int.toNat (IntKind.i64.wrap (Int.fdiv (IntKind.u64.wrap (IntKind.i64.wrap (x3260 + x3261))) 2)))]? = some ((encInt .i64) b3268), Enters Try.prog 139, Pv.Fn Try.prog 139 [iV .i64 b3268, iV .i64 a1] [] 0 (fun r o => r = bV t3271 ∧ o = [])] (by kernel_rfl) ⟨by exact p3269, by exact el_map (encInt .i64) q3270, by exact Try.call139, by exact f_cmp_Less_int.ok b3268 a1 t3271 e3272, trivial⟩ ?_
      obtain ⟨o3300, e3301, H⟩ := bind_of H
      refine AWp.mono (Q := fun e s => (match (generalizing := false) o3300 with | (x3274, x3275) => e = .normal ∧ s = ⟨[(0, .im (.row (a0.map (encInt .i64)))), (1, iV .i64 a1), (6, iV .i64 (a0.length : Int)), (7, iV .i64 x3274), (8, iV .i64 x3275)], [], 0⟩)) (AWp.cv ?_) ?_
      · replace H := e3301; clear e3301
        refine AWp.cond t3271 rfl (fun c3273 => ?_) (fun c3273 => ?_)
        · replace H := (ifT c3273).symm.trans H
          refine reg hP hn hm [] [0, 1, 6, 7, 8] [] ⟨[(0, .im (.row (a0.map (encInt .i64)))), (1, iV .i64 a1), (6, iV .i64 (a0.length : Int)), (7, iV .i64 (IntKind.i64.wrap ((IntKind.i64.wrap (Int.fdiv (IntKind.u64.wrap (IntKind.i64.wrap (x3260 + x3261))) 2)) + (1 : Int)))), (8, iV .i64 x3261)], [], 0⟩ [] (by kernel_rfl) trivial ?_
          obtain rfl := Option.some.inj H
          exact Exists.intro _ (And.intro (fun _ _ h => h.conv (inv := []) (vk := []) (e0 := []) (t := ⟨[(0, .im (.row (a0.map (encInt .i64)))), (1, iV .i64 a1), (6, iV .i64 (a0.length : Int)), (7, iV .i64 (IntKind.i64.wrap ((IntKind.i64.wrap (Int.fdiv (IntKind.u64.wrap (IntKind.i64.wrap (x3260 + x3261))) 2)) + (1 : Int)))), (8, iV .i64 x3261)], [], 0⟩) (by kernel_rfl)) (And.intro rfl rfl))
        · replace H := (ifF c3273).symm.trans H
          refine reg hP hn hm [] [0, 1, 6, 7, 8] [] ⟨[(0, .im (.row (a0.map (encInt .i64)))), (1, iV .i64 a1), (6, iV .i64 (a0.length : Int)), (7, iV .i64 x3260), (8, iV .i64 (IntKind.i64.wrap (Int.fdiv (IntKind.u64.wrap (IntKind.i64.wrap (x3260 + x3261))) 2)))], [], 0⟩ [] (by kernel_rfl) trivial ?_
          obtain rfl := Option.some.inj H
          exact Exists.intro _ (And.intro (fun _ _ h => h.conv (inv := []) (vk := []) (e0 := []) (t := ⟨[(0, .im (.row (a0.map (encInt .i64)))), (1, iV .i64 a1), (6, iV .i64 (a0.length : Int)), (7, iV .i64 x3260), (8, iV .i64 (IntKind.i64.wrap (Int.fdiv (IntKind.u64.wrap (IntKind.i64.wrap (x3260 + x3261))) 2)))], [], 0⟩) (by kernel_rfl)) (And.intro rfl rfl))
      · obtain ⟨x3274, x3275⟩ := o3300
        rintro e s ⟨rfl, rfl⟩
        exact LWp.conv (inv := []) (vk := []) (e0 := []) (t := ⟨[(0, .im (.row (a0.map (encInt .i64)))), (1, iV .i64 a1), (6, iV .i64 (a0.length : Int)), (7, iV .i64 x3274), (8, iV .i64 x3275)], [], 0⟩) (by kernel_rfl) (ih _ _ _ H)
    · replace H := (ifF c3262).symm.trans H
      refine AWp.exit ?_
      obtain rfl := Option.some.inj H
      exact Exists.intro _ (And.intro (fun _ _ h => h.conv (inv := []) (vk := []) (e0 := []) (t := ⟨[(0, .im (.row (a0.map (encInt .i64)))), (1, iV .i64 a1), (6, iV .i64 (a0.length : Int)), (7, iV .i64 x3260)], [], 0⟩) (by kernel_rfl)) (And.intro rfl rfl))
  · obtain ⟨x3276, rfl⟩ : ∃ z, z = o3298 := ⟨_, rfl⟩
    rintro e s ⟨rfl, rfl⟩
    refine AWp.seq ?_
    obtain ⟨o3302, e3303, H⟩ := bind_of H
    refine AWp.mono (Q := fun e s => (match (generalizing := false) o3302 with | x3297 => e = .normal ∧ s = ⟨[(4, iV .i64 x3276), (5, bV x3297)], [], 0⟩)) (AWp.cv ?_) ?_
    · replace H := e3303; clear e3303
      rcases Bool.eq_false_or_eq_true (decide (x3276 < (a0.length : Int))) with c3287 | c3287
      · replace H := (ifT c3287).symm.trans H
        obtain ⟨b3288, p3289, q3290, H⟩ := at_of H
        rcases Bool.eq_false_or_eq_true (b3288 == a1) with c3291 | c3291
        · replace H := (ifT c3291).symm.trans H
          refine reg hP hn hm [(4, .b true), (7, .c ((encInt .i64) b3288)), (11, .b true)] [4, 5] [] ⟨[(4, iV .i64 x3276), (5, bV true)], [], 0⟩ [(decide (x3276 < (a0.length : Int))) = true, 0 ≤ x3276, (a0.map (encInt .i64))[(Int.toNat (x3276))]? = some ((encInt .i64) b3288), (b3288 == a1) = true] (by kernel_rfl) ⟨by exact c3287, by exact p3289, by exact el_map (encInt .i64) q3290, by exact c3291, trivial⟩ ?_
          obtain rfl := Option.some.inj H
          exact Exists.intro _ (And.intro (fun _ _ h => h.conv (inv := []) (vk := []) (e0 := []) (t := ⟨[(4, iV .i64 x3276), (5, bV true)], [], 0⟩) (by kernel_rfl)) (And.intro rfl rfl))
        · replace H := (ifF c3291).symm.trans H
          obtain ⟨t3292, e3293, H⟩ := bind_of H
          rcases Bool.eq_false_or_eq_true (b3288 != b3288) with c3294 | c3294
          · replace H := (ifT c3294).symm.trans H
            obtain ⟨t3295, e3296, H⟩ := bind_of H
            refine reg hP hn hm [(4, .b true), (7, .c ((encInt .i64) b3288)), (11, .b false), (14, .c ((encInt .i64) b3288)), (16, .call [] [] [] [] 0 (bV (b3288 != b3288)) []), (17, .b true), (19, .call [] [] [] [] 0 (bV (a1 != a1)) [])] [4, 5] [] ⟨[(4, iV .i64 x3276), (5, bV (a1 != a1))], [], 0⟩ [(decide (x3276 < (a0.length : Int))) = true, 0 ≤ x3276, (a0.map (encInt .i64))[(Int.toNat (x3276))]? = some ((encInt .i64) b3288), (b3288 == a1) = false, 0 ≤ x3276, (a0.map (encInt .i64))[(Int.toNat (x3276))]? = some ((encInt .i64) b3288), Enters Try.prog 140, Pv.Fn Try.prog 140 [iV .i64 b3288] [] 0 (fun r o => r = bV (b3288 != b3288) ∧ o = []), (b3288 != b3288) = true, Enters Try.prog 140, Pv.Fn Try.prog 140 [iV .i64 a1] [] 0 (fun r o => r = bV (a1 != a1) ∧ o = [])] (by kernel_rfl) ⟨by exact c3287, by exact p3289, by exact el_map (encInt .i64) q3290, by exact c3291, by exact p3289, by exact el_map (encInt .i64) q3290, by exact Try.call140, by exact f_slices_isNaN_int.ok b3288 t3292 e3293, by exact c3294, by exact Try.call140, by exact f_slices_isNaN_int.ok a1 t3295 e3296, trivial⟩ ?_
            obtain rfl := Option.some.inj H
            exact Exists.intro _ (And.intro (fun _ _ h => h.conv (inv := []) (vk := []) (e0 := []) (t := ⟨[(4, iV .i64 x3276), (5, bV (a1 != a1))], [], 0⟩) (by kernel_rfl)) (And.intro rfl rfl))
          · replace H := (ifF c3294).symm.trans H
            refine reg hP hn hm [(4, .b true), (7, .c ((encInt .i64) b3288)), (11, .b false), (14, .c ((encInt .i64) b3288)), (16, .call [] [] [] [] 0 (bV (b3288 != b3288)) []), (17, .b false)] [4, 5] [] ⟨[(4, iV .i64 x3276), (5, bV false)], [], 0⟩ [(decide (x3276 < (a0.length : Int))) = true, 0 ≤ x3276, (a0.map (encInt .i64))[(Int.toNat (x3276))]? = some ((encInt .i64) b3288), (b3288 == a1) = false, 0 ≤ x3276, (a0.map (encInt .i64))[(Int.toNat (x3276))]? = some ((encInt .i64) b3288), Enters Try.prog 140, Pv.Fn Try.prog 140 [iV .i64 b3288] [] 0 (fun r o => r = bV (b3288 != b3288) ∧ o = []), (b3288 != b3288) = false] (by kernel_rfl) ⟨by exact c3287, by exact p3289, by exact el_map (encInt .i64) q3290, by exact c3291, by exact p3289, by exact el_map (encInt .i64) q3290, by exact Try.call140, by exact f_slices_isNaN_int.ok b3288 t3292 e3293, by exact c3294, trivial⟩ ?_
            obtain rfl := Option.some.inj H
            exact Exists.intro _ (And.intro (fun _ _ h => h.conv (inv := []) (vk := []) (e0 := []) (t := ⟨[(4, iV .i64 x3276), (5, bV false)], [], 0⟩) (by kernel_rfl)) (And.intro rfl rfl))
      · replace H := (ifF c3287).symm.trans H
        refine reg hP hn hm [(4, .b false)] [4, 5] [] ⟨[(4, iV .i64 x3276), (5, bV false)], [], 0⟩ [(decide (x3276 < (a0.length : Int))) = false] (by kernel_rfl) ⟨by exact c3287, trivial⟩ ?_
        obtain rfl := Option.some.inj H
        exact Exists.intro _ (And.intro (fun _ _ h => h.conv (inv := []) (vk := []) (e0 := []) (t := ⟨[(4, iV .i64 x3276), (5, bV false)], [], 0⟩) (by kernel_rfl)) (And.intro rfl rfl))
    · obtain ⟨x3297, rfl⟩ : ∃ z, z = o3302 := ⟨_, rfl⟩
      rintro e s ⟨rfl, rfl⟩
      refine AWp.conv (inv := []) (vk := []) (e0 := []) (t := ⟨[(4, iV .i64 x3276), (5, bV x3297)], [], 0⟩) (by kernel_rfl) ?_
      refine AWp.ret ?_
      obtain rfl := Option.some.inj H
      exact Exists.intro _ (And.intro (fun _ _ h => h) (And.intro (.inl rfl) (And.intro rfl (And.intro (by kernel_rfl) (by kernel_rfl)))))
def f_bits_Writer_Bit_ba5.f (a0_c0 : List Int) (a0_c1 : Int) (a1 : Bool) : Option ((List Int) × Int) := ((if (a0_c1 == (0 : Int)) = true then ((chk ((a0_c0.length + [0].length) * 1 ≤ 140737488355328)) >>= fun _ => some (a0_c0 ++ [0], 8)) else (some (a0_c0, a0_c1))) : Option ((List Int) × Int)) >>= fun oo => match oo with | (x3341, x3342) => (((if a1 = true then ((at? x3341 (IntKind.i64.wrap ((x3341.length : Int) - (1 : Int)))) >>= fun b3348 => (chk (0 ≤ (IntKind.u64.wrap (x3342 - (1 : Int))))) >>= fun _ => some (x3341.set (Int.toNat (IntKind.i64.wrap ((x3341.length : Int) - (1 : Int)))) (IntKind.u8.wrap (((BitVec.toNat (BitVec.ofInt 8 b3348 ||| BitVec.ofInt 8 (IntKind.u8.wrap ((1 : Int) * 2 ^ (min (Int.toNat (IntKind.u64.wrap (x3342 - (1 : Int)))) 8)))) : Nat) : Int))))) else (some x3341)) : Option (List Int)) >>= fun x3352 => some (x3352, IntKind.u64.wrap (x3342 - (1 : Int))))
theorem f_bits_Writer_Bit_ba5.ok (a0_c0 : List Int) (a0_c1 : Int) (a1 : Bool) (r : (List Int) × Int) (H : f_bits_Writer_Bit_ba5.f a0_c0 a0_c1 a1 = some r) : Pv.Fn Try.prog 117 [.ptr 0 0 0, bV a1] [(0, some (.box 101 [.own 1, iV .u64 a0_c1])), (1, some (.row 1 5 (a0_c0.map (encInt .u8))))] 2 (fun x o => x = .tup [] ∧ o = [(0, some (.box 101 [.own 2, iV .u64 r.2])), (1, none), (2, some (.row 1 5 (r.1.map (encInt .u8))))]) := by
  unfold f_bits_Writer_Bit_ba5.f at H
  refine Fn.bodyK [0, 1, 2] Try.func117 rfl rfl (fun Γ hP hn => ?_)
  have hm : Try.prog.follows .mixedOrders = true := by kernel_rfl
  replace hn : Γ.n = 48 := hn
  refine AWp.seq ?_
  refine AWp.seq ?_
  refine reg hP hn hm [] [0, 1, 8] [0, 1] ⟨[(0, .ptr 0 0 0), (1, bV a1), (8, bV (a0_c1 == (0 : Int)))], [(0, some (.box 101 [.own 1, iV .u64 a0_c1])), (1, some (.row 1 5 (a0_c0.map (encInt .u8))))], 2⟩ [] (by kernel_rfl) trivial ?_
  obtain ⟨o3353, e3354, H⟩ := bind_of H
  refine AWp.mono (Q := fun e s => (match (generalizing := false) o3353 with | (x3341, x3342) => e = .normal ∧ s = ⟨[(0, .ptr 0 0 0), (1, bV a1)], [(0, some (.box 101 [.own 4, iV .u64 x3342])), (4, some (.row 1 5 (x3341.map (encInt .u8))))], 2⟩)) (AWp.cv ?_) ?_
  · replace H := e3354; clear e3354
    refine AWp.cond (a0_c1 == (0 : Int)) rfl (fun c3338 => ?_) (fun c3338 => ?_)
    · replace H := (ifT c3338).symm.trans H
      refine AWp.seq ?_
      obtain ⟨c3340, H⟩ := chk_of H
      refine reg hP hn hm [(5, .app 2 ([0].map (encInt .u8))), (6, .app 3 ((a0_c0 ++ [0]).map (encInt .u8)))] [0, 1] [0, 3] ⟨[(0, .ptr 0 0 0), (1, bV a1)], [(0, some (.box 101 [.own 3, iV .u64 a0_c1])), (3, some (.row 1 5 ((a0_c0 ++ [0]).map (encInt .u8))))], 2⟩ [[0].map (encInt .u8) = [[iI .u8 0]], (a0_c0 ++ [0]).map (encInt .u8) = (a0_c0.map (encInt .u8)) ++ ([0].map (encInt .u8)), ∀ c ∈ ([0].map (encInt .u8)), c.length = 1, ∀ c ∈ ([0].map (encInt .u8)), leaves (c.map .im) = true, ((a0_c0.map (encInt .u8)).length + ([0].map (encInt .u8)).length) * 1 ≤ 140737488355328] (by kernel_rfl) ⟨by exact rfl, by simp, by exact all_len _ _ _ (fun _ => rfl), by exact all_leaf _ _ (fun _ => rfl), by simpa using c3340, trivial⟩ ?_
      refine reg hP hn hm [] [0, 1] [0, 3] ⟨[(0, .ptr 0 0 0), (1, bV a1)], [(0, some (.box 101 [.own 3, iV .u64 8])), (3, some (.row 1 5 ((a0_c0 ++ [0]).map (encInt .u8))))], 2⟩ [] (by kernel_rfl) trivial ?_
      obtain rfl := Option.some.inj H
      exact Exists.intro _ (And.intro (fun _ _ h => h.conv (inv := [(0, 0), (3, 4)]) (vk := []) (e0 := []) (t := ⟨[(0, .ptr 0 0 0), (1, bV a1)], [(0, some (.box 101 [.own 4, iV .u64 8])), (4, some (.row 1 5 ((a0_c0 ++ [0]).map (encInt .u8))))], 2⟩) (by kernel_rfl)) (And.intro rfl rfl))
    · replace H := (ifF c3338).symm.trans H
      refine AWp.skip ?_
      obtain rfl := Option.some.inj H
      exact Exists.intro _ (And.intro (fun _ _ h => h.conv (inv := [(0, 0), (1, 4)]) (vk := []) (e0 := []) (t := ⟨[(0, .ptr 0 0 0), (1, bV a1)], [(0, some (.box 101 [.own 4, iV .u64 a0_c1])), (4, some (.row 1 5 (a0_c0.map (encInt .u8))))], 2⟩) (by kernel_rfl)) (And.intro rfl rfl))
  · obtain ⟨x3341, x3342⟩ := o3353
    rintro e s ⟨rfl, rfl⟩
    refine AWp.seq ?_
    refine reg hP hn hm [] [0, 1] [0, 4] ⟨[(0, .ptr 0 0 0), (1, bV a1)], [(0, some (.box 101 [.own 4, iV .u64 (IntKind.u64.wrap (x3342 - (1 : Int)))])), (4, some (.row 1 5 (x3341.map (encInt .u8))))], 2⟩ [] (by kernel_rfl) trivial ?_
    refine AWp.seq ?_
    refine reg hP hn hm [] [0, 28] [0, 4] ⟨[(0, .ptr 0 0 0), (28, bV a1)], [(0, some (.box 101 [.own 4, iV .u64 (IntKind.u64.wrap (x3342 - (1 : Int)))])), (4, some (.row 1 5 (x3341.map (encInt .u8))))], 2⟩ [] (by kernel_rfl) trivial ?_
    obtain ⟨o3355, e3356, H⟩ := bind_of H
    refine AWp.mono (Q := fun e s => (match (generalizing := false) o3355 with | x3352 => e = .normal ∧ s = ⟨[], [(0, some (.box 101 [.own 5, iV .u64 (IntKind.u64.wrap (x3342 - (1 : Int)))])), (5, some (.row 1 5 (x3352.map (encInt .u8))))], 2⟩)) (AWp.cv ?_) ?_
    · replace H := e3356; clear e3356
      refine AWp.cond a1 rfl (fun c3343 => ?_) (fun c3343 => ?_)
      · replace H := (ifT c3343).symm.trans H
        obtain ⟨b3348, p3349, q3350, H⟩ := at_of H
        obtain ⟨c3351, H⟩ := chk_of H
        refine reg hP hn hm [(8, .any (iV .i64 (x3341.length : Int))), (11, .c ((encInt .u8) b3348)), (19, .put ((encInt .u8) b3348) ((x3341.set (Int.toNat (IntKind.i64.wrap ((x3341.length : Int) - (1 : Int)))) (IntKind.u8.wrap (((BitVec.toNat (BitVec.ofInt 8 b3348 ||| BitVec.ofInt 8 (IntKind.u8.wrap ((1 : Int) * 2 ^ (min (Int.toNat (IntKind.u64.wrap (x3342 - (1 : Int)))) 8)))) : Nat) : Int)))).map (encInt .u8)))] [] [0, 4] ⟨[], [(0, some (.box 101 [.own 4, iV .u64 (IntKind.u64.wrap (x3342 - (1 : Int)))])), (4, some (.row 1 5 ((x3341.set (Int.toNat (IntKind.i64.wrap ((x3341.length : Int) - (1 : Int)))) (IntKind.u8.wrap (((BitVec.toNat (BitVec.ofInt 8 b3348 ||| BitVec.ofInt 8 (IntKind.u8.wrap ((1 : Int) * 2 ^ (min (Int.toNat (IntKind.u64.wrap (x3342 - (1 : Int)))) 8)))) : Nat) : Int)))).map (encInt .u8))))], 2⟩ [((x3341.map (encInt .u8)).length : Int) = (x3341.length : Int), 0 ≤ (IntKind.i64.wrap ((x3341.length : Int) - (1 : Int))), IntKind.i64.wrap ((x3341.length : Int) - (1 : Int)) < (((x3341.map (encInt .u8)).length : Nat) : Int), (x3341.map (encInt .u8))[(Int.toNat (IntKind.i64.wrap ((x3341.length : Int) - (1 : Int))))]? = some ((encInt .u8) b3348), 0 ≤ (IntKind.u64.wrap (x3342 - (1 : Int))), 0 ≤ (IntKind.i64.wrap ((x3341.length : Int) - (1 : Int))), IntKind.i64.wrap ((x3341.length : Int) - (1 : Int)) < (((x3341.map (encInt .u8)).length : Nat) : Int), (x3341.map (encInt .u8))[(Int.toNat (IntKind.i64.wrap ((x3341.length : Int) - (1 : Int))))]? = some ((encInt .u8) b3348), (x3341.set (Int.toNat (IntKind.i64.wrap ((x3341.length : Int) - (1 : Int)))) (IntKind.u8.wrap (((BitVec.toNat (BitVec.ofInt 8 b3348 ||| BitVec.ofInt 8 (IntKind.u8.wrap ((1 : Int) * 2 ^ (min (Int.toNat (IntKind.u64.wrap (x3342 - (1 : Int)))) 8)))) : Nat) : Int)))).map (encInt .u8) = (x3341.map (encInt .u8)).set (Int.toNat (IntKind.i64.wrap ((x3341.length : Int) - (1 : Int)))) (splice ((encInt .u8) b3348) 0 [iI .u8 (IntKind.u8.wrap (((BitVec.toNat (BitVec.ofInt 8 b3348 ||| BitVec.ofInt 8 (IntKind.u8.wrap ((1 : Int) * 2 ^ (min (Int.toNat (IntKind.u64.wrap (x3342 - (1 : Int)))) 8)))) : Nat) : Int)))])] (by kernel_rfl) ⟨by rw [len_map], by exact p3349, by exact el_lt (encInt .u8) p3349 q3350, by exact el_map (encInt .u8) q3350, by exact c3351, by exact p3349, by exact el_lt (encInt .u8) p3349 q3350, by exact el_map (encInt .u8) q3350, by exact set1 _ _ _ _, trivial⟩ ?_
        obtain rfl := Option.some.inj H
        exact Exists.intro _ (And.intro (fun _ _ h => h.conv (inv := [(0, 0), (4, 5)]) (vk := []) (e0 := []) (t := ⟨[], [(0, some (.box 101 [.own 5, iV .u64 (IntKind.u64.wrap (x3342 - (1 : Int)))])), (5, some (.row 1 5 ((x3341.set (Int.toNat (IntKind.i64.wrap ((x3341.length : Int) - (1 : Int)))) (IntKind.u8.wrap (((BitVec.toNat (BitVec.ofInt 8 b3348 ||| BitVec.ofInt 8 (IntKind.u8.wrap ((1 : Int) * 2 ^ (min (Int.toNat (IntKind.u64.wrap (x3342 - (1 : Int)))) 8)))) : Nat) : Int)))).map (encInt .u8))))], 2⟩) (by kernel_rfl)) (And.intro rfl rfl))
      · replace H := (ifF c3343).symm.trans H
        refine AWp.skip ?_
        obtain rfl := Option.some.inj H
        exact Exists.intro _ (And.intro (fun _ _ h => h.conv (inv := [(0, 0), (4, 5)]) (vk := []) (e0 := []) (t := ⟨[], [(0, some (.box 101 [.own 5, iV .u64 (IntKind.u64.wrap (x3342 - (1 : Int)))])), (5, some (.row 1 5 (x3341.map (encInt .u8))))], 2⟩) (by kernel_rfl)) (And.intro rfl rfl))
    · obtain ⟨x3352, rfl⟩ : ∃ z, z = o3355 := ⟨_, rfl⟩
      rintro e s ⟨rfl, rfl⟩
      obtain rfl := Option.some.inj H
      exact Exists.intro ⟨[], [(0, some (.box 101 [.own 2, iV .u64 (IntKind.u64.wrap (x3342 - (1 : Int)))])), (2, some (.row 1 5 (x3352.map (encInt .u8))))], 2⟩ (And.intro (fun _ _ h => h.conv (inv := [(0, 0), (5, 2)]) (vk := []) (e0 := []) (t := ⟨[], [(0, some (.box 101 [.own 2, iV .u64 (IntKind.u64.wrap (x3342 - (1 : Int)))])), (2, some (.row 1 5 (x3352.map (encInt .u8))))], 2⟩) (by kernel_rfl)) (And.intro (.inr rfl) (And.intro rfl (And.intro (by kernel_rfl) (by kernel_rfl)))))
def f_bits_Writer_Put_ba5.l0 (a1 : Int) (x3380 : List Int) (x3381 : Int) (x3382 : Int) : Option ((List Int) × Int) := if (decide (x3382 ≥ (0 : Int))) = true then ((chk (0 ≤ (IntKind.u64.wrap (x3382)))) >>= fun _ => (f_bits_Writer_Bit_ba5.f x3380 x3381 ((IntKind.u64.wrap (((BitVec.toNat (BitVec.ofInt 64 (Int.fdiv a1 (2 ^ (min (Int.toNat (IntKind.u64.wrap (x3382))) 64))) &&& BitVec.ofInt 64 (1 : Int)) : Nat) : Int))) == (1 : Int))) >>= fun t3388 => f_bits_Writer_Put_ba5.l0 a1 t3388.1 t3388.2 (IntKind.i64.wrap (x3382 - (1 : Int)))) else (some (x3380, x3381))
partial_fixpoint
def f_bits_Writer_Put_ba5.f (a0_c0 : List Int) (a0_c1 : Int) (a1 : Int) (a2 : Int) : Option ((List Int) × Int) := (f_bits_Writer_Put_ba5.l0 a1 a0_c0 a0_c1 (IntKind.i64.wrap ((if (if (64 : Int) < a2 then (64 : Int) else a2) > (0 : Int) then (if (64 : Int) < a2 then (64 : Int) else a2) else (0 : Int)) - (1 : Int)))) >>= fun oo => match oo with | (x3390, x3391) => (some (x3390, x3391))
theorem f_bits_Writer_Put_ba5.ok (a0_c0 : List Int) (a0_c1 : Int) (a1 : Int) (a2 : Int) (r : (List Int) × Int) (H : f_bits_Writer_Put_ba5.f a0_c0 a0_c1 a1 a2 = some r) : Pv.Fn Try.prog 118 [.ptr 0 0 0, iV .u64 a1, iV .i64 a2] [(0, some (.box 101 [.own 1, iV .u64 a0_c1])), (1, some (.row 1 5 (a0_c0.map (encInt .u8))))] 2 (fun x o => x = .tup [] ∧ o = [(0, some (.box 101 [.own 2, iV .u64 r.2])), (1, none), (2, some (.row 1 5 (r.1.map (encInt .u8))))]) := by
  unfold f_bits_Writer_Put_ba5.f at H
  refine Fn.bodyK [0, 1, 2] Try.func118 rfl rfl (fun Γ hP hn => ?_)
  have hm : Try.prog.follows .mixedOrders = true := by kernel_rfl
  replace hn : Γ.n = 23 := hn
  refine AWp.seq ?_
  refine reg hP hn hm [(1, .more xMin), (2, .more xMax)] [0, 1, 6] [0, 1] ⟨[(0, .ptr 0 0 0), (1, iV .u64 a1), (6, iV .i64 (IntKind.i64.wrap ((if (if (64 : Int) < a2 then (64 : Int) else a2) > (0 : Int) then (if (64 : Int) < a2 then (64 : Int) else a2) else (0 : Int)) - (1 : Int))))], [(0, some (.box 101 [.own 1, iV .u64 a0_c1])), (1, some (.row 1 5 (a0_c0.map (encInt .u8))))], 2⟩ [] (by kernel_rfl) trivial ?_
  refine AWp.block ?_
  obtain ⟨o3392, e3393, H⟩ := bind_of H
  refine AWp.loop (LWp.conv (inv := [(0, 0), (1, 3)]) (vk := []) (e0 := []) (t := ⟨[(0, .ptr 0 0 0), (1, iV .u64 a1), (6, iV .i64 (IntKind.i64.wrap ((if (if (64 : Int) < a2 then (64 : Int) else a2) > (0 : Int) then (if (64 : Int) < a2 then (64 : Int) else a2) else (0 : Int)) - (1 : Int))))], [(0, some (.box 101 [.own 3, iV .u64 a0_c1])), (3, some (.row 1 5 (a0_c0.map (encInt .u8))))], 2⟩) (by kernel_rfl) ?_)
  refine LWp.mono (Q := fun e s => (match (generalizing := false) o3392 with | (x3390, x3391) => e = .exit 0 ∧ s = ⟨[], [(0, some (.box 101 [.own 5, iV .u64 x3391])), (5, some (.row 1 5 (x3390.map (encInt .u8))))], 2⟩)) (LWp.cv (withBody (fun body hbody => ?_))) ?_
  · refine f_bits_Writer_Put_ba5.l0.partial_correctness a1 (motive := fun x3380 x3381 x3382 o3392 => LWp Γ body (fun e s => ∃ t, Cv Γ s t ∧ (match (generalizing := false) o3392 with | (x3390, x3391) => e = .exit 0 ∧ t = ⟨[], [(0, some (.box 101 [.own 5, iV .u64 x3391])), (5, some (.row 1 5 (x3390.map (encInt .u8))))], 2⟩)) ⟨[(0, .ptr 0 0 0), (1, iV .u64 a1), (6, iV .i64 x3382)], [(0, some (.box 101 [.own 3, iV .u64 x3381])), (3, some (.row 1 5 (x3380.map (encInt .u8))))], 2⟩) ?_ _ _ _ _ e3393
    clear H e3393 o3392; intro self ih x3380 x3381 x3382 o3392 H
    subst hbody
    refine LWp.round ?_
    refine AWp.seq ?_
    refine AWp.seq ?_
    refine reg hP hn hm [] [0, 1, 6, 12] [0, 3] ⟨[(0, .ptr 0 0 0), (1, iV .u64 a1), (6, iV .i64 x3382), (12, bV (decide (x3382 ≥ (0 : Int))))], [(0, some (.box 101 [.own 3, iV .u64 x3381])), (3, some (.row 1 5 (x3380.map (encInt .u8))))], 2⟩ [] (by kernel_rfl) trivial ?_
    refine AWp.cond (decide (x3382 ≥ (0 : Int))) rfl (fun c3383 => ?_) (fun c3383 => ?_)
    · replace H := (ifT c3383).symm.trans H
      refine AWp.skip ?_
      refine AWp.seq ?_
      refine AWp.block ?_
      obtain ⟨c3387, H⟩ := chk_of H
      obtain ⟨t3388, e3389, H⟩ := bind_of H
      refine reg hP hn hm [(7, .call [(0, 0), (3, 1)] [(0, 0), (2, 4)] [] [4] 2 (.tup []) [(0, some (.box 101 [.own 2, iV .u64 t3388.2])), (1, none), (2, some (.row 1 5 (t3388.1.map (encInt .u8))))])] [0, 1, 6] [0, 4] ⟨[(0, .ptr 0 0 0), (1, iV .u64 a1), (6, iV .i64 x3382)], [(0, some (.box 101 [.own 4, iV .u64 t3388.2])), (4, some (.row 1 5 (t3388.1.map (encInt .u8))))], 2⟩ [0 ≤ (IntKind.u64.wrap (x3382)), Enters Try.prog 117, Pv.Fn Try.prog 117 [.ptr 0 0 0, bV ((IntKind.u64.wrap (((BitVec.toNat (BitVec.ofInt 64 (Int.fdiv a1 (2 ^ (min (Int.toNat (IntKind.u64.wrap (x3382))) 64))) &&& BitVec.ofInt 64 (1 : Int)) : Nat) : Int))) == (1 : Int))] [(0, some (.box 101 [.own 1, iV .u64 x3381])), (1, some (.row 1 5 (x3380.map (encInt .u8))))] 2 (fun r o => r = .tup [] ∧ o = [(0, some (.box 101 [.own 2, iV .u64 t3388.2])), (1, none), (2, some (.row 1 5 (t3388.1.map (encInt .u8))))])] (by kernel_rfl) ⟨by exact c3387, by exact Try.call117, by exact f_bits_Writer_Bit_ba5.ok x3380 x3381 ((IntKind.u64.wrap (((BitVec.toNat (BitVec.ofInt 64 (Int.fdiv a1 (2 ^ (min (Int.toNat (IntKind.u64.wrap (x3382))) 64))) &&& BitVec.ofInt 64 (1 : Int)) : Nat) : Int))) == (1 : Int)) t3388 e3389, trivial⟩ ?_
      refine reg hP hn hm [] [0, 1, 6] [0, 4] ⟨[(0, .ptr 0 0 0), (1, iV .u64 a1), (6, iV .i64 (IntKind.i64.wrap (x3382 - (1 : Int))))], [(0, some (.box 101 [.own 4, iV .u64 t3388.2])), (4, some (.row 1 5 (t3388.1.map (encInt .u8))))], 2⟩ [] (by kernel_rfl) trivial ?_
      exact LWp.conv (inv := [(0, 0), (4, 3)]) (vk := []) (e0 := []) (t := ⟨[(0, .ptr 0 0 0), (1, iV .u64 a1), (6, iV .i64 (IntKind.i64.wrap (x3382 - (1 : Int))))], [(0, some (.box 101 [.own 3, iV .u64 t3388.2])), (3, some (.row 1 5 (t3388.1.map (encInt .u8))))], 2⟩) (by kernel_rfl) (ih _ _ _ _ H)
    · replace H := (ifF c3383).symm.trans H
      refine AWp.exit ?_
      obtain rfl := Option.some.inj H
      exact Exists.intro _ (And.intro (fun _ _ h => h.conv (inv := [(0, 0), (3, 5)]) (vk := []) (e0 := []) (t := ⟨[], [(0, some (.box 101 [.own 5, iV .u64 x3381])), (5, some (.row 1 5 (x3380.map (encInt .u8))))], 2⟩) (by kernel_rfl)) (And.intro rfl rfl))
  · obtain ⟨x3390, x3391⟩ := o3392
    rintro e s ⟨rfl, rfl⟩
    obtain rfl := Option.some.inj H
    exact Exists.intro ⟨[], [(0, some (.box 101 [.own 2, iV .u64 x3391])), (2, some (.row 1 5 (x3390.map (encInt .u8))))], 2⟩ (And.intro (fun _ _ h => h.conv (inv := [(0, 0), (5, 2)]) (vk := []) (e0 := []) (t := ⟨[], [(0, some (.box 101 [.own 2, iV .u64 x3391])), (2, some (.row 1 5 (x3390.map (encInt .u8))))], 2⟩) (by kernel_rfl)) (And.intro (.inr rfl) (And.intro rfl (And.intro (by kernel_rfl) (by kernel_rfl)))))
def f_bits_Writer_Count_030.l0 (a1 : Int) (t3220 : List Int) (t3308 : Int × Bool) (x3334 : List Int) (x3335 : Int) (x3336 : Int) : Option ((List Int) × Int) := if (decide (x3336 < t3308.1)) = true then ((f_bits_Writer_Bit_ba5.f x3334 x3335 true) >>= fun t3359 => f_bits_Writer_Count_030.l0 a1 t3220 t3308 t3359.1 t3359.2 (IntKind.i64.wrap (x3336 + (1 : Int)))) else (some (x3334, x3335))
partial_fixpoint
def f_bits_Writer_Count_030.f (a0_c1 : Int) (a1 : Int) : Option ((List Int) × Int) := (f_bits_classes.f) >>= fun t3220 => (f_bits_long.f a1) >>= fun t3306 => (f_slices_BinarySearch_int.f t3220 t3306) >>= fun t3308 => (f_bits_Writer_Count_030.l0 a1 t3220 t3308 [] a0_c1 0) >>= fun oo => match oo with | (x3361, x3362) => (((if (decide (t3308.1 < (IntKind.i64.wrap ((t3220.length : Int) - (1 : Int))))) = true then ((f_bits_Writer_Bit_ba5.f x3361 x3362 false) >>= fun t3366 => some (t3366.1, t3366.2)) else (some (x3361, x3362))) : Option ((List Int) × Int)) >>= fun oo => match oo with | (x3368, x3369) => ((at? t3220 t3308.1) >>= fun b3396 => (f_bits_Writer_Put_ba5.f x3368 x3369 a1 b3396) >>= fun t3399 => some (t3399.1, t3399.2)))
theorem f_bits_Writer_Count_030.ok (a0_c1 : Int) (a1 : Int) (r : (List Int) × Int) (H : f_bits_Writer_Count_030.f a0_c1 a1 = some r) : Pv.Fn Try.prog 88 [.ptr 0 0 0, iV .u64 a1] [(0, some (.box 101 [.none0, iV .u64 a0_c1]))] 1 (fun x o => x = .tup [] ∧ o = [(0, some (.box 101 [.own 1, iV .u64 r.2])), (1, some (.row 1 5 (r.1.map (encInt .u8))))]) := by
  unfold f_bits_Writer_Count_030.f at H
  refine Fn.bodyK [0, 1] Try.func88 rfl rfl (fun Γ hP hn => ?_)
  have hm : Try.prog.follows .mixedOrders = true := by kernel_rfl
  replace hn : Γ.n = 35 := hn
  refine AWp.seq ?_
  obtain ⟨t3220, e3221, H⟩ := bind_of H
  refine reg hP hn hm [(0, .call [] [(0, 1)] [] [1] 0 (.own 0) [(0, some (.row 1 3 (t3220.map (encInt .i64))))])] [0, 1, 4] [0, 1] ⟨[(0, .ptr 0 0 0), (1, iV .u64 a1), (4, .own 1)], [(0, some (.box 101 [.none0, iV .u64 a0_c1])), (1, some (.row 1 3 (t3220.map (encInt .i64))))], 1⟩ [Enters Try.prog 114, Pv.Fn Try.prog 114 [] [] 0 (fun r o => r = .own 0 ∧ o = [(0, some (.row 1 3 (t3220.map (encInt .i64))))])] (by kernel_rfl) ⟨by exact Try.call114, by exact f_bits_classes.ok  t3220 e3221, trivial⟩ ?_
  refine AWp.seq ?_
  obtain ⟨t3306, e3307, H⟩ := bind_of H
  obtain ⟨t3308, e3309, H⟩ := bind_of H
  refine reg hP hn hm [(2, .call [] [] [] [] 0 (iV .i64 t3306) []), (3, .call [] [] [1] [] 0 (.tup [iV .i64 t3308.1, bV t3308.2]) [])] [0, 1, 4, 5] [0, 1] ⟨[(0, .ptr 0 0 0), (1, iV .u64 a1), (4, .own 1), (5, iV .i64 t3308.1)], [(0, some (.box 101 [.none0, iV .u64 a0_c1])), (1, some (.row 1 3 (t3220.map (encInt .i64))))], 1⟩ [Enters Try.prog 116, Pv.Fn Try.prog 116 [iV .u64 a1] [] 0 (fun r o => r = iV .i64 t3306 ∧ o = []), Enters Try.prog 115, Pv.Fn Try.prog 115 [.im (.row (t3220.map (encInt .i64))), iV .i64 t3306] [] 0 (fun r o => r = .tup [iV .i64 t3308.1, bV t3308.2] ∧ o = [])] (by kernel_rfl) ⟨by exact Try.call116, by exact f_bits_long.ok a1 t3306 e3307, by exact Try.call115, by exact f_slices_BinarySearch_int.ok t3220 t3306 t3308 e3309, trivial⟩ ?_
  refine AWp.seq ?_
  refine AWp.seq ?_
  refine reg hP hn hm [] [0, 1, 4, 5, 15, 16] [0, 1] ⟨[(0, .ptr 0 0 0), (1, iV .u64 a1), (4, .own 1), (5, iV .i64 t3308.1), (15, iV .i64 t3308.1), (16, iV .i64 0)], [(0, some (.box 101 [.none0, iV .u64 a0_c1])), (1, some (.row 1 3 (t3220.map (encInt .i64))))], 1⟩ [] (by kernel_rfl) trivial ?_
  refine AWp.block ?_
  obtain ⟨o3401, e3402, H⟩ := bind_of H
  refine AWp.loop (LWp.conv (inv := [(0, 0), (1, 4)]) (vk := []) (e0 := [3]) (t := ⟨[(0, .ptr 0 0 0), (1, iV .u64 a1), (4, .own 4), (5, iV .i64 t3308.1), (15, iV .i64 t3308.1), (16, iV .i64 0)], [(0, some (.box 101 [.own 3, iV .u64 a0_c1])), (3, some (.row 1 5 ([].map (encInt .u8)))), (4, some (.row 1 3 (t3220.map (encInt .i64))))], 1⟩) (by kernel_rfl) ?_)
  refine LWp.mono (Q := fun e s => (match (generalizing := false) o3401 with | (x3361, x3362) => e = .exit 0 ∧ s = ⟨[(0, .ptr 0 0 0), (1, iV .u64 a1), (4, .own 7), (5, iV .i64 t3308.1)], [(0, some (.box 101 [.own 6, iV .u64 x3362])), (6, some (.row 1 5 (x3361.map (encInt .u8)))), (7, some (.row 1 3 (t3220.map (encInt .i64))))], 1⟩)) (LWp.cv (withBody (fun body hbody => ?_))) ?_
  · refine f_bits_Writer_Count_030.l0.partial_correctness a1 t3220 t3308 (motive := fun x3334 x3335 x3336 o3401 => LWp Γ body (fun e s => ∃ t, Cv Γ s t ∧ (match (generalizing := false) o3401 with | (x3361, x3362) => e = .exit 0 ∧ t = ⟨[(0, .ptr 0 0 0), (1, iV .u64 a1), (4, .own 7), (5, iV .i64 t3308.1)], [(0, some (.box 101 [.own 6, iV .u64 x3362])), (6, some (.row 1 5 (x3361.map (encInt .u8)))), (7, some (.row 1 3 (t3220.map (encInt .i64))))], 1⟩)) ⟨[(0, .ptr 0 0 0), (1, iV .u64 a1), (4, .own 4), (5, iV .i64 t3308.1), (15, iV .i64 t3308.1), (16, iV .i64 x3336)], [(0, some (.box 101 [.own 3, iV .u64 x3335])), (3, some (.row 1 5 (x3334.map (encInt .u8)))), (4, some (.row 1 3 (t3220.map (encInt .i64))))], 1⟩) ?_ _ _ _ _ e3402
    clear H e3402 o3401; intro self ih x3334 x3335 x3336 o3401 H
    subst hbody
    refine LWp.round ?_
    refine AWp.seq ?_
    refine reg hP hn hm [] [0, 1, 4, 5, 15, 16, 17] [0, 3, 4] ⟨[(0, .ptr 0 0 0), (1, iV .u64 a1), (4, .own 4), (5, iV .i64 t3308.1), (15, iV .i64 t3308.1), (16, iV .i64 x3336), (17, bV (decide (x3336 < t3308.1)))], [(0, some (.box 101 [.own 3, iV .u64 x3335])), (3, some (.row 1 5 (x3334.map (encInt .u8)))), (4, some (.row 1 3 (t3220.map (encInt .i64))))], 1⟩ [] (by kernel_rfl) trivial ?_
    refine AWp.seq ?_
    refine AWp.cond (decide (x3336 < t3308.1)) rfl (fun c3337 => ?_) (fun c3337 => ?_)
    · replace H := (ifT c3337).symm.trans H
      refine AWp.skip ?_
      refine AWp.seq ?_
      refine AWp.block ?_
      obtain ⟨t3359, e3360, H⟩ := bind_of H
      refine reg hP hn hm [(1, .call [(0, 0), (3, 1)] [(0, 0), (2, 5)] [] [5] 2 (.tup []) [(0, some (.box 101 [.own 2, iV .u64 t3359.2])), (1, none), (2, some (.row 1 5 (t3359.1.map (encInt .u8))))])] [0, 1, 4, 5, 15, 16] [0, 4, 5] ⟨[(0, .ptr 0 0 0), (1, iV .u64 a1), (4, .own 4), (5, iV .i64 t3308.1), (15, iV .i64 t3308.1), (16, iV .i64 x3336)], [(0, some (.box 101 [.own 5, iV .u64 t3359.2])), (4, some (.row 1 3 (t3220.map (encInt .i64)))), (5, some (.row 1 5 (t3359.1.map (encInt .u8))))], 1⟩ [Enters Try.prog 117, Pv.Fn Try.prog 117 [.ptr 0 0 0, bV true] [(0, some (.box 101 [.own 1, iV .u64 x3335])), (1, some (.row 1 5 (x3334.map (encInt .u8))))] 2 (fun r o => r = .tup [] ∧ o = [(0, some (.box 101 [.own 2, iV .u64 t3359.2])), (1, none), (2, some (.row 1 5 (t3359.1.map (encInt .u8))))])] (by kernel_rfl) ⟨by exact Try.call117, by exact f_bits_Writer_Bit_ba5.ok x3334 x3335 true t3359 e3360, trivial⟩ ?_
      refine reg hP hn hm [] [0, 1, 4, 5, 15, 16] [0, 4, 5] ⟨[(0, .ptr 0 0 0), (1, iV .u64 a1), (4, .own 4), (5, iV .i64 t3308.1), (15, iV .i64 t3308.1), (16, iV .i64 (IntKind.i64.wrap (x3336 + (1 : Int))))], [(0, some (.box 101 [.own 5, iV .u64 t3359.2])), (4, some (.row 1 3 (t3220.map (encInt .i64)))), (5, some (.row 1 5 (t3359.1.map (encInt .u8))))], 1⟩ [] (by kernel_rfl) trivial ?_
      exact LWp.conv (inv := [(0, 0), (4, 4), (5, 3)]) (vk := []) (e0 := []) (t := ⟨[(0, .ptr 0 0 0), (1, iV .u64 a1), (4, .own 4), (5, iV .i64 t3308.1), (15, iV .i64 t3308.1), (16, iV .i64 (IntKind.i64.wrap (x3336 + (1 : Int))))], [(0, some (.box 101 [.own 3, iV .u64 t3359.2])), (3, some (.row 1 5 (t3359.1.map (encInt .u8)))), (4, some (.row 1 3 (t3220.map (encInt .i64))))], 1⟩) (by kernel_rfl) (ih _ _ _ _ H)
    · replace H := (ifF c3337).symm.trans H
      refine AWp.exit ?_
      obtain rfl := Option.some.inj H
      exact Exists.intro _ (And.intro (fun _ _ h => h.conv (inv := [(0, 0), (3, 6), (4, 7)]) (vk := []) (e0 := []) (t := ⟨[(0, .ptr 0 0 0), (1, iV .u64 a1), (4, .own 7), (5, iV .i64 t3308.1)], [(0, some (.box 101 [.own 6, iV .u64 x3335])), (6, some (.row 1 5 (x3334.map (encInt .u8)))), (7, some (.row 1 3 (t3220.map (encInt .i64))))], 1⟩) (by kernel_rfl)) (And.intro rfl rfl))
  · obtain ⟨x3361, x3362⟩ := o3401
    rintro e s ⟨rfl, rfl⟩
    refine AWp.seq ?_
    refine AWp.seq ?_
    refine reg hP hn hm [(2, .any (iV .i64 (t3220.length : Int)))] [0, 1, 4, 5, 25] [0, 6, 7] ⟨[(0, .ptr 0 0 0), (1, iV .u64 a1), (4, .own 7), (5, iV .i64 t3308.1), (25, bV (decide (t3308.1 < (IntKind.i64.wrap ((t3220.length : Int) - (1 : Int))))))], [(0, some (.box 101 [.own 6, iV .u64 x3362])), (6, some (.row 1 5 (x3361.map (encInt .u8)))), (7, some (.row 1 3 (t3220.map (encInt .i64))))], 1⟩ [((t3220.map (encInt .i64)).length : Int) = (t3220.length : Int)] (by kernel_rfl) ⟨by rw [len_map], trivial⟩ ?_
    obtain ⟨o3403, e3404, H⟩ := bind_of H
    refine AWp.mono (Q := fun e s => (match (generalizing := false) o3403 with | (x3368, x3369) => e = .normal ∧ s = ⟨[(0, .ptr 0 0 0), (1, iV .u64 a1), (4, .own 10), (5, iV .i64 t3308.1)], [(0, some (.box 101 [.own 9, iV .u64 x3369])), (9, some (.row 1 5 (x3368.map (encInt .u8)))), (10, some (.row 1 3 (t3220.map (encInt .i64))))], 1⟩)) (AWp.cv ?_) ?_
    · replace H := e3404; clear e3404
      refine AWp.cond (decide (t3308.1 < (IntKind.i64.wrap ((t3220.length : Int) - (1 : Int))))) rfl (fun c3363 => ?_) (fun c3363 => ?_)
      · replace H := (ifT c3363).symm.trans H
        obtain ⟨t3366, e3367, H⟩ := bind_of H
        refine reg hP hn hm [(1, .call [(0, 0), (6, 1)] [(0, 0), (2, 8)] [] [8] 2 (.tup []) [(0, some (.box 101 [.own 2, iV .u64 t3366.2])), (1, none), (2, some (.row 1 5 (t3366.1.map (encInt .u8))))])] [0, 1, 4, 5] [0, 7, 8] ⟨[(0, .ptr 0 0 0), (1, iV .u64 a1), (4, .own 7), (5, iV .i64 t3308.1)], [(0, some (.box 101 [.own 8, iV .u64 t3366.2])), (7, some (.row 1 3 (t3220.map (encInt .i64)))), (8, some (.row 1 5 (t3366.1.map (encInt .u8))))], 1⟩ [Enters Try.prog 117, Pv.Fn Try.prog 117 [.ptr 0 0 0, bV false] [(0, some (.box 101 [.own 1, iV .u64 x3362])), (1, some (.row 1 5 (x3361.map (encInt .u8))))] 2 (fun r o => r = .tup [] ∧ o = [(0, some (.box 101 [.own 2, iV .u64 t3366.2])), (1, none), (2, some (.row 1 5 (t3366.1.map (encInt .u8))))])] (by kernel_rfl) ⟨by exact Try.call117, by exact f_bits_Writer_Bit_ba5.ok x3361 x3362 false t3366 e3367, trivial⟩ ?_
        obtain rfl := Option.some.inj H
        exact Exists.intro _ (And.intro (fun _ _ h => h.conv (inv := [(0, 0), (8, 9), (7, 10)]) (vk := []) (e0 := []) (t := ⟨[(0, .ptr 0 0 0), (1, iV .u64 a1), (4, .own 10), (5, iV .i64 t3308.1)], [(0, some (.box 101 [.own 9, iV .u64 t3366.2])), (9, some (.row 1 5 (t3366.1.map (encInt .u8)))), (10, some (.row 1 3 (t3220.map (encInt .i64))))], 1⟩) (by kernel_rfl)) (And.intro rfl rfl))
      · replace H := (ifF c3363).symm.trans H
        refine AWp.skip ?_
        obtain rfl := Option.some.inj H
        exact Exists.intro _ (And.intro (fun _ _ h => h.conv (inv := [(0, 0), (6, 9), (7, 10)]) (vk := []) (e0 := []) (t := ⟨[(0, .ptr 0 0 0), (1, iV .u64 a1), (4, .own 10), (5, iV .i64 t3308.1)], [(0, some (.box 101 [.own 9, iV .u64 x3362])), (9, some (.row 1 5 (x3361.map (encInt .u8)))), (10, some (.row 1 3 (t3220.map (encInt .i64))))], 1⟩) (by kernel_rfl)) (And.intro rfl rfl))
    · obtain ⟨x3368, x3369⟩ := o3403
      rintro e s ⟨rfl, rfl⟩
      obtain ⟨b3396, p3397, q3398, H⟩ := at_of H
      obtain ⟨t3399, e3400, H⟩ := bind_of H
      refine reg hP hn hm [(5, .c ((encInt .i64) b3396)), (6, .call [(0, 0), (9, 1)] [(0, 0), (2, 11)] [] [11] 2 (.tup []) [(0, some (.box 101 [.own 2, iV .u64 t3399.2])), (1, none), (2, some (.row 1 5 (t3399.1.map (encInt .u8))))])] [] [0, 11] ⟨[], [(0, some (.box 101 [.own 11, iV .u64 t3399.2])), (11, some (.row 1 5 (t3399.1.map (encInt .u8))))], 1⟩ [0 ≤ t3308.1, t3308.1 < (((t3220.map (encInt .i64)).length : Nat) : Int), (t3220.map (encInt .i64))[(Int.toNat (t3308.1))]? = some ((encInt .i64) b3396), Enters Try.prog 118, Pv.Fn Try.prog 118 [.ptr 0 0 0, iV .u64 a1, iV .i64 b3396] [(0, some (.box 101 [.own 1, iV .u64 x3369])), (1, some (.row 1 5 (x3368.map (encInt .u8))))] 2 (fun r o => r = .tup [] ∧ o = [(0, some (.box 101 [.own 2, iV .u64 t3399.2])), (1, none), (2, some (.row 1 5 (t3399.1.map (encInt .u8))))])] (by kernel_rfl) ⟨by exact p3397, by exact el_lt (encInt .i64) p3397 q3398, by exact el_map (encInt .i64) q3398, by exact Try.call118, by exact f_bits_Writer_Put_ba5.ok x3368 x3369 a1 b3396 t3399 e3400, trivial⟩ ?_
      obtain rfl := Option.some.inj H
      exact Exists.intro ⟨[], [(0, some (.box 101 [.own 1, iV .u64 t3399.2])), (1, some (.row 1 5 (t3399.1.map (encInt .u8))))], 1⟩ (And.intro (fun _ _ h => h.conv (inv := [(0, 0), (11, 1)]) (vk := []) (e0 := []) (t := ⟨[], [(0, some (.box 101 [.own 1, iV .u64 t3399.2])), (1, some (.row 1 5 (t3399.1.map (encInt .u8))))], 1⟩) (by kernel_rfl)) (And.intro (.inr rfl) (And.intro rfl (And.intro (by kernel_rfl) (by kernel_rfl)))))
def f_bits_Writer_Count_ba5.l0 (a1 : Int) (t3418 : List Int) (t3426 : Int × Bool) (x3433 : List Int) (x3434 : Int) (x3435 : Int) : Option ((List Int) × Int) := if (decide (x3435 < t3426.1)) = true then ((f_bits_Writer_Bit_ba5.f x3433 x3434 true) >>= fun t3439 => f_bits_Writer_Count_ba5.l0 a1 t3418 t3426 t3439.1 t3439.2 (IntKind.i64.wrap (x3435 + (1 : Int)))) else (some (x3433, x3434))
partial_fixpoint
def f_bits_Writer_Count_ba5.f (a0_c0 : List Int) (a0_c1 : Int) (a1 : Int) : Option ((List Int) × Int) := (f_bits_classes.f) >>= fun t3418 => (f_bits_long.f a1) >>= fun t3424 => (f_slices_BinarySearch_int.f t3418 t3424) >>= fun t3426 => (f_bits_Writer_Count_ba5.l0 a1 t3418 t3426 a0_c0 a0_c1 0) >>= fun oo => match oo with | (x3441, x3442) => (((if (decide (t3426.1 < (IntKind.i64.wrap ((t3418.length : Int) - (1 : Int))))) = true then ((f_bits_Writer_Bit_ba5.f x3441 x3442 false) >>= fun t3446 => some (t3446.1, t3446.2)) else (some (x3441, x3442))) : Option ((List Int) × Int)) >>= fun oo => match oo with | (x3448, x3449) => ((at? t3418 t3426.1) >>= fun b3455 => (f_bits_Writer_Put_ba5.f x3448 x3449 a1 b3455) >>= fun t3458 => some (t3458.1, t3458.2)))
theorem f_bits_Writer_Count_ba5.ok (a0_c0 : List Int) (a0_c1 : Int) (a1 : Int) (r : (List Int) × Int) (H : f_bits_Writer_Count_ba5.f a0_c0 a0_c1 a1 = some r) : Pv.Fn Try.prog 88 [.ptr 0 0 0, iV .u64 a1] [(0, some (.box 101 [.own 1, iV .u64 a0_c1])), (1, some (.row 1 5 (a0_c0.map (encInt .u8))))] 2 (fun x o => x = .tup [] ∧ o = [(0, some (.box 101 [.own 2, iV .u64 r.2])), (1, none), (2, some (.row 1 5 (r.1.map (encInt .u8))))]) := by
  unfold f_bits_Writer_Count_ba5.f at H
  refine Fn.bodyK [0, 1, 2] Try.func88 rfl rfl (fun Γ hP hn => ?_)
  have hm : Try.prog.follows .mixedOrders = true := by kernel_rfl
  replace hn : Γ.n = 35 := hn
  refine AWp.seq ?_
  obtain ⟨t3418, e3419, H⟩ := bind_of H
  refine reg hP hn hm [(0, .call [] [(0, 2)] [] [2] 0 (.own 0) [(0, some (.row 1 3 (t3418.map (encInt .i64))))])] [0, 1, 4] [0, 1, 2] ⟨[(0, .ptr 0 0 0), (1, iV .u64 a1), (4, .own 2)], [(0, some (.box 101 [.own 1, iV .u64 a0_c1])), (1, some (.row 1 5 (a0_c0.map (encInt .u8)))), (2, some (.row 1 3 (t3418.map (encInt .i64))))], 2⟩ [Enters Try.prog 114, Pv.Fn Try.prog 114 [] [] 0 (fun r o => r = .own 0 ∧ o = [(0, some (.row 1 3 (t3418.map (encInt .i64))))])] (by kernel_rfl) ⟨by exact Try.call114, by exact f_bits_classes.ok  t3418 e3419, trivial⟩ ?_
  refine AWp.seq ?_
  obtain ⟨t3424, e3425, H⟩ := bind_of H
  obtain ⟨t3426, e3427, H⟩ := bind_of H
  refine reg hP hn hm [(2, .call [] [] [] [] 0 (iV .i64 t3424) []), (3, .call [] [] [2] [] 0 (.tup [iV .i64 t3426.1, bV t3426.2]) [])] [0, 1, 4, 5] [0, 1, 2] ⟨[(0, .ptr 0 0 0), (1, iV .u64 a1), (4, .own 2), (5, iV .i64 t3426.1)], [(0, some (.box 101 [.own 1, iV .u64 a0_c1])), (1, some (.row 1 5 (a0_c0.map (encInt .u8)))), (2, some (.row 1 3 (t3418.map (encInt .i64))))], 2⟩ [Enters Try.prog 116, Pv.Fn Try.prog 116 [iV .u64 a1] [] 0 (fun r o => r = iV .i64 t3424 ∧ o = []), Enters Try.prog 115, Pv.Fn Try.prog 115 [.im (.row (t3418.map (encInt .i64))), iV .i64 t3424] [] 0 (fun r o => r = .tup [iV .i64 t3426.1, bV t3426.2] ∧ o = [])] (by kernel_rfl) ⟨by exact Try.call116, by exact f_bits_long.ok a1 t3424 e3425, by exact Try.call115, by exact f_slices_BinarySearch_int.ok t3418 t3424 t3426 e3427, trivial⟩ ?_
  refine AWp.seq ?_
  refine AWp.seq ?_
  refine reg hP hn hm [] [0, 1, 4, 5, 15, 16] [0, 1, 2] ⟨[(0, .ptr 0 0 0), (1, iV .u64 a1), (4, .own 2), (5, iV .i64 t3426.1), (15, iV .i64 t3426.1), (16, iV .i64 0)], [(0, some (.box 101 [.own 1, iV .u64 a0_c1])), (1, some (.row 1 5 (a0_c0.map (encInt .u8)))), (2, some (.row 1 3 (t3418.map (encInt .i64))))], 2⟩ [] (by kernel_rfl) trivial ?_
  refine AWp.block ?_
  obtain ⟨o3460, e3461, H⟩ := bind_of H
  refine AWp.loop (LWp.conv (inv := [(0, 0), (1, 4), (2, 5)]) (vk := []) (e0 := []) (t := ⟨[(0, .ptr 0 0 0), (1, iV .u64 a1), (4, .own 5), (5, iV .i64 t3426.1), (15, iV .i64 t3426.1), (16, iV .i64 0)], [(0, some (.box 101 [.own 4, iV .u64 a0_c1])), (4, some (.row 1 5 (a0_c0.map (encInt .u8)))), (5, some (.row 1 3 (t3418.map (encInt .i64))))], 2⟩) (by kernel_rfl) ?_)
  refine LWp.mono (Q := fun e s => (match (generalizing := false) o3460 with | (x3441, x3442) => e = .exit 0 ∧ s = ⟨[(0, .ptr 0 0 0), (1, iV .u64 a1), (4, .own 8), (5, iV .i64 t3426.1)], [(0, some (.box 101 [.own 7, iV .u64 x3442])), (7, some (.row 1 5 (x3441.map (encInt .u8)))), (8, some (.row 1 3 (t3418.map (encInt .i64))))], 2⟩)) (LWp.cv (withBody (fun body hbody => ?_))) ?_
  · refine f_bits_Writer_Count_ba5.l0.partial_correctness a1 t3418 t3426 (motive := fun x3433 x3434 x3435 o3460 => LWp Γ body (fun e s => ∃ t, Cv Γ s t ∧ (match (generalizing := false) o3460 with | (x3441, x3442) => e = .exit 0 ∧ t = ⟨[(0, .ptr 0 0 0), (1, iV .u64 a1), (4, .own 8), (5, iV .i64 t3426.1)], [(0, some (.box 101 [.own 7, iV .u64 x3442])), (7, some (.row 1 5 (x3441.map (encInt .u8)))), (8, some (.row 1 3 (t3418.map (encInt .i64))))], 2⟩)) ⟨[(0, .ptr 0 0 0), (1, iV .u64 a1), (4, .own 5), (5, iV .i64 t3426.1), (15, iV .i64 t3426.1), (16, iV .i64 x3435)], [(0, some (.box 101 [.own 4, iV .u64 x3434])), (4, some (.row 1 5 (x3433.map (encInt .u8)))), (5, some (.row 1 3 (t3418.map (encInt .i64))))], 2⟩) ?_ _ _ _ _ e3461
    clear H e3461 o3460; intro self ih x3433 x3434 x3435 o3460 H
    subst hbody
    refine LWp.round ?_
    refine AWp.seq ?_
    refine reg hP hn hm [] [0, 1, 4, 5, 15, 16, 17] [0, 4, 5] ⟨[(0, .ptr 0 0 0), (1, iV .u64 a1), (4, .own 5), (5, iV .i64 t3426.1), (15, iV .i64 t3426.1), (16, iV .i64 x3435), (17, bV (decide (x3435 < t3426.1)))], [(0, some (.box 101 [.own 4, iV .u64 x3434])), (4, some (.row 1 5 (x3433.map (encInt .u8)))), (5, some (.row 1 3 (t3418.map (encInt .i64))))], 2⟩ [] (by kernel_rfl) trivial ?_
    refine AWp.seq ?_
    refine AWp.cond (decide (x3435 < t3426.1)) rfl (fun c3436 => ?_) (fun c3436 => ?_)
    · replace H := (ifT c3436).symm.trans H
      refine AWp.skip ?_
      refine AWp.seq ?_
      refine AWp.block ?_
      obtain ⟨t3439, e3440, H⟩ := bind_of H
      refine reg hP hn hm [(1, .call [(0, 0), (4, 1)] [(0, 0), (2, 6)] [] [6] 2 (.tup []) [(0, some (.box 101 [.own 2, iV .u64 t3439.2])), (1, none), (2, some (.row 1 5 (t3439.1.map (encInt .u8))))])] [0, 1, 4, 5, 15, 16] [0, 5, 6] ⟨[(0, .ptr 0 0 0), (1, iV .u64 a1), (4, .own 5), (5, iV .i64 t3426.1), (15, iV .i64 t3426.1), (16, iV .i64 x3435)], [(0, some (.box 101 [.own 6, iV .u64 t3439.2])), (5, some (.row 1 3 (t3418.map (encInt .i64)))), (6, some (.row 1 5 (t3439.1.map (encInt .u8))))], 2⟩ [Enters Try.prog 117, Pv.Fn Try.prog 117 [.ptr 0 0 0, bV true] [(0, some (.box 101 [.own 1, iV .u64 x3434])), (1, some (.row 1 5 (x3433.map (encInt .u8))))] 2 (fun r o => r = .tup [] ∧ o = [(0, some (.box 101 [.own 2, iV .u64 t3439.2])), (1, none), (2, some (.row 1 5 (t3439.1.map (encInt .u8))))])] (by kernel_rfl) ⟨by exact Try.call117, by exact f_bits_Writer_Bit_ba5.ok x3433 x3434 true t3439 e3440, trivial⟩ ?_
      refine reg hP hn hm [] [0, 1, 4, 5, 15, 16] [0, 5, 6] ⟨[(0, .ptr 0 0 0), (1, iV .u64 a1), (4, .own 5), (5, iV .i64 t3426.1), (15, iV .i64 t3426.1), (16, iV .i64 (IntKind.i64.wrap (x3435 + (1 : Int))))], [(0, some (.box 101 [.own 6, iV .u64 t3439.2])), (5, some (.row 1 3 (t3418.map (encInt .i64)))), (6, some (.row 1 5 (t3439.1.map (encInt .u8))))], 2⟩ [] (by kernel_rfl) trivial ?_
      exact LWp.conv (inv := [(0, 0), (5, 5), (6, 4)]) (vk := []) (e0 := []) (t := ⟨[(0, .ptr 0 0 0), (1, iV .u64 a1), (4, .own 5), (5, iV .i64 t3426.1), (15, iV .i64 t3426.1), (16, iV .i64 (IntKind.i64.wrap (x3435 + (1 : Int))))], [(0, some (.box 101 [.own 4, iV .u64 t3439.2])), (4, some (.row 1 5 (t3439.1.map (encInt .u8)))), (5, some (.row 1 3 (t3418.map (encInt .i64))))], 2⟩) (by kernel_rfl) (ih _ _ _ _ H)
    · replace H := (ifF c3436).symm.trans H
      refine AWp.exit ?_
      obtain rfl := Option.some.inj H
      exact Exists.intro _ (And.intro (fun _ _ h => h.conv (inv := [(0, 0), (4, 7), (5, 8)]) (vk := []) (e0 := []) (t := ⟨[(0, .ptr 0 0 0), (1, iV .u64 a1), (4, .own 8), (5, iV .i64 t3426.1)], [(0, some (.box 101 [.own 7, iV .u64 x3434])), (7, some (.row 1 5 (x3433.map (encInt .u8)))), (8, some (.row 1 3 (t3418.map (encInt .i64))))], 2⟩) (by kernel_rfl)) (And.intro rfl rfl))
  · obtain ⟨x3441, x3442⟩ := o3460
    rintro e s ⟨rfl, rfl⟩
    refine AWp.seq ?_
    refine AWp.seq ?_
    refine reg hP hn hm [(2, .any (iV .i64 (t3418.length : Int)))] [0, 1, 4, 5, 25] [0, 7, 8] ⟨[(0, .ptr 0 0 0), (1, iV .u64 a1), (4, .own 8), (5, iV .i64 t3426.1), (25, bV (decide (t3426.1 < (IntKind.i64.wrap ((t3418.length : Int) - (1 : Int))))))], [(0, some (.box 101 [.own 7, iV .u64 x3442])), (7, some (.row 1 5 (x3441.map (encInt .u8)))), (8, some (.row 1 3 (t3418.map (encInt .i64))))], 2⟩ [((t3418.map (encInt .i64)).length : Int) = (t3418.length : Int)] (by kernel_rfl) ⟨by rw [len_map], trivial⟩ ?_
    obtain ⟨o3462, e3463, H⟩ := bind_of H
    refine AWp.mono (Q := fun e s => (match (generalizing := false) o3462 with | (x3448, x3449) => e = .normal ∧ s = ⟨[(0, .ptr 0 0 0), (1, iV .u64 a1), (4, .own 11), (5, iV .i64 t3426.1)], [(0, some (.box 101 [.own 10, iV .u64 x3449])), (10, some (.row 1 5 (x3448.map (encInt .u8)))), (11, some (.row 1 3 (t3418.map (encInt .i64))))], 2⟩)) (AWp.cv ?_) ?_
    · replace H := e3463; clear e3463
      refine AWp.cond (decide (t3426.1 < (IntKind.i64.wrap ((t3418.length : Int) - (1 : Int))))) rfl (fun c3443 => ?_) (fun c3443 => ?_)
      · replace H := (ifT c3443).symm.trans H
        obtain ⟨t3446, e3447, H⟩ := bind_of H
        refine reg hP hn hm [(1, .call [(0, 0), (7, 1)] [(0, 0), (2, 9)] [] [9] 2 (.tup []) [(0, some (.box 101 [.own 2, iV .u64 t3446.2])), (1, none), (2, some (.row 1 5 (t3446.1.map (encInt .u8))))])] [0, 1, 4, 5] [0, 8, 9] ⟨[(0, .ptr 0 0 0), (1, iV .u64 a1), (4, .own 8), (5, iV .i64 t3426.1)], [(0, some (.box 101 [.own 9, iV .u64 t3446.2])), (8, some (.row 1 3 (t3418.map (encInt .i64)))), (9, some (.row 1 5 (t3446.1.map (encInt .u8))))], 2⟩ [Enters Try.prog 117, Pv.Fn Try.prog 117 [.ptr 0 0 0, bV false] [(0, some (.box 101 [.own 1, iV .u64 x3442])), (1, some (.row 1 5 (x3441.map (encInt .u8))))] 2 (fun r o => r = .tup [] ∧ o = [(0, some (.box 101 [.own 2, iV .u64 t3446.2])), (1, none), (2, some (.row 1 5 (t3446.1.map (encInt .u8))))])] (by kernel_rfl) ⟨by exact Try.call117, by exact f_bits_Writer_Bit_ba5.ok x3441 x3442 false t3446 e3447, trivial⟩ ?_
        obtain rfl := Option.some.inj H
        exact Exists.intro _ (And.intro (fun _ _ h => h.conv (inv := [(0, 0), (9, 10), (8, 11)]) (vk := []) (e0 := []) (t := ⟨[(0, .ptr 0 0 0), (1, iV .u64 a1), (4, .own 11), (5, iV .i64 t3426.1)], [(0, some (.box 101 [.own 10, iV .u64 t3446.2])), (10, some (.row 1 5 (t3446.1.map (encInt .u8)))), (11, some (.row 1 3 (t3418.map (encInt .i64))))], 2⟩) (by kernel_rfl)) (And.intro rfl rfl))
      · replace H := (ifF c3443).symm.trans H
        refine AWp.skip ?_
        obtain rfl := Option.some.inj H
        exact Exists.intro _ (And.intro (fun _ _ h => h.conv (inv := [(0, 0), (7, 10), (8, 11)]) (vk := []) (e0 := []) (t := ⟨[(0, .ptr 0 0 0), (1, iV .u64 a1), (4, .own 11), (5, iV .i64 t3426.1)], [(0, some (.box 101 [.own 10, iV .u64 x3442])), (10, some (.row 1 5 (x3441.map (encInt .u8)))), (11, some (.row 1 3 (t3418.map (encInt .i64))))], 2⟩) (by kernel_rfl)) (And.intro rfl rfl))
    · obtain ⟨x3448, x3449⟩ := o3462
      rintro e s ⟨rfl, rfl⟩
      obtain ⟨b3455, p3456, q3457, H⟩ := at_of H
      obtain ⟨t3458, e3459, H⟩ := bind_of H
      refine reg hP hn hm [(5, .c ((encInt .i64) b3455)), (6, .call [(0, 0), (10, 1)] [(0, 0), (2, 12)] [] [12] 2 (.tup []) [(0, some (.box 101 [.own 2, iV .u64 t3458.2])), (1, none), (2, some (.row 1 5 (t3458.1.map (encInt .u8))))])] [] [0, 12] ⟨[], [(0, some (.box 101 [.own 12, iV .u64 t3458.2])), (12, some (.row 1 5 (t3458.1.map (encInt .u8))))], 2⟩ [0 ≤ t3426.1, t3426.1 < (((t3418.map (encInt .i64)).length : Nat) : Int), (t3418.map (encInt .i64))[(Int.toNat (t3426.1))]? = some ((encInt .i64) b3455), Enters Try.prog 118, Pv.Fn Try.prog 118 [.ptr 0 0 0, iV .u64 a1, iV .i64 b3455] [(0, some (.box 101 [.own 1, iV .u64 x3449])), (1, some (.row 1 5 (x3448.map (encInt .u8))))] 2 (fun r o => r = .tup [] ∧ o = [(0, some (.box 101 [.own 2, iV .u64 t3458.2])), (1, none), (2, some (.row 1 5 (t3458.1.map (encInt .u8))))])] (by kernel_rfl) ⟨by exact p3456, by exact el_lt (encInt .i64) p3456 q3457, by exact el_map (encInt .i64) q3457, by exact Try.call118, by exact f_bits_Writer_Put_ba5.ok x3448 x3449 a1 b3455 t3458 e3459, trivial⟩ ?_
      obtain rfl := Option.some.inj H
      exact Exists.intro ⟨[], [(0, some (.box 101 [.own 2, iV .u64 t3458.2])), (2, some (.row 1 5 (t3458.1.map (encInt .u8))))], 2⟩ (And.intro (fun _ _ h => h.conv (inv := [(0, 0), (12, 2)]) (vk := []) (e0 := []) (t := ⟨[], [(0, some (.box 101 [.own 2, iV .u64 t3458.2])), (2, some (.row 1 5 (t3458.1.map (encInt .u8))))], 2⟩) (by kernel_rfl)) (And.intro (.inr rfl) (And.intro rfl (And.intro (by kernel_rfl) (by kernel_rfl)))))
def f_tomb_Set_Lay_2b3.l0 (a0 : Ttomb_Set) (x3472 : List Int) (x3473 : Int) (x3474 : Int) (x3475 : Int) : Option ((List Int) × Int) := if (decide (x3475 < (a0.f0.length : Int))) = true then ((at? a0.f0 x3475) >>= fun b3480 => (f_bits_Writer_Count_ba5.f x3472 x3473 (IntKind.u64.wrap (IntKind.i64.wrap (b3480.f0 - x3474)))) >>= fun t3485 => (f_bits_Writer_Count_ba5.f t3485.1 t3485.2 (IntKind.u64.wrap (IntKind.i64.wrap (b3480.f1 - b3480.f0)))) >>= fun t3489 => f_tomb_Set_Lay_2b3.l0 a0 t3489.1 t3489.2 (IntKind.i64.wrap (b3480.f1 + (2 : Int))) (IntKind.i64.wrap (x3475 + (1 : Int)))) else (some (x3472, x3473))
partial_fixpoint
def f_tomb_Set_Lay_2b3.f (a0 : Ttomb_Set) (a1_c1 : Int) : Option ((List Int) × Int) := (f_bits_Writer_Count_030.f a1_c1 (IntKind.u64.wrap ((a0.f0.length : Int)))) >>= fun t3407 => (f_tomb_Set_Lay_2b3.l0 a0 t3407.1 t3407.2 0 0) >>= fun oo => match oo with | (x3491, x3492) => (some (x3491, x3492))
theorem f_tomb_Set_Lay_2b3.ok (a0 : Ttomb_Set) (a1_c1 : Int) (r : (List Int) × Int) (H : f_tomb_Set_Lay_2b3.f a0 a1_c1 = some r) : Pv.Fn Try.prog 46 [.agg [.im (.row (a0.f0.map etomb_Range))], .ptr 0 0 0] [(0, some (.box 101 [.none0, iV .u64 a1_c1]))] 1 (fun x o => x = .tup [] ∧ o = [(0, some (.box 101 [.own 1, iV .u64 r.2])), (1, some (.row 1 5 (r.1.map (encInt .u8))))]) := by
  unfold f_tomb_Set_Lay_2b3.f at H
  refine Fn.bodyK [0, 1] Try.func46 rfl rfl (fun Γ hP hn => ?_)
  have hm : Try.prog.follows .mixedOrders = true := by kernel_rfl
  replace hn : Γ.n = 39 := hn
  refine AWp.seq ?_
  refine reg hP hn hm [(0, .k 1)] [1, 2] [0, 1] ⟨[(1, .ptr 0 0 0), (2, .ptr 1 0 0)], [(0, some (.box 101 [.none0, iV .u64 a1_c1])), (1, some (.box 27 [.im (.row (a0.f0.map etomb_Range))]))], 1⟩ [] (by kernel_rfl) trivial ?_
  refine AWp.seq ?_
  obtain ⟨t3407, e3408, H⟩ := bind_of H
  refine reg hP hn hm [(3, .any (iV .i64 (a0.f0.length : Int))), (5, .call [(0, 0)] [(0, 0), (1, 2)] [] [2] 1 (.tup []) [(0, some (.box 101 [.own 1, iV .u64 t3407.2])), (1, some (.row 1 5 (t3407.1.map (encInt .u8))))])] [1, 2] [0, 1, 2] ⟨[(1, .ptr 0 0 0), (2, .ptr 1 0 0)], [(0, some (.box 101 [.own 2, iV .u64 t3407.2])), (1, some (.box 27 [.im (.row (a0.f0.map etomb_Range))])), (2, some (.row 1 5 (t3407.1.map (encInt .u8))))], 1⟩ [((a0.f0.map etomb_Range).length : Int) = (a0.f0.length : Int), Enters Try.prog 88, Pv.Fn Try.prog 88 [.ptr 0 0 0, iV .u64 (IntKind.u64.wrap ((a0.f0.length : Int)))] [(0, some (.box 101 [.none0, iV .u64 a1_c1]))] 1 (fun r o => r = .tup [] ∧ o = [(0, some (.box 101 [.own 1, iV .u64 t3407.2])), (1, some (.row 1 5 (t3407.1.map (encInt .u8))))])] (by kernel_rfl) ⟨by rw [len_map], by exact Try.call88, by exact f_bits_Writer_Count_030.ok a1_c1 (IntKind.u64.wrap ((a0.f0.length : Int))) t3407 e3408, trivial⟩ ?_
  refine AWp.seq ?_
  refine reg hP hn hm [] [1, 2, 4] [0, 1, 2] ⟨[(1, .ptr 0 0 0), (2, .ptr 1 0 0), (4, iV .i64 0)], [(0, some (.box 101 [.own 2, iV .u64 t3407.2])), (1, some (.box 27 [.im (.row (a0.f0.map etomb_Range))])), (2, some (.row 1 5 (t3407.1.map (encInt .u8))))], 1⟩ [] (by kernel_rfl) trivial ?_
  refine AWp.seq ?_
  refine reg hP hn hm [(2, .any (iV .i64 (a0.f0.length : Int)))] [1, 4, 14, 15, 16] [0, 2] ⟨[(1, .ptr 0 0 0), (4, iV .i64 0), (14, .im (.row (a0.f0.map etomb_Range))), (15, iV .i64 (a0.f0.length : Int)), (16, iV .i64 0)], [(0, some (.box 101 [.own 2, iV .u64 t3407.2])), (2, some (.row 1 5 (t3407.1.map (encInt .u8))))], 1⟩ [((a0.f0.map etomb_Range).length : Int) = (a0.f0.length : Int)] (by kernel_rfl) ⟨by rw [len_map], trivial⟩ ?_
  refine AWp.block ?_
  obtain ⟨o3493, e3494, H⟩ := bind_of H
  refine AWp.loop (LWp.conv (inv := [(0, 0), (2, 6)]) (vk := []) (e0 := []) (t := ⟨[(1, .ptr 0 0 0), (4, iV .i64 0), (14, .im (.row (a0.f0.map etomb_Range))), (15, iV .i64 (a0.f0.length : Int)), (16, iV .i64 0)], [(0, some (.box 101 [.own 6, iV .u64 t3407.2])), (6, some (.row 1 5 (t3407.1.map (encInt .u8))))], 1⟩) (by kernel_rfl) ?_)
  refine LWp.mono (Q := fun e s => (match (generalizing := false) o3493 with | (x3491, x3492) => e = .exit 0 ∧ s = ⟨[], [(0, some (.box 101 [.own 10, iV .u64 x3492])), (10, some (.row 1 5 (x3491.map (encInt .u8))))], 1⟩)) (LWp.cv (withBody (fun body hbody => ?_))) ?_
  · refine f_tomb_Set_Lay_2b3.l0.partial_correctness a0 (motive := fun x3472 x3473 x3474 x3475 o3493 => LWp Γ body (fun e s => ∃ t, Cv Γ s t ∧ (match (generalizing := false) o3493 with | (x3491, x3492) => e = .exit 0 ∧ t = ⟨[], [(0, some (.box 101 [.own 10, iV .u64 x3492])), (10, some (.row 1 5 (x3491.map (encInt .u8))))], 1⟩)) ⟨[(1, .ptr 0 0 0), (4, iV .i64 x3474), (14, .im (.row (a0.f0.map etomb_Range))), (15, iV .i64 (a0.f0.length : Int)), (16, iV .i64 x3475)], [(0, some (.box 101 [.own 6, iV .u64 x3473])), (6, some (.row 1 5 (x3472.map (encInt .u8))))], 1⟩) ?_ _ _ _ _ _ e3494
    clear H e3494 o3493; intro self ih x3472 x3473 x3474 x3475 o3493 H
    subst hbody
    refine LWp.round ?_
    refine AWp.seq ?_
    refine reg hP hn hm [] [1, 4, 14, 15, 16, 17] [0, 6] ⟨[(1, .ptr 0 0 0), (4, iV .i64 x3474), (14, .im (.row (a0.f0.map etomb_Range))), (15, iV .i64 (a0.f0.length : Int)), (16, iV .i64 x3475), (17, bV (decide (x3475 < (a0.f0.length : Int))))], [(0, some (.box 101 [.own 6, iV .u64 x3473])), (6, some (.row 1 5 (x3472.map (encInt .u8))))], 1⟩ [] (by kernel_rfl) trivial ?_
    refine AWp.seq ?_
    refine AWp.cond (decide (x3475 < (a0.f0.length : Int))) rfl (fun c3476 => ?_) (fun c3476 => ?_)
    · replace H := (ifT c3476).symm.trans H
      refine AWp.skip ?_
      refine AWp.seq ?_
      refine AWp.block ?_
      refine AWp.seq ?_
      obtain ⟨b3480, p3481, q3482, H⟩ := at_of H
      refine reg hP hn hm [(0, .c (etomb_Range b3480)), (2, .k 7)] [1, 4, 6, 14, 15, 16] [0, 6, 7] ⟨[(1, .ptr 0 0 0), (4, iV .i64 x3474), (6, .ptr 7 0 0), (14, .im (.row (a0.f0.map etomb_Range))), (15, iV .i64 (a0.f0.length : Int)), (16, iV .i64 x3475)], [(0, some (.box 101 [.own 6, iV .u64 x3473])), (6, some (.row 1 5 (x3472.map (encInt .u8)))), (7, some (.box 64 (atomb_Range b3480)))], 1⟩ [0 ≤ x3475, (a0.f0.map etomb_Range)[(Int.toNat (x3475))]? = some (etomb_Range b3480)] (by kernel_rfl) ⟨by exact p3481, by exact el_map etomb_Range q3482, trivial⟩ ?_
      refine AWp.seq ?_
      obtain ⟨t3485, e3486, H⟩ := bind_of H
      refine reg hP hn hm [(6, .call [(0, 0), (6, 1)] [(0, 0), (2, 8)] [] [8] 2 (.tup []) [(0, some (.box 101 [.own 2, iV .u64 t3485.2])), (1, none), (2, some (.row 1 5 (t3485.1.map (encInt .u8))))])] [1, 6, 14, 15, 16] [0, 7, 8] ⟨[(1, .ptr 0 0 0), (6, .ptr 7 0 0), (14, .im (.row (a0.f0.map etomb_Range))), (15, iV .i64 (a0.f0.length : Int)), (16, iV .i64 x3475)], [(0, some (.box 101 [.own 8, iV .u64 t3485.2])), (7, some (.box 64 (atomb_Range b3480))), (8, some (.row 1 5 (t3485.1.map (encInt .u8))))], 1⟩ [Enters Try.prog 88, Pv.Fn Try.prog 88 [.ptr 0 0 0, iV .u64 (IntKind.u64.wrap (IntKind.i64.wrap (b3480.f0 - x3474)))] [(0, some (.box 101 [.own 1, iV .u64 x3473])), (1, some (.row 1 5 (x3472.map (encInt .u8))))] 2 (fun r o => r = .tup [] ∧ o = [(0, some (.box 101 [.own 2, iV .u64 t3485.2])), (1, none), (2, some (.row 1 5 (t3485.1.map (encInt .u8))))])] (by kernel_rfl) ⟨by exact Try.call88, by exact f_bits_Writer_Count_ba5.ok x3472 x3473 (IntKind.u64.wrap (IntKind.i64.wrap (b3480.f0 - x3474))) t3485 e3486, trivial⟩ ?_
      refine AWp.seq ?_
      obtain ⟨t3489, e3490, H⟩ := bind_of H
      refine reg hP hn hm [(7, .call [(0, 0), (8, 1)] [(0, 0), (2, 9)] [] [9] 2 (.tup []) [(0, some (.box 101 [.own 2, iV .u64 t3489.2])), (1, none), (2, some (.row 1 5 (t3489.1.map (encInt .u8))))])] [1, 6, 14, 15, 16] [0, 7, 9] ⟨[(1, .ptr 0 0 0), (6, .ptr 7 0 0), (14, .im (.row (a0.f0.map etomb_Range))), (15, iV .i64 (a0.f0.length : Int)), (16, iV .i64 x3475)], [(0, some (.box 101 [.own 9, iV .u64 t3489.2])), (7, some (.box 64 (atomb_Range b3480))), (9, some (.row 1 5 (t3489.1.map (encInt .u8))))], 1⟩ [Enters Try.prog 88, Pv.Fn Try.prog 88 [.ptr 0 0 0, iV .u64 (IntKind.u64.wrap (IntKind.i64.wrap (b3480.f1 - b3480.f0)))] [(0, some (.box 101 [.own 1, iV .u64 t3485.2])), (1, some (.row 1 5 (t3485.1.map (encInt .u8))))] 2 (fun r o => r = .tup [] ∧ o = [(0, some (.box 101 [.own 2, iV .u64 t3489.2])), (1, none), (2, some (.row 1 5 (t3489.1.map (encInt .u8))))])] (by kernel_rfl) ⟨by exact Try.call88, by exact f_bits_Writer_Count_ba5.ok t3485.1 t3485.2 (IntKind.u64.wrap (IntKind.i64.wrap (b3480.f1 - b3480.f0))) t3489 e3490, trivial⟩ ?_
      refine reg hP hn hm [] [1, 4, 14, 15, 16] [0, 9] ⟨[(1, .ptr 0 0 0), (4, iV .i64 (IntKind.i64.wrap (b3480.f1 + (2 : Int)))), (14, .im (.row (a0.f0.map etomb_Range))), (15, iV .i64 (a0.f0.length : Int)), (16, iV .i64 x3475)], [(0, some (.box 101 [.own 9, iV .u64 t3489.2])), (9, some (.row 1 5 (t3489.1.map (encInt .u8))))], 1⟩ [] (by kernel_rfl) trivial ?_
      refine reg hP hn hm [] [1, 4, 14, 15, 16] [0, 9] ⟨[(1, .ptr 0 0 0), (4, iV .i64 (IntKind.i64.wrap (b3480.f1 + (2 : Int)))), (14, .im (.row (a0.f0.map etomb_Range))), (15, iV .i64 (a0.f0.length : Int)), (16, iV .i64 (IntKind.i64.wrap (x3475 + (1 : Int))))], [(0, some (.box 101 [.own 9, iV .u64 t3489.2])), (9, some (.row 1 5 (t3489.1.map (encInt .u8))))], 1⟩ [] (by kernel_rfl) trivial ?_
      exact LWp.conv (inv := [(0, 0), (9, 6)]) (vk := []) (e0 := []) (t := ⟨[(1, .ptr 0 0 0), (4, iV .i64 (IntKind.i64.wrap (b3480.f1 + (2 : Int)))), (14, .im (.row (a0.f0.map etomb_Range))), (15, iV .i64 (a0.f0.length : Int)), (16, iV .i64 (IntKind.i64.wrap (x3475 + (1 : Int))))], [(0, some (.box 101 [.own 6, iV .u64 t3489.2])), (6, some (.row 1 5 (t3489.1.map (encInt .u8))))], 1⟩) (by kernel_rfl) (ih _ _ _ _ _ H)
    · replace H := (ifF c3476).symm.trans H
      refine AWp.exit ?_
      obtain rfl := Option.some.inj H
      exact Exists.intro _ (And.intro (fun _ _ h => h.conv (inv := [(0, 0), (6, 10)]) (vk := []) (e0 := []) (t := ⟨[], [(0, some (.box 101 [.own 10, iV .u64 x3473])), (10, some (.row 1 5 (x3472.map (encInt .u8))))], 1⟩) (by kernel_rfl)) (And.intro rfl rfl))
  · obtain ⟨x3491, x3492⟩ := o3493
    rintro e s ⟨rfl, rfl⟩
    obtain rfl := Option.some.inj H
    exact Exists.intro ⟨[], [(0, some (.box 101 [.own 1, iV .u64 x3492])), (1, some (.row 1 5 (x3491.map (encInt .u8))))], 1⟩ (And.intro (fun _ _ h => h.conv (inv := [(0, 0), (10, 1)]) (vk := []) (e0 := []) (t := ⟨[], [(0, some (.box 101 [.own 1, iV .u64 x3492])), (1, some (.row 1 5 (x3491.map (encInt .u8))))], 1⟩) (by kernel_rfl)) (And.intro (.inr rfl) (And.intro rfl (And.intro (by kernel_rfl) (by kernel_rfl)))))
def f_slices_Clone_byte.f (a0 : List Int) : Option (List Int) := (chk ((([] : List Int).length + a0.length) * 1 ≤ 140737488355328)) >>= fun _ => some a0
theorem f_slices_Clone_byte.ok (a0 r : List Int) (H : f_slices_Clone_byte.f a0 = some r) : Pv.Fn Try.prog 89 [.im (.row (a0.map (encInt .u8)))] [] 0 (fun x o => x = .own 0 ∧ o = [(0, some (.row 1 5 (r.map (encInt .u8))))]) := by
  unfold f_slices_Clone_byte.f at H
  obtain ⟨c1, H⟩ := chk_of H
  obtain rfl := Option.some.inj H
  refine Fn.bodyK [0] Try.func89 rfl rfl (fun Γ hP hn => ?_)
  have hm : Try.prog.follows .mixedOrders = true := by kernel_rfl
  replace hn : Γ.n = 8 := hn
  refine AWp.seq ?_
  refine reg hP hn hm [] [0, 2] [] ⟨[(0, .im (.row (a0.map (encInt .u8)))), (2, .none0)], [], 0⟩ [] (by kernel_rfl) trivial ?_
  refine AWp.seq ?_
  cases a0 with
  | nil =>
    refine AWp.nilSplit 0 rfl (fun b m => ?_)
    refine AWp.seq ?_
    cases b with
    | none =>
      refine reg hP hn hm [(1, .more xNil)] [2, 4] [] ⟨[(2, .none0), (4, bV true)], [], 0⟩ [] (by kernel_rfl) trivial ?_
      refine AWp.cond true rfl (fun _ => ?_) (fun h => nomatch h)
      refine AWp.seq ?_
      refine reg hP hn hm [] [2] [] ⟨[(2, .none0)], [], 0⟩ [] (by kernel_rfl) trivial ?_
      refine AWp.conv (inv := []) (vk := []) (e0 := [0]) (t := ⟨[(2, .own 0)], [(0, some (.row 1 5 []))], 0⟩) (by kernel_rfl) ?_
      refine AWp.ret ?_
      exact Exists.intro _ (And.intro (fun _ _ h => h) (And.intro (.inl rfl) (And.intro rfl (And.intro (by kernel_rfl) (by kernel_rfl)))))
    | some b =>
      refine reg hP hn hm [(1, .more xNil)] [0, 2, 4] [] ⟨[(0, .im (.sc (.slice (some b) 0 m))), (2, .none0), (4, bV false)], [], 0⟩ [] (by kernel_rfl) trivial ?_
      refine AWp.cond false rfl (fun h => nomatch h) (fun _ => ?_)
      refine AWp.skip ?_
      refine AWp.unsplit 0 rfl ?_
      refine AWp.seq ?_
      refine reg hP hn hm [(0, .app 0 ([] : List (List Im))), (2, .app 1 (([] : List Int).map (encInt .u8)))] [2] [1] ⟨[(2, .own 1)], [(1, some (.row 1 5 (([] : List Int).map (encInt .u8))))], 0⟩ [([] : List (List Im)) = [], ([] : List Int).map (encInt .u8) = ([] : List (List Im)) ++ ([] : List Int).map (encInt .u8), ∀ c ∈ ([] : List Int).map (encInt .u8), c.length = 1, ∀ c ∈ ([] : List Int).map (encInt .u8), leaves (c.map .im) = true, (([] : List (List Im)).length + (([] : List Int).map (encInt .u8)).length) * 1 ≤ 140737488355328] (by kernel_rfl) ⟨rfl, by simp, by exact all_len _ _ _ (fun _ => rfl), by exact all_leaf _ _ (fun _ => rfl), by simpa using c1, trivial⟩ ?_
      refine AWp.conv (inv := [(1, 0)]) (vk := []) (e0 := []) (t := ⟨[(2, .own 0)], [(0, some (.row 1 5 (([] : List Int).map (encInt .u8))))], 0⟩) (by kernel_rfl) ?_
      refine AWp.ret ?_
      exact Exists.intro _ (And.intro (fun _ _ h => h) (And.intro (.inl rfl) (And.intro rfl (And.intro (by kernel_rfl) (by kernel_rfl)))))
  | cons y l =>
    refine AWp.seq ?_
    refine reg hP hn hm [(1, .more xNil)] [0, 2, 4] [] ⟨[(0, .im (.row ((y :: l).map (encInt .u8)))), (2, .none0), (4, bV false)], [], 0⟩ [] (by kernel_rfl) trivial ?_
    refine AWp.cond false rfl (fun h => nomatch h) (fun _ => ?_)
    refine AWp.skip ?_
    refine AWp.seq ?_
    refine reg hP hn hm [(0, .app 0 ([] : List (List Im))), (2, .app 1 ((y :: l).map (encInt .u8)))] [2] [1] ⟨[(2, .own 1)], [(1, some (.row 1 5 ((y :: l).map (encInt .u8))))], 0⟩ [([] : List (List Im)) = [], (y :: l).map (encInt .u8) = ([] : List (List Im)) ++ (y :: l).map (encInt .u8), ∀ c ∈ (y :: l).map (encInt .u8), c.length = 1, ∀ c ∈ (y :: l).map (encInt .u8), leaves (c.map .im) = true, (([] : List (List Im)).length + ((y :: l).map (encInt .u8)).length) * 1 ≤ 140737488355328] (by kernel_rfl) ⟨rfl, by simp, by exact all_len _ _ _ (fun _ => rfl), by exact all_leaf _ _ (fun _ => rfl), by simpa using c1, trivial⟩ ?_
    refine AWp.conv (inv := [(1, 0)]) (vk := []) (e0 := []) (t := ⟨[(2, .own 0)], [(0, some (.row 1 5 ((y :: l).map (encInt .u8))))], 0⟩) (by kernel_rfl) ?_
    refine AWp.ret ?_
    exact Exists.intro _ (And.intro (fun _ _ h => h) (And.intro (.inl rfl) (And.intro rfl (And.intro (by kernel_rfl) (by kernel_rfl)))))
def f_bits_Writer_Bytes_ba5.f (a0_c0 : List Int) (a0_c1 : Int) : Option (List Int) := (f_slices_Clone_byte.f a0_c0) >>= fun t3505 => some t3505
theorem f_bits_Writer_Bytes_ba5.ok (a0_c0 : List Int) (a0_c1 : Int) (r : List Int) (H : f_bits_Writer_Bytes_ba5.f a0_c0 a0_c1 = some r) : Pv.Fn Try.prog 47 [.ptr 0 0 0] [(0, some (.box 101 [.own 1, iV .u64 a0_c1])), (1, some (.row 1 5 (a0_c0.map (encInt .u8))))] 2 (fun x o => x = .own 2 ∧ o = [(0, some (.box 101 (abits_Writer ⟨a0_c0, a0_c1⟩))), (1, none), (2, some (.row 1 5 (r.map (encInt .u8))))]) := by
  unfold f_bits_Writer_Bytes_ba5.f at H
  refine Fn.bodyK [0, 1, 2] Try.func47 rfl rfl (fun Γ hP hn => ?_)
  have hm : Try.prog.follows .mixedOrders = true := by kernel_rfl
  replace hn : Γ.n = 8 := hn
  refine AWp.seq ?_
  refine reg hP hn hm [] [0] [0, 1] ⟨[(0, .ptr 0 0 0)], [(0, some (.box 101 [.own 1, iV .u64 a0_c1])), (1, some (.row 1 5 (a0_c0.map (encInt .u8))))], 2⟩ [] (by kernel_rfl) trivial ?_
  refine AWp.seq ?_
  refine AWp.conv (inv := [(0, 0)]) (vk := [1]) (e0 := []) (t := ⟨[(0, .ptr 0 0 0)], [(0, some (.box 101 (abits_Writer ⟨a0_c0, a0_c1⟩)))], 2⟩) (by kernel_rfl) ?_
  obtain ⟨t3505, e3506, H⟩ := bind_of H
  refine reg hP hn hm [(4, .call [] [(0, 2)] [] [2] 0 (.own 0) [(0, some (.row 1 5 (t3505.map (encInt .u8))))])] [2] [0, 2] ⟨[(2, .own 2)], [(0, some (.box 101 (abits_Writer ⟨a0_c0, a0_c1⟩))), (2, some (.row 1 5 (t3505.map (encInt .u8))))], 2⟩ [Enters Try.prog 89, Pv.Fn Try.prog 89 [.im (.row (a0_c0.map (encInt .u8)))] [] 0 (fun r o => r = .own 0 ∧ o = [(0, some (.row 1 5 (t3505.map (encInt .u8))))])] (by kernel_rfl) ⟨by exact Try.call89, by exact f_slices_Clone_byte.ok a0_c0 t3505 e3506, trivial⟩ ?_
  refine AWp.conv (inv := [(0, 0), (2, 2)]) (vk := []) (e0 := []) (t := ⟨[(2, .own 2)], [(0, some (.box 101 (abits_Writer ⟨a0_c0, a0_c1⟩))), (2, some (.row 1 5 (t3505.map (encInt .u8))))], 2⟩) (by kernel_rfl) ?_
  refine AWp.ret ?_
  obtain rfl := Option.some.inj H
  exact Exists.intro _ (And.intro (fun _ _ h => h) (And.intro (.inl rfl) (And.intro rfl (And.intro (by kernel_rfl) (by kernel_rfl)))))
def f_pluvialref02_class.l0 (x3514 : Int) (x3515 : Int) : Option (Int) := if (decide (x3514 > (0 : Int))) = true then (f_pluvialref02_class.l0  (IntKind.u64.wrap (Int.tdiv x3514 (2 : Int))) (IntKind.i64.wrap (x3515 + (1 : Int)))) else (some x3515)
partial_fixpoint
def f_pluvialref02_class.l1 (x3517 : Int) (x3525 : Int) : Option (Int) := (at? [0, 3, 7, 12, 20, 32, 64] x3525) >>= fun b3529 => if (decide (b3529 < x3517)) = true then (f_pluvialref02_class.l1 x3517 (IntKind.i64.wrap (x3525 + (1 : Int)))) else (some x3525)
partial_fixpoint
def f_pluvialref02_class.f (a0 : Int) : Option (Int × Int) := (f_pluvialref02_class.l0  a0 0) >>= fun x3517 => (f_pluvialref02_class.l1 x3517 0) >>= fun x3533 => (at? [0, 3, 7, 12, 20, 32, 64] x3533) >>= fun b3537 => some (x3533, b3537)
theorem f_pluvialref02_class.ok (a0 : Int) (r : Int × Int) (H : f_pluvialref02_class.f a0 = some r) : Pv.Fn Try.prog 86 [iV .u64 a0] [] 0 (fun x o => x = .tup [iV .i64 r.1, iV .i64 r.2] ∧ o = []) := by
  unfold f_pluvialref02_class.f at H
  refine Fn.bodyK [] Try.func86 rfl rfl (fun Γ hP hn => ?_)
  have hm : Try.prog.follows .mixedOrders = true := by kernel_rfl
  replace hn : Γ.n = 27 := hn
  refine AWp.seq ?_
  refine reg hP hn hm [] [0] [] ⟨[(0, iV .u64 a0)], [], 0⟩ [] (by kernel_rfl) trivial ?_
  refine AWp.seq ?_
  refine reg hP hn hm [] [0, 4] [] ⟨[(0, iV .u64 a0), (4, iV .i64 0)], [], 0⟩ [] (by kernel_rfl) trivial ?_
  refine AWp.seq ?_
  refine AWp.block ?_
  obtain ⟨o3540, e3541, H⟩ := bind_of H
  refine AWp.loop (LWp.conv (inv := []) (vk := []) (e0 := []) (t := ⟨[(0, iV .u64 a0), (4, iV .i64 0)], [], 0⟩) (by kernel_rfl) ?_)
  refine LWp.mono (Q := fun e s => (match (generalizing := false) o3540 with | x3517 => e = .exit 0 ∧ s = ⟨[(4, iV .i64 x3517)], [], 0⟩)) (LWp.cv (withBody (fun body hbody => ?_))) ?_
  · refine f_pluvialref02_class.l0.partial_correctness  (motive := fun x3514 x3515 o3540 => LWp Γ body (fun e s => ∃ t, Cv Γ s t ∧ (match (generalizing := false) o3540 with | x3517 => e = .exit 0 ∧ t = ⟨[(4, iV .i64 x3517)], [], 0⟩)) ⟨[(0, iV .u64 x3514), (4, iV .i64 x3515)], [], 0⟩) ?_ _ _ _ e3541
    clear H e3541 o3540; intro self ih x3514 x3515 o3540 H
    subst hbody
    refine LWp.round ?_
    refine AWp.seq ?_
    refine AWp.seq ?_
    refine reg hP hn hm [] [0, 4, 8] [] ⟨[(0, iV .u64 x3514), (4, iV .i64 x3515), (8, bV (decide (x3514 > (0 : Int))))], [], 0⟩ [] (by kernel_rfl) trivial ?_
    refine AWp.cond (decide (x3514 > (0 : Int))) rfl (fun c3516 => ?_) (fun c3516 => ?_)
    · replace H := (ifT c3516).symm.trans H
      refine AWp.skip ?_
      refine AWp.block ?_
      refine AWp.seq ?_
      refine reg hP hn hm [] [0, 4] [] ⟨[(0, iV .u64 (IntKind.u64.wrap (Int.tdiv x3514 (2 : Int)))), (4, iV .i64 x3515)], [], 0⟩ [(2 : Int) ≠ 0] (by kernel_rfl) ⟨by decide, trivial⟩ ?_
      refine reg hP hn hm [] [0, 4] [] ⟨[(0, iV .u64 (IntKind.u64.wrap (Int.tdiv x3514 (2 : Int)))), (4, iV .i64 (IntKind.i64.wrap (x3515 + (1 : Int))))], [], 0⟩ [] (by kernel_rfl) trivial ?_
      exact LWp.conv (inv := []) (vk := []) (e0 := []) (t := ⟨[(0, iV .u64 (IntKind.u64.wrap (Int.tdiv x3514 (2 : Int)))), (4, iV .i64 (IntKind.i64.wrap (x3515 + (1 : Int))))], [], 0⟩) (by kernel_rfl) (ih _ _ _ H)
    · replace H := (ifF c3516).symm.trans H
      refine AWp.exit ?_
      obtain rfl := Option.some.inj H
      exact Exists.intro _ (And.intro (fun _ _ h => h.conv (inv := []) (vk := []) (e0 := []) (t := ⟨[(4, iV .i64 x3515)], [], 0⟩) (by kernel_rfl)) (And.intro rfl rfl))
  · obtain ⟨x3517, rfl⟩ : ∃ z, z = o3540 := ⟨_, rfl⟩
    rintro e s ⟨rfl, rfl⟩
    refine AWp.seq ?_
    refine reg hP hn hm [(0, .app 0 ([0, 3, 7, 12, 20, 32, 64].map (encInt .i64)))] [4, 5] [0] ⟨[(4, iV .i64 x3517), (5, .own 0)], [(0, some (.row 1 3 ([0, 3, 7, 12, 20, 32, 64].map (encInt .i64))))], 0⟩ [[0, 3, 7, 12, 20, 32, 64].map (encInt .i64) = [[iI .i64 0], [iI .i64 3], [iI .i64 7], [iI .i64 12], [iI .i64 20], [iI .i64 32], [iI .i64 64]]] (by kernel_rfl) ⟨by exact rfl, trivial⟩ ?_
    refine AWp.seq ?_
    refine reg hP hn hm [] [4, 5, 6] [0] ⟨[(4, iV .i64 x3517), (5, .own 0), (6, iV .i64 0)], [(0, some (.row 1 3 ([0, 3, 7, 12, 20, 32, 64].map (encInt .i64))))], 0⟩ [] (by kernel_rfl) trivial ?_
    refine AWp.seq ?_
    refine AWp.block ?_
    obtain ⟨o3542, e3543, H⟩ := bind_of H
    refine AWp.loop (LWp.conv (inv := [(0, 1)]) (vk := []) (e0 := []) (t := ⟨[(4, iV .i64 x3517), (5, .own 1), (6, iV .i64 0)], [(1, some (.row 1 3 ([0, 3, 7, 12, 20, 32, 64].map (encInt .i64))))], 0⟩) (by kernel_rfl) ?_)
    refine LWp.mono (Q := fun e s => (match (generalizing := false) o3542 with | x3533 => e = .exit 2 ∧ s = ⟨[(5, .own 2), (6, iV .i64 x3533)], [(2, some (.row 1 3 ([0, 3, 7, 12, 20, 32, 64].map (encInt .i64))))], 0⟩)) (LWp.cv (withBody (fun body hbody => ?_))) ?_
    · refine f_pluvialref02_class.l1.partial_correctness x3517 (motive := fun x3525 o3542 => LWp Γ body (fun e s => ∃ t, Cv Γ s t ∧ (match (generalizing := false) o3542 with | x3533 => e = .exit 2 ∧ t = ⟨[(5, .own 2), (6, iV .i64 x3533)], [(2, some (.row 1 3 ([0, 3, 7, 12, 20, 32, 64].map (encInt .i64))))], 0⟩)) ⟨[(4, iV .i64 x3517), (5, .own 1), (6, iV .i64 x3525)], [(1, some (.row 1 3 ([0, 3, 7, 12, 20, 32, 64].map (encInt .i64))))], 0⟩) ?_ _ _ e3543
      clear H e3543 o3542; intro self ih x3525 o3542 H
      subst hbody
      refine LWp.round ?_
      refine AWp.seq ?_
      refine AWp.seq ?_
      obtain ⟨b3529, p3530, q3531, H⟩ := at_of H
      refine reg hP hn hm [(3, .c ((encInt .i64) b3529))] [4, 5, 6, 19] [1] ⟨[(4, iV .i64 x3517), (5, .own 1), (6, iV .i64 x3525), (19, bV (decide (b3529 < x3517)))], [(1, some (.row 1 3 ([0, 3, 7, 12, 20, 32, 64].map (encInt .i64))))], 0⟩ [0 ≤ x3525, x3525 < ((([0, 3, 7, 12, 20, 32, 64].map (encInt .i64)).length : Nat) : Int), ([0, 3, 7, 12, 20, 32, 64].map (encInt .i64))[(Int.toNat (x3525))]? = some ((encInt .i64) b3529)] (by kernel_rfl) ⟨by exact p3530, by exact el_lt (encInt .i64) p3530 q3531, by exact el_map (encInt .i64) q3531, trivial⟩ ?_
      refine AWp.cond (decide (b3529 < x3517)) rfl (fun c3532 => ?_) (fun c3532 => ?_)
      · replace H := (ifT c3532).symm.trans H
        refine AWp.skip ?_
        refine AWp.block ?_
        refine reg hP hn hm [] [4, 5, 6] [1] ⟨[(4, iV .i64 x3517), (5, .own 1), (6, iV .i64 (IntKind.i64.wrap (x3525 + (1 : Int))))], [(1, some (.row 1 3 ([0, 3, 7, 12, 20, 32, 64].map (encInt .i64))))], 0⟩ [] (by kernel_rfl) trivial ?_
        exact LWp.conv (inv := [(1, 1)]) (vk := []) (e0 := []) (t := ⟨[(4, iV .i64 x3517), (5, .own 1), (6, iV .i64 (IntKind.i64.wrap (x3525 + (1 : Int))))], [(1, some (.row 1 3 ([0, 3, 7, 12, 20, 32, 64].map (encInt .i64))))], 0⟩) (by kernel_rfl) (ih _ _ H)
      · replace H := (ifF c3532).symm.trans H
        refine AWp.exit ?_
        obtain rfl := Option.some.inj H
        exact Exists.intro _ (And.intro (fun _ _ h => h.conv (inv := [(1, 2)]) (vk := []) (e0 := []) (t := ⟨[(5, .own 2), (6, iV .i64 x3525)], [(2, some (.row 1 3 ([0, 3, 7, 12, 20, 32, 64].map (encInt .i64))))], 0⟩) (by kernel_rfl)) (And.intro rfl rfl))
    · obtain ⟨x3533, rfl⟩ : ∃ z, z = o3542 := ⟨_, rfl⟩
      rintro e s ⟨rfl, rfl⟩
      refine AWp.seq ?_
      obtain ⟨b3537, p3538, q3539, H⟩ := at_of H
      refine reg hP hn hm [(4, .c ((encInt .i64) b3537))] [2, 3] [] ⟨[(2, iV .i64 x3533), (3, iV .i64 b3537)], [], 0⟩ [0 ≤ x3533, x3533 < ((([0, 3, 7, 12, 20, 32, 64].map (encInt .i64)).length : Nat) : Int), ([0, 3, 7, 12, 20, 32, 64].map (encInt .i64))[(Int.toNat (x3533))]? = some ((encInt .i64) b3537)] (by kernel_rfl) ⟨by exact p3538, by exact el_lt (encInt .i64) p3538 q3539, by exact el_map (encInt .i64) q3539, trivial⟩ ?_
      refine AWp.conv (inv := []) (vk := []) (e0 := []) (t := ⟨[(2, iV .i64 x3533), (3, iV .i64 b3537)], [], 0⟩) (by kernel_rfl) ?_
      refine AWp.ret ?_
      obtain rfl := Option.some.inj H
      exact Exists.intro _ (And.intro (fun _ _ h => h) (And.intro (.inl rfl) (And.intro rfl (And.intro (by kernel_rfl) (by kernel_rfl)))))
def f_pluvialref02_Put.l0 (a1 : Int) (x3571 : Int) (x3572 : ByteArray) (x3573 : Int) : Option (ByteArray) := ((if (decide (x3573 < a1)) = true then (some (decide (x3573 < (64 : Int)))) else (some false)) : Option (Bool)) >>= fun x3576 => if x3576 = true then (((if ((Int.tmod x3571 (2 : Int)) == (1 : Int)) = true then ((chk ((((⟨#[49]⟩ : ByteArray).size + x3572.size : Nat) : Int) ≤ 9223372036854775807)) >>= fun _ => some ((⟨#[49]⟩ : ByteArray) ++ x3572)) else ((chk ((((⟨#[48]⟩ : ByteArray).size + x3572.size : Nat) : Int) ≤ 9223372036854775807)) >>= fun _ => some ((⟨#[48]⟩ : ByteArray) ++ x3572))) : Option (ByteArray)) >>= fun x3583 => f_pluvialref02_Put.l0 a1 (IntKind.u64.wrap (Int.tdiv x3571 (2 : Int))) x3583 (IntKind.i64.wrap (x3573 + (1 : Int)))) else (some x3572)
partial_fixpoint
def f_pluvialref02_Put.f (a0 : Int) (a1 : Int) : Option (ByteArray) := (f_pluvialref02_Put.l0 a1 a0 (⟨#[]⟩ : ByteArray) 0) >>= fun x3584 => some x3584
theorem f_pluvialref02_Put.ok (a0 : Int) (a1 : Int) (r : ByteArray) (H : f_pluvialref02_Put.f a0 a1 = some r) : Pv.Fn Try.prog 87 [iV .u64 a0, iV .i64 a1] [] 0 (fun x o => x = sV r ∧ o = []) := by
  unfold f_pluvialref02_Put.f at H
  refine Fn.bodyK [] Try.func87 rfl rfl (fun Γ hP hn => ?_)
  have hm : Try.prog.follows .mixedOrders = true := by kernel_rfl
  replace hn : Γ.n = 26 := hn
  refine AWp.seq ?_
  refine reg hP hn hm [] [0, 1] [] ⟨[(0, iV .u64 a0), (1, iV .i64 a1)], [], 0⟩ [] (by kernel_rfl) trivial ?_
  refine AWp.seq ?_
  refine reg hP hn hm [] [0, 1, 5] [] ⟨[(0, iV .u64 a0), (1, iV .i64 a1), (5, sV (⟨#[]⟩ : ByteArray))], [], 0⟩ [] (by kernel_rfl) trivial ?_
  refine AWp.seq ?_
  refine AWp.seq ?_
  refine reg hP hn hm [] [0, 1, 5, 6] [] ⟨[(0, iV .u64 a0), (1, iV .i64 a1), (5, sV (⟨#[]⟩ : ByteArray)), (6, iV .i64 0)], [], 0⟩ [] (by kernel_rfl) trivial ?_
  refine AWp.block ?_
  obtain ⟨o3585, e3586, H⟩ := bind_of H
  refine AWp.loop (LWp.conv (inv := []) (vk := []) (e0 := []) (t := ⟨[(0, iV .u64 a0), (1, iV .i64 a1), (5, sV (⟨#[]⟩ : ByteArray)), (6, iV .i64 0)], [], 0⟩) (by kernel_rfl) ?_)
  refine LWp.mono (Q := fun e s => (match (generalizing := false) o3585 with | x3584 => e = .exit 0 ∧ s = ⟨[(5, sV x3584)], [], 0⟩)) (LWp.cv (withBody (fun body hbody => ?_))) ?_
  · refine f_pluvialref02_Put.l0.partial_correctness a1 (motive := fun x3571 x3572 x3573 o3585 => LWp Γ body (fun e s => ∃ t, Cv Γ s t ∧ (match (generalizing := false) o3585 with | x3584 => e = .exit 0 ∧ t = ⟨[(5, sV x3584)], [], 0⟩)) ⟨[(0, iV .u64 x3571), (1, iV .i64 a1), (5, sV x3572), (6, iV .i64 x3573)], [], 0⟩) ?_ _ _ _ _ e3586
    clear H e3586 o3585; intro self ih x3571 x3572 x3573 o3585 H
    subst hbody
    refine LWp.round ?_
    refine AWp.seq ?_
    refine AWp.seq ?_
    obtain ⟨o3587, e3588, H⟩ := bind_of H
    refine AWp.mono (Q := fun e s => (match (generalizing := false) o3587 with | x3576 => e = .normal ∧ s = ⟨[(0, iV .u64 x3571), (1, iV .i64 a1), (5, sV x3572), (6, iV .i64 x3573), (13, bV x3576)], [], 0⟩)) (AWp.cv ?_) ?_
    · replace H := e3588; clear e3588
      rcases Bool.eq_false_or_eq_true (decide (x3573 < a1)) with c3575 | c3575
      · replace H := (ifT c3575).symm.trans H
        refine reg hP hn hm [(3, .b true)] [0, 1, 5, 6, 11, 12, 13] [] ⟨[(0, iV .u64 x3571), (1, iV .i64 a1), (5, sV x3572), (6, iV .i64 x3573), (11, iV .i64 x3573), (12, bV (decide (x3573 < (64 : Int)))), (13, bV (decide (x3573 < (64 : Int))))], [], 0⟩ [(decide (x3573 < a1)) = true] (by kernel_rfl) ⟨by exact c3575, trivial⟩ ?_
        obtain rfl := Option.some.inj H
        exact Exists.intro _ (And.intro (fun _ _ h => h.conv (inv := []) (vk := []) (e0 := []) (t := ⟨[(0, iV .u64 x3571), (1, iV .i64 a1), (5, sV x3572), (6, iV .i64 x3573), (13, bV (decide (x3573 < (64 : Int))))], [], 0⟩) (by kernel_rfl)) (And.intro rfl rfl))
      · replace H := (ifF c3575).symm.trans H
        refine reg hP hn hm [(3, .b false)] [0, 1, 5, 6, 13] [] ⟨[(0, iV .u64 x3571), (1, iV .i64 a1), (5, sV x3572), (6, iV .i64 x3573), (13, bV false)], [], 0⟩ [(decide (x3573 < a1)) = false] (by kernel_rfl) ⟨by exact c3575, trivial⟩ ?_
        obtain rfl := Option.some.inj H
        exact Exists.intro _ (And.intro (fun _ _ h => h.conv (inv := []) (vk := []) (e0 := []) (t := ⟨[(0, iV .u64 x3571), (1, iV .i64 a1), (5, sV x3572), (6, iV .i64 x3573), (13, bV false)], [], 0⟩) (by kernel_rfl)) (And.intro rfl rfl))
    · obtain ⟨x3576, rfl⟩ : ∃ z, z = o3587 := ⟨_, rfl⟩
      rintro e s ⟨rfl, rfl⟩
      refine AWp.cond x3576 rfl (fun c3577 => ?_) (fun c3577 => ?_)
      · replace H := (ifT c3577).symm.trans H
        refine AWp.skip ?_
        refine AWp.seq ?_
        refine AWp.block ?_
        refine AWp.seq ?_
        refine AWp.seq ?_
        refine reg hP hn hm [] [0, 1, 5, 6, 18] [] ⟨[(0, iV .u64 x3571), (1, iV .i64 a1), (5, sV x3572), (6, iV .i64 x3573), (18, bV ((Int.tmod x3571 (2 : Int)) == (1 : Int)))], [], 0⟩ [(2 : Int) ≠ 0] (by kernel_rfl) ⟨by decide, trivial⟩ ?_
        obtain ⟨o3589, e3590, H⟩ := bind_of H
        refine AWp.mono (Q := fun e s => (match (generalizing := false) o3589 with | x3583 => e = .normal ∧ s = ⟨[(0, iV .u64 x3571), (1, iV .i64 a1), (5, sV x3583), (6, iV .i64 x3573)], [], 0⟩)) (AWp.cv ?_) ?_
        · replace H := e3590; clear e3590
          refine AWp.cond ((Int.tmod x3571 (2 : Int)) == (1 : Int)) rfl (fun c3578 => ?_) (fun c3578 => ?_)
          · replace H := (ifT c3578).symm.trans H
            obtain ⟨c3580, H⟩ := chk_of H
            refine reg hP hn hm [] [0, 1, 5, 6] [] ⟨[(0, iV .u64 x3571), (1, iV .i64 a1), (5, sV ((⟨#[49]⟩ : ByteArray) ++ x3572)), (6, iV .i64 x3573)], [], 0⟩ [(((⟨#[49]⟩ : ByteArray).size + x3572.size : Nat) : Int) ≤ 9223372036854775807] (by kernel_rfl) ⟨by exact c3580, trivial⟩ ?_
            obtain rfl := Option.some.inj H
            exact Exists.intro _ (And.intro (fun _ _ h => h.conv (inv := []) (vk := []) (e0 := []) (t := ⟨[(0, iV .u64 x3571), (1, iV .i64 a1), (5, sV ((⟨#[49]⟩ : ByteArray) ++ x3572)), (6, iV .i64 x3573)], [], 0⟩) (by kernel_rfl)) (And.intro rfl rfl))
          · replace H := (ifF c3578).symm.trans H
            obtain ⟨c3582, H⟩ := chk_of H
            refine reg hP hn hm [] [0, 1, 5, 6] [] ⟨[(0, iV .u64 x3571), (1, iV .i64 a1), (5, sV ((⟨#[48]⟩ : ByteArray) ++ x3572)), (6, iV .i64 x3573)], [], 0⟩ [(((⟨#[48]⟩ : ByteArray).size + x3572.size : Nat) : Int) ≤ 9223372036854775807] (by kernel_rfl) ⟨by exact c3582, trivial⟩ ?_
            obtain rfl := Option.some.inj H
            exact Exists.intro _ (And.intro (fun _ _ h => h.conv (inv := []) (vk := []) (e0 := []) (t := ⟨[(0, iV .u64 x3571), (1, iV .i64 a1), (5, sV ((⟨#[48]⟩ : ByteArray) ++ x3572)), (6, iV .i64 x3573)], [], 0⟩) (by kernel_rfl)) (And.intro rfl rfl))
        · obtain ⟨x3583, rfl⟩ : ∃ z, z = o3589 := ⟨_, rfl⟩
          rintro e s ⟨rfl, rfl⟩
          refine reg hP hn hm [] [0, 1, 5, 6] [] ⟨[(0, iV .u64 (IntKind.u64.wrap (Int.tdiv x3571 (2 : Int)))), (1, iV .i64 a1), (5, sV x3583), (6, iV .i64 x3573)], [], 0⟩ [(2 : Int) ≠ 0] (by kernel_rfl) ⟨by decide, trivial⟩ ?_
          refine reg hP hn hm [] [0, 1, 5, 6] [] ⟨[(0, iV .u64 (IntKind.u64.wrap (Int.tdiv x3571 (2 : Int)))), (1, iV .i64 a1), (5, sV x3583), (6, iV .i64 (IntKind.i64.wrap (x3573 + (1 : Int))))], [], 0⟩ [] (by kernel_rfl) trivial ?_
          exact LWp.conv (inv := []) (vk := []) (e0 := []) (t := ⟨[(0, iV .u64 (IntKind.u64.wrap (Int.tdiv x3571 (2 : Int)))), (1, iV .i64 a1), (5, sV x3583), (6, iV .i64 (IntKind.i64.wrap (x3573 + (1 : Int))))], [], 0⟩) (by kernel_rfl) (ih _ _ _ _ H)
      · replace H := (ifF c3577).symm.trans H
        refine AWp.exit ?_
        obtain rfl := Option.some.inj H
        exact Exists.intro _ (And.intro (fun _ _ h => h.conv (inv := []) (vk := []) (e0 := []) (t := ⟨[(5, sV x3572)], [], 0⟩) (by kernel_rfl)) (And.intro rfl rfl))
  · obtain ⟨x3584, rfl⟩ : ∃ z, z = o3585 := ⟨_, rfl⟩
    rintro e s ⟨rfl, rfl⟩
    refine AWp.seq ?_
    refine reg hP hn hm [] [4] [] ⟨[(4, sV x3584)], [], 0⟩ [] (by kernel_rfl) trivial ?_
    refine AWp.conv (inv := []) (vk := []) (e0 := []) (t := ⟨[(4, sV x3584)], [], 0⟩) (by kernel_rfl) ?_
    refine AWp.ret ?_
    obtain rfl := Option.some.inj H
    exact Exists.intro _ (And.intro (fun _ _ h => h) (And.intro (.inl rfl) (And.intro rfl (And.intro (by kernel_rfl) (by kernel_rfl)))))
def f_pluvialref02_Count.l0 (a0 : Int) (t3546 : Int × Int) (x3551 : ByteArray) (x3552 : Int) : Option (ByteArray) := if (decide (x3552 < t3546.1)) = true then ((chk (((x3551.size + (⟨#[49]⟩ : ByteArray).size : Nat) : Int) ≤ 9223372036854775807)) >>= fun _ => f_pluvialref02_Count.l0 a0 t3546 (x3551 ++ (⟨#[49]⟩ : ByteArray)) (IntKind.i64.wrap (x3552 + (1 : Int)))) else (some x3551)
partial_fixpoint
def f_pluvialref02_Count.f (a0 : Int) : Option (ByteArray) := (f_pluvialref02_class.f a0) >>= fun t3546 => (f_pluvialref02_Count.l0 a0 t3546 (⟨#[]⟩ : ByteArray) 0) >>= fun x3556 => ((if (decide (t3546.1 < (6 : Int))) = true then ((chk (((x3556.size + (⟨#[48]⟩ : ByteArray).size : Nat) : Int) ≤ 9223372036854775807)) >>= fun _ => some (x3556 ++ (⟨#[48]⟩ : ByteArray))) else (some x3556)) : Option (ByteArray)) >>= fun x3560 => (f_pluvialref02_Put.f a0 t3546.2) >>= fun t3594 => (chk (((x3560.size + t3594.size : Nat) : Int) ≤ 9223372036854775807)) >>= fun _ => some (x3560 ++ t3594)
theorem f_pluvialref02_Count.ok (a0 : Int) (r : ByteArray) (H : f_pluvialref02_Count.f a0 = some r) : Pv.Fn Try.prog 45 [iV .u64 a0] [] 0 (fun x o => x = sV r ∧ o = []) := by
  unfold f_pluvialref02_Count.f at H
  refine Fn.bodyK [] Try.func45 rfl rfl (fun Γ hP hn => ?_)
  have hm : Try.prog.follows .mixedOrders = true := by kernel_rfl
  replace hn : Γ.n = 28 := hn
  refine AWp.seq ?_
  refine reg hP hn hm [] [0] [] ⟨[(0, iV .u64 a0)], [], 0⟩ [] (by kernel_rfl) trivial ?_
  refine AWp.seq ?_
  obtain ⟨t3546, e3547, H⟩ := bind_of H
  refine reg hP hn hm [(1, .call [] [] [] [] 0 (.tup [iV .i64 t3546.1, iV .i64 t3546.2]) [])] [0, 3, 4] [] ⟨[(0, iV .u64 a0), (3, iV .i64 t3546.1), (4, iV .i64 t3546.2)], [], 0⟩ [Enters Try.prog 86, Pv.Fn Try.prog 86 [iV .u64 a0] [] 0 (fun r o => r = .tup [iV .i64 t3546.1, iV .i64 t3546.2] ∧ o = [])] (by kernel_rfl) ⟨by exact Try.call86, by exact f_pluvialref02_class.ok a0 t3546 e3547, trivial⟩ ?_
  refine AWp.seq ?_
  refine reg hP hn hm [] [0, 3, 4, 5] [] ⟨[(0, iV .u64 a0), (3, iV .i64 t3546.1), (4, iV .i64 t3546.2), (5, sV (⟨#[]⟩ : ByteArray))], [], 0⟩ [] (by kernel_rfl) trivial ?_
  refine AWp.seq ?_
  refine AWp.seq ?_
  refine reg hP hn hm [] [0, 3, 4, 5, 6] [] ⟨[(0, iV .u64 a0), (3, iV .i64 t3546.1), (4, iV .i64 t3546.2), (5, sV (⟨#[]⟩ : ByteArray)), (6, iV .i64 0)], [], 0⟩ [] (by kernel_rfl) trivial ?_
  refine AWp.block ?_
  obtain ⟨o3597, e3598, H⟩ := bind_of H
  refine AWp.loop (LWp.conv (inv := []) (vk := []) (e0 := []) (t := ⟨[(0, iV .u64 a0), (3, iV .i64 t3546.1), (4, iV .i64 t3546.2), (5, sV (⟨#[]⟩ : ByteArray)), (6, iV .i64 0)], [], 0⟩) (by kernel_rfl) ?_)
  refine LWp.mono (Q := fun e s => (match (generalizing := false) o3597 with | x3556 => e = .exit 0 ∧ s = ⟨[(0, iV .u64 a0), (3, iV .i64 t3546.1), (4, iV .i64 t3546.2), (5, sV x3556)], [], 0⟩)) (LWp.cv (withBody (fun body hbody => ?_))) ?_
  · refine f_pluvialref02_Count.l0.partial_correctness a0 t3546 (motive := fun x3551 x3552 o3597 => LWp Γ body (fun e s => ∃ t, Cv Γ s t ∧ (match (generalizing := false) o3597 with | x3556 => e = .exit 0 ∧ t = ⟨[(0, iV .u64 a0), (3, iV .i64 t3546.1), (4, iV .i64 t3546.2), (5, sV x3556)], [], 0⟩)) ⟨[(0, iV .u64 a0), (3, iV .i64 t3546.1), (4, iV .i64 t3546.2), (5, sV x3551), (6, iV .i64 x3552)], [], 0⟩) ?_ _ _ _ e3598
    clear H e3598 o3597; intro self ih x3551 x3552 o3597 H
    subst hbody
    refine LWp.round ?_
    refine AWp.seq ?_
    refine AWp.seq ?_
    refine reg hP hn hm [] [0, 3, 4, 5, 6, 14] [] ⟨[(0, iV .u64 a0), (3, iV .i64 t3546.1), (4, iV .i64 t3546.2), (5, sV x3551), (6, iV .i64 x3552), (14, bV (decide (x3552 < t3546.1)))], [], 0⟩ [] (by kernel_rfl) trivial ?_
    refine AWp.cond (decide (x3552 < t3546.1)) rfl (fun c3553 => ?_) (fun c3553 => ?_)
    · replace H := (ifT c3553).symm.trans H
      refine AWp.skip ?_
      refine AWp.seq ?_
      refine AWp.block ?_
      obtain ⟨c3555, H⟩ := chk_of H
      refine reg hP hn hm [] [0, 3, 4, 5, 6] [] ⟨[(0, iV .u64 a0), (3, iV .i64 t3546.1), (4, iV .i64 t3546.2), (5, sV (x3551 ++ (⟨#[49]⟩ : ByteArray))), (6, iV .i64 x3552)], [], 0⟩ [((x3551.size + (⟨#[49]⟩ : ByteArray).size : Nat) : Int) ≤ 9223372036854775807] (by kernel_rfl) ⟨by exact c3555, trivial⟩ ?_
      refine reg hP hn hm [] [0, 3, 4, 5, 6] [] ⟨[(0, iV .u64 a0), (3, iV .i64 t3546.1), (4, iV .i64 t3546.2), (5, sV (x3551 ++ (⟨#[49]⟩ : ByteArray))), (6, iV .i64 (IntKind.i64.wrap (x3552 + (1 : Int))))], [], 0⟩ [] (by kernel_rfl) trivial ?_
      exact LWp.conv (inv := []) (vk := []) (e0 := []) (t := ⟨[(0, iV .u64 a0), (3, iV .i64 t3546.1), (4, iV .i64 t3546.2), (5, sV (x3551 ++ (⟨#[49]⟩ : ByteArray))), (6, iV .i64 (IntKind.i64.wrap (x3552 + (1 : Int))))], [], 0⟩) (by kernel_rfl) (ih _ _ _ H)
    · replace H := (ifF c3553).symm.trans H
      refine AWp.exit ?_
      obtain rfl := Option.some.inj H
      exact Exists.intro _ (And.intro (fun _ _ h => h.conv (inv := []) (vk := []) (e0 := []) (t := ⟨[(0, iV .u64 a0), (3, iV .i64 t3546.1), (4, iV .i64 t3546.2), (5, sV x3551)], [], 0⟩) (by kernel_rfl)) (And.intro rfl rfl))
  · obtain ⟨x3556, rfl⟩ : ∃ z, z = o3597 := ⟨_, rfl⟩
    rintro e s ⟨rfl, rfl⟩
    refine AWp.seq ?_
    refine AWp.seq ?_
    refine reg hP hn hm [] [0, 4, 5, 20] [] ⟨[(0, iV .u64 a0), (4, iV .i64 t3546.2), (5, sV x3556), (20, bV (decide (t3546.1 < (6 : Int))))], [], 0⟩ [] (by kernel_rfl) trivial ?_
    obtain ⟨o3599, e3600, H⟩ := bind_of H
    refine AWp.mono (Q := fun e s => (match (generalizing := false) o3599 with | x3560 => e = .normal ∧ s = ⟨[(0, iV .u64 a0), (4, iV .i64 t3546.2), (5, sV x3560)], [], 0⟩)) (AWp.cv ?_) ?_
    · replace H := e3600; clear e3600
      refine AWp.cond (decide (t3546.1 < (6 : Int))) rfl (fun c3557 => ?_) (fun c3557 => ?_)
      · replace H := (ifT c3557).symm.trans H
        obtain ⟨c3559, H⟩ := chk_of H
        refine reg hP hn hm [] [0, 4, 5] [] ⟨[(0, iV .u64 a0), (4, iV .i64 t3546.2), (5, sV (x3556 ++ (⟨#[48]⟩ : ByteArray)))], [], 0⟩ [((x3556.size + (⟨#[48]⟩ : ByteArray).size : Nat) : Int) ≤ 9223372036854775807] (by kernel_rfl) ⟨by exact c3559, trivial⟩ ?_
        obtain rfl := Option.some.inj H
        exact Exists.intro _ (And.intro (fun _ _ h => h.conv (inv := []) (vk := []) (e0 := []) (t := ⟨[(0, iV .u64 a0), (4, iV .i64 t3546.2), (5, sV (x3556 ++ (⟨#[48]⟩ : ByteArray)))], [], 0⟩) (by kernel_rfl)) (And.intro rfl rfl))
      · replace H := (ifF c3557).symm.trans H
        refine AWp.skip ?_
        obtain rfl := Option.some.inj H
        exact Exists.intro _ (And.intro (fun _ _ h => h.conv (inv := []) (vk := []) (e0 := []) (t := ⟨[(0, iV .u64 a0), (4, iV .i64 t3546.2), (5, sV x3556)], [], 0⟩) (by kernel_rfl)) (And.intro rfl rfl))
    · obtain ⟨x3560, rfl⟩ : ∃ z, z = o3599 := ⟨_, rfl⟩
      rintro e s ⟨rfl, rfl⟩
      refine AWp.seq ?_
      obtain ⟨t3594, e3595, H⟩ := bind_of H
      obtain ⟨c3596, H⟩ := chk_of H
      refine reg hP hn hm [(3, .call [] [] [] [] 0 (sV t3594) [])] [2] [] ⟨[(2, sV (x3560 ++ t3594))], [], 0⟩ [Enters Try.prog 87, Pv.Fn Try.prog 87 [iV .u64 a0, iV .i64 t3546.2] [] 0 (fun r o => r = sV t3594 ∧ o = []), ((x3560.size + t3594.size : Nat) : Int) ≤ 9223372036854775807] (by kernel_rfl) ⟨by exact Try.call87, by exact f_pluvialref02_Put.ok a0 t3546.2 t3594 e3595, by exact c3596, trivial⟩ ?_
      refine AWp.conv (inv := []) (vk := []) (e0 := []) (t := ⟨[(2, sV (x3560 ++ t3594))], [], 0⟩) (by kernel_rfl) ?_
      refine AWp.ret ?_
      obtain rfl := Option.some.inj H
      exact Exists.intro _ (And.intro (fun _ _ h => h) (And.intro (.inl rfl) (And.intro rfl (And.intro (by kernel_rfl) (by kernel_rfl)))))
def f_pluviallaw14_TombLays_1.l0 (t3511 : List Ttomb_Range) (x3624 : ByteArray) (x3625 : Int) (x3626 : Int) : Option (ByteArray) := if (decide (x3626 < (t3511.length : Int))) = true then ((at? t3511 x3626) >>= fun b3631 => (f_pluvialref02_Count.f (IntKind.u64.wrap (IntKind.i64.wrap (b3631.f0 - x3625)))) >>= fun t3640 => (f_pluvialref02_Count.f (IntKind.u64.wrap (IntKind.i64.wrap (b3631.f1 - b3631.f0)))) >>= fun t3642 => (chk (((t3640.size + t3642.size : Nat) : Int) ≤ 9223372036854775807)) >>= fun _ => (chk (((x3624.size + (t3640 ++ t3642).size : Nat) : Int) ≤ 9223372036854775807)) >>= fun _ => f_pluviallaw14_TombLays_1.l0 t3511 (x3624 ++ (t3640 ++ t3642)) (IntKind.i64.wrap (b3631.f1 + (2 : Int))) (IntKind.i64.wrap (x3626 + (1 : Int)))) else (some x3624)
partial_fixpoint
def f_pluviallaw14_TombLays_1.f (a0 : Ttomb_Set) : Option (ByteArray) := (f_tomb_Set_Ranges.f a0) >>= fun t3511 => (f_pluvialref02_Count.f (IntKind.u64.wrap ((t3511.length : Int)))) >>= fun t3603 => (f_pluviallaw14_TombLays_1.l0 t3511 t3603 0 0) >>= fun x3646 => some x3646
theorem f_pluviallaw14_TombLays_1.ok (a0 : Ttomb_Set) (r : ByteArray) (H : f_pluviallaw14_TombLays_1.f a0 = some r) : Pv.Fn Try.prog 44 [.agg [.im (.row (a0.f0.map etomb_Range))]] [] 0 (fun x o => x = sV r ∧ o = []) := by
  unfold f_pluviallaw14_TombLays_1.f at H
  refine Fn.bodyK [] Try.func44 rfl rfl (fun Γ hP hn => ?_)
  have hm : Try.prog.follows .mixedOrders = true := by kernel_rfl
  replace hn : Γ.n = 41 := hn
  refine AWp.seq ?_
  refine reg hP hn hm [(0, .k 0)] [1] [0] ⟨[(1, .ptr 0 0 0)], [(0, some (.box 27 [.im (.row (a0.f0.map etomb_Range))]))], 0⟩ [] (by kernel_rfl) trivial ?_
  refine AWp.seq ?_
  obtain ⟨t3511, e3512, H⟩ := bind_of H
  refine reg hP hn hm [(1, .call [] [(0, 1)] [] [1] 0 (.own 0) [(0, some (.row 2 64 (t3511.map etomb_Range)))])] [3] [1] ⟨[(3, .own 1)], [(1, some (.row 2 64 (t3511.map etomb_Range)))], 0⟩ [Enters Try.prog 31, Pv.Fn Try.prog 31 [.agg [.im (.row (a0.f0.map etomb_Range))]] [] 0 (fun r o => r = .own 0 ∧ o = [(0, some (.row 2 64 (t3511.map etomb_Range)))])] (by kernel_rfl) ⟨by exact Try.call31, by exact f_tomb_Set_Ranges.ok a0 t3511 e3512, trivial⟩ ?_
  refine AWp.seq ?_
  obtain ⟨t3603, e3604, H⟩ := bind_of H
  refine reg hP hn hm [(1, .any (iV .i64 (t3511.length : Int))), (3, .call [] [] [] [] 0 (sV t3603) [])] [3, 4] [1] ⟨[(3, .own 1), (4, sV t3603)], [(1, some (.row 2 64 (t3511.map etomb_Range)))], 0⟩ [((t3511.map etomb_Range).length : Int) = (t3511.length : Int), Enters Try.prog 45, Pv.Fn Try.prog 45 [iV .u64 (IntKind.u64.wrap ((t3511.length : Int)))] [] 0 (fun r o => r = sV t3603 ∧ o = [])] (by kernel_rfl) ⟨by rw [len_map], by exact Try.call45, by exact f_pluvialref02_Count.ok (IntKind.u64.wrap ((t3511.length : Int))) t3603 e3604, trivial⟩ ?_
  refine AWp.seq ?_
  refine reg hP hn hm [] [3, 4, 5] [1] ⟨[(3, .own 1), (4, sV t3603), (5, iV .i64 0)], [(1, some (.row 2 64 (t3511.map etomb_Range)))], 0⟩ [] (by kernel_rfl) trivial ?_
  refine AWp.seq ?_
  refine AWp.seq ?_
  refine reg hP hn hm [(1, .any (iV .i64 (t3511.length : Int)))] [4, 5, 14, 15, 16] [1] ⟨[(4, sV t3603), (5, iV .i64 0), (14, .own 1), (15, iV .i64 (t3511.length : Int)), (16, iV .i64 0)], [(1, some (.row 2 64 (t3511.map etomb_Range)))], 0⟩ [((t3511.map etomb_Range).length : Int) = (t3511.length : Int)] (by kernel_rfl) ⟨by rw [len_map], trivial⟩ ?_
  refine AWp.block ?_
  obtain ⟨o3647, e3648, H⟩ := bind_of H
  refine AWp.loop (LWp.conv (inv := [(1, 3)]) (vk := []) (e0 := []) (t := ⟨[(4, sV t3603), (5, iV .i64 0), (14, .own 3), (15, iV .i64 (t3511.length : Int)), (16, iV .i64 0)], [(3, some (.row 2 64 (t3511.map etomb_Range)))], 0⟩) (by kernel_rfl) ?_)
  refine LWp.mono (Q := fun e s => (match (generalizing := false) o3647 with | x3646 => e = .exit 0 ∧ s = ⟨[(4, sV x3646)], [], 0⟩)) (LWp.cv (withBody (fun body hbody => ?_))) ?_
  · refine f_pluviallaw14_TombLays_1.l0.partial_correctness t3511 (motive := fun x3624 x3625 x3626 o3647 => LWp Γ body (fun e s => ∃ t, Cv Γ s t ∧ (match (generalizing := false) o3647 with | x3646 => e = .exit 0 ∧ t = ⟨[(4, sV x3646)], [], 0⟩)) ⟨[(4, sV x3624), (5, iV .i64 x3625), (14, .own 3), (15, iV .i64 (t3511.length : Int)), (16, iV .i64 x3626)], [(3, some (.row 2 64 (t3511.map etomb_Range)))], 0⟩) ?_ _ _ _ _ e3648
    clear H e3648 o3647; intro self ih x3624 x3625 x3626 o3647 H
    subst hbody
    refine LWp.round ?_
    refine AWp.seq ?_
    refine reg hP hn hm [] [4, 5, 14, 15, 16, 17] [3] ⟨[(4, sV x3624), (5, iV .i64 x3625), (14, .own 3), (15, iV .i64 (t3511.length : Int)), (16, iV .i64 x3626), (17, bV (decide (x3626 < (t3511.length : Int))))], [(3, some (.row 2 64 (t3511.map etomb_Range)))], 0⟩ [] (by kernel_rfl) trivial ?_
    refine AWp.seq ?_
    refine AWp.cond (decide (x3626 < (t3511.length : Int))) rfl (fun c3627 => ?_) (fun c3627 => ?_)
    · replace H := (ifT c3627).symm.trans H
      refine AWp.skip ?_
      refine AWp.seq ?_
      refine AWp.block ?_
      refine AWp.seq ?_
      obtain ⟨b3631, p3632, q3633, H⟩ := at_of H
      refine reg hP hn hm [(1, .c (etomb_Range b3631)), (2, .k 4)] [4, 5, 7, 14, 15, 16] [3, 4] ⟨[(4, sV x3624), (5, iV .i64 x3625), (7, .ptr 4 0 0), (14, .own 3), (15, iV .i64 (t3511.length : Int)), (16, iV .i64 x3626)], [(3, some (.row 2 64 (t3511.map etomb_Range))), (4, some (.box 64 (atomb_Range b3631)))], 0⟩ [0 ≤ x3626, x3626 < (((t3511.map etomb_Range).length : Nat) : Int), (t3511.map etomb_Range)[(Int.toNat (x3626))]? = some (etomb_Range b3631)] (by kernel_rfl) ⟨by exact p3632, by exact el_lt etomb_Range p3632 q3633, by exact el_map etomb_Range q3633, trivial⟩ ?_
      refine AWp.seq ?_
      obtain ⟨t3640, e3641, H⟩ := bind_of H
      obtain ⟨t3642, e3643, H⟩ := bind_of H
      obtain ⟨c3644, H⟩ := chk_of H
      obtain ⟨c3645, H⟩ := chk_of H
      refine reg hP hn hm [(6, .call [] [] [] [] 0 (sV t3640) []), (13, .call [] [] [] [] 0 (sV t3642) [])] [4, 7, 14, 15, 16] [3, 4] ⟨[(4, sV (x3624 ++ (t3640 ++ t3642))), (7, .ptr 4 0 0), (14, .own 3), (15, iV .i64 (t3511.length : Int)), (16, iV .i64 x3626)], [(3, some (.row 2 64 (t3511.map etomb_Range))), (4, some (.box 64 (atomb_Range b3631)))], 0⟩ [Enters Try.prog 45, Pv.Fn Try.prog 45 [iV .u64 (IntKind.u64.wrap (IntKind.i64.wrap (b3631.f0 - x3625)))] [] 0 (fun r o => r = sV t3640 ∧ o = []), Enters Try.prog 45, Pv.Fn Try.prog 45 [iV .u64 (IntKind.u64.wrap (IntKind.i64.wrap (b3631.f1 - b3631.f0)))] [] 0 (fun r o => r = sV t3642 ∧ o = []), ((t3640.size + t3642.size : Nat) : Int) ≤ 9223372036854775807, ((x3624.size + (t3640 ++ t3642).size : Nat) : Int) ≤ 9223372036854775807] (by kernel_rfl) ⟨by exact Try.call45, by exact f_pluvialref02_Count.ok (IntKind.u64.wrap (IntKind.i64.wrap (b3631.f0 - x3625))) t3640 e3641, by exact Try.call45, by exact f_pluvialref02_Count.ok (IntKind.u64.wrap (IntKind.i64.wrap (b3631.f1 - b3631.f0))) t3642 e3643, by exact c3644, by exact c3645, trivial⟩ ?_
      refine reg hP hn hm [] [4, 5, 14, 15, 16] [3] ⟨[(4, sV (x3624 ++ (t3640 ++ t3642))), (5, iV .i64 (IntKind.i64.wrap (b3631.f1 + (2 : Int)))), (14, .own 3), (15, iV .i64 (t3511.length : Int)), (16, iV .i64 x3626)], [(3, some (.row 2 64 (t3511.map etomb_Range)))], 0⟩ [] (by kernel_rfl) trivial ?_
      refine reg hP hn hm [] [4, 5, 14, 15, 16] [3] ⟨[(4, sV (x3624 ++ (t3640 ++ t3642))), (5, iV .i64 (IntKind.i64.wrap (b3631.f1 + (2 : Int)))), (14, .own 3), (15, iV .i64 (t3511.length : Int)), (16, iV .i64 (IntKind.i64.wrap (x3626 + (1 : Int))))], [(3, some (.row 2 64 (t3511.map etomb_Range)))], 0⟩ [] (by kernel_rfl) trivial ?_
      exact LWp.conv (inv := [(3, 3)]) (vk := []) (e0 := []) (t := ⟨[(4, sV (x3624 ++ (t3640 ++ t3642))), (5, iV .i64 (IntKind.i64.wrap (b3631.f1 + (2 : Int)))), (14, .own 3), (15, iV .i64 (t3511.length : Int)), (16, iV .i64 (IntKind.i64.wrap (x3626 + (1 : Int))))], [(3, some (.row 2 64 (t3511.map etomb_Range)))], 0⟩) (by kernel_rfl) (ih _ _ _ _ H)
    · replace H := (ifF c3627).symm.trans H
      refine AWp.exit ?_
      obtain rfl := Option.some.inj H
      exact Exists.intro _ (And.intro (fun _ _ h => h.conv (inv := []) (vk := []) (e0 := []) (t := ⟨[(4, sV x3624)], [], 0⟩) (by kernel_rfl)) (And.intro rfl rfl))
  · obtain ⟨x3646, rfl⟩ : ∃ z, z = o3647 := ⟨_, rfl⟩
    rintro e s ⟨rfl, rfl⟩
    refine AWp.seq ?_
    refine reg hP hn hm [] [2] [] ⟨[(2, sV x3646)], [], 0⟩ [] (by kernel_rfl) trivial ?_
    refine AWp.conv (inv := []) (vk := []) (e0 := []) (t := ⟨[(2, sV x3646)], [], 0⟩) (by kernel_rfl) ?_
    refine AWp.ret ?_
    obtain rfl := Option.some.inj H
    exact Exists.intro _ (And.intro (fun _ _ h => h) (And.intro (.inl rfl) (And.intro rfl (And.intro (by kernel_rfl) (by kernel_rfl)))))
end Go.Proofs.Yteogljahemehkaa.PvGC1
