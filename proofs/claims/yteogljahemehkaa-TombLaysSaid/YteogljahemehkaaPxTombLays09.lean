import Derived.Test.YteogljahemehkaaProg
import Derived.Test.YteogljahemehkaaPxTombLays08
set_option linter.unusedVariables false
set_option linter.unnecessarySimpa false
set_option linter.unusedSimpArgs false
set_option maxRecDepth 10000
namespace Go.Proofs.Yteogljahemehkaa.PvGC1
open Go Go.Pv
def f_pluvialref02_Bytes.l1 (a0 : ByteArray) (x3672 : Int) (x3677 : List Int) (x3682 : Int) (x3683 : Int) : Option (Int) := if (decide (x3683 < (Int.tmod x3672 (8 : Int)))) = true then (f_pluvialref02_Bytes.l1 a0 x3672 x3677 (IntKind.i64.wrap (Int.tdiv x3682 (2 : Int))) (IntKind.i64.wrap (x3683 + (1 : Int)))) else (some x3682)
partial_fixpoint
def f_pluvialref02_Bytes.l0 (a0 : ByteArray) (x3671 : List Int) (x3672 : Int) : Option (List Int) := if (decide (x3672 < (a0.size : Int))) = true then (((if ((Int.tmod x3672 (8 : Int)) == (0 : Int)) = true then ((chk ((x3671.length + [0].length) * 1 ≤ 140737488355328)) >>= fun _ => some (x3671 ++ [0])) else (some x3671)) : Option (List Int)) >>= fun x3677 => (chk (0 ≤ x3672 ∧ x3672 < (a0.size : Int))) >>= fun _ => ((if ((bt a0 x3672) == (49 : Int)) = true then ((f_pluvialref02_Bytes.l1 a0 x3672 x3677 128 0) >>= fun x3685 => (at? x3677 (IntKind.i64.wrap (Int.tdiv x3672 (8 : Int)))) >>= fun b3689 => some (x3677.set (Int.toNat (IntKind.i64.wrap (Int.tdiv x3672 (8 : Int)))) (IntKind.u8.wrap (b3689 + (IntKind.u8.wrap (x3685)))))) else (some x3677)) : Option (List Int)) >>= fun x3692 => f_pluvialref02_Bytes.l0 a0 x3692 (IntKind.i64.wrap (x3672 + (1 : Int)))) else (some x3671)
partial_fixpoint
def f_pluvialref02_Bytes.f (a0 : ByteArray) : Option (List Int) := (f_pluvialref02_Bytes.l0 a0 [] 0) >>= fun x3693 => some x3693
theorem f_pluvialref02_Bytes.ok (a0 : ByteArray) (r : List Int) (H : f_pluvialref02_Bytes.f a0 = some r) : Pv.Fn Try.prog 48 [sV a0] [] 0 (fun x o => x = .own 0 ∧ o = [(0, some (.row 1 5 (r.map (encInt .u8))))]) := by
  unfold f_pluvialref02_Bytes.f at H
  refine Fn.bodyK [0] Try.func48 rfl rfl (fun Γ hP hn => ?_)
  have hm : Try.prog.follows .mixedOrders = true := by kernel_rfl
  replace hn : Γ.n = 44 := hn
  refine AWp.seq ?_
  refine reg hP hn hm [] [0] [] ⟨[(0, sV a0)], [], 0⟩ [] (by kernel_rfl) trivial ?_
  refine AWp.seq ?_
  refine reg hP hn hm [] [0, 3] [] ⟨[(0, sV a0), (3, .none0)], [], 0⟩ [] (by kernel_rfl) trivial ?_
  refine AWp.seq ?_
  refine AWp.seq ?_
  refine reg hP hn hm [] [0, 3, 4] [] ⟨[(0, sV a0), (3, .none0), (4, iV .i64 0)], [], 0⟩ [] (by kernel_rfl) trivial ?_
  refine AWp.block ?_
  obtain ⟨o3694, e3695, H⟩ := bind_of H
  refine AWp.loop (LWp.conv (inv := []) (vk := []) (e0 := [6]) (t := ⟨[(0, sV a0), (3, .own 6), (4, iV .i64 0)], [(6, some (.row 1 5 ([].map (encInt .u8))))], 0⟩) (by kernel_rfl) ?_)
  refine LWp.mono (Q := fun e s => (match (generalizing := false) o3694 with | x3693 => e = .exit 0 ∧ s = ⟨[(3, .own 13)], [(13, some (.row 1 5 (x3693.map (encInt .u8))))], 0⟩)) (LWp.cv (withBody (fun body hbody => ?_))) ?_
  · refine f_pluvialref02_Bytes.l0.partial_correctness a0 (motive := fun x3671 x3672 o3694 => LWp Γ body (fun e s => ∃ t, Cv Γ s t ∧ (match (generalizing := false) o3694 with | x3693 => e = .exit 0 ∧ t = ⟨[(3, .own 13)], [(13, some (.row 1 5 (x3693.map (encInt .u8))))], 0⟩)) ⟨[(0, sV a0), (3, .own 6), (4, iV .i64 x3672)], [(6, some (.row 1 5 (x3671.map (encInt .u8))))], 0⟩) ?_ _ _ _ e3695
    clear H e3695 o3694; intro self ih x3671 x3672 o3694 H
    subst hbody
    refine LWp.round ?_
    refine AWp.seq ?_
    refine AWp.seq ?_
    refine reg hP hn hm [] [0, 3, 4, 10] [6] ⟨[(0, sV a0), (3, .own 6), (4, iV .i64 x3672), (10, bV (decide (x3672 < (a0.size : Int))))], [(6, some (.row 1 5 (x3671.map (encInt .u8))))], 0⟩ [] (by kernel_rfl) trivial ?_
    refine AWp.cond (decide (x3672 < (a0.size : Int))) rfl (fun c3673 => ?_) (fun c3673 => ?_)
    · replace H := (ifT c3673).symm.trans H
      refine AWp.skip ?_
      refine AWp.seq ?_
      refine AWp.block ?_
      refine AWp.seq ?_
      refine AWp.seq ?_
      refine reg hP hn hm [] [0, 3, 4, 15] [6] ⟨[(0, sV a0), (3, .own 6), (4, iV .i64 x3672), (15, bV ((Int.tmod x3672 (8 : Int)) == (0 : Int)))], [(6, some (.row 1 5 (x3671.map (encInt .u8))))], 0⟩ [(8 : Int) ≠ 0] (by kernel_rfl) ⟨by decide, trivial⟩ ?_
      obtain ⟨o3696, e3697, H⟩ := bind_of H
      refine AWp.mono (Q := fun e s => (match (generalizing := false) o3696 with | x3677 => e = .normal ∧ s = ⟨[(0, sV a0), (3, .own 9), (4, iV .i64 x3672)], [(9, some (.row 1 5 (x3677.map (encInt .u8))))], 0⟩)) (AWp.cv ?_) ?_
      · replace H := e3697; clear e3697
        refine AWp.cond ((Int.tmod x3672 (8 : Int)) == (0 : Int)) rfl (fun c3674 => ?_) (fun c3674 => ?_)
        · replace H := (ifT c3674).symm.trans H
          obtain ⟨c3676, H⟩ := chk_of H
          refine reg hP hn hm [(1, .app 7 ([0].map (encInt .u8))), (2, .app 8 ((x3671 ++ [0]).map (encInt .u8)))] [0, 3, 4] [8] ⟨[(0, sV a0), (3, .own 8), (4, iV .i64 x3672)], [(8, some (.row 1 5 ((x3671 ++ [0]).map (encInt .u8))))], 0⟩ [[0].map (encInt .u8) = [[iI .u8 0]], (x3671 ++ [0]).map (encInt .u8) = (x3671.map (encInt .u8)) ++ ([0].map (encInt .u8)), ∀ c ∈ ([0].map (encInt .u8)), c.length = 1, ∀ c ∈ ([0].map (encInt .u8)), leaves (c.map .im) = true, ((x3671.map (encInt .u8)).length + ([0].map (encInt .u8)).length) * 1 ≤ 140737488355328] (by kernel_rfl) ⟨by exact rfl, by simp, by exact all_len _ _ _ (fun _ => rfl), by exact all_leaf _ _ (fun _ => rfl), by simpa using c3676, trivial⟩ ?_
          obtain rfl := Option.some.inj H
          exact Exists.intro _ (And.intro (fun _ _ h => h.conv (inv := [(8, 9)]) (vk := []) (e0 := []) (t := ⟨[(0, sV a0), (3, .own 9), (4, iV .i64 x3672)], [(9, some (.row 1 5 ((x3671 ++ [0]).map (encInt .u8))))], 0⟩) (by kernel_rfl)) (And.intro rfl rfl))
        · replace H := (ifF c3674).symm.trans H
          refine AWp.skip ?_
          obtain rfl := Option.some.inj H
          exact Exists.intro _ (And.intro (fun _ _ h => h.conv (inv := [(6, 9)]) (vk := []) (e0 := []) (t := ⟨[(0, sV a0), (3, .own 9), (4, iV .i64 x3672)], [(9, some (.row 1 5 (x3671.map (encInt .u8))))], 0⟩) (by kernel_rfl)) (And.intro rfl rfl))
      · obtain ⟨x3677, rfl⟩ : ∃ z, z = o3696 := ⟨_, rfl⟩
        rintro e s ⟨rfl, rfl⟩
        refine AWp.seq ?_
        obtain ⟨c3679, H⟩ := chk_of H
        refine reg hP hn hm [] [0, 3, 4, 22] [9] ⟨[(0, sV a0), (3, .own 9), (4, iV .i64 x3672), (22, bV ((bt a0 x3672) == (49 : Int)))], [(9, some (.row 1 5 (x3677.map (encInt .u8))))], 0⟩ [0 ≤ x3672, x3672 < (a0.size : Int)] (by kernel_rfl) ⟨by exact c3679.1, by exact c3679.2, trivial⟩ ?_
        obtain ⟨o3698, e3699, H⟩ := bind_of H
        refine AWp.mono (Q := fun e s => (match (generalizing := false) o3698 with | x3692 => e = .normal ∧ s = ⟨[(0, sV a0), (3, .own 12), (4, iV .i64 x3672)], [(12, some (.row 1 5 (x3692.map (encInt .u8))))], 0⟩)) (AWp.cv ?_) ?_
        · replace H := e3699; clear e3699
          refine AWp.cond ((bt a0 x3672) == (49 : Int)) rfl (fun c3680 => ?_) (fun c3680 => ?_)
          · replace H := (ifT c3680).symm.trans H
            refine AWp.seq ?_
            refine reg hP hn hm [] [0, 3, 4, 5] [9] ⟨[(0, sV a0), (3, .own 9), (4, iV .i64 x3672), (5, iV .i64 128)], [(9, some (.row 1 5 (x3677.map (encInt .u8))))], 0⟩ [] (by kernel_rfl) trivial ?_
            refine AWp.seq ?_
            refine AWp.seq ?_
            refine reg hP hn hm [] [0, 3, 4, 5, 6] [9] ⟨[(0, sV a0), (3, .own 9), (4, iV .i64 x3672), (5, iV .i64 128), (6, iV .i64 0)], [(9, some (.row 1 5 (x3677.map (encInt .u8))))], 0⟩ [] (by kernel_rfl) trivial ?_
            refine AWp.block ?_
            obtain ⟨o3700, e3701, H⟩ := bind_of H
            refine AWp.loop (LWp.conv (inv := [(9, 10)]) (vk := []) (e0 := []) (t := ⟨[(0, sV a0), (3, .own 10), (4, iV .i64 x3672), (5, iV .i64 128), (6, iV .i64 0)], [(10, some (.row 1 5 (x3677.map (encInt .u8))))], 0⟩) (by kernel_rfl) ?_)
            refine LWp.mono (Q := fun e s => (match (generalizing := false) o3700 with | x3685 => e = .exit 2 ∧ s = ⟨[(0, sV a0), (3, .own 11), (4, iV .i64 x3672), (5, iV .i64 x3685)], [(11, some (.row 1 5 (x3677.map (encInt .u8))))], 0⟩)) (LWp.cv (withBody (fun body hbody => ?_))) ?_
            · refine f_pluvialref02_Bytes.l1.partial_correctness a0 x3672 x3677 (motive := fun x3682 x3683 o3700 => LWp Γ body (fun e s => ∃ t, Cv Γ s t ∧ (match (generalizing := false) o3700 with | x3685 => e = .exit 2 ∧ t = ⟨[(0, sV a0), (3, .own 11), (4, iV .i64 x3672), (5, iV .i64 x3685)], [(11, some (.row 1 5 (x3677.map (encInt .u8))))], 0⟩)) ⟨[(0, sV a0), (3, .own 10), (4, iV .i64 x3672), (5, iV .i64 x3682), (6, iV .i64 x3683)], [(10, some (.row 1 5 (x3677.map (encInt .u8))))], 0⟩) ?_ _ _ _ e3701
              clear H e3701 o3700; intro self ih x3682 x3683 o3700 H
              subst hbody
              refine LWp.round ?_
              refine AWp.seq ?_
              refine AWp.seq ?_
              refine reg hP hn hm [] [0, 3, 4, 5, 6, 26] [10] ⟨[(0, sV a0), (3, .own 10), (4, iV .i64 x3672), (5, iV .i64 x3682), (6, iV .i64 x3683), (26, bV (decide (x3683 < (Int.tmod x3672 (8 : Int)))))], [(10, some (.row 1 5 (x3677.map (encInt .u8))))], 0⟩ [(8 : Int) ≠ 0] (by kernel_rfl) ⟨by decide, trivial⟩ ?_
              refine AWp.cond (decide (x3683 < (Int.tmod x3672 (8 : Int)))) rfl (fun c3684 => ?_) (fun c3684 => ?_)
              · replace H := (ifT c3684).symm.trans H
                refine AWp.skip ?_
                refine AWp.seq ?_
                refine AWp.block ?_
                refine reg hP hn hm [] [0, 3, 4, 5, 6] [10] ⟨[(0, sV a0), (3, .own 10), (4, iV .i64 x3672), (5, iV .i64 (IntKind.i64.wrap (Int.tdiv x3682 (2 : Int)))), (6, iV .i64 x3683)], [(10, some (.row 1 5 (x3677.map (encInt .u8))))], 0⟩ [(2 : Int) ≠ 0] (by kernel_rfl) ⟨by decide, trivial⟩ ?_
                refine reg hP hn hm [] [0, 3, 4, 5, 6] [10] ⟨[(0, sV a0), (3, .own 10), (4, iV .i64 x3672), (5, iV .i64 (IntKind.i64.wrap (Int.tdiv x3682 (2 : Int)))), (6, iV .i64 (IntKind.i64.wrap (x3683 + (1 : Int))))], [(10, some (.row 1 5 (x3677.map (encInt .u8))))], 0⟩ [] (by kernel_rfl) trivial ?_
                exact LWp.conv (inv := [(10, 10)]) (vk := []) (e0 := []) (t := ⟨[(0, sV a0), (3, .own 10), (4, iV .i64 x3672), (5, iV .i64 (IntKind.i64.wrap (Int.tdiv x3682 (2 : Int)))), (6, iV .i64 (IntKind.i64.wrap (x3683 + (1 : Int))))], [(10, some (.row 1 5 (x3677.map (encInt .u8))))], 0⟩) (by kernel_rfl) (ih _ _ _ H)
              · replace H := (ifF c3684).symm.trans H
                refine AWp.exit ?_
                obtain rfl := Option.some.inj H
                exact Exists.intro _ (And.intro (fun _ _ h => h.conv (inv := [(10, 11)]) (vk := []) (e0 := []) (t := ⟨[(0, sV a0), (3, .own 11), (4, iV .i64 x3672), (5, iV .i64 x3682)], [(11, some (.row 1 5 (x3677.map (encInt .u8))))], 0⟩) (by kernel_rfl)) (And.intro rfl rfl))
            · obtain ⟨x3685, rfl⟩ : ∃ z, z = o3700 := ⟨_, rfl⟩
              rintro e s ⟨rfl, rfl⟩
              obtain ⟨b3689, p3690, q3691, H⟩ := at_of H
              refine reg hP hn hm [(7, .c ((encInt .u8) b3689)), (12, .put ((encInt .u8) b3689) ((x3677.set (Int.toNat (IntKind.i64.wrap (Int.tdiv x3672 (8 : Int)))) (IntKind.u8.wrap (b3689 + (IntKind.u8.wrap (x3685))))).map (encInt .u8)))] [0, 3, 4] [11] ⟨[(0, sV a0), (3, .own 11), (4, iV .i64 x3672)], [(11, some (.row 1 5 ((x3677.set (Int.toNat (IntKind.i64.wrap (Int.tdiv x3672 (8 : Int)))) (IntKind.u8.wrap (b3689 + (IntKind.u8.wrap (x3685))))).map (encInt .u8))))], 0⟩ [(8 : Int) ≠ 0, (8 : Int) ≠ 0, 0 ≤ (IntKind.i64.wrap (Int.tdiv x3672 (8 : Int))), IntKind.i64.wrap (Int.tdiv x3672 (8 : Int)) < (((x3677.map (encInt .u8)).length : Nat) : Int), (x3677.map (encInt .u8))[(Int.toNat (IntKind.i64.wrap (Int.tdiv x3672 (8 : Int))))]? = some ((encInt .u8) b3689), 0 ≤ (IntKind.i64.wrap (Int.tdiv x3672 (8 : Int))), IntKind.i64.wrap (Int.tdiv x3672 (8 : Int)) < (((x3677.map (encInt .u8)).length : Nat) : Int), (x3677.map (encInt .u8))[(Int.toNat (IntKind.i64.wrap (Int.tdiv x3672 (8 : Int))))]? = some ((encInt .u8) b3689), (x3677.set (Int.toNat (IntKind.i64.wrap (Int.tdiv x3672 (8 : Int)))) (IntKind.u8.wrap (b3689 + (IntKind.u8.wrap (x3685))))).map (encInt .u8) = (x3677.map (encInt .u8)).set (Int.toNat (IntKind.i64.wrap (Int.tdiv x3672 (8 : Int)))) (splice ((encInt .u8) b3689) 0 [iI .u8 (IntKind.u8.wrap (b3689 + (IntKind.u8.wrap (x3685))))])] (by kernel_rfl) ⟨by decide, by decide, by exact p3690, by exact el_lt (encInt .u8) p3690 q3691, by exact el_map (encInt .u8) q3691, by exact p3690, by exact el_lt (encInt .u8) p3690 q3691, by exact el_map (encInt .u8) q3691, by exact set1 _ _ _ _, trivial⟩ ?_
              obtain rfl := Option.some.inj H
              exact Exists.intro _ (And.intro (fun _ _ h => h.conv (inv := [(11, 12)]) (vk := []) (e0 := []) (t := ⟨[(0, sV a0), (3, .own 12), (4, iV .i64 x3672)], [(12, some (.row 1 5 ((x3677.set (Int.toNat (IntKind.i64.wrap (Int.tdiv x3672 (8 : Int)))) (IntKind.u8.wrap (b3689 + (IntKind.u8.wrap (x3685))))).map (encInt .u8))))], 0⟩) (by kernel_rfl)) (And.intro rfl rfl))
          · replace H := (ifF c3680).symm.trans H
            refine AWp.skip ?_
            obtain rfl := Option.some.inj H
            exact Exists.intro _ (And.intro (fun _ _ h => h.conv (inv := [(9, 12)]) (vk := []) (e0 := []) (t := ⟨[(0, sV a0), (3, .own 12), (4, iV .i64 x3672)], [(12, some (.row 1 5 (x3677.map (encInt .u8))))], 0⟩) (by kernel_rfl)) (And.intro rfl rfl))
        · obtain ⟨x3692, rfl⟩ : ∃ z, z = o3698 := ⟨_, rfl⟩
          rintro e s ⟨rfl, rfl⟩
          refine reg hP hn hm [] [0, 3, 4] [12] ⟨[(0, sV a0), (3, .own 12), (4, iV .i64 (IntKind.i64.wrap (x3672 + (1 : Int))))], [(12, some (.row 1 5 (x3692.map (encInt .u8))))], 0⟩ [] (by kernel_rfl) trivial ?_
          exact LWp.conv (inv := [(12, 6)]) (vk := []) (e0 := []) (t := ⟨[(0, sV a0), (3, .own 6), (4, iV .i64 (IntKind.i64.wrap (x3672 + (1 : Int))))], [(6, some (.row 1 5 (x3692.map (encInt .u8))))], 0⟩) (by kernel_rfl) (ih _ _ _ H)
    · replace H := (ifF c3673).symm.trans H
      refine AWp.exit ?_
      obtain rfl := Option.some.inj H
      exact Exists.intro _ (And.intro (fun _ _ h => h.conv (inv := [(6, 13)]) (vk := []) (e0 := []) (t := ⟨[(3, .own 13)], [(13, some (.row 1 5 (x3671.map (encInt .u8))))], 0⟩) (by kernel_rfl)) (And.intro rfl rfl))
  · obtain ⟨x3693, rfl⟩ : ∃ z, z = o3694 := ⟨_, rfl⟩
    rintro e s ⟨rfl, rfl⟩
    refine AWp.seq ?_
    refine reg hP hn hm [] [2] [13] ⟨[(2, .own 13)], [(13, some (.row 1 5 (x3693.map (encInt .u8))))], 0⟩ [] (by kernel_rfl) trivial ?_
    refine AWp.conv (inv := [(13, 0)]) (vk := []) (e0 := []) (t := ⟨[(2, .own 0)], [(0, some (.row 1 5 (x3693.map (encInt .u8))))], 0⟩) (by kernel_rfl) ?_
    refine AWp.ret ?_
    obtain rfl := Option.some.inj H
    exact Exists.intro _ (And.intro (fun _ _ h => h) (And.intro (.inl rfl) (And.intro rfl (And.intro (by kernel_rfl) (by kernel_rfl)))))
def f_bits_Writer_Bytes_657.f (a0_c0 : List Int) (a0_c1 : Int) : Option (List Int) := (f_slices_Clone_byte.f a0_c0) >>= fun t3713 => some t3713
theorem f_bits_Writer_Bytes_657.ok (a0_c0 : List Int) (a0_c1 : Int) (r : List Int) (H : f_bits_Writer_Bytes_657.f a0_c0 a0_c1 = some r) : Pv.Fn Try.prog 47 [.ptr 0 0 0] [(0, some (.box 101 (abits_Writer ⟨a0_c0, a0_c1⟩)))] 1 (fun x o => x = .own 1 ∧ o = [(0, some (.box 101 (abits_Writer ⟨a0_c0, a0_c1⟩))), (1, some (.row 1 5 (r.map (encInt .u8))))]) := by
  unfold f_bits_Writer_Bytes_657.f at H
  refine Fn.bodyK [0, 1] Try.func47 rfl rfl (fun Γ hP hn => ?_)
  have hm : Try.prog.follows .mixedOrders = true := by kernel_rfl
  replace hn : Γ.n = 8 := hn
  refine AWp.seq ?_
  refine reg hP hn hm [] [0] [0] ⟨[(0, .ptr 0 0 0)], [(0, some (.box 101 (abits_Writer ⟨a0_c0, a0_c1⟩)))], 1⟩ [] (by kernel_rfl) trivial ?_
  refine AWp.seq ?_
  obtain ⟨t3713, e3714, H⟩ := bind_of H
  refine reg hP hn hm [(4, .call [] [(0, 1)] [] [1] 0 (.own 0) [(0, some (.row 1 5 (t3713.map (encInt .u8))))])] [2] [0, 1] ⟨[(2, .own 1)], [(0, some (.box 101 (abits_Writer ⟨a0_c0, a0_c1⟩))), (1, some (.row 1 5 (t3713.map (encInt .u8))))], 1⟩ [Enters Try.prog 89, Pv.Fn Try.prog 89 [.im (.row (a0_c0.map (encInt .u8)))] [] 0 (fun r o => r = .own 0 ∧ o = [(0, some (.row 1 5 (t3713.map (encInt .u8))))])] (by kernel_rfl) ⟨by exact Try.call89, by exact f_slices_Clone_byte.ok a0_c0 t3713 e3714, trivial⟩ ?_
  refine AWp.conv (inv := [(0, 0), (1, 1)]) (vk := []) (e0 := []) (t := ⟨[(2, .own 1)], [(0, some (.box 101 (abits_Writer ⟨a0_c0, a0_c1⟩))), (1, some (.row 1 5 (t3713.map (encInt .u8))))], 1⟩) (by kernel_rfl) ?_
  refine AWp.ret ?_
  obtain rfl := Option.some.inj H
  exact Exists.intro _ (And.intro (fun _ _ h => h) (And.intro (.inl rfl) (And.intro rfl (And.intro (by kernel_rfl) (by kernel_rfl)))))
def f_bits_Read.f (a0 : List Int) : Option (Unit) := some ()
theorem f_bits_Read.ok (a0 : List Int) (r : Unit) (H : f_bits_Read.f a0 = some r) : Pv.Fn Try.prog 49 [.im (.row (a0.map (encInt .u8)))] [] 0 (fun x o => x = .ptr 0 0 0 ∧ o = [(0, some (.box 154 (abits_Reader ⟨a0, 0, 0⟩)))]) := by
  unfold f_bits_Read.f at H
  refine Fn.bodyK [0] Try.func49 rfl rfl (fun Γ hP hn => ?_)
  have hm : Try.prog.follows .mixedOrders = true := by kernel_rfl
  replace hn : Γ.n = 6 := hn
  refine AWp.seq ?_
  refine reg hP hn hm [] [0] [] ⟨[(0, .im (.row (a0.map (encInt .u8))))], [], 0⟩ [] (by kernel_rfl) trivial ?_
  refine AWp.seq ?_
  refine reg hP hn hm [(2, .k 0)] [2] [0] ⟨[(2, .ptr 0 0 0)], [(0, some (.box 154 (abits_Reader ⟨a0, 0, 0⟩)))], 0⟩ [] (by kernel_rfl) trivial ?_
  refine AWp.conv (inv := [(0, 0)]) (vk := []) (e0 := []) (t := ⟨[(2, .ptr 0 0 0)], [(0, some (.box 154 (abits_Reader ⟨a0, 0, 0⟩)))], 0⟩) (by kernel_rfl) ?_
  refine AWp.ret ?_
  obtain rfl := Option.some.inj H
  exact Exists.intro _ (And.intro (fun _ _ h => h) (And.intro (.inl rfl) (And.intro rfl (And.intro (by kernel_rfl) (by kernel_rfl)))))
def f_bits_Reader_fail_b86.f (a0_c0 : List Int) (a0_c1 : Int) (a0_c2 : Int) (a1 : Int) : Option (Int) := ((if (a0_c2 == (0 : Int)) = true then (some a1) else (some a0_c2)) : Option (Int)) >>= fun x3733 => some x3733
theorem f_bits_Reader_fail_b86.ok (a0_c0 : List Int) (a0_c1 : Int) (a0_c2 : Int) (a1 : Int) (r : Int) (H : f_bits_Reader_fail_b86.f a0_c0 a0_c1 a0_c2 a1 = some r) : Pv.Fn Try.prog 91 [.ptr 0 0 0, iV .i64 a1] [(0, some (.box 154 (abits_Reader ⟨a0_c0, a0_c1, a0_c2⟩)))] 1 (fun x o => x = .tup [] ∧ o = [(0, some (.box 154 (abits_Reader ⟨a0_c0, a0_c1, r⟩)))]) := by
  unfold f_bits_Reader_fail_b86.f at H
  refine Fn.bodyK [0] Try.func91 rfl rfl (fun Γ hP hn => ?_)
  have hm : Try.prog.follows .mixedOrders = true := by kernel_rfl
  replace hn : Γ.n = 13 := hn
  refine AWp.seq ?_
  refine reg hP hn hm [] [0, 1, 8] [0] ⟨[(0, .ptr 0 0 0), (1, iV .i64 a1), (8, bV (a0_c2 == (0 : Int)))], [(0, some (.box 154 (abits_Reader ⟨a0_c0, a0_c1, a0_c2⟩)))], 1⟩ [] (by kernel_rfl) trivial ?_
  obtain ⟨o3734, e3735, H⟩ := bind_of H
  refine AWp.mono (Q := fun e s => (match (generalizing := false) o3734 with | x3733 => e = .normal ∧ s = ⟨[], [(0, some (.box 154 (abits_Reader ⟨a0_c0, a0_c1, x3733⟩)))], 1⟩)) (AWp.cv ?_) ?_
  · replace H := e3735; clear e3735
    refine AWp.cond (a0_c2 == (0 : Int)) rfl (fun c3732 => ?_) (fun c3732 => ?_)
    · replace H := (ifT c3732).symm.trans H
      refine reg hP hn hm [] [] [0] ⟨[], [(0, some (.box 154 (abits_Reader ⟨a0_c0, a0_c1, a1⟩)))], 1⟩ [] (by kernel_rfl) trivial ?_
      obtain rfl := Option.some.inj H
      exact Exists.intro _ (And.intro (fun _ _ h => h.conv (inv := [(0, 0)]) (vk := []) (e0 := []) (t := ⟨[], [(0, some (.box 154 (abits_Reader ⟨a0_c0, a0_c1, a1⟩)))], 1⟩) (by kernel_rfl)) (And.intro rfl rfl))
    · replace H := (ifF c3732).symm.trans H
      refine AWp.skip ?_
      obtain rfl := Option.some.inj H
      exact Exists.intro _ (And.intro (fun _ _ h => h.conv (inv := [(0, 0)]) (vk := []) (e0 := []) (t := ⟨[], [(0, some (.box 154 (abits_Reader ⟨a0_c0, a0_c1, a0_c2⟩)))], 1⟩) (by kernel_rfl)) (And.intro rfl rfl))
  · obtain ⟨x3733, rfl⟩ : ∃ z, z = o3734 := ⟨_, rfl⟩
    rintro e s ⟨rfl, rfl⟩
    obtain rfl := Option.some.inj H
    exact Exists.intro ⟨[], [(0, some (.box 154 (abits_Reader ⟨a0_c0, a0_c1, x3733⟩)))], 1⟩ (And.intro (fun _ _ h => h.conv (inv := [(0, 0)]) (vk := []) (e0 := []) (t := ⟨[], [(0, some (.box 154 (abits_Reader ⟨a0_c0, a0_c1, x3733⟩)))], 1⟩) (by kernel_rfl)) (And.intro (.inr rfl) (And.intro rfl (And.intro (by kernel_rfl) (by kernel_rfl)))))
def f_bits_Reader_Bit_b86.f (a0_c0 : List Int) (a0_c1 : Int) (a0_c2 : Int) : Option (Bool × Int × Int) := ((if (a0_c2 != (0 : Int)) = true then (some true) else (some (decide (a0_c1 ≥ (IntKind.i64.wrap ((8 : Int) * (a0_c0.length : Int))))))) : Option (Bool)) >>= fun x3730 => if x3730 = true then ((f_bits_Reader_fail_b86.f a0_c0 a0_c1 a0_c2 7) >>= fun t3738 => some (false, a0_c1, t3738)) else ((at? a0_c0 (IntKind.i64.wrap (Int.tdiv a0_c1 (8 : Int)))) >>= fun b3744 => (chk (0 ≤ (IntKind.u64.wrap ((7 : Int) - (IntKind.u64.wrap (Int.tmod a0_c1 (8 : Int))))))) >>= fun _ => some (((IntKind.u8.wrap (((BitVec.toNat (BitVec.ofInt 8 (Int.fdiv b3744 (2 ^ (min (Int.toNat (IntKind.u64.wrap ((7 : Int) - (IntKind.u64.wrap (Int.tmod a0_c1 (8 : Int)))))) 8))) &&& BitVec.ofInt 8 (1 : Int)) : Nat) : Int))) == (1 : Int)), IntKind.i64.wrap (a0_c1 + (1 : Int)), a0_c2))
theorem f_bits_Reader_Bit_b86.ok (a0_c0 : List Int) (a0_c1 : Int) (a0_c2 : Int) (r : Bool × Int × Int) (H : f_bits_Reader_Bit_b86.f a0_c0 a0_c1 a0_c2 = some r) : Pv.Fn Try.prog 92 [.ptr 0 0 0] [(0, some (.box 154 (abits_Reader ⟨a0_c0, a0_c1, a0_c2⟩)))] 1 (fun x o => x = bV r.1 ∧ o = [(0, some (.box 154 (abits_Reader ⟨a0_c0, r.2.1, r.2.2⟩)))]) := by
  unfold f_bits_Reader_Bit_b86.f at H
  refine Fn.bodyK [0] Try.func92 rfl rfl (fun Γ hP hn => ?_)
  have hm : Try.prog.follows .mixedOrders = true := by kernel_rfl
  replace hn : Γ.n = 53 := hn
  refine AWp.seq ?_
  refine reg hP hn hm [] [0] [0] ⟨[(0, .ptr 0 0 0)], [(0, some (.box 154 (abits_Reader ⟨a0_c0, a0_c1, a0_c2⟩)))], 1⟩ [] (by kernel_rfl) trivial ?_
  refine AWp.seq ?_
  refine AWp.seq ?_
  obtain ⟨o3748, e3749, H⟩ := bind_of H
  refine AWp.mono (Q := fun e s => (match (generalizing := false) o3748 with | x3730 => e = .normal ∧ s = ⟨[(0, .ptr 0 0 0), (21, bV x3730)], [(0, some (.box 154 (abits_Reader ⟨a0_c0, a0_c1, a0_c2⟩)))], 1⟩)) (AWp.cv ?_) ?_
  · replace H := e3749; clear e3749
    rcases Bool.eq_false_or_eq_true (a0_c2 != (0 : Int)) with c3729 | c3729
    · replace H := (ifT c3729).symm.trans H
      refine reg hP hn hm [(5, .b true)] [0, 21] [0] ⟨[(0, .ptr 0 0 0), (21, bV true)], [(0, some (.box 154 (abits_Reader ⟨a0_c0, a0_c1, a0_c2⟩)))], 1⟩ [(a0_c2 != (0 : Int)) = true] (by kernel_rfl) ⟨by exact c3729, trivial⟩ ?_
      obtain rfl := Option.some.inj H
      exact Exists.intro _ (And.intro (fun _ _ h => h.conv (inv := [(0, 0)]) (vk := []) (e0 := []) (t := ⟨[(0, .ptr 0 0 0), (21, bV true)], [(0, some (.box 154 (abits_Reader ⟨a0_c0, a0_c1, a0_c2⟩)))], 1⟩) (by kernel_rfl)) (And.intro rfl rfl))
    · replace H := (ifF c3729).symm.trans H
      refine reg hP hn hm [(5, .b false), (14, .any (iV .i64 (a0_c0.length : Int)))] [0, 21] [0] ⟨[(0, .ptr 0 0 0), (21, bV (decide (a0_c1 ≥ (IntKind.i64.wrap ((8 : Int) * (a0_c0.length : Int))))))], [(0, some (.box 154 (abits_Reader ⟨a0_c0, a0_c1, a0_c2⟩)))], 1⟩ [(a0_c2 != (0 : Int)) = false, ((a0_c0.map (encInt .u8)).length : Int) = (a0_c0.length : Int)] (by kernel_rfl) ⟨by exact c3729, by rw [len_map], trivial⟩ ?_
      obtain rfl := Option.some.inj H
      exact Exists.intro _ (And.intro (fun _ _ h => h.conv (inv := [(0, 0)]) (vk := []) (e0 := []) (t := ⟨[(0, .ptr 0 0 0), (21, bV (decide (a0_c1 ≥ (IntKind.i64.wrap ((8 : Int) * (a0_c0.length : Int))))))], [(0, some (.box 154 (abits_Reader ⟨a0_c0, a0_c1, a0_c2⟩)))], 1⟩) (by kernel_rfl)) (And.intro rfl rfl))
  · obtain ⟨x3730, rfl⟩ : ∃ z, z = o3748 := ⟨_, rfl⟩
    rintro e s ⟨rfl, rfl⟩
    refine AWp.cond x3730 rfl (fun c3731 => ?_) (fun c3731 => ?_)
    · replace H := (ifT c3731).symm.trans H
      refine AWp.seq ?_
      obtain ⟨t3738, e3739, H⟩ := bind_of H
      refine reg hP hn hm [(1, .call [(0, 0)] [(0, 0)] [] [] 1 (.tup []) [(0, some (.box 154 (abits_Reader ⟨a0_c0, a0_c1, t3738⟩)))])] [] [0] ⟨[], [(0, some (.box 154 (abits_Reader ⟨a0_c0, a0_c1, t3738⟩)))], 1⟩ [Enters Try.prog 91, Pv.Fn Try.prog 91 [.ptr 0 0 0, iV .i64 7] [(0, some (.box 154 (abits_Reader ⟨a0_c0, a0_c1, a0_c2⟩)))] 1 (fun r o => r = .tup [] ∧ o = [(0, some (.box 154 (abits_Reader ⟨a0_c0, a0_c1, t3738⟩)))])] (by kernel_rfl) ⟨by exact Try.call91, by exact f_bits_Reader_fail_b86.ok a0_c0 a0_c1 a0_c2 7 t3738 e3739, trivial⟩ ?_
      refine AWp.seq ?_
      refine reg hP hn hm [] [2] [0] ⟨[(2, bV false)], [(0, some (.box 154 (abits_Reader ⟨a0_c0, a0_c1, t3738⟩)))], 1⟩ [] (by kernel_rfl) trivial ?_
      refine AWp.conv (inv := [(0, 0)]) (vk := []) (e0 := []) (t := ⟨[(2, bV false)], [(0, some (.box 154 (abits_Reader ⟨a0_c0, a0_c1, t3738⟩)))], 1⟩) (by kernel_rfl) ?_
      refine AWp.ret ?_
      obtain rfl := Option.some.inj H
      exact Exists.intro _ (And.intro (fun _ _ h => h) (And.intro (.inl rfl) (And.intro rfl (And.intro (by kernel_rfl) (by kernel_rfl)))))
    · replace H := (ifF c3731).symm.trans H
      refine AWp.skip ?_
      refine AWp.seq ?_
      obtain ⟨b3744, p3745, q3746, H⟩ := at_of H
      obtain ⟨c3747, H⟩ := chk_of H
      refine reg hP hn hm [(9, .c ((encInt .u8) b3744))] [0, 3] [0] ⟨[(0, .ptr 0 0 0), (3, bV ((IntKind.u8.wrap (((BitVec.toNat (BitVec.ofInt 8 (Int.fdiv b3744 (2 ^ (min (Int.toNat (IntKind.u64.wrap ((7 : Int) - (IntKind.u64.wrap (Int.tmod a0_c1 (8 : Int)))))) 8))) &&& BitVec.ofInt 8 (1 : Int)) : Nat) : Int))) == (1 : Int)))], [(0, some (.box 154 (abits_Reader ⟨a0_c0, a0_c1, a0_c2⟩)))], 1⟩ [(8 : Int) ≠ 0, 0 ≤ (IntKind.i64.wrap (Int.tdiv a0_c1 (8 : Int))), (a0_c0.map (encInt .u8))[(Int.toNat (IntKind.i64.wrap (Int.tdiv a0_c1 (8 : Int))))]? = some ((encInt .u8) b3744), (8 : Int) ≠ 0, 0 ≤ (IntKind.u64.wrap ((7 : Int) - (IntKind.u64.wrap (Int.tmod a0_c1 (8 : Int)))))] (by kernel_rfl) ⟨by decide, by exact p3745, by exact el_map (encInt .u8) q3746, by decide, by exact c3747, trivial⟩ ?_
      refine AWp.seq ?_
      refine reg hP hn hm [] [3] [0] ⟨[(3, bV ((IntKind.u8.wrap (((BitVec.toNat (BitVec.ofInt 8 (Int.fdiv b3744 (2 ^ (min (Int.toNat (IntKind.u64.wrap ((7 : Int) - (IntKind.u64.wrap (Int.tmod a0_c1 (8 : Int)))))) 8))) &&& BitVec.ofInt 8 (1 : Int)) : Nat) : Int))) == (1 : Int)))], [(0, some (.box 154 (abits_Reader ⟨a0_c0, (IntKind.i64.wrap (a0_c1 + (1 : Int))), a0_c2⟩)))], 1⟩ [] (by kernel_rfl) trivial ?_
      refine AWp.seq ?_
      refine reg hP hn hm [] [2] [0] ⟨[(2, bV ((IntKind.u8.wrap (((BitVec.toNat (BitVec.ofInt 8 (Int.fdiv b3744 (2 ^ (min (Int.toNat (IntKind.u64.wrap ((7 : Int) - (IntKind.u64.wrap (Int.tmod a0_c1 (8 : Int)))))) 8))) &&& BitVec.ofInt 8 (1 : Int)) : Nat) : Int))) == (1 : Int)))], [(0, some (.box 154 (abits_Reader ⟨a0_c0, (IntKind.i64.wrap (a0_c1 + (1 : Int))), a0_c2⟩)))], 1⟩ [] (by kernel_rfl) trivial ?_
      refine AWp.conv (inv := [(0, 0)]) (vk := []) (e0 := []) (t := ⟨[(2, bV ((IntKind.u8.wrap (((BitVec.toNat (BitVec.ofInt 8 (Int.fdiv b3744 (2 ^ (min (Int.toNat (IntKind.u64.wrap ((7 : Int) - (IntKind.u64.wrap (Int.tmod a0_c1 (8 : Int)))))) 8))) &&& BitVec.ofInt 8 (1 : Int)) : Nat) : Int))) == (1 : Int)))], [(0, some (.box 154 (abits_Reader ⟨a0_c0, (IntKind.i64.wrap (a0_c1 + (1 : Int))), a0_c2⟩)))], 1⟩) (by kernel_rfl) ?_
      refine AWp.ret ?_
      obtain rfl := Option.some.inj H
      exact Exists.intro _ (And.intro (fun _ _ h => h) (And.intro (.inl rfl) (And.intro rfl (And.intro (by kernel_rfl) (by kernel_rfl)))))
def f_bits_Reader_Get_b86.l0 (a0_c0 : List Int) (a1 : Int) (x3785 : Int) (x3786 : Int) (x3787 : Int) (x3788 : Int) : Option (Int × Int × Int) := if (decide (x3788 < (if (if (64 : Int) < a1 then (64 : Int) else a1) > (0 : Int) then (if (64 : Int) < a1 then (64 : Int) else a1) else (0 : Int)))) = true then ((f_bits_Reader_Bit_b86.f a0_c0 x3785 x3786) >>= fun t3792 => ((if t3792.1 = true then (some (IntKind.u64.wrap (((BitVec.toNat (BitVec.ofInt 64 (IntKind.u64.wrap (x3787 * 2)) ||| BitVec.ofInt 64 (1 : Int)) : Nat) : Int)))) else (some (IntKind.u64.wrap (x3787 * 2)))) : Option (Int)) >>= fun x3795 => f_bits_Reader_Get_b86.l0 a0_c0 a1 t3792.2.1 t3792.2.2 x3795 (IntKind.i64.wrap (x3788 + (1 : Int)))) else (some (x3785, x3786, x3787))
partial_fixpoint
def f_bits_Reader_Get_b86.f (a0_c0 : List Int) (a0_c1 : Int) (a0_c2 : Int) (a1 : Int) : Option (Int × Int × Int) := (f_bits_Reader_Get_b86.l0 a0_c0 a1 a0_c1 a0_c2 0 0) >>= fun oo => match oo with | (x3796, x3797, x3798) => (if (x3797 != (0 : Int)) = true then (some (0, x3796, x3797)) else (some (x3798, x3796, x3797)))
theorem f_bits_Reader_Get_b86.ok (a0_c0 : List Int) (a0_c1 : Int) (a0_c2 : Int) (a1 : Int) (r : Int × Int × Int) (H : f_bits_Reader_Get_b86.f a0_c0 a0_c1 a0_c2 a1 = some r) : Pv.Fn Try.prog 141 [.ptr 0 0 0, iV .i64 a1] [(0, some (.box 154 (abits_Reader ⟨a0_c0, a0_c1, a0_c2⟩)))] 1 (fun x o => x = iV .u64 r.1 ∧ o = [(0, some (.box 154 (abits_Reader ⟨a0_c0, r.2.1, r.2.2⟩)))]) := by
  unfold f_bits_Reader_Get_b86.f at H
  refine Fn.bodyK [0] Try.func141 rfl rfl (fun Γ hP hn => ?_)
  have hm : Try.prog.follows .mixedOrders = true := by kernel_rfl
  replace hn : Γ.n = 24 := hn
  refine AWp.seq ?_
  refine reg hP hn hm [] [0, 1] [0] ⟨[(0, .ptr 0 0 0), (1, iV .i64 a1)], [(0, some (.box 154 (abits_Reader ⟨a0_c0, a0_c1, a0_c2⟩)))], 1⟩ [] (by kernel_rfl) trivial ?_
  refine AWp.seq ?_
  refine reg hP hn hm [] [0, 1, 5] [0] ⟨[(0, .ptr 0 0 0), (1, iV .i64 a1), (5, iV .u64 0)], [(0, some (.box 154 (abits_Reader ⟨a0_c0, a0_c1, a0_c2⟩)))], 1⟩ [] (by kernel_rfl) trivial ?_
  refine AWp.seq ?_
  refine AWp.seq ?_
  refine reg hP hn hm [(1, .more xMin), (2, .more xMax)] [0, 5, 8, 9] [0] ⟨[(0, .ptr 0 0 0), (5, iV .u64 0), (8, iV .i64 (if (if (64 : Int) < a1 then (64 : Int) else a1) > (0 : Int) then (if (64 : Int) < a1 then (64 : Int) else a1) else (0 : Int))), (9, iV .i64 0)], [(0, some (.box 154 (abits_Reader ⟨a0_c0, a0_c1, a0_c2⟩)))], 1⟩ [] (by kernel_rfl) trivial ?_
  refine AWp.block ?_
  obtain ⟨o3800, e3801, H⟩ := bind_of H
  refine AWp.loop (LWp.conv (inv := [(0, 0)]) (vk := []) (e0 := []) (t := ⟨[(0, .ptr 0 0 0), (5, iV .u64 0), (8, iV .i64 (if (if (64 : Int) < a1 then (64 : Int) else a1) > (0 : Int) then (if (64 : Int) < a1 then (64 : Int) else a1) else (0 : Int))), (9, iV .i64 0)], [(0, some (.box 154 (abits_Reader ⟨a0_c0, a0_c1, a0_c2⟩)))], 1⟩) (by kernel_rfl) ?_)
  refine LWp.mono (Q := fun e s => (match (generalizing := false) o3800 with | (x3796, x3797, x3798) => e = .exit 0 ∧ s = ⟨[(0, .ptr 0 0 0), (5, iV .u64 x3798)], [(0, some (.box 154 (abits_Reader ⟨a0_c0, x3796, x3797⟩)))], 1⟩)) (LWp.cv (withBody (fun body hbody => ?_))) ?_
  · refine f_bits_Reader_Get_b86.l0.partial_correctness a0_c0 a1 (motive := fun x3785 x3786 x3787 x3788 o3800 => LWp Γ body (fun e s => ∃ t, Cv Γ s t ∧ (match (generalizing := false) o3800 with | (x3796, x3797, x3798) => e = .exit 0 ∧ t = ⟨[(0, .ptr 0 0 0), (5, iV .u64 x3798)], [(0, some (.box 154 (abits_Reader ⟨a0_c0, x3796, x3797⟩)))], 1⟩)) ⟨[(0, .ptr 0 0 0), (5, iV .u64 x3787), (8, iV .i64 (if (if (64 : Int) < a1 then (64 : Int) else a1) > (0 : Int) then (if (64 : Int) < a1 then (64 : Int) else a1) else (0 : Int))), (9, iV .i64 x3788)], [(0, some (.box 154 (abits_Reader ⟨a0_c0, x3785, x3786⟩)))], 1⟩) ?_ _ _ _ _ _ e3801
    clear H e3801 o3800; intro self ih x3785 x3786 x3787 x3788 o3800 H
    subst hbody
    refine LWp.round ?_
    refine AWp.seq ?_
    refine reg hP hn hm [] [0, 5, 8, 9, 10] [0] ⟨[(0, .ptr 0 0 0), (5, iV .u64 x3787), (8, iV .i64 (if (if (64 : Int) < a1 then (64 : Int) else a1) > (0 : Int) then (if (64 : Int) < a1 then (64 : Int) else a1) else (0 : Int))), (9, iV .i64 x3788), (10, bV (decide (x3788 < (if (if (64 : Int) < a1 then (64 : Int) else a1) > (0 : Int) then (if (64 : Int) < a1 then (64 : Int) else a1) else (0 : Int)))))], [(0, some (.box 154 (abits_Reader ⟨a0_c0, x3785, x3786⟩)))], 1⟩ [] (by kernel_rfl) trivial ?_
    refine AWp.seq ?_
    refine AWp.cond (decide (x3788 < (if (if (64 : Int) < a1 then (64 : Int) else a1) > (0 : Int) then (if (64 : Int) < a1 then (64 : Int) else a1) else (0 : Int)))) rfl (fun c3789 => ?_) (fun c3789 => ?_)
    · replace H := (ifT c3789).symm.trans H
      refine AWp.skip ?_
      refine AWp.seq ?_
      refine AWp.block ?_
      refine AWp.seq ?_
      refine reg hP hn hm [] [0, 5, 8, 9] [0] ⟨[(0, .ptr 0 0 0), (5, iV .u64 (IntKind.u64.wrap (x3787 * 2))), (8, iV .i64 (if (if (64 : Int) < a1 then (64 : Int) else a1) > (0 : Int) then (if (64 : Int) < a1 then (64 : Int) else a1) else (0 : Int))), (9, iV .i64 x3788)], [(0, some (.box 154 (abits_Reader ⟨a0_c0, x3785, x3786⟩)))], 1⟩ [(0 : Int) ≤ 1] (by kernel_rfl) ⟨by decide, trivial⟩ ?_
      refine AWp.seq ?_
      obtain ⟨t3792, e3793, H⟩ := bind_of H
      refine reg hP hn hm [(1, .call [(0, 0)] [(0, 0)] [] [] 1 (bV t3792.1) [(0, some (.box 154 (abits_Reader ⟨a0_c0, t3792.2.1, t3792.2.2⟩)))])] [0, 5, 8, 9, 14] [0] ⟨[(0, .ptr 0 0 0), (5, iV .u64 (IntKind.u64.wrap (x3787 * 2))), (8, iV .i64 (if (if (64 : Int) < a1 then (64 : Int) else a1) > (0 : Int) then (if (64 : Int) < a1 then (64 : Int) else a1) else (0 : Int))), (9, iV .i64 x3788), (14, bV t3792.1)], [(0, some (.box 154 (abits_Reader ⟨a0_c0, t3792.2.1, t3792.2.2⟩)))], 1⟩ [Enters Try.prog 92, Pv.Fn Try.prog 92 [.ptr 0 0 0] [(0, some (.box 154 (abits_Reader ⟨a0_c0, x3785, x3786⟩)))] 1 (fun r o => r = bV t3792.1 ∧ o = [(0, some (.box 154 (abits_Reader ⟨a0_c0, t3792.2.1, t3792.2.2⟩)))])] (by kernel_rfl) ⟨by exact Try.call92, by exact f_bits_Reader_Bit_b86.ok a0_c0 x3785 x3786 t3792 e3793, trivial⟩ ?_
      obtain ⟨o3802, e3803, H⟩ := bind_of H
      refine AWp.mono (Q := fun e s => (match (generalizing := false) o3802 with | x3795 => e = .normal ∧ s = ⟨[(0, .ptr 0 0 0), (5, iV .u64 x3795), (8, iV .i64 (if (if (64 : Int) < a1 then (64 : Int) else a1) > (0 : Int) then (if (64 : Int) < a1 then (64 : Int) else a1) else (0 : Int))), (9, iV .i64 x3788)], [(0, some (.box 154 (abits_Reader ⟨a0_c0, t3792.2.1, t3792.2.2⟩)))], 1⟩)) (AWp.cv ?_) ?_
      · replace H := e3803; clear e3803
        refine AWp.cond t3792.1 rfl (fun c3794 => ?_) (fun c3794 => ?_)
        · replace H := (ifT c3794).symm.trans H
          refine reg hP hn hm [] [0, 5, 8, 9] [0] ⟨[(0, .ptr 0 0 0), (5, iV .u64 (IntKind.u64.wrap (((BitVec.toNat (BitVec.ofInt 64 (IntKind.u64.wrap (x3787 * 2)) ||| BitVec.ofInt 64 (1 : Int)) : Nat) : Int)))), (8, iV .i64 (if (if (64 : Int) < a1 then (64 : Int) else a1) > (0 : Int) then (if (64 : Int) < a1 then (64 : Int) else a1) else (0 : Int))), (9, iV .i64 x3788)], [(0, some (.box 154 (abits_Reader ⟨a0_c0, t3792.2.1, t3792.2.2⟩)))], 1⟩ [] (by kernel_rfl) trivial ?_
          obtain rfl := Option.some.inj H
          exact Exists.intro _ (And.intro (fun _ _ h => h.conv (inv := [(0, 0)]) (vk := []) (e0 := []) (t := ⟨[(0, .ptr 0 0 0), (5, iV .u64 (IntKind.u64.wrap (((BitVec.toNat (BitVec.ofInt 64 (IntKind.u64.wrap (x3787 * 2)) ||| BitVec.ofInt 64 (1 : Int)) : Nat) : Int)))), (8, iV .i64 (if (if (64 : Int) < a1 then (64 : Int) else a1) > (0 : Int) then (if (64 : Int) < a1 then (64 : Int) else a1) else (0 : Int))), (9, iV .i64 x3788)], [(0, some (.box 154 (abits_Reader ⟨a0_c0, t3792.2.1, t3792.2.2⟩)))], 1⟩) (by kernel_rfl)) (And.intro rfl rfl))
        · replace H := (ifF c3794).symm.trans H
          refine AWp.skip ?_
          obtain rfl := Option.some.inj H
          exact Exists.intro _ (And.intro (fun _ _ h => h.conv (inv := [(0, 0)]) (vk := []) (e0 := []) (t := ⟨[(0, .ptr 0 0 0), (5, iV .u64 (IntKind.u64.wrap (x3787 * 2))), (8, iV .i64 (if (if (64 : Int) < a1 then (64 : Int) else a1) > (0 : Int) then (if (64 : Int) < a1 then (64 : Int) else a1) else (0 : Int))), (9, iV .i64 x3788)], [(0, some (.box 154 (abits_Reader ⟨a0_c0, t3792.2.1, t3792.2.2⟩)))], 1⟩) (by kernel_rfl)) (And.intro rfl rfl))
      · obtain ⟨x3795, rfl⟩ : ∃ z, z = o3802 := ⟨_, rfl⟩
        rintro e s ⟨rfl, rfl⟩
        refine reg hP hn hm [] [0, 5, 8, 9] [0] ⟨[(0, .ptr 0 0 0), (5, iV .u64 x3795), (8, iV .i64 (if (if (64 : Int) < a1 then (64 : Int) else a1) > (0 : Int) then (if (64 : Int) < a1 then (64 : Int) else a1) else (0 : Int))), (9, iV .i64 (IntKind.i64.wrap (x3788 + (1 : Int))))], [(0, some (.box 154 (abits_Reader ⟨a0_c0, t3792.2.1, t3792.2.2⟩)))], 1⟩ [] (by kernel_rfl) trivial ?_
        exact LWp.conv (inv := [(0, 0)]) (vk := []) (e0 := []) (t := ⟨[(0, .ptr 0 0 0), (5, iV .u64 x3795), (8, iV .i64 (if (if (64 : Int) < a1 then (64 : Int) else a1) > (0 : Int) then (if (64 : Int) < a1 then (64 : Int) else a1) else (0 : Int))), (9, iV .i64 (IntKind.i64.wrap (x3788 + (1 : Int))))], [(0, some (.box 154 (abits_Reader ⟨a0_c0, t3792.2.1, t3792.2.2⟩)))], 1⟩) (by kernel_rfl) (ih _ _ _ _ _ H)
    · replace H := (ifF c3789).symm.trans H
      refine AWp.exit ?_
      obtain rfl := Option.some.inj H
      exact Exists.intro _ (And.intro (fun _ _ h => h.conv (inv := [(0, 0)]) (vk := []) (e0 := []) (t := ⟨[(0, .ptr 0 0 0), (5, iV .u64 x3787)], [(0, some (.box 154 (abits_Reader ⟨a0_c0, x3785, x3786⟩)))], 1⟩) (by kernel_rfl)) (And.intro rfl rfl))
  · obtain ⟨x3796, x3797, x3798⟩ := o3800
    rintro e s ⟨rfl, rfl⟩
    refine AWp.seq ?_
    refine AWp.seq ?_
    refine reg hP hn hm [] [5, 22] [0] ⟨[(5, iV .u64 x3798), (22, bV (x3797 != (0 : Int)))], [(0, some (.box 154 (abits_Reader ⟨a0_c0, x3796, x3797⟩)))], 1⟩ [] (by kernel_rfl) trivial ?_
    refine AWp.cond (x3797 != (0 : Int)) rfl (fun c3799 => ?_) (fun c3799 => ?_)
    · replace H := (ifT c3799).symm.trans H
      refine AWp.seq ?_
      refine reg hP hn hm [] [4] [0] ⟨[(4, iV .u64 0)], [(0, some (.box 154 (abits_Reader ⟨a0_c0, x3796, x3797⟩)))], 1⟩ [] (by kernel_rfl) trivial ?_
      refine AWp.conv (inv := [(0, 0)]) (vk := []) (e0 := []) (t := ⟨[(4, iV .u64 0)], [(0, some (.box 154 (abits_Reader ⟨a0_c0, x3796, x3797⟩)))], 1⟩) (by kernel_rfl) ?_
      refine AWp.ret ?_
      obtain rfl := Option.some.inj H
      exact Exists.intro _ (And.intro (fun _ _ h => h) (And.intro (.inl rfl) (And.intro rfl (And.intro (by kernel_rfl) (by kernel_rfl)))))
    · replace H := (ifF c3799).symm.trans H
      refine AWp.skip ?_
      refine AWp.seq ?_
      refine reg hP hn hm [] [4] [0] ⟨[(4, iV .u64 x3798)], [(0, some (.box 154 (abits_Reader ⟨a0_c0, x3796, x3797⟩)))], 1⟩ [] (by kernel_rfl) trivial ?_
      refine AWp.conv (inv := [(0, 0)]) (vk := []) (e0 := []) (t := ⟨[(4, iV .u64 x3798)], [(0, some (.box 154 (abits_Reader ⟨a0_c0, x3796, x3797⟩)))], 1⟩) (by kernel_rfl) ?_
      refine AWp.ret ?_
      obtain rfl := Option.some.inj H
      exact Exists.intro _ (And.intro (fun _ _ h => h) (And.intro (.inl rfl) (And.intro rfl (And.intro (by kernel_rfl) (by kernel_rfl)))))
def f_bits_Reader_Count_b86.l0 (a0_c0 : List Int) (t3725 : List Int) (x3759 : Int) (x3760 : Int) (x3761 : Int) : Option (Int × Int × Int) := ((if (decide (x3761 < (IntKind.i64.wrap ((t3725.length : Int) - (1 : Int))))) = true then ((f_bits_Reader_Bit_b86.f a0_c0 x3759 x3760) >>= fun t3766 => some (t3766.2.1, t3766.2.2, t3766.1)) else (some (x3759, x3760, false))) : Option (Int × Int × Bool)) >>= fun oo => match oo with | (x3768, x3769, x3770) => (if x3770 = true then (f_bits_Reader_Count_b86.l0 a0_c0 t3725 x3768 x3769 (IntKind.i64.wrap (x3761 + (1 : Int)))) else (some (x3768, x3769, x3761)))
partial_fixpoint
def f_bits_Reader_Count_b86.f (a0_c0 : List Int) (a0_c1 : Int) (a0_c2 : Int) : Option (Int × Int × Int) := (f_bits_classes.f) >>= fun t3725 => (f_bits_Reader_Count_b86.l0 a0_c0 t3725 a0_c1 a0_c2 0) >>= fun oo => match oo with | (x3772, x3773, x3774) => ((at? t3725 x3774) >>= fun b3806 => (f_bits_Reader_Get_b86.f a0_c0 x3772 x3773 b3806) >>= fun t3809 => ((if (decide (x3774 > (0 : Int))) = true then ((f_bits_long.f t3809.1) >>= fun t3818 => (at? t3725 (IntKind.i64.wrap (x3774 - (1 : Int)))) >>= fun b3820 => some (decide (t3818 ≤ b3820))) else (some false)) : Option (Bool)) >>= fun x3823 => ((if x3823 = true then ((f_bits_Reader_fail_b86.f a0_c0 t3809.2.1 t3809.2.2 6) >>= fun t3827 => some t3827) else (some t3809.2.2)) : Option (Int)) >>= fun x3829 => if (x3829 != (0 : Int)) = true then (some (0, t3809.2.1, x3829)) else (some (t3809.1, t3809.2.1, x3829)))
theorem f_bits_Reader_Count_b86.ok (a0_c0 : List Int) (a0_c1 : Int) (a0_c2 : Int) (r : Int × Int × Int) (H : f_bits_Reader_Count_b86.f a0_c0 a0_c1 a0_c2 = some r) : Pv.Fn Try.prog 119 [.ptr 0 0 0] [(0, some (.box 154 (abits_Reader ⟨a0_c0, a0_c1, a0_c2⟩)))] 1 (fun x o => x = iV .u64 r.1 ∧ o = [(0, some (.box 154 (abits_Reader ⟨a0_c0, r.2.1, r.2.2⟩)))]) := by
  unfold f_bits_Reader_Count_b86.f at H
  refine Fn.bodyK [0] Try.func119 rfl rfl (fun Γ hP hn => ?_)
  have hm : Try.prog.follows .mixedOrders = true := by kernel_rfl
  replace hn : Γ.n = 44 := hn
  refine AWp.seq ?_
  refine reg hP hn hm [] [0] [0] ⟨[(0, .ptr 0 0 0)], [(0, some (.box 154 (abits_Reader ⟨a0_c0, a0_c1, a0_c2⟩)))], 1⟩ [] (by kernel_rfl) trivial ?_
  refine AWp.seq ?_
  obtain ⟨t3725, e3726, H⟩ := bind_of H
  refine reg hP hn hm [(0, .call [] [(0, 1)] [] [1] 0 (.own 0) [(0, some (.row 1 3 (t3725.map (encInt .i64))))])] [0, 3] [0, 1] ⟨[(0, .ptr 0 0 0), (3, .own 1)], [(0, some (.box 154 (abits_Reader ⟨a0_c0, a0_c1, a0_c2⟩))), (1, some (.row 1 3 (t3725.map (encInt .i64))))], 1⟩ [Enters Try.prog 114, Pv.Fn Try.prog 114 [] [] 0 (fun r o => r = .own 0 ∧ o = [(0, some (.row 1 3 (t3725.map (encInt .i64))))])] (by kernel_rfl) ⟨by exact Try.call114, by exact f_bits_classes.ok  t3725 e3726, trivial⟩ ?_
  refine AWp.seq ?_
  refine reg hP hn hm [] [0, 3, 4] [0, 1] ⟨[(0, .ptr 0 0 0), (3, .own 1), (4, iV .i64 0)], [(0, some (.box 154 (abits_Reader ⟨a0_c0, a0_c1, a0_c2⟩))), (1, some (.row 1 3 (t3725.map (encInt .i64))))], 1⟩ [] (by kernel_rfl) trivial ?_
  refine AWp.seq ?_
  refine AWp.block ?_
  obtain ⟨o3831, e3832, H⟩ := bind_of H
  refine AWp.loop (LWp.conv (inv := [(0, 0), (1, 3)]) (vk := []) (e0 := []) (t := ⟨[(0, .ptr 0 0 0), (3, .own 3), (4, iV .i64 0)], [(0, some (.box 154 (abits_Reader ⟨a0_c0, a0_c1, a0_c2⟩))), (3, some (.row 1 3 (t3725.map (encInt .i64))))], 1⟩) (by kernel_rfl) ?_)
  refine LWp.mono (Q := fun e s => (match (generalizing := false) o3831 with | (x3772, x3773, x3774) => e = .exit 0 ∧ s = ⟨[(0, .ptr 0 0 0), (3, .own 5), (4, iV .i64 x3774)], [(0, some (.box 154 (abits_Reader ⟨a0_c0, x3772, x3773⟩))), (5, some (.row 1 3 (t3725.map (encInt .i64))))], 1⟩)) (LWp.cv (withBody (fun body hbody => ?_))) ?_
  · refine f_bits_Reader_Count_b86.l0.partial_correctness a0_c0 t3725 (motive := fun x3759 x3760 x3761 o3831 => LWp Γ body (fun e s => ∃ t, Cv Γ s t ∧ (match (generalizing := false) o3831 with | (x3772, x3773, x3774) => e = .exit 0 ∧ t = ⟨[(0, .ptr 0 0 0), (3, .own 5), (4, iV .i64 x3774)], [(0, some (.box 154 (abits_Reader ⟨a0_c0, x3772, x3773⟩))), (5, some (.row 1 3 (t3725.map (encInt .i64))))], 1⟩)) ⟨[(0, .ptr 0 0 0), (3, .own 3), (4, iV .i64 x3761)], [(0, some (.box 154 (abits_Reader ⟨a0_c0, x3759, x3760⟩))), (3, some (.row 1 3 (t3725.map (encInt .i64))))], 1⟩) ?_ _ _ _ _ e3832
    clear H e3832 o3831; intro self ih x3759 x3760 x3761 o3831 H
    subst hbody
    refine LWp.round ?_
    refine AWp.seq ?_
    refine AWp.seq ?_
    obtain ⟨o3833, e3834, H⟩ := bind_of H
    refine AWp.mono (Q := fun e s => (match (generalizing := false) o3833 with | (x3768, x3769, x3770) => e = .normal ∧ s = ⟨[(0, .ptr 0 0 0), (3, .own 4), (4, iV .i64 x3761), (15, bV x3770)], [(0, some (.box 154 (abits_Reader ⟨a0_c0, x3768, x3769⟩))), (4, some (.row 1 3 (t3725.map (encInt .i64))))], 1⟩)) (AWp.cv ?_) ?_
    · replace H := e3834; clear e3834
      rcases Bool.eq_false_or_eq_true (decide (x3761 < (IntKind.i64.wrap ((t3725.length : Int) - (1 : Int))))) with c3765 | c3765
      · replace H := (ifT c3765).symm.trans H
        obtain ⟨t3766, e3767, H⟩ := bind_of H
        refine reg hP hn hm [(2, .any (iV .i64 (t3725.length : Int))), (5, .b true), (7, .call [(0, 0)] [(0, 0)] [] [] 1 (bV t3766.1) [(0, some (.box 154 (abits_Reader ⟨a0_c0, t3766.2.1, t3766.2.2⟩)))])] [0, 3, 4, 13, 14, 15] [0, 3] ⟨[(0, .ptr 0 0 0), (3, .own 3), (4, iV .i64 x3761), (13, .ptr 0 0 0), (14, bV t3766.1), (15, bV t3766.1)], [(0, some (.box 154 (abits_Reader ⟨a0_c0, t3766.2.1, t3766.2.2⟩))), (3, some (.row 1 3 (t3725.map (encInt .i64))))], 1⟩ [((t3725.map (encInt .i64)).length : Int) = (t3725.length : Int), (decide (x3761 < (IntKind.i64.wrap ((t3725.length : Int) - (1 : Int))))) = true, Enters Try.prog 92, Pv.Fn Try.prog 92 [.ptr 0 0 0] [(0, some (.box 154 (abits_Reader ⟨a0_c0, x3759, x3760⟩)))] 1 (fun r o => r = bV t3766.1 ∧ o = [(0, some (.box 154 (abits_Reader ⟨a0_c0, t3766.2.1, t3766.2.2⟩)))])] (by kernel_rfl) ⟨by rw [len_map], by exact c3765, by exact Try.call92, by exact f_bits_Reader_Bit_b86.ok a0_c0 x3759 x3760 t3766 e3767, trivial⟩ ?_
        obtain rfl := Option.some.inj H
        exact Exists.intro _ (And.intro (fun _ _ h => h.conv (inv := [(0, 0), (3, 4)]) (vk := []) (e0 := []) (t := ⟨[(0, .ptr 0 0 0), (3, .own 4), (4, iV .i64 x3761), (15, bV t3766.1)], [(0, some (.box 154 (abits_Reader ⟨a0_c0, t3766.2.1, t3766.2.2⟩))), (4, some (.row 1 3 (t3725.map (encInt .i64))))], 1⟩) (by kernel_rfl)) (And.intro rfl rfl))
      · replace H := (ifF c3765).symm.trans H
        refine reg hP hn hm [(2, .any (iV .i64 (t3725.length : Int))), (5, .b false)] [0, 3, 4, 15] [0, 3] ⟨[(0, .ptr 0 0 0), (3, .own 3), (4, iV .i64 x3761), (15, bV false)], [(0, some (.box 154 (abits_Reader ⟨a0_c0, x3759, x3760⟩))), (3, some (.row 1 3 (t3725.map (encInt .i64))))], 1⟩ [((t3725.map (encInt .i64)).length : Int) = (t3725.length : Int), (decide (x3761 < (IntKind.i64.wrap ((t3725.length : Int) - (1 : Int))))) = false] (by kernel_rfl) ⟨by rw [len_map], by exact c3765, trivial⟩ ?_
        obtain rfl := Option.some.inj H
        exact Exists.intro _ (And.intro (fun _ _ h => h.conv (inv := [(0, 0), (3, 4)]) (vk := []) (e0 := []) (t := ⟨[(0, .ptr 0 0 0), (3, .own 4), (4, iV .i64 x3761), (15, bV false)], [(0, some (.box 154 (abits_Reader ⟨a0_c0, x3759, x3760⟩))), (4, some (.row 1 3 (t3725.map (encInt .i64))))], 1⟩) (by kernel_rfl)) (And.intro rfl rfl))
    · obtain ⟨x3768, x3769, x3770⟩ := o3833
      rintro e s ⟨rfl, rfl⟩
      refine AWp.cond x3770 rfl (fun c3771 => ?_) (fun c3771 => ?_)
      · replace H := (ifT c3771).symm.trans H
        refine AWp.skip ?_
        refine AWp.block ?_
        refine reg hP hn hm [] [0, 3, 4] [0, 4] ⟨[(0, .ptr 0 0 0), (3, .own 4), (4, iV .i64 (IntKind.i64.wrap (x3761 + (1 : Int))))], [(0, some (.box 154 (abits_Reader ⟨a0_c0, x3768, x3769⟩))), (4, some (.row 1 3 (t3725.map (encInt .i64))))], 1⟩ [] (by kernel_rfl) trivial ?_
        exact LWp.conv (inv := [(0, 0), (4, 3)]) (vk := []) (e0 := []) (t := ⟨[(0, .ptr 0 0 0), (3, .own 3), (4, iV .i64 (IntKind.i64.wrap (x3761 + (1 : Int))))], [(0, some (.box 154 (abits_Reader ⟨a0_c0, x3768, x3769⟩))), (3, some (.row 1 3 (t3725.map (encInt .i64))))], 1⟩) (by kernel_rfl) (ih _ _ _ _ H)
      · replace H := (ifF c3771).symm.trans H
        refine AWp.exit ?_
        obtain rfl := Option.some.inj H
        exact Exists.intro _ (And.intro (fun _ _ h => h.conv (inv := [(0, 0), (4, 5)]) (vk := []) (e0 := []) (t := ⟨[(0, .ptr 0 0 0), (3, .own 5), (4, iV .i64 x3761)], [(0, some (.box 154 (abits_Reader ⟨a0_c0, x3768, x3769⟩))), (5, some (.row 1 3 (t3725.map (encInt .i64))))], 1⟩) (by kernel_rfl)) (And.intro rfl rfl))
  · obtain ⟨x3772, x3773, x3774⟩ := o3831
    rintro e s ⟨rfl, rfl⟩
    refine AWp.seq ?_
    obtain ⟨b3806, p3807, q3808, H⟩ := at_of H
    obtain ⟨t3809, e3810, H⟩ := bind_of H
    refine reg hP hn hm [(4, .c ((encInt .i64) b3806)), (5, .call [(0, 0)] [(0, 0)] [] [] 1 (iV .u64 t3809.1) [(0, some (.box 154 (abits_Reader ⟨a0_c0, t3809.2.1, t3809.2.2⟩)))])] [0, 3, 4, 5] [0, 5] ⟨[(0, .ptr 0 0 0), (3, .own 5), (4, iV .i64 x3774), (5, iV .u64 t3809.1)], [(0, some (.box 154 (abits_Reader ⟨a0_c0, t3809.2.1, t3809.2.2⟩))), (5, some (.row 1 3 (t3725.map (encInt .i64))))], 1⟩ [0 ≤ x3774, x3774 < (((t3725.map (encInt .i64)).length : Nat) : Int), (t3725.map (encInt .i64))[(Int.toNat (x3774))]? = some ((encInt .i64) b3806), Enters Try.prog 141, Pv.Fn Try.prog 141 [.ptr 0 0 0, iV .i64 b3806] [(0, some (.box 154 (abits_Reader ⟨a0_c0, x3772, x3773⟩)))] 1 (fun r o => r = iV .u64 t3809.1 ∧ o = [(0, some (.box 154 (abits_Reader ⟨a0_c0, t3809.2.1, t3809.2.2⟩)))])] (by kernel_rfl) ⟨by exact p3807, by exact el_lt (encInt .i64) p3807 q3808, by exact el_map (encInt .i64) q3808, by exact Try.call141, by exact f_bits_Reader_Get_b86.ok a0_c0 x3772 x3773 b3806 t3809 e3810, trivial⟩ ?_
    refine AWp.seq ?_
    refine AWp.seq ?_
    obtain ⟨o3835, e3836, H⟩ := bind_of H
    refine AWp.mono (Q := fun e s => (match (generalizing := false) o3835 with | x3823 => e = .normal ∧ s = ⟨[(0, .ptr 0 0 0), (5, iV .u64 t3809.1), (35, bV x3823)], [(0, some (.box 154 (abits_Reader ⟨a0_c0, t3809.2.1, t3809.2.2⟩)))], 1⟩)) (AWp.cv ?_) ?_
    · replace H := e3836; clear e3836
      rcases Bool.eq_false_or_eq_true (decide (x3774 > (0 : Int))) with c3817 | c3817
      · replace H := (ifT c3817).symm.trans H
        obtain ⟨t3818, e3819, H⟩ := bind_of H
        obtain ⟨b3820, p3821, q3822, H⟩ := at_of H
        refine reg hP hn hm [(2, .b true), (4, .call [] [] [] [] 0 (iV .i64 t3818) []), (9, .c ((encInt .i64) b3820))] [0, 5, 35] [0] ⟨[(0, .ptr 0 0 0), (5, iV .u64 t3809.1), (35, bV (decide (t3818 ≤ b3820)))], [(0, some (.box 154 (abits_Reader ⟨a0_c0, t3809.2.1, t3809.2.2⟩)))], 1⟩ [(decide (x3774 > (0 : Int))) = true, Enters Try.prog 116, Pv.Fn Try.prog 116 [iV .u64 t3809.1] [] 0 (fun r o => r = iV .i64 t3818 ∧ o = []), 0 ≤ (IntKind.i64.wrap (x3774 - (1 : Int))), IntKind.i64.wrap (x3774 - (1 : Int)) < (((t3725.map (encInt .i64)).length : Nat) : Int), (t3725.map (encInt .i64))[(Int.toNat (IntKind.i64.wrap (x3774 - (1 : Int))))]? = some ((encInt .i64) b3820)] (by kernel_rfl) ⟨by exact c3817, by exact Try.call116, by exact f_bits_long.ok t3809.1 t3818 e3819, by exact p3821, by exact el_lt (encInt .i64) p3821 q3822, by exact el_map (encInt .i64) q3822, trivial⟩ ?_
        obtain rfl := Option.some.inj H
        exact Exists.intro _ (And.intro (fun _ _ h => h.conv (inv := [(0, 0)]) (vk := []) (e0 := []) (t := ⟨[(0, .ptr 0 0 0), (5, iV .u64 t3809.1), (35, bV (decide (t3818 ≤ b3820)))], [(0, some (.box 154 (abits_Reader ⟨a0_c0, t3809.2.1, t3809.2.2⟩)))], 1⟩) (by kernel_rfl)) (And.intro rfl rfl))
      · replace H := (ifF c3817).symm.trans H
        refine reg hP hn hm [(2, .b false)] [0, 5, 35] [0] ⟨[(0, .ptr 0 0 0), (5, iV .u64 t3809.1), (35, bV false)], [(0, some (.box 154 (abits_Reader ⟨a0_c0, t3809.2.1, t3809.2.2⟩)))], 1⟩ [(decide (x3774 > (0 : Int))) = false] (by kernel_rfl) ⟨by exact c3817, trivial⟩ ?_
        obtain rfl := Option.some.inj H
        exact Exists.intro _ (And.intro (fun _ _ h => h.conv (inv := [(0, 0)]) (vk := []) (e0 := []) (t := ⟨[(0, .ptr 0 0 0), (5, iV .u64 t3809.1), (35, bV false)], [(0, some (.box 154 (abits_Reader ⟨a0_c0, t3809.2.1, t3809.2.2⟩)))], 1⟩) (by kernel_rfl)) (And.intro rfl rfl))
    · obtain ⟨x3823, rfl⟩ : ∃ z, z = o3835 := ⟨_, rfl⟩
      rintro e s ⟨rfl, rfl⟩
      obtain ⟨o3837, e3838, H⟩ := bind_of H
      refine AWp.mono (Q := fun e s => (match (generalizing := false) o3837 with | x3829 => e = .normal ∧ s = ⟨[(0, .ptr 0 0 0), (5, iV .u64 t3809.1)], [(0, some (.box 154 (abits_Reader ⟨a0_c0, t3809.2.1, x3829⟩)))], 1⟩)) (AWp.cv ?_) ?_
      · replace H := e3838; clear e3838
        refine AWp.cond x3823 rfl (fun c3824 => ?_) (fun c3824 => ?_)
        · replace H := (ifT c3824).symm.trans H
          obtain ⟨t3827, e3828, H⟩ := bind_of H
          refine reg hP hn hm [(1, .call [(0, 0)] [(0, 0)] [] [] 1 (.tup []) [(0, some (.box 154 (abits_Reader ⟨a0_c0, t3809.2.1, t3827⟩)))])] [0, 5] [0] ⟨[(0, .ptr 0 0 0), (5, iV .u64 t3809.1)], [(0, some (.box 154 (abits_Reader ⟨a0_c0, t3809.2.1, t3827⟩)))], 1⟩ [Enters Try.prog 91, Pv.Fn Try.prog 91 [.ptr 0 0 0, iV .i64 6] [(0, some (.box 154 (abits_Reader ⟨a0_c0, t3809.2.1, t3809.2.2⟩)))] 1 (fun r o => r = .tup [] ∧ o = [(0, some (.box 154 (abits_Reader ⟨a0_c0, t3809.2.1, t3827⟩)))])] (by kernel_rfl) ⟨by exact Try.call91, by exact f_bits_Reader_fail_b86.ok a0_c0 t3809.2.1 t3809.2.2 6 t3827 e3828, trivial⟩ ?_
          obtain rfl := Option.some.inj H
          exact Exists.intro _ (And.intro (fun _ _ h => h.conv (inv := [(0, 0)]) (vk := []) (e0 := []) (t := ⟨[(0, .ptr 0 0 0), (5, iV .u64 t3809.1)], [(0, some (.box 154 (abits_Reader ⟨a0_c0, t3809.2.1, t3827⟩)))], 1⟩) (by kernel_rfl)) (And.intro rfl rfl))
        · replace H := (ifF c3824).symm.trans H
          refine AWp.skip ?_
          obtain rfl := Option.some.inj H
          exact Exists.intro _ (And.intro (fun _ _ h => h.conv (inv := [(0, 0)]) (vk := []) (e0 := []) (t := ⟨[(0, .ptr 0 0 0), (5, iV .u64 t3809.1)], [(0, some (.box 154 (abits_Reader ⟨a0_c0, t3809.2.1, t3809.2.2⟩)))], 1⟩) (by kernel_rfl)) (And.intro rfl rfl))
      · obtain ⟨x3829, rfl⟩ : ∃ z, z = o3837 := ⟨_, rfl⟩
        rintro e s ⟨rfl, rfl⟩
        refine AWp.seq ?_
        refine AWp.seq ?_
        refine reg hP hn hm [] [5, 42] [0] ⟨[(5, iV .u64 t3809.1), (42, bV (x3829 != (0 : Int)))], [(0, some (.box 154 (abits_Reader ⟨a0_c0, t3809.2.1, x3829⟩)))], 1⟩ [] (by kernel_rfl) trivial ?_
        refine AWp.cond (x3829 != (0 : Int)) rfl (fun c3830 => ?_) (fun c3830 => ?_)
        · replace H := (ifT c3830).symm.trans H
          refine AWp.seq ?_
          refine reg hP hn hm [] [2] [0] ⟨[(2, iV .u64 0)], [(0, some (.box 154 (abits_Reader ⟨a0_c0, t3809.2.1, x3829⟩)))], 1⟩ [] (by kernel_rfl) trivial ?_
          refine AWp.conv (inv := [(0, 0)]) (vk := []) (e0 := []) (t := ⟨[(2, iV .u64 0)], [(0, some (.box 154 (abits_Reader ⟨a0_c0, t3809.2.1, x3829⟩)))], 1⟩) (by kernel_rfl) ?_
          refine AWp.ret ?_
          obtain rfl := Option.some.inj H
          exact Exists.intro _ (And.intro (fun _ _ h => h) (And.intro (.inl rfl) (And.intro rfl (And.intro (by kernel_rfl) (by kernel_rfl)))))
        · replace H := (ifF c3830).symm.trans H
          refine AWp.skip ?_
          refine AWp.seq ?_
          refine reg hP hn hm [] [2] [0] ⟨[(2, iV .u64 t3809.1)], [(0, some (.box 154 (abits_Reader ⟨a0_c0, t3809.2.1, x3829⟩)))], 1⟩ [] (by kernel_rfl) trivial ?_
          refine AWp.conv (inv := [(0, 0)]) (vk := []) (e0 := []) (t := ⟨[(2, iV .u64 t3809.1)], [(0, some (.box 154 (abits_Reader ⟨a0_c0, t3809.2.1, x3829⟩)))], 1⟩) (by kernel_rfl) ?_
          refine AWp.ret ?_
          obtain rfl := Option.some.inj H
          exact Exists.intro _ (And.intro (fun _ _ h => h) (And.intro (.inl rfl) (And.intro rfl (And.intro (by kernel_rfl) (by kernel_rfl)))))
def f_bits_Reader_Small_b86.f (a0_c0 : List Int) (a0_c1 : Int) (a0_c2 : Int) (a1 : Int) : Option (Int × Int × Int) := (f_bits_Reader_Count_b86.f a0_c0 a0_c1 a0_c2) >>= fun t3841 => ((if (decide (a1 < (0 : Int))) = true then (some true) else (some (decide (t3841.1 > (IntKind.u64.wrap (a1)))))) : Option (Bool)) >>= fun x3845 => if x3845 = true then ((f_bits_Reader_fail_b86.f a0_c0 t3841.2.1 t3841.2.2 9) >>= fun t3849 => some (0, t3841.2.1, t3849)) else (some (IntKind.i64.wrap (t3841.1), t3841.2.1, t3841.2.2))
theorem f_bits_Reader_Small_b86.ok (a0_c0 : List Int) (a0_c1 : Int) (a0_c2 : Int) (a1 : Int) (r : Int × Int × Int) (H : f_bits_Reader_Small_b86.f a0_c0 a0_c1 a0_c2 a1 = some r) : Pv.Fn Try.prog 90 [.ptr 0 0 0, iV .i64 a1] [(0, some (.box 154 (abits_Reader ⟨a0_c0, a0_c1, a0_c2⟩)))] 1 (fun x o => x = iV .i64 r.1 ∧ o = [(0, some (.box 154 (abits_Reader ⟨a0_c0, r.2.1, r.2.2⟩)))]) := by
  unfold f_bits_Reader_Small_b86.f at H
  refine Fn.bodyK [0] Try.func90 rfl rfl (fun Γ hP hn => ?_)
  have hm : Try.prog.follows .mixedOrders = true := by kernel_rfl
  replace hn : Γ.n = 20 := hn
  refine AWp.seq ?_
  refine reg hP hn hm [] [0, 1] [0] ⟨[(0, .ptr 0 0 0), (1, iV .i64 a1)], [(0, some (.box 154 (abits_Reader ⟨a0_c0, a0_c1, a0_c2⟩)))], 1⟩ [] (by kernel_rfl) trivial ?_
  refine AWp.seq ?_
  obtain ⟨t3841, e3842, H⟩ := bind_of H
  refine reg hP hn hm [(1, .call [(0, 0)] [(0, 0)] [] [] 1 (iV .u64 t3841.1) [(0, some (.box 154 (abits_Reader ⟨a0_c0, t3841.2.1, t3841.2.2⟩)))])] [0, 1, 5] [0] ⟨[(0, .ptr 0 0 0), (1, iV .i64 a1), (5, iV .u64 t3841.1)], [(0, some (.box 154 (abits_Reader ⟨a0_c0, t3841.2.1, t3841.2.2⟩)))], 1⟩ [Enters Try.prog 119, Pv.Fn Try.prog 119 [.ptr 0 0 0] [(0, some (.box 154 (abits_Reader ⟨a0_c0, a0_c1, a0_c2⟩)))] 1 (fun r o => r = iV .u64 t3841.1 ∧ o = [(0, some (.box 154 (abits_Reader ⟨a0_c0, t3841.2.1, t3841.2.2⟩)))])] (by kernel_rfl) ⟨by exact Try.call119, by exact f_bits_Reader_Count_b86.ok a0_c0 a0_c1 a0_c2 t3841 e3842, trivial⟩ ?_
  refine AWp.seq ?_
  refine AWp.seq ?_
  obtain ⟨o3851, e3852, H⟩ := bind_of H
  refine AWp.mono (Q := fun e s => (match (generalizing := false) o3851 with | x3845 => e = .normal ∧ s = ⟨[(0, .ptr 0 0 0), (5, iV .u64 t3841.1), (15, bV x3845)], [(0, some (.box 154 (abits_Reader ⟨a0_c0, t3841.2.1, t3841.2.2⟩)))], 1⟩)) (AWp.cv ?_) ?_
  · replace H := e3852; clear e3852
    rcases Bool.eq_false_or_eq_true (decide (a1 < (0 : Int))) with c3844 | c3844
    · replace H := (ifT c3844).symm.trans H
      refine reg hP hn hm [(2, .b true)] [0, 5, 15] [0] ⟨[(0, .ptr 0 0 0), (5, iV .u64 t3841.1), (15, bV true)], [(0, some (.box 154 (abits_Reader ⟨a0_c0, t3841.2.1, t3841.2.2⟩)))], 1⟩ [(decide (a1 < (0 : Int))) = true] (by kernel_rfl) ⟨by exact c3844, trivial⟩ ?_
      obtain rfl := Option.some.inj H
      exact Exists.intro _ (And.intro (fun _ _ h => h.conv (inv := [(0, 0)]) (vk := []) (e0 := []) (t := ⟨[(0, .ptr 0 0 0), (5, iV .u64 t3841.1), (15, bV true)], [(0, some (.box 154 (abits_Reader ⟨a0_c0, t3841.2.1, t3841.2.2⟩)))], 1⟩) (by kernel_rfl)) (And.intro rfl rfl))
    · replace H := (ifF c3844).symm.trans H
      refine reg hP hn hm [(2, .b false)] [0, 5, 15] [0] ⟨[(0, .ptr 0 0 0), (5, iV .u64 t3841.1), (15, bV (decide (t3841.1 > (IntKind.u64.wrap (a1)))))], [(0, some (.box 154 (abits_Reader ⟨a0_c0, t3841.2.1, t3841.2.2⟩)))], 1⟩ [(decide (a1 < (0 : Int))) = false] (by kernel_rfl) ⟨by exact c3844, trivial⟩ ?_
      obtain rfl := Option.some.inj H
      exact Exists.intro _ (And.intro (fun _ _ h => h.conv (inv := [(0, 0)]) (vk := []) (e0 := []) (t := ⟨[(0, .ptr 0 0 0), (5, iV .u64 t3841.1), (15, bV (decide (t3841.1 > (IntKind.u64.wrap (a1)))))], [(0, some (.box 154 (abits_Reader ⟨a0_c0, t3841.2.1, t3841.2.2⟩)))], 1⟩) (by kernel_rfl)) (And.intro rfl rfl))
  · obtain ⟨x3845, rfl⟩ : ∃ z, z = o3851 := ⟨_, rfl⟩
    rintro e s ⟨rfl, rfl⟩
    refine AWp.cond x3845 rfl (fun c3846 => ?_) (fun c3846 => ?_)
    · replace H := (ifT c3846).symm.trans H
      refine AWp.seq ?_
      obtain ⟨t3849, e3850, H⟩ := bind_of H
      refine reg hP hn hm [(1, .call [(0, 0)] [(0, 0)] [] [] 1 (.tup []) [(0, some (.box 154 (abits_Reader ⟨a0_c0, t3841.2.1, t3849⟩)))])] [] [0] ⟨[], [(0, some (.box 154 (abits_Reader ⟨a0_c0, t3841.2.1, t3849⟩)))], 1⟩ [Enters Try.prog 91, Pv.Fn Try.prog 91 [.ptr 0 0 0, iV .i64 9] [(0, some (.box 154 (abits_Reader ⟨a0_c0, t3841.2.1, t3841.2.2⟩)))] 1 (fun r o => r = .tup [] ∧ o = [(0, some (.box 154 (abits_Reader ⟨a0_c0, t3841.2.1, t3849⟩)))])] (by kernel_rfl) ⟨by exact Try.call91, by exact f_bits_Reader_fail_b86.ok a0_c0 t3841.2.1 t3841.2.2 9 t3849 e3850, trivial⟩ ?_
      refine AWp.seq ?_
      refine reg hP hn hm [] [4] [0] ⟨[(4, iV .i64 0)], [(0, some (.box 154 (abits_Reader ⟨a0_c0, t3841.2.1, t3849⟩)))], 1⟩ [] (by kernel_rfl) trivial ?_
      refine AWp.conv (inv := [(0, 0)]) (vk := []) (e0 := []) (t := ⟨[(4, iV .i64 0)], [(0, some (.box 154 (abits_Reader ⟨a0_c0, t3841.2.1, t3849⟩)))], 1⟩) (by kernel_rfl) ?_
      refine AWp.ret ?_
      obtain rfl := Option.some.inj H
      exact Exists.intro _ (And.intro (fun _ _ h => h) (And.intro (.inl rfl) (And.intro rfl (And.intro (by kernel_rfl) (by kernel_rfl)))))
    · replace H := (ifF c3846).symm.trans H
      refine AWp.skip ?_
      refine AWp.seq ?_
      refine reg hP hn hm [] [4] [0] ⟨[(4, iV .i64 (IntKind.i64.wrap (t3841.1)))], [(0, some (.box 154 (abits_Reader ⟨a0_c0, t3841.2.1, t3841.2.2⟩)))], 1⟩ [] (by kernel_rfl) trivial ?_
      refine AWp.conv (inv := [(0, 0)]) (vk := []) (e0 := []) (t := ⟨[(4, iV .i64 (IntKind.i64.wrap (t3841.1)))], [(0, some (.box 154 (abits_Reader ⟨a0_c0, t3841.2.1, t3841.2.2⟩)))], 1⟩) (by kernel_rfl) ?_
      refine AWp.ret ?_
      obtain rfl := Option.some.inj H
      exact Exists.intro _ (And.intro (fun _ _ h => h) (And.intro (.inl rfl) (And.intro rfl (And.intro (by kernel_rfl) (by kernel_rfl)))))
def f_bits_Reader_Err_b86.f (a0_c0 : List Int) (a0_c1 : Int) (a0_c2 : Int) : Option (Unit) := some ()
theorem f_bits_Reader_Err_b86.ok (a0_c0 : List Int) (a0_c1 : Int) (a0_c2 : Int) (r : Unit) (H : f_bits_Reader_Err_b86.f a0_c0 a0_c1 a0_c2 = some r) : Pv.Fn Try.prog 52 [.ptr 0 0 0] [(0, some (.box 154 (abits_Reader ⟨a0_c0, a0_c1, a0_c2⟩)))] 1 (fun x o => x = iV .i64 a0_c2 ∧ o = [(0, some (.box 154 (abits_Reader ⟨a0_c0, a0_c1, a0_c2⟩)))]) := by
  unfold f_bits_Reader_Err_b86.f at H
  refine Fn.bodyK [0] Try.func52 rfl rfl (fun Γ hP hn => ?_)
  have hm : Try.prog.follows .mixedOrders = true := by kernel_rfl
  replace hn : Γ.n = 7 := hn
  refine AWp.seq ?_
  refine reg hP hn hm [] [0] [0] ⟨[(0, .ptr 0 0 0)], [(0, some (.box 154 (abits_Reader ⟨a0_c0, a0_c1, a0_c2⟩)))], 1⟩ [] (by kernel_rfl) trivial ?_
  refine AWp.seq ?_
  refine reg hP hn hm [] [2] [0] ⟨[(2, iV .i64 a0_c2)], [(0, some (.box 154 (abits_Reader ⟨a0_c0, a0_c1, a0_c2⟩)))], 1⟩ [] (by kernel_rfl) trivial ?_
  refine AWp.conv (inv := [(0, 0)]) (vk := []) (e0 := []) (t := ⟨[(2, iV .i64 a0_c2)], [(0, some (.box 154 (abits_Reader ⟨a0_c0, a0_c1, a0_c2⟩)))], 1⟩) (by kernel_rfl) ?_
  refine AWp.ret ?_
  obtain rfl := Option.some.inj H
  exact Exists.intro _ (And.intro (fun _ _ h => h) (And.intro (.inl rfl) (And.intro rfl (And.intro (by kernel_rfl) (by kernel_rfl)))))
def f_tomb_Take_b86.l0 (a0_c0 : List Int) (t3855 : Int × Int × Int) (x3882 : Int) (x3883 : Int) (x3884 : List Ttomb_Range) (x3885 : Int) (x3886 : Int) : Option (Int × Int × (List Ttomb_Range)) := ((if (decide (x3886 < t3855.1)) = true then ((f_bits_Reader_Err_b86.f a0_c0 x3882 x3883) >>= fun t3891 => some (x3883 == (0 : Int))) else (some false)) : Option (Bool)) >>= fun x3893 => if x3893 = true then ((f_bits_Reader_Small_b86.f a0_c0 x3882 x3883 1099511627776) >>= fun t3897 => (f_bits_Reader_Small_b86.f a0_c0 t3897.2.1 t3897.2.2 1099511627776) >>= fun t3901 => ((if (decide ((IntKind.i64.wrap ((IntKind.i64.wrap (x3885 + t3897.1)) + t3901.1)) > (1099511627776 : Int))) = true then ((f_bits_Reader_Small_b86.f a0_c0 t3901.2.1 t3901.2.2 (-1)) >>= fun t3906 => some (t3906.2.1, t3906.2.2)) else (some (t3901.2.1, t3901.2.2))) : Option (Int × Int)) >>= fun oo => match oo with | (x3908, x3909) => ((chk ((x3884.length + [(⟨IntKind.i64.wrap (x3885 + t3897.1), IntKind.i64.wrap ((IntKind.i64.wrap (x3885 + t3897.1)) + t3901.1)⟩ : Ttomb_Range)].length) * 16 ≤ 140737488355328)) >>= fun _ => f_tomb_Take_b86.l0 a0_c0 t3855 x3908 x3909 (x3884 ++ [(⟨IntKind.i64.wrap (x3885 + t3897.1), IntKind.i64.wrap ((IntKind.i64.wrap (x3885 + t3897.1)) + t3901.1)⟩ : Ttomb_Range)]) (IntKind.i64.wrap ((IntKind.i64.wrap ((IntKind.i64.wrap (x3885 + t3897.1)) + t3901.1)) + (2 : Int))) (IntKind.i64.wrap (x3886 + (1 : Int))))) else (some (x3882, x3883, x3884))
partial_fixpoint
def f_tomb_Take_b86.f (a0_c0 : List Int) (a0_c1 : Int) (a0_c2 : Int) (a1 : Int) : Option (Ttomb_Set × Int × Int) := (f_bits_Reader_Small_b86.f a0_c0 a0_c1 a0_c2 a1) >>= fun t3855 => (f_tomb_Take_b86.l0 a0_c0 t3855 t3855.2.1 t3855.2.2 [] 0 0) >>= fun oo => match oo with | (x3912, x3913, x3914) => ((f_bits_Reader_Err_b86.f a0_c0 x3912 x3913) >>= fun t3917 => if (x3913 != (0 : Int)) = true then (some ((⟨[]⟩ : Ttomb_Set), x3912, x3913)) else (some ((⟨x3914⟩ : Ttomb_Set), x3912, x3913)))
theorem f_tomb_Take_b86.ok (a0_c0 : List Int) (a0_c1 : Int) (a0_c2 : Int) (a1 : Int) (r : Ttomb_Set × Int × Int) (H : f_tomb_Take_b86.f a0_c0 a0_c1 a0_c2 a1 = some r) : Pv.Fn Try.prog 50 [.ptr 0 0 0, iV .i64 a1] [(0, some (.box 154 (abits_Reader ⟨a0_c0, a0_c1, a0_c2⟩)))] 1 (fun x o => x = .agg [.own 1] ∧ o = [(0, some (.box 154 (abits_Reader ⟨a0_c0, r.2.1, r.2.2⟩))), (1, some (.row 2 64 (((r.1).f0).map etomb_Range)))]) := by
  unfold f_tomb_Take_b86.f at H
  refine Fn.bodyK [0, 1] Try.func50 rfl rfl (fun Γ hP hn => ?_)
  have hm : Try.prog.follows .mixedOrders = true := by kernel_rfl
  replace hn : Γ.n = 50 := hn
  refine AWp.seq ?_
  refine reg hP hn hm [(0, .k 1)] [0, 1, 4] [0, 1] ⟨[(0, .ptr 0 0 0), (1, iV .i64 a1), (4, .ptr 1 0 0)], [(0, some (.box 154 (abits_Reader ⟨a0_c0, a0_c1, a0_c2⟩))), (1, some (.box 27 [.none0]))], 1⟩ [] (by kernel_rfl) trivial ?_
  refine AWp.seq ?_
  refine reg hP hn hm [] [0, 1, 4, 5] [0, 1] ⟨[(0, .ptr 0 0 0), (1, iV .i64 a1), (4, .ptr 1 0 0), (5, .none0)], [(0, some (.box 154 (abits_Reader ⟨a0_c0, a0_c1, a0_c2⟩))), (1, some (.box 27 [.none0]))], 1⟩ [] (by kernel_rfl) trivial ?_
  refine AWp.seq ?_
  refine reg hP hn hm [] [0, 1, 4, 5, 6] [0, 1] ⟨[(0, .ptr 0 0 0), (1, iV .i64 a1), (4, .ptr 1 0 0), (5, .none0), (6, iV .i64 0)], [(0, some (.box 154 (abits_Reader ⟨a0_c0, a0_c1, a0_c2⟩))), (1, some (.box 27 [.none0]))], 1⟩ [] (by kernel_rfl) trivial ?_
  refine AWp.seq ?_
  obtain ⟨t3855, e3856, H⟩ := bind_of H
  refine reg hP hn hm [(2, .call [(0, 0)] [(0, 0)] [] [] 1 (iV .i64 t3855.1) [(0, some (.box 154 (abits_Reader ⟨a0_c0, t3855.2.1, t3855.2.2⟩)))])] [0, 4, 5, 6, 7] [0, 1] ⟨[(0, .ptr 0 0 0), (4, .ptr 1 0 0), (5, .none0), (6, iV .i64 0), (7, iV .i64 t3855.1)], [(0, some (.box 154 (abits_Reader ⟨a0_c0, t3855.2.1, t3855.2.2⟩))), (1, some (.box 27 [.none0]))], 1⟩ [Enters Try.prog 90, Pv.Fn Try.prog 90 [.ptr 0 0 0, iV .i64 a1] [(0, some (.box 154 (abits_Reader ⟨a0_c0, a0_c1, a0_c2⟩)))] 1 (fun r o => r = iV .i64 t3855.1 ∧ o = [(0, some (.box 154 (abits_Reader ⟨a0_c0, t3855.2.1, t3855.2.2⟩)))])] (by kernel_rfl) ⟨by exact Try.call90, by exact f_bits_Reader_Small_b86.ok a0_c0 a0_c1 a0_c2 a1 t3855 e3856, trivial⟩ ?_
  refine AWp.seq ?_
  refine AWp.seq ?_
  refine reg hP hn hm [] [0, 4, 5, 6, 7, 8] [0, 1] ⟨[(0, .ptr 0 0 0), (4, .ptr 1 0 0), (5, .none0), (6, iV .i64 0), (7, iV .i64 t3855.1), (8, iV .i64 0)], [(0, some (.box 154 (abits_Reader ⟨a0_c0, t3855.2.1, t3855.2.2⟩))), (1, some (.box 27 [.none0]))], 1⟩ [] (by kernel_rfl) trivial ?_
  refine AWp.block ?_
  obtain ⟨o3920, e3921, H⟩ := bind_of H
  refine AWp.loop (LWp.conv (inv := [(0, 0), (1, 6)]) (vk := []) (e0 := [7]) (t := ⟨[(0, .ptr 0 0 0), (4, .ptr 6 0 0), (5, .own 7), (6, iV .i64 0), (7, iV .i64 t3855.1), (8, iV .i64 0)], [(0, some (.box 154 (abits_Reader ⟨a0_c0, t3855.2.1, t3855.2.2⟩))), (6, some (.box 27 [.none0])), (7, some (.row 2 64 ([].map etomb_Range)))], 1⟩) (by kernel_rfl) ?_)
  refine LWp.mono (Q := fun e s => (match (generalizing := false) o3920 with | (x3912, x3913, x3914) => e = .exit 0 ∧ s = ⟨[(0, .ptr 0 0 0), (4, .ptr 14 0 0), (5, .own 15)], [(0, some (.box 154 (abits_Reader ⟨a0_c0, x3912, x3913⟩))), (14, some (.box 27 [.none0])), (15, some (.row 2 64 (x3914.map etomb_Range)))], 1⟩)) (LWp.cv (withBody (fun body hbody => ?_))) ?_
  · refine f_tomb_Take_b86.l0.partial_correctness a0_c0 t3855 (motive := fun x3882 x3883 x3884 x3885 x3886 o3920 => LWp Γ body (fun e s => ∃ t, Cv Γ s t ∧ (match (generalizing := false) o3920 with | (x3912, x3913, x3914) => e = .exit 0 ∧ t = ⟨[(0, .ptr 0 0 0), (4, .ptr 14 0 0), (5, .own 15)], [(0, some (.box 154 (abits_Reader ⟨a0_c0, x3912, x3913⟩))), (14, some (.box 27 [.none0])), (15, some (.row 2 64 (x3914.map etomb_Range)))], 1⟩)) ⟨[(0, .ptr 0 0 0), (4, .ptr 6 0 0), (5, .own 7), (6, iV .i64 x3885), (7, iV .i64 t3855.1), (8, iV .i64 x3886)], [(0, some (.box 154 (abits_Reader ⟨a0_c0, x3882, x3883⟩))), (6, some (.box 27 [.none0])), (7, some (.row 2 64 (x3884.map etomb_Range)))], 1⟩) ?_ _ _ _ _ _ _ e3921
    clear H e3921 o3920; intro self ih x3882 x3883 x3884 x3885 x3886 o3920 H
    subst hbody
    refine LWp.round ?_
    refine AWp.seq ?_
    refine AWp.seq ?_
    obtain ⟨o3922, e3923, H⟩ := bind_of H
    refine AWp.mono (Q := fun e s => (match (generalizing := false) o3922 with | x3893 => e = .normal ∧ s = ⟨[(0, .ptr 0 0 0), (4, .ptr 8 0 0), (5, .own 9), (6, iV .i64 x3885), (7, iV .i64 t3855.1), (8, iV .i64 x3886), (21, bV x3893)], [(0, some (.box 154 (abits_Reader ⟨a0_c0, x3882, x3883⟩))), (8, some (.box 27 [.none0])), (9, some (.row 2 64 (x3884.map etomb_Range)))], 1⟩)) (AWp.cv ?_) ?_
    · replace H := e3923; clear e3923
      rcases Bool.eq_false_or_eq_true (decide (x3886 < t3855.1)) with c3890 | c3890
      · replace H := (ifT c3890).symm.trans H
        obtain ⟨t3891, e3892, H⟩ := bind_of H
        refine reg hP hn hm [(3, .b true), (5, .call [(0, 0)] [(0, 0)] [] [] 1 (iV .i64 x3883) [(0, some (.box 154 (abits_Reader ⟨a0_c0, x3882, x3883⟩)))])] [0, 4, 5, 6, 7, 8, 18, 19, 20, 21] [0, 6, 7] ⟨[(0, .ptr 0 0 0), (4, .ptr 6 0 0), (5, .own 7), (6, iV .i64 x3885), (7, iV .i64 t3855.1), (8, iV .i64 x3886), (18, .ptr 0 0 0), (19, iV .i64 x3883), (20, bV (x3883 == (0 : Int))), (21, bV (x3883 == (0 : Int)))], [(0, some (.box 154 (abits_Reader ⟨a0_c0, x3882, x3883⟩))), (6, some (.box 27 [.none0])), (7, some (.row 2 64 (x3884.map etomb_Range)))], 1⟩ [(decide (x3886 < t3855.1)) = true, Enters Try.prog 52, Pv.Fn Try.prog 52 [.ptr 0 0 0] [(0, some (.box 154 (abits_Reader ⟨a0_c0, x3882, x3883⟩)))] 1 (fun r o => r = iV .i64 x3883 ∧ o = [(0, some (.box 154 (abits_Reader ⟨a0_c0, x3882, x3883⟩)))])] (by kernel_rfl) ⟨by exact c3890, by exact Try.call52, by exact f_bits_Reader_Err_b86.ok a0_c0 x3882 x3883 t3891 e3892, trivial⟩ ?_
        obtain rfl := Option.some.inj H
        exact Exists.intro _ (And.intro (fun _ _ h => h.conv (inv := [(0, 0), (6, 8), (7, 9)]) (vk := []) (e0 := []) (t := ⟨[(0, .ptr 0 0 0), (4, .ptr 8 0 0), (5, .own 9), (6, iV .i64 x3885), (7, iV .i64 t3855.1), (8, iV .i64 x3886), (21, bV (x3883 == (0 : Int)))], [(0, some (.box 154 (abits_Reader ⟨a0_c0, x3882, x3883⟩))), (8, some (.box 27 [.none0])), (9, some (.row 2 64 (x3884.map etomb_Range)))], 1⟩) (by kernel_rfl)) (And.intro rfl rfl))
      · replace H := (ifF c3890).symm.trans H
        refine reg hP hn hm [(3, .b false)] [0, 4, 5, 6, 7, 8, 21] [0, 6, 7] ⟨[(0, .ptr 0 0 0), (4, .ptr 6 0 0), (5, .own 7), (6, iV .i64 x3885), (7, iV .i64 t3855.1), (8, iV .i64 x3886), (21, bV false)], [(0, some (.box 154 (abits_Reader ⟨a0_c0, x3882, x3883⟩))), (6, some (.box 27 [.none0])), (7, some (.row 2 64 (x3884.map etomb_Range)))], 1⟩ [(decide (x3886 < t3855.1)) = false] (by kernel_rfl) ⟨by exact c3890, trivial⟩ ?_
        obtain rfl := Option.some.inj H
        exact Exists.intro _ (And.intro (fun _ _ h => h.conv (inv := [(0, 0), (6, 8), (7, 9)]) (vk := []) (e0 := []) (t := ⟨[(0, .ptr 0 0 0), (4, .ptr 8 0 0), (5, .own 9), (6, iV .i64 x3885), (7, iV .i64 t3855.1), (8, iV .i64 x3886), (21, bV false)], [(0, some (.box 154 (abits_Reader ⟨a0_c0, x3882, x3883⟩))), (8, some (.box 27 [.none0])), (9, some (.row 2 64 (x3884.map etomb_Range)))], 1⟩) (by kernel_rfl)) (And.intro rfl rfl))
    · obtain ⟨x3893, rfl⟩ : ∃ z, z = o3922 := ⟨_, rfl⟩
      rintro e s ⟨rfl, rfl⟩
      refine AWp.cond x3893 rfl (fun c3894 => ?_) (fun c3894 => ?_)
      · replace H := (ifT c3894).symm.trans H
        refine AWp.skip ?_
        refine AWp.seq ?_
        refine AWp.block ?_
        refine AWp.seq ?_
        obtain ⟨t3897, e3898, H⟩ := bind_of H
        refine reg hP hn hm [(2, .call [(0, 0)] [(0, 0)] [] [] 1 (iV .i64 t3897.1) [(0, some (.box 154 (abits_Reader ⟨a0_c0, t3897.2.1, t3897.2.2⟩)))])] [0, 4, 5, 7, 8, 9] [0, 8, 9] ⟨[(0, .ptr 0 0 0), (4, .ptr 8 0 0), (5, .own 9), (7, iV .i64 t3855.1), (8, iV .i64 x3886), (9, iV .i64 (IntKind.i64.wrap (x3885 + t3897.1)))], [(0, some (.box 154 (abits_Reader ⟨a0_c0, t3897.2.1, t3897.2.2⟩))), (8, some (.box 27 [.none0])), (9, some (.row 2 64 (x3884.map etomb_Range)))], 1⟩ [Enters Try.prog 90, Pv.Fn Try.prog 90 [.ptr 0 0 0, iV .i64 1099511627776] [(0, some (.box 154 (abits_Reader ⟨a0_c0, x3882, x3883⟩)))] 1 (fun r o => r = iV .i64 t3897.1 ∧ o = [(0, some (.box 154 (abits_Reader ⟨a0_c0, t3897.2.1, t3897.2.2⟩)))])] (by kernel_rfl) ⟨by exact Try.call90, by exact f_bits_Reader_Small_b86.ok a0_c0 x3882 x3883 1099511627776 t3897 e3898, trivial⟩ ?_
        refine AWp.seq ?_
        obtain ⟨t3901, e3902, H⟩ := bind_of H
        refine reg hP hn hm [(2, .call [(0, 0)] [(0, 0)] [] [] 1 (iV .i64 t3901.1) [(0, some (.box 154 (abits_Reader ⟨a0_c0, t3901.2.1, t3901.2.2⟩)))])] [0, 4, 5, 7, 8, 9, 10] [0, 8, 9] ⟨[(0, .ptr 0 0 0), (4, .ptr 8 0 0), (5, .own 9), (7, iV .i64 t3855.1), (8, iV .i64 x3886), (9, iV .i64 (IntKind.i64.wrap (x3885 + t3897.1))), (10, iV .i64 (IntKind.i64.wrap ((IntKind.i64.wrap (x3885 + t3897.1)) + t3901.1)))], [(0, some (.box 154 (abits_Reader ⟨a0_c0, t3901.2.1, t3901.2.2⟩))), (8, some (.box 27 [.none0])), (9, some (.row 2 64 (x3884.map etomb_Range)))], 1⟩ [Enters Try.prog 90, Pv.Fn Try.prog 90 [.ptr 0 0 0, iV .i64 1099511627776] [(0, some (.box 154 (abits_Reader ⟨a0_c0, t3897.2.1, t3897.2.2⟩)))] 1 (fun r o => r = iV .i64 t3901.1 ∧ o = [(0, some (.box 154 (abits_Reader ⟨a0_c0, t3901.2.1, t3901.2.2⟩)))])] (by kernel_rfl) ⟨by exact Try.call90, by exact f_bits_Reader_Small_b86.ok a0_c0 t3897.2.1 t3897.2.2 1099511627776 t3901 e3902, trivial⟩ ?_
        refine AWp.seq ?_
        refine AWp.seq ?_
        refine reg hP hn hm [] [0, 4, 5, 7, 8, 9, 10, 33] [0, 8, 9] ⟨[(0, .ptr 0 0 0), (4, .ptr 8 0 0), (5, .own 9), (7, iV .i64 t3855.1), (8, iV .i64 x3886), (9, iV .i64 (IntKind.i64.wrap (x3885 + t3897.1))), (10, iV .i64 (IntKind.i64.wrap ((IntKind.i64.wrap (x3885 + t3897.1)) + t3901.1))), (33, bV (decide ((IntKind.i64.wrap ((IntKind.i64.wrap (x3885 + t3897.1)) + t3901.1)) > (1099511627776 : Int))))], [(0, some (.box 154 (abits_Reader ⟨a0_c0, t3901.2.1, t3901.2.2⟩))), (8, some (.box 27 [.none0])), (9, some (.row 2 64 (x3884.map etomb_Range)))], 1⟩ [] (by kernel_rfl) trivial ?_
        obtain ⟨o3924, e3925, H⟩ := bind_of H
        refine AWp.mono (Q := fun e s => (match (generalizing := false) o3924 with | (x3908, x3909) => e = .normal ∧ s = ⟨[(0, .ptr 0 0 0), (4, .ptr 10 0 0), (5, .own 11), (7, iV .i64 t3855.1), (8, iV .i64 x3886), (9, iV .i64 (IntKind.i64.wrap (x3885 + t3897.1))), (10, iV .i64 (IntKind.i64.wrap ((IntKind.i64.wrap (x3885 + t3897.1)) + t3901.1)))], [(0, some (.box 154 (abits_Reader ⟨a0_c0, x3908, x3909⟩))), (10, some (.box 27 [.none0])), (11, some (.row 2 64 (x3884.map etomb_Range)))], 1⟩)) (AWp.cv ?_) ?_
        · replace H := e3925; clear e3925
          refine AWp.cond (decide ((IntKind.i64.wrap ((IntKind.i64.wrap (x3885 + t3897.1)) + t3901.1)) > (1099511627776 : Int))) rfl (fun c3903 => ?_) (fun c3903 => ?_)
          · replace H := (ifT c3903).symm.trans H
            obtain ⟨t3906, e3907, H⟩ := bind_of H
            refine reg hP hn hm [(1, .call [(0, 0)] [(0, 0)] [] [] 1 (iV .i64 t3906.1) [(0, some (.box 154 (abits_Reader ⟨a0_c0, t3906.2.1, t3906.2.2⟩)))])] [0, 4, 5, 7, 8, 9, 10] [0, 8, 9] ⟨[(0, .ptr 0 0 0), (4, .ptr 8 0 0), (5, .own 9), (7, iV .i64 t3855.1), (8, iV .i64 x3886), (9, iV .i64 (IntKind.i64.wrap (x3885 + t3897.1))), (10, iV .i64 (IntKind.i64.wrap ((IntKind.i64.wrap (x3885 + t3897.1)) + t3901.1)))], [(0, some (.box 154 (abits_Reader ⟨a0_c0, t3906.2.1, t3906.2.2⟩))), (8, some (.box 27 [.none0])), (9, some (.row 2 64 (x3884.map etomb_Range)))], 1⟩ [Enters Try.prog 90, Pv.Fn Try.prog 90 [.ptr 0 0 0, iV .i64 (-1)] [(0, some (.box 154 (abits_Reader ⟨a0_c0, t3901.2.1, t3901.2.2⟩)))] 1 (fun r o => r = iV .i64 t3906.1 ∧ o = [(0, some (.box 154 (abits_Reader ⟨a0_c0, t3906.2.1, t3906.2.2⟩)))])] (by kernel_rfl) ⟨by exact Try.call90, by exact f_bits_Reader_Small_b86.ok a0_c0 t3901.2.1 t3901.2.2 (-1) t3906 e3907, trivial⟩ ?_
            obtain rfl := Option.some.inj H
            exact Exists.intro _ (And.intro (fun _ _ h => h.conv (inv := [(0, 0), (8, 10), (9, 11)]) (vk := []) (e0 := []) (t := ⟨[(0, .ptr 0 0 0), (4, .ptr 10 0 0), (5, .own 11), (7, iV .i64 t3855.1), (8, iV .i64 x3886), (9, iV .i64 (IntKind.i64.wrap (x3885 + t3897.1))), (10, iV .i64 (IntKind.i64.wrap ((IntKind.i64.wrap (x3885 + t3897.1)) + t3901.1)))], [(0, some (.box 154 (abits_Reader ⟨a0_c0, t3906.2.1, t3906.2.2⟩))), (10, some (.box 27 [.none0])), (11, some (.row 2 64 (x3884.map etomb_Range)))], 1⟩) (by kernel_rfl)) (And.intro rfl rfl))
          · replace H := (ifF c3903).symm.trans H
            refine AWp.skip ?_
            obtain rfl := Option.some.inj H
            exact Exists.intro _ (And.intro (fun _ _ h => h.conv (inv := [(0, 0), (8, 10), (9, 11)]) (vk := []) (e0 := []) (t := ⟨[(0, .ptr 0 0 0), (4, .ptr 10 0 0), (5, .own 11), (7, iV .i64 t3855.1), (8, iV .i64 x3886), (9, iV .i64 (IntKind.i64.wrap (x3885 + t3897.1))), (10, iV .i64 (IntKind.i64.wrap ((IntKind.i64.wrap (x3885 + t3897.1)) + t3901.1)))], [(0, some (.box 154 (abits_Reader ⟨a0_c0, t3901.2.1, t3901.2.2⟩))), (10, some (.box 27 [.none0])), (11, some (.row 2 64 (x3884.map etomb_Range)))], 1⟩) (by kernel_rfl)) (And.intro rfl rfl))
        · obtain ⟨x3908, x3909⟩ := o3924
          rintro e s ⟨rfl, rfl⟩
          refine AWp.seq ?_
          obtain ⟨c3911, H⟩ := chk_of H
          refine reg hP hn hm [(4, .app 12 ([(⟨IntKind.i64.wrap (x3885 + t3897.1), IntKind.i64.wrap ((IntKind.i64.wrap (x3885 + t3897.1)) + t3901.1)⟩ : Ttomb_Range)].map etomb_Range)), (5, .app 13 ((x3884 ++ [(⟨IntKind.i64.wrap (x3885 + t3897.1), IntKind.i64.wrap ((IntKind.i64.wrap (x3885 + t3897.1)) + t3901.1)⟩ : Ttomb_Range)]).map etomb_Range))] [0, 4, 5, 7, 8, 10] [0, 10, 13] ⟨[(0, .ptr 0 0 0), (4, .ptr 10 0 0), (5, .own 13), (7, iV .i64 t3855.1), (8, iV .i64 x3886), (10, iV .i64 (IntKind.i64.wrap ((IntKind.i64.wrap (x3885 + t3897.1)) + t3901.1)))], [(0, some (.box 154 (abits_Reader ⟨a0_c0, x3908, x3909⟩))), (10, some (.box 27 [.none0])), (13, some (.row 2 64 ((x3884 ++ [(⟨IntKind.i64.wrap (x3885 + t3897.1), IntKind.i64.wrap ((IntKind.i64.wrap (x3885 + t3897.1)) + t3901.1)⟩ : Ttomb_Range)]).map etomb_Range)))], 1⟩ [[(⟨IntKind.i64.wrap (x3885 + t3897.1), IntKind.i64.wrap ((IntKind.i64.wrap (x3885 + t3897.1)) + t3901.1)⟩ : Ttomb_Range)].map etomb_Range = [[iI .i64 (IntKind.i64.wrap (x3885 + t3897.1)), iI .i64 (IntKind.i64.wrap ((IntKind.i64.wrap (x3885 + t3897.1)) + t3901.1))]], (x3884 ++ [(⟨IntKind.i64.wrap (x3885 + t3897.1), IntKind.i64.wrap ((IntKind.i64.wrap (x3885 + t3897.1)) + t3901.1)⟩ : Ttomb_Range)]).map etomb_Range = (x3884.map etomb_Range) ++ ([(⟨IntKind.i64.wrap (x3885 + t3897.1), IntKind.i64.wrap ((IntKind.i64.wrap (x3885 + t3897.1)) + t3901.1)⟩ : Ttomb_Range)].map etomb_Range), ∀ c ∈ ([(⟨IntKind.i64.wrap (x3885 + t3897.1), IntKind.i64.wrap ((IntKind.i64.wrap (x3885 + t3897.1)) + t3901.1)⟩ : Ttomb_Range)].map etomb_Range), c.length = 2, ∀ c ∈ ([(⟨IntKind.i64.wrap (x3885 + t3897.1), IntKind.i64.wrap ((IntKind.i64.wrap (x3885 + t3897.1)) + t3901.1)⟩ : Ttomb_Range)].map etomb_Range), leaves (c.map .im) = true, ((x3884.map etomb_Range).length + ([(⟨IntKind.i64.wrap (x3885 + t3897.1), IntKind.i64.wrap ((IntKind.i64.wrap (x3885 + t3897.1)) + t3901.1)⟩ : Ttomb_Range)].map etomb_Range).length) * 16 ≤ 140737488355328] (by kernel_rfl) ⟨by exact rfl, by simp, by exact all_len _ _ _ (fun _ => rfl), by exact all_leaf _ _ (fun _ => rfl), by simpa using c3911, trivial⟩ ?_
          refine reg hP hn hm [] [0, 4, 5, 6, 7, 8] [0, 10, 13] ⟨[(0, .ptr 0 0 0), (4, .ptr 10 0 0), (5, .own 13), (6, iV .i64 (IntKind.i64.wrap ((IntKind.i64.wrap ((IntKind.i64.wrap (x3885 + t3897.1)) + t3901.1)) + (2 : Int)))), (7, iV .i64 t3855.1), (8, iV .i64 x3886)], [(0, some (.box 154 (abits_Reader ⟨a0_c0, x3908, x3909⟩))), (10, some (.box 27 [.none0])), (13, some (.row 2 64 ((x3884 ++ [(⟨IntKind.i64.wrap (x3885 + t3897.1), IntKind.i64.wrap ((IntKind.i64.wrap (x3885 + t3897.1)) + t3901.1)⟩ : Ttomb_Range)]).map etomb_Range)))], 1⟩ [] (by kernel_rfl) trivial ?_
          refine reg hP hn hm [] [0, 4, 5, 6, 7, 8] [0, 10, 13] ⟨[(0, .ptr 0 0 0), (4, .ptr 10 0 0), (5, .own 13), (6, iV .i64 (IntKind.i64.wrap ((IntKind.i64.wrap ((IntKind.i64.wrap (x3885 + t3897.1)) + t3901.1)) + (2 : Int)))), (7, iV .i64 t3855.1), (8, iV .i64 (IntKind.i64.wrap (x3886 + (1 : Int))))], [(0, some (.box 154 (abits_Reader ⟨a0_c0, x3908, x3909⟩))), (10, some (.box 27 [.none0])), (13, some (.row 2 64 ((x3884 ++ [(⟨IntKind.i64.wrap (x3885 + t3897.1), IntKind.i64.wrap ((IntKind.i64.wrap (x3885 + t3897.1)) + t3901.1)⟩ : Ttomb_Range)]).map etomb_Range)))], 1⟩ [] (by kernel_rfl) trivial ?_
          exact LWp.conv (inv := [(0, 0), (10, 6), (13, 7)]) (vk := []) (e0 := []) (t := ⟨[(0, .ptr 0 0 0), (4, .ptr 6 0 0), (5, .own 7), (6, iV .i64 (IntKind.i64.wrap ((IntKind.i64.wrap ((IntKind.i64.wrap (x3885 + t3897.1)) + t3901.1)) + (2 : Int)))), (7, iV .i64 t3855.1), (8, iV .i64 (IntKind.i64.wrap (x3886 + (1 : Int))))], [(0, some (.box 154 (abits_Reader ⟨a0_c0, x3908, x3909⟩))), (6, some (.box 27 [.none0])), (7, some (.row 2 64 ((x3884 ++ [(⟨IntKind.i64.wrap (x3885 + t3897.1), IntKind.i64.wrap ((IntKind.i64.wrap (x3885 + t3897.1)) + t3901.1)⟩ : Ttomb_Range)]).map etomb_Range)))], 1⟩) (by kernel_rfl) (ih _ _ _ _ _ _ H)
      · replace H := (ifF c3894).symm.trans H
        refine AWp.exit ?_
        obtain rfl := Option.some.inj H
        exact Exists.intro _ (And.intro (fun _ _ h => h.conv (inv := [(0, 0), (8, 14), (9, 15)]) (vk := []) (e0 := []) (t := ⟨[(0, .ptr 0 0 0), (4, .ptr 14 0 0), (5, .own 15)], [(0, some (.box 154 (abits_Reader ⟨a0_c0, x3882, x3883⟩))), (14, some (.box 27 [.none0])), (15, some (.row 2 64 (x3884.map etomb_Range)))], 1⟩) (by kernel_rfl)) (And.intro rfl rfl))
  · obtain ⟨x3912, x3913, x3914⟩ := o3920
    rintro e s ⟨rfl, rfl⟩
    refine AWp.seq ?_
    refine AWp.seq ?_
    obtain ⟨t3917, e3918, H⟩ := bind_of H
    refine reg hP hn hm [(1, .call [(0, 0)] [(0, 0)] [] [] 1 (iV .i64 x3913) [(0, some (.box 154 (abits_Reader ⟨a0_c0, x3912, x3913⟩)))])] [4, 5, 46] [0, 14, 15] ⟨[(4, .ptr 14 0 0), (5, .own 15), (46, bV (x3913 != (0 : Int)))], [(0, some (.box 154 (abits_Reader ⟨a0_c0, x3912, x3913⟩))), (14, some (.box 27 [.none0])), (15, some (.row 2 64 (x3914.map etomb_Range)))], 1⟩ [Enters Try.prog 52, Pv.Fn Try.prog 52 [.ptr 0 0 0] [(0, some (.box 154 (abits_Reader ⟨a0_c0, x3912, x3913⟩)))] 1 (fun r o => r = iV .i64 x3913 ∧ o = [(0, some (.box 154 (abits_Reader ⟨a0_c0, x3912, x3913⟩)))])] (by kernel_rfl) ⟨by exact Try.call52, by exact f_bits_Reader_Err_b86.ok a0_c0 x3912 x3913 t3917 e3918, trivial⟩ ?_
    refine AWp.cond (x3913 != (0 : Int)) rfl (fun c3919 => ?_) (fun c3919 => ?_)
    · replace H := (ifT c3919).symm.trans H
      refine AWp.seq ?_
      refine reg hP hn hm [] [4] [0, 14] ⟨[(4, .ptr 14 0 0)], [(0, some (.box 154 (abits_Reader ⟨a0_c0, x3912, x3913⟩))), (14, some (.box 27 [.none0]))], 1⟩ [] (by kernel_rfl) trivial ?_
      refine AWp.conv (inv := [(0, 0), (14, 2)]) (vk := []) (e0 := [1]) (t := ⟨[(4, .ptr 2 0 0)], [(0, some (.box 154 (abits_Reader ⟨a0_c0, x3912, x3913⟩))), (1, some (.row 2 64 ((((⟨[]⟩ : Ttomb_Set)).f0).map etomb_Range))), (2, some (.box 27 [.own 1]))], 1⟩) (by kernel_rfl) ?_
      refine AWp.ret ?_
      obtain rfl := Option.some.inj H
      exact Exists.intro _ (And.intro (fun _ _ h => h) (And.intro (.inl rfl) (And.intro rfl (And.intro (by kernel_rfl) (by kernel_rfl)))))
    · replace H := (ifF c3919).symm.trans H
      refine AWp.skip ?_
      refine AWp.seq ?_
      refine reg hP hn hm [] [4] [0, 14, 15] ⟨[(4, .ptr 14 0 0)], [(0, some (.box 154 (abits_Reader ⟨a0_c0, x3912, x3913⟩))), (14, some (.box 27 [.own 15])), (15, some (.row 2 64 (x3914.map etomb_Range)))], 1⟩ [] (by kernel_rfl) trivial ?_
      refine AWp.conv (inv := [(0, 0), (14, 2), (15, 1)]) (vk := []) (e0 := []) (t := ⟨[(4, .ptr 2 0 0)], [(0, some (.box 154 (abits_Reader ⟨a0_c0, x3912, x3913⟩))), (1, some (.row 2 64 ((((⟨x3914⟩ : Ttomb_Set)).f0).map etomb_Range))), (2, some (.box 27 [.own 1]))], 1⟩) (by kernel_rfl) ?_
      refine AWp.ret ?_
      obtain rfl := Option.some.inj H
      exact Exists.intro _ (And.intro (fun _ _ h => h) (And.intro (.inl rfl) (And.intro rfl (And.intro (by kernel_rfl) (by kernel_rfl)))))
def f_bits_Reader_Left_b86.f (a0_c0 : List Int) (a0_c1 : Int) (a0_c2 : Int) : Option (Unit) := some ()
theorem f_bits_Reader_Left_b86.ok (a0_c0 : List Int) (a0_c1 : Int) (a0_c2 : Int) (r : Unit) (H : f_bits_Reader_Left_b86.f a0_c0 a0_c1 a0_c2 = some r) : Pv.Fn Try.prog 54 [.ptr 0 0 0] [(0, some (.box 154 (abits_Reader ⟨a0_c0, a0_c1, a0_c2⟩)))] 1 (fun x o => x = iV .i64 (IntKind.i64.wrap ((IntKind.i64.wrap ((8 : Int) * (a0_c0.length : Int))) - a0_c1)) ∧ o = [(0, some (.box 154 (abits_Reader ⟨a0_c0, a0_c1, a0_c2⟩)))]) := by
  unfold f_bits_Reader_Left_b86.f at H
  refine Fn.bodyK [0] Try.func54 rfl rfl (fun Γ hP hn => ?_)
  have hm : Try.prog.follows .mixedOrders = true := by kernel_rfl
  replace hn : Γ.n = 14 := hn
  refine AWp.seq ?_
  refine reg hP hn hm [] [0] [0] ⟨[(0, .ptr 0 0 0)], [(0, some (.box 154 (abits_Reader ⟨a0_c0, a0_c1, a0_c2⟩)))], 1⟩ [] (by kernel_rfl) trivial ?_
  refine AWp.seq ?_
  refine reg hP hn hm [(4, .any (iV .i64 (a0_c0.length : Int)))] [2] [0] ⟨[(2, iV .i64 (IntKind.i64.wrap ((IntKind.i64.wrap ((8 : Int) * (a0_c0.length : Int))) - a0_c1)))], [(0, some (.box 154 (abits_Reader ⟨a0_c0, a0_c1, a0_c2⟩)))], 1⟩ [((a0_c0.map (encInt .u8)).length : Int) = (a0_c0.length : Int)] (by kernel_rfl) ⟨by rw [len_map], trivial⟩ ?_
  refine AWp.conv (inv := [(0, 0)]) (vk := []) (e0 := []) (t := ⟨[(2, iV .i64 (IntKind.i64.wrap ((IntKind.i64.wrap ((8 : Int) * (a0_c0.length : Int))) - a0_c1)))], [(0, some (.box 154 (abits_Reader ⟨a0_c0, a0_c1, a0_c2⟩)))], 1⟩) (by kernel_rfl) ?_
  refine AWp.ret ?_
  obtain rfl := Option.some.inj H
  exact Exists.intro _ (And.intro (fun _ _ h => h) (And.intro (.inl rfl) (And.intro rfl (And.intro (by kernel_rfl) (by kernel_rfl)))))
def f_bits_Reader_End_b86.l0 (a0_c0 : List Int) (x3964 : Int) (x3965 : Int) : Option (Int × Int) := ((if (x3965 == (0 : Int)) = true then ((f_bits_Reader_Left_b86.f a0_c0 x3964 x3965) >>= fun t3970 => some (decide ((IntKind.i64.wrap ((IntKind.i64.wrap ((8 : Int) * (a0_c0.length : Int))) - x3964)) > (0 : Int)))) else (some false)) : Option (Bool)) >>= fun x3972 => if x3972 = true then ((f_bits_Reader_Bit_b86.f a0_c0 x3964 x3965) >>= fun t3976 => ((if t3976.1 = true then ((f_bits_Reader_fail_b86.f a0_c0 t3976.2.1 t3976.2.2 6) >>= fun t3981 => some t3981) else (some t3976.2.2)) : Option (Int)) >>= fun x3983 => f_bits_Reader_End_b86.l0 a0_c0 t3976.2.1 x3983) else (some (x3964, x3965))
partial_fixpoint
def f_bits_Reader_End_b86.f (a0_c0 : List Int) (a0_c1 : Int) (a0_c2 : Int) : Option (Int × Int × Int) := ((if (a0_c2 == (0 : Int)) = true then ((f_bits_Reader_Left_b86.f a0_c0 a0_c1 a0_c2) >>= fun t3937 => some (decide ((IntKind.i64.wrap ((IntKind.i64.wrap ((8 : Int) * (a0_c0.length : Int))) - a0_c1)) ≥ (8 : Int)))) else (some false)) : Option (Bool)) >>= fun x3939 => ((if x3939 = true then ((f_bits_Reader_fail_b86.f a0_c0 a0_c1 a0_c2 6) >>= fun t3943 => some t3943) else (some a0_c2)) : Option (Int)) >>= fun x3945 => (f_bits_Reader_End_b86.l0 a0_c0 a0_c1 x3945) >>= fun oo => match oo with | (x3984, x3985) => (some (x3985, x3984, x3985))
theorem f_bits_Reader_End_b86.ok (a0_c0 : List Int) (a0_c1 : Int) (a0_c2 : Int) (r : Int × Int × Int) (H : f_bits_Reader_End_b86.f a0_c0 a0_c1 a0_c2 = some r) : Pv.Fn Try.prog 51 [.ptr 0 0 0] [(0, some (.box 154 (abits_Reader ⟨a0_c0, a0_c1, a0_c2⟩)))] 1 (fun x o => x = iV .i64 r.1 ∧ o = [(0, some (.box 154 (abits_Reader ⟨a0_c0, r.2.1, r.2.2⟩)))]) := by
  unfold f_bits_Reader_End_b86.f at H
  refine Fn.bodyK [0] Try.func51 rfl rfl (fun Γ hP hn => ?_)
  have hm : Try.prog.follows .mixedOrders = true := by kernel_rfl
  replace hn : Γ.n = 33 := hn
  refine AWp.seq ?_
  refine reg hP hn hm [] [0] [0] ⟨[(0, .ptr 0 0 0)], [(0, some (.box 154 (abits_Reader ⟨a0_c0, a0_c1, a0_c2⟩)))], 1⟩ [] (by kernel_rfl) trivial ?_
  refine AWp.seq ?_
  refine AWp.seq ?_
  obtain ⟨o3986, e3987, H⟩ := bind_of H
  refine AWp.mono (Q := fun e s => (match (generalizing := false) o3986 with | x3939 => e = .normal ∧ s = ⟨[(0, .ptr 0 0 0), (12, bV x3939)], [(0, some (.box 154 (abits_Reader ⟨a0_c0, a0_c1, a0_c2⟩)))], 1⟩)) (AWp.cv ?_) ?_
  · replace H := e3987; clear e3987
    rcases Bool.eq_false_or_eq_true (a0_c2 == (0 : Int)) with c3936 | c3936
    · replace H := (ifT c3936).symm.trans H
      obtain ⟨t3937, e3938, H⟩ := bind_of H
      refine reg hP hn hm [(5, .b true), (7, .call [(0, 0)] [(0, 0)] [] [] 1 (iV .i64 (IntKind.i64.wrap ((IntKind.i64.wrap ((8 : Int) * (a0_c0.length : Int))) - a0_c1))) [(0, some (.box 154 (abits_Reader ⟨a0_c0, a0_c1, a0_c2⟩)))])] [0, 12] [0] ⟨[(0, .ptr 0 0 0), (12, bV (decide ((IntKind.i64.wrap ((IntKind.i64.wrap ((8 : Int) * (a0_c0.length : Int))) - a0_c1)) ≥ (8 : Int))))], [(0, some (.box 154 (abits_Reader ⟨a0_c0, a0_c1, a0_c2⟩)))], 1⟩ [(a0_c2 == (0 : Int)) = true, Enters Try.prog 54, Pv.Fn Try.prog 54 [.ptr 0 0 0] [(0, some (.box 154 (abits_Reader ⟨a0_c0, a0_c1, a0_c2⟩)))] 1 (fun r o => r = iV .i64 (IntKind.i64.wrap ((IntKind.i64.wrap ((8 : Int) * (a0_c0.length : Int))) - a0_c1)) ∧ o = [(0, some (.box 154 (abits_Reader ⟨a0_c0, a0_c1, a0_c2⟩)))])] (by kernel_rfl) ⟨by exact c3936, by exact Try.call54, by exact f_bits_Reader_Left_b86.ok a0_c0 a0_c1 a0_c2 t3937 e3938, trivial⟩ ?_
      obtain rfl := Option.some.inj H
      exact Exists.intro _ (And.intro (fun _ _ h => h.conv (inv := [(0, 0)]) (vk := []) (e0 := []) (t := ⟨[(0, .ptr 0 0 0), (12, bV (decide ((IntKind.i64.wrap ((IntKind.i64.wrap ((8 : Int) * (a0_c0.length : Int))) - a0_c1)) ≥ (8 : Int))))], [(0, some (.box 154 (abits_Reader ⟨a0_c0, a0_c1, a0_c2⟩)))], 1⟩) (by kernel_rfl)) (And.intro rfl rfl))
    · replace H := (ifF c3936).symm.trans H
      refine reg hP hn hm [(5, .b false)] [0, 12] [0] ⟨[(0, .ptr 0 0 0), (12, bV false)], [(0, some (.box 154 (abits_Reader ⟨a0_c0, a0_c1, a0_c2⟩)))], 1⟩ [(a0_c2 == (0 : Int)) = false] (by kernel_rfl) ⟨by exact c3936, trivial⟩ ?_
      obtain rfl := Option.some.inj H
      exact Exists.intro _ (And.intro (fun _ _ h => h.conv (inv := [(0, 0)]) (vk := []) (e0 := []) (t := ⟨[(0, .ptr 0 0 0), (12, bV false)], [(0, some (.box 154 (abits_Reader ⟨a0_c0, a0_c1, a0_c2⟩)))], 1⟩) (by kernel_rfl)) (And.intro rfl rfl))
  · obtain ⟨x3939, rfl⟩ : ∃ z, z = o3986 := ⟨_, rfl⟩
    rintro e s ⟨rfl, rfl⟩
    obtain ⟨o3988, e3989, H⟩ := bind_of H
    refine AWp.mono (Q := fun e s => (match (generalizing := false) o3988 with | x3945 => e = .normal ∧ s = ⟨[(0, .ptr 0 0 0)], [(0, some (.box 154 (abits_Reader ⟨a0_c0, a0_c1, x3945⟩)))], 1⟩)) (AWp.cv ?_) ?_
    · replace H := e3989; clear e3989
      refine AWp.cond x3939 rfl (fun c3940 => ?_) (fun c3940 => ?_)
      · replace H := (ifT c3940).symm.trans H
        obtain ⟨t3943, e3944, H⟩ := bind_of H
        refine reg hP hn hm [(1, .call [(0, 0)] [(0, 0)] [] [] 1 (.tup []) [(0, some (.box 154 (abits_Reader ⟨a0_c0, a0_c1, t3943⟩)))])] [0] [0] ⟨[(0, .ptr 0 0 0)], [(0, some (.box 154 (abits_Reader ⟨a0_c0, a0_c1, t3943⟩)))], 1⟩ [Enters Try.prog 91, Pv.Fn Try.prog 91 [.ptr 0 0 0, iV .i64 6] [(0, some (.box 154 (abits_Reader ⟨a0_c0, a0_c1, a0_c2⟩)))] 1 (fun r o => r = .tup [] ∧ o = [(0, some (.box 154 (abits_Reader ⟨a0_c0, a0_c1, t3943⟩)))])] (by kernel_rfl) ⟨by exact Try.call91, by exact f_bits_Reader_fail_b86.ok a0_c0 a0_c1 a0_c2 6 t3943 e3944, trivial⟩ ?_
        obtain rfl := Option.some.inj H
        exact Exists.intro _ (And.intro (fun _ _ h => h.conv (inv := [(0, 0)]) (vk := []) (e0 := []) (t := ⟨[(0, .ptr 0 0 0)], [(0, some (.box 154 (abits_Reader ⟨a0_c0, a0_c1, t3943⟩)))], 1⟩) (by kernel_rfl)) (And.intro rfl rfl))
      · replace H := (ifF c3940).symm.trans H
        refine AWp.skip ?_
        obtain rfl := Option.some.inj H
        exact Exists.intro _ (And.intro (fun _ _ h => h.conv (inv := [(0, 0)]) (vk := []) (e0 := []) (t := ⟨[(0, .ptr 0 0 0)], [(0, some (.box 154 (abits_Reader ⟨a0_c0, a0_c1, a0_c2⟩)))], 1⟩) (by kernel_rfl)) (And.intro rfl rfl))
    · obtain ⟨x3945, rfl⟩ : ∃ z, z = o3988 := ⟨_, rfl⟩
      rintro e s ⟨rfl, rfl⟩
      refine AWp.seq ?_
      refine AWp.block ?_
      obtain ⟨o3990, e3991, H⟩ := bind_of H
      refine AWp.loop (LWp.conv (inv := [(0, 0)]) (vk := []) (e0 := []) (t := ⟨[(0, .ptr 0 0 0)], [(0, some (.box 154 (abits_Reader ⟨a0_c0, a0_c1, x3945⟩)))], 1⟩) (by kernel_rfl) ?_)
      refine LWp.mono (Q := fun e s => (match (generalizing := false) o3990 with | (x3984, x3985) => e = .exit 0 ∧ s = ⟨[(0, .ptr 0 0 0)], [(0, some (.box 154 (abits_Reader ⟨a0_c0, x3984, x3985⟩)))], 1⟩)) (LWp.cv (withBody (fun body hbody => ?_))) ?_
      · refine f_bits_Reader_End_b86.l0.partial_correctness a0_c0 (motive := fun x3964 x3965 o3990 => LWp Γ body (fun e s => ∃ t, Cv Γ s t ∧ (match (generalizing := false) o3990 with | (x3984, x3985) => e = .exit 0 ∧ t = ⟨[(0, .ptr 0 0 0)], [(0, some (.box 154 (abits_Reader ⟨a0_c0, x3984, x3985⟩)))], 1⟩)) ⟨[(0, .ptr 0 0 0)], [(0, some (.box 154 (abits_Reader ⟨a0_c0, x3964, x3965⟩)))], 1⟩) ?_ _ _ _ e3991
        clear H e3991 o3990; intro self ih x3964 x3965 o3990 H
        subst hbody
        refine LWp.round ?_
        refine AWp.seq ?_
        refine AWp.seq ?_
        obtain ⟨o3992, e3993, H⟩ := bind_of H
        refine AWp.mono (Q := fun e s => (match (generalizing := false) o3992 with | x3972 => e = .normal ∧ s = ⟨[(0, .ptr 0 0 0), (24, bV x3972)], [(0, some (.box 154 (abits_Reader ⟨a0_c0, x3964, x3965⟩)))], 1⟩)) (AWp.cv ?_) ?_
        · replace H := e3993; clear e3993
          rcases Bool.eq_false_or_eq_true (x3965 == (0 : Int)) with c3969 | c3969
          · replace H := (ifT c3969).symm.trans H
            obtain ⟨t3970, e3971, H⟩ := bind_of H
            refine reg hP hn hm [(5, .b true), (7, .call [(0, 0)] [(0, 0)] [] [] 1 (iV .i64 (IntKind.i64.wrap ((IntKind.i64.wrap ((8 : Int) * (a0_c0.length : Int))) - x3964))) [(0, some (.box 154 (abits_Reader ⟨a0_c0, x3964, x3965⟩)))])] [0, 21, 22, 23, 24] [0] ⟨[(0, .ptr 0 0 0), (21, .ptr 0 0 0), (22, iV .i64 (IntKind.i64.wrap ((IntKind.i64.wrap ((8 : Int) * (a0_c0.length : Int))) - x3964))), (23, bV (decide ((IntKind.i64.wrap ((IntKind.i64.wrap ((8 : Int) * (a0_c0.length : Int))) - x3964)) > (0 : Int)))), (24, bV (decide ((IntKind.i64.wrap ((IntKind.i64.wrap ((8 : Int) * (a0_c0.length : Int))) - x3964)) > (0 : Int))))], [(0, some (.box 154 (abits_Reader ⟨a0_c0, x3964, x3965⟩)))], 1⟩ [(x3965 == (0 : Int)) = true, Enters Try.prog 54, Pv.Fn Try.prog 54 [.ptr 0 0 0] [(0, some (.box 154 (abits_Reader ⟨a0_c0, x3964, x3965⟩)))] 1 (fun r o => r = iV .i64 (IntKind.i64.wrap ((IntKind.i64.wrap ((8 : Int) * (a0_c0.length : Int))) - x3964)) ∧ o = [(0, some (.box 154 (abits_Reader ⟨a0_c0, x3964, x3965⟩)))])] (by kernel_rfl) ⟨by exact c3969, by exact Try.call54, by exact f_bits_Reader_Left_b86.ok a0_c0 x3964 x3965 t3970 e3971, trivial⟩ ?_
            obtain rfl := Option.some.inj H
            exact Exists.intro _ (And.intro (fun _ _ h => h.conv (inv := [(0, 0)]) (vk := []) (e0 := []) (t := ⟨[(0, .ptr 0 0 0), (24, bV (decide ((IntKind.i64.wrap ((IntKind.i64.wrap ((8 : Int) * (a0_c0.length : Int))) - x3964)) > (0 : Int))))], [(0, some (.box 154 (abits_Reader ⟨a0_c0, x3964, x3965⟩)))], 1⟩) (by kernel_rfl)) (And.intro rfl rfl))
          · replace H := (ifF c3969).symm.trans H
            refine reg hP hn hm [(5, .b false)] [0, 24] [0] ⟨[(0, .ptr 0 0 0), (24, bV false)], [(0, some (.box 154 (abits_Reader ⟨a0_c0, x3964, x3965⟩)))], 1⟩ [(x3965 == (0 : Int)) = false] (by kernel_rfl) ⟨by exact c3969, trivial⟩ ?_
            obtain rfl := Option.some.inj H
            exact Exists.intro _ (And.intro (fun _ _ h => h.conv (inv := [(0, 0)]) (vk := []) (e0 := []) (t := ⟨[(0, .ptr 0 0 0), (24, bV false)], [(0, some (.box 154 (abits_Reader ⟨a0_c0, x3964, x3965⟩)))], 1⟩) (by kernel_rfl)) (And.intro rfl rfl))
        · obtain ⟨x3972, rfl⟩ : ∃ z, z = o3992 := ⟨_, rfl⟩
          rintro e s ⟨rfl, rfl⟩
          refine AWp.cond x3972 rfl (fun c3973 => ?_) (fun c3973 => ?_)
          · replace H := (ifT c3973).symm.trans H
            refine AWp.skip ?_
            refine AWp.block ?_
            refine AWp.seq ?_
            obtain ⟨t3976, e3977, H⟩ := bind_of H
            refine reg hP hn hm [(1, .call [(0, 0)] [(0, 0)] [] [] 1 (bV t3976.1) [(0, some (.box 154 (abits_Reader ⟨a0_c0, t3976.2.1, t3976.2.2⟩)))])] [0, 26] [0] ⟨[(0, .ptr 0 0 0), (26, bV t3976.1)], [(0, some (.box 154 (abits_Reader ⟨a0_c0, t3976.2.1, t3976.2.2⟩)))], 1⟩ [Enters Try.prog 92, Pv.Fn Try.prog 92 [.ptr 0 0 0] [(0, some (.box 154 (abits_Reader ⟨a0_c0, x3964, x3965⟩)))] 1 (fun r o => r = bV t3976.1 ∧ o = [(0, some (.box 154 (abits_Reader ⟨a0_c0, t3976.2.1, t3976.2.2⟩)))])] (by kernel_rfl) ⟨by exact Try.call92, by exact f_bits_Reader_Bit_b86.ok a0_c0 x3964 x3965 t3976 e3977, trivial⟩ ?_
            obtain ⟨o3994, e3995, H⟩ := bind_of H
            refine AWp.mono (Q := fun e s => (match (generalizing := false) o3994 with | x3983 => e = .normal ∧ s = ⟨[(0, .ptr 0 0 0)], [(0, some (.box 154 (abits_Reader ⟨a0_c0, t3976.2.1, x3983⟩)))], 1⟩)) (AWp.cv ?_) ?_
            · replace H := e3995; clear e3995
              refine AWp.cond t3976.1 rfl (fun c3978 => ?_) (fun c3978 => ?_)
              · replace H := (ifT c3978).symm.trans H
                obtain ⟨t3981, e3982, H⟩ := bind_of H
                refine reg hP hn hm [(1, .call [(0, 0)] [(0, 0)] [] [] 1 (.tup []) [(0, some (.box 154 (abits_Reader ⟨a0_c0, t3976.2.1, t3981⟩)))])] [0] [0] ⟨[(0, .ptr 0 0 0)], [(0, some (.box 154 (abits_Reader ⟨a0_c0, t3976.2.1, t3981⟩)))], 1⟩ [Enters Try.prog 91, Pv.Fn Try.prog 91 [.ptr 0 0 0, iV .i64 6] [(0, some (.box 154 (abits_Reader ⟨a0_c0, t3976.2.1, t3976.2.2⟩)))] 1 (fun r o => r = .tup [] ∧ o = [(0, some (.box 154 (abits_Reader ⟨a0_c0, t3976.2.1, t3981⟩)))])] (by kernel_rfl) ⟨by exact Try.call91, by exact f_bits_Reader_fail_b86.ok a0_c0 t3976.2.1 t3976.2.2 6 t3981 e3982, trivial⟩ ?_
                obtain rfl := Option.some.inj H
                exact Exists.intro _ (And.intro (fun _ _ h => h.conv (inv := [(0, 0)]) (vk := []) (e0 := []) (t := ⟨[(0, .ptr 0 0 0)], [(0, some (.box 154 (abits_Reader ⟨a0_c0, t3976.2.1, t3981⟩)))], 1⟩) (by kernel_rfl)) (And.intro rfl rfl))
              · replace H := (ifF c3978).symm.trans H
                refine AWp.skip ?_
                obtain rfl := Option.some.inj H
                exact Exists.intro _ (And.intro (fun _ _ h => h.conv (inv := [(0, 0)]) (vk := []) (e0 := []) (t := ⟨[(0, .ptr 0 0 0)], [(0, some (.box 154 (abits_Reader ⟨a0_c0, t3976.2.1, t3976.2.2⟩)))], 1⟩) (by kernel_rfl)) (And.intro rfl rfl))
            · obtain ⟨x3983, rfl⟩ : ∃ z, z = o3994 := ⟨_, rfl⟩
              rintro e s ⟨rfl, rfl⟩
              exact LWp.conv (inv := [(0, 0)]) (vk := []) (e0 := []) (t := ⟨[(0, .ptr 0 0 0)], [(0, some (.box 154 (abits_Reader ⟨a0_c0, t3976.2.1, x3983⟩)))], 1⟩) (by kernel_rfl) (ih _ _ _ H)
          · replace H := (ifF c3973).symm.trans H
            refine AWp.exit ?_
            obtain rfl := Option.some.inj H
            exact Exists.intro _ (And.intro (fun _ _ h => h.conv (inv := [(0, 0)]) (vk := []) (e0 := []) (t := ⟨[(0, .ptr 0 0 0)], [(0, some (.box 154 (abits_Reader ⟨a0_c0, x3964, x3965⟩)))], 1⟩) (by kernel_rfl)) (And.intro rfl rfl))
      · obtain ⟨x3984, x3985⟩ := o3990
        rintro e s ⟨rfl, rfl⟩
        refine AWp.seq ?_
        refine reg hP hn hm [] [2] [0] ⟨[(2, iV .i64 x3985)], [(0, some (.box 154 (abits_Reader ⟨a0_c0, x3984, x3985⟩)))], 1⟩ [] (by kernel_rfl) trivial ?_
        refine AWp.conv (inv := [(0, 0)]) (vk := []) (e0 := []) (t := ⟨[(2, iV .i64 x3985)], [(0, some (.box 154 (abits_Reader ⟨a0_c0, x3984, x3985⟩)))], 1⟩) (by kernel_rfl) ?_
        refine AWp.ret ?_
        obtain rfl := Option.some.inj H
        exact Exists.intro _ (And.intro (fun _ _ h => h) (And.intro (.inl rfl) (And.intro rfl (And.intro (by kernel_rfl) (by kernel_rfl)))))
def f_pluvialref02_Text.l0 (a0 : List Int) (x4044 : ByteArray) (x4045 : Int) : Option (ByteArray) := if (decide (x4045 < (a0.length : Int))) = true then ((at? a0 x4045) >>= fun b4053 => (f_pluvialref02_Put.f (IntKind.u64.wrap (b4053)) 8) >>= fun t4056 => (chk (((x4044.size + t4056.size : Nat) : Int) ≤ 9223372036854775807)) >>= fun _ => f_pluvialref02_Text.l0 a0 (x4044 ++ t4056) (IntKind.i64.wrap (x4045 + (1 : Int)))) else (some x4044)
partial_fixpoint
def f_pluvialref02_Text.f (a0 : List Int) : Option (ByteArray) := (f_pluvialref02_Text.l0 a0 (⟨#[]⟩ : ByteArray) 0) >>= fun x4059 => some x4059
theorem f_pluvialref02_Text.ok (a0 : List Int) (r : ByteArray) (H : f_pluvialref02_Text.f a0 = some r) : Pv.Fn Try.prog 53 [.im (.row (a0.map (encInt .u8)))] [] 0 (fun x o => x = sV r ∧ o = []) := by
  unfold f_pluvialref02_Text.f at H
  refine Fn.bodyK [] Try.func53 rfl rfl (fun Γ hP hn => ?_)
  have hm : Try.prog.follows .mixedOrders = true := by kernel_rfl
  replace hn : Γ.n = 20 := hn
  refine AWp.seq ?_
  refine reg hP hn hm [] [0] [] ⟨[(0, .im (.row (a0.map (encInt .u8))))], [], 0⟩ [] (by kernel_rfl) trivial ?_
  refine AWp.seq ?_
  refine reg hP hn hm [] [0, 3] [] ⟨[(0, .im (.row (a0.map (encInt .u8)))), (3, sV (⟨#[]⟩ : ByteArray))], [], 0⟩ [] (by kernel_rfl) trivial ?_
  refine AWp.seq ?_
  refine AWp.seq ?_
  refine reg hP hn hm [] [0, 3, 4] [] ⟨[(0, .im (.row (a0.map (encInt .u8)))), (3, sV (⟨#[]⟩ : ByteArray)), (4, iV .i64 0)], [], 0⟩ [] (by kernel_rfl) trivial ?_
  refine AWp.block ?_
  obtain ⟨o4060, e4061, H⟩ := bind_of H
  refine AWp.loop (LWp.conv (inv := []) (vk := []) (e0 := []) (t := ⟨[(0, .im (.row (a0.map (encInt .u8)))), (3, sV (⟨#[]⟩ : ByteArray)), (4, iV .i64 0)], [], 0⟩) (by kernel_rfl) ?_)
  refine LWp.mono (Q := fun e s => (match (generalizing := false) o4060 with | x4059 => e = .exit 0 ∧ s = ⟨[(3, sV x4059)], [], 0⟩)) (LWp.cv (withBody (fun body hbody => ?_))) ?_
  · refine f_pluvialref02_Text.l0.partial_correctness a0 (motive := fun x4044 x4045 o4060 => LWp Γ body (fun e s => ∃ t, Cv Γ s t ∧ (match (generalizing := false) o4060 with | x4059 => e = .exit 0 ∧ t = ⟨[(3, sV x4059)], [], 0⟩)) ⟨[(0, .im (.row (a0.map (encInt .u8)))), (3, sV x4044), (4, iV .i64 x4045)], [], 0⟩) ?_ _ _ _ e4061
    clear H e4061 o4060; intro self ih x4044 x4045 o4060 H
    subst hbody
    refine LWp.round ?_
    refine AWp.seq ?_
    refine AWp.seq ?_
    refine reg hP hn hm [(2, .any (iV .i64 (a0.length : Int)))] [0, 3, 4, 8] [] ⟨[(0, .im (.row (a0.map (encInt .u8)))), (3, sV x4044), (4, iV .i64 x4045), (8, bV (decide (x4045 < (a0.length : Int))))], [], 0⟩ [((a0.map (encInt .u8)).length : Int) = (a0.length : Int)] (by kernel_rfl) ⟨by rw [len_map], trivial⟩ ?_
    refine AWp.cond (decide (x4045 < (a0.length : Int))) rfl (fun c4046 => ?_) (fun c4046 => ?_)
    · replace H := (ifT c4046).symm.trans H
      refine AWp.skip ?_
      refine AWp.seq ?_
      refine AWp.block ?_
      obtain ⟨b4053, p4054, q4055, H⟩ := at_of H
      obtain ⟨t4056, e4057, H⟩ := bind_of H
      obtain ⟨c4058, H⟩ := chk_of H
      refine reg hP hn hm [(3, .c ((encInt .u8) b4053)), (6, .call [] [] [] [] 0 (sV t4056) [])] [0, 3, 4] [] ⟨[(0, .im (.row (a0.map (encInt .u8)))), (3, sV (x4044 ++ t4056)), (4, iV .i64 x4045)], [], 0⟩ [0 ≤ x4045, (a0.map (encInt .u8))[(Int.toNat (x4045))]? = some ((encInt .u8) b4053), Enters Try.prog 87, Pv.Fn Try.prog 87 [iV .u64 (IntKind.u64.wrap (b4053)), iV .i64 8] [] 0 (fun r o => r = sV t4056 ∧ o = []), ((x4044.size + t4056.size : Nat) : Int) ≤ 9223372036854775807] (by kernel_rfl) ⟨by exact p4054, by exact el_map (encInt .u8) q4055, by exact Try.call87, by exact f_pluvialref02_Put.ok (IntKind.u64.wrap (b4053)) 8 t4056 e4057, by exact c4058, trivial⟩ ?_
      refine reg hP hn hm [] [0, 3, 4] [] ⟨[(0, .im (.row (a0.map (encInt .u8)))), (3, sV (x4044 ++ t4056)), (4, iV .i64 (IntKind.i64.wrap (x4045 + (1 : Int))))], [], 0⟩ [] (by kernel_rfl) trivial ?_
      exact LWp.conv (inv := []) (vk := []) (e0 := []) (t := ⟨[(0, .im (.row (a0.map (encInt .u8)))), (3, sV (x4044 ++ t4056)), (4, iV .i64 (IntKind.i64.wrap (x4045 + (1 : Int))))], [], 0⟩) (by kernel_rfl) (ih _ _ _ H)
    · replace H := (ifF c4046).symm.trans H
      refine AWp.exit ?_
      obtain rfl := Option.some.inj H
      exact Exists.intro _ (And.intro (fun _ _ h => h.conv (inv := []) (vk := []) (e0 := []) (t := ⟨[(3, sV x4044)], [], 0⟩) (by kernel_rfl)) (And.intro rfl rfl))
  · obtain ⟨x4059, rfl⟩ : ∃ z, z = o4060 := ⟨_, rfl⟩
    rintro e s ⟨rfl, rfl⟩
    refine AWp.seq ?_
    refine reg hP hn hm [] [2] [] ⟨[(2, sV x4059)], [], 0⟩ [] (by kernel_rfl) trivial ?_
    refine AWp.conv (inv := []) (vk := []) (e0 := []) (t := ⟨[(2, sV x4059)], [], 0⟩) (by kernel_rfl) ?_
    refine AWp.ret ?_
    obtain rfl := Option.some.inj H
    exact Exists.intro _ (And.intro (fun _ _ h => h) (And.intro (.inl rfl) (And.intro rfl (And.intro (by kernel_rfl) (by kernel_rfl)))))
def f_pluviallaw14_TombLays.f (a0 : List Ttomb_Range) (a1 : List Int) (a2 : Int) : Option (Bool) := ((if (decide ((a0.length : Int) > (60 : Int))) = true then (some true) else (some (decide ((a1.length : Int) > (300 : Int))))) : Option (Bool)) >>= fun x3204 => if x3204 = true then ((f_pluviallaw14_awake.f) >>= fun t3208 => some t3208) else ((f_pluviallaw14_To.f a0) >>= fun t3214 => (f_tomb_Of.f t3214) >>= fun t3216 => (f_tomb_Set_Lay_2b3.f (t3216) 0) >>= fun t3499 => (f_bits_Writer_Bytes_ba5.f t3499.1 t3499.2) >>= fun t3704 => (f_pluviallaw14_TombLays_1.f (t3216)) >>= fun t3706 => (f_pluvialref02_Bytes.f t3706) >>= fun t3708 => if (!((strOf t3704).toList == (strOf t3708).toList)) = true then (some false) else ((f_bits_Writer_Bytes_657.f t3499.1 t3499.2) >>= fun t3719 => (f_bits_Read.f t3719) >>= fun t3721 => (f_tomb_Take_b86.f t3719 0 0 60) >>= fun t3928 => (((f_pluviallaw14_same.f (t3216) (t3928.1)) >>= fun t3998 => if (!t3998) = true then (some true) else ((f_bits_Reader_End_b86.f t3719 t3928.2.1 t3928.2.2) >>= fun t4001 => some (t4001.1 != (0 : Int)))) : Option (Bool)) >>= fun x4003 => if x4003 = true then (some false) else ((f_bits_Read.f a1) >>= fun t4007 => (f_tomb_Take_b86.f a1 0 0 (IntKind.i64.wrap (a2))) >>= fun t4011 => (f_bits_Reader_Err_b86.f a1 t4011.2.1 t4011.2.2) >>= fun t4015 => if (t4011.2.2 != (0 : Int)) = true then ((((f_pluviallaw14_awake.f) >>= fun t4023 => if t4023 = true then ((f_tomb_Set_Empty.f (t4011.1)) >>= fun t4026 => some (((t4011.1).f0.length : Int) == (0 : Int))) else (some false)) : Option (Bool)) >>= fun x4028 => some x4028) else ((f_pluviallaw14_TombLays_1.f (t4011.1)) >>= fun t4064 => (f_pluvialref02_Text.f a1) >>= fun t4066 => (((f_pluviallaw14_awake.f) >>= fun t4103 => if t4103 = true then ((f_tomb_Set_Ranges.f (t4011.1)) >>= fun t4106 => (f_pluviallaw14_apart.f t4106) >>= fun t4108 => if t4108 = true then ((f_tomb_Set_Ranges.f (t4011.1)) >>= fun t4111 => if (decide ((t4111.length : Int) ≤ (IntKind.i64.wrap (a2)))) = true then (if (decide ((t4064.size : Int) ≤ (t4066.size : Int))) = true then ((chk (0 ≤ (0 : Int) ∧ (0 : Int) ≤ (t4064.size : Int) ∧ (t4064.size : Int) ≤ (t4066.size : Int))) >>= fun _ => if ((t4066.extract (Int.toNat ((0 : Int))) (Int.toNat ((t4064.size : Int)))).toList == t4064.toList) = true then ((f_bits_Reader_Left_b86.f a1 t4011.2.1 t4011.2.2) >>= fun t4117 => some ((IntKind.i64.wrap ((IntKind.i64.wrap ((8 : Int) * (a1.length : Int))) - t4011.2.1)) == (IntKind.i64.wrap ((t4066.size : Int) - (t4064.size : Int))))) else (some false)) else (some false)) else (some false)) else (some false)) else (some false)) : Option (Bool)) >>= fun x4119 => some x4119))))
theorem f_pluviallaw14_TombLays.ok (a0 : List Ttomb_Range) (a1 : List Int) (a2 : Int) (r : Bool) (H : f_pluviallaw14_TombLays.f a0 a1 a2 = some r) : Pv.Fn Try.prog 12 [.im (.row (a0.map etomb_Range)), .im (.row (a1.map (encInt .u8))), iV .u8 a2] [] 0 (fun x o => x = bV r ∧ o = []) := by
  unfold f_pluviallaw14_TombLays.f at H
  refine Fn.bodyK [] Try.func12 rfl rfl (fun Γ hP hn => ?_)
  have hm : Try.prog.follows .mixedOrders = true := by kernel_rfl
  replace hn : Γ.n = 113 := hn
  refine AWp.seq ?_
  refine reg hP hn hm [] [0, 1, 2] [] ⟨[(0, .im (.row (a0.map etomb_Range))), (1, .im (.row (a1.map (encInt .u8)))), (2, iV .u8 a2)], [], 0⟩ [] (by kernel_rfl) trivial ?_
  refine AWp.seq ?_
  refine AWp.seq ?_
  obtain ⟨o4120, e4121, H⟩ := bind_of H
  refine AWp.mono (Q := fun e s => (match (generalizing := false) o4120 with | x3204 => e = .normal ∧ s = ⟨[(0, .im (.row (a0.map etomb_Range))), (1, .im (.row (a1.map (encInt .u8)))), (2, iV .u8 a2), (22, bV x3204)], [], 0⟩)) (AWp.cv ?_) ?_
  · replace H := e4121; clear e4121
    rcases Bool.eq_false_or_eq_true (decide ((a0.length : Int) > (60 : Int))) with c3203 | c3203
    · replace H := (ifT c3203).symm.trans H
      refine reg hP hn hm [(1, .any (iV .i64 (a0.length : Int))), (3, .b true)] [0, 1, 2, 22] [] ⟨[(0, .im (.row (a0.map etomb_Range))), (1, .im (.row (a1.map (encInt .u8)))), (2, iV .u8 a2), (22, bV true)], [], 0⟩ [((a0.map etomb_Range).length : Int) = (a0.length : Int), (decide ((a0.length : Int) > (60 : Int))) = true] (by kernel_rfl) ⟨by rw [len_map], by exact c3203, trivial⟩ ?_
      obtain rfl := Option.some.inj H
      exact Exists.intro _ (And.intro (fun _ _ h => h.conv (inv := []) (vk := []) (e0 := []) (t := ⟨[(0, .im (.row (a0.map etomb_Range))), (1, .im (.row (a1.map (encInt .u8)))), (2, iV .u8 a2), (22, bV true)], [], 0⟩) (by kernel_rfl)) (And.intro rfl rfl))
    · replace H := (ifF c3203).symm.trans H
      refine reg hP hn hm [(1, .any (iV .i64 (a0.length : Int))), (3, .b false), (5, .any (iV .i64 (a1.length : Int)))] [0, 1, 2, 22] [] ⟨[(0, .im (.row (a0.map etomb_Range))), (1, .im (.row (a1.map (encInt .u8)))), (2, iV .u8 a2), (22, bV (decide ((a1.length : Int) > (300 : Int))))], [], 0⟩ [((a0.map etomb_Range).length : Int) = (a0.length : Int), (decide ((a0.length : Int) > (60 : Int))) = false, ((a1.map (encInt .u8)).length : Int) = (a1.length : Int)] (by kernel_rfl) ⟨by rw [len_map], by exact c3203, by rw [len_map], trivial⟩ ?_
      obtain rfl := Option.some.inj H
      exact Exists.intro _ (And.intro (fun _ _ h => h.conv (inv := []) (vk := []) (e0 := []) (t := ⟨[(0, .im (.row (a0.map etomb_Range))), (1, .im (.row (a1.map (encInt .u8)))), (2, iV .u8 a2), (22, bV (decide ((a1.length : Int) > (300 : Int))))], [], 0⟩) (by kernel_rfl)) (And.intro rfl rfl))
  · obtain ⟨x3204, rfl⟩ : ∃ z, z = o4120 := ⟨_, rfl⟩
    rintro e s ⟨rfl, rfl⟩
    refine AWp.cond x3204 rfl (fun c3205 => ?_) (fun c3205 => ?_)
    · replace H := (ifT c3205).symm.trans H
      refine AWp.seq ?_
      obtain ⟨t3208, e3209, H⟩ := bind_of H
      refine reg hP hn hm [(0, .call [] [] [] [] 0 (bV t3208) [])] [6] [] ⟨[(6, bV t3208)], [], 0⟩ [Enters Try.prog 13, Pv.Fn Try.prog 13 [] [] 0 (fun r o => r = bV t3208 ∧ o = [])] (by kernel_rfl) ⟨by exact Try.call13, by exact f_pluviallaw14_awake.ok  t3208 e3209, trivial⟩ ?_
      refine AWp.conv (inv := []) (vk := []) (e0 := []) (t := ⟨[(6, bV t3208)], [], 0⟩) (by kernel_rfl) ?_
      refine AWp.ret ?_
      obtain rfl := Option.some.inj H
      exact Exists.intro _ (And.intro (fun _ _ h => h) (And.intro (.inl rfl) (And.intro rfl (And.intro (by kernel_rfl) (by kernel_rfl)))))
    · replace H := (ifF c3205).symm.trans H
      refine AWp.skip ?_
      refine AWp.seq ?_
      refine reg hP hn hm [] [0, 1, 2, 7] [] ⟨[(0, .im (.row (a0.map etomb_Range))), (1, .im (.row (a1.map (encInt .u8)))), (2, iV .u8 a2), (7, .im (.sc (.func (.func 44) #[] #[])))], [], 0⟩ [] (by kernel_rfl) trivial ?_
      refine AWp.seq ?_
      obtain ⟨t3214, e3215, H⟩ := bind_of H
      obtain ⟨t3216, e3217, H⟩ := bind_of H
      refine reg hP hn hm [(1, .call [] [(0, 0)] [] [0] 0 (.own 0) [(0, some (.row 2 64 (t3214.map etomb_Range)))]), (2, .call [] [(0, 1)] [0] [1] 0 (.agg [.own 0]) [(0, some (.row 2 64 (((t3216).f0).map etomb_Range)))]), (3, .k 2)] [1, 2, 7, 8] [1, 2] ⟨[(1, .im (.row (a1.map (encInt .u8)))), (2, iV .u8 a2), (7, .im (.sc (.func (.func 44) #[] #[]))), (8, .ptr 2 0 0)], [(1, some (.row 2 64 (((t3216).f0).map etomb_Range))), (2, some (.box 27 [.own 1]))], 0⟩ [Enters Try.prog 15, Pv.Fn Try.prog 15 [.im (.row (a0.map etomb_Range))] [] 0 (fun r o => r = .own 0 ∧ o = [(0, some (.row 2 64 (t3214.map etomb_Range)))]), Enters Try.prog 14, Pv.Fn Try.prog 14 [.im (.row (t3214.map etomb_Range))] [] 0 (fun r o => r = .agg [.own 0] ∧ o = [(0, some (.row 2 64 (((t3216).f0).map etomb_Range)))])] (by kernel_rfl) ⟨by exact Try.call15, by exact f_pluviallaw14_To.ok a0 t3214 e3215, by exact Try.call14, by exact f_tomb_Of.ok t3214 t3216 e3217, trivial⟩ ?_
      refine AWp.seq ?_
      refine reg hP hn hm [(1, .k 3)] [1, 2, 7, 8, 9] [1, 2, 3] ⟨[(1, .im (.row (a1.map (encInt .u8)))), (2, iV .u8 a2), (7, .im (.sc (.func (.func 44) #[] #[]))), (8, .ptr 2 0 0), (9, .ptr 3 0 0)], [(1, some (.row 2 64 (((t3216).f0).map etomb_Range))), (2, some (.box 27 [.own 1])), (3, some (.box 101 [.none0, iV .u64 0]))], 0⟩ [] (by kernel_rfl) trivial ?_
      refine AWp.seq ?_
      refine AWp.conv (inv := [(2, 2), (3, 3)]) (vk := [1]) (e0 := []) (t := ⟨[(1, .im (.row (a1.map (encInt .u8)))), (2, iV .u8 a2), (7, .im (.sc (.func (.func 44) #[] #[]))), (8, .ptr 2 0 0), (9, .ptr 3 0 0)], [(2, some (.box 27 [.im (.row (((t3216).f0).map etomb_Range))])), (3, some (.box 101 [.none0, iV .u64 0]))], 0⟩) (by kernel_rfl) ?_
      obtain ⟨t3499, e3500, H⟩ := bind_of H
      refine reg hP hn hm [(2, .call [(3, 0)] [(0, 3), (1, 4)] [] [4] 1 (.tup []) [(0, some (.box 101 [.own 1, iV .u64 t3499.2])), (1, some (.row 1 5 (t3499.1.map (encInt .u8))))])] [1, 2, 7, 8, 9] [2, 3, 4] ⟨[(1, .im (.row (a1.map (encInt .u8)))), (2, iV .u8 a2), (7, .im (.sc (.func (.func 44) #[] #[]))), (8, .ptr 2 0 0), (9, .ptr 3 0 0)], [(2, some (.box 27 [.im (.row (((t3216).f0).map etomb_Range))])), (3, some (.box 101 [.own 4, iV .u64 t3499.2])), (4, some (.row 1 5 (t3499.1.map (encInt .u8))))], 0⟩ [Enters Try.prog 46, Pv.Fn Try.prog 46 [.agg [.im (.row (((t3216).f0).map etomb_Range))], .ptr 0 0 0] [(0, some (.box 101 [.none0, iV .u64 0]))] 1 (fun r o => r = .tup [] ∧ o = [(0, some (.box 101 [.own 1, iV .u64 t3499.2])), (1, some (.row 1 5 (t3499.1.map (encInt .u8))))])] (by kernel_rfl) ⟨by exact Try.call46, by exact f_tomb_Set_Lay_2b3.ok (t3216) 0 t3499 e3500, trivial⟩ ?_
      refine AWp.seq ?_
      refine AWp.seq ?_
      obtain ⟨t3704, e3705, H⟩ := bind_of H
      obtain ⟨t3706, e3707, H⟩ := bind_of H
      obtain ⟨t3708, e3709, H⟩ := bind_of H
      refine reg hP hn hm [(1, .call [(3, 0), (4, 1)] [(0, 3), (2, 5)] [] [5] 2 (.own 2) [(0, some (.box 101 (abits_Writer ⟨t3499.1, t3499.2⟩))), (1, none), (2, some (.row 1 5 (t3704.map (encInt .u8))))]), (2, .more (xStr t3704)), (5, .call [] [] [] [] 0 (sV t3706) []), (6, .call [] [(0, 6)] [] [6] 0 (.own 0) [(0, some (.row 1 5 (t3708.map (encInt .u8))))]), (7, .more (xStr t3708))] [1, 2, 7, 8, 9, 40] [2, 3] ⟨[(1, .im (.row (a1.map (encInt .u8)))), (2, iV .u8 a2), (7, .im (.sc (.func (.func 44) #[] #[]))), (8, .ptr 2 0 0), (9, .ptr 3 0 0), (40, bV (!((strOf t3704).toList == (strOf t3708).toList)))], [(2, some (.box 27 [.im (.row (((t3216).f0).map etomb_Range))])), (3, some (.box 101 (abits_Writer ⟨t3499.1, t3499.2⟩)))], 0⟩ [Enters Try.prog 47, Pv.Fn Try.prog 47 [.ptr 0 0 0] [(0, some (.box 101 [.own 1, iV .u64 t3499.2])), (1, some (.row 1 5 (t3499.1.map (encInt .u8))))] 2 (fun r o => r = .own 2 ∧ o = [(0, some (.box 101 (abits_Writer ⟨t3499.1, t3499.2⟩))), (1, none), (2, some (.row 1 5 (t3704.map (encInt .u8))))]), t3704.map (encInt .u8) = t3704.map (encInt .u8), Enters Try.prog 44, Pv.Fn Try.prog 44 [.agg [.im (.row (((t3216).f0).map etomb_Range))]] [] 0 (fun r o => r = sV t3706 ∧ o = []), Enters Try.prog 48, Pv.Fn Try.prog 48 [sV t3706] [] 0 (fun r o => r = .own 0 ∧ o = [(0, some (.row 1 5 (t3708.map (encInt .u8))))]), t3708.map (encInt .u8) = t3708.map (encInt .u8)] (by kernel_rfl) ⟨by exact Try.call47, by exact f_bits_Writer_Bytes_ba5.ok t3499.1 t3499.2 t3704 e3705, by exact rfl, by exact Try.call44, by exact f_pluviallaw14_TombLays_1.ok (t3216) t3706 e3707, by exact Try.call48, by exact f_pluvialref02_Bytes.ok t3706 t3708 e3709, by exact rfl, trivial⟩ ?_
      refine AWp.cond (!((strOf t3704).toList == (strOf t3708).toList)) rfl (fun c3710 => ?_) (fun c3710 => ?_)
      · replace H := (ifT c3710).symm.trans H
        refine AWp.seq ?_
        refine reg hP hn hm [] [6] [] ⟨[(6, bV false)], [], 0⟩ [] (by kernel_rfl) trivial ?_
        refine AWp.conv (inv := []) (vk := []) (e0 := []) (t := ⟨[(6, bV false)], [], 0⟩) (by kernel_rfl) ?_
        refine AWp.ret ?_
        obtain rfl := Option.some.inj H
        exact Exists.intro _ (And.intro (fun _ _ h => h) (And.intro (.inl rfl) (And.intro rfl (And.intro (by kernel_rfl) (by kernel_rfl)))))
      · replace H := (ifF c3710).symm.trans H
        refine AWp.skip ?_
        refine AWp.seq ?_
        obtain ⟨t3719, e3720, H⟩ := bind_of H
        obtain ⟨t3721, e3722, H⟩ := bind_of H
        refine reg hP hn hm [(1, .call [(3, 0)] [(0, 3), (1, 7)] [] [7] 1 (.own 1) [(0, some (.box 101 (abits_Writer ⟨t3499.1, t3499.2⟩))), (1, some (.row 1 5 (t3719.map (encInt .u8))))]), (2, .call [] [(0, 8)] [7] [8] 0 (.ptr 0 0 0) [(0, some (.box 154 (abits_Reader ⟨t3719, 0, 0⟩)))])] [1, 2, 7, 8, 10] [2, 8] ⟨[(1, .im (.row (a1.map (encInt .u8)))), (2, iV .u8 a2), (7, .im (.sc (.func (.func 44) #[] #[]))), (8, .ptr 2 0 0), (10, .ptr 8 0 0)], [(2, some (.box 27 [.im (.row (((t3216).f0).map etomb_Range))])), (8, some (.box 154 (abits_Reader ⟨t3719, 0, 0⟩)))], 0⟩ [Enters Try.prog 47, Pv.Fn Try.prog 47 [.ptr 0 0 0] [(0, some (.box 101 (abits_Writer ⟨t3499.1, t3499.2⟩)))] 1 (fun r o => r = .own 1 ∧ o = [(0, some (.box 101 (abits_Writer ⟨t3499.1, t3499.2⟩))), (1, some (.row 1 5 (t3719.map (encInt .u8))))]), Enters Try.prog 49, Pv.Fn Try.prog 49 [.im (.row (t3719.map (encInt .u8)))] [] 0 (fun r o => r = .ptr 0 0 0 ∧ o = [(0, some (.box 154 (abits_Reader ⟨t3719, 0, 0⟩)))])] (by kernel_rfl) ⟨by exact Try.call47, by exact f_bits_Writer_Bytes_657.ok t3499.1 t3499.2 t3719 e3720, by exact Try.call49, by exact f_bits_Read.ok t3719 t3721 e3722, trivial⟩ ?_
        refine AWp.seq ?_
        refine AWp.seq ?_
        obtain ⟨t3928, e3929, H⟩ := bind_of H
        refine reg hP hn hm [(1, .call [(8, 0)] [(0, 8), (1, 9)] [] [9] 1 (.agg [.own 1]) [(0, some (.box 154 (abits_Reader ⟨t3719, t3928.2.1, t3928.2.2⟩))), (1, some (.row 2 64 (((t3928.1).f0).map etomb_Range)))]), (2, .k 10)] [1, 2, 7, 8, 10, 11] [2, 8, 9, 10] ⟨[(1, .im (.row (a1.map (encInt .u8)))), (2, iV .u8 a2), (7, .im (.sc (.func (.func 44) #[] #[]))), (8, .ptr 2 0 0), (10, .ptr 8 0 0), (11, .ptr 10 0 0)], [(2, some (.box 27 [.im (.row (((t3216).f0).map etomb_Range))])), (8, some (.box 154 (abits_Reader ⟨t3719, t3928.2.1, t3928.2.2⟩))), (9, some (.row 2 64 (((t3928.1).f0).map etomb_Range))), (10, some (.box 27 [.own 9]))], 0⟩ [Enters Try.prog 50, Pv.Fn Try.prog 50 [.ptr 0 0 0, iV .i64 60] [(0, some (.box 154 (abits_Reader ⟨t3719, 0, 0⟩)))] 1 (fun r o => r = .agg [.own 1] ∧ o = [(0, some (.box 154 (abits_Reader ⟨t3719, t3928.2.1, t3928.2.2⟩))), (1, some (.row 2 64 (((t3928.1).f0).map etomb_Range)))])] (by kernel_rfl) ⟨by exact Try.call50, by exact f_tomb_Take_b86.ok t3719 0 0 60 t3928 e3929, trivial⟩ ?_
        refine AWp.seq ?_
        obtain ⟨o4122, e4123, H⟩ := bind_of H
        refine AWp.mono (Q := fun e s => (match (generalizing := false) o4122 with | x4003 => e = .normal ∧ s = ⟨[(1, .im (.row (a1.map (encInt .u8)))), (2, iV .u8 a2), (7, .im (.sc (.func (.func 44) #[] #[]))), (54, bV x4003)], [], 0⟩)) (AWp.cv ?_) ?_
        · replace H := e4123; clear e4123
          obtain ⟨t3998, e3999, H⟩ := bind_of H
          rcases Bool.eq_false_or_eq_true (!t3998) with c4000 | c4000
          · replace H := (ifT c4000).symm.trans H
            refine reg hP hn hm [(2, .call [] [] [9] [] 0 (bV t3998) []), (4, .b true)] [1, 2, 7, 54] [] ⟨[(1, .im (.row (a1.map (encInt .u8)))), (2, iV .u8 a2), (7, .im (.sc (.func (.func 44) #[] #[]))), (54, bV true)], [], 0⟩ [Enters Try.prog 29, Pv.Fn Try.prog 29 [.agg [.im (.row (((t3216).f0).map etomb_Range))], .agg [.im (.row (((t3928.1).f0).map etomb_Range))]] [] 0 (fun r o => r = bV t3998 ∧ o = []), (!t3998) = true] (by kernel_rfl) ⟨by exact Try.call29, by exact f_pluviallaw14_same.ok (t3216) (t3928.1) t3998 e3999, by exact c4000, trivial⟩ ?_
            obtain rfl := Option.some.inj H
            exact Exists.intro _ (And.intro (fun _ _ h => h.conv (inv := []) (vk := []) (e0 := []) (t := ⟨[(1, .im (.row (a1.map (encInt .u8)))), (2, iV .u8 a2), (7, .im (.sc (.func (.func 44) #[] #[]))), (54, bV true)], [], 0⟩) (by kernel_rfl)) (And.intro rfl rfl))
          · replace H := (ifF c4000).symm.trans H
            obtain ⟨t4001, e4002, H⟩ := bind_of H
            refine reg hP hn hm [(2, .call [] [] [9] [] 0 (bV t3998) []), (4, .b false), (6, .call [(8, 0)] [(0, 8)] [] [] 1 (iV .i64 t4001.1) [(0, some (.box 154 (abits_Reader ⟨t3719, t4001.2.1, t4001.2.2⟩)))])] [1, 2, 7, 54] [] ⟨[(1, .im (.row (a1.map (encInt .u8)))), (2, iV .u8 a2), (7, .im (.sc (.func (.func 44) #[] #[]))), (54, bV (t4001.1 != (0 : Int)))], [], 0⟩ [Enters Try.prog 29, Pv.Fn Try.prog 29 [.agg [.im (.row (((t3216).f0).map etomb_Range))], .agg [.im (.row (((t3928.1).f0).map etomb_Range))]] [] 0 (fun r o => r = bV t3998 ∧ o = []), (!t3998) = false, Enters Try.prog 51, Pv.Fn Try.prog 51 [.ptr 0 0 0] [(0, some (.box 154 (abits_Reader ⟨t3719, t3928.2.1, t3928.2.2⟩)))] 1 (fun r o => r = iV .i64 t4001.1 ∧ o = [(0, some (.box 154 (abits_Reader ⟨t3719, t4001.2.1, t4001.2.2⟩)))])] (by kernel_rfl) ⟨by exact Try.call29, by exact f_pluviallaw14_same.ok (t3216) (t3928.1) t3998 e3999, by exact c4000, by exact Try.call51, by exact f_bits_Reader_End_b86.ok t3719 t3928.2.1 t3928.2.2 t4001 e4002, trivial⟩ ?_
            obtain rfl := Option.some.inj H
            exact Exists.intro _ (And.intro (fun _ _ h => h.conv (inv := []) (vk := []) (e0 := []) (t := ⟨[(1, .im (.row (a1.map (encInt .u8)))), (2, iV .u8 a2), (7, .im (.sc (.func (.func 44) #[] #[]))), (54, bV (t4001.1 != (0 : Int)))], [], 0⟩) (by kernel_rfl)) (And.intro rfl rfl))
        · obtain ⟨x4003, rfl⟩ : ∃ z, z = o4122 := ⟨_, rfl⟩
          rintro e s ⟨rfl, rfl⟩
          refine AWp.cond x4003 rfl (fun c4004 => ?_) (fun c4004 => ?_)
          · replace H := (ifT c4004).symm.trans H
            refine AWp.seq ?_
            refine reg hP hn hm [] [6] [] ⟨[(6, bV false)], [], 0⟩ [] (by kernel_rfl) trivial ?_
            refine AWp.conv (inv := []) (vk := []) (e0 := []) (t := ⟨[(6, bV false)], [], 0⟩) (by kernel_rfl) ?_
            refine AWp.ret ?_
            obtain rfl := Option.some.inj H
            exact Exists.intro _ (And.intro (fun _ _ h => h) (And.intro (.inl rfl) (And.intro rfl (And.intro (by kernel_rfl) (by kernel_rfl)))))
          · replace H := (ifF c4004).symm.trans H
            refine AWp.skip ?_
            refine AWp.seq ?_
            obtain ⟨t4007, e4008, H⟩ := bind_of H
            refine reg hP hn hm [(1, .call [] [(0, 11)] [] [11] 0 (.ptr 0 0 0) [(0, some (.box 154 (abits_Reader ⟨a1, 0, 0⟩)))])] [1, 2, 7, 10] [11] ⟨[(1, .im (.row (a1.map (encInt .u8)))), (2, iV .u8 a2), (7, .im (.sc (.func (.func 44) #[] #[]))), (10, .ptr 11 0 0)], [(11, some (.box 154 (abits_Reader ⟨a1, 0, 0⟩)))], 0⟩ [Enters Try.prog 49, Pv.Fn Try.prog 49 [.im (.row (a1.map (encInt .u8)))] [] 0 (fun r o => r = .ptr 0 0 0 ∧ o = [(0, some (.box 154 (abits_Reader ⟨a1, 0, 0⟩)))])] (by kernel_rfl) ⟨by exact Try.call49, by exact f_bits_Read.ok a1 t4007 e4008, trivial⟩ ?_
            refine AWp.seq ?_
            obtain ⟨t4011, e4012, H⟩ := bind_of H
            refine reg hP hn hm [(3, .call [(11, 0)] [(0, 11), (1, 12)] [] [12] 1 (.agg [.own 1]) [(0, some (.box 154 (abits_Reader ⟨a1, t4011.2.1, t4011.2.2⟩))), (1, some (.row 2 64 (((t4011.1).f0).map etomb_Range)))]), (4, .k 13)] [1, 2, 7, 10, 12] [11, 12, 13] ⟨[(1, .im (.row (a1.map (encInt .u8)))), (2, iV .u8 a2), (7, .im (.sc (.func (.func 44) #[] #[]))), (10, .ptr 11 0 0), (12, .ptr 13 0 0)], [(11, some (.box 154 (abits_Reader ⟨a1, t4011.2.1, t4011.2.2⟩))), (12, some (.row 2 64 (((t4011.1).f0).map etomb_Range))), (13, some (.box 27 [.own 12]))], 0⟩ [Enters Try.prog 50, Pv.Fn Try.prog 50 [.ptr 0 0 0, iV .i64 (IntKind.i64.wrap (a2))] [(0, some (.box 154 (abits_Reader ⟨a1, 0, 0⟩)))] 1 (fun r o => r = .agg [.own 1] ∧ o = [(0, some (.box 154 (abits_Reader ⟨a1, t4011.2.1, t4011.2.2⟩))), (1, some (.row 2 64 (((t4011.1).f0).map etomb_Range)))])] (by kernel_rfl) ⟨by exact Try.call50, by exact f_tomb_Take_b86.ok a1 0 0 (IntKind.i64.wrap (a2)) t4011 e4012, trivial⟩ ?_
            refine AWp.seq ?_
            refine AWp.seq ?_
            obtain ⟨t4015, e4016, H⟩ := bind_of H
            refine reg hP hn hm [(1, .call [(11, 0)] [(0, 11)] [] [] 1 (iV .i64 t4011.2.2) [(0, some (.box 154 (abits_Reader ⟨a1, t4011.2.1, t4011.2.2⟩)))])] [1, 2, 7, 10, 12, 63] [11, 12, 13] ⟨[(1, .im (.row (a1.map (encInt .u8)))), (2, iV .u8 a2), (7, .im (.sc (.func (.func 44) #[] #[]))), (10, .ptr 11 0 0), (12, .ptr 13 0 0), (63, bV (t4011.2.2 != (0 : Int)))], [(11, some (.box 154 (abits_Reader ⟨a1, t4011.2.1, t4011.2.2⟩))), (12, some (.row 2 64 (((t4011.1).f0).map etomb_Range))), (13, some (.box 27 [.own 12]))], 0⟩ [Enters Try.prog 52, Pv.Fn Try.prog 52 [.ptr 0 0 0] [(0, some (.box 154 (abits_Reader ⟨a1, t4011.2.1, t4011.2.2⟩)))] 1 (fun r o => r = iV .i64 t4011.2.2 ∧ o = [(0, some (.box 154 (abits_Reader ⟨a1, t4011.2.1, t4011.2.2⟩)))])] (by kernel_rfl) ⟨by exact Try.call52, by exact f_bits_Reader_Err_b86.ok a1 t4011.2.1 t4011.2.2 t4015 e4016, trivial⟩ ?_
            refine AWp.cond (t4011.2.2 != (0 : Int)) rfl (fun c4017 => ?_) (fun c4017 => ?_)
            · replace H := (ifT c4017).symm.trans H
              refine AWp.seq ?_
              obtain ⟨o4124, e4125, H⟩ := bind_of H
              refine AWp.mono (Q := fun e s => (match (generalizing := false) o4124 with | x4028 => e = .normal ∧ s = ⟨[(6, bV x4028)], [], 0⟩)) (AWp.cv ?_) ?_
              · replace H := e4125; clear e4125
                obtain ⟨t4023, e4024, H⟩ := bind_of H
                rcases Bool.eq_false_or_eq_true t4023 with c4025 | c4025
                · replace H := (ifT c4025).symm.trans H
                  obtain ⟨t4026, e4027, H⟩ := bind_of H
                  refine reg hP hn hm [(0, .call [] [] [] [] 0 (bV t4023) []), (1, .b true), (3, .call [] [] [12] [] 0 (bV (((t4011.1).f0.length : Int) == (0 : Int))) [])] [6] [] ⟨[(6, bV (((t4011.1).f0.length : Int) == (0 : Int)))], [], 0⟩ [Enters Try.prog 13, Pv.Fn Try.prog 13 [] [] 0 (fun r o => r = bV t4023 ∧ o = []), t4023 = true, Enters Try.prog 18, Pv.Fn Try.prog 18 [.agg [.im (.row (((t4011.1).f0).map etomb_Range))]] [] 0 (fun r o => r = bV (((t4011.1).f0.length : Int) == (0 : Int)) ∧ o = [])] (by kernel_rfl) ⟨by exact Try.call13, by exact f_pluviallaw14_awake.ok  t4023 e4024, by exact c4025, by exact Try.call18, by exact f_tomb_Set_Empty.ok (t4011.1) t4026 e4027, trivial⟩ ?_
                  obtain rfl := Option.some.inj H
                  exact Exists.intro _ (And.intro (fun _ _ h => h.conv (inv := []) (vk := []) (e0 := []) (t := ⟨[(6, bV (((t4011.1).f0.length : Int) == (0 : Int)))], [], 0⟩) (by kernel_rfl)) (And.intro rfl rfl))
                · replace H := (ifF c4025).symm.trans H
                  refine reg hP hn hm [(0, .call [] [] [] [] 0 (bV t4023) []), (1, .b false)] [6] [] ⟨[(6, bV false)], [], 0⟩ [Enters Try.prog 13, Pv.Fn Try.prog 13 [] [] 0 (fun r o => r = bV t4023 ∧ o = []), t4023 = false] (by kernel_rfl) ⟨by exact Try.call13, by exact f_pluviallaw14_awake.ok  t4023 e4024, by exact c4025, trivial⟩ ?_
                  obtain rfl := Option.some.inj H
                  exact Exists.intro _ (And.intro (fun _ _ h => h.conv (inv := []) (vk := []) (e0 := []) (t := ⟨[(6, bV false)], [], 0⟩) (by kernel_rfl)) (And.intro rfl rfl))
              · obtain ⟨x4028, rfl⟩ : ∃ z, z = o4124 := ⟨_, rfl⟩
                rintro e s ⟨rfl, rfl⟩
                refine AWp.conv (inv := []) (vk := []) (e0 := []) (t := ⟨[(6, bV x4028)], [], 0⟩) (by kernel_rfl) ?_
                refine AWp.ret ?_
                obtain rfl := Option.some.inj H
                exact Exists.intro _ (And.intro (fun _ _ h => h) (And.intro (.inl rfl) (And.intro rfl (And.intro (by kernel_rfl) (by kernel_rfl)))))
            · replace H := (ifF c4017).symm.trans H
              refine AWp.skip ?_
              refine AWp.seq ?_
              obtain ⟨t4064, e4065, H⟩ := bind_of H
              obtain ⟨t4066, e4067, H⟩ := bind_of H
              refine reg hP hn hm [(2, .call [] [] [12] [] 0 (sV t4064) []), (4, .call [] [] [] [] 0 (sV t4066) [])] [2, 10, 12, 13, 14] [11, 12, 13] ⟨[(2, iV .u8 a2), (10, .ptr 11 0 0), (12, .ptr 13 0 0), (13, sV t4064), (14, sV t4066)], [(11, some (.box 154 (abits_Reader ⟨a1, t4011.2.1, t4011.2.2⟩))), (12, some (.row 2 64 (((t4011.1).f0).map etomb_Range))), (13, some (.box 27 [.own 12]))], 0⟩ [Enters Try.prog 44, Pv.Fn Try.prog 44 [.agg [.im (.row (((t4011.1).f0).map etomb_Range))]] [] 0 (fun r o => r = sV t4064 ∧ o = []), Enters Try.prog 53, Pv.Fn Try.prog 53 [.im (.row (a1.map (encInt .u8)))] [] 0 (fun r o => r = sV t4066 ∧ o = [])] (by kernel_rfl) ⟨by exact Try.call44, by exact f_pluviallaw14_TombLays_1.ok (t4011.1) t4064 e4065, by exact Try.call53, by exact f_pluvialref02_Text.ok a1 t4066 e4067, trivial⟩ ?_
              refine AWp.seq ?_
              refine AWp.conv (inv := [(13, 13), (11, 11)]) (vk := [12]) (e0 := []) (t := ⟨[(2, iV .u8 a2), (10, .ptr 11 0 0), (12, .ptr 13 0 0), (13, sV t4064), (14, sV t4066)], [(11, some (.box 154 (abits_Reader ⟨a1, t4011.2.1, t4011.2.2⟩))), (13, some (.box 27 [.im (.row (((t4011.1).f0).map etomb_Range))]))], 0⟩) (by kernel_rfl) ?_
              obtain ⟨o4126, e4127, H⟩ := bind_of H
              refine AWp.mono (Q := fun e s => (match (generalizing := false) o4126 with | x4119 => e = .normal ∧ s = ⟨[(6, bV x4119)], [], 0⟩)) (AWp.cv ?_) ?_
              · replace H := e4127; clear e4127
                obtain ⟨t4103, e4104, H⟩ := bind_of H
                rcases Bool.eq_false_or_eq_true t4103 with c4105 | c4105
                · replace H := (ifT c4105).symm.trans H
                  obtain ⟨t4106, e4107, H⟩ := bind_of H
                  obtain ⟨t4108, e4109, H⟩ := bind_of H
                  rcases Bool.eq_false_or_eq_true t4108 with c4110 | c4110
                  · replace H := (ifT c4110).symm.trans H
                    obtain ⟨t4111, e4112, H⟩ := bind_of H
                    rcases Bool.eq_false_or_eq_true (decide ((t4111.length : Int) ≤ (IntKind.i64.wrap (a2)))) with c4113 | c4113
                    · replace H := (ifT c4113).symm.trans H
                      rcases Bool.eq_false_or_eq_true (decide ((t4064.size : Int) ≤ (t4066.size : Int))) with c4114 | c4114
                      · replace H := (ifT c4114).symm.trans H
                        obtain ⟨c4115, H⟩ := chk_of H
                        rcases Bool.eq_false_or_eq_true ((t4066.extract (Int.toNat ((0 : Int))) (Int.toNat ((t4064.size : Int)))).toList == t4064.toList) with c4116 | c4116
                        · replace H := (ifT c4116).symm.trans H
                          obtain ⟨t4117, e4118, H⟩ := bind_of H
                          refine reg hP hn hm [(0, .call [] [] [] [] 0 (bV t4103) []), (1, .b true), (3, .call [] [(0, 14)] [] [14] 0 (.own 0) [(0, some (.row 2 64 (t4106.map etomb_Range)))]), (4, .call [] [] [14] [] 0 (bV t4108) []), (6, .b true), (8, .call [] [(0, 15)] [] [15] 0 (.own 0) [(0, some (.row 2 64 (t4111.map etomb_Range)))]), (9, .any (iV .i64 (t4111.length : Int))), (14, .b true), (21, .b true), (29, .b true), (31, .call [(11, 0)] [(0, 11)] [] [] 1 (iV .i64 (IntKind.i64.wrap ((IntKind.i64.wrap ((8 : Int) * (a1.length : Int))) - t4011.2.1))) [(0, some (.box 154 (abits_Reader ⟨a1, t4011.2.1, t4011.2.2⟩)))])] [6] [] ⟨[(6, bV ((IntKind.i64.wrap ((IntKind.i64.wrap ((8 : Int) * (a1.length : Int))) - t4011.2.1)) == (IntKind.i64.wrap ((t4066.size : Int) - (t4064.size : Int)))))], [], 0⟩ [Enters Try.prog 13, Pv.Fn Try.prog 13 [] [] 0 (fun r o => r = bV t4103 ∧ o = []), t4103 = true, Enters Try.prog 31, Pv.Fn Try.prog 31 [.agg [.im (.row (((t4011.1).f0).map etomb_Range))]] [] 0 (fun r o => r = .own 0 ∧ o = [(0, some (.row 2 64 (t4106.map etomb_Range)))]), Enters Try.prog 36, Pv.Fn Try.prog 36 [.im (.row (t4106.map etomb_Range))] [] 0 (fun r o => r = bV t4108 ∧ o = []), t4108 = true, Enters Try.prog 31, Pv.Fn Try.prog 31 [.agg [.im (.row (((t4011.1).f0).map etomb_Range))]] [] 0 (fun r o => r = .own 0 ∧ o = [(0, some (.row 2 64 (t4111.map etomb_Range)))]), ((t4111.map etomb_Range).length : Int) = (t4111.length : Int), (decide ((t4111.length : Int) ≤ (IntKind.i64.wrap (a2)))) = true, (decide ((t4064.size : Int) ≤ (t4066.size : Int))) = true, 0 ≤ (0 : Int), (0 : Int) ≤ (t4064.size : Int), (t4064.size : Int) ≤ (t4066.size : Int), ((t4066.extract (Int.toNat ((0 : Int))) (Int.toNat ((t4064.size : Int)))).toList == t4064.toList) = true, Enters Try.prog 54, Pv.Fn Try.prog 54 [.ptr 0 0 0] [(0, some (.box 154 (abits_Reader ⟨a1, t4011.2.1, t4011.2.2⟩)))] 1 (fun r o => r = iV .i64 (IntKind.i64.wrap ((IntKind.i64.wrap ((8 : Int) * (a1.length : Int))) - t4011.2.1)) ∧ o = [(0, some (.box 154 (abits_Reader ⟨a1, t4011.2.1, t4011.2.2⟩)))])] (by kernel_rfl) ⟨by exact Try.call13, by exact f_pluviallaw14_awake.ok  t4103 e4104, by exact c4105, by exact Try.call31, by exact f_tomb_Set_Ranges.ok (t4011.1) t4106 e4107, by exact Try.call36, by exact f_pluviallaw14_apart.ok t4106 t4108 e4109, by exact c4110, by exact Try.call31, by exact f_tomb_Set_Ranges.ok (t4011.1) t4111 e4112, by rw [len_map], by exact c4113, by exact c4114, by exact c4115.1, by exact c4115.2.1, by exact c4115.2.2, by exact c4116, by exact Try.call54, by exact f_bits_Reader_Left_b86.ok a1 t4011.2.1 t4011.2.2 t4117 e4118, trivial⟩ ?_
                          obtain rfl := Option.some.inj H
                          exact Exists.intro _ (And.intro (fun _ _ h => h.conv (inv := []) (vk := []) (e0 := []) (t := ⟨[(6, bV ((IntKind.i64.wrap ((IntKind.i64.wrap ((8 : Int) * (a1.length : Int))) - t4011.2.1)) == (IntKind.i64.wrap ((t4066.size : Int) - (t4064.size : Int)))))], [], 0⟩) (by kernel_rfl)) (And.intro rfl rfl))
                        · replace H := (ifF c4116).symm.trans H
                          refine reg hP hn hm [(0, .call [] [] [] [] 0 (bV t4103) []), (1, .b true), (3, .call [] [(0, 14)] [] [14] 0 (.own 0) [(0, some (.row 2 64 (t4106.map etomb_Range)))]), (4, .call [] [] [14] [] 0 (bV t4108) []), (6, .b true), (8, .call [] [(0, 15)] [] [15] 0 (.own 0) [(0, some (.row 2 64 (t4111.map etomb_Range)))]), (9, .any (iV .i64 (t4111.length : Int))), (14, .b true), (21, .b true), (29, .b false)] [6] [] ⟨[(6, bV false)], [], 0⟩ [Enters Try.prog 13, Pv.Fn Try.prog 13 [] [] 0 (fun r o => r = bV t4103 ∧ o = []), t4103 = true, Enters Try.prog 31, Pv.Fn Try.prog 31 [.agg [.im (.row (((t4011.1).f0).map etomb_Range))]] [] 0 (fun r o => r = .own 0 ∧ o = [(0, some (.row 2 64 (t4106.map etomb_Range)))]), Enters Try.prog 36, Pv.Fn Try.prog 36 [.im (.row (t4106.map etomb_Range))] [] 0 (fun r o => r = bV t4108 ∧ o = []), t4108 = true, Enters Try.prog 31, Pv.Fn Try.prog 31 [.agg [.im (.row (((t4011.1).f0).map etomb_Range))]] [] 0 (fun r o => r = .own 0 ∧ o = [(0, some (.row 2 64 (t4111.map etomb_Range)))]), ((t4111.map etomb_Range).length : Int) = (t4111.length : Int), (decide ((t4111.length : Int) ≤ (IntKind.i64.wrap (a2)))) = true, (decide ((t4064.size : Int) ≤ (t4066.size : Int))) = true, 0 ≤ (0 : Int), (0 : Int) ≤ (t4064.size : Int), (t4064.size : Int) ≤ (t4066.size : Int), ((t4066.extract (Int.toNat ((0 : Int))) (Int.toNat ((t4064.size : Int)))).toList == t4064.toList) = false] (by kernel_rfl) ⟨by exact Try.call13, by exact f_pluviallaw14_awake.ok  t4103 e4104, by exact c4105, by exact Try.call31, by exact f_tomb_Set_Ranges.ok (t4011.1) t4106 e4107, by exact Try.call36, by exact f_pluviallaw14_apart.ok t4106 t4108 e4109, by exact c4110, by exact Try.call31, by exact f_tomb_Set_Ranges.ok (t4011.1) t4111 e4112, by rw [len_map], by exact c4113, by exact c4114, by exact c4115.1, by exact c4115.2.1, by exact c4115.2.2, by exact c4116, trivial⟩ ?_
                          obtain rfl := Option.some.inj H
                          exact Exists.intro _ (And.intro (fun _ _ h => h.conv (inv := []) (vk := []) (e0 := []) (t := ⟨[(6, bV false)], [], 0⟩) (by kernel_rfl)) (And.intro rfl rfl))
                      · replace H := (ifF c4114).symm.trans H
                        refine reg hP hn hm [(0, .call [] [] [] [] 0 (bV t4103) []), (1, .b true), (3, .call [] [(0, 14)] [] [14] 0 (.own 0) [(0, some (.row 2 64 (t4106.map etomb_Range)))]), (4, .call [] [] [14] [] 0 (bV t4108) []), (6, .b true), (8, .call [] [(0, 15)] [] [15] 0 (.own 0) [(0, some (.row 2 64 (t4111.map etomb_Range)))]), (9, .any (iV .i64 (t4111.length : Int))), (14, .b true), (21, .b false)] [6] [] ⟨[(6, bV false)], [], 0⟩ [Enters Try.prog 13, Pv.Fn Try.prog 13 [] [] 0 (fun r o => r = bV t4103 ∧ o = []), t4103 = true, Enters Try.prog 31, Pv.Fn Try.prog 31 [.agg [.im (.row (((t4011.1).f0).map etomb_Range))]] [] 0 (fun r o => r = .own 0 ∧ o = [(0, some (.row 2 64 (t4106.map etomb_Range)))]), Enters Try.prog 36, Pv.Fn Try.prog 36 [.im (.row (t4106.map etomb_Range))] [] 0 (fun r o => r = bV t4108 ∧ o = []), t4108 = true, Enters Try.prog 31, Pv.Fn Try.prog 31 [.agg [.im (.row (((t4011.1).f0).map etomb_Range))]] [] 0 (fun r o => r = .own 0 ∧ o = [(0, some (.row 2 64 (t4111.map etomb_Range)))]), ((t4111.map etomb_Range).length : Int) = (t4111.length : Int), (decide ((t4111.length : Int) ≤ (IntKind.i64.wrap (a2)))) = true, (decide ((t4064.size : Int) ≤ (t4066.size : Int))) = false] (by kernel_rfl) ⟨by exact Try.call13, by exact f_pluviallaw14_awake.ok  t4103 e4104, by exact c4105, by exact Try.call31, by exact f_tomb_Set_Ranges.ok (t4011.1) t4106 e4107, by exact Try.call36, by exact f_pluviallaw14_apart.ok t4106 t4108 e4109, by exact c4110, by exact Try.call31, by exact f_tomb_Set_Ranges.ok (t4011.1) t4111 e4112, by rw [len_map], by exact c4113, by exact c4114, trivial⟩ ?_
                        obtain rfl := Option.some.inj H
                        exact Exists.intro _ (And.intro (fun _ _ h => h.conv (inv := []) (vk := []) (e0 := []) (t := ⟨[(6, bV false)], [], 0⟩) (by kernel_rfl)) (And.intro rfl rfl))
                    · replace H := (ifF c4113).symm.trans H
                      refine reg hP hn hm [(0, .call [] [] [] [] 0 (bV t4103) []), (1, .b true), (3, .call [] [(0, 14)] [] [14] 0 (.own 0) [(0, some (.row 2 64 (t4106.map etomb_Range)))]), (4, .call [] [] [14] [] 0 (bV t4108) []), (6, .b true), (8, .call [] [(0, 15)] [] [15] 0 (.own 0) [(0, some (.row 2 64 (t4111.map etomb_Range)))]), (9, .any (iV .i64 (t4111.length : Int))), (14, .b false)] [6] [] ⟨[(6, bV false)], [], 0⟩ [Enters Try.prog 13, Pv.Fn Try.prog 13 [] [] 0 (fun r o => r = bV t4103 ∧ o = []), t4103 = true, Enters Try.prog 31, Pv.Fn Try.prog 31 [.agg [.im (.row (((t4011.1).f0).map etomb_Range))]] [] 0 (fun r o => r = .own 0 ∧ o = [(0, some (.row 2 64 (t4106.map etomb_Range)))]), Enters Try.prog 36, Pv.Fn Try.prog 36 [.im (.row (t4106.map etomb_Range))] [] 0 (fun r o => r = bV t4108 ∧ o = []), t4108 = true, Enters Try.prog 31, Pv.Fn Try.prog 31 [.agg [.im (.row (((t4011.1).f0).map etomb_Range))]] [] 0 (fun r o => r = .own 0 ∧ o = [(0, some (.row 2 64 (t4111.map etomb_Range)))]), ((t4111.map etomb_Range).length : Int) = (t4111.length : Int), (decide ((t4111.length : Int) ≤ (IntKind.i64.wrap (a2)))) = false] (by kernel_rfl) ⟨by exact Try.call13, by exact f_pluviallaw14_awake.ok  t4103 e4104, by exact c4105, by exact Try.call31, by exact f_tomb_Set_Ranges.ok (t4011.1) t4106 e4107, by exact Try.call36, by exact f_pluviallaw14_apart.ok t4106 t4108 e4109, by exact c4110, by exact Try.call31, by exact f_tomb_Set_Ranges.ok (t4011.1) t4111 e4112, by rw [len_map], by exact c4113, trivial⟩ ?_
                      obtain rfl := Option.some.inj H
                      exact Exists.intro _ (And.intro (fun _ _ h => h.conv (inv := []) (vk := []) (e0 := []) (t := ⟨[(6, bV false)], [], 0⟩) (by kernel_rfl)) (And.intro rfl rfl))
                  · replace H := (ifF c4110).symm.trans H
                    refine reg hP hn hm [(0, .call [] [] [] [] 0 (bV t4103) []), (1, .b true), (3, .call [] [(0, 14)] [] [14] 0 (.own 0) [(0, some (.row 2 64 (t4106.map etomb_Range)))]), (4, .call [] [] [14] [] 0 (bV t4108) []), (6, .b false)] [6] [] ⟨[(6, bV false)], [], 0⟩ [Enters Try.prog 13, Pv.Fn Try.prog 13 [] [] 0 (fun r o => r = bV t4103 ∧ o = []), t4103 = true, Enters Try.prog 31, Pv.Fn Try.prog 31 [.agg [.im (.row (((t4011.1).f0).map etomb_Range))]] [] 0 (fun r o => r = .own 0 ∧ o = [(0, some (.row 2 64 (t4106.map etomb_Range)))]), Enters Try.prog 36, Pv.Fn Try.prog 36 [.im (.row (t4106.map etomb_Range))] [] 0 (fun r o => r = bV t4108 ∧ o = []), t4108 = false] (by kernel_rfl) ⟨by exact Try.call13, by exact f_pluviallaw14_awake.ok  t4103 e4104, by exact c4105, by exact Try.call31, by exact f_tomb_Set_Ranges.ok (t4011.1) t4106 e4107, by exact Try.call36, by exact f_pluviallaw14_apart.ok t4106 t4108 e4109, by exact c4110, trivial⟩ ?_
                    obtain rfl := Option.some.inj H
                    exact Exists.intro _ (And.intro (fun _ _ h => h.conv (inv := []) (vk := []) (e0 := []) (t := ⟨[(6, bV false)], [], 0⟩) (by kernel_rfl)) (And.intro rfl rfl))
                · replace H := (ifF c4105).symm.trans H
                  refine reg hP hn hm [(0, .call [] [] [] [] 0 (bV t4103) []), (1, .b false)] [6] [] ⟨[(6, bV false)], [], 0⟩ [Enters Try.prog 13, Pv.Fn Try.prog 13 [] [] 0 (fun r o => r = bV t4103 ∧ o = []), t4103 = false] (by kernel_rfl) ⟨by exact Try.call13, by exact f_pluviallaw14_awake.ok  t4103 e4104, by exact c4105, trivial⟩ ?_
                  obtain rfl := Option.some.inj H
                  exact Exists.intro _ (And.intro (fun _ _ h => h.conv (inv := []) (vk := []) (e0 := []) (t := ⟨[(6, bV false)], [], 0⟩) (by kernel_rfl)) (And.intro rfl rfl))
              · obtain ⟨x4119, rfl⟩ : ∃ z, z = o4126 := ⟨_, rfl⟩
                rintro e s ⟨rfl, rfl⟩
                refine AWp.conv (inv := []) (vk := []) (e0 := []) (t := ⟨[(6, bV x4119)], [], 0⟩) (by kernel_rfl) ?_
                refine AWp.ret ?_
                obtain rfl := Option.some.inj H
                exact Exists.intro _ (And.intro (fun _ _ h => h) (And.intro (.inl rfl) (And.intro rfl (And.intro (by kernel_rfl) (by kernel_rfl)))))
end Go.Proofs.Yteogljahemehkaa.PvGC1
