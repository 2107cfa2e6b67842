import Derived.Test.YtjfhobijgkccdaaProg
import Derived.Test.YtjfhobijgkccdaaPxLabelKeys06
set_option linter.unusedVariables false
set_option linter.unnecessarySimpa false
set_option linter.unusedSimpArgs false
set_option maxRecDepth 10000
namespace Go.Proofs.Ytjfhobijgkccdaa.PvGA1
open Go Go.Pv
def f_label_Make_2.f (a0 : TLabel) (a1 : TLabel) : Option (Int) := (f_cmp_Compare_string.f a0.f0 a1.f0) >>= fun t755 => some t755
theorem f_label_Make_2.ok (a0 : TLabel) (a1 : TLabel) (r : Int) (H : f_label_Make_2.f a0 a1 = some r) : Pv.Fn Try.prog 73 [.agg (aLabel a0), .agg (aLabel a1)] [] 0 (fun x o => x = iV .i64 r ∧ o = []) := by
  unfold f_label_Make_2.f at H
  refine Fn.bodyK [] Try.func73 rfl rfl (fun Γ hP hn => ?_)
  have hm : Try.prog.follows .mixedOrders = true := by kernel_rfl
  replace hn : Γ.n = 10 := hn
  refine AWp.seq ?_
  refine reg hP hn hm [(0, .k 0), (1, .k 1)] [2, 3] [0, 1] ⟨[(2, .ptr 0 0 0), (3, .ptr 1 0 0)], [(0, some (.box 67 (aLabel a0))), (1, some (.box 67 (aLabel a1)))], 0⟩ [] (by kernel_rfl) trivial ?_
  refine AWp.seq ?_
  obtain ⟨t755, e756, H⟩ := bind_of H
  refine reg hP hn hm [(4, .call [] [] [] [] 0 (iV .i64 t755) [])] [4] [] ⟨[(4, iV .i64 t755)], [], 0⟩ [Enters Try.prog 68, Pv.Fn Try.prog 68 [sV a0.f0, sV a1.f0] [] 0 (fun r o => r = iV .i64 t755 ∧ o = [])] (by kernel_rfl) ⟨by exact Try.call68, by exact f_cmp_Compare_string.ok a0.f0 a1.f0 t755 e756, trivial⟩ ?_
  refine AWp.conv (inv := []) (vk := []) (e0 := []) (t := ⟨[(4, iV .i64 t755)], [], 0⟩) (by kernel_rfl) ?_
  refine AWp.ret ?_
  obtain rfl := Option.some.inj H
  exact Exists.intro _ (And.intro (fun _ _ h => h) (And.intro (.inl rfl) (And.intro rfl (And.intro (by kernel_rfl) (by kernel_rfl)))))
def f_slices_insertionSortCmpFunc_api_Label_label_Make_2.l1 (a1 : Int) (a2 : Int) (x830 : Int) (x870 : List TLabel) (x871 : Int) : Option (List TLabel) := ((if (decide (x871 > a1)) = true then ((at? x870 x871) >>= fun b882 => (at? x870 (IntKind.i64.wrap (x871 - (1 : Int)))) >>= fun b885 => (f_label_Make_2.f b882 b885) >>= fun t888 => some (decide (t888 < (0 : Int)))) else (some false)) : Option (Bool)) >>= fun x890 => if x890 = true then ((at? x870 (IntKind.i64.wrap (x871 - (1 : Int)))) >>= fun b901 => (at? x870 x871) >>= fun b904 => (at? (x870.set (Int.toNat (x871)) b901) (IntKind.i64.wrap (x871 - (1 : Int)))) >>= fun b907 => f_slices_insertionSortCmpFunc_api_Label_label_Make_2.l1 a1 a2 x830 ((x870.set (Int.toNat (x871)) b901).set (Int.toNat (IntKind.i64.wrap (x871 - (1 : Int)))) b904) (IntKind.i64.wrap (x871 - (1 : Int)))) else (some x870)
partial_fixpoint
def f_slices_insertionSortCmpFunc_api_Label_label_Make_2.l0 (a1 : Int) (a2 : Int) (x829 : List TLabel) (x830 : Int) : Option (List TLabel) := if (decide (x830 < a2)) = true then ((f_slices_insertionSortCmpFunc_api_Label_label_Make_2.l1 a1 a2 x830 x829 x830) >>= fun x910 => f_slices_insertionSortCmpFunc_api_Label_label_Make_2.l0 a1 a2 x910 (IntKind.i64.wrap (x830 + (1 : Int)))) else (some x829)
partial_fixpoint
def f_slices_insertionSortCmpFunc_api_Label_label_Make_2.f (a0 : List TLabel) (a1 : Int) (a2 : Int) : Option (List TLabel) := (f_slices_insertionSortCmpFunc_api_Label_label_Make_2.l0 a1 a2 a0 (IntKind.i64.wrap (a1 + (1 : Int)))) >>= fun x911 => some x911
theorem f_slices_insertionSortCmpFunc_api_Label_label_Make_2.ok (a0 : List TLabel) (a1 : Int) (a2 : Int) (r : List TLabel) (H : f_slices_insertionSortCmpFunc_api_Label_label_Make_2.f a0 a1 a2 = some r) : Pv.Fn Try.prog 100 [.own 0, iV .i64 a1, iV .i64 a2, .im (.sc (.func (.func 73) #[] #[]))] [(0, some (.row 2 67 (a0.map eLabel)))] 1 (fun x o => x = .tup [] ∧ o = [(0, some (.row 2 67 (r.map eLabel)))]) := by
  unfold f_slices_insertionSortCmpFunc_api_Label_label_Make_2.f at H
  refine Fn.bodyK [0] Try.func100 rfl rfl (fun Γ hP hn => ?_)
  have hm : Try.prog.follows .mixedOrders = true := by kernel_rfl
  replace hn : Γ.n = 53 := hn
  refine AWp.seq ?_
  refine reg hP hn hm [] [0, 1, 2, 3, 8] [0] ⟨[(0, .own 0), (1, iV .i64 a1), (2, iV .i64 a2), (3, .im (.sc (.func (.func 73) #[] #[]))), (8, iV .i64 (IntKind.i64.wrap (a1 + (1 : Int))))], [(0, some (.row 2 67 (a0.map eLabel)))], 1⟩ [] (by kernel_rfl) trivial ?_
  refine AWp.block ?_
  obtain ⟨o912, e913, H⟩ := bind_of H
  refine AWp.loop (LWp.conv (inv := [(0, 0)]) (vk := []) (e0 := []) (t := ⟨[(0, .own 0), (1, iV .i64 a1), (2, iV .i64 a2), (3, .im (.sc (.func (.func 73) #[] #[]))), (8, iV .i64 (IntKind.i64.wrap (a1 + (1 : Int))))], [(0, some (.row 2 67 (a0.map eLabel)))], 1⟩) (by kernel_rfl) ?_)
  refine LWp.mono (Q := fun e s => (match (generalizing := false) o912 with | x911 => e = .exit 0 ∧ s = ⟨[], [(0, some (.row 2 67 (x911.map eLabel)))], 1⟩)) (LWp.cv (withBody (fun body hbody => ?_))) ?_
  · refine f_slices_insertionSortCmpFunc_api_Label_label_Make_2.l0.partial_correctness a1 a2 (motive := fun x829 x830 o912 => LWp Γ body (fun e s => ∃ t, Cv Γ s t ∧ (match (generalizing := false) o912 with | x911 => e = .exit 0 ∧ t = ⟨[], [(0, some (.row 2 67 (x911.map eLabel)))], 1⟩)) ⟨[(0, .own 0), (1, iV .i64 a1), (2, iV .i64 a2), (3, .im (.sc (.func (.func 73) #[] #[]))), (8, iV .i64 x830)], [(0, some (.row 2 67 (x829.map eLabel)))], 1⟩) ?_ _ _ _ e913
    clear H e913 o912; intro self ih x829 x830 o912 H
    subst hbody
    refine LWp.round ?_
    refine AWp.seq ?_
    refine AWp.seq ?_
    refine reg hP hn hm [] [0, 1, 2, 3, 8, 14] [0] ⟨[(0, .own 0), (1, iV .i64 a1), (2, iV .i64 a2), (3, .im (.sc (.func (.func 73) #[] #[]))), (8, iV .i64 x830), (14, bV (decide (x830 < a2)))], [(0, some (.row 2 67 (x829.map eLabel)))], 1⟩ [] (by kernel_rfl) trivial ?_
    refine AWp.cond (decide (x830 < a2)) rfl (fun c831 => ?_) (fun c831 => ?_)
    · replace H := (ifT c831).symm.trans H
      refine AWp.skip ?_
      refine AWp.seq ?_
      refine AWp.block ?_
      refine AWp.seq ?_
      refine reg hP hn hm [] [0, 1, 2, 3, 8, 9] [0] ⟨[(0, .own 0), (1, iV .i64 a1), (2, iV .i64 a2), (3, .im (.sc (.func (.func 73) #[] #[]))), (8, iV .i64 x830), (9, iV .i64 x830)], [(0, some (.row 2 67 (x829.map eLabel)))], 1⟩ [] (by kernel_rfl) trivial ?_
      refine AWp.block ?_
      obtain ⟨o914, e915, H⟩ := bind_of H
      refine AWp.loop (LWp.conv (inv := [(0, 0)]) (vk := []) (e0 := []) (t := ⟨[(0, .own 0), (1, iV .i64 a1), (2, iV .i64 a2), (3, .im (.sc (.func (.func 73) #[] #[]))), (8, iV .i64 x830), (9, iV .i64 x830)], [(0, some (.row 2 67 (x829.map eLabel)))], 1⟩) (by kernel_rfl) ?_)
      refine LWp.mono (Q := fun e s => (match (generalizing := false) o914 with | x910 => e = .exit 2 ∧ s = ⟨[(0, .own 0), (1, iV .i64 a1), (2, iV .i64 a2), (3, .im (.sc (.func (.func 73) #[] #[]))), (8, iV .i64 x830)], [(0, some (.row 2 67 (x910.map eLabel)))], 1⟩)) (LWp.cv (withBody (fun body hbody => ?_))) ?_
      · refine f_slices_insertionSortCmpFunc_api_Label_label_Make_2.l1.partial_correctness a1 a2 x830 (motive := fun x870 x871 o914 => LWp Γ body (fun e s => ∃ t, Cv Γ s t ∧ (match (generalizing := false) o914 with | x910 => e = .exit 2 ∧ t = ⟨[(0, .own 0), (1, iV .i64 a1), (2, iV .i64 a2), (3, .im (.sc (.func (.func 73) #[] #[]))), (8, iV .i64 x830)], [(0, some (.row 2 67 (x910.map eLabel)))], 1⟩)) ⟨[(0, .own 0), (1, iV .i64 a1), (2, iV .i64 a2), (3, .im (.sc (.func (.func 73) #[] #[]))), (8, iV .i64 x830), (9, iV .i64 x871)], [(0, some (.row 2 67 (x870.map eLabel)))], 1⟩) ?_ _ _ _ e915
        clear H e915 o914; intro self ih x870 x871 o914 H
        subst hbody
        refine LWp.round ?_
        refine AWp.seq ?_
        refine AWp.seq ?_
        obtain ⟨o916, e917, H⟩ := bind_of H
        refine AWp.mono (Q := fun e s => (match (generalizing := false) o916 with | x890 => e = .normal ∧ s = ⟨[(0, .own 0), (1, iV .i64 a1), (2, iV .i64 a2), (3, .im (.sc (.func (.func 73) #[] #[]))), (8, iV .i64 x830), (9, iV .i64 x871), (34, bV x890)], [(0, some (.row 2 67 (x870.map eLabel)))], 1⟩)) (AWp.cv ?_) ?_
        · replace H := e917; clear e917
          rcases Bool.eq_false_or_eq_true (decide (x871 > a1)) with c881 | c881
          · replace H := (ifT c881).symm.trans H
            obtain ⟨b882, p883, q884, H⟩ := at_of H
            obtain ⟨b885, p886, q887, H⟩ := at_of H
            obtain ⟨t888, e889, H⟩ := bind_of H
            refine reg hP hn hm [(3, .b true), (8, .c (eLabel b882)), (13, .c (eLabel b885)), (14, .call [] [] [] [] 0 (iV .i64 t888) [])] [0, 1, 2, 3, 8, 9, 22, 23, 24, 25, 26, 27, 28, 29, 30, 31, 32, 33, 34] [0] ⟨[(0, .own 0), (1, iV .i64 a1), (2, iV .i64 a2), (3, .im (.sc (.func (.func 73) #[] #[]))), (8, iV .i64 x830), (9, iV .i64 x871), (22, .im (.sc (.func (.func 73) #[] #[]))), (23, .own 0), (24, iV .i64 x871), (25, .ptr 0 (Int.toNat (x871)) 0), (26, .agg (aLabel b882)), (27, .own 0), (28, iV .i64 x871), (29, iV .i64 (IntKind.i64.wrap (x871 - (1 : Int)))), (30, .ptr 0 (Int.toNat (IntKind.i64.wrap (x871 - (1 : Int)))) 0), (31, .agg (aLabel b885)), (32, iV .i64 t888), (33, bV (decide (t888 < (0 : Int)))), (34, bV (decide (t888 < (0 : Int))))], [(0, some (.row 2 67 (x870.map eLabel)))], 1⟩ [(decide (x871 > a1)) = true, 0 ≤ x871, x871 < (((x870.map eLabel).length : Nat) : Int), (x870.map eLabel)[(Int.toNat (x871))]? = some (eLabel b882), 0 ≤ (IntKind.i64.wrap (x871 - (1 : Int))), IntKind.i64.wrap (x871 - (1 : Int)) < (((x870.map eLabel).length : Nat) : Int), (x870.map eLabel)[(Int.toNat (IntKind.i64.wrap (x871 - (1 : Int))))]? = some (eLabel b885), Enters Try.prog 73, Pv.Fn Try.prog 73 [.agg (aLabel b882), .agg (aLabel b885)] [] 0 (fun r o => r = iV .i64 t888 ∧ o = [])] (by kernel_rfl) ⟨by exact c881, by exact p883, by exact el_lt eLabel p883 q884, by exact el_map eLabel q884, by exact p886, by exact el_lt eLabel p886 q887, by exact el_map eLabel q887, by exact Try.call73, by exact f_label_Make_2.ok b882 b885 t888 e889, trivial⟩ ?_
            obtain rfl := Option.some.inj H
            exact Exists.intro _ (And.intro (fun _ _ h => h.conv (inv := [(0, 0)]) (vk := []) (e0 := []) (t := ⟨[(0, .own 0), (1, iV .i64 a1), (2, iV .i64 a2), (3, .im (.sc (.func (.func 73) #[] #[]))), (8, iV .i64 x830), (9, iV .i64 x871), (34, bV (decide (t888 < (0 : Int))))], [(0, some (.row 2 67 (x870.map eLabel)))], 1⟩) (by kernel_rfl)) (And.intro rfl rfl))
          · replace H := (ifF c881).symm.trans H
            refine reg hP hn hm [(3, .b false)] [0, 1, 2, 3, 8, 9, 34] [0] ⟨[(0, .own 0), (1, iV .i64 a1), (2, iV .i64 a2), (3, .im (.sc (.func (.func 73) #[] #[]))), (8, iV .i64 x830), (9, iV .i64 x871), (34, bV false)], [(0, some (.row 2 67 (x870.map eLabel)))], 1⟩ [(decide (x871 > a1)) = false] (by kernel_rfl) ⟨by exact c881, trivial⟩ ?_
            obtain rfl := Option.some.inj H
            exact Exists.intro _ (And.intro (fun _ _ h => h.conv (inv := [(0, 0)]) (vk := []) (e0 := []) (t := ⟨[(0, .own 0), (1, iV .i64 a1), (2, iV .i64 a2), (3, .im (.sc (.func (.func 73) #[] #[]))), (8, iV .i64 x830), (9, iV .i64 x871), (34, bV false)], [(0, some (.row 2 67 (x870.map eLabel)))], 1⟩) (by kernel_rfl)) (And.intro rfl rfl))
        · obtain ⟨x890, rfl⟩ : ∃ z, z = o916 := ⟨_, rfl⟩
          rintro e s ⟨rfl, rfl⟩
          refine AWp.cond x890 rfl (fun c891 => ?_) (fun c891 => ?_)
          · replace H := (ifT c891).symm.trans H
            refine AWp.skip ?_
            refine AWp.seq ?_
            refine AWp.block ?_
            obtain ⟨b901, p902, q903, H⟩ := at_of H
            obtain ⟨b904, p905, q906, H⟩ := at_of H
            obtain ⟨b907, p908, q909, H⟩ := at_of H
            refine reg hP hn hm [(9, .c (eLabel b901)), (13, .c (eLabel b904)), (15, .put (eLabel b904) ((x870.set (Int.toNat (x871)) b901).map eLabel)), (17, .put (eLabel b907) (((x870.set (Int.toNat (x871)) b901).set (Int.toNat (IntKind.i64.wrap (x871 - (1 : Int)))) b904).map eLabel))] [0, 1, 2, 3, 8, 9] [0] ⟨[(0, .own 0), (1, iV .i64 a1), (2, iV .i64 a2), (3, .im (.sc (.func (.func 73) #[] #[]))), (8, iV .i64 x830), (9, iV .i64 x871)], [(0, some (.row 2 67 (((x870.set (Int.toNat (x871)) b901).set (Int.toNat (IntKind.i64.wrap (x871 - (1 : Int)))) b904).map eLabel)))], 1⟩ [0 ≤ (IntKind.i64.wrap (x871 - (1 : Int))), IntKind.i64.wrap (x871 - (1 : Int)) < (((x870.map eLabel).length : Nat) : Int), (x870.map eLabel)[(Int.toNat (IntKind.i64.wrap (x871 - (1 : Int))))]? = some (eLabel b901), 0 ≤ x871, x871 < (((x870.map eLabel).length : Nat) : Int), (x870.map eLabel)[(Int.toNat (x871))]? = some (eLabel b904), 0 ≤ x871, x871 < (((x870.map eLabel).length : Nat) : Int), (x870.map eLabel)[(Int.toNat (x871))]? = some (eLabel b904), (x870.set (Int.toNat (x871)) b901).map eLabel = (x870.map eLabel).set (Int.toNat (x871)) (splice (eLabel b904) 0 [sI b901.f0, sI b901.f1]), 0 ≤ (IntKind.i64.wrap (x871 - (1 : Int))), IntKind.i64.wrap (x871 - (1 : Int)) < ((((x870.set (Int.toNat (x871)) b901).map eLabel).length : Nat) : Int), ((x870.set (Int.toNat (x871)) b901).map eLabel)[(Int.toNat (IntKind.i64.wrap (x871 - (1 : Int))))]? = some (eLabel b907), ((x870.set (Int.toNat (x871)) b901).set (Int.toNat (IntKind.i64.wrap (x871 - (1 : Int)))) b904).map eLabel = ((x870.set (Int.toNat (x871)) b901).map eLabel).set (Int.toNat (IntKind.i64.wrap (x871 - (1 : Int)))) (splice (eLabel b907) 0 [sI b904.f0, sI b904.f1])] (by kernel_rfl) ⟨by exact p902, by exact el_lt eLabel p902 q903, by exact el_map eLabel q903, by exact p905, by exact el_lt eLabel p905 q906, by exact el_map eLabel q906, by exact p905, by exact el_lt eLabel p905 q906, by exact el_map eLabel q906, by exact set1 _ _ _ _, by exact p908, by exact el_lt eLabel p908 q909, by exact el_map eLabel q909, by exact set1 _ _ _ _, trivial⟩ ?_
            refine reg hP hn hm [] [0, 1, 2, 3, 8, 9] [0] ⟨[(0, .own 0), (1, iV .i64 a1), (2, iV .i64 a2), (3, .im (.sc (.func (.func 73) #[] #[]))), (8, iV .i64 x830), (9, iV .i64 (IntKind.i64.wrap (x871 - (1 : Int))))], [(0, some (.row 2 67 (((x870.set (Int.toNat (x871)) b901).set (Int.toNat (IntKind.i64.wrap (x871 - (1 : Int)))) b904).map eLabel)))], 1⟩ [] (by kernel_rfl) trivial ?_
            exact LWp.conv (inv := [(0, 0)]) (vk := []) (e0 := []) (t := ⟨[(0, .own 0), (1, iV .i64 a1), (2, iV .i64 a2), (3, .im (.sc (.func (.func 73) #[] #[]))), (8, iV .i64 x830), (9, iV .i64 (IntKind.i64.wrap (x871 - (1 : Int))))], [(0, some (.row 2 67 (((x870.set (Int.toNat (x871)) b901).set (Int.toNat (IntKind.i64.wrap (x871 - (1 : Int)))) b904).map eLabel)))], 1⟩) (by kernel_rfl) (ih _ _ _ H)
          · replace H := (ifF c891).symm.trans H
            refine AWp.exit ?_
            obtain rfl := Option.some.inj H
            exact Exists.intro _ (And.intro (fun _ _ h => h.conv (inv := [(0, 0)]) (vk := []) (e0 := []) (t := ⟨[(0, .own 0), (1, iV .i64 a1), (2, iV .i64 a2), (3, .im (.sc (.func (.func 73) #[] #[]))), (8, iV .i64 x830)], [(0, some (.row 2 67 (x870.map eLabel)))], 1⟩) (by kernel_rfl)) (And.intro rfl rfl))
      · obtain ⟨x910, rfl⟩ : ∃ z, z = o914 := ⟨_, rfl⟩
        rintro e s ⟨rfl, rfl⟩
        refine reg hP hn hm [] [0, 1, 2, 3, 8] [0] ⟨[(0, .own 0), (1, iV .i64 a1), (2, iV .i64 a2), (3, .im (.sc (.func (.func 73) #[] #[]))), (8, iV .i64 (IntKind.i64.wrap (x830 + (1 : Int))))], [(0, some (.row 2 67 (x910.map eLabel)))], 1⟩ [] (by kernel_rfl) trivial ?_
        exact LWp.conv (inv := [(0, 0)]) (vk := []) (e0 := []) (t := ⟨[(0, .own 0), (1, iV .i64 a1), (2, iV .i64 a2), (3, .im (.sc (.func (.func 73) #[] #[]))), (8, iV .i64 (IntKind.i64.wrap (x830 + (1 : Int))))], [(0, some (.row 2 67 (x910.map eLabel)))], 1⟩) (by kernel_rfl) (ih _ _ _ H)
    · replace H := (ifF c831).symm.trans H
      refine AWp.exit ?_
      obtain rfl := Option.some.inj H
      exact Exists.intro _ (And.intro (fun _ _ h => h.conv (inv := [(0, 0)]) (vk := []) (e0 := []) (t := ⟨[], [(0, some (.row 2 67 (x829.map eLabel)))], 1⟩) (by kernel_rfl)) (And.intro rfl rfl))
  · obtain ⟨x911, rfl⟩ : ∃ z, z = o912 := ⟨_, rfl⟩
    rintro e s ⟨rfl, rfl⟩
    obtain rfl := Option.some.inj H
    exact Exists.intro ⟨[], [(0, some (.row 2 67 (x911.map eLabel)))], 1⟩ (And.intro (fun _ _ h => h.conv (inv := [(0, 0)]) (vk := []) (e0 := []) (t := ⟨[], [(0, some (.row 2 67 (x911.map eLabel)))], 1⟩) (by kernel_rfl)) (And.intro (.inr rfl) (And.intro rfl (And.intro (by kernel_rfl) (by kernel_rfl)))))
def f_slices_swapRangeCmpFunc_api_Label_label_Make_2.l0 (a1 : Int) (a2 : Int) (a3 : Int) (x1179 : List TLabel) (x1180 : Int) : Option (List TLabel) := if (decide (x1180 < a3)) = true then ((at? x1179 (IntKind.i64.wrap (a2 + x1180))) >>= fun b1191 => (at? x1179 (IntKind.i64.wrap (a1 + x1180))) >>= fun b1194 => (at? (x1179.set (Int.toNat (IntKind.i64.wrap (a1 + x1180))) b1191) (IntKind.i64.wrap (a2 + x1180))) >>= fun b1197 => f_slices_swapRangeCmpFunc_api_Label_label_Make_2.l0 a1 a2 a3 ((x1179.set (Int.toNat (IntKind.i64.wrap (a1 + x1180))) b1191).set (Int.toNat (IntKind.i64.wrap (a2 + x1180))) b1194) (IntKind.i64.wrap (x1180 + (1 : Int)))) else (some x1179)
partial_fixpoint
def f_slices_swapRangeCmpFunc_api_Label_label_Make_2.f (a0 : List TLabel) (a1 : Int) (a2 : Int) (a3 : Int) : Option (List TLabel) := (f_slices_swapRangeCmpFunc_api_Label_label_Make_2.l0 a1 a2 a3 a0 0) >>= fun x1200 => some x1200
theorem f_slices_swapRangeCmpFunc_api_Label_label_Make_2.ok (a0 : List TLabel) (a1 : Int) (a2 : Int) (a3 : Int) (r : List TLabel) (H : f_slices_swapRangeCmpFunc_api_Label_label_Make_2.f a0 a1 a2 a3 = some r) : Pv.Fn Try.prog 114 [.own 0, iV .i64 a1, iV .i64 a2, iV .i64 a3, .im (.sc (.func (.func 73) #[] #[]))] [(0, some (.row 2 67 (a0.map eLabel)))] 1 (fun x o => x = .tup [] ∧ o = [(0, some (.row 2 67 (r.map eLabel)))]) := by
  unfold f_slices_swapRangeCmpFunc_api_Label_label_Make_2.f at H
  refine Fn.bodyK [0] Try.func114 rfl rfl (fun Γ hP hn => ?_)
  have hm : Try.prog.follows .mixedOrders = true := by kernel_rfl
  replace hn : Γ.n = 38 := hn
  refine AWp.seq ?_
  refine reg hP hn hm [] [0, 1, 2, 3, 10] [0] ⟨[(0, .own 0), (1, iV .i64 a1), (2, iV .i64 a2), (3, iV .i64 a3), (10, iV .i64 0)], [(0, some (.row 2 67 (a0.map eLabel)))], 1⟩ [] (by kernel_rfl) trivial ?_
  refine AWp.block ?_
  obtain ⟨o1201, e1202, H⟩ := bind_of H
  refine AWp.loop (LWp.conv (inv := [(0, 0)]) (vk := []) (e0 := []) (t := ⟨[(0, .own 0), (1, iV .i64 a1), (2, iV .i64 a2), (3, iV .i64 a3), (10, iV .i64 0)], [(0, some (.row 2 67 (a0.map eLabel)))], 1⟩) (by kernel_rfl) ?_)
  refine LWp.mono (Q := fun e s => (match (generalizing := false) o1201 with | x1200 => e = .exit 0 ∧ s = ⟨[], [(0, some (.row 2 67 (x1200.map eLabel)))], 1⟩)) (LWp.cv (withBody (fun body hbody => ?_))) ?_
  · refine f_slices_swapRangeCmpFunc_api_Label_label_Make_2.l0.partial_correctness a1 a2 a3 (motive := fun x1179 x1180 o1201 => LWp Γ body (fun e s => ∃ t, Cv Γ s t ∧ (match (generalizing := false) o1201 with | x1200 => e = .exit 0 ∧ t = ⟨[], [(0, some (.row 2 67 (x1200.map eLabel)))], 1⟩)) ⟨[(0, .own 0), (1, iV .i64 a1), (2, iV .i64 a2), (3, iV .i64 a3), (10, iV .i64 x1180)], [(0, some (.row 2 67 (x1179.map eLabel)))], 1⟩) ?_ _ _ _ e1202
    clear H e1202 o1201; intro self ih x1179 x1180 o1201 H
    subst hbody
    refine LWp.round ?_
    refine AWp.seq ?_
    refine AWp.seq ?_
    refine reg hP hn hm [] [0, 1, 2, 3, 10, 13] [0] ⟨[(0, .own 0), (1, iV .i64 a1), (2, iV .i64 a2), (3, iV .i64 a3), (10, iV .i64 x1180), (13, bV (decide (x1180 < a3)))], [(0, some (.row 2 67 (x1179.map eLabel)))], 1⟩ [] (by kernel_rfl) trivial ?_
    refine AWp.cond (decide (x1180 < a3)) rfl (fun c1181 => ?_) (fun c1181 => ?_)
    · replace H := (ifT c1181).symm.trans H
      refine AWp.skip ?_
      refine AWp.seq ?_
      refine AWp.block ?_
      obtain ⟨b1191, p1192, q1193, H⟩ := at_of H
      obtain ⟨b1194, p1195, q1196, H⟩ := at_of H
      obtain ⟨b1197, p1198, q1199, H⟩ := at_of H
      refine reg hP hn hm [(13, .c (eLabel b1191)), (19, .c (eLabel b1194)), (21, .put (eLabel b1194) ((x1179.set (Int.toNat (IntKind.i64.wrap (a1 + x1180))) b1191).map eLabel)), (23, .put (eLabel b1197) (((x1179.set (Int.toNat (IntKind.i64.wrap (a1 + x1180))) b1191).set (Int.toNat (IntKind.i64.wrap (a2 + x1180))) b1194).map eLabel))] [0, 1, 2, 3, 10] [0] ⟨[(0, .own 0), (1, iV .i64 a1), (2, iV .i64 a2), (3, iV .i64 a3), (10, iV .i64 x1180)], [(0, some (.row 2 67 (((x1179.set (Int.toNat (IntKind.i64.wrap (a1 + x1180))) b1191).set (Int.toNat (IntKind.i64.wrap (a2 + x1180))) b1194).map eLabel)))], 1⟩ [0 ≤ (IntKind.i64.wrap (a2 + x1180)), IntKind.i64.wrap (a2 + x1180) < (((x1179.map eLabel).length : Nat) : Int), (x1179.map eLabel)[(Int.toNat (IntKind.i64.wrap (a2 + x1180)))]? = some (eLabel b1191), 0 ≤ (IntKind.i64.wrap (a1 + x1180)), IntKind.i64.wrap (a1 + x1180) < (((x1179.map eLabel).length : Nat) : Int), (x1179.map eLabel)[(Int.toNat (IntKind.i64.wrap (a1 + x1180)))]? = some (eLabel b1194), 0 ≤ (IntKind.i64.wrap (a1 + x1180)), IntKind.i64.wrap (a1 + x1180) < (((x1179.map eLabel).length : Nat) : Int), (x1179.map eLabel)[(Int.toNat (IntKind.i64.wrap (a1 + x1180)))]? = some (eLabel b1194), (x1179.set (Int.toNat (IntKind.i64.wrap (a1 + x1180))) b1191).map eLabel = (x1179.map eLabel).set (Int.toNat (IntKind.i64.wrap (a1 + x1180))) (splice (eLabel b1194) 0 [sI b1191.f0, sI b1191.f1]), 0 ≤ (IntKind.i64.wrap (a2 + x1180)), IntKind.i64.wrap (a2 + x1180) < ((((x1179.set (Int.toNat (IntKind.i64.wrap (a1 + x1180))) b1191).map eLabel).length : Nat) : Int), ((x1179.set (Int.toNat (IntKind.i64.wrap (a1 + x1180))) b1191).map eLabel)[(Int.toNat (IntKind.i64.wrap (a2 + x1180)))]? = some (eLabel b1197), ((x1179.set (Int.toNat (IntKind.i64.wrap (a1 + x1180))) b1191).set (Int.toNat (IntKind.i64.wrap (a2 + x1180))) b1194).map eLabel = ((x1179.set (Int.toNat (IntKind.i64.wrap (a1 + x1180))) b1191).map eLabel).set (Int.toNat (IntKind.i64.wrap (a2 + x1180))) (splice (eLabel b1197) 0 [sI b1194.f0, sI b1194.f1])] (by kernel_rfl) ⟨by exact p1192, by exact el_lt eLabel p1192 q1193, by exact el_map eLabel q1193, by exact p1195, by exact el_lt eLabel p1195 q1196, by exact el_map eLabel q1196, by exact p1195, by exact el_lt eLabel p1195 q1196, by exact el_map eLabel q1196, by exact set1 _ _ _ _, by exact p1198, by exact el_lt eLabel p1198 q1199, by exact el_map eLabel q1199, by exact set1 _ _ _ _, trivial⟩ ?_
      refine reg hP hn hm [] [0, 1, 2, 3, 10] [0] ⟨[(0, .own 0), (1, iV .i64 a1), (2, iV .i64 a2), (3, iV .i64 a3), (10, iV .i64 (IntKind.i64.wrap (x1180 + (1 : Int))))], [(0, some (.row 2 67 (((x1179.set (Int.toNat (IntKind.i64.wrap (a1 + x1180))) b1191).set (Int.toNat (IntKind.i64.wrap (a2 + x1180))) b1194).map eLabel)))], 1⟩ [] (by kernel_rfl) trivial ?_
      exact LWp.conv (inv := [(0, 0)]) (vk := []) (e0 := []) (t := ⟨[(0, .own 0), (1, iV .i64 a1), (2, iV .i64 a2), (3, iV .i64 a3), (10, iV .i64 (IntKind.i64.wrap (x1180 + (1 : Int))))], [(0, some (.row 2 67 (((x1179.set (Int.toNat (IntKind.i64.wrap (a1 + x1180))) b1191).set (Int.toNat (IntKind.i64.wrap (a2 + x1180))) b1194).map eLabel)))], 1⟩) (by kernel_rfl) (ih _ _ _ H)
    · replace H := (ifF c1181).symm.trans H
      refine AWp.exit ?_
      obtain rfl := Option.some.inj H
      exact Exists.intro _ (And.intro (fun _ _ h => h.conv (inv := [(0, 0)]) (vk := []) (e0 := []) (t := ⟨[], [(0, some (.row 2 67 (x1179.map eLabel)))], 1⟩) (by kernel_rfl)) (And.intro rfl rfl))
  · obtain ⟨x1200, rfl⟩ : ∃ z, z = o1201 := ⟨_, rfl⟩
    rintro e s ⟨rfl, rfl⟩
    obtain rfl := Option.some.inj H
    exact Exists.intro ⟨[], [(0, some (.row 2 67 (x1200.map eLabel)))], 1⟩ (And.intro (fun _ _ h => h.conv (inv := [(0, 0)]) (vk := []) (e0 := []) (t := ⟨[], [(0, some (.row 2 67 (x1200.map eLabel)))], 1⟩) (by kernel_rfl)) (And.intro (.inr rfl) (And.intro rfl (And.intro (by kernel_rfl) (by kernel_rfl)))))
def f_slices_rotateCmpFunc_api_Label_label_Make_2.l0 (a2 : Int) (x1214 : List TLabel) (x1215 : Int) (x1216 : Int) : Option ((List TLabel) × Int) := if (x1215 != x1216) = true then (((if (decide (x1215 > x1216)) = true then ((f_slices_swapRangeCmpFunc_api_Label_label_Make_2.f x1214 (IntKind.i64.wrap (a2 - x1215)) a2 x1216) >>= fun t1221 => some (t1221, IntKind.i64.wrap (x1215 - x1216), x1216)) else ((f_slices_swapRangeCmpFunc_api_Label_label_Make_2.f x1214 (IntKind.i64.wrap (a2 - x1215)) (IntKind.i64.wrap ((IntKind.i64.wrap (a2 + x1216)) - x1215)) x1215) >>= fun t1225 => some (t1225, x1215, IntKind.i64.wrap (x1216 - x1215)))) : Option ((List TLabel) × Int × Int)) >>= fun oo => match oo with | (x1227, x1228, x1229) => (f_slices_rotateCmpFunc_api_Label_label_Make_2.l0 a2 x1227 x1228 x1229)) else (some (x1214, x1215))
partial_fixpoint
def f_slices_rotateCmpFunc_api_Label_label_Make_2.f (a0 : List TLabel) (a1 : Int) (a2 : Int) (a3 : Int) : Option (List TLabel) := (f_slices_rotateCmpFunc_api_Label_label_Make_2.l0 a2 a0 (IntKind.i64.wrap (a2 - a1)) (IntKind.i64.wrap (a3 - a2))) >>= fun oo => match oo with | (x1230, x1231) => ((f_slices_swapRangeCmpFunc_api_Label_label_Make_2.f x1230 (IntKind.i64.wrap (a2 - x1231)) a2 x1231) >>= fun t1234 => some t1234)
theorem f_slices_rotateCmpFunc_api_Label_label_Make_2.ok (a0 : List TLabel) (a1 : Int) (a2 : Int) (a3 : Int) (r : List TLabel) (H : f_slices_rotateCmpFunc_api_Label_label_Make_2.f a0 a1 a2 a3 = some r) : Pv.Fn Try.prog 110 [.own 0, iV .i64 a1, iV .i64 a2, iV .i64 a3, .im (.sc (.func (.func 73) #[] #[]))] [(0, some (.row 2 67 (a0.map eLabel)))] 1 (fun x o => x = .tup [] ∧ o = [(0, some (.row 2 67 (r.map eLabel)))]) := by
  unfold f_slices_rotateCmpFunc_api_Label_label_Make_2.f at H
  refine Fn.bodyK [0] Try.func110 rfl rfl (fun Γ hP hn => ?_)
  have hm : Try.prog.follows .mixedOrders = true := by kernel_rfl
  replace hn : Γ.n = 58 := hn
  refine AWp.seq ?_
  refine reg hP hn hm [] [0, 2, 3, 4, 10] [0] ⟨[(0, .own 0), (2, iV .i64 a2), (3, iV .i64 a3), (4, .im (.sc (.func (.func 73) #[] #[]))), (10, iV .i64 (IntKind.i64.wrap (a2 - a1)))], [(0, some (.row 2 67 (a0.map eLabel)))], 1⟩ [] (by kernel_rfl) trivial ?_
  refine AWp.seq ?_
  refine reg hP hn hm [] [0, 2, 4, 10, 11] [0] ⟨[(0, .own 0), (2, iV .i64 a2), (4, .im (.sc (.func (.func 73) #[] #[]))), (10, iV .i64 (IntKind.i64.wrap (a2 - a1))), (11, iV .i64 (IntKind.i64.wrap (a3 - a2)))], [(0, some (.row 2 67 (a0.map eLabel)))], 1⟩ [] (by kernel_rfl) trivial ?_
  refine AWp.seq ?_
  refine AWp.block ?_
  obtain ⟨o1236, e1237, H⟩ := bind_of H
  refine AWp.loop (LWp.conv (inv := [(0, 0)]) (vk := []) (e0 := []) (t := ⟨[(0, .own 0), (2, iV .i64 a2), (4, .im (.sc (.func (.func 73) #[] #[]))), (10, iV .i64 (IntKind.i64.wrap (a2 - a1))), (11, iV .i64 (IntKind.i64.wrap (a3 - a2)))], [(0, some (.row 2 67 (a0.map eLabel)))], 1⟩) (by kernel_rfl) ?_)
  refine LWp.mono (Q := fun e s => (match (generalizing := false) o1236 with | (x1230, x1231) => e = .exit 0 ∧ s = ⟨[(0, .own 0), (2, iV .i64 a2), (4, .im (.sc (.func (.func 73) #[] #[]))), (10, iV .i64 x1231)], [(0, some (.row 2 67 (x1230.map eLabel)))], 1⟩)) (LWp.cv (withBody (fun body hbody => ?_))) ?_
  · refine f_slices_rotateCmpFunc_api_Label_label_Make_2.l0.partial_correctness a2 (motive := fun x1214 x1215 x1216 o1236 => LWp Γ body (fun e s => ∃ t, Cv Γ s t ∧ (match (generalizing := false) o1236 with | (x1230, x1231) => e = .exit 0 ∧ t = ⟨[(0, .own 0), (2, iV .i64 a2), (4, .im (.sc (.func (.func 73) #[] #[]))), (10, iV .i64 x1231)], [(0, some (.row 2 67 (x1230.map eLabel)))], 1⟩)) ⟨[(0, .own 0), (2, iV .i64 a2), (4, .im (.sc (.func (.func 73) #[] #[]))), (10, iV .i64 x1215), (11, iV .i64 x1216)], [(0, some (.row 2 67 (x1214.map eLabel)))], 1⟩) ?_ _ _ _ _ e1237
    clear H e1237 o1236; intro self ih x1214 x1215 x1216 o1236 H
    subst hbody
    refine LWp.round ?_
    refine AWp.seq ?_
    refine AWp.seq ?_
    refine reg hP hn hm [] [0, 2, 4, 10, 11, 20] [0] ⟨[(0, .own 0), (2, iV .i64 a2), (4, .im (.sc (.func (.func 73) #[] #[]))), (10, iV .i64 x1215), (11, iV .i64 x1216), (20, bV (x1215 != x1216))], [(0, some (.row 2 67 (x1214.map eLabel)))], 1⟩ [] (by kernel_rfl) trivial ?_
    refine AWp.cond (x1215 != x1216) rfl (fun c1217 => ?_) (fun c1217 => ?_)
    · replace H := (ifT c1217).symm.trans H
      refine AWp.skip ?_
      refine AWp.block ?_
      refine AWp.seq ?_
      refine reg hP hn hm [] [0, 2, 4, 10, 11, 23] [0] ⟨[(0, .own 0), (2, iV .i64 a2), (4, .im (.sc (.func (.func 73) #[] #[]))), (10, iV .i64 x1215), (11, iV .i64 x1216), (23, bV (decide (x1215 > x1216)))], [(0, some (.row 2 67 (x1214.map eLabel)))], 1⟩ [] (by kernel_rfl) trivial ?_
      obtain ⟨o1238, e1239, H⟩ := bind_of H
      refine AWp.mono (Q := fun e s => (match (generalizing := false) o1238 with | (x1227, x1228, x1229) => e = .normal ∧ s = ⟨[(0, .own 0), (2, iV .i64 a2), (4, .im (.sc (.func (.func 73) #[] #[]))), (10, iV .i64 x1228), (11, iV .i64 x1229)], [(0, some (.row 2 67 (x1227.map eLabel)))], 1⟩)) (AWp.cv ?_) ?_
      · replace H := e1239; clear e1239
        refine AWp.cond (decide (x1215 > x1216)) rfl (fun c1218 => ?_) (fun c1218 => ?_)
        · replace H := (ifT c1218).symm.trans H
          refine AWp.seq ?_
          obtain ⟨t1221, e1222, H⟩ := bind_of H
          refine reg hP hn hm [(7, .call [(0, 0)] [(0, 0)] [] [] 1 (.tup []) [(0, some (.row 2 67 (t1221.map eLabel)))])] [0, 2, 4, 10, 11] [0] ⟨[(0, .own 0), (2, iV .i64 a2), (4, .im (.sc (.func (.func 73) #[] #[]))), (10, iV .i64 x1215), (11, iV .i64 x1216)], [(0, some (.row 2 67 (t1221.map eLabel)))], 1⟩ [Enters Try.prog 114, Pv.Fn Try.prog 114 [.own 0, iV .i64 (IntKind.i64.wrap (a2 - x1215)), iV .i64 a2, iV .i64 x1216, .im (.sc (.func (.func 73) #[] #[]))] [(0, some (.row 2 67 (x1214.map eLabel)))] 1 (fun r o => r = .tup [] ∧ o = [(0, some (.row 2 67 (t1221.map eLabel)))])] (by kernel_rfl) ⟨by exact Try.call114, by exact f_slices_swapRangeCmpFunc_api_Label_label_Make_2.ok x1214 (IntKind.i64.wrap (a2 - x1215)) a2 x1216 t1221 e1222, trivial⟩ ?_
          refine reg hP hn hm [] [0, 2, 4, 10, 11] [0] ⟨[(0, .own 0), (2, iV .i64 a2), (4, .im (.sc (.func (.func 73) #[] #[]))), (10, iV .i64 (IntKind.i64.wrap (x1215 - x1216))), (11, iV .i64 x1216)], [(0, some (.row 2 67 (t1221.map eLabel)))], 1⟩ [] (by kernel_rfl) trivial ?_
          obtain rfl := Option.some.inj H
          exact Exists.intro _ (And.intro (fun _ _ h => h.conv (inv := [(0, 0)]) (vk := []) (e0 := []) (t := ⟨[(0, .own 0), (2, iV .i64 a2), (4, .im (.sc (.func (.func 73) #[] #[]))), (10, iV .i64 (IntKind.i64.wrap (x1215 - x1216))), (11, iV .i64 x1216)], [(0, some (.row 2 67 (t1221.map eLabel)))], 1⟩) (by kernel_rfl)) (And.intro rfl rfl))
        · replace H := (ifF c1218).symm.trans H
          refine AWp.seq ?_
          obtain ⟨t1225, e1226, H⟩ := bind_of H
          refine reg hP hn hm [(11, .call [(0, 0)] [(0, 0)] [] [] 1 (.tup []) [(0, some (.row 2 67 (t1225.map eLabel)))])] [0, 2, 4, 10, 11] [0] ⟨[(0, .own 0), (2, iV .i64 a2), (4, .im (.sc (.func (.func 73) #[] #[]))), (10, iV .i64 x1215), (11, iV .i64 x1216)], [(0, some (.row 2 67 (t1225.map eLabel)))], 1⟩ [Enters Try.prog 114, Pv.Fn Try.prog 114 [.own 0, iV .i64 (IntKind.i64.wrap (a2 - x1215)), iV .i64 (IntKind.i64.wrap ((IntKind.i64.wrap (a2 + x1216)) - x1215)), iV .i64 x1215, .im (.sc (.func (.func 73) #[] #[]))] [(0, some (.row 2 67 (x1214.map eLabel)))] 1 (fun r o => r = .tup [] ∧ o = [(0, some (.row 2 67 (t1225.map eLabel)))])] (by kernel_rfl) ⟨by exact Try.call114, by exact f_slices_swapRangeCmpFunc_api_Label_label_Make_2.ok x1214 (IntKind.i64.wrap (a2 - x1215)) (IntKind.i64.wrap ((IntKind.i64.wrap (a2 + x1216)) - x1215)) x1215 t1225 e1226, trivial⟩ ?_
          refine reg hP hn hm [] [0, 2, 4, 10, 11] [0] ⟨[(0, .own 0), (2, iV .i64 a2), (4, .im (.sc (.func (.func 73) #[] #[]))), (10, iV .i64 x1215), (11, iV .i64 (IntKind.i64.wrap (x1216 - x1215)))], [(0, some (.row 2 67 (t1225.map eLabel)))], 1⟩ [] (by kernel_rfl) trivial ?_
          obtain rfl := Option.some.inj H
          exact Exists.intro _ (And.intro (fun _ _ h => h.conv (inv := [(0, 0)]) (vk := []) (e0 := []) (t := ⟨[(0, .own 0), (2, iV .i64 a2), (4, .im (.sc (.func (.func 73) #[] #[]))), (10, iV .i64 x1215), (11, iV .i64 (IntKind.i64.wrap (x1216 - x1215)))], [(0, some (.row 2 67 (t1225.map eLabel)))], 1⟩) (by kernel_rfl)) (And.intro rfl rfl))
      · obtain ⟨x1227, x1228, x1229⟩ := o1238
        rintro e s ⟨rfl, rfl⟩
        exact LWp.conv (inv := [(0, 0)]) (vk := []) (e0 := []) (t := ⟨[(0, .own 0), (2, iV .i64 a2), (4, .im (.sc (.func (.func 73) #[] #[]))), (10, iV .i64 x1228), (11, iV .i64 x1229)], [(0, some (.row 2 67 (x1227.map eLabel)))], 1⟩) (by kernel_rfl) (ih _ _ _ _ H)
    · replace H := (ifF c1217).symm.trans H
      refine AWp.exit ?_
      obtain rfl := Option.some.inj H
      exact Exists.intro _ (And.intro (fun _ _ h => h.conv (inv := [(0, 0)]) (vk := []) (e0 := []) (t := ⟨[(0, .own 0), (2, iV .i64 a2), (4, .im (.sc (.func (.func 73) #[] #[]))), (10, iV .i64 x1215)], [(0, some (.row 2 67 (x1214.map eLabel)))], 1⟩) (by kernel_rfl)) (And.intro rfl rfl))
  · obtain ⟨x1230, x1231⟩ := o1236
    rintro e s ⟨rfl, rfl⟩
    obtain ⟨t1234, e1235, H⟩ := bind_of H
    refine reg hP hn hm [(7, .call [(0, 0)] [(0, 0)] [] [] 1 (.tup []) [(0, some (.row 2 67 (t1234.map eLabel)))])] [] [0] ⟨[], [(0, some (.row 2 67 (t1234.map eLabel)))], 1⟩ [Enters Try.prog 114, Pv.Fn Try.prog 114 [.own 0, iV .i64 (IntKind.i64.wrap (a2 - x1231)), iV .i64 a2, iV .i64 x1231, .im (.sc (.func (.func 73) #[] #[]))] [(0, some (.row 2 67 (x1230.map eLabel)))] 1 (fun r o => r = .tup [] ∧ o = [(0, some (.row 2 67 (t1234.map eLabel)))])] (by kernel_rfl) ⟨by exact Try.call114, by exact f_slices_swapRangeCmpFunc_api_Label_label_Make_2.ok x1230 (IntKind.i64.wrap (a2 - x1231)) a2 x1231 t1234 e1235, trivial⟩ ?_
    obtain rfl := Option.some.inj H
    exact Exists.intro ⟨[], [(0, some (.row 2 67 (t1234.map eLabel)))], 1⟩ (And.intro (fun _ _ h => h.conv (inv := [(0, 0)]) (vk := []) (e0 := []) (t := ⟨[], [(0, some (.row 2 67 (t1234.map eLabel)))], 1⟩) (by kernel_rfl)) (And.intro (.inr rfl) (And.intro rfl (And.intro (by kernel_rfl) (by kernel_rfl)))))
def f_slices_symMergeCmpFunc_api_Label_label_Make_2.l0 (a0 : List TLabel) (a1 : Int) (x959 : Int) (x960 : Int) : Option (Int) := if (decide (x959 < x960)) = true then ((at? a0 (IntKind.i64.wrap (Int.fdiv (IntKind.u64.wrap (IntKind.i64.wrap (x959 + x960))) 2))) >>= fun b970 => (at? a0 a1) >>= fun b973 => (f_label_Make_2.f b970 b973) >>= fun t976 => ((if (decide (t976 < (0 : Int))) = true then (some (IntKind.i64.wrap ((IntKind.i64.wrap (Int.fdiv (IntKind.u64.wrap (IntKind.i64.wrap (x959 + x960))) 2)) + (1 : Int)), x960)) else (some (x959, IntKind.i64.wrap (Int.fdiv (IntKind.u64.wrap (IntKind.i64.wrap (x959 + x960))) 2)))) : Option (Int × Int)) >>= fun oo => match oo with | (x979, x980) => (f_slices_symMergeCmpFunc_api_Label_label_Make_2.l0 a0 a1 x979 x980)) else (some x959)
partial_fixpoint
def f_slices_symMergeCmpFunc_api_Label_label_Make_2.l1 (x981 : Int) (x1001 : List TLabel) (x1002 : Int) : Option (List TLabel) := if (decide (x1002 < (IntKind.i64.wrap (x981 - (1 : Int))))) = true then ((at? x1001 (IntKind.i64.wrap (x1002 + (1 : Int)))) >>= fun b1013 => (at? x1001 x1002) >>= fun b1016 => (at? (x1001.set (Int.toNat (x1002)) b1013) (IntKind.i64.wrap (x1002 + (1 : Int)))) >>= fun b1019 => f_slices_symMergeCmpFunc_api_Label_label_Make_2.l1 x981 ((x1001.set (Int.toNat (x1002)) b1013).set (Int.toNat (IntKind.i64.wrap (x1002 + (1 : Int)))) b1016) (IntKind.i64.wrap (x1002 + (1 : Int)))) else (some x1001)
partial_fixpoint
def f_slices_symMergeCmpFunc_api_Label_label_Make_2.l2 (a0 : List TLabel) (a2 : Int) (x1044 : Int) (x1045 : Int) : Option (Int) := if (decide (x1044 < x1045)) = true then ((at? a0 a2) >>= fun b1055 => (at? a0 (IntKind.i64.wrap (Int.fdiv (IntKind.u64.wrap (IntKind.i64.wrap (x1044 + x1045))) 2))) >>= fun b1058 => (f_label_Make_2.f b1055 b1058) >>= fun t1061 => ((if (!(decide (t1061 < (0 : Int)))) = true then (some (IntKind.i64.wrap ((IntKind.i64.wrap (Int.fdiv (IntKind.u64.wrap (IntKind.i64.wrap (x1044 + x1045))) 2)) + (1 : Int)), x1045)) else (some (x1044, IntKind.i64.wrap (Int.fdiv (IntKind.u64.wrap (IntKind.i64.wrap (x1044 + x1045))) 2)))) : Option (Int × Int)) >>= fun oo => match oo with | (x1064, x1065) => (f_slices_symMergeCmpFunc_api_Label_label_Make_2.l2 a0 a2 x1064 x1065)) else (some x1044)
partial_fixpoint
def f_slices_symMergeCmpFunc_api_Label_label_Make_2.l3 (x1066 : Int) (x1086 : List TLabel) (x1087 : Int) : Option (List TLabel) := if (decide (x1087 > x1066)) = true then ((at? x1086 (IntKind.i64.wrap (x1087 - (1 : Int)))) >>= fun b1098 => (at? x1086 x1087) >>= fun b1101 => (at? (x1086.set (Int.toNat (x1087)) b1098) (IntKind.i64.wrap (x1087 - (1 : Int)))) >>= fun b1104 => f_slices_symMergeCmpFunc_api_Label_label_Make_2.l3 x1066 ((x1086.set (Int.toNat (x1087)) b1098).set (Int.toNat (IntKind.i64.wrap (x1087 - (1 : Int)))) b1101) (IntKind.i64.wrap (x1087 - (1 : Int)))) else (some x1086)
partial_fixpoint
def f_slices_symMergeCmpFunc_api_Label_label_Make_2.l4 (a0 : List TLabel) (a1 : Int) (a2 : Int) (a3 : Int) (x1131 : Int) (x1132 : Int) : Option (Int) := if (decide (x1131 < x1132)) = true then ((at? a0 (IntKind.i64.wrap ((IntKind.i64.wrap ((IntKind.i64.wrap ((IntKind.i64.wrap (Int.fdiv (IntKind.u64.wrap (IntKind.i64.wrap (a1 + a3))) 2)) + a2)) - (1 : Int))) - (IntKind.i64.wrap (Int.fdiv (IntKind.u64.wrap (IntKind.i64.wrap (x1131 + x1132))) 2))))) >>= fun b1142 => (at? a0 (IntKind.i64.wrap (Int.fdiv (IntKind.u64.wrap (IntKind.i64.wrap (x1131 + x1132))) 2))) >>= fun b1145 => (f_label_Make_2.f b1142 b1145) >>= fun t1148 => ((if (!(decide (t1148 < (0 : Int)))) = true then (some (IntKind.i64.wrap ((IntKind.i64.wrap (Int.fdiv (IntKind.u64.wrap (IntKind.i64.wrap (x1131 + x1132))) 2)) + (1 : Int)), x1132)) else (some (x1131, IntKind.i64.wrap (Int.fdiv (IntKind.u64.wrap (IntKind.i64.wrap (x1131 + x1132))) 2)))) : Option (Int × Int)) >>= fun oo => match oo with | (x1151, x1152) => (f_slices_symMergeCmpFunc_api_Label_label_Make_2.l4 a0 a1 a2 a3 x1151 x1152)) else (some x1131)
partial_fixpoint
def f_slices_symMergeCmpFunc_api_Label_label_Make_2.f (a0 : List TLabel) (a1 : Int) (a2 : Int) (a3 : Int) : Option (List TLabel) := if ((IntKind.i64.wrap (a2 - a1)) == (1 : Int)) = true then ((f_slices_symMergeCmpFunc_api_Label_label_Make_2.l0 a0 a1 a2 a3) >>= fun x981 => (f_slices_symMergeCmpFunc_api_Label_label_Make_2.l1 x981 a0 a1) >>= fun x1022 => some x1022) else (if ((IntKind.i64.wrap (a3 - a2)) == (1 : Int)) = true then ((f_slices_symMergeCmpFunc_api_Label_label_Make_2.l2 a0 a2 a1 a2) >>= fun x1066 => (f_slices_symMergeCmpFunc_api_Label_label_Make_2.l3 x1066 a0 a2) >>= fun x1107 => some x1107) else (((if (decide (a2 > (IntKind.i64.wrap (Int.fdiv (IntKind.u64.wrap (IntKind.i64.wrap (a1 + a3))) 2)))) = true then (some (IntKind.i64.wrap ((IntKind.i64.wrap ((IntKind.i64.wrap (Int.fdiv (IntKind.u64.wrap (IntKind.i64.wrap (a1 + a3))) 2)) + a2)) - a3), IntKind.i64.wrap (Int.fdiv (IntKind.u64.wrap (IntKind.i64.wrap (a1 + a3))) 2))) else (some (a1, a2))) : Option (Int × Int)) >>= fun oo => match oo with | (x1109, x1110) => ((f_slices_symMergeCmpFunc_api_Label_label_Make_2.l4 a0 a1 a2 a3 x1109 x1110) >>= fun x1153 => ((if (decide (x1153 < a2)) = true then (some (decide (a2 < (IntKind.i64.wrap ((IntKind.i64.wrap ((IntKind.i64.wrap (Int.fdiv (IntKind.u64.wrap (IntKind.i64.wrap (a1 + a3))) 2)) + a2)) - x1153))))) else (some false)) : Option (Bool)) >>= fun x1156 => ((if x1156 = true then ((f_slices_rotateCmpFunc_api_Label_label_Make_2.f a0 x1153 a2 (IntKind.i64.wrap ((IntKind.i64.wrap ((IntKind.i64.wrap (Int.fdiv (IntKind.u64.wrap (IntKind.i64.wrap (a1 + a3))) 2)) + a2)) - x1153))) >>= fun t1242 => some t1242) else (some a0)) : Option (List TLabel)) >>= fun x1244 => ((if (decide (a1 < x1153)) = true then (some (decide (x1153 < (IntKind.i64.wrap (Int.fdiv (IntKind.u64.wrap (IntKind.i64.wrap (a1 + a3))) 2))))) else (some false)) : Option (Bool)) >>= fun x1247 => ((if x1247 = true then ((f_slices_symMergeCmpFunc_api_Label_label_Make_2.f x1244 a1 x1153 (IntKind.i64.wrap (Int.fdiv (IntKind.u64.wrap (IntKind.i64.wrap (a1 + a3))) 2))) >>= fun t1251 => some t1251) else (some x1244)) : Option (List TLabel)) >>= fun x1253 => ((if (decide ((IntKind.i64.wrap (Int.fdiv (IntKind.u64.wrap (IntKind.i64.wrap (a1 + a3))) 2)) < (IntKind.i64.wrap ((IntKind.i64.wrap ((IntKind.i64.wrap (Int.fdiv (IntKind.u64.wrap (IntKind.i64.wrap (a1 + a3))) 2)) + a2)) - x1153)))) = true then (some (decide ((IntKind.i64.wrap ((IntKind.i64.wrap ((IntKind.i64.wrap (Int.fdiv (IntKind.u64.wrap (IntKind.i64.wrap (a1 + a3))) 2)) + a2)) - x1153)) < a3))) else (some false)) : Option (Bool)) >>= fun x1256 => ((if x1256 = true then ((f_slices_symMergeCmpFunc_api_Label_label_Make_2.f x1253 (IntKind.i64.wrap (Int.fdiv (IntKind.u64.wrap (IntKind.i64.wrap (a1 + a3))) 2)) (IntKind.i64.wrap ((IntKind.i64.wrap ((IntKind.i64.wrap (Int.fdiv (IntKind.u64.wrap (IntKind.i64.wrap (a1 + a3))) 2)) + a2)) - x1153)) a3) >>= fun t1260 => some t1260) else (some x1253)) : Option (List TLabel)) >>= fun x1262 => some x1262)))
partial_fixpoint
theorem f_slices_symMergeCmpFunc_api_Label_label_Make_2.ok (a0 : List TLabel) (a1 : Int) (a2 : Int) (a3 : Int) (r : List TLabel) (H : f_slices_symMergeCmpFunc_api_Label_label_Make_2.f a0 a1 a2 a3 = some r) : Pv.Fn Try.prog 101 [.own 0, iV .i64 a1, iV .i64 a2, iV .i64 a3, .im (.sc (.func (.func 73) #[] #[]))] [(0, some (.row 2 67 (a0.map eLabel)))] 1 (fun x o => x = .tup [] ∧ o = [(0, some (.row 2 67 (r.map eLabel)))]) := by
  refine f_slices_symMergeCmpFunc_api_Label_label_Make_2.f.partial_correctness (motive := fun a0 a1 a2 a3 r => Pv.Fn Try.prog 101 [.own 0, iV .i64 a1, iV .i64 a2, iV .i64 a3, .im (.sc (.func (.func 73) #[] #[]))] [(0, some (.row 2 67 (a0.map eLabel)))] 1 (fun x o => x = .tup [] ∧ o = [(0, some (.row 2 67 (r.map eLabel)))])) ?_ a0 a1 a2 a3 r H
  clear H a0 a1 a2 a3 r; intro self ihF a0 a1 a2 a3 r H
  refine Fn.bodyK [0] Try.func101 rfl rfl (fun Γ hP hn => ?_)
  have hm : Try.prog.follows .mixedOrders = true := by kernel_rfl
  replace hn : Γ.n = 220 := hn
  refine AWp.seq ?_
  refine AWp.seq ?_
  refine reg hP hn hm [] [0, 1, 2, 3, 4, 28] [0] ⟨[(0, .own 0), (1, iV .i64 a1), (2, iV .i64 a2), (3, iV .i64 a3), (4, .im (.sc (.func (.func 73) #[] #[]))), (28, bV ((IntKind.i64.wrap (a2 - a1)) == (1 : Int)))], [(0, some (.row 2 67 (a0.map eLabel)))], 1⟩ [] (by kernel_rfl) trivial ?_
  refine AWp.cond ((IntKind.i64.wrap (a2 - a1)) == (1 : Int)) rfl (fun c938 => ?_) (fun c938 => ?_)
  · replace H := (ifT c938).symm.trans H
    refine AWp.seq ?_
    refine reg hP hn hm [] [0, 1, 3, 4, 10] [0] ⟨[(0, .own 0), (1, iV .i64 a1), (3, iV .i64 a3), (4, .im (.sc (.func (.func 73) #[] #[]))), (10, iV .i64 a2)], [(0, some (.row 2 67 (a0.map eLabel)))], 1⟩ [] (by kernel_rfl) trivial ?_
    refine AWp.seq ?_
    refine reg hP hn hm [] [0, 1, 4, 10, 11] [0] ⟨[(0, .own 0), (1, iV .i64 a1), (4, .im (.sc (.func (.func 73) #[] #[]))), (10, iV .i64 a2), (11, iV .i64 a3)], [(0, some (.row 2 67 (a0.map eLabel)))], 1⟩ [] (by kernel_rfl) trivial ?_
    refine AWp.seq ?_
    refine AWp.block ?_
    obtain ⟨o1263, e1264, H⟩ := bind_of H
    refine AWp.loop (LWp.conv (inv := [(0, 0)]) (vk := []) (e0 := []) (t := ⟨[(0, .own 0), (1, iV .i64 a1), (4, .im (.sc (.func (.func 73) #[] #[]))), (10, iV .i64 a2), (11, iV .i64 a3)], [(0, some (.row 2 67 (a0.map eLabel)))], 1⟩) (by kernel_rfl) ?_)
    refine LWp.mono (Q := fun e s => (match (generalizing := false) o1263 with | x981 => e = .exit 0 ∧ s = ⟨[(0, .own 0), (1, iV .i64 a1), (10, iV .i64 x981)], [(0, some (.row 2 67 (a0.map eLabel)))], 1⟩)) (LWp.cv (withBody (fun body hbody => ?_))) ?_
    · refine f_slices_symMergeCmpFunc_api_Label_label_Make_2.l0.partial_correctness a0 a1 (motive := fun x959 x960 o1263 => LWp Γ body (fun e s => ∃ t, Cv Γ s t ∧ (match (generalizing := false) o1263 with | x981 => e = .exit 0 ∧ t = ⟨[(0, .own 0), (1, iV .i64 a1), (10, iV .i64 x981)], [(0, some (.row 2 67 (a0.map eLabel)))], 1⟩)) ⟨[(0, .own 0), (1, iV .i64 a1), (4, .im (.sc (.func (.func 73) #[] #[]))), (10, iV .i64 x959), (11, iV .i64 x960)], [(0, some (.row 2 67 (a0.map eLabel)))], 1⟩) ?_ _ _ _ e1264
      clear H e1264 o1263; intro self ih x959 x960 o1263 H
      subst hbody
      refine LWp.round ?_
      refine AWp.seq ?_
      refine AWp.seq ?_
      refine reg hP hn hm [] [0, 1, 4, 10, 11, 33] [0] ⟨[(0, .own 0), (1, iV .i64 a1), (4, .im (.sc (.func (.func 73) #[] #[]))), (10, iV .i64 x959), (11, iV .i64 x960), (33, bV (decide (x959 < x960)))], [(0, some (.row 2 67 (a0.map eLabel)))], 1⟩ [] (by kernel_rfl) trivial ?_
      refine AWp.cond (decide (x959 < x960)) rfl (fun c961 => ?_) (fun c961 => ?_)
      · replace H := (ifT c961).symm.trans H
        refine AWp.skip ?_
        refine AWp.block ?_
        refine AWp.seq ?_
        refine reg hP hn hm [] [0, 1, 4, 10, 11, 12] [0] ⟨[(0, .own 0), (1, iV .i64 a1), (4, .im (.sc (.func (.func 73) #[] #[]))), (10, iV .i64 x959), (11, iV .i64 x960), (12, iV .i64 (IntKind.i64.wrap (Int.fdiv (IntKind.u64.wrap (IntKind.i64.wrap (x959 + x960))) 2)))], [(0, some (.row 2 67 (a0.map eLabel)))], 1⟩ [(0 : Int) ≤ 1] (by kernel_rfl) ⟨by decide, trivial⟩ ?_
        refine AWp.seq ?_
        obtain ⟨b970, p971, q972, H⟩ := at_of H
        obtain ⟨b973, p974, q975, H⟩ := at_of H
        obtain ⟨t976, e977, H⟩ := bind_of H
        refine reg hP hn hm [(4, .c (eLabel b970)), (8, .c (eLabel b973)), (9, .call [] [] [] [] 0 (iV .i64 t976) [])] [0, 1, 4, 10, 11, 12, 50] [0] ⟨[(0, .own 0), (1, iV .i64 a1), (4, .im (.sc (.func (.func 73) #[] #[]))), (10, iV .i64 x959), (11, iV .i64 x960), (12, iV .i64 (IntKind.i64.wrap (Int.fdiv (IntKind.u64.wrap (IntKind.i64.wrap (x959 + x960))) 2))), (50, bV (decide (t976 < (0 : Int))))], [(0, some (.row 2 67 (a0.map eLabel)))], 1⟩ [0 ≤ (IntKind.i64.wrap (Int.fdiv (IntKind.u64.wrap (IntKind.i64.wrap (x959 + x960))) 2)), IntKind.i64.wrap (Int.fdiv (IntKind.u64.wrap (IntKind.i64.wrap (x959 + x960))) 2) < (((a0.map eLabel).length : Nat) : Int), (a0.map eLabel)[(Int.toNat (IntKind.i64.wrap (Int.fdiv (IntKind.u64.wrap (IntKind.i64.wrap (x959 + x960))) 2)))]? = some (eLabel b970), 0 ≤ a1, a1 < (((a0.map eLabel).length : Nat) : Int), (a0.map eLabel)[(Int.toNat (a1))]? = some (eLabel b973), Enters Try.prog 73, Pv.Fn Try.prog 73 [.agg (aLabel b970), .agg (aLabel b973)] [] 0 (fun r o => r = iV .i64 t976 ∧ o = [])] (by kernel_rfl) ⟨by exact p971, by exact el_lt eLabel p971 q972, by exact el_map eLabel q972, by exact p974, by exact el_lt eLabel p974 q975, by exact el_map eLabel q975, by exact Try.call73, by exact f_label_Make_2.ok b970 b973 t976 e977, trivial⟩ ?_
        obtain ⟨o1265, e1266, H⟩ := bind_of H
        refine AWp.mono (Q := fun e s => (match (generalizing := false) o1265 with | (x979, x980) => e = .normal ∧ s = ⟨[(0, .own 0), (1, iV .i64 a1), (4, .im (.sc (.func (.func 73) #[] #[]))), (10, iV .i64 x979), (11, iV .i64 x980)], [(0, some (.row 2 67 (a0.map eLabel)))], 1⟩)) (AWp.cv ?_) ?_
        · replace H := e1266; clear e1266
          refine AWp.cond (decide (t976 < (0 : Int))) rfl (fun c978 => ?_) (fun c978 => ?_)
          · replace H := (ifT c978).symm.trans H
            refine reg hP hn hm [] [0, 1, 4, 10, 11] [0] ⟨[(0, .own 0), (1, iV .i64 a1), (4, .im (.sc (.func (.func 73) #[] #[]))), (10, iV .i64 (IntKind.i64.wrap ((IntKind.i64.wrap (Int.fdiv (IntKind.u64.wrap (IntKind.i64.wrap (x959 + x960))) 2)) + (1 : Int)))), (11, iV .i64 x960)], [(0, some (.row 2 67 (a0.map eLabel)))], 1⟩ [] (by kernel_rfl) trivial ?_
            obtain rfl := Option.some.inj H
            exact Exists.intro _ (And.intro (fun _ _ h => h.conv (inv := [(0, 0)]) (vk := []) (e0 := []) (t := ⟨[(0, .own 0), (1, iV .i64 a1), (4, .im (.sc (.func (.func 73) #[] #[]))), (10, iV .i64 (IntKind.i64.wrap ((IntKind.i64.wrap (Int.fdiv (IntKind.u64.wrap (IntKind.i64.wrap (x959 + x960))) 2)) + (1 : Int)))), (11, iV .i64 x960)], [(0, some (.row 2 67 (a0.map eLabel)))], 1⟩) (by kernel_rfl)) (And.intro rfl rfl))
          · replace H := (ifF c978).symm.trans H
            refine reg hP hn hm [] [0, 1, 4, 10, 11] [0] ⟨[(0, .own 0), (1, iV .i64 a1), (4, .im (.sc (.func (.func 73) #[] #[]))), (10, iV .i64 x959), (11, iV .i64 (IntKind.i64.wrap (Int.fdiv (IntKind.u64.wrap (IntKind.i64.wrap (x959 + x960))) 2)))], [(0, some (.row 2 67 (a0.map eLabel)))], 1⟩ [] (by kernel_rfl) trivial ?_
            obtain rfl := Option.some.inj H
            exact Exists.intro _ (And.intro (fun _ _ h => h.conv (inv := [(0, 0)]) (vk := []) (e0 := []) (t := ⟨[(0, .own 0), (1, iV .i64 a1), (4, .im (.sc (.func (.func 73) #[] #[]))), (10, iV .i64 x959), (11, iV .i64 (IntKind.i64.wrap (Int.fdiv (IntKind.u64.wrap (IntKind.i64.wrap (x959 + x960))) 2)))], [(0, some (.row 2 67 (a0.map eLabel)))], 1⟩) (by kernel_rfl)) (And.intro rfl rfl))
        · obtain ⟨x979, x980⟩ := o1265
          rintro e s ⟨rfl, rfl⟩
          exact LWp.conv (inv := [(0, 0)]) (vk := []) (e0 := []) (t := ⟨[(0, .own 0), (1, iV .i64 a1), (4, .im (.sc (.func (.func 73) #[] #[]))), (10, iV .i64 x979), (11, iV .i64 x980)], [(0, some (.row 2 67 (a0.map eLabel)))], 1⟩) (by kernel_rfl) (ih _ _ _ H)
      · replace H := (ifF c961).symm.trans H
        refine AWp.exit ?_
        obtain rfl := Option.some.inj H
        exact Exists.intro _ (And.intro (fun _ _ h => h.conv (inv := [(0, 0)]) (vk := []) (e0 := []) (t := ⟨[(0, .own 0), (1, iV .i64 a1), (10, iV .i64 x959)], [(0, some (.row 2 67 (a0.map eLabel)))], 1⟩) (by kernel_rfl)) (And.intro rfl rfl))
    · obtain ⟨x981, rfl⟩ : ∃ z, z = o1263 := ⟨_, rfl⟩
      rintro e s ⟨rfl, rfl⟩
      refine AWp.seq ?_
      refine AWp.seq ?_
      refine reg hP hn hm [] [0, 10, 13] [0] ⟨[(0, .own 0), (10, iV .i64 x981), (13, iV .i64 a1)], [(0, some (.row 2 67 (a0.map eLabel)))], 1⟩ [] (by kernel_rfl) trivial ?_
      refine AWp.block ?_
      obtain ⟨o1267, e1268, H⟩ := bind_of H
      refine AWp.loop (LWp.conv (inv := [(0, 0)]) (vk := []) (e0 := []) (t := ⟨[(0, .own 0), (10, iV .i64 x981), (13, iV .i64 a1)], [(0, some (.row 2 67 (a0.map eLabel)))], 1⟩) (by kernel_rfl) ?_)
      refine LWp.mono (Q := fun e s => (match (generalizing := false) o1267 with | x1022 => e = .exit 2 ∧ s = ⟨[], [(0, some (.row 2 67 (x1022.map eLabel)))], 1⟩)) (LWp.cv (withBody (fun body hbody => ?_))) ?_
      · refine f_slices_symMergeCmpFunc_api_Label_label_Make_2.l1.partial_correctness x981 (motive := fun x1001 x1002 o1267 => LWp Γ body (fun e s => ∃ t, Cv Γ s t ∧ (match (generalizing := false) o1267 with | x1022 => e = .exit 2 ∧ t = ⟨[], [(0, some (.row 2 67 (x1022.map eLabel)))], 1⟩)) ⟨[(0, .own 0), (10, iV .i64 x981), (13, iV .i64 x1002)], [(0, some (.row 2 67 (x1001.map eLabel)))], 1⟩) ?_ _ _ _ e1268
        clear H e1268 o1267; intro self ih x1001 x1002 o1267 H
        subst hbody
        refine LWp.round ?_
        refine AWp.seq ?_
        refine AWp.seq ?_
        refine reg hP hn hm [] [0, 10, 13, 58] [0] ⟨[(0, .own 0), (10, iV .i64 x981), (13, iV .i64 x1002), (58, bV (decide (x1002 < (IntKind.i64.wrap (x981 - (1 : Int))))))], [(0, some (.row 2 67 (x1001.map eLabel)))], 1⟩ [] (by kernel_rfl) trivial ?_
        refine AWp.cond (decide (x1002 < (IntKind.i64.wrap (x981 - (1 : Int))))) rfl (fun c1003 => ?_) (fun c1003 => ?_)
        · replace H := (ifT c1003).symm.trans H
          refine AWp.skip ?_
          refine AWp.seq ?_
          refine AWp.block ?_
          obtain ⟨b1013, p1014, q1015, H⟩ := at_of H
          obtain ⟨b1016, p1017, q1018, H⟩ := at_of H
          obtain ⟨b1019, p1020, q1021, H⟩ := at_of H
          refine reg hP hn hm [(9, .c (eLabel b1013)), (13, .c (eLabel b1016)), (15, .put (eLabel b1016) ((x1001.set (Int.toNat (x1002)) b1013).map eLabel)), (17, .put (eLabel b1019) (((x1001.set (Int.toNat (x1002)) b1013).set (Int.toNat (IntKind.i64.wrap (x1002 + (1 : Int)))) b1016).map eLabel))] [0, 10, 13] [0] ⟨[(0, .own 0), (10, iV .i64 x981), (13, iV .i64 x1002)], [(0, some (.row 2 67 (((x1001.set (Int.toNat (x1002)) b1013).set (Int.toNat (IntKind.i64.wrap (x1002 + (1 : Int)))) b1016).map eLabel)))], 1⟩ [0 ≤ (IntKind.i64.wrap (x1002 + (1 : Int))), IntKind.i64.wrap (x1002 + (1 : Int)) < (((x1001.map eLabel).length : Nat) : Int), (x1001.map eLabel)[(Int.toNat (IntKind.i64.wrap (x1002 + (1 : Int))))]? = some (eLabel b1013), 0 ≤ x1002, x1002 < (((x1001.map eLabel).length : Nat) : Int), (x1001.map eLabel)[(Int.toNat (x1002))]? = some (eLabel b1016), 0 ≤ x1002, x1002 < (((x1001.map eLabel).length : Nat) : Int), (x1001.map eLabel)[(Int.toNat (x1002))]? = some (eLabel b1016), (x1001.set (Int.toNat (x1002)) b1013).map eLabel = (x1001.map eLabel).set (Int.toNat (x1002)) (splice (eLabel b1016) 0 [sI b1013.f0, sI b1013.f1]), 0 ≤ (IntKind.i64.wrap (x1002 + (1 : Int))), IntKind.i64.wrap (x1002 + (1 : Int)) < ((((x1001.set (Int.toNat (x1002)) b1013).map eLabel).length : Nat) : Int), ((x1001.set (Int.toNat (x1002)) b1013).map eLabel)[(Int.toNat (IntKind.i64.wrap (x1002 + (1 : Int))))]? = some (eLabel b1019), ((x1001.set (Int.toNat (x1002)) b1013).set (Int.toNat (IntKind.i64.wrap (x1002 + (1 : Int)))) b1016).map eLabel = ((x1001.set (Int.toNat (x1002)) b1013).map eLabel).set (Int.toNat (IntKind.i64.wrap (x1002 + (1 : Int)))) (splice (eLabel b1019) 0 [sI b1016.f0, sI b1016.f1])] (by kernel_rfl) ⟨by exact p1014, by exact el_lt eLabel p1014 q1015, by exact el_map eLabel q1015, by exact p1017, by exact el_lt eLabel p1017 q1018, by exact el_map eLabel q1018, by exact p1017, by exact el_lt eLabel p1017 q1018, by exact el_map eLabel q1018, by exact set1 _ _ _ _, by exact p1020, by exact el_lt eLabel p1020 q1021, by exact el_map eLabel q1021, by exact set1 _ _ _ _, trivial⟩ ?_
          refine reg hP hn hm [] [0, 10, 13] [0] ⟨[(0, .own 0), (10, iV .i64 x981), (13, iV .i64 (IntKind.i64.wrap (x1002 + (1 : Int))))], [(0, some (.row 2 67 (((x1001.set (Int.toNat (x1002)) b1013).set (Int.toNat (IntKind.i64.wrap (x1002 + (1 : Int)))) b1016).map eLabel)))], 1⟩ [] (by kernel_rfl) trivial ?_
          exact LWp.conv (inv := [(0, 0)]) (vk := []) (e0 := []) (t := ⟨[(0, .own 0), (10, iV .i64 x981), (13, iV .i64 (IntKind.i64.wrap (x1002 + (1 : Int))))], [(0, some (.row 2 67 (((x1001.set (Int.toNat (x1002)) b1013).set (Int.toNat (IntKind.i64.wrap (x1002 + (1 : Int)))) b1016).map eLabel)))], 1⟩) (by kernel_rfl) (ih _ _ _ H)
        · replace H := (ifF c1003).symm.trans H
          refine AWp.exit ?_
          obtain rfl := Option.some.inj H
          exact Exists.intro _ (And.intro (fun _ _ h => h.conv (inv := [(0, 0)]) (vk := []) (e0 := []) (t := ⟨[], [(0, some (.row 2 67 (x1001.map eLabel)))], 1⟩) (by kernel_rfl)) (And.intro rfl rfl))
      · obtain ⟨x1022, rfl⟩ : ∃ z, z = o1267 := ⟨_, rfl⟩
        rintro e s ⟨rfl, rfl⟩
        refine AWp.conv (inv := [(0, 0)]) (vk := []) (e0 := []) (t := ⟨[], [(0, some (.row 2 67 (x1022.map eLabel)))], 1⟩) (by kernel_rfl) ?_
        refine AWp.ret ?_
        obtain rfl := Option.some.inj H
        exact Exists.intro _ (And.intro (fun _ _ h => h) (And.intro (.inl rfl) (And.intro rfl (And.intro (by kernel_rfl) (by kernel_rfl)))))
  · replace H := (ifF c938).symm.trans H
    refine AWp.skip ?_
    refine AWp.seq ?_
    refine AWp.seq ?_
    refine reg hP hn hm [] [0, 1, 2, 3, 4, 80] [0] ⟨[(0, .own 0), (1, iV .i64 a1), (2, iV .i64 a2), (3, iV .i64 a3), (4, .im (.sc (.func (.func 73) #[] #[]))), (80, bV ((IntKind.i64.wrap (a3 - a2)) == (1 : Int)))], [(0, some (.row 2 67 (a0.map eLabel)))], 1⟩ [] (by kernel_rfl) trivial ?_
    refine AWp.cond ((IntKind.i64.wrap (a3 - a2)) == (1 : Int)) rfl (fun c1023 => ?_) (fun c1023 => ?_)
    · replace H := (ifT c1023).symm.trans H
      refine AWp.seq ?_
      refine reg hP hn hm [] [0, 2, 4, 14] [0] ⟨[(0, .own 0), (2, iV .i64 a2), (4, .im (.sc (.func (.func 73) #[] #[]))), (14, iV .i64 a1)], [(0, some (.row 2 67 (a0.map eLabel)))], 1⟩ [] (by kernel_rfl) trivial ?_
      refine AWp.seq ?_
      refine reg hP hn hm [] [0, 2, 4, 14, 15] [0] ⟨[(0, .own 0), (2, iV .i64 a2), (4, .im (.sc (.func (.func 73) #[] #[]))), (14, iV .i64 a1), (15, iV .i64 a2)], [(0, some (.row 2 67 (a0.map eLabel)))], 1⟩ [] (by kernel_rfl) trivial ?_
      refine AWp.seq ?_
      refine AWp.block ?_
      obtain ⟨o1269, e1270, H⟩ := bind_of H
      refine AWp.loop (LWp.conv (inv := [(0, 0)]) (vk := []) (e0 := []) (t := ⟨[(0, .own 0), (2, iV .i64 a2), (4, .im (.sc (.func (.func 73) #[] #[]))), (14, iV .i64 a1), (15, iV .i64 a2)], [(0, some (.row 2 67 (a0.map eLabel)))], 1⟩) (by kernel_rfl) ?_)
      refine LWp.mono (Q := fun e s => (match (generalizing := false) o1269 with | x1066 => e = .exit 4 ∧ s = ⟨[(0, .own 0), (2, iV .i64 a2), (14, iV .i64 x1066)], [(0, some (.row 2 67 (a0.map eLabel)))], 1⟩)) (LWp.cv (withBody (fun body hbody => ?_))) ?_
      · refine f_slices_symMergeCmpFunc_api_Label_label_Make_2.l2.partial_correctness a0 a2 (motive := fun x1044 x1045 o1269 => LWp Γ body (fun e s => ∃ t, Cv Γ s t ∧ (match (generalizing := false) o1269 with | x1066 => e = .exit 4 ∧ t = ⟨[(0, .own 0), (2, iV .i64 a2), (14, iV .i64 x1066)], [(0, some (.row 2 67 (a0.map eLabel)))], 1⟩)) ⟨[(0, .own 0), (2, iV .i64 a2), (4, .im (.sc (.func (.func 73) #[] #[]))), (14, iV .i64 x1044), (15, iV .i64 x1045)], [(0, some (.row 2 67 (a0.map eLabel)))], 1⟩) ?_ _ _ _ e1270
        clear H e1270 o1269; intro self ih x1044 x1045 o1269 H
        subst hbody
        refine LWp.round ?_
        refine AWp.seq ?_
        refine AWp.seq ?_
        refine reg hP hn hm [] [0, 2, 4, 14, 15, 85] [0] ⟨[(0, .own 0), (2, iV .i64 a2), (4, .im (.sc (.func (.func 73) #[] #[]))), (14, iV .i64 x1044), (15, iV .i64 x1045), (85, bV (decide (x1044 < x1045)))], [(0, some (.row 2 67 (a0.map eLabel)))], 1⟩ [] (by kernel_rfl) trivial ?_
        refine AWp.cond (decide (x1044 < x1045)) rfl (fun c1046 => ?_) (fun c1046 => ?_)
        · replace H := (ifT c1046).symm.trans H
          refine AWp.skip ?_
          refine AWp.block ?_
          refine AWp.seq ?_
          refine reg hP hn hm [] [0, 2, 4, 14, 15, 16] [0] ⟨[(0, .own 0), (2, iV .i64 a2), (4, .im (.sc (.func (.func 73) #[] #[]))), (14, iV .i64 x1044), (15, iV .i64 x1045), (16, iV .i64 (IntKind.i64.wrap (Int.fdiv (IntKind.u64.wrap (IntKind.i64.wrap (x1044 + x1045))) 2)))], [(0, some (.row 2 67 (a0.map eLabel)))], 1⟩ [(0 : Int) ≤ 1] (by kernel_rfl) ⟨by decide, trivial⟩ ?_
          refine AWp.seq ?_
          obtain ⟨b1055, p1056, q1057, H⟩ := at_of H
          obtain ⟨b1058, p1059, q1060, H⟩ := at_of H
          obtain ⟨t1061, e1062, H⟩ := bind_of H
          refine reg hP hn hm [(4, .c (eLabel b1055)), (8, .c (eLabel b1058)), (9, .call [] [] [] [] 0 (iV .i64 t1061) [])] [0, 2, 4, 14, 15, 16, 103] [0] ⟨[(0, .own 0), (2, iV .i64 a2), (4, .im (.sc (.func (.func 73) #[] #[]))), (14, iV .i64 x1044), (15, iV .i64 x1045), (16, iV .i64 (IntKind.i64.wrap (Int.fdiv (IntKind.u64.wrap (IntKind.i64.wrap (x1044 + x1045))) 2))), (103, bV (!(decide (t1061 < (0 : Int)))))], [(0, some (.row 2 67 (a0.map eLabel)))], 1⟩ [0 ≤ a2, a2 < (((a0.map eLabel).length : Nat) : Int), (a0.map eLabel)[(Int.toNat (a2))]? = some (eLabel b1055), 0 ≤ (IntKind.i64.wrap (Int.fdiv (IntKind.u64.wrap (IntKind.i64.wrap (x1044 + x1045))) 2)), IntKind.i64.wrap (Int.fdiv (IntKind.u64.wrap (IntKind.i64.wrap (x1044 + x1045))) 2) < (((a0.map eLabel).length : Nat) : Int), (a0.map eLabel)[(Int.toNat (IntKind.i64.wrap (Int.fdiv (IntKind.u64.wrap (IntKind.i64.wrap (x1044 + x1045))) 2)))]? = some (eLabel b1058), Enters Try.prog 73, Pv.Fn Try.prog 73 [.agg (aLabel b1055), .agg (aLabel b1058)] [] 0 (fun r o => r = iV .i64 t1061 ∧ o = [])] (by kernel_rfl) ⟨by exact p1056, by exact el_lt eLabel p1056 q1057, by exact el_map eLabel q1057, by exact p1059, by exact el_lt eLabel p1059 q1060, by exact el_map eLabel q1060, by exact Try.call73, by exact f_label_Make_2.ok b1055 b1058 t1061 e1062, trivial⟩ ?_
          obtain ⟨o1271, e1272, H⟩ := bind_of H
          refine AWp.mono (Q := fun e s => (match (generalizing := false) o1271 with | (x1064, x1065) => e = .normal ∧ s = ⟨[(0, .own 0), (2, iV .i64 a2), (4, .im (.sc (.func (.func 73) #[] #[]))), (14, iV .i64 x1064), (15, iV .i64 x1065)], [(0, some (.row 2 67 (a0.map eLabel)))], 1⟩)) (AWp.cv ?_) ?_
          · replace H := e1272; clear e1272
            refine AWp.cond (!(decide (t1061 < (0 : Int)))) rfl (fun c1063 => ?_) (fun c1063 => ?_)
            · replace H := (ifT c1063).symm.trans H
              refine reg hP hn hm [] [0, 2, 4, 14, 15] [0] ⟨[(0, .own 0), (2, iV .i64 a2), (4, .im (.sc (.func (.func 73) #[] #[]))), (14, iV .i64 (IntKind.i64.wrap ((IntKind.i64.wrap (Int.fdiv (IntKind.u64.wrap (IntKind.i64.wrap (x1044 + x1045))) 2)) + (1 : Int)))), (15, iV .i64 x1045)], [(0, some (.row 2 67 (a0.map eLabel)))], 1⟩ [] (by kernel_rfl) trivial ?_
              obtain rfl := Option.some.inj H
              exact Exists.intro _ (And.intro (fun _ _ h => h.conv (inv := [(0, 0)]) (vk := []) (e0 := []) (t := ⟨[(0, .own 0), (2, iV .i64 a2), (4, .im (.sc (.func (.func 73) #[] #[]))), (14, iV .i64 (IntKind.i64.wrap ((IntKind.i64.wrap (Int.fdiv (IntKind.u64.wrap (IntKind.i64.wrap (x1044 + x1045))) 2)) + (1 : Int)))), (15, iV .i64 x1045)], [(0, some (.row 2 67 (a0.map eLabel)))], 1⟩) (by kernel_rfl)) (And.intro rfl rfl))
            · replace H := (ifF c1063).symm.trans H
              refine reg hP hn hm [] [0, 2, 4, 14, 15] [0] ⟨[(0, .own 0), (2, iV .i64 a2), (4, .im (.sc (.func (.func 73) #[] #[]))), (14, iV .i64 x1044), (15, iV .i64 (IntKind.i64.wrap (Int.fdiv (IntKind.u64.wrap (IntKind.i64.wrap (x1044 + x1045))) 2)))], [(0, some (.row 2 67 (a0.map eLabel)))], 1⟩ [] (by kernel_rfl) trivial ?_
              obtain rfl := Option.some.inj H
              exact Exists.intro _ (And.intro (fun _ _ h => h.conv (inv := [(0, 0)]) (vk := []) (e0 := []) (t := ⟨[(0, .own 0), (2, iV .i64 a2), (4, .im (.sc (.func (.func 73) #[] #[]))), (14, iV .i64 x1044), (15, iV .i64 (IntKind.i64.wrap (Int.fdiv (IntKind.u64.wrap (IntKind.i64.wrap (x1044 + x1045))) 2)))], [(0, some (.row 2 67 (a0.map eLabel)))], 1⟩) (by kernel_rfl)) (And.intro rfl rfl))
          · obtain ⟨x1064, x1065⟩ := o1271
            rintro e s ⟨rfl, rfl⟩
            exact LWp.conv (inv := [(0, 0)]) (vk := []) (e0 := []) (t := ⟨[(0, .own 0), (2, iV .i64 a2), (4, .im (.sc (.func (.func 73) #[] #[]))), (14, iV .i64 x1064), (15, iV .i64 x1065)], [(0, some (.row 2 67 (a0.map eLabel)))], 1⟩) (by kernel_rfl) (ih _ _ _ H)
        · replace H := (ifF c1046).symm.trans H
          refine AWp.exit ?_
          obtain rfl := Option.some.inj H
          exact Exists.intro _ (And.intro (fun _ _ h => h.conv (inv := [(0, 0)]) (vk := []) (e0 := []) (t := ⟨[(0, .own 0), (2, iV .i64 a2), (14, iV .i64 x1044)], [(0, some (.row 2 67 (a0.map eLabel)))], 1⟩) (by kernel_rfl)) (And.intro rfl rfl))
      · obtain ⟨x1066, rfl⟩ : ∃ z, z = o1269 := ⟨_, rfl⟩
        rintro e s ⟨rfl, rfl⟩
        refine AWp.seq ?_
        refine AWp.seq ?_
        refine reg hP hn hm [] [0, 14, 17] [0] ⟨[(0, .own 0), (14, iV .i64 x1066), (17, iV .i64 a2)], [(0, some (.row 2 67 (a0.map eLabel)))], 1⟩ [] (by kernel_rfl) trivial ?_
        refine AWp.block ?_
        obtain ⟨o1273, e1274, H⟩ := bind_of H
        refine AWp.loop (LWp.conv (inv := [(0, 0)]) (vk := []) (e0 := []) (t := ⟨[(0, .own 0), (14, iV .i64 x1066), (17, iV .i64 a2)], [(0, some (.row 2 67 (a0.map eLabel)))], 1⟩) (by kernel_rfl) ?_)
        refine LWp.mono (Q := fun e s => (match (generalizing := false) o1273 with | x1107 => e = .exit 6 ∧ s = ⟨[], [(0, some (.row 2 67 (x1107.map eLabel)))], 1⟩)) (LWp.cv (withBody (fun body hbody => ?_))) ?_
        · refine f_slices_symMergeCmpFunc_api_Label_label_Make_2.l3.partial_correctness x1066 (motive := fun x1086 x1087 o1273 => LWp Γ body (fun e s => ∃ t, Cv Γ s t ∧ (match (generalizing := false) o1273 with | x1107 => e = .exit 6 ∧ t = ⟨[], [(0, some (.row 2 67 (x1107.map eLabel)))], 1⟩)) ⟨[(0, .own 0), (14, iV .i64 x1066), (17, iV .i64 x1087)], [(0, some (.row 2 67 (x1086.map eLabel)))], 1⟩) ?_ _ _ _ e1274
          clear H e1274 o1273; intro self ih x1086 x1087 o1273 H
          subst hbody
          refine LWp.round ?_
          refine AWp.seq ?_
          refine AWp.seq ?_
          refine reg hP hn hm [] [0, 14, 17, 110] [0] ⟨[(0, .own 0), (14, iV .i64 x1066), (17, iV .i64 x1087), (110, bV (decide (x1087 > x1066)))], [(0, some (.row 2 67 (x1086.map eLabel)))], 1⟩ [] (by kernel_rfl) trivial ?_
          refine AWp.cond (decide (x1087 > x1066)) rfl (fun c1088 => ?_) (fun c1088 => ?_)
          · replace H := (ifT c1088).symm.trans H
            refine AWp.skip ?_
            refine AWp.seq ?_
            refine AWp.block ?_
            obtain ⟨b1098, p1099, q1100, H⟩ := at_of H
            obtain ⟨b1101, p1102, q1103, H⟩ := at_of H
            obtain ⟨b1104, p1105, q1106, H⟩ := at_of H
            refine reg hP hn hm [(9, .c (eLabel b1098)), (13, .c (eLabel b1101)), (15, .put (eLabel b1101) ((x1086.set (Int.toNat (x1087)) b1098).map eLabel)), (17, .put (eLabel b1104) (((x1086.set (Int.toNat (x1087)) b1098).set (Int.toNat (IntKind.i64.wrap (x1087 - (1 : Int)))) b1101).map eLabel))] [0, 14, 17] [0] ⟨[(0, .own 0), (14, iV .i64 x1066), (17, iV .i64 x1087)], [(0, some (.row 2 67 (((x1086.set (Int.toNat (x1087)) b1098).set (Int.toNat (IntKind.i64.wrap (x1087 - (1 : Int)))) b1101).map eLabel)))], 1⟩ [0 ≤ (IntKind.i64.wrap (x1087 - (1 : Int))), IntKind.i64.wrap (x1087 - (1 : Int)) < (((x1086.map eLabel).length : Nat) : Int), (x1086.map eLabel)[(Int.toNat (IntKind.i64.wrap (x1087 - (1 : Int))))]? = some (eLabel b1098), 0 ≤ x1087, x1087 < (((x1086.map eLabel).length : Nat) : Int), (x1086.map eLabel)[(Int.toNat (x1087))]? = some (eLabel b1101), 0 ≤ x1087, x1087 < (((x1086.map eLabel).length : Nat) : Int), (x1086.map eLabel)[(Int.toNat (x1087))]? = some (eLabel b1101), (x1086.set (Int.toNat (x1087)) b1098).map eLabel = (x1086.map eLabel).set (Int.toNat (x1087)) (splice (eLabel b1101) 0 [sI b1098.f0, sI b1098.f1]), 0 ≤ (IntKind.i64.wrap (x1087 - (1 : Int))), IntKind.i64.wrap (x1087 - (1 : Int)) < ((((x1086.set (Int.toNat (x1087)) b1098).map eLabel).length : Nat) : Int), ((x1086.set (Int.toNat (x1087)) b1098).map eLabel)[(Int.toNat (IntKind.i64.wrap (x1087 - (1 : Int))))]? = some (eLabel b1104), ((x1086.set (Int.toNat (x1087)) b1098).set (Int.toNat (IntKind.i64.wrap (x1087 - (1 : Int)))) b1101).map eLabel = ((x1086.set (Int.toNat (x1087)) b1098).map eLabel).set (Int.toNat (IntKind.i64.wrap (x1087 - (1 : Int)))) (splice (eLabel b1104) 0 [sI b1101.f0, sI b1101.f1])] (by kernel_rfl) ⟨by exact p1099, by exact el_lt eLabel p1099 q1100, by exact el_map eLabel q1100, by exact p1102, by exact el_lt eLabel p1102 q1103, by exact el_map eLabel q1103, by exact p1102, by exact el_lt eLabel p1102 q1103, by exact el_map eLabel q1103, by exact set1 _ _ _ _, by exact p1105, by exact el_lt eLabel p1105 q1106, by exact el_map eLabel q1106, by exact set1 _ _ _ _, trivial⟩ ?_
            refine reg hP hn hm [] [0, 14, 17] [0] ⟨[(0, .own 0), (14, iV .i64 x1066), (17, iV .i64 (IntKind.i64.wrap (x1087 - (1 : Int))))], [(0, some (.row 2 67 (((x1086.set (Int.toNat (x1087)) b1098).set (Int.toNat (IntKind.i64.wrap (x1087 - (1 : Int)))) b1101).map eLabel)))], 1⟩ [] (by kernel_rfl) trivial ?_
            exact LWp.conv (inv := [(0, 0)]) (vk := []) (e0 := []) (t := ⟨[(0, .own 0), (14, iV .i64 x1066), (17, iV .i64 (IntKind.i64.wrap (x1087 - (1 : Int))))], [(0, some (.row 2 67 (((x1086.set (Int.toNat (x1087)) b1098).set (Int.toNat (IntKind.i64.wrap (x1087 - (1 : Int)))) b1101).map eLabel)))], 1⟩) (by kernel_rfl) (ih _ _ _ H)
          · replace H := (ifF c1088).symm.trans H
            refine AWp.exit ?_
            obtain rfl := Option.some.inj H
            exact Exists.intro _ (And.intro (fun _ _ h => h.conv (inv := [(0, 0)]) (vk := []) (e0 := []) (t := ⟨[], [(0, some (.row 2 67 (x1086.map eLabel)))], 1⟩) (by kernel_rfl)) (And.intro rfl rfl))
        · obtain ⟨x1107, rfl⟩ : ∃ z, z = o1273 := ⟨_, rfl⟩
          rintro e s ⟨rfl, rfl⟩
          refine AWp.conv (inv := [(0, 0)]) (vk := []) (e0 := []) (t := ⟨[], [(0, some (.row 2 67 (x1107.map eLabel)))], 1⟩) (by kernel_rfl) ?_
          refine AWp.ret ?_
          obtain rfl := Option.some.inj H
          exact Exists.intro _ (And.intro (fun _ _ h => h) (And.intro (.inl rfl) (And.intro rfl (And.intro (by kernel_rfl) (by kernel_rfl)))))
    · replace H := (ifF c1023).symm.trans H
      refine AWp.skip ?_
      refine AWp.seq ?_
      refine reg hP hn hm [] [0, 1, 2, 3, 4, 18] [0] ⟨[(0, .own 0), (1, iV .i64 a1), (2, iV .i64 a2), (3, iV .i64 a3), (4, .im (.sc (.func (.func 73) #[] #[]))), (18, iV .i64 (IntKind.i64.wrap (Int.fdiv (IntKind.u64.wrap (IntKind.i64.wrap (a1 + a3))) 2)))], [(0, some (.row 2 67 (a0.map eLabel)))], 1⟩ [(0 : Int) ≤ 1] (by kernel_rfl) ⟨by decide, trivial⟩ ?_
      refine AWp.seq ?_
      refine reg hP hn hm [] [0, 1, 2, 3, 4, 18, 19] [0] ⟨[(0, .own 0), (1, iV .i64 a1), (2, iV .i64 a2), (3, iV .i64 a3), (4, .im (.sc (.func (.func 73) #[] #[]))), (18, iV .i64 (IntKind.i64.wrap (Int.fdiv (IntKind.u64.wrap (IntKind.i64.wrap (a1 + a3))) 2))), (19, iV .i64 (IntKind.i64.wrap ((IntKind.i64.wrap (Int.fdiv (IntKind.u64.wrap (IntKind.i64.wrap (a1 + a3))) 2)) + a2)))], [(0, some (.row 2 67 (a0.map eLabel)))], 1⟩ [] (by kernel_rfl) trivial ?_
      refine AWp.seq ?_
      refine reg hP hn hm [] [0, 1, 2, 3, 4, 18, 19] [0] ⟨[(0, .own 0), (1, iV .i64 a1), (2, iV .i64 a2), (3, iV .i64 a3), (4, .im (.sc (.func (.func 73) #[] #[]))), (18, iV .i64 (IntKind.i64.wrap (Int.fdiv (IntKind.u64.wrap (IntKind.i64.wrap (a1 + a3))) 2))), (19, iV .i64 (IntKind.i64.wrap ((IntKind.i64.wrap (Int.fdiv (IntKind.u64.wrap (IntKind.i64.wrap (a1 + a3))) 2)) + a2)))], [(0, some (.row 2 67 (a0.map eLabel)))], 1⟩ [] (by kernel_rfl) trivial ?_
      refine AWp.seq ?_
      refine AWp.seq ?_
      refine reg hP hn hm [] [0, 1, 2, 3, 4, 18, 19, 140] [0] ⟨[(0, .own 0), (1, iV .i64 a1), (2, iV .i64 a2), (3, iV .i64 a3), (4, .im (.sc (.func (.func 73) #[] #[]))), (18, iV .i64 (IntKind.i64.wrap (Int.fdiv (IntKind.u64.wrap (IntKind.i64.wrap (a1 + a3))) 2))), (19, iV .i64 (IntKind.i64.wrap ((IntKind.i64.wrap (Int.fdiv (IntKind.u64.wrap (IntKind.i64.wrap (a1 + a3))) 2)) + a2))), (140, bV (decide (a2 > (IntKind.i64.wrap (Int.fdiv (IntKind.u64.wrap (IntKind.i64.wrap (a1 + a3))) 2)))))], [(0, some (.row 2 67 (a0.map eLabel)))], 1⟩ [] (by kernel_rfl) trivial ?_
      obtain ⟨o1275, e1276, H⟩ := bind_of H
      refine AWp.mono (Q := fun e s => (match (generalizing := false) o1275 with | (x1109, x1110) => e = .normal ∧ s = ⟨[(0, .own 0), (1, iV .i64 a1), (2, iV .i64 a2), (3, iV .i64 a3), (4, .im (.sc (.func (.func 73) #[] #[]))), (18, iV .i64 (IntKind.i64.wrap (Int.fdiv (IntKind.u64.wrap (IntKind.i64.wrap (a1 + a3))) 2))), (19, iV .i64 (IntKind.i64.wrap ((IntKind.i64.wrap (Int.fdiv (IntKind.u64.wrap (IntKind.i64.wrap (a1 + a3))) 2)) + a2))), (20, iV .i64 x1109), (21, iV .i64 x1110)], [(0, some (.row 2 67 (a0.map eLabel)))], 1⟩)) (AWp.cv ?_) ?_
      · replace H := e1276; clear e1276
        refine AWp.cond (decide (a2 > (IntKind.i64.wrap (Int.fdiv (IntKind.u64.wrap (IntKind.i64.wrap (a1 + a3))) 2)))) rfl (fun c1108 => ?_) (fun c1108 => ?_)
        · replace H := (ifT c1108).symm.trans H
          refine AWp.seq ?_
          refine reg hP hn hm [] [0, 1, 2, 3, 4, 18, 19, 20] [0] ⟨[(0, .own 0), (1, iV .i64 a1), (2, iV .i64 a2), (3, iV .i64 a3), (4, .im (.sc (.func (.func 73) #[] #[]))), (18, iV .i64 (IntKind.i64.wrap (Int.fdiv (IntKind.u64.wrap (IntKind.i64.wrap (a1 + a3))) 2))), (19, iV .i64 (IntKind.i64.wrap ((IntKind.i64.wrap (Int.fdiv (IntKind.u64.wrap (IntKind.i64.wrap (a1 + a3))) 2)) + a2))), (20, iV .i64 (IntKind.i64.wrap ((IntKind.i64.wrap ((IntKind.i64.wrap (Int.fdiv (IntKind.u64.wrap (IntKind.i64.wrap (a1 + a3))) 2)) + a2)) - a3)))], [(0, some (.row 2 67 (a0.map eLabel)))], 1⟩ [] (by kernel_rfl) trivial ?_
          refine reg hP hn hm [] [0, 1, 2, 3, 4, 18, 19, 20, 21] [0] ⟨[(0, .own 0), (1, iV .i64 a1), (2, iV .i64 a2), (3, iV .i64 a3), (4, .im (.sc (.func (.func 73) #[] #[]))), (18, iV .i64 (IntKind.i64.wrap (Int.fdiv (IntKind.u64.wrap (IntKind.i64.wrap (a1 + a3))) 2))), (19, iV .i64 (IntKind.i64.wrap ((IntKind.i64.wrap (Int.fdiv (IntKind.u64.wrap (IntKind.i64.wrap (a1 + a3))) 2)) + a2))), (20, iV .i64 (IntKind.i64.wrap ((IntKind.i64.wrap ((IntKind.i64.wrap (Int.fdiv (IntKind.u64.wrap (IntKind.i64.wrap (a1 + a3))) 2)) + a2)) - a3))), (21, iV .i64 (IntKind.i64.wrap (Int.fdiv (IntKind.u64.wrap (IntKind.i64.wrap (a1 + a3))) 2)))], [(0, some (.row 2 67 (a0.map eLabel)))], 1⟩ [] (by kernel_rfl) trivial ?_
          obtain rfl := Option.some.inj H
          exact Exists.intro _ (And.intro (fun _ _ h => h.conv (inv := [(0, 0)]) (vk := []) (e0 := []) (t := ⟨[(0, .own 0), (1, iV .i64 a1), (2, iV .i64 a2), (3, iV .i64 a3), (4, .im (.sc (.func (.func 73) #[] #[]))), (18, iV .i64 (IntKind.i64.wrap (Int.fdiv (IntKind.u64.wrap (IntKind.i64.wrap (a1 + a3))) 2))), (19, iV .i64 (IntKind.i64.wrap ((IntKind.i64.wrap (Int.fdiv (IntKind.u64.wrap (IntKind.i64.wrap (a1 + a3))) 2)) + a2))), (20, iV .i64 (IntKind.i64.wrap ((IntKind.i64.wrap ((IntKind.i64.wrap (Int.fdiv (IntKind.u64.wrap (IntKind.i64.wrap (a1 + a3))) 2)) + a2)) - a3))), (21, iV .i64 (IntKind.i64.wrap (Int.fdiv (IntKind.u64.wrap (IntKind.i64.wrap (a1 + a3))) 2)))], [(0, some (.row 2 67 (a0.map eLabel)))], 1⟩) (by kernel_rfl)) (And.intro rfl rfl))
        · replace H := (ifF c1108).symm.trans H
          refine AWp.seq ?_
          refine reg hP hn hm [] [0, 1, 2, 3, 4, 18, 19, 20] [0] ⟨[(0, .own 0), (1, iV .i64 a1), (2, iV .i64 a2), (3, iV .i64 a3), (4, .im (.sc (.func (.func 73) #[] #[]))), (18, iV .i64 (IntKind.i64.wrap (Int.fdiv (IntKind.u64.wrap (IntKind.i64.wrap (a1 + a3))) 2))), (19, iV .i64 (IntKind.i64.wrap ((IntKind.i64.wrap (Int.fdiv (IntKind.u64.wrap (IntKind.i64.wrap (a1 + a3))) 2)) + a2))), (20, iV .i64 a1)], [(0, some (.row 2 67 (a0.map eLabel)))], 1⟩ [] (by kernel_rfl) trivial ?_
          refine reg hP hn hm [] [0, 1, 2, 3, 4, 18, 19, 20, 21] [0] ⟨[(0, .own 0), (1, iV .i64 a1), (2, iV .i64 a2), (3, iV .i64 a3), (4, .im (.sc (.func (.func 73) #[] #[]))), (18, iV .i64 (IntKind.i64.wrap (Int.fdiv (IntKind.u64.wrap (IntKind.i64.wrap (a1 + a3))) 2))), (19, iV .i64 (IntKind.i64.wrap ((IntKind.i64.wrap (Int.fdiv (IntKind.u64.wrap (IntKind.i64.wrap (a1 + a3))) 2)) + a2))), (20, iV .i64 a1), (21, iV .i64 a2)], [(0, some (.row 2 67 (a0.map eLabel)))], 1⟩ [] (by kernel_rfl) trivial ?_
          obtain rfl := Option.some.inj H
          exact Exists.intro _ (And.intro (fun _ _ h => h.conv (inv := [(0, 0)]) (vk := []) (e0 := []) (t := ⟨[(0, .own 0), (1, iV .i64 a1), (2, iV .i64 a2), (3, iV .i64 a3), (4, .im (.sc (.func (.func 73) #[] #[]))), (18, iV .i64 (IntKind.i64.wrap (Int.fdiv (IntKind.u64.wrap (IntKind.i64.wrap (a1 + a3))) 2))), (19, iV .i64 (IntKind.i64.wrap ((IntKind.i64.wrap (Int.fdiv (IntKind.u64.wrap (IntKind.i64.wrap (a1 + a3))) 2)) + a2))), (20, iV .i64 a1), (21, iV .i64 a2)], [(0, some (.row 2 67 (a0.map eLabel)))], 1⟩) (by kernel_rfl)) (And.intro rfl rfl))
      · obtain ⟨x1109, x1110⟩ := o1275
        rintro e s ⟨rfl, rfl⟩
        refine AWp.seq ?_
        refine reg hP hn hm [] [0, 1, 2, 3, 4, 18, 19, 20, 21, 22] [0] ⟨[(0, .own 0), (1, iV .i64 a1), (2, iV .i64 a2), (3, iV .i64 a3), (4, .im (.sc (.func (.func 73) #[] #[]))), (18, iV .i64 (IntKind.i64.wrap (Int.fdiv (IntKind.u64.wrap (IntKind.i64.wrap (a1 + a3))) 2))), (19, iV .i64 (IntKind.i64.wrap ((IntKind.i64.wrap (Int.fdiv (IntKind.u64.wrap (IntKind.i64.wrap (a1 + a3))) 2)) + a2))), (20, iV .i64 x1109), (21, iV .i64 x1110), (22, iV .i64 (IntKind.i64.wrap ((IntKind.i64.wrap ((IntKind.i64.wrap (Int.fdiv (IntKind.u64.wrap (IntKind.i64.wrap (a1 + a3))) 2)) + a2)) - (1 : Int))))], [(0, some (.row 2 67 (a0.map eLabel)))], 1⟩ [] (by kernel_rfl) trivial ?_
        refine AWp.seq ?_
        refine AWp.block ?_
        obtain ⟨o1277, e1278, H⟩ := bind_of H
        refine AWp.loop (LWp.conv (inv := [(0, 0)]) (vk := []) (e0 := []) (t := ⟨[(0, .own 0), (1, iV .i64 a1), (2, iV .i64 a2), (3, iV .i64 a3), (4, .im (.sc (.func (.func 73) #[] #[]))), (18, iV .i64 (IntKind.i64.wrap (Int.fdiv (IntKind.u64.wrap (IntKind.i64.wrap (a1 + a3))) 2))), (19, iV .i64 (IntKind.i64.wrap ((IntKind.i64.wrap (Int.fdiv (IntKind.u64.wrap (IntKind.i64.wrap (a1 + a3))) 2)) + a2))), (20, iV .i64 x1109), (21, iV .i64 x1110), (22, iV .i64 (IntKind.i64.wrap ((IntKind.i64.wrap ((IntKind.i64.wrap (Int.fdiv (IntKind.u64.wrap (IntKind.i64.wrap (a1 + a3))) 2)) + a2)) - (1 : Int))))], [(0, some (.row 2 67 (a0.map eLabel)))], 1⟩) (by kernel_rfl) ?_)
        refine LWp.mono (Q := fun e s => (match (generalizing := false) o1277 with | x1153 => e = .exit 8 ∧ s = ⟨[(0, .own 0), (1, iV .i64 a1), (2, iV .i64 a2), (3, iV .i64 a3), (4, .im (.sc (.func (.func 73) #[] #[]))), (18, iV .i64 (IntKind.i64.wrap (Int.fdiv (IntKind.u64.wrap (IntKind.i64.wrap (a1 + a3))) 2))), (19, iV .i64 (IntKind.i64.wrap ((IntKind.i64.wrap (Int.fdiv (IntKind.u64.wrap (IntKind.i64.wrap (a1 + a3))) 2)) + a2))), (20, iV .i64 x1153)], [(0, some (.row 2 67 (a0.map eLabel)))], 1⟩)) (LWp.cv (withBody (fun body hbody => ?_))) ?_
        · refine f_slices_symMergeCmpFunc_api_Label_label_Make_2.l4.partial_correctness a0 a1 a2 a3 (motive := fun x1131 x1132 o1277 => LWp Γ body (fun e s => ∃ t, Cv Γ s t ∧ (match (generalizing := false) o1277 with | x1153 => e = .exit 8 ∧ t = ⟨[(0, .own 0), (1, iV .i64 a1), (2, iV .i64 a2), (3, iV .i64 a3), (4, .im (.sc (.func (.func 73) #[] #[]))), (18, iV .i64 (IntKind.i64.wrap (Int.fdiv (IntKind.u64.wrap (IntKind.i64.wrap (a1 + a3))) 2))), (19, iV .i64 (IntKind.i64.wrap ((IntKind.i64.wrap (Int.fdiv (IntKind.u64.wrap (IntKind.i64.wrap (a1 + a3))) 2)) + a2))), (20, iV .i64 x1153)], [(0, some (.row 2 67 (a0.map eLabel)))], 1⟩)) ⟨[(0, .own 0), (1, iV .i64 a1), (2, iV .i64 a2), (3, iV .i64 a3), (4, .im (.sc (.func (.func 73) #[] #[]))), (18, iV .i64 (IntKind.i64.wrap (Int.fdiv (IntKind.u64.wrap (IntKind.i64.wrap (a1 + a3))) 2))), (19, iV .i64 (IntKind.i64.wrap ((IntKind.i64.wrap (Int.fdiv (IntKind.u64.wrap (IntKind.i64.wrap (a1 + a3))) 2)) + a2))), (20, iV .i64 x1131), (21, iV .i64 x1132), (22, iV .i64 (IntKind.i64.wrap ((IntKind.i64.wrap ((IntKind.i64.wrap (Int.fdiv (IntKind.u64.wrap (IntKind.i64.wrap (a1 + a3))) 2)) + a2)) - (1 : Int))))], [(0, some (.row 2 67 (a0.map eLabel)))], 1⟩) ?_ _ _ _ e1278
          clear H e1278 o1277; intro self ih x1131 x1132 o1277 H
          subst hbody
          refine LWp.round ?_
          refine AWp.seq ?_
          refine AWp.seq ?_
          refine reg hP hn hm [] [0, 1, 2, 3, 4, 18, 19, 20, 21, 22, 151] [0] ⟨[(0, .own 0), (1, iV .i64 a1), (2, iV .i64 a2), (3, iV .i64 a3), (4, .im (.sc (.func (.func 73) #[] #[]))), (18, iV .i64 (IntKind.i64.wrap (Int.fdiv (IntKind.u64.wrap (IntKind.i64.wrap (a1 + a3))) 2))), (19, iV .i64 (IntKind.i64.wrap ((IntKind.i64.wrap (Int.fdiv (IntKind.u64.wrap (IntKind.i64.wrap (a1 + a3))) 2)) + a2))), (20, iV .i64 x1131), (21, iV .i64 x1132), (22, iV .i64 (IntKind.i64.wrap ((IntKind.i64.wrap ((IntKind.i64.wrap (Int.fdiv (IntKind.u64.wrap (IntKind.i64.wrap (a1 + a3))) 2)) + a2)) - (1 : Int)))), (151, bV (decide (x1131 < x1132)))], [(0, some (.row 2 67 (a0.map eLabel)))], 1⟩ [] (by kernel_rfl) trivial ?_
          refine AWp.cond (decide (x1131 < x1132)) rfl (fun c1133 => ?_) (fun c1133 => ?_)
          · replace H := (ifT c1133).symm.trans H
            refine AWp.skip ?_
            refine AWp.block ?_
            refine AWp.seq ?_
            refine reg hP hn hm [] [0, 1, 2, 3, 4, 18, 19, 20, 21, 22, 23] [0] ⟨[(0, .own 0), (1, iV .i64 a1), (2, iV .i64 a2), (3, iV .i64 a3), (4, .im (.sc (.func (.func 73) #[] #[]))), (18, iV .i64 (IntKind.i64.wrap (Int.fdiv (IntKind.u64.wrap (IntKind.i64.wrap (a1 + a3))) 2))), (19, iV .i64 (IntKind.i64.wrap ((IntKind.i64.wrap (Int.fdiv (IntKind.u64.wrap (IntKind.i64.wrap (a1 + a3))) 2)) + a2))), (20, iV .i64 x1131), (21, iV .i64 x1132), (22, iV .i64 (IntKind.i64.wrap ((IntKind.i64.wrap ((IntKind.i64.wrap (Int.fdiv (IntKind.u64.wrap (IntKind.i64.wrap (a1 + a3))) 2)) + a2)) - (1 : Int)))), (23, iV .i64 (IntKind.i64.wrap (Int.fdiv (IntKind.u64.wrap (IntKind.i64.wrap (x1131 + x1132))) 2)))], [(0, some (.row 2 67 (a0.map eLabel)))], 1⟩ [(0 : Int) ≤ 1] (by kernel_rfl) ⟨by decide, trivial⟩ ?_
            refine AWp.seq ?_
            obtain ⟨b1142, p1143, q1144, H⟩ := at_of H
            obtain ⟨b1145, p1146, q1147, H⟩ := at_of H
            obtain ⟨t1148, e1149, H⟩ := bind_of H
            refine reg hP hn hm [(6, .c (eLabel b1142)), (10, .c (eLabel b1145)), (11, .call [] [] [] [] 0 (iV .i64 t1148) [])] [0, 1, 2, 3, 4, 18, 19, 20, 21, 22, 23, 171] [0] ⟨[(0, .own 0), (1, iV .i64 a1), (2, iV .i64 a2), (3, iV .i64 a3), (4, .im (.sc (.func (.func 73) #[] #[]))), (18, iV .i64 (IntKind.i64.wrap (Int.fdiv (IntKind.u64.wrap (IntKind.i64.wrap (a1 + a3))) 2))), (19, iV .i64 (IntKind.i64.wrap ((IntKind.i64.wrap (Int.fdiv (IntKind.u64.wrap (IntKind.i64.wrap (a1 + a3))) 2)) + a2))), (20, iV .i64 x1131), (21, iV .i64 x1132), (22, iV .i64 (IntKind.i64.wrap ((IntKind.i64.wrap ((IntKind.i64.wrap (Int.fdiv (IntKind.u64.wrap (IntKind.i64.wrap (a1 + a3))) 2)) + a2)) - (1 : Int)))), (23, iV .i64 (IntKind.i64.wrap (Int.fdiv (IntKind.u64.wrap (IntKind.i64.wrap (x1131 + x1132))) 2))), (171, bV (!(decide (t1148 < (0 : Int)))))], [(0, some (.row 2 67 (a0.map eLabel)))], 1⟩ [0 ≤ (IntKind.i64.wrap ((IntKind.i64.wrap ((IntKind.i64.wrap ((IntKind.i64.wrap (Int.fdiv (IntKind.u64.wrap (IntKind.i64.wrap (a1 + a3))) 2)) + a2)) - (1 : Int))) - (IntKind.i64.wrap (Int.fdiv (IntKind.u64.wrap (IntKind.i64.wrap (x1131 + x1132))) 2)))), IntKind.i64.wrap ((IntKind.i64.wrap ((IntKind.i64.wrap ((IntKind.i64.wrap (Int.fdiv (IntKind.u64.wrap (IntKind.i64.wrap (a1 + a3))) 2)) + a2)) - (1 : Int))) - (IntKind.i64.wrap (Int.fdiv (IntKind.u64.wrap (IntKind.i64.wrap (x1131 + x1132))) 2))) < (((a0.map eLabel).length : Nat) : Int), (a0.map eLabel)[(Int.toNat (IntKind.i64.wrap ((IntKind.i64.wrap ((IntKind.i64.wrap ((IntKind.i64.wrap (Int.fdiv (IntKind.u64.wrap (IntKind.i64.wrap (a1 + a3))) 2)) + a2)) - (1 : Int))) - (IntKind.i64.wrap (Int.fdiv (IntKind.u64.wrap (IntKind.i64.wrap (x1131 + x1132))) 2)))))]? = some (eLabel b1142), 0 ≤ (IntKind.i64.wrap (Int.fdiv (IntKind.u64.wrap (IntKind.i64.wrap (x1131 + x1132))) 2)), IntKind.i64.wrap (Int.fdiv (IntKind.u64.wrap (IntKind.i64.wrap (x1131 + x1132))) 2) < (((a0.map eLabel).length : Nat) : Int), (a0.map eLabel)[(Int.toNat (IntKind.i64.wrap (Int.fdiv (IntKind.u64.wrap (IntKind.i64.wrap (x1131 + x1132))) 2)))]? = some (eLabel b1145), Enters Try.prog 73, Pv.Fn Try.prog 73 [.agg (aLabel b1142), .agg (aLabel b1145)] [] 0 (fun r o => r = iV .i64 t1148 ∧ o = [])] (by kernel_rfl) ⟨by exact p1143, by exact el_lt eLabel p1143 q1144, by exact el_map eLabel q1144, by exact p1146, by exact el_lt eLabel p1146 q1147, by exact el_map eLabel q1147, by exact Try.call73, by exact f_label_Make_2.ok b1142 b1145 t1148 e1149, trivial⟩ ?_
            obtain ⟨o1279, e1280, H⟩ := bind_of H
            refine AWp.mono (Q := fun e s => (match (generalizing := false) o1279 with | (x1151, x1152) => e = .normal ∧ s = ⟨[(0, .own 0), (1, iV .i64 a1), (2, iV .i64 a2), (3, iV .i64 a3), (4, .im (.sc (.func (.func 73) #[] #[]))), (18, iV .i64 (IntKind.i64.wrap (Int.fdiv (IntKind.u64.wrap (IntKind.i64.wrap (a1 + a3))) 2))), (19, iV .i64 (IntKind.i64.wrap ((IntKind.i64.wrap (Int.fdiv (IntKind.u64.wrap (IntKind.i64.wrap (a1 + a3))) 2)) + a2))), (20, iV .i64 x1151), (21, iV .i64 x1152), (22, iV .i64 (IntKind.i64.wrap ((IntKind.i64.wrap ((IntKind.i64.wrap (Int.fdiv (IntKind.u64.wrap (IntKind.i64.wrap (a1 + a3))) 2)) + a2)) - (1 : Int))))], [(0, some (.row 2 67 (a0.map eLabel)))], 1⟩)) (AWp.cv ?_) ?_
            · replace H := e1280; clear e1280
              refine AWp.cond (!(decide (t1148 < (0 : Int)))) rfl (fun c1150 => ?_) (fun c1150 => ?_)
              · replace H := (ifT c1150).symm.trans H
                refine reg hP hn hm [] [0, 1, 2, 3, 4, 18, 19, 20, 21, 22] [0] ⟨[(0, .own 0), (1, iV .i64 a1), (2, iV .i64 a2), (3, iV .i64 a3), (4, .im (.sc (.func (.func 73) #[] #[]))), (18, iV .i64 (IntKind.i64.wrap (Int.fdiv (IntKind.u64.wrap (IntKind.i64.wrap (a1 + a3))) 2))), (19, iV .i64 (IntKind.i64.wrap ((IntKind.i64.wrap (Int.fdiv (IntKind.u64.wrap (IntKind.i64.wrap (a1 + a3))) 2)) + a2))), (20, iV .i64 (IntKind.i64.wrap ((IntKind.i64.wrap (Int.fdiv (IntKind.u64.wrap (IntKind.i64.wrap (x1131 + x1132))) 2)) + (1 : Int)))), (21, iV .i64 x1132), (22, iV .i64 (IntKind.i64.wrap ((IntKind.i64.wrap ((IntKind.i64.wrap (Int.fdiv (IntKind.u64.wrap (IntKind.i64.wrap (a1 + a3))) 2)) + a2)) - (1 : Int))))], [(0, some (.row 2 67 (a0.map eLabel)))], 1⟩ [] (by kernel_rfl) trivial ?_
                obtain rfl := Option.some.inj H
                exact Exists.intro _ (And.intro (fun _ _ h => h.conv (inv := [(0, 0)]) (vk := []) (e0 := []) (t := ⟨[(0, .own 0), (1, iV .i64 a1), (2, iV .i64 a2), (3, iV .i64 a3), (4, .im (.sc (.func (.func 73) #[] #[]))), (18, iV .i64 (IntKind.i64.wrap (Int.fdiv (IntKind.u64.wrap (IntKind.i64.wrap (a1 + a3))) 2))), (19, iV .i64 (IntKind.i64.wrap ((IntKind.i64.wrap (Int.fdiv (IntKind.u64.wrap (IntKind.i64.wrap (a1 + a3))) 2)) + a2))), (20, iV .i64 (IntKind.i64.wrap ((IntKind.i64.wrap (Int.fdiv (IntKind.u64.wrap (IntKind.i64.wrap (x1131 + x1132))) 2)) + (1 : Int)))), (21, iV .i64 x1132), (22, iV .i64 (IntKind.i64.wrap ((IntKind.i64.wrap ((IntKind.i64.wrap (Int.fdiv (IntKind.u64.wrap (IntKind.i64.wrap (a1 + a3))) 2)) + a2)) - (1 : Int))))], [(0, some (.row 2 67 (a0.map eLabel)))], 1⟩) (by kernel_rfl)) (And.intro rfl rfl))
              · replace H := (ifF c1150).symm.trans H
                refine reg hP hn hm [] [0, 1, 2, 3, 4, 18, 19, 20, 21, 22] [0] ⟨[(0, .own 0), (1, iV .i64 a1), (2, iV .i64 a2), (3, iV .i64 a3), (4, .im (.sc (.func (.func 73) #[] #[]))), (18, iV .i64 (IntKind.i64.wrap (Int.fdiv (IntKind.u64.wrap (IntKind.i64.wrap (a1 + a3))) 2))), (19, iV .i64 (IntKind.i64.wrap ((IntKind.i64.wrap (Int.fdiv (IntKind.u64.wrap (IntKind.i64.wrap (a1 + a3))) 2)) + a2))), (20, iV .i64 x1131), (21, iV .i64 (IntKind.i64.wrap (Int.fdiv (IntKind.u64.wrap (IntKind.i64.wrap (x1131 + x1132))) 2))), (22, iV .i64 (IntKind.i64.wrap ((IntKind.i64.wrap ((IntKind.i64.wrap (Int.fdiv (IntKind.u64.wrap (IntKind.i64.wrap (a1 + a3))) 2)) + a2)) - (1 : Int))))], [(0, some (.row 2 67 (a0.map eLabel)))], 1⟩ [] (by kernel_rfl) trivial ?_
                obtain rfl := Option.some.inj H
                exact Exists.intro _ (And.intro (fun _ _ h => h.conv (inv := [(0, 0)]) (vk := []) (e0 := []) (t := ⟨[(0, .own 0), (1, iV .i64 a1), (2, iV .i64 a2), (3, iV .i64 a3), (4, .im (.sc (.func (.func 73) #[] #[]))), (18, iV .i64 (IntKind.i64.wrap (Int.fdiv (IntKind.u64.wrap (IntKind.i64.wrap (a1 + a3))) 2))), (19, iV .i64 (IntKind.i64.wrap ((IntKind.i64.wrap (Int.fdiv (IntKind.u64.wrap (IntKind.i64.wrap (a1 + a3))) 2)) + a2))), (20, iV .i64 x1131), (21, iV .i64 (IntKind.i64.wrap (Int.fdiv (IntKind.u64.wrap (IntKind.i64.wrap (x1131 + x1132))) 2))), (22, iV .i64 (IntKind.i64.wrap ((IntKind.i64.wrap ((IntKind.i64.wrap (Int.fdiv (IntKind.u64.wrap (IntKind.i64.wrap (a1 + a3))) 2)) + a2)) - (1 : Int))))], [(0, some (.row 2 67 (a0.map eLabel)))], 1⟩) (by kernel_rfl)) (And.intro rfl rfl))
            · obtain ⟨x1151, x1152⟩ := o1279
              rintro e s ⟨rfl, rfl⟩
              exact LWp.conv (inv := [(0, 0)]) (vk := []) (e0 := []) (t := ⟨[(0, .own 0), (1, iV .i64 a1), (2, iV .i64 a2), (3, iV .i64 a3), (4, .im (.sc (.func (.func 73) #[] #[]))), (18, iV .i64 (IntKind.i64.wrap (Int.fdiv (IntKind.u64.wrap (IntKind.i64.wrap (a1 + a3))) 2))), (19, iV .i64 (IntKind.i64.wrap ((IntKind.i64.wrap (Int.fdiv (IntKind.u64.wrap (IntKind.i64.wrap (a1 + a3))) 2)) + a2))), (20, iV .i64 x1151), (21, iV .i64 x1152), (22, iV .i64 (IntKind.i64.wrap ((IntKind.i64.wrap ((IntKind.i64.wrap (Int.fdiv (IntKind.u64.wrap (IntKind.i64.wrap (a1 + a3))) 2)) + a2)) - (1 : Int))))], [(0, some (.row 2 67 (a0.map eLabel)))], 1⟩) (by kernel_rfl) (ih _ _ _ H)
          · replace H := (ifF c1133).symm.trans H
            refine AWp.exit ?_
            obtain rfl := Option.some.inj H
            exact Exists.intro _ (And.intro (fun _ _ h => h.conv (inv := [(0, 0)]) (vk := []) (e0 := []) (t := ⟨[(0, .own 0), (1, iV .i64 a1), (2, iV .i64 a2), (3, iV .i64 a3), (4, .im (.sc (.func (.func 73) #[] #[]))), (18, iV .i64 (IntKind.i64.wrap (Int.fdiv (IntKind.u64.wrap (IntKind.i64.wrap (a1 + a3))) 2))), (19, iV .i64 (IntKind.i64.wrap ((IntKind.i64.wrap (Int.fdiv (IntKind.u64.wrap (IntKind.i64.wrap (a1 + a3))) 2)) + a2))), (20, iV .i64 x1131)], [(0, some (.row 2 67 (a0.map eLabel)))], 1⟩) (by kernel_rfl)) (And.intro rfl rfl))
        · obtain ⟨x1153, rfl⟩ : ∃ z, z = o1277 := ⟨_, rfl⟩
          rintro e s ⟨rfl, rfl⟩
          refine AWp.seq ?_
          refine reg hP hn hm [] [0, 1, 2, 3, 4, 18, 20, 24] [0] ⟨[(0, .own 0), (1, iV .i64 a1), (2, iV .i64 a2), (3, iV .i64 a3), (4, .im (.sc (.func (.func 73) #[] #[]))), (18, iV .i64 (IntKind.i64.wrap (Int.fdiv (IntKind.u64.wrap (IntKind.i64.wrap (a1 + a3))) 2))), (20, iV .i64 x1153), (24, iV .i64 (IntKind.i64.wrap ((IntKind.i64.wrap ((IntKind.i64.wrap (Int.fdiv (IntKind.u64.wrap (IntKind.i64.wrap (a1 + a3))) 2)) + a2)) - x1153)))], [(0, some (.row 2 67 (a0.map eLabel)))], 1⟩ [] (by kernel_rfl) trivial ?_
          refine AWp.seq ?_
          refine AWp.seq ?_
          obtain ⟨o1281, e1282, H⟩ := bind_of H
          refine AWp.mono (Q := fun e s => (match (generalizing := false) o1281 with | x1156 => e = .normal ∧ s = ⟨[(0, .own 0), (1, iV .i64 a1), (2, iV .i64 a2), (3, iV .i64 a3), (4, .im (.sc (.func (.func 73) #[] #[]))), (18, iV .i64 (IntKind.i64.wrap (Int.fdiv (IntKind.u64.wrap (IntKind.i64.wrap (a1 + a3))) 2))), (20, iV .i64 x1153), (24, iV .i64 (IntKind.i64.wrap ((IntKind.i64.wrap ((IntKind.i64.wrap (Int.fdiv (IntKind.u64.wrap (IntKind.i64.wrap (a1 + a3))) 2)) + a2)) - x1153))), (185, bV x1156)], [(0, some (.row 2 67 (a0.map eLabel)))], 1⟩)) (AWp.cv ?_) ?_
          · replace H := e1282; clear e1282
            rcases Bool.eq_false_or_eq_true (decide (x1153 < a2)) with c1155 | c1155
            · replace H := (ifT c1155).symm.trans H
              refine reg hP hn hm [(3, .b true)] [0, 1, 2, 3, 4, 18, 20, 24, 185] [0] ⟨[(0, .own 0), (1, iV .i64 a1), (2, iV .i64 a2), (3, iV .i64 a3), (4, .im (.sc (.func (.func 73) #[] #[]))), (18, iV .i64 (IntKind.i64.wrap (Int.fdiv (IntKind.u64.wrap (IntKind.i64.wrap (a1 + a3))) 2))), (20, iV .i64 x1153), (24, iV .i64 (IntKind.i64.wrap ((IntKind.i64.wrap ((IntKind.i64.wrap (Int.fdiv (IntKind.u64.wrap (IntKind.i64.wrap (a1 + a3))) 2)) + a2)) - x1153))), (185, bV (decide (a2 < (IntKind.i64.wrap ((IntKind.i64.wrap ((IntKind.i64.wrap (Int.fdiv (IntKind.u64.wrap (IntKind.i64.wrap (a1 + a3))) 2)) + a2)) - x1153)))))], [(0, some (.row 2 67 (a0.map eLabel)))], 1⟩ [(decide (x1153 < a2)) = true] (by kernel_rfl) ⟨by exact c1155, trivial⟩ ?_
              obtain rfl := Option.some.inj H
              exact Exists.intro _ (And.intro (fun _ _ h => h.conv (inv := [(0, 0)]) (vk := []) (e0 := []) (t := ⟨[(0, .own 0), (1, iV .i64 a1), (2, iV .i64 a2), (3, iV .i64 a3), (4, .im (.sc (.func (.func 73) #[] #[]))), (18, iV .i64 (IntKind.i64.wrap (Int.fdiv (IntKind.u64.wrap (IntKind.i64.wrap (a1 + a3))) 2))), (20, iV .i64 x1153), (24, iV .i64 (IntKind.i64.wrap ((IntKind.i64.wrap ((IntKind.i64.wrap (Int.fdiv (IntKind.u64.wrap (IntKind.i64.wrap (a1 + a3))) 2)) + a2)) - x1153))), (185, bV (decide (a2 < (IntKind.i64.wrap ((IntKind.i64.wrap ((IntKind.i64.wrap (Int.fdiv (IntKind.u64.wrap (IntKind.i64.wrap (a1 + a3))) 2)) + a2)) - x1153)))))], [(0, some (.row 2 67 (a0.map eLabel)))], 1⟩) (by kernel_rfl)) (And.intro rfl rfl))
            · replace H := (ifF c1155).symm.trans H
              refine reg hP hn hm [(3, .b false)] [0, 1, 2, 3, 4, 18, 20, 24, 185] [0] ⟨[(0, .own 0), (1, iV .i64 a1), (2, iV .i64 a2), (3, iV .i64 a3), (4, .im (.sc (.func (.func 73) #[] #[]))), (18, iV .i64 (IntKind.i64.wrap (Int.fdiv (IntKind.u64.wrap (IntKind.i64.wrap (a1 + a3))) 2))), (20, iV .i64 x1153), (24, iV .i64 (IntKind.i64.wrap ((IntKind.i64.wrap ((IntKind.i64.wrap (Int.fdiv (IntKind.u64.wrap (IntKind.i64.wrap (a1 + a3))) 2)) + a2)) - x1153))), (185, bV false)], [(0, some (.row 2 67 (a0.map eLabel)))], 1⟩ [(decide (x1153 < a2)) = false] (by kernel_rfl) ⟨by exact c1155, trivial⟩ ?_
              obtain rfl := Option.some.inj H
              exact Exists.intro _ (And.intro (fun _ _ h => h.conv (inv := [(0, 0)]) (vk := []) (e0 := []) (t := ⟨[(0, .own 0), (1, iV .i64 a1), (2, iV .i64 a2), (3, iV .i64 a3), (4, .im (.sc (.func (.func 73) #[] #[]))), (18, iV .i64 (IntKind.i64.wrap (Int.fdiv (IntKind.u64.wrap (IntKind.i64.wrap (a1 + a3))) 2))), (20, iV .i64 x1153), (24, iV .i64 (IntKind.i64.wrap ((IntKind.i64.wrap ((IntKind.i64.wrap (Int.fdiv (IntKind.u64.wrap (IntKind.i64.wrap (a1 + a3))) 2)) + a2)) - x1153))), (185, bV false)], [(0, some (.row 2 67 (a0.map eLabel)))], 1⟩) (by kernel_rfl)) (And.intro rfl rfl))
          · obtain ⟨x1156, rfl⟩ : ∃ z, z = o1281 := ⟨_, rfl⟩
            rintro e s ⟨rfl, rfl⟩
            obtain ⟨o1283, e1284, H⟩ := bind_of H
            refine AWp.mono (Q := fun e s => (match (generalizing := false) o1283 with | x1244 => e = .normal ∧ s = ⟨[(0, .own 0), (1, iV .i64 a1), (3, iV .i64 a3), (4, .im (.sc (.func (.func 73) #[] #[]))), (18, iV .i64 (IntKind.i64.wrap (Int.fdiv (IntKind.u64.wrap (IntKind.i64.wrap (a1 + a3))) 2))), (20, iV .i64 x1153), (24, iV .i64 (IntKind.i64.wrap ((IntKind.i64.wrap ((IntKind.i64.wrap (Int.fdiv (IntKind.u64.wrap (IntKind.i64.wrap (a1 + a3))) 2)) + a2)) - x1153)))], [(0, some (.row 2 67 (x1244.map eLabel)))], 1⟩)) (AWp.cv ?_) ?_
            · replace H := e1284; clear e1284
              refine AWp.cond x1156 rfl (fun c1157 => ?_) (fun c1157 => ?_)
              · replace H := (ifT c1157).symm.trans H
                obtain ⟨t1242, e1243, H⟩ := bind_of H
                refine reg hP hn hm [(5, .call [(0, 0)] [(0, 0)] [] [] 1 (.tup []) [(0, some (.row 2 67 (t1242.map eLabel)))])] [0, 1, 3, 4, 18, 20, 24] [0] ⟨[(0, .own 0), (1, iV .i64 a1), (3, iV .i64 a3), (4, .im (.sc (.func (.func 73) #[] #[]))), (18, iV .i64 (IntKind.i64.wrap (Int.fdiv (IntKind.u64.wrap (IntKind.i64.wrap (a1 + a3))) 2))), (20, iV .i64 x1153), (24, iV .i64 (IntKind.i64.wrap ((IntKind.i64.wrap ((IntKind.i64.wrap (Int.fdiv (IntKind.u64.wrap (IntKind.i64.wrap (a1 + a3))) 2)) + a2)) - x1153)))], [(0, some (.row 2 67 (t1242.map eLabel)))], 1⟩ [Enters Try.prog 110, Pv.Fn Try.prog 110 [.own 0, iV .i64 x1153, iV .i64 a2, iV .i64 (IntKind.i64.wrap ((IntKind.i64.wrap ((IntKind.i64.wrap (Int.fdiv (IntKind.u64.wrap (IntKind.i64.wrap (a1 + a3))) 2)) + a2)) - x1153)), .im (.sc (.func (.func 73) #[] #[]))] [(0, some (.row 2 67 (a0.map eLabel)))] 1 (fun r o => r = .tup [] ∧ o = [(0, some (.row 2 67 (t1242.map eLabel)))])] (by kernel_rfl) ⟨by exact Try.call110, by exact f_slices_rotateCmpFunc_api_Label_label_Make_2.ok a0 x1153 a2 (IntKind.i64.wrap ((IntKind.i64.wrap ((IntKind.i64.wrap (Int.fdiv (IntKind.u64.wrap (IntKind.i64.wrap (a1 + a3))) 2)) + a2)) - x1153)) t1242 e1243, trivial⟩ ?_
                obtain rfl := Option.some.inj H
                exact Exists.intro _ (And.intro (fun _ _ h => h.conv (inv := [(0, 0)]) (vk := []) (e0 := []) (t := ⟨[(0, .own 0), (1, iV .i64 a1), (3, iV .i64 a3), (4, .im (.sc (.func (.func 73) #[] #[]))), (18, iV .i64 (IntKind.i64.wrap (Int.fdiv (IntKind.u64.wrap (IntKind.i64.wrap (a1 + a3))) 2))), (20, iV .i64 x1153), (24, iV .i64 (IntKind.i64.wrap ((IntKind.i64.wrap ((IntKind.i64.wrap (Int.fdiv (IntKind.u64.wrap (IntKind.i64.wrap (a1 + a3))) 2)) + a2)) - x1153)))], [(0, some (.row 2 67 (t1242.map eLabel)))], 1⟩) (by kernel_rfl)) (And.intro rfl rfl))
              · replace H := (ifF c1157).symm.trans H
                refine AWp.skip ?_
                obtain rfl := Option.some.inj H
                exact Exists.intro _ (And.intro (fun _ _ h => h.conv (inv := [(0, 0)]) (vk := []) (e0 := []) (t := ⟨[(0, .own 0), (1, iV .i64 a1), (3, iV .i64 a3), (4, .im (.sc (.func (.func 73) #[] #[]))), (18, iV .i64 (IntKind.i64.wrap (Int.fdiv (IntKind.u64.wrap (IntKind.i64.wrap (a1 + a3))) 2))), (20, iV .i64 x1153), (24, iV .i64 (IntKind.i64.wrap ((IntKind.i64.wrap ((IntKind.i64.wrap (Int.fdiv (IntKind.u64.wrap (IntKind.i64.wrap (a1 + a3))) 2)) + a2)) - x1153)))], [(0, some (.row 2 67 (a0.map eLabel)))], 1⟩) (by kernel_rfl)) (And.intro rfl rfl))
            · obtain ⟨x1244, rfl⟩ : ∃ z, z = o1283 := ⟨_, rfl⟩
              rintro e s ⟨rfl, rfl⟩
              refine AWp.seq ?_
              refine AWp.seq ?_
              obtain ⟨o1285, e1286, H⟩ := bind_of H
              refine AWp.mono (Q := fun e s => (match (generalizing := false) o1285 with | x1247 => e = .normal ∧ s = ⟨[(0, .own 0), (1, iV .i64 a1), (3, iV .i64 a3), (4, .im (.sc (.func (.func 73) #[] #[]))), (18, iV .i64 (IntKind.i64.wrap (Int.fdiv (IntKind.u64.wrap (IntKind.i64.wrap (a1 + a3))) 2))), (20, iV .i64 x1153), (24, iV .i64 (IntKind.i64.wrap ((IntKind.i64.wrap ((IntKind.i64.wrap (Int.fdiv (IntKind.u64.wrap (IntKind.i64.wrap (a1 + a3))) 2)) + a2)) - x1153))), (199, bV x1247)], [(0, some (.row 2 67 (x1244.map eLabel)))], 1⟩)) (AWp.cv ?_) ?_
              · replace H := e1286; clear e1286
                rcases Bool.eq_false_or_eq_true (decide (a1 < x1153)) with c1246 | c1246
                · replace H := (ifT c1246).symm.trans H
                  refine reg hP hn hm [(3, .b true)] [0, 1, 3, 4, 18, 20, 24, 199] [0] ⟨[(0, .own 0), (1, iV .i64 a1), (3, iV .i64 a3), (4, .im (.sc (.func (.func 73) #[] #[]))), (18, iV .i64 (IntKind.i64.wrap (Int.fdiv (IntKind.u64.wrap (IntKind.i64.wrap (a1 + a3))) 2))), (20, iV .i64 x1153), (24, iV .i64 (IntKind.i64.wrap ((IntKind.i64.wrap ((IntKind.i64.wrap (Int.fdiv (IntKind.u64.wrap (IntKind.i64.wrap (a1 + a3))) 2)) + a2)) - x1153))), (199, bV (decide (x1153 < (IntKind.i64.wrap (Int.fdiv (IntKind.u64.wrap (IntKind.i64.wrap (a1 + a3))) 2)))))], [(0, some (.row 2 67 (x1244.map eLabel)))], 1⟩ [(decide (a1 < x1153)) = true] (by kernel_rfl) ⟨by exact c1246, trivial⟩ ?_
                  obtain rfl := Option.some.inj H
                  exact Exists.intro _ (And.intro (fun _ _ h => h.conv (inv := [(0, 0)]) (vk := []) (e0 := []) (t := ⟨[(0, .own 0), (1, iV .i64 a1), (3, iV .i64 a3), (4, .im (.sc (.func (.func 73) #[] #[]))), (18, iV .i64 (IntKind.i64.wrap (Int.fdiv (IntKind.u64.wrap (IntKind.i64.wrap (a1 + a3))) 2))), (20, iV .i64 x1153), (24, iV .i64 (IntKind.i64.wrap ((IntKind.i64.wrap ((IntKind.i64.wrap (Int.fdiv (IntKind.u64.wrap (IntKind.i64.wrap (a1 + a3))) 2)) + a2)) - x1153))), (199, bV (decide (x1153 < (IntKind.i64.wrap (Int.fdiv (IntKind.u64.wrap (IntKind.i64.wrap (a1 + a3))) 2)))))], [(0, some (.row 2 67 (x1244.map eLabel)))], 1⟩) (by kernel_rfl)) (And.intro rfl rfl))
                · replace H := (ifF c1246).symm.trans H
                  refine reg hP hn hm [(3, .b false)] [0, 1, 3, 4, 18, 20, 24, 199] [0] ⟨[(0, .own 0), (1, iV .i64 a1), (3, iV .i64 a3), (4, .im (.sc (.func (.func 73) #[] #[]))), (18, iV .i64 (IntKind.i64.wrap (Int.fdiv (IntKind.u64.wrap (IntKind.i64.wrap (a1 + a3))) 2))), (20, iV .i64 x1153), (24, iV .i64 (IntKind.i64.wrap ((IntKind.i64.wrap ((IntKind.i64.wrap (Int.fdiv (IntKind.u64.wrap (IntKind.i64.wrap (a1 + a3))) 2)) + a2)) - x1153))), (199, bV false)], [(0, some (.row 2 67 (x1244.map eLabel)))], 1⟩ [(decide (a1 < x1153)) = false] (by kernel_rfl) ⟨by exact c1246, trivial⟩ ?_
                  obtain rfl := Option.some.inj H
                  exact Exists.intro _ (And.intro (fun _ _ h => h.conv (inv := [(0, 0)]) (vk := []) (e0 := []) (t := ⟨[(0, .own 0), (1, iV .i64 a1), (3, iV .i64 a3), (4, .im (.sc (.func (.func 73) #[] #[]))), (18, iV .i64 (IntKind.i64.wrap (Int.fdiv (IntKind.u64.wrap (IntKind.i64.wrap (a1 + a3))) 2))), (20, iV .i64 x1153), (24, iV .i64 (IntKind.i64.wrap ((IntKind.i64.wrap ((IntKind.i64.wrap (Int.fdiv (IntKind.u64.wrap (IntKind.i64.wrap (a1 + a3))) 2)) + a2)) - x1153))), (199, bV false)], [(0, some (.row 2 67 (x1244.map eLabel)))], 1⟩) (by kernel_rfl)) (And.intro rfl rfl))
              · obtain ⟨x1247, rfl⟩ : ∃ z, z = o1285 := ⟨_, rfl⟩
                rintro e s ⟨rfl, rfl⟩
                obtain ⟨o1287, e1288, H⟩ := bind_of H
                refine AWp.mono (Q := fun e s => (match (generalizing := false) o1287 with | x1253 => e = .normal ∧ s = ⟨[(0, .own 0), (3, iV .i64 a3), (4, .im (.sc (.func (.func 73) #[] #[]))), (18, iV .i64 (IntKind.i64.wrap (Int.fdiv (IntKind.u64.wrap (IntKind.i64.wrap (a1 + a3))) 2))), (24, iV .i64 (IntKind.i64.wrap ((IntKind.i64.wrap ((IntKind.i64.wrap (Int.fdiv (IntKind.u64.wrap (IntKind.i64.wrap (a1 + a3))) 2)) + a2)) - x1153)))], [(0, some (.row 2 67 (x1253.map eLabel)))], 1⟩)) (AWp.cv ?_) ?_
                · replace H := e1288; clear e1288
                  refine AWp.cond x1247 rfl (fun c1248 => ?_) (fun c1248 => ?_)
                  · replace H := (ifT c1248).symm.trans H
                    obtain ⟨t1251, e1252, H⟩ := bind_of H
                    refine reg hP hn hm [(5, .call [(0, 0)] [(0, 0)] [] [] 1 (.tup []) [(0, some (.row 2 67 (t1251.map eLabel)))])] [0, 3, 4, 18, 24] [0] ⟨[(0, .own 0), (3, iV .i64 a3), (4, .im (.sc (.func (.func 73) #[] #[]))), (18, iV .i64 (IntKind.i64.wrap (Int.fdiv (IntKind.u64.wrap (IntKind.i64.wrap (a1 + a3))) 2))), (24, iV .i64 (IntKind.i64.wrap ((IntKind.i64.wrap ((IntKind.i64.wrap (Int.fdiv (IntKind.u64.wrap (IntKind.i64.wrap (a1 + a3))) 2)) + a2)) - x1153)))], [(0, some (.row 2 67 (t1251.map eLabel)))], 1⟩ [Enters Try.prog 101, Pv.Fn Try.prog 101 [.own 0, iV .i64 a1, iV .i64 x1153, iV .i64 (IntKind.i64.wrap (Int.fdiv (IntKind.u64.wrap (IntKind.i64.wrap (a1 + a3))) 2)), .im (.sc (.func (.func 73) #[] #[]))] [(0, some (.row 2 67 (x1244.map eLabel)))] 1 (fun r o => r = .tup [] ∧ o = [(0, some (.row 2 67 (t1251.map eLabel)))])] (by kernel_rfl) ⟨by exact Try.call101, by exact ihF x1244 a1 x1153 (IntKind.i64.wrap (Int.fdiv (IntKind.u64.wrap (IntKind.i64.wrap (a1 + a3))) 2)) _ e1252, trivial⟩ ?_
                    obtain rfl := Option.some.inj H
                    exact Exists.intro _ (And.intro (fun _ _ h => h.conv (inv := [(0, 0)]) (vk := []) (e0 := []) (t := ⟨[(0, .own 0), (3, iV .i64 a3), (4, .im (.sc (.func (.func 73) #[] #[]))), (18, iV .i64 (IntKind.i64.wrap (Int.fdiv (IntKind.u64.wrap (IntKind.i64.wrap (a1 + a3))) 2))), (24, iV .i64 (IntKind.i64.wrap ((IntKind.i64.wrap ((IntKind.i64.wrap (Int.fdiv (IntKind.u64.wrap (IntKind.i64.wrap (a1 + a3))) 2)) + a2)) - x1153)))], [(0, some (.row 2 67 (t1251.map eLabel)))], 1⟩) (by kernel_rfl)) (And.intro rfl rfl))
                  · replace H := (ifF c1248).symm.trans H
                    refine AWp.skip ?_
                    obtain rfl := Option.some.inj H
                    exact Exists.intro _ (And.intro (fun _ _ h => h.conv (inv := [(0, 0)]) (vk := []) (e0 := []) (t := ⟨[(0, .own 0), (3, iV .i64 a3), (4, .im (.sc (.func (.func 73) #[] #[]))), (18, iV .i64 (IntKind.i64.wrap (Int.fdiv (IntKind.u64.wrap (IntKind.i64.wrap (a1 + a3))) 2))), (24, iV .i64 (IntKind.i64.wrap ((IntKind.i64.wrap ((IntKind.i64.wrap (Int.fdiv (IntKind.u64.wrap (IntKind.i64.wrap (a1 + a3))) 2)) + a2)) - x1153)))], [(0, some (.row 2 67 (x1244.map eLabel)))], 1⟩) (by kernel_rfl)) (And.intro rfl rfl))
                · obtain ⟨x1253, rfl⟩ : ∃ z, z = o1287 := ⟨_, rfl⟩
                  rintro e s ⟨rfl, rfl⟩
                  refine AWp.seq ?_
                  obtain ⟨o1289, e1290, H⟩ := bind_of H
                  refine AWp.mono (Q := fun e s => (match (generalizing := false) o1289 with | x1256 => e = .normal ∧ s = ⟨[(0, .own 0), (3, iV .i64 a3), (4, .im (.sc (.func (.func 73) #[] #[]))), (18, iV .i64 (IntKind.i64.wrap (Int.fdiv (IntKind.u64.wrap (IntKind.i64.wrap (a1 + a3))) 2))), (24, iV .i64 (IntKind.i64.wrap ((IntKind.i64.wrap ((IntKind.i64.wrap (Int.fdiv (IntKind.u64.wrap (IntKind.i64.wrap (a1 + a3))) 2)) + a2)) - x1153))), (213, bV x1256)], [(0, some (.row 2 67 (x1253.map eLabel)))], 1⟩)) (AWp.cv ?_) ?_
                  · replace H := e1290; clear e1290
                    rcases Bool.eq_false_or_eq_true (decide ((IntKind.i64.wrap (Int.fdiv (IntKind.u64.wrap (IntKind.i64.wrap (a1 + a3))) 2)) < (IntKind.i64.wrap ((IntKind.i64.wrap ((IntKind.i64.wrap (Int.fdiv (IntKind.u64.wrap (IntKind.i64.wrap (a1 + a3))) 2)) + a2)) - x1153)))) with c1255 | c1255
                    · replace H := (ifT c1255).symm.trans H
                      refine reg hP hn hm [(3, .b true)] [0, 3, 4, 18, 24, 213] [0] ⟨[(0, .own 0), (3, iV .i64 a3), (4, .im (.sc (.func (.func 73) #[] #[]))), (18, iV .i64 (IntKind.i64.wrap (Int.fdiv (IntKind.u64.wrap (IntKind.i64.wrap (a1 + a3))) 2))), (24, iV .i64 (IntKind.i64.wrap ((IntKind.i64.wrap ((IntKind.i64.wrap (Int.fdiv (IntKind.u64.wrap (IntKind.i64.wrap (a1 + a3))) 2)) + a2)) - x1153))), (213, bV (decide ((IntKind.i64.wrap ((IntKind.i64.wrap ((IntKind.i64.wrap (Int.fdiv (IntKind.u64.wrap (IntKind.i64.wrap (a1 + a3))) 2)) + a2)) - x1153)) < a3)))], [(0, some (.row 2 67 (x1253.map eLabel)))], 1⟩ [(decide ((IntKind.i64.wrap (Int.fdiv (IntKind.u64.wrap (IntKind.i64.wrap (a1 + a3))) 2)) < (IntKind.i64.wrap ((IntKind.i64.wrap ((IntKind.i64.wrap (Int.fdiv (IntKind.u64.wrap (IntKind.i64.wrap (a1 + a3))) 2)) + a2)) - x1153)))) = true] (by kernel_rfl) ⟨by exact c1255, trivial⟩ ?_
                      obtain rfl := Option.some.inj H
                      exact Exists.intro _ (And.intro (fun _ _ h => h.conv (inv := [(0, 0)]) (vk := []) (e0 := []) (t := ⟨[(0, .own 0), (3, iV .i64 a3), (4, .im (.sc (.func (.func 73) #[] #[]))), (18, iV .i64 (IntKind.i64.wrap (Int.fdiv (IntKind.u64.wrap (IntKind.i64.wrap (a1 + a3))) 2))), (24, iV .i64 (IntKind.i64.wrap ((IntKind.i64.wrap ((IntKind.i64.wrap (Int.fdiv (IntKind.u64.wrap (IntKind.i64.wrap (a1 + a3))) 2)) + a2)) - x1153))), (213, bV (decide ((IntKind.i64.wrap ((IntKind.i64.wrap ((IntKind.i64.wrap (Int.fdiv (IntKind.u64.wrap (IntKind.i64.wrap (a1 + a3))) 2)) + a2)) - x1153)) < a3)))], [(0, some (.row 2 67 (x1253.map eLabel)))], 1⟩) (by kernel_rfl)) (And.intro rfl rfl))
                    · replace H := (ifF c1255).symm.trans H
                      refine reg hP hn hm [(3, .b false)] [0, 3, 4, 18, 24, 213] [0] ⟨[(0, .own 0), (3, iV .i64 a3), (4, .im (.sc (.func (.func 73) #[] #[]))), (18, iV .i64 (IntKind.i64.wrap (Int.fdiv (IntKind.u64.wrap (IntKind.i64.wrap (a1 + a3))) 2))), (24, iV .i64 (IntKind.i64.wrap ((IntKind.i64.wrap ((IntKind.i64.wrap (Int.fdiv (IntKind.u64.wrap (IntKind.i64.wrap (a1 + a3))) 2)) + a2)) - x1153))), (213, bV false)], [(0, some (.row 2 67 (x1253.map eLabel)))], 1⟩ [(decide ((IntKind.i64.wrap (Int.fdiv (IntKind.u64.wrap (IntKind.i64.wrap (a1 + a3))) 2)) < (IntKind.i64.wrap ((IntKind.i64.wrap ((IntKind.i64.wrap (Int.fdiv (IntKind.u64.wrap (IntKind.i64.wrap (a1 + a3))) 2)) + a2)) - x1153)))) = false] (by kernel_rfl) ⟨by exact c1255, trivial⟩ ?_
                      obtain rfl := Option.some.inj H
                      exact Exists.intro _ (And.intro (fun _ _ h => h.conv (inv := [(0, 0)]) (vk := []) (e0 := []) (t := ⟨[(0, .own 0), (3, iV .i64 a3), (4, .im (.sc (.func (.func 73) #[] #[]))), (18, iV .i64 (IntKind.i64.wrap (Int.fdiv (IntKind.u64.wrap (IntKind.i64.wrap (a1 + a3))) 2))), (24, iV .i64 (IntKind.i64.wrap ((IntKind.i64.wrap ((IntKind.i64.wrap (Int.fdiv (IntKind.u64.wrap (IntKind.i64.wrap (a1 + a3))) 2)) + a2)) - x1153))), (213, bV false)], [(0, some (.row 2 67 (x1253.map eLabel)))], 1⟩) (by kernel_rfl)) (And.intro rfl rfl))
                  · obtain ⟨x1256, rfl⟩ : ∃ z, z = o1289 := ⟨_, rfl⟩
                    rintro e s ⟨rfl, rfl⟩
                    obtain ⟨o1291, e1292, H⟩ := bind_of H
                    refine AWp.mono (Q := fun e s => (match (generalizing := false) o1291 with | x1262 => e = .normal ∧ s = ⟨[], [(0, some (.row 2 67 (x1262.map eLabel)))], 1⟩)) (AWp.cv ?_) ?_
                    · replace H := e1292; clear e1292
                      refine AWp.cond x1256 rfl (fun c1257 => ?_) (fun c1257 => ?_)
                      · replace H := (ifT c1257).symm.trans H
                        obtain ⟨t1260, e1261, H⟩ := bind_of H
                        refine reg hP hn hm [(5, .call [(0, 0)] [(0, 0)] [] [] 1 (.tup []) [(0, some (.row 2 67 (t1260.map eLabel)))])] [] [0] ⟨[], [(0, some (.row 2 67 (t1260.map eLabel)))], 1⟩ [Enters Try.prog 101, Pv.Fn Try.prog 101 [.own 0, iV .i64 (IntKind.i64.wrap (Int.fdiv (IntKind.u64.wrap (IntKind.i64.wrap (a1 + a3))) 2)), iV .i64 (IntKind.i64.wrap ((IntKind.i64.wrap ((IntKind.i64.wrap (Int.fdiv (IntKind.u64.wrap (IntKind.i64.wrap (a1 + a3))) 2)) + a2)) - x1153)), iV .i64 a3, .im (.sc (.func (.func 73) #[] #[]))] [(0, some (.row 2 67 (x1253.map eLabel)))] 1 (fun r o => r = .tup [] ∧ o = [(0, some (.row 2 67 (t1260.map eLabel)))])] (by kernel_rfl) ⟨by exact Try.call101, by exact ihF x1253 (IntKind.i64.wrap (Int.fdiv (IntKind.u64.wrap (IntKind.i64.wrap (a1 + a3))) 2)) (IntKind.i64.wrap ((IntKind.i64.wrap ((IntKind.i64.wrap (Int.fdiv (IntKind.u64.wrap (IntKind.i64.wrap (a1 + a3))) 2)) + a2)) - x1153)) a3 _ e1261, trivial⟩ ?_
                        obtain rfl := Option.some.inj H
                        exact Exists.intro _ (And.intro (fun _ _ h => h.conv (inv := [(0, 0)]) (vk := []) (e0 := []) (t := ⟨[], [(0, some (.row 2 67 (t1260.map eLabel)))], 1⟩) (by kernel_rfl)) (And.intro rfl rfl))
                      · replace H := (ifF c1257).symm.trans H
                        refine AWp.skip ?_
                        obtain rfl := Option.some.inj H
                        exact Exists.intro _ (And.intro (fun _ _ h => h.conv (inv := [(0, 0)]) (vk := []) (e0 := []) (t := ⟨[], [(0, some (.row 2 67 (x1253.map eLabel)))], 1⟩) (by kernel_rfl)) (And.intro rfl rfl))
                    · obtain ⟨x1262, rfl⟩ : ∃ z, z = o1291 := ⟨_, rfl⟩
                      rintro e s ⟨rfl, rfl⟩
                      obtain rfl := Option.some.inj H
                      exact Exists.intro ⟨[], [(0, some (.row 2 67 (x1262.map eLabel)))], 1⟩ (And.intro (fun _ _ h => h.conv (inv := [(0, 0)]) (vk := []) (e0 := []) (t := ⟨[], [(0, some (.row 2 67 (x1262.map eLabel)))], 1⟩) (by kernel_rfl)) (And.intro (.inr rfl) (And.intro rfl (And.intro (by kernel_rfl) (by kernel_rfl)))))
def f_slices_stableCmpFunc_api_Label_label_Make_2.l0 (a1 : Int) (x922 : List TLabel) (x923 : Int) (x924 : Int) : Option ((List TLabel) × Int) := if (decide (x924 ≤ a1)) = true then ((f_slices_insertionSortCmpFunc_api_Label_label_Make_2.f x922 x923 x924) >>= fun t928 => f_slices_stableCmpFunc_api_Label_label_Make_2.l0 a1 t928 x924 (IntKind.i64.wrap (x924 + (20 : Int)))) else (some (x922, x923))
partial_fixpoint
def f_slices_stableCmpFunc_api_Label_label_Make_2.l2 (a1 : Int) (x1314 : Int) (x1321 : List TLabel) (x1322 : Int) (x1323 : Int) : Option ((List TLabel) × Int) := if (decide (x1323 ≤ a1)) = true then ((f_slices_symMergeCmpFunc_api_Label_label_Make_2.f x1321 x1322 (IntKind.i64.wrap (x1322 + x1314)) x1323) >>= fun t1327 => f_slices_stableCmpFunc_api_Label_label_Make_2.l2 a1 x1314 t1327 x1323 (IntKind.i64.wrap (x1323 + (IntKind.i64.wrap ((2 : Int) * x1314))))) else (some (x1321, x1322))
partial_fixpoint
def f_slices_stableCmpFunc_api_Label_label_Make_2.l1 (a1 : Int) (x1313 : List TLabel) (x1314 : Int) : Option (List TLabel) := if (decide (x1314 < a1)) = true then ((f_slices_stableCmpFunc_api_Label_label_Make_2.l2 a1 x1314 x1313 0 (IntKind.i64.wrap ((2 : Int) * x1314))) >>= fun oo => match oo with | (x1329, x1330) => (((if (decide ((IntKind.i64.wrap (x1330 + x1314)) < a1)) = true then ((f_slices_symMergeCmpFunc_api_Label_label_Make_2.f x1329 x1330 (IntKind.i64.wrap (x1330 + x1314)) a1) >>= fun t1334 => some t1334) else (some x1329)) : Option (List TLabel)) >>= fun x1336 => f_slices_stableCmpFunc_api_Label_label_Make_2.l1 a1 x1336 (IntKind.i64.wrap (x1314 * (2 : Int))))) else (some x1313)
partial_fixpoint
def f_slices_stableCmpFunc_api_Label_label_Make_2.f (a0 : List TLabel) (a1 : Int) : Option (List TLabel) := (f_slices_stableCmpFunc_api_Label_label_Make_2.l0 a1 a0 0 20) >>= fun oo => match oo with | (x930, x931) => ((f_slices_insertionSortCmpFunc_api_Label_label_Make_2.f x930 x931 a1) >>= fun t934 => (f_slices_stableCmpFunc_api_Label_label_Make_2.l1 a1 t934 20) >>= fun x1337 => some x1337)
theorem f_slices_stableCmpFunc_api_Label_label_Make_2.ok (a0 : List TLabel) (a1 : Int) (r : List TLabel) (H : f_slices_stableCmpFunc_api_Label_label_Make_2.f a0 a1 = some r) : Pv.Fn Try.prog 89 [.own 0, iV .i64 a1, .im (.sc (.func (.func 73) #[] #[]))] [(0, some (.row 2 67 (a0.map eLabel)))] 1 (fun x o => x = .tup [] ∧ o = [(0, some (.row 2 67 (r.map eLabel)))]) := by
  unfold f_slices_stableCmpFunc_api_Label_label_Make_2.f at H
  refine Fn.bodyK [0] Try.func89 rfl rfl (fun Γ hP hn => ?_)
  have hm : Try.prog.follows .mixedOrders = true := by kernel_rfl
  replace hn : Γ.n = 63 := hn
  refine AWp.seq ?_
  refine reg hP hn hm [] [0, 1, 2, 6] [0] ⟨[(0, .own 0), (1, iV .i64 a1), (2, .im (.sc (.func (.func 73) #[] #[]))), (6, iV .i64 20)], [(0, some (.row 2 67 (a0.map eLabel)))], 1⟩ [] (by kernel_rfl) trivial ?_
  refine AWp.seq ?_
  refine reg hP hn hm [] [0, 1, 2, 6, 7, 8] [0] ⟨[(0, .own 0), (1, iV .i64 a1), (2, .im (.sc (.func (.func 73) #[] #[]))), (6, iV .i64 20), (7, iV .i64 0), (8, iV .i64 20)], [(0, some (.row 2 67 (a0.map eLabel)))], 1⟩ [] (by kernel_rfl) trivial ?_
  refine AWp.seq ?_
  refine AWp.block ?_
  obtain ⟨o1338, e1339, H⟩ := bind_of H
  refine AWp.loop (LWp.conv (inv := [(0, 0)]) (vk := []) (e0 := []) (t := ⟨[(0, .own 0), (1, iV .i64 a1), (2, .im (.sc (.func (.func 73) #[] #[]))), (6, iV .i64 20), (7, iV .i64 0), (8, iV .i64 20)], [(0, some (.row 2 67 (a0.map eLabel)))], 1⟩) (by kernel_rfl) ?_)
  refine LWp.mono (Q := fun e s => (match (generalizing := false) o1338 with | (x930, x931) => e = .exit 0 ∧ s = ⟨[(0, .own 0), (1, iV .i64 a1), (2, .im (.sc (.func (.func 73) #[] #[]))), (6, iV .i64 20), (7, iV .i64 x931)], [(0, some (.row 2 67 (x930.map eLabel)))], 1⟩)) (LWp.cv (withBody (fun body hbody => ?_))) ?_
  · refine f_slices_stableCmpFunc_api_Label_label_Make_2.l0.partial_correctness a1 (motive := fun x922 x923 x924 o1338 => LWp Γ body (fun e s => ∃ t, Cv Γ s t ∧ (match (generalizing := false) o1338 with | (x930, x931) => e = .exit 0 ∧ t = ⟨[(0, .own 0), (1, iV .i64 a1), (2, .im (.sc (.func (.func 73) #[] #[]))), (6, iV .i64 20), (7, iV .i64 x931)], [(0, some (.row 2 67 (x930.map eLabel)))], 1⟩)) ⟨[(0, .own 0), (1, iV .i64 a1), (2, .im (.sc (.func (.func 73) #[] #[]))), (6, iV .i64 20), (7, iV .i64 x923), (8, iV .i64 x924)], [(0, some (.row 2 67 (x922.map eLabel)))], 1⟩) ?_ _ _ _ _ e1339
    clear H e1339 o1338; intro self ih x922 x923 x924 o1338 H
    subst hbody
    refine LWp.round ?_
    refine AWp.seq ?_
    refine AWp.seq ?_
    refine reg hP hn hm [] [0, 1, 2, 6, 7, 8, 13] [0] ⟨[(0, .own 0), (1, iV .i64 a1), (2, .im (.sc (.func (.func 73) #[] #[]))), (6, iV .i64 20), (7, iV .i64 x923), (8, iV .i64 x924), (13, bV (decide (x924 ≤ a1)))], [(0, some (.row 2 67 (x922.map eLabel)))], 1⟩ [] (by kernel_rfl) trivial ?_
    refine AWp.cond (decide (x924 ≤ a1)) rfl (fun c925 => ?_) (fun c925 => ?_)
    · replace H := (ifT c925).symm.trans H
      refine AWp.skip ?_
      refine AWp.block ?_
      refine AWp.seq ?_
      obtain ⟨t928, e929, H⟩ := bind_of H
      refine reg hP hn hm [(4, .call [(0, 0)] [(0, 0)] [] [] 1 (.tup []) [(0, some (.row 2 67 (t928.map eLabel)))])] [0, 1, 2, 6, 8] [0] ⟨[(0, .own 0), (1, iV .i64 a1), (2, .im (.sc (.func (.func 73) #[] #[]))), (6, iV .i64 20), (8, iV .i64 x924)], [(0, some (.row 2 67 (t928.map eLabel)))], 1⟩ [Enters Try.prog 100, Pv.Fn Try.prog 100 [.own 0, iV .i64 x923, iV .i64 x924, .im (.sc (.func (.func 73) #[] #[]))] [(0, some (.row 2 67 (x922.map eLabel)))] 1 (fun r o => r = .tup [] ∧ o = [(0, some (.row 2 67 (t928.map eLabel)))])] (by kernel_rfl) ⟨by exact Try.call100, by exact f_slices_insertionSortCmpFunc_api_Label_label_Make_2.ok x922 x923 x924 t928 e929, trivial⟩ ?_
      refine AWp.seq ?_
      refine reg hP hn hm [] [0, 1, 2, 6, 7, 8] [0] ⟨[(0, .own 0), (1, iV .i64 a1), (2, .im (.sc (.func (.func 73) #[] #[]))), (6, iV .i64 20), (7, iV .i64 x924), (8, iV .i64 x924)], [(0, some (.row 2 67 (t928.map eLabel)))], 1⟩ [] (by kernel_rfl) trivial ?_
      refine reg hP hn hm [] [0, 1, 2, 6, 7, 8] [0] ⟨[(0, .own 0), (1, iV .i64 a1), (2, .im (.sc (.func (.func 73) #[] #[]))), (6, iV .i64 20), (7, iV .i64 x924), (8, iV .i64 (IntKind.i64.wrap (x924 + (20 : Int))))], [(0, some (.row 2 67 (t928.map eLabel)))], 1⟩ [] (by kernel_rfl) trivial ?_
      exact LWp.conv (inv := [(0, 0)]) (vk := []) (e0 := []) (t := ⟨[(0, .own 0), (1, iV .i64 a1), (2, .im (.sc (.func (.func 73) #[] #[]))), (6, iV .i64 20), (7, iV .i64 x924), (8, iV .i64 (IntKind.i64.wrap (x924 + (20 : Int))))], [(0, some (.row 2 67 (t928.map eLabel)))], 1⟩) (by kernel_rfl) (ih _ _ _ _ H)
    · replace H := (ifF c925).symm.trans H
      refine AWp.exit ?_
      obtain rfl := Option.some.inj H
      exact Exists.intro _ (And.intro (fun _ _ h => h.conv (inv := [(0, 0)]) (vk := []) (e0 := []) (t := ⟨[(0, .own 0), (1, iV .i64 a1), (2, .im (.sc (.func (.func 73) #[] #[]))), (6, iV .i64 20), (7, iV .i64 x923)], [(0, some (.row 2 67 (x922.map eLabel)))], 1⟩) (by kernel_rfl)) (And.intro rfl rfl))
  · obtain ⟨x930, x931⟩ := o1338
    rintro e s ⟨rfl, rfl⟩
    refine AWp.seq ?_
    obtain ⟨t934, e935, H⟩ := bind_of H
    refine reg hP hn hm [(4, .call [(0, 0)] [(0, 0)] [] [] 1 (.tup []) [(0, some (.row 2 67 (t934.map eLabel)))])] [0, 1, 2, 6] [0] ⟨[(0, .own 0), (1, iV .i64 a1), (2, .im (.sc (.func (.func 73) #[] #[]))), (6, iV .i64 20)], [(0, some (.row 2 67 (t934.map eLabel)))], 1⟩ [Enters Try.prog 100, Pv.Fn Try.prog 100 [.own 0, iV .i64 x931, iV .i64 a1, .im (.sc (.func (.func 73) #[] #[]))] [(0, some (.row 2 67 (x930.map eLabel)))] 1 (fun r o => r = .tup [] ∧ o = [(0, some (.row 2 67 (t934.map eLabel)))])] (by kernel_rfl) ⟨by exact Try.call100, by exact f_slices_insertionSortCmpFunc_api_Label_label_Make_2.ok x930 x931 a1 t934 e935, trivial⟩ ?_
    refine AWp.block ?_
    obtain ⟨o1340, e1341, H⟩ := bind_of H
    refine AWp.loop (LWp.conv (inv := [(0, 0)]) (vk := []) (e0 := []) (t := ⟨[(0, .own 0), (1, iV .i64 a1), (2, .im (.sc (.func (.func 73) #[] #[]))), (6, iV .i64 20)], [(0, some (.row 2 67 (t934.map eLabel)))], 1⟩) (by kernel_rfl) ?_)
    refine LWp.mono (Q := fun e s => (match (generalizing := false) o1340 with | x1337 => e = .exit 2 ∧ s = ⟨[], [(0, some (.row 2 67 (x1337.map eLabel)))], 1⟩)) (LWp.cv (withBody (fun body hbody => ?_))) ?_
    · refine f_slices_stableCmpFunc_api_Label_label_Make_2.l1.partial_correctness a1 (motive := fun x1313 x1314 o1340 => LWp Γ body (fun e s => ∃ t, Cv Γ s t ∧ (match (generalizing := false) o1340 with | x1337 => e = .exit 2 ∧ t = ⟨[], [(0, some (.row 2 67 (x1337.map eLabel)))], 1⟩)) ⟨[(0, .own 0), (1, iV .i64 a1), (2, .im (.sc (.func (.func 73) #[] #[]))), (6, iV .i64 x1314)], [(0, some (.row 2 67 (x1313.map eLabel)))], 1⟩) ?_ _ _ _ e1341
      clear H e1341 o1340; intro self ih x1313 x1314 o1340 H
      subst hbody
      refine LWp.round ?_
      refine AWp.seq ?_
      refine AWp.seq ?_
      refine reg hP hn hm [] [0, 1, 2, 6, 30] [0] ⟨[(0, .own 0), (1, iV .i64 a1), (2, .im (.sc (.func (.func 73) #[] #[]))), (6, iV .i64 x1314), (30, bV (decide (x1314 < a1)))], [(0, some (.row 2 67 (x1313.map eLabel)))], 1⟩ [] (by kernel_rfl) trivial ?_
      refine AWp.cond (decide (x1314 < a1)) rfl (fun c1315 => ?_) (fun c1315 => ?_)
      · replace H := (ifT c1315).symm.trans H
        refine AWp.skip ?_
        refine AWp.block ?_
        refine AWp.seq ?_
        refine reg hP hn hm [] [0, 1, 2, 6, 7, 8] [0] ⟨[(0, .own 0), (1, iV .i64 a1), (2, .im (.sc (.func (.func 73) #[] #[]))), (6, iV .i64 x1314), (7, iV .i64 0), (8, iV .i64 (IntKind.i64.wrap ((2 : Int) * x1314)))], [(0, some (.row 2 67 (x1313.map eLabel)))], 1⟩ [] (by kernel_rfl) trivial ?_
        refine AWp.seq ?_
        refine AWp.block ?_
        obtain ⟨o1342, e1343, H⟩ := bind_of H
        refine AWp.loop (LWp.conv (inv := [(0, 0)]) (vk := []) (e0 := []) (t := ⟨[(0, .own 0), (1, iV .i64 a1), (2, .im (.sc (.func (.func 73) #[] #[]))), (6, iV .i64 x1314), (7, iV .i64 0), (8, iV .i64 (IntKind.i64.wrap ((2 : Int) * x1314)))], [(0, some (.row 2 67 (x1313.map eLabel)))], 1⟩) (by kernel_rfl) ?_)
        refine LWp.mono (Q := fun e s => (match (generalizing := false) o1342 with | (x1329, x1330) => e = .exit 4 ∧ s = ⟨[(0, .own 0), (1, iV .i64 a1), (2, .im (.sc (.func (.func 73) #[] #[]))), (6, iV .i64 x1314), (7, iV .i64 x1330)], [(0, some (.row 2 67 (x1329.map eLabel)))], 1⟩)) (LWp.cv (withBody (fun body hbody => ?_))) ?_
        · refine f_slices_stableCmpFunc_api_Label_label_Make_2.l2.partial_correctness a1 x1314 (motive := fun x1321 x1322 x1323 o1342 => LWp Γ body (fun e s => ∃ t, Cv Γ s t ∧ (match (generalizing := false) o1342 with | (x1329, x1330) => e = .exit 4 ∧ t = ⟨[(0, .own 0), (1, iV .i64 a1), (2, .im (.sc (.func (.func 73) #[] #[]))), (6, iV .i64 x1314), (7, iV .i64 x1330)], [(0, some (.row 2 67 (x1329.map eLabel)))], 1⟩)) ⟨[(0, .own 0), (1, iV .i64 a1), (2, .im (.sc (.func (.func 73) #[] #[]))), (6, iV .i64 x1314), (7, iV .i64 x1322), (8, iV .i64 x1323)], [(0, some (.row 2 67 (x1321.map eLabel)))], 1⟩) ?_ _ _ _ _ e1343
          clear H e1343 o1342; intro self ih x1321 x1322 x1323 o1342 H
          subst hbody
          refine LWp.round ?_
          refine AWp.seq ?_
          refine AWp.seq ?_
          refine reg hP hn hm [] [0, 1, 2, 6, 7, 8, 35] [0] ⟨[(0, .own 0), (1, iV .i64 a1), (2, .im (.sc (.func (.func 73) #[] #[]))), (6, iV .i64 x1314), (7, iV .i64 x1322), (8, iV .i64 x1323), (35, bV (decide (x1323 ≤ a1)))], [(0, some (.row 2 67 (x1321.map eLabel)))], 1⟩ [] (by kernel_rfl) trivial ?_
          refine AWp.cond (decide (x1323 ≤ a1)) rfl (fun c1324 => ?_) (fun c1324 => ?_)
          · replace H := (ifT c1324).symm.trans H
            refine AWp.skip ?_
            refine AWp.block ?_
            refine AWp.seq ?_
            obtain ⟨t1327, e1328, H⟩ := bind_of H
            refine reg hP hn hm [(7, .call [(0, 0)] [(0, 0)] [] [] 1 (.tup []) [(0, some (.row 2 67 (t1327.map eLabel)))])] [0, 1, 2, 6, 8] [0] ⟨[(0, .own 0), (1, iV .i64 a1), (2, .im (.sc (.func (.func 73) #[] #[]))), (6, iV .i64 x1314), (8, iV .i64 x1323)], [(0, some (.row 2 67 (t1327.map eLabel)))], 1⟩ [Enters Try.prog 101, Pv.Fn Try.prog 101 [.own 0, iV .i64 x1322, iV .i64 (IntKind.i64.wrap (x1322 + x1314)), iV .i64 x1323, .im (.sc (.func (.func 73) #[] #[]))] [(0, some (.row 2 67 (x1321.map eLabel)))] 1 (fun r o => r = .tup [] ∧ o = [(0, some (.row 2 67 (t1327.map eLabel)))])] (by kernel_rfl) ⟨by exact Try.call101, by exact f_slices_symMergeCmpFunc_api_Label_label_Make_2.ok x1321 x1322 (IntKind.i64.wrap (x1322 + x1314)) x1323 t1327 e1328, trivial⟩ ?_
            refine AWp.seq ?_
            refine reg hP hn hm [] [0, 1, 2, 6, 7, 8] [0] ⟨[(0, .own 0), (1, iV .i64 a1), (2, .im (.sc (.func (.func 73) #[] #[]))), (6, iV .i64 x1314), (7, iV .i64 x1323), (8, iV .i64 x1323)], [(0, some (.row 2 67 (t1327.map eLabel)))], 1⟩ [] (by kernel_rfl) trivial ?_
            refine reg hP hn hm [] [0, 1, 2, 6, 7, 8] [0] ⟨[(0, .own 0), (1, iV .i64 a1), (2, .im (.sc (.func (.func 73) #[] #[]))), (6, iV .i64 x1314), (7, iV .i64 x1323), (8, iV .i64 (IntKind.i64.wrap (x1323 + (IntKind.i64.wrap ((2 : Int) * x1314)))))], [(0, some (.row 2 67 (t1327.map eLabel)))], 1⟩ [] (by kernel_rfl) trivial ?_
            exact LWp.conv (inv := [(0, 0)]) (vk := []) (e0 := []) (t := ⟨[(0, .own 0), (1, iV .i64 a1), (2, .im (.sc (.func (.func 73) #[] #[]))), (6, iV .i64 x1314), (7, iV .i64 x1323), (8, iV .i64 (IntKind.i64.wrap (x1323 + (IntKind.i64.wrap ((2 : Int) * x1314)))))], [(0, some (.row 2 67 (t1327.map eLabel)))], 1⟩) (by kernel_rfl) (ih _ _ _ _ H)
          · replace H := (ifF c1324).symm.trans H
            refine AWp.exit ?_
            obtain rfl := Option.some.inj H
            exact Exists.intro _ (And.intro (fun _ _ h => h.conv (inv := [(0, 0)]) (vk := []) (e0 := []) (t := ⟨[(0, .own 0), (1, iV .i64 a1), (2, .im (.sc (.func (.func 73) #[] #[]))), (6, iV .i64 x1314), (7, iV .i64 x1322)], [(0, some (.row 2 67 (x1321.map eLabel)))], 1⟩) (by kernel_rfl)) (And.intro rfl rfl))
        · obtain ⟨x1329, x1330⟩ := o1342
          rintro e s ⟨rfl, rfl⟩
          refine AWp.seq ?_
          refine AWp.seq ?_
          refine reg hP hn hm [] [0, 1, 2, 6, 7, 9] [0] ⟨[(0, .own 0), (1, iV .i64 a1), (2, .im (.sc (.func (.func 73) #[] #[]))), (6, iV .i64 x1314), (7, iV .i64 x1330), (9, iV .i64 (IntKind.i64.wrap (x1330 + x1314)))], [(0, some (.row 2 67 (x1329.map eLabel)))], 1⟩ [] (by kernel_rfl) trivial ?_
          refine AWp.seq ?_
          refine reg hP hn hm [] [0, 1, 2, 6, 7, 9, 54] [0] ⟨[(0, .own 0), (1, iV .i64 a1), (2, .im (.sc (.func (.func 73) #[] #[]))), (6, iV .i64 x1314), (7, iV .i64 x1330), (9, iV .i64 (IntKind.i64.wrap (x1330 + x1314))), (54, bV (decide ((IntKind.i64.wrap (x1330 + x1314)) < a1)))], [(0, some (.row 2 67 (x1329.map eLabel)))], 1⟩ [] (by kernel_rfl) trivial ?_
          obtain ⟨o1344, e1345, H⟩ := bind_of H
          refine AWp.mono (Q := fun e s => (match (generalizing := false) o1344 with | x1336 => e = .normal ∧ s = ⟨[(0, .own 0), (1, iV .i64 a1), (2, .im (.sc (.func (.func 73) #[] #[]))), (6, iV .i64 x1314)], [(0, some (.row 2 67 (x1336.map eLabel)))], 1⟩)) (AWp.cv ?_) ?_
          · replace H := e1345; clear e1345
            refine AWp.cond (decide ((IntKind.i64.wrap (x1330 + x1314)) < a1)) rfl (fun c1331 => ?_) (fun c1331 => ?_)
            · replace H := (ifT c1331).symm.trans H
              obtain ⟨t1334, e1335, H⟩ := bind_of H
              refine reg hP hn hm [(5, .call [(0, 0)] [(0, 0)] [] [] 1 (.tup []) [(0, some (.row 2 67 (t1334.map eLabel)))])] [0, 1, 2, 6] [0] ⟨[(0, .own 0), (1, iV .i64 a1), (2, .im (.sc (.func (.func 73) #[] #[]))), (6, iV .i64 x1314)], [(0, some (.row 2 67 (t1334.map eLabel)))], 1⟩ [Enters Try.prog 101, Pv.Fn Try.prog 101 [.own 0, iV .i64 x1330, iV .i64 (IntKind.i64.wrap (x1330 + x1314)), iV .i64 a1, .im (.sc (.func (.func 73) #[] #[]))] [(0, some (.row 2 67 (x1329.map eLabel)))] 1 (fun r o => r = .tup [] ∧ o = [(0, some (.row 2 67 (t1334.map eLabel)))])] (by kernel_rfl) ⟨by exact Try.call101, by exact f_slices_symMergeCmpFunc_api_Label_label_Make_2.ok x1329 x1330 (IntKind.i64.wrap (x1330 + x1314)) a1 t1334 e1335, trivial⟩ ?_
              obtain rfl := Option.some.inj H
              exact Exists.intro _ (And.intro (fun _ _ h => h.conv (inv := [(0, 0)]) (vk := []) (e0 := []) (t := ⟨[(0, .own 0), (1, iV .i64 a1), (2, .im (.sc (.func (.func 73) #[] #[]))), (6, iV .i64 x1314)], [(0, some (.row 2 67 (t1334.map eLabel)))], 1⟩) (by kernel_rfl)) (And.intro rfl rfl))
            · replace H := (ifF c1331).symm.trans H
              refine AWp.skip ?_
              obtain rfl := Option.some.inj H
              exact Exists.intro _ (And.intro (fun _ _ h => h.conv (inv := [(0, 0)]) (vk := []) (e0 := []) (t := ⟨[(0, .own 0), (1, iV .i64 a1), (2, .im (.sc (.func (.func 73) #[] #[]))), (6, iV .i64 x1314)], [(0, some (.row 2 67 (x1329.map eLabel)))], 1⟩) (by kernel_rfl)) (And.intro rfl rfl))
          · obtain ⟨x1336, rfl⟩ : ∃ z, z = o1344 := ⟨_, rfl⟩
            rintro e s ⟨rfl, rfl⟩
            refine reg hP hn hm [] [0, 1, 2, 6] [0] ⟨[(0, .own 0), (1, iV .i64 a1), (2, .im (.sc (.func (.func 73) #[] #[]))), (6, iV .i64 (IntKind.i64.wrap (x1314 * (2 : Int))))], [(0, some (.row 2 67 (x1336.map eLabel)))], 1⟩ [] (by kernel_rfl) trivial ?_
            exact LWp.conv (inv := [(0, 0)]) (vk := []) (e0 := []) (t := ⟨[(0, .own 0), (1, iV .i64 a1), (2, .im (.sc (.func (.func 73) #[] #[]))), (6, iV .i64 (IntKind.i64.wrap (x1314 * (2 : Int))))], [(0, some (.row 2 67 (x1336.map eLabel)))], 1⟩) (by kernel_rfl) (ih _ _ _ H)
      · replace H := (ifF c1315).symm.trans H
        refine AWp.exit ?_
        obtain rfl := Option.some.inj H
        exact Exists.intro _ (And.intro (fun _ _ h => h.conv (inv := [(0, 0)]) (vk := []) (e0 := []) (t := ⟨[], [(0, some (.row 2 67 (x1313.map eLabel)))], 1⟩) (by kernel_rfl)) (And.intro rfl rfl))
    · obtain ⟨x1337, rfl⟩ : ∃ z, z = o1340 := ⟨_, rfl⟩
      rintro e s ⟨rfl, rfl⟩
      obtain rfl := Option.some.inj H
      exact Exists.intro ⟨[], [(0, some (.row 2 67 (x1337.map eLabel)))], 1⟩ (And.intro (fun _ _ h => h.conv (inv := [(0, 0)]) (vk := []) (e0 := []) (t := ⟨[], [(0, some (.row 2 67 (x1337.map eLabel)))], 1⟩) (by kernel_rfl)) (And.intro (.inr rfl) (And.intro rfl (And.intro (by kernel_rfl) (by kernel_rfl)))))
def f_slices_SortStableFunc_api_Label_label_Make_2.f (a0 : List TLabel) : Option (List TLabel) := (f_slices_stableCmpFunc_api_Label_label_Make_2.f a0 (a0.length : Int)) >>= fun t1348 => some t1348
theorem f_slices_SortStableFunc_api_Label_label_Make_2.ok (a0 : List TLabel) (r : List TLabel) (H : f_slices_SortStableFunc_api_Label_label_Make_2.f a0 = some r) : Pv.Fn Try.prog 72 [.own 0, .im (.sc (.func (.func 73) #[] #[]))] [(0, some (.row 2 67 (a0.map eLabel)))] 1 (fun x o => x = .tup [] ∧ o = [(0, some (.row 2 67 (r.map eLabel)))]) := by
  unfold f_slices_SortStableFunc_api_Label_label_Make_2.f at H
  refine Fn.bodyK [0] Try.func72 rfl rfl (fun Γ hP hn => ?_)
  have hm : Try.prog.follows .mixedOrders = true := by kernel_rfl
  replace hn : Γ.n = 9 := hn
  obtain ⟨t1348, e1349, H⟩ := bind_of H
  refine reg hP hn hm [(2, .any (iV .i64 (a0.length : Int))), (4, .call [(0, 0)] [(0, 0)] [] [] 1 (.tup []) [(0, some (.row 2 67 (t1348.map eLabel)))])] [] [0] ⟨[], [(0, some (.row 2 67 (t1348.map eLabel)))], 1⟩ [((a0.map eLabel).length : Int) = (a0.length : Int), Enters Try.prog 89, Pv.Fn Try.prog 89 [.own 0, iV .i64 (a0.length : Int), .im (.sc (.func (.func 73) #[] #[]))] [(0, some (.row 2 67 (a0.map eLabel)))] 1 (fun r o => r = .tup [] ∧ o = [(0, some (.row 2 67 (t1348.map eLabel)))])] (by kernel_rfl) ⟨by rw [len_map], by exact Try.call89, by exact f_slices_stableCmpFunc_api_Label_label_Make_2.ok a0 (a0.length : Int) t1348 e1349, trivial⟩ ?_
  obtain rfl := Option.some.inj H
  exact Exists.intro ⟨[], [(0, some (.row 2 67 (t1348.map eLabel)))], 1⟩ (And.intro (fun _ _ h => h.conv (inv := [(0, 0)]) (vk := []) (e0 := []) (t := ⟨[], [(0, some (.row 2 67 (t1348.map eLabel)))], 1⟩) (by kernel_rfl)) (And.intro (.inr rfl) (And.intro rfl (And.intro (by kernel_rfl) (by kernel_rfl)))))
def f_label_Make.f (a0 : List TLabel) : Option ((List TLabel) × Int) := (f_slices_Clone_api_Label.f a0) >>= fun t740 => (f_slices_DeleteFunc_api_Label_label_Make_1.f t740) >>= fun t742 => (f_slices_SortStableFunc_api_Label_label_Make_2.f t742) >>= fun t1352 => (f_label_Check.f t1352) >>= fun t1356 => if (t1356 != (0 : Int)) = true then (some ([], t1356)) else (some (t1352, 0))
theorem f_label_Make.ok (a0 : List TLabel) (r : (List TLabel) × Int) (H : f_label_Make.f a0 = some r) : Pv.Fn Try.prog 38 [.im (.row (a0.map eLabel))] [] 0 (fun x o => x = .tup [.own 0, iV .i64 r.2] ∧ o = [(0, some (.row 2 67 (r.1.map eLabel)))]) := by
  unfold f_label_Make.f at H
  refine Fn.bodyK [0] Try.func38 rfl rfl (fun Γ hP hn => ?_)
  have hm : Try.prog.follows .mixedOrders = true := by kernel_rfl
  replace hn : Γ.n = 17 := hn
  refine AWp.seq ?_
  refine reg hP hn hm [] [0] [] ⟨[(0, .im (.row (a0.map eLabel)))], [], 0⟩ [] (by kernel_rfl) trivial ?_
  refine AWp.seq ?_
  obtain ⟨t740, e741, H⟩ := bind_of H
  obtain ⟨t742, e743, H⟩ := bind_of H
  refine reg hP hn hm [(1, .call [] [(0, 0)] [] [0] 0 (.own 0) [(0, some (.row 2 67 (t740.map eLabel)))]), (2, .call [(0, 0)] [(1, 1)] [] [1] 1 (.own 1) [(0, none), (1, some (.row 2 67 (t742.map eLabel)))])] [4] [1] ⟨[(4, .own 1)], [(1, some (.row 2 67 (t742.map eLabel)))], 0⟩ [Enters Try.prog 70, Pv.Fn Try.prog 70 [.im (.row (a0.map eLabel))] [] 0 (fun r o => r = .own 0 ∧ o = [(0, some (.row 2 67 (t740.map eLabel)))]), Enters Try.prog 69, Pv.Fn Try.prog 69 [.own 0, .im (.sc (.func (.func 71) #[] #[]))] [(0, some (.row 2 67 (t740.map eLabel)))] 1 (fun r o => r = .own 1 ∧ o = [(0, none), (1, some (.row 2 67 (t742.map eLabel)))])] (by kernel_rfl) ⟨by exact Try.call70, by exact f_slices_Clone_api_Label.ok a0 t740 e741, by exact Try.call69, by exact f_slices_DeleteFunc_api_Label_label_Make_1.ok t740 t742 e743, trivial⟩ ?_
  refine AWp.seq ?_
  obtain ⟨t1352, e1353, H⟩ := bind_of H
  refine reg hP hn hm [(1, .call [(1, 0)] [(0, 1)] [] [] 1 (.tup []) [(0, some (.row 2 67 (t1352.map eLabel)))])] [4] [1] ⟨[(4, .own 1)], [(1, some (.row 2 67 (t1352.map eLabel)))], 0⟩ [Enters Try.prog 72, Pv.Fn Try.prog 72 [.own 0, .im (.sc (.func (.func 73) #[] #[]))] [(0, some (.row 2 67 (t742.map eLabel)))] 1 (fun r o => r = .tup [] ∧ o = [(0, some (.row 2 67 (t1352.map eLabel)))])] (by kernel_rfl) ⟨by exact Try.call72, by exact f_slices_SortStableFunc_api_Label_label_Make_2.ok t742 t1352 e1353, trivial⟩ ?_
  refine AWp.seq ?_
  refine AWp.seq ?_
  obtain ⟨t1356, e1357, H⟩ := bind_of H
  refine reg hP hn hm [(1, .call [] [] [1] [] 0 (iV .i64 t1356) [])] [4, 5] [1] ⟨[(4, .own 1), (5, iV .i64 t1356)], [(1, some (.row 2 67 (t1352.map eLabel)))], 0⟩ [Enters Try.prog 35, Pv.Fn Try.prog 35 [.im (.row (t1352.map eLabel))] [] 0 (fun r o => r = iV .i64 t1356 ∧ o = [])] (by kernel_rfl) ⟨by exact Try.call35, by exact f_label_Check.ok t1352 t1356 e1357, trivial⟩ ?_
  refine AWp.seq ?_
  refine reg hP hn hm [] [4, 5, 14] [1] ⟨[(4, .own 1), (5, iV .i64 t1356), (14, bV (t1356 != (0 : Int)))], [(1, some (.row 2 67 (t1352.map eLabel)))], 0⟩ [] (by kernel_rfl) trivial ?_
  refine AWp.cond (t1356 != (0 : Int)) rfl (fun c1358 => ?_) (fun c1358 => ?_)
  · replace H := (ifT c1358).symm.trans H
    refine AWp.seq ?_
    refine reg hP hn hm [] [2, 3] [] ⟨[(2, .none0), (3, iV .i64 t1356)], [], 0⟩ [] (by kernel_rfl) trivial ?_
    refine AWp.conv (inv := []) (vk := []) (e0 := [0]) (t := ⟨[(2, .own 0), (3, iV .i64 t1356)], [(0, some (.row 2 67 ([].map eLabel)))], 0⟩) (by kernel_rfl) ?_
    refine AWp.ret ?_
    obtain rfl := Option.some.inj H
    exact Exists.intro _ (And.intro (fun _ _ h => h) (And.intro (.inl rfl) (And.intro rfl (And.intro (by kernel_rfl) (by kernel_rfl)))))
  · replace H := (ifF c1358).symm.trans H
    refine AWp.skip ?_
    refine AWp.seq ?_
    refine reg hP hn hm [] [2, 3] [1] ⟨[(2, .own 1), (3, iV .i64 0)], [(1, some (.row 2 67 (t1352.map eLabel)))], 0⟩ [] (by kernel_rfl) trivial ?_
    refine AWp.conv (inv := [(1, 0)]) (vk := []) (e0 := []) (t := ⟨[(2, .own 0), (3, iV .i64 0)], [(0, some (.row 2 67 (t1352.map eLabel)))], 0⟩) (by kernel_rfl) ?_
    refine AWp.ret ?_
    obtain rfl := Option.some.inj H
    exact Exists.intro _ (And.intro (fun _ _ h => h) (And.intro (.inl rfl) (And.intro rfl (And.intro (by kernel_rfl) (by kernel_rfl)))))
def f_pluviallaw10_same.f (a0 : List TLabel) (a1 : List TLabel) : Option (Bool) := (f_pluvialref10_Compare.f a0 a1) >>= fun t1520 => some (t1520 == (0 : Int))
theorem f_pluviallaw10_same.ok (a0 : List TLabel) (a1 : List TLabel) (r : Bool) (H : f_pluviallaw10_same.f a0 a1 = some r) : Pv.Fn Try.prog 28 [.im (.row (a0.map eLabel)), .im (.row (a1.map eLabel))] [] 0 (fun x o => x = bV r ∧ o = []) := by
  unfold f_pluviallaw10_same.f at H
  refine Fn.bodyK [] Try.func28 rfl rfl (fun Γ hP hn => ?_)
  have hm : Try.prog.follows .mixedOrders = true := by kernel_rfl
  replace hn : Γ.n = 9 := hn
  refine AWp.seq ?_
  refine reg hP hn hm [] [0, 1] [] ⟨[(0, .im (.row (a0.map eLabel))), (1, .im (.row (a1.map eLabel)))], [], 0⟩ [] (by kernel_rfl) trivial ?_
  refine AWp.seq ?_
  obtain ⟨t1520, e1521, H⟩ := bind_of H
  refine reg hP hn hm [(2, .call [] [] [] [] 0 (iV .i64 t1520) [])] [4] [] ⟨[(4, bV (t1520 == (0 : Int)))], [], 0⟩ [Enters Try.prog 37, Pv.Fn Try.prog 37 [.im (.row (a0.map eLabel)), .im (.row (a1.map eLabel))] [] 0 (fun r o => r = iV .i64 t1520 ∧ o = [])] (by kernel_rfl) ⟨by exact Try.call37, by exact f_pluvialref10_Compare.ok a0 a1 t1520 e1521, trivial⟩ ?_
  refine AWp.conv (inv := []) (vk := []) (e0 := []) (t := ⟨[(4, bV (t1520 == (0 : Int)))], [], 0⟩) (by kernel_rfl) ?_
  refine AWp.ret ?_
  obtain rfl := Option.some.inj H
  exact Exists.intro _ (And.intro (fun _ _ h => h) (And.intro (.inl rfl) (And.intro rfl (And.intro (by kernel_rfl) (by kernel_rfl)))))
def f_slices_Index_string.l0 (a0 : List ByteArray) (a1 : ByteArray) (x1697 : Int) : Option (Int ⊕ Unit) := if (decide (x1697 < (a0.length : Int))) = true then ((at? a0 x1697) >>= fun b1702 => if (a1.toList == b1702.toList) = true then (some (.inl x1697)) else (f_slices_Index_string.l0 a0 a1 (IntKind.i64.wrap (x1697 + (1 : Int))))) else (some (.inr ()))
partial_fixpoint
def f_slices_Index_string.f (a0 : List ByteArray) (a1 : ByteArray) : Option (Int) := (f_slices_Index_string.l0 a0 a1 0) >>= fun oo => match oo with | .inl rr => (some rr) | .inr _ => (some (-1))
theorem f_slices_Index_string.ok (a0 : List ByteArray) (a1 : ByteArray) (r : Int) (H : f_slices_Index_string.f a0 a1 = some r) : Pv.Fn Try.prog 90 [.im (.row (a0.map encStr)), sV a1] [] 0 (fun x o => x = iV .i64 r ∧ o = []) := by
  unfold f_slices_Index_string.f at H
  refine Fn.bodyK [] Try.func90 rfl rfl (fun Γ hP hn => ?_)
  have hm : Try.prog.follows .mixedOrders = true := by kernel_rfl
  replace hn : Γ.n = 19 := hn
  refine AWp.seq ?_
  refine reg hP hn hm [] [0, 1] [] ⟨[(0, .im (.row (a0.map encStr))), (1, sV a1)], [], 0⟩ [] (by kernel_rfl) trivial ?_
  refine AWp.seq ?_
  refine AWp.seq ?_
  refine reg hP hn hm [(1, .any (iV .i64 (a0.length : Int)))] [0, 1, 7, 8] [] ⟨[(0, .im (.row (a0.map encStr))), (1, sV a1), (7, iV .i64 (a0.length : Int)), (8, iV .i64 0)], [], 0⟩ [((a0.map encStr).length : Int) = (a0.length : Int)] (by kernel_rfl) ⟨by rw [len_map], trivial⟩ ?_
  refine AWp.block ?_
  obtain ⟨o1706, e1707, H⟩ := bind_of H
  refine AWp.loop (LWp.conv (inv := []) (vk := []) (e0 := []) (t := ⟨[(0, .im (.row (a0.map encStr))), (1, sV a1), (7, iV .i64 (a0.length : Int)), (8, iV .i64 0)], [], 0⟩) (by kernel_rfl) ?_)
  refine LWp.mono (Q := fun e s => (match (generalizing := false) o1706 with | .inl rr => e = .ret ∧ s.floor = 0 ∧ resOf Try.prog Try.f90 s = some (iV .i64 rr) ∧ ([] : List (Nat × Option MObj)) = [] | .inr _ => e = .exit 0 ∧ s = ⟨[], [], 0⟩)) (LWp.cv (withBody (fun body hbody => ?_))) ?_
  · refine f_slices_Index_string.l0.partial_correctness a0 a1 (motive := fun x1697 o1706 => LWp Γ body (fun e s => ∃ t, Cv Γ s t ∧ (match (generalizing := false) o1706 with | .inl rr => e = .ret ∧ t.floor = 0 ∧ resOf Try.prog Try.f90 t = some (iV .i64 rr) ∧ ([] : List (Nat × Option MObj)) = [] | .inr _ => e = .exit 0 ∧ t = ⟨[], [], 0⟩)) ⟨[(0, .im (.row (a0.map encStr))), (1, sV a1), (7, iV .i64 (a0.length : Int)), (8, iV .i64 x1697)], [], 0⟩) ?_ _ _ e1707
    clear H e1707 o1706; intro self ih x1697 o1706 H
    subst hbody
    refine LWp.round ?_
    refine AWp.seq ?_
    refine reg hP hn hm [] [0, 1, 7, 8, 9] [] ⟨[(0, .im (.row (a0.map encStr))), (1, sV a1), (7, iV .i64 (a0.length : Int)), (8, iV .i64 x1697), (9, bV (decide (x1697 < (a0.length : Int))))], [], 0⟩ [] (by kernel_rfl) trivial ?_
    refine AWp.seq ?_
    refine AWp.cond (decide (x1697 < (a0.length : Int))) rfl (fun c1698 => ?_) (fun c1698 => ?_)
    · replace H := (ifT c1698).symm.trans H
      refine AWp.skip ?_
      refine AWp.seq ?_
      refine AWp.block ?_
      refine AWp.seq ?_
      refine reg hP hn hm [] [0, 1, 5, 7, 8] [] ⟨[(0, .im (.row (a0.map encStr))), (1, sV a1), (5, iV .i64 x1697), (7, iV .i64 (a0.length : Int)), (8, iV .i64 x1697)], [], 0⟩ [] (by kernel_rfl) trivial ?_
      refine AWp.seq ?_
      obtain ⟨b1702, p1703, q1704, H⟩ := at_of H
      refine reg hP hn hm [(3, .c (encStr b1702))] [0, 1, 5, 7, 8, 16] [] ⟨[(0, .im (.row (a0.map encStr))), (1, sV a1), (5, iV .i64 x1697), (7, iV .i64 (a0.length : Int)), (8, iV .i64 x1697), (16, bV (a1.toList == b1702.toList))], [], 0⟩ [0 ≤ x1697, (a0.map encStr)[(Int.toNat (x1697))]? = some (encStr b1702)] (by kernel_rfl) ⟨by exact p1703, by exact el_map encStr q1704, trivial⟩ ?_
      refine AWp.cond (a1.toList == b1702.toList) rfl (fun c1705 => ?_) (fun c1705 => ?_)
      · replace H := (ifT c1705).symm.trans H
        refine AWp.seq ?_
        refine reg hP hn hm [] [4] [] ⟨[(4, iV .i64 x1697)], [], 0⟩ [] (by kernel_rfl) trivial ?_
        refine AWp.conv (inv := []) (vk := []) (e0 := []) (t := ⟨[(4, iV .i64 x1697)], [], 0⟩) (by kernel_rfl) ?_
        refine AWp.ret ?_
        obtain rfl := Option.some.inj H
        exact Exists.intro _ (And.intro (fun _ _ h => h) (And.intro rfl (And.intro rfl (And.intro (by kernel_rfl) (by kernel_rfl)))))
      · replace H := (ifF c1705).symm.trans H
        refine AWp.skip ?_
        refine reg hP hn hm [] [0, 1, 7, 8] [] ⟨[(0, .im (.row (a0.map encStr))), (1, sV a1), (7, iV .i64 (a0.length : Int)), (8, iV .i64 (IntKind.i64.wrap (x1697 + (1 : Int))))], [], 0⟩ [] (by kernel_rfl) trivial ?_
        exact LWp.conv (inv := []) (vk := []) (e0 := []) (t := ⟨[(0, .im (.row (a0.map encStr))), (1, sV a1), (7, iV .i64 (a0.length : Int)), (8, iV .i64 (IntKind.i64.wrap (x1697 + (1 : Int))))], [], 0⟩) (by kernel_rfl) (ih _ _ H)
    · replace H := (ifF c1698).symm.trans H
      refine AWp.exit ?_
      obtain rfl := Option.some.inj H
      exact Exists.intro _ (And.intro (fun _ _ h => h.conv (inv := []) (vk := []) (e0 := []) (t := ⟨[], [], 0⟩) (by kernel_rfl)) (And.intro rfl rfl))
  · rcases o1706 with rr | _
    · skip
      rintro e s ⟨rfl, hfl, hres⟩
      obtain rfl := Option.some.inj H
      exact Exists.intro _ (And.intro (fun _ _ h => h) (And.intro (.inl rfl) (And.intro hfl hres)))
    · skip
      rintro e s ⟨rfl, rfl⟩
      refine AWp.seq ?_
      refine reg hP hn hm [] [4] [] ⟨[(4, iV .i64 (-1))], [], 0⟩ [] (by kernel_rfl) trivial ?_
      refine AWp.conv (inv := []) (vk := []) (e0 := []) (t := ⟨[(4, iV .i64 (-1))], [], 0⟩) (by kernel_rfl) ?_
      refine AWp.ret ?_
      obtain rfl := Option.some.inj H
      exact Exists.intro _ (And.intro (fun _ _ h => h) (And.intro (.inl rfl) (And.intro rfl (And.intro (by kernel_rfl) (by kernel_rfl)))))
def f_slices_Contains_string.f (a0 : List ByteArray) (a1 : ByteArray) : Option (Bool) := (f_slices_Index_string.f a0 a1) >>= fun t1710 => some (decide (t1710 ≥ (0 : Int)))
theorem f_slices_Contains_string.ok (a0 : List ByteArray) (a1 : ByteArray) (r : Bool) (H : f_slices_Contains_string.f a0 a1 = some r) : Pv.Fn Try.prog 75 [.im (.row (a0.map encStr)), sV a1] [] 0 (fun x o => x = bV r ∧ o = []) := by
  unfold f_slices_Contains_string.f at H
  refine Fn.bodyK [] Try.func75 rfl rfl (fun Γ hP hn => ?_)
  have hm : Try.prog.follows .mixedOrders = true := by kernel_rfl
  replace hn : Γ.n = 9 := hn
  refine AWp.seq ?_
  refine reg hP hn hm [] [0, 1] [] ⟨[(0, .im (.row (a0.map encStr))), (1, sV a1)], [], 0⟩ [] (by kernel_rfl) trivial ?_
  refine AWp.seq ?_
  obtain ⟨t1710, e1711, H⟩ := bind_of H
  refine reg hP hn hm [(2, .call [] [] [] [] 0 (iV .i64 t1710) [])] [4] [] ⟨[(4, bV (decide (t1710 ≥ (0 : Int))))], [], 0⟩ [Enters Try.prog 90, Pv.Fn Try.prog 90 [.im (.row (a0.map encStr)), sV a1] [] 0 (fun r o => r = iV .i64 t1710 ∧ o = [])] (by kernel_rfl) ⟨by exact Try.call90, by exact f_slices_Index_string.ok a0 a1 t1710 e1711, trivial⟩ ?_
  refine AWp.conv (inv := []) (vk := []) (e0 := []) (t := ⟨[(4, bV (decide (t1710 ≥ (0 : Int))))], [], 0⟩) (by kernel_rfl) ?_
  refine AWp.ret ?_
  obtain rfl := Option.some.inj H
  exact Exists.intro _ (And.intro (fun _ _ h => h) (And.intro (.inl rfl) (And.intro rfl (And.intro (by kernel_rfl) (by kernel_rfl)))))
def f_label_By_1_2c7.f (a0 : TLabel) (a1_c0 : List ByteArray) : Option (Bool) := (f_slices_Contains_string.f a1_c0 a0.f0) >>= fun t1714 => some (!t1714)
theorem f_label_By_1_2c7.ok (a0 : TLabel) (a1_c0 : List ByteArray) (r : Bool) (H : f_label_By_1_2c7.f a0 a1_c0 = some r) : Pv.Fn Try.prog 74 [.agg (aLabel a0), .ptr 0 0 0] [(0, some (.box 60 [.im (.row (a1_c0.map encStr))]))] 1 (fun x o => x = bV r ∧ o = [(0, some (.box 60 [.im (.row (a1_c0.map encStr))]))]) := by
  unfold f_label_By_1_2c7.f at H
  refine Fn.bodyK [0] Try.func74 rfl rfl (fun Γ hP hn => ?_)
  have hm : Try.prog.follows .mixedOrders = true := by kernel_rfl
  replace hn : Γ.n = 9 := hn
  refine AWp.seq ?_
  refine reg hP hn hm [(0, .k 1)] [1, 2] [0, 1] ⟨[(1, .ptr 0 0 0), (2, .ptr 1 0 0)], [(0, some (.box 60 [.im (.row (a1_c0.map encStr))])), (1, some (.box 67 (aLabel a0)))], 1⟩ [] (by kernel_rfl) trivial ?_
  refine AWp.seq ?_
  obtain ⟨t1714, e1715, H⟩ := bind_of H
  refine reg hP hn hm [(3, .call [] [] [] [] 0 (bV t1714) [])] [3] [0] ⟨[(3, bV (!t1714))], [(0, some (.box 60 [.im (.row (a1_c0.map encStr))]))], 1⟩ [Enters Try.prog 75, Pv.Fn Try.prog 75 [.im (.row (a1_c0.map encStr)), sV a0.f0] [] 0 (fun r o => r = bV t1714 ∧ o = [])] (by kernel_rfl) ⟨by exact Try.call75, by exact f_slices_Contains_string.ok a1_c0 a0.f0 t1714 e1715, trivial⟩ ?_
  refine AWp.conv (inv := [(0, 0)]) (vk := []) (e0 := []) (t := ⟨[(3, bV (!t1714))], [(0, some (.box 60 [.im (.row (a1_c0.map encStr))]))], 1⟩) (by kernel_rfl) ?_
  refine AWp.ret ?_
  obtain rfl := Option.some.inj H
  exact Exists.intro _ (And.intro (fun _ _ h => h) (And.intro (.inl rfl) (And.intro rfl (And.intro (by kernel_rfl) (by kernel_rfl)))))
def f_slices_IndexFunc_api_Label_label_By_1_375.l0 (a0 : List TLabel) (a1_f0_c0 : List ByteArray) (x1724 : Int) : Option (Int ⊕ Unit) := if (decide (x1724 < (a0.length : Int))) = true then ((at? a0 x1724) >>= fun b1731 => (f_label_By_1_2c7.f b1731 a1_f0_c0) >>= fun t1734 => if t1734 = true then (some (.inl x1724)) else (f_slices_IndexFunc_api_Label_label_By_1_375.l0 a0 a1_f0_c0 (IntKind.i64.wrap (x1724 + (1 : Int))))) else (some (.inr ()))
partial_fixpoint
def f_slices_IndexFunc_api_Label_label_By_1_375.f (a0 : List TLabel) (a1_f0_c0 : List ByteArray) : Option (Int) := (f_slices_IndexFunc_api_Label_label_By_1_375.l0 a0 a1_f0_c0 0) >>= fun oo => match oo with | .inl rr => (some rr) | .inr _ => (some (-1))
theorem f_slices_IndexFunc_api_Label_label_By_1_375.ok (a0 : List TLabel) (a1_f0_c0 : List ByteArray) (r : Int) (H : f_slices_IndexFunc_api_Label_label_By_1_375.f a0 a1_f0_c0 = some r) : Pv.Fn Try.prog 88 [.own 0, .fn 74 [.ptr 1 0 0]] [(0, some (.row 2 67 (a0.map eLabel))), (1, some (.box 60 [.im (.row (a1_f0_c0.map encStr))]))] 2 (fun x o => x = iV .i64 r ∧ o = [(0, some (.row 2 67 (a0.map eLabel))), (1, some (.box 60 [.im (.row (a1_f0_c0.map encStr))]))]) := by
  unfold f_slices_IndexFunc_api_Label_label_By_1_375.f at H
  refine Fn.bodyK [0, 1] Try.func88 rfl rfl (fun Γ hP hn => ?_)
  have hm : Try.prog.follows .mixedOrders = true := by kernel_rfl
  replace hn : Γ.n = 19 := hn
  refine AWp.seq ?_
  refine reg hP hn hm [] [0, 1] [0, 1] ⟨[(0, .own 0), (1, .fn 74 [.ptr 1 0 0])], [(0, some (.row 2 67 (a0.map eLabel))), (1, some (.box 60 [.im (.row (a1_f0_c0.map encStr))]))], 2⟩ [] (by kernel_rfl) trivial ?_
  refine AWp.seq ?_
  refine AWp.seq ?_
  refine reg hP hn hm [(1, .any (iV .i64 (a0.length : Int)))] [0, 1, 7, 8] [0, 1] ⟨[(0, .own 0), (1, .fn 74 [.ptr 1 0 0]), (7, iV .i64 (a0.length : Int)), (8, iV .i64 0)], [(0, some (.row 2 67 (a0.map eLabel))), (1, some (.box 60 [.im (.row (a1_f0_c0.map encStr))]))], 2⟩ [((a0.map eLabel).length : Int) = (a0.length : Int)] (by kernel_rfl) ⟨by rw [len_map], trivial⟩ ?_
  refine AWp.block ?_
  obtain ⟨o1737, e1738, H⟩ := bind_of H
  refine AWp.loop (LWp.conv (inv := [(0, 0), (1, 1)]) (vk := []) (e0 := []) (t := ⟨[(0, .own 0), (1, .fn 74 [.ptr 1 0 0]), (7, iV .i64 (a0.length : Int)), (8, iV .i64 0)], [(0, some (.row 2 67 (a0.map eLabel))), (1, some (.box 60 [.im (.row (a1_f0_c0.map encStr))]))], 2⟩) (by kernel_rfl) ?_)
  refine LWp.mono (Q := fun e s => (match (generalizing := false) o1737 with | .inl rr => e = .ret ∧ s.floor = 2 ∧ resOf Try.prog Try.f88 s = some (iV .i64 rr) ∧ ([(0, s.obj 0), (1, s.obj 1)] : List (Nat × Option MObj)) = [(0, some (.row 2 67 (a0.map eLabel))), (1, some (.box 60 [.im (.row (a1_f0_c0.map encStr))]))] | .inr _ => e = .exit 0 ∧ s = ⟨[], [(0, some (.row 2 67 (a0.map eLabel))), (1, some (.box 60 [.im (.row (a1_f0_c0.map encStr))]))], 2⟩)) (LWp.cv (withBody (fun body hbody => ?_))) ?_
  · refine f_slices_IndexFunc_api_Label_label_By_1_375.l0.partial_correctness a0 a1_f0_c0 (motive := fun x1724 o1737 => LWp Γ body (fun e s => ∃ t, Cv Γ s t ∧ (match (generalizing := false) o1737 with | .inl rr => e = .ret ∧ t.floor = 2 ∧ resOf Try.prog Try.f88 t = some (iV .i64 rr) ∧ ([(0, t.obj 0), (1, t.obj 1)] : List (Nat × Option MObj)) = [(0, some (.row 2 67 (a0.map eLabel))), (1, some (.box 60 [.im (.row (a1_f0_c0.map encStr))]))] | .inr _ => e = .exit 0 ∧ t = ⟨[], [(0, some (.row 2 67 (a0.map eLabel))), (1, some (.box 60 [.im (.row (a1_f0_c0.map encStr))]))], 2⟩)) ⟨[(0, .own 0), (1, .fn 74 [.ptr 1 0 0]), (7, iV .i64 (a0.length : Int)), (8, iV .i64 x1724)], [(0, some (.row 2 67 (a0.map eLabel))), (1, some (.box 60 [.im (.row (a1_f0_c0.map encStr))]))], 2⟩) ?_ _ _ e1738
    clear H e1738 o1737; intro self ih x1724 o1737 H
    subst hbody
    refine LWp.round ?_
    refine AWp.seq ?_
    refine reg hP hn hm [] [0, 1, 7, 8, 9] [0, 1] ⟨[(0, .own 0), (1, .fn 74 [.ptr 1 0 0]), (7, iV .i64 (a0.length : Int)), (8, iV .i64 x1724), (9, bV (decide (x1724 < (a0.length : Int))))], [(0, some (.row 2 67 (a0.map eLabel))), (1, some (.box 60 [.im (.row (a1_f0_c0.map encStr))]))], 2⟩ [] (by kernel_rfl) trivial ?_
    refine AWp.seq ?_
    refine AWp.cond (decide (x1724 < (a0.length : Int))) rfl (fun c1725 => ?_) (fun c1725 => ?_)
    · replace H := (ifT c1725).symm.trans H
      refine AWp.skip ?_
      refine AWp.seq ?_
      refine AWp.block ?_
      refine AWp.seq ?_
      refine reg hP hn hm [] [0, 1, 5, 7, 8] [0, 1] ⟨[(0, .own 0), (1, .fn 74 [.ptr 1 0 0]), (5, iV .i64 x1724), (7, iV .i64 (a0.length : Int)), (8, iV .i64 x1724)], [(0, some (.row 2 67 (a0.map eLabel))), (1, some (.box 60 [.im (.row (a1_f0_c0.map encStr))]))], 2⟩ [] (by kernel_rfl) trivial ?_
      refine AWp.seq ?_
      obtain ⟨b1731, p1732, q1733, H⟩ := at_of H
      obtain ⟨t1734, e1735, H⟩ := bind_of H
      refine reg hP hn hm [(4, .c (eLabel b1731)), (5, .call [(1, 0)] [(0, 1)] [] [] 1 (bV t1734) [(0, some (.box 60 [.im (.row (a1_f0_c0.map encStr))]))])] [0, 1, 5, 7, 8, 16] [0, 1] ⟨[(0, .own 0), (1, .fn 74 [.ptr 1 0 0]), (5, iV .i64 x1724), (7, iV .i64 (a0.length : Int)), (8, iV .i64 x1724), (16, bV t1734)], [(0, some (.row 2 67 (a0.map eLabel))), (1, some (.box 60 [.im (.row (a1_f0_c0.map encStr))]))], 2⟩ [0 ≤ x1724, x1724 < (((a0.map eLabel).length : Nat) : Int), (a0.map eLabel)[(Int.toNat (x1724))]? = some (eLabel b1731), Enters Try.prog 74, Pv.Fn Try.prog 74 [.agg (aLabel b1731), .ptr 0 0 0] [(0, some (.box 60 [.im (.row (a1_f0_c0.map encStr))]))] 1 (fun r o => r = bV t1734 ∧ o = [(0, some (.box 60 [.im (.row (a1_f0_c0.map encStr))]))])] (by kernel_rfl) ⟨by exact p1732, by exact el_lt eLabel p1732 q1733, by exact el_map eLabel q1733, by exact Try.call74, by exact f_label_By_1_2c7.ok b1731 a1_f0_c0 t1734 e1735, trivial⟩ ?_
      refine AWp.cond t1734 rfl (fun c1736 => ?_) (fun c1736 => ?_)
      · replace H := (ifT c1736).symm.trans H
        refine AWp.seq ?_
        refine reg hP hn hm [] [4] [0, 1] ⟨[(4, iV .i64 x1724)], [(0, some (.row 2 67 (a0.map eLabel))), (1, some (.box 60 [.im (.row (a1_f0_c0.map encStr))]))], 2⟩ [] (by kernel_rfl) trivial ?_
        refine AWp.conv (inv := [(0, 0), (1, 1)]) (vk := []) (e0 := []) (t := ⟨[(4, iV .i64 x1724)], [(0, some (.row 2 67 (a0.map eLabel))), (1, some (.box 60 [.im (.row (a1_f0_c0.map encStr))]))], 2⟩) (by kernel_rfl) ?_
        refine AWp.ret ?_
        obtain rfl := Option.some.inj H
        exact Exists.intro _ (And.intro (fun _ _ h => h) (And.intro rfl (And.intro rfl (And.intro (by kernel_rfl) (by kernel_rfl)))))
      · replace H := (ifF c1736).symm.trans H
        refine AWp.skip ?_
        refine reg hP hn hm [] [0, 1, 7, 8] [0, 1] ⟨[(0, .own 0), (1, .fn 74 [.ptr 1 0 0]), (7, iV .i64 (a0.length : Int)), (8, iV .i64 (IntKind.i64.wrap (x1724 + (1 : Int))))], [(0, some (.row 2 67 (a0.map eLabel))), (1, some (.box 60 [.im (.row (a1_f0_c0.map encStr))]))], 2⟩ [] (by kernel_rfl) trivial ?_
        exact LWp.conv (inv := [(0, 0), (1, 1)]) (vk := []) (e0 := []) (t := ⟨[(0, .own 0), (1, .fn 74 [.ptr 1 0 0]), (7, iV .i64 (a0.length : Int)), (8, iV .i64 (IntKind.i64.wrap (x1724 + (1 : Int))))], [(0, some (.row 2 67 (a0.map eLabel))), (1, some (.box 60 [.im (.row (a1_f0_c0.map encStr))]))], 2⟩) (by kernel_rfl) (ih _ _ H)
    · replace H := (ifF c1725).symm.trans H
      refine AWp.exit ?_
      obtain rfl := Option.some.inj H
      exact Exists.intro _ (And.intro (fun _ _ h => h.conv (inv := [(0, 0), (1, 1)]) (vk := []) (e0 := []) (t := ⟨[], [(0, some (.row 2 67 (a0.map eLabel))), (1, some (.box 60 [.im (.row (a1_f0_c0.map encStr))]))], 2⟩) (by kernel_rfl)) (And.intro rfl rfl))
  · rcases o1737 with rr | _
    · skip
      rintro e s ⟨rfl, hfl, hres⟩
      obtain rfl := Option.some.inj H
      exact Exists.intro _ (And.intro (fun _ _ h => h) (And.intro (.inl rfl) (And.intro hfl hres)))
    · skip
      rintro e s ⟨rfl, rfl⟩
      refine AWp.seq ?_
      refine reg hP hn hm [] [4] [0, 1] ⟨[(4, iV .i64 (-1))], [(0, some (.row 2 67 (a0.map eLabel))), (1, some (.box 60 [.im (.row (a1_f0_c0.map encStr))]))], 2⟩ [] (by kernel_rfl) trivial ?_
      refine AWp.conv (inv := [(0, 0), (1, 1)]) (vk := []) (e0 := []) (t := ⟨[(4, iV .i64 (-1))], [(0, some (.row 2 67 (a0.map eLabel))), (1, some (.box 60 [.im (.row (a1_f0_c0.map encStr))]))], 2⟩) (by kernel_rfl) ?_
      refine AWp.ret ?_
      obtain rfl := Option.some.inj H
      exact Exists.intro _ (And.intro (fun _ _ h => h) (And.intro (.inl rfl) (And.intro rfl (And.intro (by kernel_rfl) (by kernel_rfl)))))
def f_slices_DeleteFunc_api_Label_label_By_1_375.l0 (a1_f0_c0 : List ByteArray) (x1764 : List TLabel) (x1765 : Int) (x1766 : Int) : Option ((List TLabel) × Int) := if (decide (x1766 < (x1764.length : Int))) = true then ((at? x1764 x1766) >>= fun b1771 => (f_label_By_1_2c7.f b1771 a1_f0_c0) >>= fun t1776 => ((if (!t1776) = true then ((at? x1764 x1765) >>= fun b1782 => some (x1764.set (Int.toNat (x1765)) b1771, IntKind.i64.wrap (x1765 + (1 : Int)))) else (some (x1764, x1765))) : Option ((List TLabel) × Int)) >>= fun oo => match oo with | (x1785, x1786) => (f_slices_DeleteFunc_api_Label_label_By_1_375.l0 a1_f0_c0 x1785 x1786 (IntKind.i64.wrap (x1766 + (1 : Int))))) else (some (x1764, x1765))
partial_fixpoint
def f_slices_DeleteFunc_api_Label_label_By_1_375.f (a0 : List TLabel) (a1_f0_c0 : List ByteArray) : Option (List TLabel) := (f_slices_IndexFunc_api_Label_label_By_1_375.f a0 a1_f0_c0) >>= fun t1741 => if (t1741 == (-1)) = true then (some a0) else ((f_slices_DeleteFunc_api_Label_label_By_1_375.l0 a1_f0_c0 a0 t1741 (IntKind.i64.wrap (t1741 + (1 : Int)))) >>= fun oo => match oo with | (x1787, x1788) => ((chk (0 ≤ x1788 ∧ x1788 ≤ (x1787.length : Int))) >>= fun _ => (chk (0 ≤ x1788 ∧ x1788 ≤ ((x1787.take (Int.toNat x1788) ++ List.replicate (x1787.length - (Int.toNat x1788)) (⟨(⟨#[]⟩ : ByteArray), (⟨#[]⟩ : ByteArray)⟩ : TLabel)).length : Int))) >>= fun _ => some ((x1787.take (Int.toNat x1788) ++ List.replicate (x1787.length - (Int.toNat x1788)) (⟨(⟨#[]⟩ : ByteArray), (⟨#[]⟩ : ByteArray)⟩ : TLabel)).take (Int.toNat (x1788)))))
theorem f_slices_DeleteFunc_api_Label_label_By_1_375.ok (a0 : List TLabel) (a1_f0_c0 : List ByteArray) (r : List TLabel) (H : f_slices_DeleteFunc_api_Label_label_By_1_375.f a0 a1_f0_c0 = some r) : Pv.Fn Try.prog 69 [.own 0, .fn 74 [.ptr 1 0 0]] [(0, some (.row 2 67 (a0.map eLabel))), (1, some (.box 60 [.im (.row (a1_f0_c0.map encStr))]))] 2 (fun x o => x = .own 2 ∧ o = [(0, none), (1, some (.box 60 [.im (.row (a1_f0_c0.map encStr))])), (2, some (.row 2 67 (r.map eLabel)))]) := by
  unfold f_slices_DeleteFunc_api_Label_label_By_1_375.f at H
  refine Fn.bodyK [0, 1, 2] Try.func69 rfl rfl (fun Γ hP hn => ?_)
  have hm : Try.prog.follows .mixedOrders = true := by kernel_rfl
  replace hn : Γ.n = 42 := hn
  refine AWp.seq ?_
  refine reg hP hn hm [] [0, 1] [0, 1] ⟨[(0, .own 0), (1, .fn 74 [.ptr 1 0 0])], [(0, some (.row 2 67 (a0.map eLabel))), (1, some (.box 60 [.im (.row (a1_f0_c0.map encStr))]))], 2⟩ [] (by kernel_rfl) trivial ?_
  refine AWp.seq ?_
  obtain ⟨t1741, e1742, H⟩ := bind_of H
  refine reg hP hn hm [(2, .call [(0, 0), (1, 1)] [(0, 0), (1, 1)] [] [] 2 (iV .i64 t1741) [(0, some (.row 2 67 (a0.map eLabel))), (1, some (.box 60 [.im (.row (a1_f0_c0.map encStr))]))])] [0, 1, 5] [0, 1] ⟨[(0, .own 0), (1, .fn 74 [.ptr 1 0 0]), (5, iV .i64 t1741)], [(0, some (.row 2 67 (a0.map eLabel))), (1, some (.box 60 [.im (.row (a1_f0_c0.map encStr))]))], 2⟩ [Enters Try.prog 88, Pv.Fn Try.prog 88 [.own 0, .fn 74 [.ptr 1 0 0]] [(0, some (.row 2 67 (a0.map eLabel))), (1, some (.box 60 [.im (.row (a1_f0_c0.map encStr))]))] 2 (fun r o => r = iV .i64 t1741 ∧ o = [(0, some (.row 2 67 (a0.map eLabel))), (1, some (.box 60 [.im (.row (a1_f0_c0.map encStr))]))])] (by kernel_rfl) ⟨by exact Try.call88, by exact f_slices_IndexFunc_api_Label_label_By_1_375.ok a0 a1_f0_c0 t1741 e1742, trivial⟩ ?_
  refine AWp.seq ?_
  refine AWp.seq ?_
  refine reg hP hn hm [] [0, 1, 5, 12] [0, 1] ⟨[(0, .own 0), (1, .fn 74 [.ptr 1 0 0]), (5, iV .i64 t1741), (12, bV (t1741 == (-1)))], [(0, some (.row 2 67 (a0.map eLabel))), (1, some (.box 60 [.im (.row (a1_f0_c0.map encStr))]))], 2⟩ [] (by kernel_rfl) trivial ?_
  refine AWp.cond (t1741 == (-1)) rfl (fun c1743 => ?_) (fun c1743 => ?_)
  · replace H := (ifT c1743).symm.trans H
    refine AWp.seq ?_
    refine reg hP hn hm [] [4] [0, 1] ⟨[(4, .own 0)], [(0, some (.row 2 67 (a0.map eLabel))), (1, some (.box 60 [.im (.row (a1_f0_c0.map encStr))]))], 2⟩ [] (by kernel_rfl) trivial ?_
    refine AWp.conv (inv := [(0, 2), (1, 1)]) (vk := []) (e0 := []) (t := ⟨[(4, .own 2)], [(1, some (.box 60 [.im (.row (a1_f0_c0.map encStr))])), (2, some (.row 2 67 (a0.map eLabel)))], 2⟩) (by kernel_rfl) ?_
    refine AWp.ret ?_
    obtain rfl := Option.some.inj H
    exact Exists.intro _ (And.intro (fun _ _ h => h) (And.intro (.inl rfl) (And.intro rfl (And.intro (by kernel_rfl) (by kernel_rfl)))))
  · replace H := (ifF c1743).symm.trans H
    refine AWp.skip ?_
    refine AWp.seq ?_
    refine AWp.seq ?_
    refine reg hP hn hm [] [0, 1, 5, 6] [0, 1] ⟨[(0, .own 0), (1, .fn 74 [.ptr 1 0 0]), (5, iV .i64 t1741), (6, iV .i64 (IntKind.i64.wrap (t1741 + (1 : Int))))], [(0, some (.row 2 67 (a0.map eLabel))), (1, some (.box 60 [.im (.row (a1_f0_c0.map encStr))]))], 2⟩ [] (by kernel_rfl) trivial ?_
    refine AWp.block ?_
    obtain ⟨o1793, e1794, H⟩ := bind_of H
    refine AWp.loop (LWp.conv (inv := [(0, 0), (1, 1)]) (vk := []) (e0 := []) (t := ⟨[(0, .own 0), (1, .fn 74 [.ptr 1 0 0]), (5, iV .i64 t1741), (6, iV .i64 (IntKind.i64.wrap (t1741 + (1 : Int))))], [(0, some (.row 2 67 (a0.map eLabel))), (1, some (.box 60 [.im (.row (a1_f0_c0.map encStr))]))], 2⟩) (by kernel_rfl) ?_)
    refine LWp.mono (Q := fun e s => (match (generalizing := false) o1793 with | (x1787, x1788) => e = .exit 0 ∧ s = ⟨[(0, .own 0), (5, iV .i64 x1788)], [(0, some (.row 2 67 (x1787.map eLabel))), (1, some (.box 60 [.im (.row (a1_f0_c0.map encStr))]))], 2⟩)) (LWp.cv (withBody (fun body hbody => ?_))) ?_
    · refine f_slices_DeleteFunc_api_Label_label_By_1_375.l0.partial_correctness a1_f0_c0 (motive := fun x1764 x1765 x1766 o1793 => LWp Γ body (fun e s => ∃ t, Cv Γ s t ∧ (match (generalizing := false) o1793 with | (x1787, x1788) => e = .exit 0 ∧ t = ⟨[(0, .own 0), (5, iV .i64 x1788)], [(0, some (.row 2 67 (x1787.map eLabel))), (1, some (.box 60 [.im (.row (a1_f0_c0.map encStr))]))], 2⟩)) ⟨[(0, .own 0), (1, .fn 74 [.ptr 1 0 0]), (5, iV .i64 x1765), (6, iV .i64 x1766)], [(0, some (.row 2 67 (x1764.map eLabel))), (1, some (.box 60 [.im (.row (a1_f0_c0.map encStr))]))], 2⟩) ?_ _ _ _ _ e1794
      clear H e1794 o1793; intro self ih x1764 x1765 x1766 o1793 H
      subst hbody
      refine LWp.round ?_
      refine AWp.seq ?_
      refine AWp.seq ?_
      refine reg hP hn hm [(2, .any (iV .i64 (x1764.length : Int)))] [0, 1, 5, 6, 19] [0, 1] ⟨[(0, .own 0), (1, .fn 74 [.ptr 1 0 0]), (5, iV .i64 x1765), (6, iV .i64 x1766), (19, bV (decide (x1766 < (x1764.length : Int))))], [(0, some (.row 2 67 (x1764.map eLabel))), (1, some (.box 60 [.im (.row (a1_f0_c0.map encStr))]))], 2⟩ [((x1764.map eLabel).length : Int) = (x1764.length : Int)] (by kernel_rfl) ⟨by rw [len_map], trivial⟩ ?_
      refine AWp.cond (decide (x1766 < (x1764.length : Int))) rfl (fun c1767 => ?_) (fun c1767 => ?_)
      · replace H := (ifT c1767).symm.trans H
        refine AWp.skip ?_
        refine AWp.seq ?_
        refine AWp.block ?_
        refine AWp.seq ?_
        obtain ⟨b1771, p1772, q1773, H⟩ := at_of H
        refine reg hP hn hm [(3, .c (eLabel b1771)), (4, .k 3)] [0, 1, 5, 6, 7] [0, 1, 3] ⟨[(0, .own 0), (1, .fn 74 [.ptr 1 0 0]), (5, iV .i64 x1765), (6, iV .i64 x1766), (7, .ptr 3 0 0)], [(0, some (.row 2 67 (x1764.map eLabel))), (1, some (.box 60 [.im (.row (a1_f0_c0.map encStr))])), (3, some (.box 67 (aLabel b1771)))], 2⟩ [0 ≤ x1766, x1766 < (((x1764.map eLabel).length : Nat) : Int), (x1764.map eLabel)[(Int.toNat (x1766))]? = some (eLabel b1771)] (by kernel_rfl) ⟨by exact p1772, by exact el_lt eLabel p1772 q1773, by exact el_map eLabel q1773, trivial⟩ ?_
        refine AWp.seq ?_
        obtain ⟨t1776, e1777, H⟩ := bind_of H
        refine reg hP hn hm [(2, .call [(1, 0)] [(0, 1)] [] [] 1 (bV t1776) [(0, some (.box 60 [.im (.row (a1_f0_c0.map encStr))]))])] [0, 1, 5, 6, 7, 29] [0, 1, 3] ⟨[(0, .own 0), (1, .fn 74 [.ptr 1 0 0]), (5, iV .i64 x1765), (6, iV .i64 x1766), (7, .ptr 3 0 0), (29, bV (!t1776))], [(0, some (.row 2 67 (x1764.map eLabel))), (1, some (.box 60 [.im (.row (a1_f0_c0.map encStr))])), (3, some (.box 67 (aLabel b1771)))], 2⟩ [Enters Try.prog 74, Pv.Fn Try.prog 74 [.agg (aLabel b1771), .ptr 0 0 0] [(0, some (.box 60 [.im (.row (a1_f0_c0.map encStr))]))] 1 (fun r o => r = bV t1776 ∧ o = [(0, some (.box 60 [.im (.row (a1_f0_c0.map encStr))]))])] (by kernel_rfl) ⟨by exact Try.call74, by exact f_label_By_1_2c7.ok b1771 a1_f0_c0 t1776 e1777, trivial⟩ ?_
        obtain ⟨o1795, e1796, H⟩ := bind_of H
        refine AWp.mono (Q := fun e s => (match (generalizing := false) o1795 with | (x1785, x1786) => e = .normal ∧ s = ⟨[(0, .own 0), (1, .fn 74 [.ptr 1 0 0]), (5, iV .i64 x1786), (6, iV .i64 x1766)], [(0, some (.row 2 67 (x1785.map eLabel))), (1, some (.box 60 [.im (.row (a1_f0_c0.map encStr))]))], 2⟩)) (AWp.cv ?_) ?_
        · replace H := e1796; clear e1796
          refine AWp.cond (!t1776) rfl (fun c1778 => ?_) (fun c1778 => ?_)
          · replace H := (ifT c1778).symm.trans H
            refine AWp.seq ?_
            obtain ⟨b1782, p1783, q1784, H⟩ := at_of H
            refine reg hP hn hm [(4, .put (eLabel b1782) ((x1764.set (Int.toNat (x1765)) b1771).map eLabel))] [0, 1, 5, 6] [0, 1] ⟨[(0, .own 0), (1, .fn 74 [.ptr 1 0 0]), (5, iV .i64 x1765), (6, iV .i64 x1766)], [(0, some (.row 2 67 ((x1764.set (Int.toNat (x1765)) b1771).map eLabel))), (1, some (.box 60 [.im (.row (a1_f0_c0.map encStr))]))], 2⟩ [0 ≤ x1765, x1765 < (((x1764.map eLabel).length : Nat) : Int), (x1764.map eLabel)[(Int.toNat (x1765))]? = some (eLabel b1782), (x1764.set (Int.toNat (x1765)) b1771).map eLabel = (x1764.map eLabel).set (Int.toNat (x1765)) (splice (eLabel b1782) 0 [sI b1771.f0, sI b1771.f1])] (by kernel_rfl) ⟨by exact p1783, by exact el_lt eLabel p1783 q1784, by exact el_map eLabel q1784, by exact set1 _ _ _ _, trivial⟩ ?_
            refine reg hP hn hm [] [0, 1, 5, 6] [0, 1] ⟨[(0, .own 0), (1, .fn 74 [.ptr 1 0 0]), (5, iV .i64 (IntKind.i64.wrap (x1765 + (1 : Int)))), (6, iV .i64 x1766)], [(0, some (.row 2 67 ((x1764.set (Int.toNat (x1765)) b1771).map eLabel))), (1, some (.box 60 [.im (.row (a1_f0_c0.map encStr))]))], 2⟩ [] (by kernel_rfl) trivial ?_
            obtain rfl := Option.some.inj H
            exact Exists.intro _ (And.intro (fun _ _ h => h.conv (inv := [(0, 0), (1, 1)]) (vk := []) (e0 := []) (t := ⟨[(0, .own 0), (1, .fn 74 [.ptr 1 0 0]), (5, iV .i64 (IntKind.i64.wrap (x1765 + (1 : Int)))), (6, iV .i64 x1766)], [(0, some (.row 2 67 ((x1764.set (Int.toNat (x1765)) b1771).map eLabel))), (1, some (.box 60 [.im (.row (a1_f0_c0.map encStr))]))], 2⟩) (by kernel_rfl)) (And.intro rfl rfl))
          · replace H := (ifF c1778).symm.trans H
            refine AWp.skip ?_
            obtain rfl := Option.some.inj H
            exact Exists.intro _ (And.intro (fun _ _ h => h.conv (inv := [(0, 0), (1, 1)]) (vk := []) (e0 := []) (t := ⟨[(0, .own 0), (1, .fn 74 [.ptr 1 0 0]), (5, iV .i64 x1765), (6, iV .i64 x1766)], [(0, some (.row 2 67 (x1764.map eLabel))), (1, some (.box 60 [.im (.row (a1_f0_c0.map encStr))]))], 2⟩) (by kernel_rfl)) (And.intro rfl rfl))
        · obtain ⟨x1785, x1786⟩ := o1795
          rintro e s ⟨rfl, rfl⟩
          refine reg hP hn hm [] [0, 1, 5, 6] [0, 1] ⟨[(0, .own 0), (1, .fn 74 [.ptr 1 0 0]), (5, iV .i64 x1786), (6, iV .i64 (IntKind.i64.wrap (x1766 + (1 : Int))))], [(0, some (.row 2 67 (x1785.map eLabel))), (1, some (.box 60 [.im (.row (a1_f0_c0.map encStr))]))], 2⟩ [] (by kernel_rfl) trivial ?_
          exact LWp.conv (inv := [(0, 0), (1, 1)]) (vk := []) (e0 := []) (t := ⟨[(0, .own 0), (1, .fn 74 [.ptr 1 0 0]), (5, iV .i64 x1786), (6, iV .i64 (IntKind.i64.wrap (x1766 + (1 : Int))))], [(0, some (.row 2 67 (x1785.map eLabel))), (1, some (.box 60 [.im (.row (a1_f0_c0.map encStr))]))], 2⟩) (by kernel_rfl) (ih _ _ _ _ H)
      · replace H := (ifF c1767).symm.trans H
        refine AWp.exit ?_
        obtain rfl := Option.some.inj H
        exact Exists.intro _ (And.intro (fun _ _ h => h.conv (inv := [(0, 0), (1, 1)]) (vk := []) (e0 := []) (t := ⟨[(0, .own 0), (5, iV .i64 x1765)], [(0, some (.row 2 67 (x1764.map eLabel))), (1, some (.box 60 [.im (.row (a1_f0_c0.map encStr))]))], 2⟩) (by kernel_rfl)) (And.intro rfl rfl))
    · obtain ⟨x1787, x1788⟩ := o1793
      rintro e s ⟨rfl, rfl⟩
      refine AWp.seq ?_
      obtain ⟨c1790, H⟩ := chk_of H
      refine reg hP hn hm [(2, .more (xCutOwn (Int.toNat x1788) (x1787.length - (Int.toNat x1788)))), (3, .more (xClear ((x1787.take (Int.toNat x1788) ++ List.replicate (x1787.length - (Int.toNat x1788)) (⟨(⟨#[]⟩ : ByteArray), (⟨#[]⟩ : ByteArray)⟩ : TLabel)).map eLabel)))] [0, 5] [0, 1] ⟨[(0, .own 0), (5, iV .i64 x1788)], [(0, some (.row 2 67 ((x1787.take (Int.toNat x1788) ++ List.replicate (x1787.length - (Int.toNat x1788)) (⟨(⟨#[]⟩ : ByteArray), (⟨#[]⟩ : ByteArray)⟩ : TLabel)).map eLabel))), (1, some (.box 60 [.im (.row (a1_f0_c0.map encStr))]))], 2⟩ [x1788 = (((Int.toNat x1788) : Nat) : Int), (Int.toNat x1788) + (x1787.length - (Int.toNat x1788)) = (x1787.map eLabel).length, (x1787.take (Int.toNat x1788) ++ List.replicate (x1787.length - (Int.toNat x1788)) (⟨(⟨#[]⟩ : ByteArray), (⟨#[]⟩ : ByteArray)⟩ : TLabel)).map eLabel = (x1787.map eLabel).take (Int.toNat x1788) ++ List.replicate (x1787.length - (Int.toNat x1788)) [sI (⟨#[]⟩ : ByteArray), sI (⟨#[]⟩ : ByteArray)], (Int.toNat x1788) + (x1787.length - (Int.toNat x1788)) = (x1787.map eLabel).length] (by kernel_rfl) ⟨by exact (Int.toNat_of_nonneg c1790.1).symm, by have h := c1790; rw [List.length_map]; omega, by simp, by have h := c1790; rw [List.length_map]; omega, trivial⟩ ?_
      refine AWp.seq ?_
      obtain ⟨c1792, H⟩ := chk_of H
      refine reg hP hn hm [(2, .more (xTake 4 (((x1787.take (Int.toNat x1788) ++ List.replicate (x1787.length - (Int.toNat x1788)) (⟨(⟨#[]⟩ : ByteArray), (⟨#[]⟩ : ByteArray)⟩ : TLabel)).take (Int.toNat (x1788))).map eLabel)))] [4] [1, 4] ⟨[(4, .own 4)], [(1, some (.box 60 [.im (.row (a1_f0_c0.map encStr))])), (4, some (.row 2 67 (((x1787.take (Int.toNat x1788) ++ List.replicate (x1787.length - (Int.toNat x1788)) (⟨(⟨#[]⟩ : ByteArray), (⟨#[]⟩ : ByteArray)⟩ : TLabel)).take (Int.toNat (x1788))).map eLabel)))], 2⟩ [0 ≤ x1788, x1788 ≤ (((x1787.take (Int.toNat x1788) ++ List.replicate (x1787.length - (Int.toNat x1788)) (⟨(⟨#[]⟩ : ByteArray), (⟨#[]⟩ : ByteArray)⟩ : TLabel)).map eLabel).length : Int), ((x1787.take (Int.toNat x1788) ++ List.replicate (x1787.length - (Int.toNat x1788)) (⟨(⟨#[]⟩ : ByteArray), (⟨#[]⟩ : ByteArray)⟩ : TLabel)).take (Int.toNat (x1788))).map eLabel = ((x1787.take (Int.toNat x1788) ++ List.replicate (x1787.length - (Int.toNat x1788)) (⟨(⟨#[]⟩ : ByteArray), (⟨#[]⟩ : ByteArray)⟩ : TLabel)).map eLabel).take (Int.toNat (x1788))] (by kernel_rfl) ⟨by exact c1792.1, by simpa using c1792.2, by simp, trivial⟩ ?_
      refine AWp.conv (inv := [(1, 1), (4, 2)]) (vk := []) (e0 := []) (t := ⟨[(4, .own 2)], [(1, some (.box 60 [.im (.row (a1_f0_c0.map encStr))])), (2, some (.row 2 67 (((x1787.take (Int.toNat x1788) ++ List.replicate (x1787.length - (Int.toNat x1788)) (⟨(⟨#[]⟩ : ByteArray), (⟨#[]⟩ : ByteArray)⟩ : TLabel)).take (Int.toNat (x1788))).map eLabel)))], 2⟩) (by kernel_rfl) ?_
      refine AWp.ret ?_
      obtain rfl := Option.some.inj H
      exact Exists.intro _ (And.intro (fun _ _ h => h) (And.intro (.inl rfl) (And.intro rfl (And.intro (by kernel_rfl) (by kernel_rfl)))))
def f_label_By.f (a0 : List TLabel) (a1 : List ByteArray) : Option (List TLabel) := (f_slices_Clone_api_Label.f a0) >>= fun t1799 => (f_slices_DeleteFunc_api_Label_label_By_1_375.f t1799 a1) >>= fun t1801 => some t1801
theorem f_label_By.ok (a0 : List TLabel) (a1 : List ByteArray) (r : List TLabel) (H : f_label_By.f a0 a1 = some r) : Pv.Fn Try.prog 41 [.im (.row (a0.map eLabel)), .im (.row (a1.map encStr))] [] 0 (fun x o => x = .own 0 ∧ o = [(0, some (.row 2 67 (r.map eLabel)))]) := by
  unfold f_label_By.f at H
  refine Fn.bodyK [0] Try.func41 rfl rfl (fun Γ hP hn => ?_)
  have hm : Try.prog.follows .mixedOrders = true := by kernel_rfl
  replace hn : Γ.n = 9 := hn
  refine AWp.seq ?_
  refine reg hP hn hm [(0, .k 0)] [0, 3] [0] ⟨[(0, .im (.row (a0.map eLabel))), (3, .ptr 0 0 0)], [(0, some (.box 60 [.im (.row (a1.map encStr))]))], 0⟩ [] (by kernel_rfl) trivial ?_
  refine AWp.seq ?_
  obtain ⟨t1799, e1800, H⟩ := bind_of H
  obtain ⟨t1801, e1802, H⟩ := bind_of H
  refine reg hP hn hm [(1, .call [] [(0, 1)] [] [1] 0 (.own 0) [(0, some (.row 2 67 (t1799.map eLabel)))]), (2, .more xFunc), (3, .call [(1, 0), (0, 1)] [(1, 0), (2, 2)] [] [2] 2 (.own 2) [(0, none), (1, some (.box 60 [.im (.row (a1.map encStr))])), (2, some (.row 2 67 (t1801.map eLabel)))])] [4] [2] ⟨[(4, .own 2)], [(2, some (.row 2 67 (t1801.map eLabel)))], 0⟩ [Enters Try.prog 70, Pv.Fn Try.prog 70 [.im (.row (a0.map eLabel))] [] 0 (fun r o => r = .own 0 ∧ o = [(0, some (.row 2 67 (t1799.map eLabel)))]), Enters Try.prog 69, Pv.Fn Try.prog 69 [.own 0, .fn 74 [.ptr 1 0 0]] [(0, some (.row 2 67 (t1799.map eLabel))), (1, some (.box 60 [.im (.row (a1.map encStr))]))] 2 (fun r o => r = .own 2 ∧ o = [(0, none), (1, some (.box 60 [.im (.row (a1.map encStr))])), (2, some (.row 2 67 (t1801.map eLabel)))])] (by kernel_rfl) ⟨by exact Try.call70, by exact f_slices_Clone_api_Label.ok a0 t1799 e1800, by exact Try.call69, by exact f_slices_DeleteFunc_api_Label_label_By_1_375.ok t1799 a1 t1801 e1802, trivial⟩ ?_
  refine AWp.conv (inv := [(2, 0)]) (vk := []) (e0 := []) (t := ⟨[(4, .own 0)], [(0, some (.row 2 67 (t1801.map eLabel)))], 0⟩) (by kernel_rfl) ?_
  refine AWp.ret ?_
  obtain rfl := Option.some.inj H
  exact Exists.intro _ (And.intro (fun _ _ h => h) (And.intro (.inl rfl) (And.intro rfl (And.intro (by kernel_rfl) (by kernel_rfl)))))
end Go.Proofs.Ytjfhobijgkccdaa.PvGA1
