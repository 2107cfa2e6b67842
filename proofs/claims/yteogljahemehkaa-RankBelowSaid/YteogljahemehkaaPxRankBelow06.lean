import Derived.Test.YteogljahemehkaaProg
import Derived.Test.YteogljahemehkaaPxRankBelow05
set_option linter.unusedVariables false
set_option linter.unnecessarySimpa false
set_option linter.unusedSimpArgs false
set_option maxRecDepth 10000
namespace Go.Proofs.Yteogljahemehkaa.PvGC
open Go Go.Pv
def f_hist_tidy.l0 (t859 : List TBucket) (x872 : List TBucket) (x873 : Int) : Option (((List TBucket) × Int) ⊕ (List TBucket)) := if (decide (x873 < (t859.length : Int))) = true then ((at? t859 x873) >>= fun b878 => ((if (b878.f1 == (0 : Int)) = true then (some (.inr x872)) else (((if (decide ((x872.length : Int) > (0 : Int))) = true then ((at? x872 (IntKind.i64.wrap ((x872.length : Int) - (1 : Int)))) >>= fun b887 => some (b887.f0 == b878.f0)) else (some false)) : Option (Bool)) >>= fun x890 => ((if x890 = true then ((at? x872 (IntKind.i64.wrap ((x872.length : Int) - (1 : Int)))) >>= fun b922 => (f_num_Add.f [b922.f1, b878.f1]) >>= fun t925 => if (t925.2 != (0 : Int)) = true then (some (.inl ([], t925.2))) else (some (.inr (x872.set (Int.toNat (IntKind.i64.wrap ((x872.length : Int) - (1 : Int)))) (⟨b922.f0, t925.1⟩ : TBucket))))) else ((chk ((x872.length + [b878].length) * 16 ≤ 140737488355328)) >>= fun _ => some (.inr (x872 ++ [b878])))) : Option (((List TBucket) × Int) ⊕ (List TBucket))) >>= fun oo => match oo with | .inl rr => (some (.inl rr)) | .inr x930 => (some (.inr x930)))) : Option (((List TBucket) × Int) ⊕ (List TBucket))) >>= fun oo => match oo with | .inl rr => (some (.inl rr)) | .inr x931 => (f_hist_tidy.l0 t859 x931 (IntKind.i64.wrap (x873 + (1 : Int))))) else (some (.inr x872))
partial_fixpoint
def f_hist_tidy.f (a0 : List TBucket) : Option ((List TBucket) × Int) := (f_slices_Clone_api_Bucket.f a0) >>= fun t236 => (f_slices_SortStableFunc_api_Bucket_hist_tidy_1.f t236) >>= fun t859 => (f_hist_tidy.l0 t859 [] 0) >>= fun oo => match oo with | .inl rr => (some rr) | .inr x932 => (some (x932, 0))
theorem f_hist_tidy.ok (a0 : List TBucket) (r : (List TBucket) × Int) (H : f_hist_tidy.f a0 = some r) : Pv.Fn Try.prog 102 [.im (.row (a0.map eBucket))] [] 0 (fun x o => x = .tup [.own 0, iV .i64 r.2] ∧ o = [(0, some (.row 2 127 (r.1.map eBucket)))]) := by
  unfold f_hist_tidy.f at H
  refine Fn.bodyK [0] Try.func102 rfl rfl (fun Γ hP hn => ?_)
  have hm : Try.prog.follows .mixedOrders = true := by kernel_rfl
  replace hn : Γ.n = 68 := hn
  refine AWp.seq ?_
  refine reg hP hn hm [] [0] [] ⟨[(0, .im (.row (a0.map eBucket)))], [], 0⟩ [] (by kernel_rfl) trivial ?_
  refine AWp.seq ?_
  refine reg hP hn hm [] [0, 4] [] ⟨[(0, .im (.row (a0.map eBucket))), (4, .none0)], [], 0⟩ [] (by kernel_rfl) trivial ?_
  refine AWp.seq ?_
  obtain ⟨t236, e237, H⟩ := bind_of H
  refine reg hP hn hm [(1, .call [] [(0, 0)] [] [0] 0 (.own 0) [(0, some (.row 2 127 (t236.map eBucket)))])] [0, 4] [0] ⟨[(0, .own 0), (4, .none0)], [(0, some (.row 2 127 (t236.map eBucket)))], 0⟩ [Enters Try.prog 131, Pv.Fn Try.prog 131 [.im (.row (a0.map eBucket))] [] 0 (fun r o => r = .own 0 ∧ o = [(0, some (.row 2 127 (t236.map eBucket)))])] (by kernel_rfl) ⟨by exact Try.call131, by exact f_slices_Clone_api_Bucket.ok a0 t236 e237, trivial⟩ ?_
  refine AWp.seq ?_
  obtain ⟨t859, e860, H⟩ := bind_of H
  refine reg hP hn hm [(1, .call [(0, 0)] [(0, 0)] [] [] 1 (.tup []) [(0, some (.row 2 127 (t859.map eBucket)))])] [0, 4] [0] ⟨[(0, .own 0), (4, .none0)], [(0, some (.row 2 127 (t859.map eBucket)))], 0⟩ [Enters Try.prog 132, Pv.Fn Try.prog 132 [.own 0, .im (.sc (.func (.func 133) #[] #[]))] [(0, some (.row 2 127 (t236.map eBucket)))] 1 (fun r o => r = .tup [] ∧ o = [(0, some (.row 2 127 (t859.map eBucket)))])] (by kernel_rfl) ⟨by exact Try.call132, by exact f_slices_SortStableFunc_api_Bucket_hist_tidy_1.ok t236 t859 e860, trivial⟩ ?_
  refine AWp.seq ?_
  refine AWp.seq ?_
  refine reg hP hn hm [(1, .any (iV .i64 (t859.length : Int)))] [4, 14, 15, 16] [0] ⟨[(4, .none0), (14, .own 0), (15, iV .i64 (t859.length : Int)), (16, iV .i64 0)], [(0, some (.row 2 127 (t859.map eBucket)))], 0⟩ [((t859.map eBucket).length : Int) = (t859.length : Int)] (by kernel_rfl) ⟨by rw [len_map], trivial⟩ ?_
  refine AWp.block ?_
  obtain ⟨o933, e934, H⟩ := bind_of H
  refine AWp.loop (LWp.conv (inv := [(0, 7)]) (vk := []) (e0 := [6]) (t := ⟨[(4, .own 6), (14, .own 7), (15, iV .i64 (t859.length : Int)), (16, iV .i64 0)], [(6, some (.row 2 127 ([].map eBucket))), (7, some (.row 2 127 (t859.map eBucket)))], 0⟩) (by kernel_rfl) ?_)
  refine LWp.mono (Q := fun e s => (match (generalizing := false) o933 with | .inl rr => e = .ret ∧ s.floor = 0 ∧ resOf Try.prog Try.f102 s = some (.tup [.own 0, iV .i64 rr.2]) ∧ ([(0, s.obj 0)] : List (Nat × Option MObj)) = [(0, some (.row 2 127 (rr.1.map eBucket)))] | .inr x932 => e = .exit 0 ∧ s = ⟨[(4, .own 19)], [(19, some (.row 2 127 (x932.map eBucket)))], 0⟩)) (LWp.cv (withBody (fun body hbody => ?_))) ?_
  · refine f_hist_tidy.l0.partial_correctness t859 (motive := fun x872 x873 o933 => LWp Γ body (fun e s => ∃ t, Cv Γ s t ∧ (match (generalizing := false) o933 with | .inl rr => e = .ret ∧ t.floor = 0 ∧ resOf Try.prog Try.f102 t = some (.tup [.own 0, iV .i64 rr.2]) ∧ ([(0, t.obj 0)] : List (Nat × Option MObj)) = [(0, some (.row 2 127 (rr.1.map eBucket)))] | .inr x932 => e = .exit 0 ∧ t = ⟨[(4, .own 19)], [(19, some (.row 2 127 (x932.map eBucket)))], 0⟩)) ⟨[(4, .own 6), (14, .own 7), (15, iV .i64 (t859.length : Int)), (16, iV .i64 x873)], [(6, some (.row 2 127 (x872.map eBucket))), (7, some (.row 2 127 (t859.map eBucket)))], 0⟩) ?_ _ _ _ e934
    clear H e934 o933; intro self ih x872 x873 o933 H
    subst hbody
    refine LWp.round ?_
    refine AWp.seq ?_
    refine reg hP hn hm [] [4, 14, 15, 16, 17] [6, 7] ⟨[(4, .own 6), (14, .own 7), (15, iV .i64 (t859.length : Int)), (16, iV .i64 x873), (17, bV (decide (x873 < (t859.length : Int))))], [(6, some (.row 2 127 (x872.map eBucket))), (7, some (.row 2 127 (t859.map eBucket)))], 0⟩ [] (by kernel_rfl) trivial ?_
    refine AWp.seq ?_
    refine AWp.cond (decide (x873 < (t859.length : Int))) rfl (fun c874 => ?_) (fun c874 => ?_)
    · replace H := (ifT c874).symm.trans H
      refine AWp.skip ?_
      refine AWp.seq ?_
      refine AWp.block ?_
      refine AWp.seq ?_
      obtain ⟨b878, p879, q880, H⟩ := at_of H
      refine reg hP hn hm [(1, .c (eBucket b878)), (2, .k 8)] [4, 6, 14, 15, 16] [6, 7, 8] ⟨[(4, .own 6), (6, .ptr 8 0 0), (14, .own 7), (15, iV .i64 (t859.length : Int)), (16, iV .i64 x873)], [(6, some (.row 2 127 (x872.map eBucket))), (7, some (.row 2 127 (t859.map eBucket))), (8, some (.box 127 (aBucket b878)))], 0⟩ [0 ≤ x873, x873 < (((t859.map eBucket).length : Nat) : Int), (t859.map eBucket)[(Int.toNat (x873))]? = some (eBucket b878)] (by kernel_rfl) ⟨by exact p879, by exact el_lt eBucket p879 q880, by exact el_map eBucket q880, trivial⟩ ?_
      refine AWp.seq ?_
      refine reg hP hn hm [(1, .any (iV .i64 (x872.length : Int)))] [4, 6, 7, 14, 15, 16] [6, 7, 8] ⟨[(4, .own 6), (6, .ptr 8 0 0), (7, iV .i64 (x872.length : Int)), (14, .own 7), (15, iV .i64 (t859.length : Int)), (16, iV .i64 x873)], [(6, some (.row 2 127 (x872.map eBucket))), (7, some (.row 2 127 (t859.map eBucket))), (8, some (.box 127 (aBucket b878)))], 0⟩ [((x872.map eBucket).length : Int) = (x872.length : Int)] (by kernel_rfl) ⟨by rw [len_map], trivial⟩ ?_
      refine AWp.block ?_
      refine AWp.seq ?_
      refine reg hP hn hm [] [4, 6, 7, 14, 15, 16, 26] [6, 7, 8] ⟨[(4, .own 6), (6, .ptr 8 0 0), (7, iV .i64 (x872.length : Int)), (14, .own 7), (15, iV .i64 (t859.length : Int)), (16, iV .i64 x873), (26, bV (b878.f1 == (0 : Int)))], [(6, some (.row 2 127 (x872.map eBucket))), (7, some (.row 2 127 (t859.map eBucket))), (8, some (.box 127 (aBucket b878)))], 0⟩ [] (by kernel_rfl) trivial ?_
      obtain ⟨o935, e936, H⟩ := bind_of H
      refine AWp.mono (Q := fun e s => (match (generalizing := false) o935 with | .inl rr => e = .ret ∧ s.floor = 0 ∧ resOf Try.prog Try.f102 s = some (.tup [.own 0, iV .i64 rr.2]) ∧ ([(0, s.obj 0)] : List (Nat × Option MObj)) = [(0, some (.row 2 127 (rr.1.map eBucket)))] | .inr x931 => e = .normal ∧ s = ⟨[(4, .own 17), (14, .own 18), (15, iV .i64 (t859.length : Int)), (16, iV .i64 x873)], [(17, some (.row 2 127 (x931.map eBucket))), (18, some (.row 2 127 (t859.map eBucket)))], 0⟩)) (AWp.cv ?_) ?_
      · replace H := e936; clear e936
        refine AWp.cond (b878.f1 == (0 : Int)) rfl (fun c881 => ?_) (fun c881 => ?_)
        · replace H := (ifT c881).symm.trans H
          refine AWp.skip ?_
          obtain rfl := Option.some.inj H
          exact Exists.intro _ (And.intro (fun _ _ h => h.conv (inv := [(6, 17), (7, 18)]) (vk := []) (e0 := []) (t := ⟨[(4, .own 17), (14, .own 18), (15, iV .i64 (t859.length : Int)), (16, iV .i64 x873)], [(17, some (.row 2 127 (x872.map eBucket))), (18, some (.row 2 127 (t859.map eBucket)))], 0⟩) (by kernel_rfl)) (And.intro rfl rfl))
        · replace H := (ifF c881).symm.trans H
          refine AWp.seq ?_
          obtain ⟨o937, e938, H⟩ := bind_of H
          refine AWp.mono (Q := fun e s => (match (generalizing := false) o937 with | x890 => e = .normal ∧ s = ⟨[(4, .own 9), (6, .ptr 10 0 0), (7, iV .i64 (x872.length : Int)), (14, .own 11), (15, iV .i64 (t859.length : Int)), (16, iV .i64 x873), (30, bV x890)], [(9, some (.row 2 127 (x872.map eBucket))), (10, some (.box 127 (aBucket b878))), (11, some (.row 2 127 (t859.map eBucket)))], 0⟩)) (AWp.cv ?_) ?_
          · replace H := e938; clear e938
            rcases Bool.eq_false_or_eq_true (decide ((x872.length : Int) > (0 : Int))) with c886 | c886
            · replace H := (ifT c886).symm.trans H
              obtain ⟨b887, p888, q889, H⟩ := at_of H
              refine reg hP hn hm [(2, .b true), (8, .c (eBucket b887))] [4, 6, 7, 14, 15, 16, 30, 34, 35, 36, 37, 38, 39, 40, 41, 42] [6, 7, 8] ⟨[(4, .own 6), (6, .ptr 8 0 0), (7, iV .i64 (x872.length : Int)), (14, .own 7), (15, iV .i64 (t859.length : Int)), (16, iV .i64 x873), (30, bV (b887.f0 == b878.f0)), (34, .own 6), (35, iV .i64 (x872.length : Int)), (36, iV .i64 (IntKind.i64.wrap ((x872.length : Int) - (1 : Int)))), (37, .ptr 6 (Int.toNat (IntKind.i64.wrap ((x872.length : Int) - (1 : Int)))) 0), (38, .ptr 6 (Int.toNat (IntKind.i64.wrap ((x872.length : Int) - (1 : Int)))) 0), (39, iV .i64 b887.f0), (40, .ptr 8 0 0), (41, iV .i64 b878.f0), (42, bV (b887.f0 == b878.f0))], [(6, some (.row 2 127 (x872.map eBucket))), (7, some (.row 2 127 (t859.map eBucket))), (8, some (.box 127 (aBucket b878)))], 0⟩ [(decide ((x872.length : Int) > (0 : Int))) = true, 0 ≤ (IntKind.i64.wrap ((x872.length : Int) - (1 : Int))), IntKind.i64.wrap ((x872.length : Int) - (1 : Int)) < (((x872.map eBucket).length : Nat) : Int), (x872.map eBucket)[(Int.toNat (IntKind.i64.wrap ((x872.length : Int) - (1 : Int))))]? = some (eBucket b887)] (by kernel_rfl) ⟨by exact c886, by exact p888, by exact el_lt eBucket p888 q889, by exact el_map eBucket q889, trivial⟩ ?_
              obtain rfl := Option.some.inj H
              exact Exists.intro _ (And.intro (fun _ _ h => h.conv (inv := [(6, 9), (8, 10), (7, 11)]) (vk := []) (e0 := []) (t := ⟨[(4, .own 9), (6, .ptr 10 0 0), (7, iV .i64 (x872.length : Int)), (14, .own 11), (15, iV .i64 (t859.length : Int)), (16, iV .i64 x873), (30, bV (b887.f0 == b878.f0))], [(9, some (.row 2 127 (x872.map eBucket))), (10, some (.box 127 (aBucket b878))), (11, some (.row 2 127 (t859.map eBucket)))], 0⟩) (by kernel_rfl)) (And.intro rfl rfl))
            · replace H := (ifF c886).symm.trans H
              refine reg hP hn hm [(2, .b false)] [4, 6, 7, 14, 15, 16, 30] [6, 7, 8] ⟨[(4, .own 6), (6, .ptr 8 0 0), (7, iV .i64 (x872.length : Int)), (14, .own 7), (15, iV .i64 (t859.length : Int)), (16, iV .i64 x873), (30, bV false)], [(6, some (.row 2 127 (x872.map eBucket))), (7, some (.row 2 127 (t859.map eBucket))), (8, some (.box 127 (aBucket b878)))], 0⟩ [(decide ((x872.length : Int) > (0 : Int))) = false] (by kernel_rfl) ⟨by exact c886, trivial⟩ ?_
              obtain rfl := Option.some.inj H
              exact Exists.intro _ (And.intro (fun _ _ h => h.conv (inv := [(6, 9), (8, 10), (7, 11)]) (vk := []) (e0 := []) (t := ⟨[(4, .own 9), (6, .ptr 10 0 0), (7, iV .i64 (x872.length : Int)), (14, .own 11), (15, iV .i64 (t859.length : Int)), (16, iV .i64 x873), (30, bV false)], [(9, some (.row 2 127 (x872.map eBucket))), (10, some (.box 127 (aBucket b878))), (11, some (.row 2 127 (t859.map eBucket)))], 0⟩) (by kernel_rfl)) (And.intro rfl rfl))
          · obtain ⟨x890, rfl⟩ : ∃ z, z = o937 := ⟨_, rfl⟩
            rintro e s ⟨rfl, rfl⟩
            obtain ⟨o939, e940, H⟩ := bind_of H
            refine AWp.mono (Q := fun e s => (match (generalizing := false) o939 with | .inl rr => e = .ret ∧ s.floor = 0 ∧ resOf Try.prog Try.f102 s = some (.tup [.own 0, iV .i64 rr.2]) ∧ ([(0, s.obj 0)] : List (Nat × Option MObj)) = [(0, some (.row 2 127 (rr.1.map eBucket)))] | .inr x930 => e = .normal ∧ s = ⟨[(4, .own 15), (14, .own 16), (15, iV .i64 (t859.length : Int)), (16, iV .i64 x873)], [(15, some (.row 2 127 (x930.map eBucket))), (16, some (.row 2 127 (t859.map eBucket)))], 0⟩)) (AWp.cv ?_) ?_
            · replace H := e940; clear e940
              refine AWp.cond x890 rfl (fun c891 => ?_) (fun c891 => ?_)
              · replace H := (ifT c891).symm.trans H
                refine AWp.seq ?_
                obtain ⟨b922, p923, q924, H⟩ := at_of H
                obtain ⟨t925, e926, H⟩ := bind_of H
                refine reg hP hn hm [(5, .c (eBucket b922)), (8, .app 12 ([b922.f1, b878.f1].map (encInt .u64))), (9, .call [] [] [12] [] 0 (.tup [iV .u64 t925.1, iV .i64 t925.2]) [])] [4, 7, 8, 9, 14, 15, 16] [9, 11] ⟨[(4, .own 9), (7, iV .i64 (x872.length : Int)), (8, iV .u64 t925.1), (9, iV .i64 t925.2), (14, .own 11), (15, iV .i64 (t859.length : Int)), (16, iV .i64 x873)], [(9, some (.row 2 127 (x872.map eBucket))), (11, some (.row 2 127 (t859.map eBucket)))], 0⟩ [0 ≤ (IntKind.i64.wrap ((x872.length : Int) - (1 : Int))), IntKind.i64.wrap ((x872.length : Int) - (1 : Int)) < (((x872.map eBucket).length : Nat) : Int), (x872.map eBucket)[(Int.toNat (IntKind.i64.wrap ((x872.length : Int) - (1 : Int))))]? = some (eBucket b922), [b922.f1, b878.f1].map (encInt .u64) = [[iI .u64 b922.f1], [iI .u64 b878.f1]], Enters Try.prog 107, Pv.Fn Try.prog 107 [.im (.row ([b922.f1, b878.f1].map (encInt .u64)))] [] 0 (fun r o => r = .tup [iV .u64 t925.1, iV .i64 t925.2] ∧ o = [])] (by kernel_rfl) ⟨by exact p923, by exact el_lt eBucket p923 q924, by exact el_map eBucket q924, by exact rfl, by exact Try.call107, by exact f_num_Add.ok [b922.f1, b878.f1] t925 e926, trivial⟩ ?_
                refine AWp.seq ?_
                refine AWp.seq ?_
                refine reg hP hn hm [] [4, 7, 8, 9, 14, 15, 16, 58] [9, 11] ⟨[(4, .own 9), (7, iV .i64 (x872.length : Int)), (8, iV .u64 t925.1), (9, iV .i64 t925.2), (14, .own 11), (15, iV .i64 (t859.length : Int)), (16, iV .i64 x873), (58, bV (t925.2 != (0 : Int)))], [(9, some (.row 2 127 (x872.map eBucket))), (11, some (.row 2 127 (t859.map eBucket)))], 0⟩ [] (by kernel_rfl) trivial ?_
                refine AWp.cond (t925.2 != (0 : Int)) rfl (fun c927 => ?_) (fun c927 => ?_)
                · replace H := (ifT c927).symm.trans H
                  refine AWp.seq ?_
                  refine reg hP hn hm [] [2, 3] [] ⟨[(2, .none0), (3, iV .i64 t925.2)], [], 0⟩ [] (by kernel_rfl) trivial ?_
                  refine AWp.conv (inv := []) (vk := []) (e0 := [0]) (t := ⟨[(2, .own 0), (3, iV .i64 t925.2)], [(0, some (.row 2 127 ([].map eBucket)))], 0⟩) (by kernel_rfl) ?_
                  refine AWp.ret ?_
                  obtain rfl := Option.some.inj H
                  exact Exists.intro _ (And.intro (fun _ _ h => h) (And.intro rfl (And.intro rfl (And.intro (by kernel_rfl) (by kernel_rfl)))))
                · replace H := (ifF c927).symm.trans H
                  refine AWp.skip ?_
                  refine reg hP hn hm [(6, .put (eBucket b922) ((x872.set (Int.toNat (IntKind.i64.wrap ((x872.length : Int) - (1 : Int)))) (⟨b922.f0, t925.1⟩ : TBucket)).map eBucket))] [4, 14, 15, 16] [9, 11] ⟨[(4, .own 9), (14, .own 11), (15, iV .i64 (t859.length : Int)), (16, iV .i64 x873)], [(9, some (.row 2 127 ((x872.set (Int.toNat (IntKind.i64.wrap ((x872.length : Int) - (1 : Int)))) (⟨b922.f0, t925.1⟩ : TBucket)).map eBucket))), (11, some (.row 2 127 (t859.map eBucket)))], 0⟩ [0 ≤ (IntKind.i64.wrap ((x872.length : Int) - (1 : Int))), IntKind.i64.wrap ((x872.length : Int) - (1 : Int)) < (((x872.map eBucket).length : Nat) : Int), (x872.map eBucket)[(Int.toNat (IntKind.i64.wrap ((x872.length : Int) - (1 : Int))))]? = some (eBucket b922), (x872.set (Int.toNat (IntKind.i64.wrap ((x872.length : Int) - (1 : Int)))) (⟨b922.f0, t925.1⟩ : TBucket)).map eBucket = (x872.map eBucket).set (Int.toNat (IntKind.i64.wrap ((x872.length : Int) - (1 : Int)))) (splice (eBucket b922) 1 [iI .u64 t925.1])] (by kernel_rfl) ⟨by exact p923, by exact el_lt eBucket p923 q924, by exact el_map eBucket q924, by exact set1 _ _ _ _, trivial⟩ ?_
                  obtain rfl := Option.some.inj H
                  exact Exists.intro _ (And.intro (fun _ _ h => h.conv (inv := [(9, 15), (11, 16)]) (vk := []) (e0 := []) (t := ⟨[(4, .own 15), (14, .own 16), (15, iV .i64 (t859.length : Int)), (16, iV .i64 x873)], [(15, some (.row 2 127 ((x872.set (Int.toNat (IntKind.i64.wrap ((x872.length : Int) - (1 : Int)))) (⟨b922.f0, t925.1⟩ : TBucket)).map eBucket))), (16, some (.row 2 127 (t859.map eBucket)))], 0⟩) (by kernel_rfl)) (And.intro rfl rfl))
              · replace H := (ifF c891).symm.trans H
                obtain ⟨c929, H⟩ := chk_of H
                refine reg hP hn hm [(2, .app 13 ([b878].map eBucket)), (3, .app 14 ((x872 ++ [b878]).map eBucket))] [4, 14, 15, 16] [11, 14] ⟨[(4, .own 14), (14, .own 11), (15, iV .i64 (t859.length : Int)), (16, iV .i64 x873)], [(11, some (.row 2 127 (t859.map eBucket))), (14, some (.row 2 127 ((x872 ++ [b878]).map eBucket)))], 0⟩ [[b878].map eBucket = [[iI .i64 b878.f0, iI .u64 b878.f1]], (x872 ++ [b878]).map eBucket = (x872.map eBucket) ++ ([b878].map eBucket), ∀ c ∈ ([b878].map eBucket), c.length = 2, ∀ c ∈ ([b878].map eBucket), leaves (c.map .im) = true, ((x872.map eBucket).length + ([b878].map eBucket).length) * 16 ≤ 140737488355328] (by kernel_rfl) ⟨by exact rfl, by simp, by exact all_len _ _ _ (fun _ => rfl), by exact all_leaf _ _ (fun _ => rfl), by simpa using c929, trivial⟩ ?_
                obtain rfl := Option.some.inj H
                exact Exists.intro _ (And.intro (fun _ _ h => h.conv (inv := [(14, 15), (11, 16)]) (vk := []) (e0 := []) (t := ⟨[(4, .own 15), (14, .own 16), (15, iV .i64 (t859.length : Int)), (16, iV .i64 x873)], [(15, some (.row 2 127 ((x872 ++ [b878]).map eBucket))), (16, some (.row 2 127 (t859.map eBucket)))], 0⟩) (by kernel_rfl)) (And.intro rfl rfl))
            · rcases o939 with rr | x930
              · skip
                rintro e s ⟨rfl, hfl, hres⟩
                obtain rfl := Option.some.inj H
                exact Exists.intro _ (And.intro (fun _ _ h => h) (And.intro rfl (And.intro hfl hres)))
              · skip
                rintro e s ⟨rfl, rfl⟩
                obtain rfl := Option.some.inj H
                exact Exists.intro _ (And.intro (fun _ _ h => h.conv (inv := [(15, 17), (16, 18)]) (vk := []) (e0 := []) (t := ⟨[(4, .own 17), (14, .own 18), (15, iV .i64 (t859.length : Int)), (16, iV .i64 x873)], [(17, some (.row 2 127 (x930.map eBucket))), (18, some (.row 2 127 (t859.map eBucket)))], 0⟩) (by kernel_rfl)) (And.intro rfl rfl))
      · rcases o935 with rr | x931
        · skip
          rintro e s ⟨rfl, hfl, hres⟩
          obtain rfl := Option.some.inj H
          exact Exists.intro _ (And.intro (fun _ _ h => h) (And.intro rfl (And.intro hfl hres)))
        · skip
          rintro e s ⟨rfl, rfl⟩
          refine reg hP hn hm [] [4, 14, 15, 16] [17, 18] ⟨[(4, .own 17), (14, .own 18), (15, iV .i64 (t859.length : Int)), (16, iV .i64 (IntKind.i64.wrap (x873 + (1 : Int))))], [(17, some (.row 2 127 (x931.map eBucket))), (18, some (.row 2 127 (t859.map eBucket)))], 0⟩ [] (by kernel_rfl) trivial ?_
          exact LWp.conv (inv := [(17, 6), (18, 7)]) (vk := []) (e0 := []) (t := ⟨[(4, .own 6), (14, .own 7), (15, iV .i64 (t859.length : Int)), (16, iV .i64 (IntKind.i64.wrap (x873 + (1 : Int))))], [(6, some (.row 2 127 (x931.map eBucket))), (7, some (.row 2 127 (t859.map eBucket)))], 0⟩) (by kernel_rfl) (ih _ _ _ H)
    · replace H := (ifF c874).symm.trans H
      refine AWp.exit ?_
      obtain rfl := Option.some.inj H
      exact Exists.intro _ (And.intro (fun _ _ h => h.conv (inv := [(6, 19)]) (vk := []) (e0 := []) (t := ⟨[(4, .own 19)], [(19, some (.row 2 127 (x872.map eBucket)))], 0⟩) (by kernel_rfl)) (And.intro rfl rfl))
  · rcases o933 with rr | x932
    · skip
      rintro e s ⟨rfl, hfl, hres⟩
      obtain rfl := Option.some.inj H
      exact Exists.intro _ (And.intro (fun _ _ h => h) (And.intro (.inl rfl) (And.intro hfl hres)))
    · skip
      rintro e s ⟨rfl, rfl⟩
      refine AWp.seq ?_
      refine reg hP hn hm [] [2, 3] [19] ⟨[(2, .own 19), (3, iV .i64 0)], [(19, some (.row 2 127 (x932.map eBucket)))], 0⟩ [] (by kernel_rfl) trivial ?_
      refine AWp.conv (inv := [(19, 0)]) (vk := []) (e0 := []) (t := ⟨[(2, .own 0), (3, iV .i64 0)], [(0, some (.row 2 127 (x932.map eBucket)))], 0⟩) (by kernel_rfl) ?_
      refine AWp.ret ?_
      obtain rfl := Option.some.inj H
      exact Exists.intro _ (And.intro (fun _ _ h => h) (And.intro (.inl rfl) (And.intro rfl (And.intro (by kernel_rfl) (by kernel_rfl)))))
def f_hist_total.l1 (a0 : List (List TBucket)) (b990 : List TBucket) (x985 : Int) (x1005 : Int) (x1006 : Int) : Option ((Int × Int) ⊕ Int) := if (decide (x1006 < (b990.length : Int))) = true then ((at? b990 x1006) >>= fun b1011 => (f_num_Add.f [x1005, b1011.f1]) >>= fun t1016 => if (t1016.2 != (0 : Int)) = true then (some (.inl (0, t1016.2))) else (f_hist_total.l1 a0 b990 x985 t1016.1 (IntKind.i64.wrap (x1006 + (1 : Int))))) else (some (.inr x1005))
partial_fixpoint
def f_hist_total.l0 (a0 : List (List TBucket)) (x984 : Int) (x985 : Int) : Option ((Int × Int) ⊕ Int) := if (decide (x985 < (a0.length : Int))) = true then ((at? a0 x985) >>= fun b990 => (f_hist_total.l1 a0 b990 x985 x984 0) >>= fun oo => match oo with | .inl rr => (some (.inl rr)) | .inr x1019 => (f_hist_total.l0 a0 x1019 (IntKind.i64.wrap (x985 + (1 : Int))))) else (some (.inr x984))
partial_fixpoint
def f_hist_total.f (a0 : List (List TBucket)) : Option (Int × Int) := (f_hist_total.l0 a0 0 0) >>= fun oo => match oo with | .inl rr => (some rr) | .inr x1020 => (some (x1020, 0))
theorem f_hist_total.ok (a0 : List (List TBucket)) (r : Int × Int) (H : f_hist_total.f a0 = some r) : Pv.Fn Try.prog 103 [.im (.row (a0.map (encRow eBucket)))] [] 0 (fun x o => x = .tup [iV .u64 r.1, iV .i64 r.2] ∧ o = []) := by
  unfold f_hist_total.f at H
  refine Fn.bodyK [] Try.func103 rfl rfl (fun Γ hP hn => ?_)
  have hm : Try.prog.follows .mixedOrders = true := by kernel_rfl
  replace hn : Γ.n = 36 := hn
  refine AWp.seq ?_
  refine reg hP hn hm [] [0] [] ⟨[(0, .im (.row (a0.map (encRow eBucket))))], [], 0⟩ [] (by kernel_rfl) trivial ?_
  refine AWp.seq ?_
  refine reg hP hn hm [] [0, 4] [] ⟨[(0, .im (.row (a0.map (encRow eBucket)))), (4, iV .u64 0)], [], 0⟩ [] (by kernel_rfl) trivial ?_
  refine AWp.seq ?_
  refine AWp.seq ?_
  refine reg hP hn hm [(1, .any (iV .i64 (a0.length : Int)))] [4, 10, 11, 12] [] ⟨[(4, iV .u64 0), (10, .im (.row (a0.map (encRow eBucket)))), (11, iV .i64 (a0.length : Int)), (12, iV .i64 0)], [], 0⟩ [((a0.map (encRow eBucket)).length : Int) = (a0.length : Int)] (by kernel_rfl) ⟨by rw [len_map], trivial⟩ ?_
  refine AWp.block ?_
  obtain ⟨o1021, e1022, H⟩ := bind_of H
  refine AWp.loop (LWp.conv (inv := []) (vk := []) (e0 := []) (t := ⟨[(4, iV .u64 0), (10, .im (.row (a0.map (encRow eBucket)))), (11, iV .i64 (a0.length : Int)), (12, iV .i64 0)], [], 0⟩) (by kernel_rfl) ?_)
  refine LWp.mono (Q := fun e s => (match (generalizing := false) o1021 with | .inl rr => e = .ret ∧ s.floor = 0 ∧ resOf Try.prog Try.f103 s = some (.tup [iV .u64 rr.1, iV .i64 rr.2]) ∧ ([] : List (Nat × Option MObj)) = [] | .inr x1020 => e = .exit 0 ∧ s = ⟨[(4, iV .u64 x1020)], [], 0⟩)) (LWp.cv (withBody (fun body hbody => ?_))) ?_
  · refine f_hist_total.l0.partial_correctness a0 (motive := fun x984 x985 o1021 => LWp Γ body (fun e s => ∃ t, Cv Γ s t ∧ (match (generalizing := false) o1021 with | .inl rr => e = .ret ∧ t.floor = 0 ∧ resOf Try.prog Try.f103 t = some (.tup [iV .u64 rr.1, iV .i64 rr.2]) ∧ ([] : List (Nat × Option MObj)) = [] | .inr x1020 => e = .exit 0 ∧ t = ⟨[(4, iV .u64 x1020)], [], 0⟩)) ⟨[(4, iV .u64 x984), (10, .im (.row (a0.map (encRow eBucket)))), (11, iV .i64 (a0.length : Int)), (12, iV .i64 x985)], [], 0⟩) ?_ _ _ _ e1022
    clear H e1022 o1021; intro self ih x984 x985 o1021 H
    subst hbody
    refine LWp.round ?_
    refine AWp.seq ?_
    refine reg hP hn hm [] [4, 10, 11, 12, 13] [] ⟨[(4, iV .u64 x984), (10, .im (.row (a0.map (encRow eBucket)))), (11, iV .i64 (a0.length : Int)), (12, iV .i64 x985), (13, bV (decide (x985 < (a0.length : Int))))], [], 0⟩ [] (by kernel_rfl) trivial ?_
    refine AWp.seq ?_
    refine AWp.cond (decide (x985 < (a0.length : Int))) rfl (fun c986 => ?_) (fun c986 => ?_)
    · replace H := (ifT c986).symm.trans H
      refine AWp.skip ?_
      refine AWp.seq ?_
      refine AWp.block ?_
      refine AWp.seq ?_
      obtain ⟨b990, p991, q992, H⟩ := at_of H
      refine reg hP hn hm [(0, .c ((encRow eBucket) b990))] [4, 6, 10, 11, 12] [] ⟨[(4, iV .u64 x984), (6, .im (.row (b990.map eBucket))), (10, .im (.row (a0.map (encRow eBucket)))), (11, iV .i64 (a0.length : Int)), (12, iV .i64 x985)], [], 0⟩ [0 ≤ x985, (a0.map (encRow eBucket))[(Int.toNat (x985))]? = some ((encRow eBucket) b990)] (by kernel_rfl) ⟨by exact p991, by exact el_map (encRow eBucket) q992, trivial⟩ ?_
      refine AWp.seq ?_
      refine reg hP hn hm [(1, .any (iV .i64 (b990.length : Int)))] [4, 10, 11, 12, 16, 17, 18] [] ⟨[(4, iV .u64 x984), (10, .im (.row (a0.map (encRow eBucket)))), (11, iV .i64 (a0.length : Int)), (12, iV .i64 x985), (16, .im (.row (b990.map eBucket))), (17, iV .i64 (b990.length : Int)), (18, iV .i64 0)], [], 0⟩ [((b990.map eBucket).length : Int) = (b990.length : Int)] (by kernel_rfl) ⟨by rw [len_map], trivial⟩ ?_
      refine AWp.block ?_
      obtain ⟨o1023, e1024, H⟩ := bind_of H
      refine AWp.loop (LWp.conv (inv := []) (vk := []) (e0 := []) (t := ⟨[(4, iV .u64 x984), (10, .im (.row (a0.map (encRow eBucket)))), (11, iV .i64 (a0.length : Int)), (12, iV .i64 x985), (16, .im (.row (b990.map eBucket))), (17, iV .i64 (b990.length : Int)), (18, iV .i64 0)], [], 0⟩) (by kernel_rfl) ?_)
      refine LWp.mono (Q := fun e s => (match (generalizing := false) o1023 with | .inl rr => e = .ret ∧ s.floor = 0 ∧ resOf Try.prog Try.f103 s = some (.tup [iV .u64 rr.1, iV .i64 rr.2]) ∧ ([] : List (Nat × Option MObj)) = [] | .inr x1019 => e = .exit 2 ∧ s = ⟨[(4, iV .u64 x1019), (10, .im (.row (a0.map (encRow eBucket)))), (11, iV .i64 (a0.length : Int)), (12, iV .i64 x985)], [], 0⟩)) (LWp.cv (withBody (fun body hbody => ?_))) ?_
      · refine f_hist_total.l1.partial_correctness a0 b990 x985 (motive := fun x1005 x1006 o1023 => LWp Γ body (fun e s => ∃ t, Cv Γ s t ∧ (match (generalizing := false) o1023 with | .inl rr => e = .ret ∧ t.floor = 0 ∧ resOf Try.prog Try.f103 t = some (.tup [iV .u64 rr.1, iV .i64 rr.2]) ∧ ([] : List (Nat × Option MObj)) = [] | .inr x1019 => e = .exit 2 ∧ t = ⟨[(4, iV .u64 x1019), (10, .im (.row (a0.map (encRow eBucket)))), (11, iV .i64 (a0.length : Int)), (12, iV .i64 x985)], [], 0⟩)) ⟨[(4, iV .u64 x1005), (10, .im (.row (a0.map (encRow eBucket)))), (11, iV .i64 (a0.length : Int)), (12, iV .i64 x985), (16, .im (.row (b990.map eBucket))), (17, iV .i64 (b990.length : Int)), (18, iV .i64 x1006)], [], 0⟩) ?_ _ _ _ e1024
        clear H e1024 o1023; intro self ih x1005 x1006 o1023 H
        subst hbody
        refine LWp.round ?_
        refine AWp.seq ?_
        refine reg hP hn hm [] [4, 10, 11, 12, 16, 17, 18, 19] [] ⟨[(4, iV .u64 x1005), (10, .im (.row (a0.map (encRow eBucket)))), (11, iV .i64 (a0.length : Int)), (12, iV .i64 x985), (16, .im (.row (b990.map eBucket))), (17, iV .i64 (b990.length : Int)), (18, iV .i64 x1006), (19, bV (decide (x1006 < (b990.length : Int))))], [], 0⟩ [] (by kernel_rfl) trivial ?_
        refine AWp.seq ?_
        refine AWp.cond (decide (x1006 < (b990.length : Int))) rfl (fun c1007 => ?_) (fun c1007 => ?_)
        · replace H := (ifT c1007).symm.trans H
          refine AWp.skip ?_
          refine AWp.seq ?_
          refine AWp.block ?_
          refine AWp.seq ?_
          obtain ⟨b1011, p1012, q1013, H⟩ := at_of H
          refine reg hP hn hm [(0, .c (eBucket b1011)), (2, .k 6)] [4, 8, 10, 11, 12, 16, 17, 18] [6] ⟨[(4, iV .u64 x1005), (8, .ptr 6 0 0), (10, .im (.row (a0.map (encRow eBucket)))), (11, iV .i64 (a0.length : Int)), (12, iV .i64 x985), (16, .im (.row (b990.map eBucket))), (17, iV .i64 (b990.length : Int)), (18, iV .i64 x1006)], [(6, some (.box 127 (aBucket b1011)))], 0⟩ [0 ≤ x1006, (b990.map eBucket)[(Int.toNat (x1006))]? = some (eBucket b1011)] (by kernel_rfl) ⟨by exact p1012, by exact el_map eBucket q1013, trivial⟩ ?_
          refine AWp.seq ?_
          refine reg hP hn hm [] [4, 8, 10, 11, 12, 16, 17, 18] [6] ⟨[(4, iV .u64 x1005), (8, .ptr 6 0 0), (10, .im (.row (a0.map (encRow eBucket)))), (11, iV .i64 (a0.length : Int)), (12, iV .i64 x985), (16, .im (.row (b990.map eBucket))), (17, iV .i64 (b990.length : Int)), (18, iV .i64 x1006)], [(6, some (.box 127 (aBucket b1011)))], 0⟩ [] (by kernel_rfl) trivial ?_
          refine AWp.seq ?_
          obtain ⟨t1016, e1017, H⟩ := bind_of H
          refine reg hP hn hm [(3, .app 7 ([x1005, b1011.f1].map (encInt .u64))), (4, .call [] [] [7] [] 0 (.tup [iV .u64 t1016.1, iV .i64 t1016.2]) [])] [4, 9, 10, 11, 12, 16, 17, 18] [] ⟨[(4, iV .u64 t1016.1), (9, iV .i64 t1016.2), (10, .im (.row (a0.map (encRow eBucket)))), (11, iV .i64 (a0.length : Int)), (12, iV .i64 x985), (16, .im (.row (b990.map eBucket))), (17, iV .i64 (b990.length : Int)), (18, iV .i64 x1006)], [], 0⟩ [[x1005, b1011.f1].map (encInt .u64) = [[iI .u64 x1005], [iI .u64 b1011.f1]], Enters Try.prog 107, Pv.Fn Try.prog 107 [.im (.row ([x1005, b1011.f1].map (encInt .u64)))] [] 0 (fun r o => r = .tup [iV .u64 t1016.1, iV .i64 t1016.2] ∧ o = [])] (by kernel_rfl) ⟨by exact rfl, by exact Try.call107, by exact f_num_Add.ok [x1005, b1011.f1] t1016 e1017, trivial⟩ ?_
          refine AWp.seq ?_
          refine reg hP hn hm [] [4, 9, 10, 11, 12, 16, 17, 18, 31] [] ⟨[(4, iV .u64 t1016.1), (9, iV .i64 t1016.2), (10, .im (.row (a0.map (encRow eBucket)))), (11, iV .i64 (a0.length : Int)), (12, iV .i64 x985), (16, .im (.row (b990.map eBucket))), (17, iV .i64 (b990.length : Int)), (18, iV .i64 x1006), (31, bV (t1016.2 != (0 : Int)))], [], 0⟩ [] (by kernel_rfl) trivial ?_
          refine AWp.cond (t1016.2 != (0 : Int)) rfl (fun c1018 => ?_) (fun c1018 => ?_)
          · replace H := (ifT c1018).symm.trans H
            refine AWp.seq ?_
            refine reg hP hn hm [] [2, 3] [] ⟨[(2, iV .u64 0), (3, iV .i64 t1016.2)], [], 0⟩ [] (by kernel_rfl) trivial ?_
            refine AWp.conv (inv := []) (vk := []) (e0 := []) (t := ⟨[(2, iV .u64 0), (3, iV .i64 t1016.2)], [], 0⟩) (by kernel_rfl) ?_
            refine AWp.ret ?_
            obtain rfl := Option.some.inj H
            exact Exists.intro _ (And.intro (fun _ _ h => h) (And.intro rfl (And.intro rfl (And.intro (by kernel_rfl) (by kernel_rfl)))))
          · replace H := (ifF c1018).symm.trans H
            refine AWp.skip ?_
            refine reg hP hn hm [] [4, 10, 11, 12, 16, 17, 18] [] ⟨[(4, iV .u64 t1016.1), (10, .im (.row (a0.map (encRow eBucket)))), (11, iV .i64 (a0.length : Int)), (12, iV .i64 x985), (16, .im (.row (b990.map eBucket))), (17, iV .i64 (b990.length : Int)), (18, iV .i64 (IntKind.i64.wrap (x1006 + (1 : Int))))], [], 0⟩ [] (by kernel_rfl) trivial ?_
            exact LWp.conv (inv := []) (vk := []) (e0 := []) (t := ⟨[(4, iV .u64 t1016.1), (10, .im (.row (a0.map (encRow eBucket)))), (11, iV .i64 (a0.length : Int)), (12, iV .i64 x985), (16, .im (.row (b990.map eBucket))), (17, iV .i64 (b990.length : Int)), (18, iV .i64 (IntKind.i64.wrap (x1006 + (1 : Int))))], [], 0⟩) (by kernel_rfl) (ih _ _ _ H)
        · replace H := (ifF c1007).symm.trans H
          refine AWp.exit ?_
          obtain rfl := Option.some.inj H
          exact Exists.intro _ (And.intro (fun _ _ h => h.conv (inv := []) (vk := []) (e0 := []) (t := ⟨[(4, iV .u64 x1005), (10, .im (.row (a0.map (encRow eBucket)))), (11, iV .i64 (a0.length : Int)), (12, iV .i64 x985)], [], 0⟩) (by kernel_rfl)) (And.intro rfl rfl))
      · rcases o1023 with rr | x1019
        · skip
          rintro e s ⟨rfl, hfl, hres⟩
          obtain rfl := Option.some.inj H
          exact Exists.intro _ (And.intro (fun _ _ h => h) (And.intro rfl (And.intro hfl hres)))
        · skip
          rintro e s ⟨rfl, rfl⟩
          refine reg hP hn hm [] [4, 10, 11, 12] [] ⟨[(4, iV .u64 x1019), (10, .im (.row (a0.map (encRow eBucket)))), (11, iV .i64 (a0.length : Int)), (12, iV .i64 (IntKind.i64.wrap (x985 + (1 : Int))))], [], 0⟩ [] (by kernel_rfl) trivial ?_
          exact LWp.conv (inv := []) (vk := []) (e0 := []) (t := ⟨[(4, iV .u64 x1019), (10, .im (.row (a0.map (encRow eBucket)))), (11, iV .i64 (a0.length : Int)), (12, iV .i64 (IntKind.i64.wrap (x985 + (1 : Int))))], [], 0⟩) (by kernel_rfl) (ih _ _ _ H)
    · replace H := (ifF c986).symm.trans H
      refine AWp.exit ?_
      obtain rfl := Option.some.inj H
      exact Exists.intro _ (And.intro (fun _ _ h => h.conv (inv := []) (vk := []) (e0 := []) (t := ⟨[(4, iV .u64 x984)], [], 0⟩) (by kernel_rfl)) (And.intro rfl rfl))
  · rcases o1021 with rr | x1020
    · skip
      rintro e s ⟨rfl, hfl, hres⟩
      obtain rfl := Option.some.inj H
      exact Exists.intro _ (And.intro (fun _ _ h => h) (And.intro (.inl rfl) (And.intro hfl hres)))
    · skip
      rintro e s ⟨rfl, rfl⟩
      refine AWp.seq ?_
      refine reg hP hn hm [] [2, 3] [] ⟨[(2, iV .u64 x1020), (3, iV .i64 0)], [], 0⟩ [] (by kernel_rfl) trivial ?_
      refine AWp.conv (inv := []) (vk := []) (e0 := []) (t := ⟨[(2, iV .u64 x1020), (3, iV .i64 0)], [], 0⟩) (by kernel_rfl) ?_
      refine AWp.ret ?_
      obtain rfl := Option.some.inj H
      exact Exists.intro _ (And.intro (fun _ _ h => h) (And.intro (.inl rfl) (And.intro rfl (And.intro (by kernel_rfl) (by kernel_rfl)))))
def f_bound_Right.f (a0 : Int) : Option (Bool) := ((if (decide (a0 ≥ (-4))) = true then (some (decide (a0 ≤ (8 : Int)))) else (some false)) : Option (Bool)) >>= fun x1038 => some x1038
theorem f_bound_Right.ok (a0 : Int) (r : Bool) (H : f_bound_Right.f a0 = some r) : Pv.Fn Try.prog 80 [iV .i64 a0] [] 0 (fun x o => x = bV r ∧ o = []) := by
  unfold f_bound_Right.f at H
  refine Fn.bodyK [] Try.func80 rfl rfl (fun Γ hP hn => ?_)
  have hm : Try.prog.follows .mixedOrders = true := by kernel_rfl
  replace hn : Γ.n = 9 := hn
  refine AWp.seq ?_
  refine reg hP hn hm [] [0] [] ⟨[(0, iV .i64 a0)], [], 0⟩ [] (by kernel_rfl) trivial ?_
  refine AWp.seq ?_
  obtain ⟨o1039, e1040, H⟩ := bind_of H
  refine AWp.mono (Q := fun e s => (match (generalizing := false) o1039 with | x1038 => e = .normal ∧ s = ⟨[(2, bV x1038)], [], 0⟩)) (AWp.cv ?_) ?_
  · replace H := e1040; clear e1040
    rcases Bool.eq_false_or_eq_true (decide (a0 ≥ (-4))) with c1037 | c1037
    · replace H := (ifT c1037).symm.trans H
      refine reg hP hn hm [(2, .b true)] [2] [] ⟨[(2, bV (decide (a0 ≤ (8 : Int))))], [], 0⟩ [(decide (a0 ≥ (-4))) = true] (by kernel_rfl) ⟨by exact c1037, trivial⟩ ?_
      obtain rfl := Option.some.inj H
      exact Exists.intro _ (And.intro (fun _ _ h => h.conv (inv := []) (vk := []) (e0 := []) (t := ⟨[(2, bV (decide (a0 ≤ (8 : Int))))], [], 0⟩) (by kernel_rfl)) (And.intro rfl rfl))
    · replace H := (ifF c1037).symm.trans H
      refine reg hP hn hm [(2, .b false)] [2] [] ⟨[(2, bV false)], [], 0⟩ [(decide (a0 ≥ (-4))) = false] (by kernel_rfl) ⟨by exact c1037, trivial⟩ ?_
      obtain rfl := Option.some.inj H
      exact Exists.intro _ (And.intro (fun _ _ h => h.conv (inv := []) (vk := []) (e0 := []) (t := ⟨[(2, bV false)], [], 0⟩) (by kernel_rfl)) (And.intro rfl rfl))
  · obtain ⟨x1038, rfl⟩ : ∃ z, z = o1039 := ⟨_, rfl⟩
    rintro e s ⟨rfl, rfl⟩
    refine AWp.conv (inv := []) (vk := []) (e0 := []) (t := ⟨[(2, bV x1038)], [], 0⟩) (by kernel_rfl) ?_
    refine AWp.ret ?_
    obtain rfl := Option.some.inj H
    exact Exists.intro _ (And.intro (fun _ _ h => h) (And.intro (.inl rfl) (And.intro rfl (And.intro (by kernel_rfl) (by kernel_rfl)))))
def f_bound_shift.f (a0 : Int) : Option (Unit) := some ()
theorem f_bound_shift.ok (a0 : Int) (r : Unit) (H : f_bound_shift.f a0 = some r) : Pv.Fn Try.prog 85 [iV .i64 a0] [] 0 (fun x o => x = iV .u64 (IntKind.u64.wrap (IntKind.i64.wrap ((8 : Int) - a0))) ∧ o = []) := by
  unfold f_bound_shift.f at H
  refine Fn.bodyK [] Try.func85 rfl rfl (fun Γ hP hn => ?_)
  have hm : Try.prog.follows .mixedOrders = true := by kernel_rfl
  replace hn : Γ.n = 6 := hn
  refine AWp.seq ?_
  refine reg hP hn hm [] [0] [] ⟨[(0, iV .i64 a0)], [], 0⟩ [] (by kernel_rfl) trivial ?_
  refine AWp.seq ?_
  refine reg hP hn hm [] [2] [] ⟨[(2, iV .u64 (IntKind.u64.wrap (IntKind.i64.wrap ((8 : Int) - a0))))], [], 0⟩ [] (by kernel_rfl) trivial ?_
  refine AWp.conv (inv := []) (vk := []) (e0 := []) (t := ⟨[(2, iV .u64 (IntKind.u64.wrap (IntKind.i64.wrap ((8 : Int) - a0))))], [], 0⟩) (by kernel_rfl) ?_
  refine AWp.ret ?_
  obtain rfl := Option.some.inj H
  exact Exists.intro _ (And.intro (fun _ _ h => h) (And.intro (.inl rfl) (And.intro rfl (And.intro (by kernel_rfl) (by kernel_rfl)))))
def f_bound_Most.f (a0 : Int) : Option (Int) := (f_bound_Right.f a0) >>= fun t1065 => if (!t1065) = true then (some 0) else ((f_bound_shift.f a0) >>= fun t1071 => (chk (0 ≤ (IntKind.u64.wrap (IntKind.i64.wrap ((8 : Int) - a0))))) >>= fun _ => some (Int.fdiv (262144 : Int) (2 ^ (min (Int.toNat (IntKind.u64.wrap (IntKind.i64.wrap ((8 : Int) - a0)))) 64))))
theorem f_bound_Most.ok (a0 : Int) (r : Int) (H : f_bound_Most.f a0 = some r) : Pv.Fn Try.prog 113 [iV .i64 a0] [] 0 (fun x o => x = iV .i64 r ∧ o = []) := by
  unfold f_bound_Most.f at H
  refine Fn.bodyK [] Try.func113 rfl rfl (fun Γ hP hn => ?_)
  have hm : Try.prog.follows .mixedOrders = true := by kernel_rfl
  replace hn : Γ.n = 9 := hn
  refine AWp.seq ?_
  refine reg hP hn hm [] [0] [] ⟨[(0, iV .i64 a0)], [], 0⟩ [] (by kernel_rfl) trivial ?_
  refine AWp.seq ?_
  refine AWp.seq ?_
  obtain ⟨t1065, e1066, H⟩ := bind_of H
  refine reg hP hn hm [(1, .call [] [] [] [] 0 (bV t1065) [])] [0, 5] [] ⟨[(0, iV .i64 a0), (5, bV (!t1065))], [], 0⟩ [Enters Try.prog 80, Pv.Fn Try.prog 80 [iV .i64 a0] [] 0 (fun r o => r = bV t1065 ∧ o = [])] (by kernel_rfl) ⟨by exact Try.call80, by exact f_bound_Right.ok a0 t1065 e1066, trivial⟩ ?_
  refine AWp.cond (!t1065) rfl (fun c1067 => ?_) (fun c1067 => ?_)
  · replace H := (ifT c1067).symm.trans H
    refine AWp.seq ?_
    refine reg hP hn hm [] [2] [] ⟨[(2, iV .i64 0)], [], 0⟩ [] (by kernel_rfl) trivial ?_
    refine AWp.conv (inv := []) (vk := []) (e0 := []) (t := ⟨[(2, iV .i64 0)], [], 0⟩) (by kernel_rfl) ?_
    refine AWp.ret ?_
    obtain rfl := Option.some.inj H
    exact Exists.intro _ (And.intro (fun _ _ h => h) (And.intro (.inl rfl) (And.intro rfl (And.intro (by kernel_rfl) (by kernel_rfl)))))
  · replace H := (ifF c1067).symm.trans H
    refine AWp.skip ?_
    refine AWp.seq ?_
    obtain ⟨t1071, e1072, H⟩ := bind_of H
    obtain ⟨c1073, H⟩ := chk_of H
    refine reg hP hn hm [(1, .call [] [] [] [] 0 (iV .u64 (IntKind.u64.wrap (IntKind.i64.wrap ((8 : Int) - a0)))) [])] [2] [] ⟨[(2, iV .i64 (Int.fdiv (262144 : Int) (2 ^ (min (Int.toNat (IntKind.u64.wrap (IntKind.i64.wrap ((8 : Int) - a0)))) 64))))], [], 0⟩ [Enters Try.prog 85, Pv.Fn Try.prog 85 [iV .i64 a0] [] 0 (fun r o => r = iV .u64 (IntKind.u64.wrap (IntKind.i64.wrap ((8 : Int) - a0))) ∧ o = []), 0 ≤ (IntKind.u64.wrap (IntKind.i64.wrap ((8 : Int) - a0)))] (by kernel_rfl) ⟨by exact Try.call85, by exact f_bound_shift.ok a0 t1071 e1072, by exact c1073, trivial⟩ ?_
    refine AWp.conv (inv := []) (vk := []) (e0 := []) (t := ⟨[(2, iV .i64 (Int.fdiv (262144 : Int) (2 ^ (min (Int.toNat (IntKind.u64.wrap (IntKind.i64.wrap ((8 : Int) - a0)))) 64))))], [], 0⟩) (by kernel_rfl) ?_
    refine AWp.ret ?_
    obtain rfl := Option.some.inj H
    exact Exists.intro _ (And.intro (fun _ _ h => h) (And.intro (.inl rfl) (And.intro rfl (And.intro (by kernel_rfl) (by kernel_rfl)))))
def f_bound_Least.f (a0 : Int) : Option (Int) := (f_bound_Most.f a0) >>= fun t1076 => some (IntKind.i64.wrap ((IntKind.i64.wrap (0 - t1076)) + (1 : Int)))
theorem f_bound_Least.ok (a0 : Int) (r : Int) (H : f_bound_Least.f a0 = some r) : Pv.Fn Try.prog 112 [iV .i64 a0] [] 0 (fun x o => x = iV .i64 r ∧ o = []) := by
  unfold f_bound_Least.f at H
  refine Fn.bodyK [] Try.func112 rfl rfl (fun Γ hP hn => ?_)
  have hm : Try.prog.follows .mixedOrders = true := by kernel_rfl
  replace hn : Γ.n = 7 := hn
  refine AWp.seq ?_
  refine reg hP hn hm [] [0] [] ⟨[(0, iV .i64 a0)], [], 0⟩ [] (by kernel_rfl) trivial ?_
  refine AWp.seq ?_
  obtain ⟨t1076, e1077, H⟩ := bind_of H
  refine reg hP hn hm [(1, .call [] [] [] [] 0 (iV .i64 t1076) [])] [2] [] ⟨[(2, iV .i64 (IntKind.i64.wrap ((IntKind.i64.wrap (0 - t1076)) + (1 : Int))))], [], 0⟩ [Enters Try.prog 113, Pv.Fn Try.prog 113 [iV .i64 a0] [] 0 (fun r o => r = iV .i64 t1076 ∧ o = [])] (by kernel_rfl) ⟨by exact Try.call113, by exact f_bound_Most.ok a0 t1076 e1077, trivial⟩ ?_
  refine AWp.conv (inv := []) (vk := []) (e0 := []) (t := ⟨[(2, iV .i64 (IntKind.i64.wrap ((IntKind.i64.wrap (0 - t1076)) + (1 : Int))))], [], 0⟩) (by kernel_rfl) ?_
  refine AWp.ret ?_
  obtain rfl := Option.some.inj H
  exact Exists.intro _ (And.intro (fun _ _ h => h) (And.intro (.inl rfl) (And.intro rfl (And.intro (by kernel_rfl) (by kernel_rfl)))))
def f_bound_In.f (a0 : Int) (a1 : Int) : Option (Bool) := (((f_bound_Right.f a0) >>= fun t1083 => if t1083 = true then ((f_bound_Least.f a0) >>= fun t1086 => if (decide (a1 ≥ t1086)) = true then ((f_bound_Most.f a0) >>= fun t1089 => some (decide (a1 ≤ t1089))) else (some false)) else (some false)) : Option (Bool)) >>= fun x1091 => some x1091
theorem f_bound_In.ok (a0 : Int) (a1 : Int) (r : Bool) (H : f_bound_In.f a0 a1 = some r) : Pv.Fn Try.prog 83 [iV .i64 a0, iV .i64 a1] [] 0 (fun x o => x = bV r ∧ o = []) := by
  unfold f_bound_In.f at H
  refine Fn.bodyK [] Try.func83 rfl rfl (fun Γ hP hn => ?_)
  have hm : Try.prog.follows .mixedOrders = true := by kernel_rfl
  replace hn : Γ.n = 19 := hn
  refine AWp.seq ?_
  refine reg hP hn hm [] [0, 1] [] ⟨[(0, iV .i64 a0), (1, iV .i64 a1)], [], 0⟩ [] (by kernel_rfl) trivial ?_
  refine AWp.seq ?_
  obtain ⟨o1092, e1093, H⟩ := bind_of H
  refine AWp.mono (Q := fun e s => (match (generalizing := false) o1092 with | x1091 => e = .normal ∧ s = ⟨[(4, bV x1091)], [], 0⟩)) (AWp.cv ?_) ?_
  · replace H := e1093; clear e1093
    obtain ⟨t1083, e1084, H⟩ := bind_of H
    rcases Bool.eq_false_or_eq_true t1083 with c1085 | c1085
    · replace H := (ifT c1085).symm.trans H
      obtain ⟨t1086, e1087, H⟩ := bind_of H
      rcases Bool.eq_false_or_eq_true (decide (a1 ≥ t1086)) with c1088 | c1088
      · replace H := (ifT c1088).symm.trans H
        obtain ⟨t1089, e1090, H⟩ := bind_of H
        refine reg hP hn hm [(1, .call [] [] [] [] 0 (bV t1083) []), (2, .b true), (5, .call [] [] [] [] 0 (iV .i64 t1086) []), (8, .b true), (11, .call [] [] [] [] 0 (iV .i64 t1089) [])] [4] [] ⟨[(4, bV (decide (a1 ≤ t1089)))], [], 0⟩ [Enters Try.prog 80, Pv.Fn Try.prog 80 [iV .i64 a0] [] 0 (fun r o => r = bV t1083 ∧ o = []), t1083 = true, Enters Try.prog 112, Pv.Fn Try.prog 112 [iV .i64 a0] [] 0 (fun r o => r = iV .i64 t1086 ∧ o = []), (decide (a1 ≥ t1086)) = true, Enters Try.prog 113, Pv.Fn Try.prog 113 [iV .i64 a0] [] 0 (fun r o => r = iV .i64 t1089 ∧ o = [])] (by kernel_rfl) ⟨by exact Try.call80, by exact f_bound_Right.ok a0 t1083 e1084, by exact c1085, by exact Try.call112, by exact f_bound_Least.ok a0 t1086 e1087, by exact c1088, by exact Try.call113, by exact f_bound_Most.ok a0 t1089 e1090, trivial⟩ ?_
        obtain rfl := Option.some.inj H
        exact Exists.intro _ (And.intro (fun _ _ h => h.conv (inv := []) (vk := []) (e0 := []) (t := ⟨[(4, bV (decide (a1 ≤ t1089)))], [], 0⟩) (by kernel_rfl)) (And.intro rfl rfl))
      · replace H := (ifF c1088).symm.trans H
        refine reg hP hn hm [(1, .call [] [] [] [] 0 (bV t1083) []), (2, .b true), (5, .call [] [] [] [] 0 (iV .i64 t1086) []), (8, .b false)] [4] [] ⟨[(4, bV false)], [], 0⟩ [Enters Try.prog 80, Pv.Fn Try.prog 80 [iV .i64 a0] [] 0 (fun r o => r = bV t1083 ∧ o = []), t1083 = true, Enters Try.prog 112, Pv.Fn Try.prog 112 [iV .i64 a0] [] 0 (fun r o => r = iV .i64 t1086 ∧ o = []), (decide (a1 ≥ t1086)) = false] (by kernel_rfl) ⟨by exact Try.call80, by exact f_bound_Right.ok a0 t1083 e1084, by exact c1085, by exact Try.call112, by exact f_bound_Least.ok a0 t1086 e1087, by exact c1088, trivial⟩ ?_
        obtain rfl := Option.some.inj H
        exact Exists.intro _ (And.intro (fun _ _ h => h.conv (inv := []) (vk := []) (e0 := []) (t := ⟨[(4, bV false)], [], 0⟩) (by kernel_rfl)) (And.intro rfl rfl))
    · replace H := (ifF c1085).symm.trans H
      refine reg hP hn hm [(1, .call [] [] [] [] 0 (bV t1083) []), (2, .b false)] [4] [] ⟨[(4, bV false)], [], 0⟩ [Enters Try.prog 80, Pv.Fn Try.prog 80 [iV .i64 a0] [] 0 (fun r o => r = bV t1083 ∧ o = []), t1083 = false] (by kernel_rfl) ⟨by exact Try.call80, by exact f_bound_Right.ok a0 t1083 e1084, by exact c1085, trivial⟩ ?_
      obtain rfl := Option.some.inj H
      exact Exists.intro _ (And.intro (fun _ _ h => h.conv (inv := []) (vk := []) (e0 := []) (t := ⟨[(4, bV false)], [], 0⟩) (by kernel_rfl)) (And.intro rfl rfl))
  · obtain ⟨x1091, rfl⟩ : ∃ z, z = o1092 := ⟨_, rfl⟩
    rintro e s ⟨rfl, rfl⟩
    refine AWp.conv (inv := []) (vk := []) (e0 := []) (t := ⟨[(4, bV x1091)], [], 0⟩) (by kernel_rfl) ?_
    refine AWp.ret ?_
    obtain rfl := Option.some.inj H
    exact Exists.intro _ (And.intro (fun _ _ h => h) (And.intro (.inl rfl) (And.intro rfl (And.intro (by kernel_rfl) (by kernel_rfl)))))
def f_bound_Units.f (a0 : Int) (a1 : Int) : Option (Int) := (f_bound_Right.f a0) >>= fun t1102 => if (!t1102) = true then (some 0) else ((f_bound_shift.f a0) >>= fun t1108 => (chk (0 ≤ (IntKind.u64.wrap (IntKind.i64.wrap ((8 : Int) - a0))))) >>= fun _ => some (IntKind.i64.wrap (a1 * 2 ^ (min (Int.toNat (IntKind.u64.wrap (IntKind.i64.wrap ((8 : Int) - a0)))) 64))))
theorem f_bound_Units.ok (a0 : Int) (a1 : Int) (r : Int) (H : f_bound_Units.f a0 a1 = some r) : Pv.Fn Try.prog 43 [iV .i64 a0, iV .i64 a1] [] 0 (fun x o => x = iV .i64 r ∧ o = []) := by
  unfold f_bound_Units.f at H
  refine Fn.bodyK [] Try.func43 rfl rfl (fun Γ hP hn => ?_)
  have hm : Try.prog.follows .mixedOrders = true := by kernel_rfl
  replace hn : Γ.n = 12 := hn
  refine AWp.seq ?_
  refine reg hP hn hm [] [0, 1] [] ⟨[(0, iV .i64 a0), (1, iV .i64 a1)], [], 0⟩ [] (by kernel_rfl) trivial ?_
  refine AWp.seq ?_
  refine AWp.seq ?_
  obtain ⟨t1102, e1103, H⟩ := bind_of H
  refine reg hP hn hm [(1, .call [] [] [] [] 0 (bV t1102) [])] [0, 1, 7] [] ⟨[(0, iV .i64 a0), (1, iV .i64 a1), (7, bV (!t1102))], [], 0⟩ [Enters Try.prog 80, Pv.Fn Try.prog 80 [iV .i64 a0] [] 0 (fun r o => r = bV t1102 ∧ o = [])] (by kernel_rfl) ⟨by exact Try.call80, by exact f_bound_Right.ok a0 t1102 e1103, trivial⟩ ?_
  refine AWp.cond (!t1102) rfl (fun c1104 => ?_) (fun c1104 => ?_)
  · replace H := (ifT c1104).symm.trans H
    refine AWp.seq ?_
    refine reg hP hn hm [] [4] [] ⟨[(4, iV .i64 0)], [], 0⟩ [] (by kernel_rfl) trivial ?_
    refine AWp.conv (inv := []) (vk := []) (e0 := []) (t := ⟨[(4, iV .i64 0)], [], 0⟩) (by kernel_rfl) ?_
    refine AWp.ret ?_
    obtain rfl := Option.some.inj H
    exact Exists.intro _ (And.intro (fun _ _ h => h) (And.intro (.inl rfl) (And.intro rfl (And.intro (by kernel_rfl) (by kernel_rfl)))))
  · replace H := (ifF c1104).symm.trans H
    refine AWp.skip ?_
    refine AWp.seq ?_
    obtain ⟨t1108, e1109, H⟩ := bind_of H
    obtain ⟨c1110, H⟩ := chk_of H
    refine reg hP hn hm [(2, .call [] [] [] [] 0 (iV .u64 (IntKind.u64.wrap (IntKind.i64.wrap ((8 : Int) - a0)))) [])] [4] [] ⟨[(4, iV .i64 (IntKind.i64.wrap (a1 * 2 ^ (min (Int.toNat (IntKind.u64.wrap (IntKind.i64.wrap ((8 : Int) - a0)))) 64))))], [], 0⟩ [Enters Try.prog 85, Pv.Fn Try.prog 85 [iV .i64 a0] [] 0 (fun r o => r = iV .u64 (IntKind.u64.wrap (IntKind.i64.wrap ((8 : Int) - a0))) ∧ o = []), 0 ≤ (IntKind.u64.wrap (IntKind.i64.wrap ((8 : Int) - a0)))] (by kernel_rfl) ⟨by exact Try.call85, by exact f_bound_shift.ok a0 t1108 e1109, by exact c1110, trivial⟩ ?_
    refine AWp.conv (inv := []) (vk := []) (e0 := []) (t := ⟨[(4, iV .i64 (IntKind.i64.wrap (a1 * 2 ^ (min (Int.toNat (IntKind.u64.wrap (IntKind.i64.wrap ((8 : Int) - a0)))) 64))))], [], 0⟩) (by kernel_rfl) ?_
    refine AWp.ret ?_
    obtain rfl := Option.some.inj H
    exact Exists.intro _ (And.intro (fun _ _ h => h) (And.intro (.inl rfl) (And.intro rfl (And.intro (by kernel_rfl) (by kernel_rfl)))))
def f_bound_Low.f (a0 : Int) (a1 : Int) : Option (Int) := (f_bound_Units.f a0 (IntKind.i64.wrap (a1 - (1 : Int)))) >>= fun t1113 => some t1113
theorem f_bound_Low.ok (a0 : Int) (a1 : Int) (r : Int) (H : f_bound_Low.f a0 a1 = some r) : Pv.Fn Try.prog 84 [iV .i64 a0, iV .i64 a1] [] 0 (fun x o => x = iV .i64 r ∧ o = []) := by
  unfold f_bound_Low.f at H
  refine Fn.bodyK [] Try.func84 rfl rfl (fun Γ hP hn => ?_)
  have hm : Try.prog.follows .mixedOrders = true := by kernel_rfl
  replace hn : Γ.n = 9 := hn
  refine AWp.seq ?_
  refine reg hP hn hm [] [0, 1] [] ⟨[(0, iV .i64 a0), (1, iV .i64 a1)], [], 0⟩ [] (by kernel_rfl) trivial ?_
  refine AWp.seq ?_
  obtain ⟨t1113, e1114, H⟩ := bind_of H
  refine reg hP hn hm [(3, .call [] [] [] [] 0 (iV .i64 t1113) [])] [4] [] ⟨[(4, iV .i64 t1113)], [], 0⟩ [Enters Try.prog 43, Pv.Fn Try.prog 43 [iV .i64 a0, iV .i64 (IntKind.i64.wrap (a1 - (1 : Int)))] [] 0 (fun r o => r = iV .i64 t1113 ∧ o = [])] (by kernel_rfl) ⟨by exact Try.call43, by exact f_bound_Units.ok a0 (IntKind.i64.wrap (a1 - (1 : Int))) t1113 e1114, trivial⟩ ?_
  refine AWp.conv (inv := []) (vk := []) (e0 := []) (t := ⟨[(4, iV .i64 t1113)], [], 0⟩) (by kernel_rfl) ?_
  refine AWp.ret ?_
  obtain rfl := Option.some.inj H
  exact Exists.intro _ (And.intro (fun _ _ h => h) (And.intro (.inl rfl) (And.intro rfl (And.intro (by kernel_rfl) (by kernel_rfl)))))
def f_hist_buckets.l0 (a0 : THist) (a1 : List TBucket) (x1120 : Int) : Option (Int ⊕ Unit) := if (decide (x1120 < (a1.length : Int))) = true then ((at? a1 x1120) >>= fun b1125 => (f_bound_In.f a0.f1 b1125.f0) >>= fun t1130 => if (!t1130) = true then (some (.inl 4)) else (((if (decide (x1120 > (0 : Int))) = true then ((at? a1 (IntKind.i64.wrap (x1120 - (1 : Int)))) >>= fun b1138 => some (decide (b1138.f0 ≥ b1125.f0))) else (some false)) : Option (Bool)) >>= fun x1141 => if x1141 = true then (some (.inl 32)) else (if (b1125.f1 == (0 : Int)) = true then (some (.inl 21)) else ((f_bound_Low.f a0.f1 b1125.f0) >>= fun t1146 => if (decide (t1146 < a0.f2)) = true then (some (.inl 31)) else (f_hist_buckets.l0 a0 a1 (IntKind.i64.wrap (x1120 + (1 : Int)))))))) else (some (.inr ()))
partial_fixpoint
def f_hist_buckets.f (a0 : THist) (a1 : List TBucket) : Option (Int) := if (decide ((a1.length : Int) > (512 : Int))) = true then (some 9) else ((f_hist_buckets.l0 a0 a1 0) >>= fun oo => match oo with | .inl rr => (some rr) | .inr _ => (some 0))
theorem f_hist_buckets.ok (a0 : THist) (a1 : List TBucket) (r : Int) (H : f_hist_buckets.f a0 a1 = some r) : Pv.Fn Try.prog 135 [.agg (aHist a0), .im (.row (a1.map eBucket))] [] 0 (fun x o => x = iV .i64 r ∧ o = []) := by
  unfold f_hist_buckets.f at H
  refine Fn.bodyK [] Try.func135 rfl rfl (fun Γ hP hn => ?_)
  have hm : Try.prog.follows .mixedOrders = true := by kernel_rfl
  replace hn : Γ.n = 52 := hn
  refine AWp.seq ?_
  refine reg hP hn hm [(0, .k 0)] [1, 2] [0] ⟨[(1, .im (.row (a1.map eBucket))), (2, .ptr 0 0 0)], [(0, some (.box 35 (aHist a0)))], 0⟩ [] (by kernel_rfl) trivial ?_
  refine AWp.seq ?_
  refine AWp.seq ?_
  refine reg hP hn hm [(1, .any (iV .i64 (a1.length : Int)))] [1, 2, 9] [0] ⟨[(1, .im (.row (a1.map eBucket))), (2, .ptr 0 0 0), (9, bV (decide ((a1.length : Int) > (512 : Int))))], [(0, some (.box 35 (aHist a0)))], 0⟩ [((a1.map eBucket).length : Int) = (a1.length : Int)] (by kernel_rfl) ⟨by rw [len_map], trivial⟩ ?_
  refine AWp.cond (decide ((a1.length : Int) > (512 : Int))) rfl (fun c1052 => ?_) (fun c1052 => ?_)
  · replace H := (ifT c1052).symm.trans H
    refine AWp.seq ?_
    refine reg hP hn hm [] [4] [] ⟨[(4, iV .i64 9)], [], 0⟩ [] (by kernel_rfl) trivial ?_
    refine AWp.conv (inv := []) (vk := []) (e0 := []) (t := ⟨[(4, iV .i64 9)], [], 0⟩) (by kernel_rfl) ?_
    refine AWp.ret ?_
    obtain rfl := Option.some.inj H
    exact Exists.intro _ (And.intro (fun _ _ h => h) (And.intro (.inl rfl) (And.intro rfl (And.intro (by kernel_rfl) (by kernel_rfl)))))
  · replace H := (ifF c1052).symm.trans H
    refine AWp.skip ?_
    refine AWp.seq ?_
    refine AWp.seq ?_
    refine reg hP hn hm [(1, .any (iV .i64 (a1.length : Int)))] [1, 2, 10, 11, 12] [0] ⟨[(1, .im (.row (a1.map eBucket))), (2, .ptr 0 0 0), (10, .im (.row (a1.map eBucket))), (11, iV .i64 (a1.length : Int)), (12, iV .i64 0)], [(0, some (.box 35 (aHist a0)))], 0⟩ [((a1.map eBucket).length : Int) = (a1.length : Int)] (by kernel_rfl) ⟨by rw [len_map], trivial⟩ ?_
    refine AWp.block ?_
    obtain ⟨o1149, e1150, H⟩ := bind_of H
    refine AWp.loop (LWp.conv (inv := [(0, 2)]) (vk := []) (e0 := []) (t := ⟨[(1, .im (.row (a1.map eBucket))), (2, .ptr 2 0 0), (10, .im (.row (a1.map eBucket))), (11, iV .i64 (a1.length : Int)), (12, iV .i64 0)], [(2, some (.box 35 (aHist a0)))], 0⟩) (by kernel_rfl) ?_)
    refine LWp.mono (Q := fun e s => (match (generalizing := false) o1149 with | .inl rr => e = .ret ∧ s.floor = 0 ∧ resOf Try.prog Try.f135 s = some (iV .i64 rr) ∧ ([] : List (Nat × Option MObj)) = [] | .inr _ => e = .exit 0 ∧ s = ⟨[], [], 0⟩)) (LWp.cv (withBody (fun body hbody => ?_))) ?_
    · refine f_hist_buckets.l0.partial_correctness a0 a1 (motive := fun x1120 o1149 => LWp Γ body (fun e s => ∃ t, Cv Γ s t ∧ (match (generalizing := false) o1149 with | .inl rr => e = .ret ∧ t.floor = 0 ∧ resOf Try.prog Try.f135 t = some (iV .i64 rr) ∧ ([] : List (Nat × Option MObj)) = [] | .inr _ => e = .exit 0 ∧ t = ⟨[], [], 0⟩)) ⟨[(1, .im (.row (a1.map eBucket))), (2, .ptr 2 0 0), (10, .im (.row (a1.map eBucket))), (11, iV .i64 (a1.length : Int)), (12, iV .i64 x1120)], [(2, some (.box 35 (aHist a0)))], 0⟩) ?_ _ _ e1150
      clear H e1150 o1149; intro self ih x1120 o1149 H
      subst hbody
      refine LWp.round ?_
      refine AWp.seq ?_
      refine reg hP hn hm [] [1, 2, 10, 11, 12, 13] [2] ⟨[(1, .im (.row (a1.map eBucket))), (2, .ptr 2 0 0), (10, .im (.row (a1.map eBucket))), (11, iV .i64 (a1.length : Int)), (12, iV .i64 x1120), (13, bV (decide (x1120 < (a1.length : Int))))], [(2, some (.box 35 (aHist a0)))], 0⟩ [] (by kernel_rfl) trivial ?_
      refine AWp.seq ?_
      refine AWp.cond (decide (x1120 < (a1.length : Int))) rfl (fun c1121 => ?_) (fun c1121 => ?_)
      · replace H := (ifT c1121).symm.trans H
        refine AWp.skip ?_
        refine AWp.seq ?_
        refine AWp.block ?_
        refine AWp.seq ?_
        obtain ⟨b1125, p1126, q1127, H⟩ := at_of H
        refine reg hP hn hm [(1, .c (eBucket b1125)), (3, .k 3)] [1, 2, 5, 6, 10, 11, 12] [2, 3] ⟨[(1, .im (.row (a1.map eBucket))), (2, .ptr 2 0 0), (5, iV .i64 x1120), (6, .ptr 3 0 0), (10, .im (.row (a1.map eBucket))), (11, iV .i64 (a1.length : Int)), (12, iV .i64 x1120)], [(2, some (.box 35 (aHist a0))), (3, some (.box 127 (aBucket b1125)))], 0⟩ [0 ≤ x1120, (a1.map eBucket)[(Int.toNat (x1120))]? = some (eBucket b1125)] (by kernel_rfl) ⟨by exact p1126, by exact el_map eBucket q1127, trivial⟩ ?_
        refine AWp.block ?_
        refine AWp.seq ?_
        obtain ⟨t1130, e1131, H⟩ := bind_of H
        refine reg hP hn hm [(4, .call [] [] [] [] 0 (bV t1130) [])] [1, 2, 5, 6, 10, 11, 12, 17] [2, 3] ⟨[(1, .im (.row (a1.map eBucket))), (2, .ptr 2 0 0), (5, iV .i64 x1120), (6, .ptr 3 0 0), (10, .im (.row (a1.map eBucket))), (11, iV .i64 (a1.length : Int)), (12, iV .i64 x1120), (17, bV (!t1130))], [(2, some (.box 35 (aHist a0))), (3, some (.box 127 (aBucket b1125)))], 0⟩ [Enters Try.prog 83, Pv.Fn Try.prog 83 [iV .i64 a0.f1, iV .i64 b1125.f0] [] 0 (fun r o => r = bV t1130 ∧ o = [])] (by kernel_rfl) ⟨by exact Try.call83, by exact f_bound_In.ok a0.f1 b1125.f0 t1130 e1131, trivial⟩ ?_
        refine AWp.cond (!t1130) rfl (fun c1132 => ?_) (fun c1132 => ?_)
        · replace H := (ifT c1132).symm.trans H
          refine AWp.seq ?_
          refine reg hP hn hm [] [4] [] ⟨[(4, iV .i64 4)], [], 0⟩ [] (by kernel_rfl) trivial ?_
          refine AWp.conv (inv := []) (vk := []) (e0 := []) (t := ⟨[(4, iV .i64 4)], [], 0⟩) (by kernel_rfl) ?_
          refine AWp.ret ?_
          obtain rfl := Option.some.inj H
          exact Exists.intro _ (And.intro (fun _ _ h => h) (And.intro rfl (And.intro rfl (And.intro (by kernel_rfl) (by kernel_rfl)))))
        · replace H := (ifF c1132).symm.trans H
          refine AWp.seq ?_
          obtain ⟨o1151, e1152, H⟩ := bind_of H
          refine AWp.mono (Q := fun e s => (match (generalizing := false) o1151 with | x1141 => e = .normal ∧ s = ⟨[(1, .im (.row (a1.map eBucket))), (2, .ptr 4 0 0), (6, .ptr 5 0 0), (10, .im (.row (a1.map eBucket))), (11, iV .i64 (a1.length : Int)), (12, iV .i64 x1120), (24, bV x1141)], [(4, some (.box 35 (aHist a0))), (5, some (.box 127 (aBucket b1125)))], 0⟩)) (AWp.cv ?_) ?_
          · replace H := e1152; clear e1152
            rcases Bool.eq_false_or_eq_true (decide (x1120 > (0 : Int))) with c1137 | c1137
            · replace H := (ifT c1137).symm.trans H
              obtain ⟨b1138, p1139, q1140, H⟩ := at_of H
              refine reg hP hn hm [(2, .b true), (6, .c (eBucket b1138))] [1, 2, 6, 10, 11, 12, 24, 28, 29, 30, 31, 32, 33, 34, 35, 36] [2, 3] ⟨[(1, .im (.row (a1.map eBucket))), (2, .ptr 2 0 0), (6, .ptr 3 0 0), (10, .im (.row (a1.map eBucket))), (11, iV .i64 (a1.length : Int)), (12, iV .i64 x1120), (24, bV (decide (b1138.f0 ≥ b1125.f0))), (28, .im (.row (a1.map eBucket))), (29, iV .i64 x1120), (30, iV .i64 (IntKind.i64.wrap (x1120 - (1 : Int)))), (31, .ip [iI .i64 b1138.f0, iI .u64 b1138.f1]), (32, .ip [iI .i64 b1138.f0, iI .u64 b1138.f1]), (33, iV .i64 b1138.f0), (34, .ptr 3 0 0), (35, iV .i64 b1125.f0), (36, bV (decide (b1138.f0 ≥ b1125.f0)))], [(2, some (.box 35 (aHist a0))), (3, some (.box 127 (aBucket b1125)))], 0⟩ [(decide (x1120 > (0 : Int))) = true, 0 ≤ (IntKind.i64.wrap (x1120 - (1 : Int))), (a1.map eBucket)[(Int.toNat (IntKind.i64.wrap (x1120 - (1 : Int))))]? = some (eBucket b1138)] (by kernel_rfl) ⟨by exact c1137, by exact p1139, by exact el_map eBucket q1140, trivial⟩ ?_
              obtain rfl := Option.some.inj H
              exact Exists.intro _ (And.intro (fun _ _ h => h.conv (inv := [(2, 4), (3, 5)]) (vk := []) (e0 := []) (t := ⟨[(1, .im (.row (a1.map eBucket))), (2, .ptr 4 0 0), (6, .ptr 5 0 0), (10, .im (.row (a1.map eBucket))), (11, iV .i64 (a1.length : Int)), (12, iV .i64 x1120), (24, bV (decide (b1138.f0 ≥ b1125.f0)))], [(4, some (.box 35 (aHist a0))), (5, some (.box 127 (aBucket b1125)))], 0⟩) (by kernel_rfl)) (And.intro rfl rfl))
            · replace H := (ifF c1137).symm.trans H
              refine reg hP hn hm [(2, .b false)] [1, 2, 6, 10, 11, 12, 24] [2, 3] ⟨[(1, .im (.row (a1.map eBucket))), (2, .ptr 2 0 0), (6, .ptr 3 0 0), (10, .im (.row (a1.map eBucket))), (11, iV .i64 (a1.length : Int)), (12, iV .i64 x1120), (24, bV false)], [(2, some (.box 35 (aHist a0))), (3, some (.box 127 (aBucket b1125)))], 0⟩ [(decide (x1120 > (0 : Int))) = false] (by kernel_rfl) ⟨by exact c1137, trivial⟩ ?_
              obtain rfl := Option.some.inj H
              exact Exists.intro _ (And.intro (fun _ _ h => h.conv (inv := [(2, 4), (3, 5)]) (vk := []) (e0 := []) (t := ⟨[(1, .im (.row (a1.map eBucket))), (2, .ptr 4 0 0), (6, .ptr 5 0 0), (10, .im (.row (a1.map eBucket))), (11, iV .i64 (a1.length : Int)), (12, iV .i64 x1120), (24, bV false)], [(4, some (.box 35 (aHist a0))), (5, some (.box 127 (aBucket b1125)))], 0⟩) (by kernel_rfl)) (And.intro rfl rfl))
          · obtain ⟨x1141, rfl⟩ : ∃ z, z = o1151 := ⟨_, rfl⟩
            rintro e s ⟨rfl, rfl⟩
            refine AWp.cond x1141 rfl (fun c1142 => ?_) (fun c1142 => ?_)
            · replace H := (ifT c1142).symm.trans H
              refine AWp.seq ?_
              refine reg hP hn hm [] [4] [] ⟨[(4, iV .i64 32)], [], 0⟩ [] (by kernel_rfl) trivial ?_
              refine AWp.conv (inv := []) (vk := []) (e0 := []) (t := ⟨[(4, iV .i64 32)], [], 0⟩) (by kernel_rfl) ?_
              refine AWp.ret ?_
              obtain rfl := Option.some.inj H
              exact Exists.intro _ (And.intro (fun _ _ h => h) (And.intro rfl (And.intro rfl (And.intro (by kernel_rfl) (by kernel_rfl)))))
            · replace H := (ifF c1142).symm.trans H
              refine AWp.seq ?_
              refine reg hP hn hm [] [1, 2, 6, 10, 11, 12, 38] [4, 5] ⟨[(1, .im (.row (a1.map eBucket))), (2, .ptr 4 0 0), (6, .ptr 5 0 0), (10, .im (.row (a1.map eBucket))), (11, iV .i64 (a1.length : Int)), (12, iV .i64 x1120), (38, bV (b1125.f1 == (0 : Int)))], [(4, some (.box 35 (aHist a0))), (5, some (.box 127 (aBucket b1125)))], 0⟩ [] (by kernel_rfl) trivial ?_
              refine AWp.cond (b1125.f1 == (0 : Int)) rfl (fun c1143 => ?_) (fun c1143 => ?_)
              · replace H := (ifT c1143).symm.trans H
                refine AWp.seq ?_
                refine reg hP hn hm [] [4] [] ⟨[(4, iV .i64 21)], [], 0⟩ [] (by kernel_rfl) trivial ?_
                refine AWp.conv (inv := []) (vk := []) (e0 := []) (t := ⟨[(4, iV .i64 21)], [], 0⟩) (by kernel_rfl) ?_
                refine AWp.ret ?_
                obtain rfl := Option.some.inj H
                exact Exists.intro _ (And.intro (fun _ _ h => h) (And.intro rfl (And.intro rfl (And.intro (by kernel_rfl) (by kernel_rfl)))))
              · replace H := (ifF c1143).symm.trans H
                refine AWp.seq ?_
                obtain ⟨t1146, e1147, H⟩ := bind_of H
                refine reg hP hn hm [(4, .call [] [] [] [] 0 (iV .i64 t1146) [])] [1, 2, 10, 11, 12, 42] [4] ⟨[(1, .im (.row (a1.map eBucket))), (2, .ptr 4 0 0), (10, .im (.row (a1.map eBucket))), (11, iV .i64 (a1.length : Int)), (12, iV .i64 x1120), (42, bV (decide (t1146 < a0.f2)))], [(4, some (.box 35 (aHist a0)))], 0⟩ [Enters Try.prog 84, Pv.Fn Try.prog 84 [iV .i64 a0.f1, iV .i64 b1125.f0] [] 0 (fun r o => r = iV .i64 t1146 ∧ o = [])] (by kernel_rfl) ⟨by exact Try.call84, by exact f_bound_Low.ok a0.f1 b1125.f0 t1146 e1147, trivial⟩ ?_
                refine AWp.cond (decide (t1146 < a0.f2)) rfl (fun c1148 => ?_) (fun c1148 => ?_)
                · replace H := (ifT c1148).symm.trans H
                  refine AWp.seq ?_
                  refine reg hP hn hm [] [4] [] ⟨[(4, iV .i64 31)], [], 0⟩ [] (by kernel_rfl) trivial ?_
                  refine AWp.conv (inv := []) (vk := []) (e0 := []) (t := ⟨[(4, iV .i64 31)], [], 0⟩) (by kernel_rfl) ?_
                  refine AWp.ret ?_
                  obtain rfl := Option.some.inj H
                  exact Exists.intro _ (And.intro (fun _ _ h => h) (And.intro rfl (And.intro rfl (And.intro (by kernel_rfl) (by kernel_rfl)))))
                · replace H := (ifF c1148).symm.trans H
                  refine AWp.skip ?_
                  refine reg hP hn hm [] [1, 2, 10, 11, 12] [4] ⟨[(1, .im (.row (a1.map eBucket))), (2, .ptr 4 0 0), (10, .im (.row (a1.map eBucket))), (11, iV .i64 (a1.length : Int)), (12, iV .i64 (IntKind.i64.wrap (x1120 + (1 : Int))))], [(4, some (.box 35 (aHist a0)))], 0⟩ [] (by kernel_rfl) trivial ?_
                  exact LWp.conv (inv := [(4, 2)]) (vk := []) (e0 := []) (t := ⟨[(1, .im (.row (a1.map eBucket))), (2, .ptr 2 0 0), (10, .im (.row (a1.map eBucket))), (11, iV .i64 (a1.length : Int)), (12, iV .i64 (IntKind.i64.wrap (x1120 + (1 : Int))))], [(2, some (.box 35 (aHist a0)))], 0⟩) (by kernel_rfl) (ih _ _ H)
      · replace H := (ifF c1121).symm.trans H
        refine AWp.exit ?_
        obtain rfl := Option.some.inj H
        exact Exists.intro _ (And.intro (fun _ _ h => h.conv (inv := []) (vk := []) (e0 := []) (t := ⟨[], [], 0⟩) (by kernel_rfl)) (And.intro rfl rfl))
    · rcases o1149 with rr | _
      · skip
        rintro e s ⟨rfl, hfl, hres⟩
        obtain rfl := Option.some.inj H
        exact Exists.intro _ (And.intro (fun _ _ h => h) (And.intro (.inl rfl) (And.intro hfl hres)))
      · skip
        rintro e s ⟨rfl, rfl⟩
        refine AWp.seq ?_
        refine reg hP hn hm [] [4] [] ⟨[(4, iV .i64 0)], [], 0⟩ [] (by kernel_rfl) trivial ?_
        refine AWp.conv (inv := []) (vk := []) (e0 := []) (t := ⟨[(4, iV .i64 0)], [], 0⟩) (by kernel_rfl) ?_
        refine AWp.ret ?_
        obtain rfl := Option.some.inj H
        exact Exists.intro _ (And.intro (fun _ _ h => h) (And.intro (.inl rfl) (And.intro rfl (And.intro (by kernel_rfl) (by kernel_rfl)))))
def f_hist_Check.l0 (a0 : THist) (x1158 : Int) : Option (Int ⊕ Unit) := if (decide (x1158 < (2 : Int))) = true then ((((chk (0 ≤ x1158 ∧ x1158 < (2 : Int))) >>= fun _ => if (x1158 == (0 : Int)) = true then (some a0.f6) else (some a0.f7)) : Option (List TBucket)) >>= fun x1164 => (f_hist_buckets.f a0 x1164) >>= fun t1167 => if (t1167 != (0 : Int)) = true then (some (.inl t1167)) else (f_hist_Check.l0 a0 (IntKind.i64.wrap (x1158 + (1 : Int))))) else (some (.inr ()))
partial_fixpoint
def f_hist_Check.f (a0 : THist) : Option (Int) := ((if (a0.f0 != (0 : Int)) = true then (some (a0.f0 != (1 : Int))) else (some false)) : Option (Bool)) >>= fun x1034 => if x1034 = true then (some 25) else ((f_bound_Right.f a0.f1) >>= fun t1043 => if (!t1043) = true then (some 20) else (((if (a0.f2 != (-524288)) = true then (if (decide (a0.f2 ≤ (-262144))) = true then (some true) else (some (decide (a0.f2 > (262144 : Int))))) else (some false)) : Option (Bool)) >>= fun x1050 => if x1050 = true then (some 31) else ((f_hist_Check.l0 a0 0) >>= fun oo => match oo with | .inl rr => (some rr) | .inr _ => ((f_hist_total.f [a0.f6, a0.f7, [(⟨0, a0.f3⟩ : TBucket)]]) >>= fun t1172 => if (t1172.2 != (0 : Int)) = true then (some t1172.2) else (if (t1172.1 != a0.f4) = true then (some 21) else (some 0))))))
theorem f_hist_Check.ok (a0 : THist) (r : Int) (H : f_hist_Check.f a0 = some r) : Pv.Fn Try.prog 104 [.agg (aHist a0)] [] 0 (fun x o => x = iV .i64 r ∧ o = []) := by
  unfold f_hist_Check.f at H
  refine Fn.bodyK [] Try.func104 rfl rfl (fun Γ hP hn => ?_)
  have hm : Try.prog.follows .mixedOrders = true := by kernel_rfl
  replace hn : Γ.n = 73 := hn
  refine AWp.seq ?_
  refine reg hP hn hm [(0, .k 0)] [1] [0] ⟨[(1, .ptr 0 0 0)], [(0, some (.box 35 (aHist a0)))], 0⟩ [] (by kernel_rfl) trivial ?_
  refine AWp.seq ?_
  refine AWp.block ?_
  refine AWp.seq ?_
  obtain ⟨o1176, e1177, H⟩ := bind_of H
  refine AWp.mono (Q := fun e s => (match (generalizing := false) o1176 with | x1034 => e = .normal ∧ s = ⟨[(1, .ptr 1 0 0), (8, bV x1034)], [(1, some (.box 35 (aHist a0)))], 0⟩)) (AWp.cv ?_) ?_
  · replace H := e1177; clear e1177
    rcases Bool.eq_false_or_eq_true (a0.f0 != (0 : Int)) with c1033 | c1033
    · replace H := (ifT c1033).symm.trans H
      refine reg hP hn hm [(3, .b true)] [1, 8] [0] ⟨[(1, .ptr 0 0 0), (8, bV (a0.f0 != (1 : Int)))], [(0, some (.box 35 (aHist a0)))], 0⟩ [(a0.f0 != (0 : Int)) = true] (by kernel_rfl) ⟨by exact c1033, trivial⟩ ?_
      obtain rfl := Option.some.inj H
      exact Exists.intro _ (And.intro (fun _ _ h => h.conv (inv := [(0, 1)]) (vk := []) (e0 := []) (t := ⟨[(1, .ptr 1 0 0), (8, bV (a0.f0 != (1 : Int)))], [(1, some (.box 35 (aHist a0)))], 0⟩) (by kernel_rfl)) (And.intro rfl rfl))
    · replace H := (ifF c1033).symm.trans H
      refine reg hP hn hm [(3, .b false)] [1, 8] [0] ⟨[(1, .ptr 0 0 0), (8, bV false)], [(0, some (.box 35 (aHist a0)))], 0⟩ [(a0.f0 != (0 : Int)) = false] (by kernel_rfl) ⟨by exact c1033, trivial⟩ ?_
      obtain rfl := Option.some.inj H
      exact Exists.intro _ (And.intro (fun _ _ h => h.conv (inv := [(0, 1)]) (vk := []) (e0 := []) (t := ⟨[(1, .ptr 1 0 0), (8, bV false)], [(1, some (.box 35 (aHist a0)))], 0⟩) (by kernel_rfl)) (And.intro rfl rfl))
  · obtain ⟨x1034, rfl⟩ : ∃ z, z = o1176 := ⟨_, rfl⟩
    rintro e s ⟨rfl, rfl⟩
    refine AWp.cond x1034 rfl (fun c1035 => ?_) (fun c1035 => ?_)
    · replace H := (ifT c1035).symm.trans H
      refine AWp.seq ?_
      refine reg hP hn hm [] [2] [] ⟨[(2, iV .i64 25)], [], 0⟩ [] (by kernel_rfl) trivial ?_
      refine AWp.conv (inv := []) (vk := []) (e0 := []) (t := ⟨[(2, iV .i64 25)], [], 0⟩) (by kernel_rfl) ?_
      refine AWp.ret ?_
      obtain rfl := Option.some.inj H
      exact Exists.intro _ (And.intro (fun _ _ h => h) (And.intro (.inl rfl) (And.intro rfl (And.intro (by kernel_rfl) (by kernel_rfl)))))
    · replace H := (ifF c1035).symm.trans H
      refine AWp.seq ?_
      obtain ⟨t1043, e1044, H⟩ := bind_of H
      refine reg hP hn hm [(2, .call [] [] [] [] 0 (bV t1043) [])] [1, 17] [1] ⟨[(1, .ptr 1 0 0), (17, bV (!t1043))], [(1, some (.box 35 (aHist a0)))], 0⟩ [Enters Try.prog 80, Pv.Fn Try.prog 80 [iV .i64 a0.f1] [] 0 (fun r o => r = bV t1043 ∧ o = [])] (by kernel_rfl) ⟨by exact Try.call80, by exact f_bound_Right.ok a0.f1 t1043 e1044, trivial⟩ ?_
      refine AWp.cond (!t1043) rfl (fun c1045 => ?_) (fun c1045 => ?_)
      · replace H := (ifT c1045).symm.trans H
        refine AWp.seq ?_
        refine reg hP hn hm [] [2] [] ⟨[(2, iV .i64 20)], [], 0⟩ [] (by kernel_rfl) trivial ?_
        refine AWp.conv (inv := []) (vk := []) (e0 := []) (t := ⟨[(2, iV .i64 20)], [], 0⟩) (by kernel_rfl) ?_
        refine AWp.ret ?_
        obtain rfl := Option.some.inj H
        exact Exists.intro _ (And.intro (fun _ _ h => h) (And.intro (.inl rfl) (And.intro rfl (And.intro (by kernel_rfl) (by kernel_rfl)))))
      · replace H := (ifF c1045).symm.trans H
        refine AWp.seq ?_
        obtain ⟨o1178, e1179, H⟩ := bind_of H
        refine AWp.mono (Q := fun e s => (match (generalizing := false) o1178 with | x1050 => e = .normal ∧ s = ⟨[(1, .ptr 2 0 0), (22, bV x1050)], [(2, some (.box 35 (aHist a0)))], 0⟩)) (AWp.cv ?_) ?_
        · replace H := e1179; clear e1179
          rcases Bool.eq_false_or_eq_true (a0.f2 != (-524288)) with c1048 | c1048
          · replace H := (ifT c1048).symm.trans H
            rcases Bool.eq_false_or_eq_true (decide (a0.f2 ≤ (-262144))) with c1049 | c1049
            · replace H := (ifT c1049).symm.trans H
              refine reg hP hn hm [(3, .b true), (7, .b true)] [1, 22] [1] ⟨[(1, .ptr 1 0 0), (22, bV true)], [(1, some (.box 35 (aHist a0)))], 0⟩ [(a0.f2 != (-524288)) = true, (decide (a0.f2 ≤ (-262144))) = true] (by kernel_rfl) ⟨by exact c1048, by exact c1049, trivial⟩ ?_
              obtain rfl := Option.some.inj H
              exact Exists.intro _ (And.intro (fun _ _ h => h.conv (inv := [(1, 2)]) (vk := []) (e0 := []) (t := ⟨[(1, .ptr 2 0 0), (22, bV true)], [(2, some (.box 35 (aHist a0)))], 0⟩) (by kernel_rfl)) (And.intro rfl rfl))
            · replace H := (ifF c1049).symm.trans H
              refine reg hP hn hm [(3, .b true), (7, .b false)] [1, 22] [1] ⟨[(1, .ptr 1 0 0), (22, bV (decide (a0.f2 > (262144 : Int))))], [(1, some (.box 35 (aHist a0)))], 0⟩ [(a0.f2 != (-524288)) = true, (decide (a0.f2 ≤ (-262144))) = false] (by kernel_rfl) ⟨by exact c1048, by exact c1049, trivial⟩ ?_
              obtain rfl := Option.some.inj H
              exact Exists.intro _ (And.intro (fun _ _ h => h.conv (inv := [(1, 2)]) (vk := []) (e0 := []) (t := ⟨[(1, .ptr 2 0 0), (22, bV (decide (a0.f2 > (262144 : Int))))], [(2, some (.box 35 (aHist a0)))], 0⟩) (by kernel_rfl)) (And.intro rfl rfl))
          · replace H := (ifF c1048).symm.trans H
            refine reg hP hn hm [(3, .b false)] [1, 22] [1] ⟨[(1, .ptr 1 0 0), (22, bV false)], [(1, some (.box 35 (aHist a0)))], 0⟩ [(a0.f2 != (-524288)) = false] (by kernel_rfl) ⟨by exact c1048, trivial⟩ ?_
            obtain rfl := Option.some.inj H
            exact Exists.intro _ (And.intro (fun _ _ h => h.conv (inv := [(1, 2)]) (vk := []) (e0 := []) (t := ⟨[(1, .ptr 2 0 0), (22, bV false)], [(2, some (.box 35 (aHist a0)))], 0⟩) (by kernel_rfl)) (And.intro rfl rfl))
        · obtain ⟨x1050, rfl⟩ : ∃ z, z = o1178 := ⟨_, rfl⟩
          rintro e s ⟨rfl, rfl⟩
          refine AWp.cond x1050 rfl (fun c1051 => ?_) (fun c1051 => ?_)
          · replace H := (ifT c1051).symm.trans H
            refine AWp.seq ?_
            refine reg hP hn hm [] [2] [] ⟨[(2, iV .i64 31)], [], 0⟩ [] (by kernel_rfl) trivial ?_
            refine AWp.conv (inv := []) (vk := []) (e0 := []) (t := ⟨[(2, iV .i64 31)], [], 0⟩) (by kernel_rfl) ?_
            refine AWp.ret ?_
            obtain rfl := Option.some.inj H
            exact Exists.intro _ (And.intro (fun _ _ h => h) (And.intro (.inl rfl) (And.intro rfl (And.intro (by kernel_rfl) (by kernel_rfl)))))
          · replace H := (ifF c1051).symm.trans H
            refine AWp.skip ?_
            refine AWp.seq ?_
            refine AWp.seq ?_
            refine reg hP hn hm [] [1, 40, 41] [2] ⟨[(1, .ptr 2 0 0), (40, .agg [.im (.row (a0.f6.map eBucket)), .im (.row (a0.f7.map eBucket))]), (41, iV .i64 0)], [(2, some (.box 35 (aHist a0)))], 0⟩ [] (by kernel_rfl) trivial ?_
            refine AWp.block ?_
            obtain ⟨o1180, e1181, H⟩ := bind_of H
            refine AWp.loop (LWp.conv (inv := [(2, 3)]) (vk := []) (e0 := []) (t := ⟨[(1, .ptr 3 0 0), (40, .agg [.im (.row (a0.f6.map eBucket)), .im (.row (a0.f7.map eBucket))]), (41, iV .i64 0)], [(3, some (.box 35 (aHist a0)))], 0⟩) (by kernel_rfl) ?_)
            refine LWp.mono (Q := fun e s => (match (generalizing := false) o1180 with | .inl rr => e = .ret ∧ s.floor = 0 ∧ resOf Try.prog Try.f104 s = some (iV .i64 rr) ∧ ([] : List (Nat × Option MObj)) = [] | .inr _ => e = .exit 1 ∧ s = ⟨[(1, .ptr 5 0 0)], [(5, some (.box 35 (aHist a0)))], 0⟩)) (LWp.cv (withBody (fun body hbody => ?_))) ?_
            · refine f_hist_Check.l0.partial_correctness a0 (motive := fun x1158 o1180 => LWp Γ body (fun e s => ∃ t, Cv Γ s t ∧ (match (generalizing := false) o1180 with | .inl rr => e = .ret ∧ t.floor = 0 ∧ resOf Try.prog Try.f104 t = some (iV .i64 rr) ∧ ([] : List (Nat × Option MObj)) = [] | .inr _ => e = .exit 1 ∧ t = ⟨[(1, .ptr 5 0 0)], [(5, some (.box 35 (aHist a0)))], 0⟩)) ⟨[(1, .ptr 3 0 0), (40, .agg [.im (.row (a0.f6.map eBucket)), .im (.row (a0.f7.map eBucket))]), (41, iV .i64 x1158)], [(3, some (.box 35 (aHist a0)))], 0⟩) ?_ _ _ e1181
              clear H e1181 o1180; intro self ih x1158 o1180 H
              subst hbody
              refine LWp.round ?_
              refine AWp.seq ?_
              refine reg hP hn hm [] [1, 40, 41, 42] [3] ⟨[(1, .ptr 3 0 0), (40, .agg [.im (.row (a0.f6.map eBucket)), .im (.row (a0.f7.map eBucket))]), (41, iV .i64 x1158), (42, bV (decide (x1158 < (2 : Int))))], [(3, some (.box 35 (aHist a0)))], 0⟩ [] (by kernel_rfl) trivial ?_
              refine AWp.seq ?_
              refine AWp.cond (decide (x1158 < (2 : Int))) rfl (fun c1159 => ?_) (fun c1159 => ?_)
              · replace H := (ifT c1159).symm.trans H
                refine AWp.skip ?_
                refine AWp.seq ?_
                refine AWp.block ?_
                refine AWp.seq ?_
                obtain ⟨o1182, e1183, H⟩ := bind_of H
                refine AWp.mono (Q := fun e s => (match (generalizing := false) o1182 with | x1164 => e = .normal ∧ s = ⟨[(1, .ptr 4 0 0), (4, .im (.row (x1164.map eBucket))), (40, .agg [.im (.row (a0.f6.map eBucket)), .im (.row (a0.f7.map eBucket))]), (41, iV .i64 x1158)], [(4, some (.box 35 (aHist a0)))], 0⟩)) (AWp.cv ?_) ?_
                · replace H := e1183; clear e1183
                  obtain ⟨c1162, H⟩ := chk_of H
                  rcases Bool.eq_false_or_eq_true (x1158 == (0 : Int)) with c1163 | c1163
                  · replace H := (ifT c1163).symm.trans H
                    refine reg hP hn hm [(0, .more (xIdx 0))] [1, 4, 40, 41] [3] ⟨[(1, .ptr 3 0 0), (4, .im (.row (a0.f6.map eBucket))), (40, .agg [.im (.row (a0.f6.map eBucket)), .im (.row (a0.f7.map eBucket))]), (41, iV .i64 x1158)], [(3, some (.box 35 (aHist a0)))], 0⟩ [x1158 = ((0 : Nat) : Int)] (by kernel_rfl) ⟨by exact (by simpa using c1163), trivial⟩ ?_
                    obtain rfl := Option.some.inj H
                    exact Exists.intro _ (And.intro (fun _ _ h => h.conv (inv := [(3, 4)]) (vk := []) (e0 := []) (t := ⟨[(1, .ptr 4 0 0), (4, .im (.row (a0.f6.map eBucket))), (40, .agg [.im (.row (a0.f6.map eBucket)), .im (.row (a0.f7.map eBucket))]), (41, iV .i64 x1158)], [(4, some (.box 35 (aHist a0)))], 0⟩) (by kernel_rfl)) (And.intro rfl rfl))
                  · replace H := (ifF c1163).symm.trans H
                    refine reg hP hn hm [(0, .more (xIdx 1))] [1, 4, 40, 41] [3] ⟨[(1, .ptr 3 0 0), (4, .im (.row (a0.f7.map eBucket))), (40, .agg [.im (.row (a0.f6.map eBucket)), .im (.row (a0.f7.map eBucket))]), (41, iV .i64 x1158)], [(3, some (.box 35 (aHist a0)))], 0⟩ [x1158 = ((1 : Nat) : Int)] (by kernel_rfl) ⟨by have := c1162; simp only [beq_eq_false_iff_ne] at *; omega, trivial⟩ ?_
                    obtain rfl := Option.some.inj H
                    exact Exists.intro _ (And.intro (fun _ _ h => h.conv (inv := [(3, 4)]) (vk := []) (e0 := []) (t := ⟨[(1, .ptr 4 0 0), (4, .im (.row (a0.f7.map eBucket))), (40, .agg [.im (.row (a0.f6.map eBucket)), .im (.row (a0.f7.map eBucket))]), (41, iV .i64 x1158)], [(4, some (.box 35 (aHist a0)))], 0⟩) (by kernel_rfl)) (And.intro rfl rfl))
                · obtain ⟨x1164, rfl⟩ : ∃ z, z = o1182 := ⟨_, rfl⟩
                  rintro e s ⟨rfl, rfl⟩
                  refine AWp.seq ?_
                  obtain ⟨t1167, e1168, H⟩ := bind_of H
                  refine reg hP hn hm [(2, .call [] [] [] [] 0 (iV .i64 t1167) [])] [1, 5, 40, 41] [4] ⟨[(1, .ptr 4 0 0), (5, iV .i64 t1167), (40, .agg [.im (.row (a0.f6.map eBucket)), .im (.row (a0.f7.map eBucket))]), (41, iV .i64 x1158)], [(4, some (.box 35 (aHist a0)))], 0⟩ [Enters Try.prog 135, Pv.Fn Try.prog 135 [.agg (aHist a0), .im (.row (x1164.map eBucket))] [] 0 (fun r o => r = iV .i64 t1167 ∧ o = [])] (by kernel_rfl) ⟨by exact Try.call135, by exact f_hist_buckets.ok a0 x1164 t1167 e1168, trivial⟩ ?_
                  refine AWp.seq ?_
                  refine reg hP hn hm [] [1, 5, 40, 41, 48] [4] ⟨[(1, .ptr 4 0 0), (5, iV .i64 t1167), (40, .agg [.im (.row (a0.f6.map eBucket)), .im (.row (a0.f7.map eBucket))]), (41, iV .i64 x1158), (48, bV (t1167 != (0 : Int)))], [(4, some (.box 35 (aHist a0)))], 0⟩ [] (by kernel_rfl) trivial ?_
                  refine AWp.cond (t1167 != (0 : Int)) rfl (fun c1169 => ?_) (fun c1169 => ?_)
                  · replace H := (ifT c1169).symm.trans H
                    refine AWp.seq ?_
                    refine reg hP hn hm [] [2] [] ⟨[(2, iV .i64 t1167)], [], 0⟩ [] (by kernel_rfl) trivial ?_
                    refine AWp.conv (inv := []) (vk := []) (e0 := []) (t := ⟨[(2, iV .i64 t1167)], [], 0⟩) (by kernel_rfl) ?_
                    refine AWp.ret ?_
                    obtain rfl := Option.some.inj H
                    exact Exists.intro _ (And.intro (fun _ _ h => h) (And.intro rfl (And.intro rfl (And.intro (by kernel_rfl) (by kernel_rfl)))))
                  · replace H := (ifF c1169).symm.trans H
                    refine AWp.skip ?_
                    refine reg hP hn hm [] [1, 40, 41] [4] ⟨[(1, .ptr 4 0 0), (40, .agg [.im (.row (a0.f6.map eBucket)), .im (.row (a0.f7.map eBucket))]), (41, iV .i64 (IntKind.i64.wrap (x1158 + (1 : Int))))], [(4, some (.box 35 (aHist a0)))], 0⟩ [] (by kernel_rfl) trivial ?_
                    exact LWp.conv (inv := [(4, 3)]) (vk := []) (e0 := []) (t := ⟨[(1, .ptr 3 0 0), (40, .agg [.im (.row (a0.f6.map eBucket)), .im (.row (a0.f7.map eBucket))]), (41, iV .i64 (IntKind.i64.wrap (x1158 + (1 : Int))))], [(3, some (.box 35 (aHist a0)))], 0⟩) (by kernel_rfl) (ih _ _ H)
              · replace H := (ifF c1159).symm.trans H
                refine AWp.exit ?_
                obtain rfl := Option.some.inj H
                exact Exists.intro _ (And.intro (fun _ _ h => h.conv (inv := [(3, 5)]) (vk := []) (e0 := []) (t := ⟨[(1, .ptr 5 0 0)], [(5, some (.box 35 (aHist a0)))], 0⟩) (by kernel_rfl)) (And.intro rfl rfl))
            · rcases o1180 with rr | _
              · skip
                rintro e s ⟨rfl, hfl, hres⟩
                obtain rfl := Option.some.inj H
                exact Exists.intro _ (And.intro (fun _ _ h => h) (And.intro (.inl rfl) (And.intro hfl hres)))
              · skip
                rintro e s ⟨rfl, rfl⟩
                refine AWp.seq ?_
                obtain ⟨t1172, e1173, H⟩ := bind_of H
                refine reg hP hn hm [(7, .more (xFz (.app 6 ([(⟨0, a0.f3⟩ : TBucket)].map eBucket)))), (8, .app 7 ([a0.f6, a0.f7, [(⟨0, a0.f3⟩ : TBucket)]].map (encRow eBucket))), (9, .call [] [] [7] [] 0 (.tup [iV .u64 t1172.1, iV .i64 t1172.2]) [])] [1, 6, 7] [5] ⟨[(1, .ptr 5 0 0), (6, iV .u64 t1172.1), (7, iV .i64 t1172.2)], [(5, some (.box 35 (aHist a0)))], 0⟩ [[(⟨0, a0.f3⟩ : TBucket)].map eBucket = [[iI .i64 0, iI .u64 a0.f3]], [a0.f6, a0.f7, [(⟨0, a0.f3⟩ : TBucket)]].map (encRow eBucket) = [[.row (a0.f6.map eBucket)], [.row (a0.f7.map eBucket)], [.row ([(⟨0, a0.f3⟩ : TBucket)].map eBucket)]], Enters Try.prog 103, Pv.Fn Try.prog 103 [.im (.row ([a0.f6, a0.f7, [(⟨0, a0.f3⟩ : TBucket)]].map (encRow eBucket)))] [] 0 (fun r o => r = .tup [iV .u64 t1172.1, iV .i64 t1172.2] ∧ o = [])] (by kernel_rfl) ⟨by exact rfl, by exact rfl, by exact Try.call103, by exact f_hist_total.ok [a0.f6, a0.f7, [(⟨0, a0.f3⟩ : TBucket)]] t1172 e1173, trivial⟩ ?_
                refine AWp.seq ?_
                refine AWp.block ?_
                refine AWp.seq ?_
                refine reg hP hn hm [] [1, 6, 7, 64] [5] ⟨[(1, .ptr 5 0 0), (6, iV .u64 t1172.1), (7, iV .i64 t1172.2), (64, bV (t1172.2 != (0 : Int)))], [(5, some (.box 35 (aHist a0)))], 0⟩ [] (by kernel_rfl) trivial ?_
                refine AWp.cond (t1172.2 != (0 : Int)) rfl (fun c1174 => ?_) (fun c1174 => ?_)
                · replace H := (ifT c1174).symm.trans H
                  refine AWp.seq ?_
                  refine reg hP hn hm [] [2] [] ⟨[(2, iV .i64 t1172.2)], [], 0⟩ [] (by kernel_rfl) trivial ?_
                  refine AWp.conv (inv := []) (vk := []) (e0 := []) (t := ⟨[(2, iV .i64 t1172.2)], [], 0⟩) (by kernel_rfl) ?_
                  refine AWp.ret ?_
                  obtain rfl := Option.some.inj H
                  exact Exists.intro _ (And.intro (fun _ _ h => h) (And.intro (.inl rfl) (And.intro rfl (And.intro (by kernel_rfl) (by kernel_rfl)))))
                · replace H := (ifF c1174).symm.trans H
                  refine AWp.seq ?_
                  refine reg hP hn hm [] [68] [] ⟨[(68, bV (t1172.1 != a0.f4))], [], 0⟩ [] (by kernel_rfl) trivial ?_
                  refine AWp.cond (t1172.1 != a0.f4) rfl (fun c1175 => ?_) (fun c1175 => ?_)
                  · replace H := (ifT c1175).symm.trans H
                    refine AWp.seq ?_
                    refine reg hP hn hm [] [2] [] ⟨[(2, iV .i64 21)], [], 0⟩ [] (by kernel_rfl) trivial ?_
                    refine AWp.conv (inv := []) (vk := []) (e0 := []) (t := ⟨[(2, iV .i64 21)], [], 0⟩) (by kernel_rfl) ?_
                    refine AWp.ret ?_
                    obtain rfl := Option.some.inj H
                    exact Exists.intro _ (And.intro (fun _ _ h => h) (And.intro (.inl rfl) (And.intro rfl (And.intro (by kernel_rfl) (by kernel_rfl)))))
                  · replace H := (ifF c1175).symm.trans H
                    refine AWp.skip ?_
                    refine AWp.seq ?_
                    refine reg hP hn hm [] [2] [] ⟨[(2, iV .i64 0)], [], 0⟩ [] (by kernel_rfl) trivial ?_
                    refine AWp.conv (inv := []) (vk := []) (e0 := []) (t := ⟨[(2, iV .i64 0)], [], 0⟩) (by kernel_rfl) ?_
                    refine AWp.ret ?_
                    obtain rfl := Option.some.inj H
                    exact Exists.intro _ (And.intro (fun _ _ h => h) (And.intro (.inl rfl) (And.intro rfl (And.intro (by kernel_rfl) (by kernel_rfl)))))
def f_hist_Make.f (a0 : THist) (a1 : List TBucket) (a2 : List TBucket) : Option (THist × Int) := (f_hist_tidy.f a1) >>= fun t943 => (f_hist_tidy.f a2) >>= fun t947 => if ((if t947.2 > t943.2 then t947.2 else t943.2) != (0 : Int)) = true then (some ((⟨0, 0, 0, 0, 0, 0, [], []⟩ : THist), (if t947.2 > t943.2 then t947.2 else t943.2))) else ((f_hist_total.f [t943.1, t947.1, [(⟨0, a0.f3⟩ : TBucket)]]) >>= fun t1029 => if (t1029.2 != (0 : Int)) = true then (some ((⟨0, 0, 0, 0, 0, 0, [], []⟩ : THist), t1029.2)) else ((f_hist_Check.f (⟨a0.f0, a0.f1, a0.f2, a0.f3, t1029.1, a0.f5, t943.1, t947.1⟩ : THist)) >>= fun t1186 => if (t1186 != (0 : Int)) = true then (some ((⟨0, 0, 0, 0, 0, 0, [], []⟩ : THist), t1186)) else (some ((⟨a0.f0, a0.f1, a0.f2, a0.f3, t1029.1, a0.f5, t943.1, t947.1⟩ : THist), 0))))
theorem f_hist_Make.ok (a0 : THist) (a1 : List TBucket) (a2 : List TBucket) (r : THist × Int) (H : f_hist_Make.f a0 a1 a2 = some r) : Pv.Fn Try.prog 68 [.agg (aHist a0), .im (.row (a1.map eBucket)), .im (.row (a2.map eBucket))] [] 0 (fun x o => x = .tup [.agg (aHist (r.1)), iV .i64 r.2] ∧ o = []) := by
  unfold f_hist_Make.f at H
  refine Fn.bodyK [] Try.func68 rfl rfl (fun Γ hP hn => ?_)
  have hm : Try.prog.follows .mixedOrders = true := by kernel_rfl
  replace hn : Γ.n = 55 := hn
  refine AWp.seq ?_
  refine reg hP hn hm [(0, .k 0), (1, .k 1)] [1, 2, 3, 6] [0, 1] ⟨[(1, .im (.row (a1.map eBucket))), (2, .im (.row (a2.map eBucket))), (3, .ptr 0 0 0), (6, .ptr 1 0 0)], [(0, some (.box 35 (aHist a0))), (1, some (.box 35 [iV .i64 0, iV .i64 0, iV .i64 0, iV .u64 0, iV .u64 0, iV .i64 0, .none0, .none0]))], 0⟩ [] (by kernel_rfl) trivial ?_
  refine AWp.seq ?_
  refine reg hP hn hm [] [1, 2, 3, 6] [0, 1] ⟨[(1, .im (.row (a1.map eBucket))), (2, .im (.row (a2.map eBucket))), (3, .ptr 0 0 0), (6, .ptr 1 0 0)], [(0, some (.box 35 (aHist a0))), (1, some (.box 35 [iV .i64 0, iV .i64 0, iV .i64 0, iV .u64 0, iV .u64 0, iV .i64 0, .none0, .none0]))], 0⟩ [] (by kernel_rfl) trivial ?_
  refine AWp.seq ?_
  obtain ⟨t943, e944, H⟩ := bind_of H
  refine reg hP hn hm [(1, .call [] [(0, 2)] [] [2] 0 (.tup [.own 0, iV .i64 t943.2]) [(0, some (.row 2 127 (t943.1.map eBucket)))])] [2, 3, 6, 8] [0, 1, 2] ⟨[(2, .im (.row (a2.map eBucket))), (3, .ptr 0 0 0), (6, .ptr 1 0 0), (8, iV .i64 t943.2)], [(0, some (.box 35 [iV .i64 a0.f0, iV .i64 a0.f1, iV .i64 a0.f2, iV .u64 a0.f3, iV .u64 a0.f4, iV .i64 a0.f5, .own 2, .im (.row (a0.f7.map eBucket))])), (1, some (.box 35 [iV .i64 0, iV .i64 0, iV .i64 0, iV .u64 0, iV .u64 0, iV .i64 0, .none0, .none0])), (2, some (.row 2 127 (t943.1.map eBucket)))], 0⟩ [Enters Try.prog 102, Pv.Fn Try.prog 102 [.im (.row (a1.map eBucket))] [] 0 (fun r o => r = .tup [.own 0, iV .i64 t943.2] ∧ o = [(0, some (.row 2 127 (t943.1.map eBucket)))])] (by kernel_rfl) ⟨by exact Try.call102, by exact f_hist_tidy.ok a1 t943 e944, trivial⟩ ?_
  refine AWp.seq ?_
  obtain ⟨t947, e948, H⟩ := bind_of H
  refine reg hP hn hm [(1, .call [] [(0, 3)] [] [3] 0 (.tup [.own 0, iV .i64 t947.2]) [(0, some (.row 2 127 (t947.1.map eBucket)))])] [3, 6, 8, 9] [0, 1, 2, 3] ⟨[(3, .ptr 0 0 0), (6, .ptr 1 0 0), (8, iV .i64 t943.2), (9, iV .i64 t947.2)], [(0, some (.box 35 [iV .i64 a0.f0, iV .i64 a0.f1, iV .i64 a0.f2, iV .u64 a0.f3, iV .u64 a0.f4, iV .i64 a0.f5, .own 2, .own 3])), (1, some (.box 35 [iV .i64 0, iV .i64 0, iV .i64 0, iV .u64 0, iV .u64 0, iV .i64 0, .none0, .none0])), (2, some (.row 2 127 (t943.1.map eBucket))), (3, some (.row 2 127 (t947.1.map eBucket)))], 0⟩ [Enters Try.prog 102, Pv.Fn Try.prog 102 [.im (.row (a2.map eBucket))] [] 0 (fun r o => r = .tup [.own 0, iV .i64 t947.2] ∧ o = [(0, some (.row 2 127 (t947.1.map eBucket)))])] (by kernel_rfl) ⟨by exact Try.call102, by exact f_hist_tidy.ok a2 t947 e948, trivial⟩ ?_
  refine AWp.seq ?_
  refine AWp.seq ?_
  refine reg hP hn hm [(2, .more xMax)] [3, 6, 8] [0, 1, 2, 3] ⟨[(3, .ptr 0 0 0), (6, .ptr 1 0 0), (8, iV .i64 (if t947.2 > t943.2 then t947.2 else t943.2))], [(0, some (.box 35 [iV .i64 a0.f0, iV .i64 a0.f1, iV .i64 a0.f2, iV .u64 a0.f3, iV .u64 a0.f4, iV .i64 a0.f5, .own 2, .own 3])), (1, some (.box 35 [iV .i64 0, iV .i64 0, iV .i64 0, iV .u64 0, iV .u64 0, iV .i64 0, .none0, .none0])), (2, some (.row 2 127 (t943.1.map eBucket))), (3, some (.row 2 127 (t947.1.map eBucket)))], 0⟩ [] (by kernel_rfl) trivial ?_
  refine AWp.seq ?_
  refine reg hP hn hm [] [3, 6, 8, 27] [0, 1, 2, 3] ⟨[(3, .ptr 0 0 0), (6, .ptr 1 0 0), (8, iV .i64 (if t947.2 > t943.2 then t947.2 else t943.2)), (27, bV ((if t947.2 > t943.2 then t947.2 else t943.2) != (0 : Int)))], [(0, some (.box 35 [iV .i64 a0.f0, iV .i64 a0.f1, iV .i64 a0.f2, iV .u64 a0.f3, iV .u64 a0.f4, iV .i64 a0.f5, .own 2, .own 3])), (1, some (.box 35 [iV .i64 0, iV .i64 0, iV .i64 0, iV .u64 0, iV .u64 0, iV .i64 0, .none0, .none0])), (2, some (.row 2 127 (t943.1.map eBucket))), (3, some (.row 2 127 (t947.1.map eBucket)))], 0⟩ [] (by kernel_rfl) trivial ?_
  refine AWp.cond ((if t947.2 > t943.2 then t947.2 else t943.2) != (0 : Int)) rfl (fun c949 => ?_) (fun c949 => ?_)
  · replace H := (ifT c949).symm.trans H
    refine AWp.seq ?_
    refine reg hP hn hm [] [6, 7] [1] ⟨[(6, .ptr 1 0 0), (7, iV .i64 (if t947.2 > t943.2 then t947.2 else t943.2))], [(1, some (.box 35 [iV .i64 0, iV .i64 0, iV .i64 0, iV .u64 0, iV .u64 0, iV .i64 0, .none0, .none0]))], 0⟩ [] (by kernel_rfl) trivial ?_
    refine AWp.conv (inv := [(1, 0)]) (vk := []) (e0 := []) (t := ⟨[(6, .ptr 0 0 0), (7, iV .i64 (if t947.2 > t943.2 then t947.2 else t943.2))], [(0, some (.box 35 (aHist ((⟨0, 0, 0, 0, 0, 0, [], []⟩ : THist)))))], 0⟩) (by kernel_rfl) ?_
    refine AWp.ret ?_
    obtain rfl := Option.some.inj H
    exact Exists.intro _ (And.intro (fun _ _ h => h) (And.intro (.inl rfl) (And.intro rfl (And.intro (by kernel_rfl) (by kernel_rfl)))))
  · replace H := (ifF c949).symm.trans H
    refine AWp.skip ?_
    refine AWp.seq ?_
    refine AWp.seq ?_
    refine AWp.conv (inv := [(0, 0), (1, 1)]) (vk := [2, 3]) (e0 := []) (t := ⟨[(3, .ptr 0 0 0), (6, .ptr 1 0 0), (8, iV .i64 (if t947.2 > t943.2 then t947.2 else t943.2)), (27, bV ((if t947.2 > t943.2 then t947.2 else t943.2) != (0 : Int)))], [(0, some (.box 35 (aHist ⟨a0.f0, a0.f1, a0.f2, a0.f3, a0.f4, a0.f5, t943.1, t947.1⟩))), (1, some (.box 35 [iV .i64 0, iV .i64 0, iV .i64 0, iV .u64 0, iV .u64 0, iV .i64 0, .none0, .none0]))], 0⟩) (by kernel_rfl) ?_
    obtain ⟨t1029, e1030, H⟩ := bind_of H
    refine reg hP hn hm [(7, .more (xFz (.app 4 ([(⟨0, a0.f3⟩ : TBucket)].map eBucket)))), (8, .app 5 ([t943.1, t947.1, [(⟨0, a0.f3⟩ : TBucket)]].map (encRow eBucket))), (9, .call [] [] [5] [] 0 (.tup [iV .u64 t1029.1, iV .i64 t1029.2]) [])] [3, 6, 8] [0, 1] ⟨[(3, .ptr 0 0 0), (6, .ptr 1 0 0), (8, iV .i64 t1029.2)], [(0, some (.box 35 (aHist ⟨a0.f0, a0.f1, a0.f2, a0.f3, t1029.1, a0.f5, t943.1, t947.1⟩))), (1, some (.box 35 [iV .i64 0, iV .i64 0, iV .i64 0, iV .u64 0, iV .u64 0, iV .i64 0, .none0, .none0]))], 0⟩ [[(⟨0, a0.f3⟩ : TBucket)].map eBucket = [[iI .i64 0, iI .u64 a0.f3]], [t943.1, t947.1, [(⟨0, a0.f3⟩ : TBucket)]].map (encRow eBucket) = [[.row (t943.1.map eBucket)], [.row (t947.1.map eBucket)], [.row ([(⟨0, a0.f3⟩ : TBucket)].map eBucket)]], Enters Try.prog 103, Pv.Fn Try.prog 103 [.im (.row ([t943.1, t947.1, [(⟨0, a0.f3⟩ : TBucket)]].map (encRow eBucket)))] [] 0 (fun r o => r = .tup [iV .u64 t1029.1, iV .i64 t1029.2] ∧ o = [])] (by kernel_rfl) ⟨by exact rfl, by exact rfl, by exact Try.call103, by exact f_hist_total.ok [t943.1, t947.1, [(⟨0, a0.f3⟩ : TBucket)]] t1029 e1030, trivial⟩ ?_
    refine AWp.seq ?_
    refine reg hP hn hm [] [3, 6, 8, 45] [0, 1] ⟨[(3, .ptr 0 0 0), (6, .ptr 1 0 0), (8, iV .i64 t1029.2), (45, bV (t1029.2 != (0 : Int)))], [(0, some (.box 35 (aHist ⟨a0.f0, a0.f1, a0.f2, a0.f3, t1029.1, a0.f5, t943.1, t947.1⟩))), (1, some (.box 35 [iV .i64 0, iV .i64 0, iV .i64 0, iV .u64 0, iV .u64 0, iV .i64 0, .none0, .none0]))], 0⟩ [] (by kernel_rfl) trivial ?_
    refine AWp.cond (t1029.2 != (0 : Int)) rfl (fun c1031 => ?_) (fun c1031 => ?_)
    · replace H := (ifT c1031).symm.trans H
      refine AWp.seq ?_
      refine reg hP hn hm [] [6, 7] [1] ⟨[(6, .ptr 1 0 0), (7, iV .i64 t1029.2)], [(1, some (.box 35 [iV .i64 0, iV .i64 0, iV .i64 0, iV .u64 0, iV .u64 0, iV .i64 0, .none0, .none0]))], 0⟩ [] (by kernel_rfl) trivial ?_
      refine AWp.conv (inv := [(1, 0)]) (vk := []) (e0 := []) (t := ⟨[(6, .ptr 0 0 0), (7, iV .i64 t1029.2)], [(0, some (.box 35 (aHist ((⟨0, 0, 0, 0, 0, 0, [], []⟩ : THist)))))], 0⟩) (by kernel_rfl) ?_
      refine AWp.ret ?_
      obtain rfl := Option.some.inj H
      exact Exists.intro _ (And.intro (fun _ _ h => h) (And.intro (.inl rfl) (And.intro rfl (And.intro (by kernel_rfl) (by kernel_rfl)))))
    · replace H := (ifF c1031).symm.trans H
      refine AWp.skip ?_
      refine AWp.seq ?_
      refine AWp.seq ?_
      obtain ⟨t1186, e1187, H⟩ := bind_of H
      refine reg hP hn hm [(1, .call [] [] [] [] 0 (iV .i64 t1186) [])] [3, 6, 10] [0, 1] ⟨[(3, .ptr 0 0 0), (6, .ptr 1 0 0), (10, iV .i64 t1186)], [(0, some (.box 35 (aHist ⟨a0.f0, a0.f1, a0.f2, a0.f3, t1029.1, a0.f5, t943.1, t947.1⟩))), (1, some (.box 35 [iV .i64 0, iV .i64 0, iV .i64 0, iV .u64 0, iV .u64 0, iV .i64 0, .none0, .none0]))], 0⟩ [Enters Try.prog 104, Pv.Fn Try.prog 104 [.agg (aHist ⟨a0.f0, a0.f1, a0.f2, a0.f3, t1029.1, a0.f5, t943.1, t947.1⟩)] [] 0 (fun r o => r = iV .i64 t1186 ∧ o = [])] (by kernel_rfl) ⟨by exact Try.call104, by exact f_hist_Check.ok (⟨a0.f0, a0.f1, a0.f2, a0.f3, t1029.1, a0.f5, t943.1, t947.1⟩ : THist) t1186 e1187, trivial⟩ ?_
      refine AWp.seq ?_
      refine reg hP hn hm [] [3, 6, 10, 51] [0, 1] ⟨[(3, .ptr 0 0 0), (6, .ptr 1 0 0), (10, iV .i64 t1186), (51, bV (t1186 != (0 : Int)))], [(0, some (.box 35 (aHist ⟨a0.f0, a0.f1, a0.f2, a0.f3, t1029.1, a0.f5, t943.1, t947.1⟩))), (1, some (.box 35 [iV .i64 0, iV .i64 0, iV .i64 0, iV .u64 0, iV .u64 0, iV .i64 0, .none0, .none0]))], 0⟩ [] (by kernel_rfl) trivial ?_
      refine AWp.cond (t1186 != (0 : Int)) rfl (fun c1188 => ?_) (fun c1188 => ?_)
      · replace H := (ifT c1188).symm.trans H
        refine AWp.seq ?_
        refine reg hP hn hm [] [6, 7] [1] ⟨[(6, .ptr 1 0 0), (7, iV .i64 t1186)], [(1, some (.box 35 [iV .i64 0, iV .i64 0, iV .i64 0, iV .u64 0, iV .u64 0, iV .i64 0, .none0, .none0]))], 0⟩ [] (by kernel_rfl) trivial ?_
        refine AWp.conv (inv := [(1, 0)]) (vk := []) (e0 := []) (t := ⟨[(6, .ptr 0 0 0), (7, iV .i64 t1186)], [(0, some (.box 35 (aHist ((⟨0, 0, 0, 0, 0, 0, [], []⟩ : THist)))))], 0⟩) (by kernel_rfl) ?_
        refine AWp.ret ?_
        obtain rfl := Option.some.inj H
        exact Exists.intro _ (And.intro (fun _ _ h => h) (And.intro (.inl rfl) (And.intro rfl (And.intro (by kernel_rfl) (by kernel_rfl)))))
      · replace H := (ifF c1188).symm.trans H
        refine AWp.skip ?_
        refine AWp.seq ?_
        refine reg hP hn hm [] [6, 7] [1] ⟨[(6, .ptr 1 0 0), (7, iV .i64 0)], [(1, some (.box 35 (aHist ⟨a0.f0, a0.f1, a0.f2, a0.f3, t1029.1, a0.f5, t943.1, t947.1⟩)))], 0⟩ [] (by kernel_rfl) trivial ?_
        refine AWp.conv (inv := [(1, 0)]) (vk := []) (e0 := []) (t := ⟨[(6, .ptr 0 0 0), (7, iV .i64 0)], [(0, some (.box 35 (aHist ((⟨a0.f0, a0.f1, a0.f2, a0.f3, t1029.1, a0.f5, t943.1, t947.1⟩ : THist)))))], 0⟩) (by kernel_rfl) ?_
        refine AWp.ret ?_
        obtain rfl := Option.some.inj H
        exact Exists.intro _ (And.intro (fun _ _ h => h) (And.intro (.inl rfl) (And.intro rfl (And.intro (by kernel_rfl) (by kernel_rfl)))))
def f_bits_Mul64.f (a0 : Int) (a1 : Int) : Option (Unit) := some ()
theorem f_bits_Mul64.ok (a0 : Int) (a1 : Int) (r : Unit) (H : f_bits_Mul64.f a0 a1 = some r) : Pv.Fn Try.prog 105 [iV .u64 a0, iV .u64 a1] [] 0 (fun x o => x = .tup [iV .u64 (IntKind.u64.wrap ((IntKind.u64.wrap ((IntKind.u64.wrap ((Int.fdiv a0 4294967296) * (Int.fdiv a1 4294967296))) + (Int.fdiv (IntKind.u64.wrap ((IntKind.u64.wrap ((Int.fdiv a0 4294967296) * (IntKind.u64.wrap (((BitVec.toNat (BitVec.ofInt 64 a1 &&& BitVec.ofInt 64 (4294967295 : Int)) : Nat) : Int))))) + (Int.fdiv (IntKind.u64.wrap ((IntKind.u64.wrap (((BitVec.toNat (BitVec.ofInt 64 a0 &&& BitVec.ofInt 64 (4294967295 : Int)) : Nat) : Int))) * (IntKind.u64.wrap (((BitVec.toNat (BitVec.ofInt 64 a1 &&& BitVec.ofInt 64 (4294967295 : Int)) : Nat) : Int))))) 4294967296))) 4294967296))) + (Int.fdiv (IntKind.u64.wrap ((IntKind.u64.wrap (((BitVec.toNat (BitVec.ofInt 64 (IntKind.u64.wrap ((IntKind.u64.wrap ((Int.fdiv a0 4294967296) * (IntKind.u64.wrap (((BitVec.toNat (BitVec.ofInt 64 a1 &&& BitVec.ofInt 64 (4294967295 : Int)) : Nat) : Int))))) + (Int.fdiv (IntKind.u64.wrap ((IntKind.u64.wrap (((BitVec.toNat (BitVec.ofInt 64 a0 &&& BitVec.ofInt 64 (4294967295 : Int)) : Nat) : Int))) * (IntKind.u64.wrap (((BitVec.toNat (BitVec.ofInt 64 a1 &&& BitVec.ofInt 64 (4294967295 : Int)) : Nat) : Int))))) 4294967296))) &&& BitVec.ofInt 64 (4294967295 : Int)) : Nat) : Int))) + (IntKind.u64.wrap ((IntKind.u64.wrap (((BitVec.toNat (BitVec.ofInt 64 a0 &&& BitVec.ofInt 64 (4294967295 : Int)) : Nat) : Int))) * (Int.fdiv a1 4294967296))))) 4294967296))), iV .u64 (IntKind.u64.wrap (a0 * a1))] ∧ o = []) := by
  unfold f_bits_Mul64.f at H
  refine Fn.bodyK [] Try.func105 rfl rfl (fun Γ hP hn => ?_)
  have hm : Try.prog.follows .mixedOrders = true := by kernel_rfl
  replace hn : Γ.n = 51 := hn
  refine AWp.seq ?_
  refine reg hP hn hm [] [0, 1] [] ⟨[(0, iV .u64 a0), (1, iV .u64 a1)], [], 0⟩ [] (by kernel_rfl) trivial ?_
  refine AWp.seq ?_
  refine reg hP hn hm [] [0, 1, 6] [] ⟨[(0, iV .u64 a0), (1, iV .u64 a1), (6, iV .u64 (IntKind.u64.wrap (((BitVec.toNat (BitVec.ofInt 64 a0 &&& BitVec.ofInt 64 (4294967295 : Int)) : Nat) : Int))))], [], 0⟩ [] (by kernel_rfl) trivial ?_
  refine AWp.seq ?_
  refine reg hP hn hm [] [0, 1, 6, 7] [] ⟨[(0, iV .u64 a0), (1, iV .u64 a1), (6, iV .u64 (IntKind.u64.wrap (((BitVec.toNat (BitVec.ofInt 64 a0 &&& BitVec.ofInt 64 (4294967295 : Int)) : Nat) : Int)))), (7, iV .u64 (Int.fdiv a0 4294967296))], [], 0⟩ [(0 : Int) ≤ 32] (by kernel_rfl) ⟨by decide, trivial⟩ ?_
  refine AWp.seq ?_
  refine reg hP hn hm [] [0, 1, 6, 7, 8] [] ⟨[(0, iV .u64 a0), (1, iV .u64 a1), (6, iV .u64 (IntKind.u64.wrap (((BitVec.toNat (BitVec.ofInt 64 a0 &&& BitVec.ofInt 64 (4294967295 : Int)) : Nat) : Int)))), (7, iV .u64 (Int.fdiv a0 4294967296)), (8, iV .u64 (IntKind.u64.wrap (((BitVec.toNat (BitVec.ofInt 64 a1 &&& BitVec.ofInt 64 (4294967295 : Int)) : Nat) : Int))))], [], 0⟩ [] (by kernel_rfl) trivial ?_
  refine AWp.seq ?_
  refine reg hP hn hm [] [0, 1, 6, 7, 8, 9] [] ⟨[(0, iV .u64 a0), (1, iV .u64 a1), (6, iV .u64 (IntKind.u64.wrap (((BitVec.toNat (BitVec.ofInt 64 a0 &&& BitVec.ofInt 64 (4294967295 : Int)) : Nat) : Int)))), (7, iV .u64 (Int.fdiv a0 4294967296)), (8, iV .u64 (IntKind.u64.wrap (((BitVec.toNat (BitVec.ofInt 64 a1 &&& BitVec.ofInt 64 (4294967295 : Int)) : Nat) : Int)))), (9, iV .u64 (Int.fdiv a1 4294967296))], [], 0⟩ [(0 : Int) ≤ 32] (by kernel_rfl) ⟨by decide, trivial⟩ ?_
  refine AWp.seq ?_
  refine reg hP hn hm [] [0, 1, 6, 7, 8, 9, 10] [] ⟨[(0, iV .u64 a0), (1, iV .u64 a1), (6, iV .u64 (IntKind.u64.wrap (((BitVec.toNat (BitVec.ofInt 64 a0 &&& BitVec.ofInt 64 (4294967295 : Int)) : Nat) : Int)))), (7, iV .u64 (Int.fdiv a0 4294967296)), (8, iV .u64 (IntKind.u64.wrap (((BitVec.toNat (BitVec.ofInt 64 a1 &&& BitVec.ofInt 64 (4294967295 : Int)) : Nat) : Int)))), (9, iV .u64 (Int.fdiv a1 4294967296)), (10, iV .u64 (IntKind.u64.wrap ((IntKind.u64.wrap (((BitVec.toNat (BitVec.ofInt 64 a0 &&& BitVec.ofInt 64 (4294967295 : Int)) : Nat) : Int))) * (IntKind.u64.wrap (((BitVec.toNat (BitVec.ofInt 64 a1 &&& BitVec.ofInt 64 (4294967295 : Int)) : Nat) : Int))))))], [], 0⟩ [] (by kernel_rfl) trivial ?_
  refine AWp.seq ?_
  refine reg hP hn hm [] [0, 1, 6, 7, 9, 11] [] ⟨[(0, iV .u64 a0), (1, iV .u64 a1), (6, iV .u64 (IntKind.u64.wrap (((BitVec.toNat (BitVec.ofInt 64 a0 &&& BitVec.ofInt 64 (4294967295 : Int)) : Nat) : Int)))), (7, iV .u64 (Int.fdiv a0 4294967296)), (9, iV .u64 (Int.fdiv a1 4294967296)), (11, iV .u64 (IntKind.u64.wrap ((IntKind.u64.wrap ((Int.fdiv a0 4294967296) * (IntKind.u64.wrap (((BitVec.toNat (BitVec.ofInt 64 a1 &&& BitVec.ofInt 64 (4294967295 : Int)) : Nat) : Int))))) + (Int.fdiv (IntKind.u64.wrap ((IntKind.u64.wrap (((BitVec.toNat (BitVec.ofInt 64 a0 &&& BitVec.ofInt 64 (4294967295 : Int)) : Nat) : Int))) * (IntKind.u64.wrap (((BitVec.toNat (BitVec.ofInt 64 a1 &&& BitVec.ofInt 64 (4294967295 : Int)) : Nat) : Int))))) 4294967296))))], [], 0⟩ [(0 : Int) ≤ 32] (by kernel_rfl) ⟨by decide, trivial⟩ ?_
  refine AWp.seq ?_
  refine reg hP hn hm [] [0, 1, 6, 7, 9, 11, 12] [] ⟨[(0, iV .u64 a0), (1, iV .u64 a1), (6, iV .u64 (IntKind.u64.wrap (((BitVec.toNat (BitVec.ofInt 64 a0 &&& BitVec.ofInt 64 (4294967295 : Int)) : Nat) : Int)))), (7, iV .u64 (Int.fdiv a0 4294967296)), (9, iV .u64 (Int.fdiv a1 4294967296)), (11, iV .u64 (IntKind.u64.wrap ((IntKind.u64.wrap ((Int.fdiv a0 4294967296) * (IntKind.u64.wrap (((BitVec.toNat (BitVec.ofInt 64 a1 &&& BitVec.ofInt 64 (4294967295 : Int)) : Nat) : Int))))) + (Int.fdiv (IntKind.u64.wrap ((IntKind.u64.wrap (((BitVec.toNat (BitVec.ofInt 64 a0 &&& BitVec.ofInt 64 (4294967295 : Int)) : Nat) : Int))) * (IntKind.u64.wrap (((BitVec.toNat (BitVec.ofInt 64 a1 &&& BitVec.ofInt 64 (4294967295 : Int)) : Nat) : Int))))) 4294967296)))), (12, iV .u64 (IntKind.u64.wrap (((BitVec.toNat (BitVec.ofInt 64 (IntKind.u64.wrap ((IntKind.u64.wrap ((Int.fdiv a0 4294967296) * (IntKind.u64.wrap (((BitVec.toNat (BitVec.ofInt 64 a1 &&& BitVec.ofInt 64 (4294967295 : Int)) : Nat) : Int))))) + (Int.fdiv (IntKind.u64.wrap ((IntKind.u64.wrap (((BitVec.toNat (BitVec.ofInt 64 a0 &&& BitVec.ofInt 64 (4294967295 : Int)) : Nat) : Int))) * (IntKind.u64.wrap (((BitVec.toNat (BitVec.ofInt 64 a1 &&& BitVec.ofInt 64 (4294967295 : Int)) : Nat) : Int))))) 4294967296))) &&& BitVec.ofInt 64 (4294967295 : Int)) : Nat) : Int))))], [], 0⟩ [] (by kernel_rfl) trivial ?_
  refine AWp.seq ?_
  refine reg hP hn hm [] [0, 1, 6, 7, 9, 12, 13] [] ⟨[(0, iV .u64 a0), (1, iV .u64 a1), (6, iV .u64 (IntKind.u64.wrap (((BitVec.toNat (BitVec.ofInt 64 a0 &&& BitVec.ofInt 64 (4294967295 : Int)) : Nat) : Int)))), (7, iV .u64 (Int.fdiv a0 4294967296)), (9, iV .u64 (Int.fdiv a1 4294967296)), (12, iV .u64 (IntKind.u64.wrap (((BitVec.toNat (BitVec.ofInt 64 (IntKind.u64.wrap ((IntKind.u64.wrap ((Int.fdiv a0 4294967296) * (IntKind.u64.wrap (((BitVec.toNat (BitVec.ofInt 64 a1 &&& BitVec.ofInt 64 (4294967295 : Int)) : Nat) : Int))))) + (Int.fdiv (IntKind.u64.wrap ((IntKind.u64.wrap (((BitVec.toNat (BitVec.ofInt 64 a0 &&& BitVec.ofInt 64 (4294967295 : Int)) : Nat) : Int))) * (IntKind.u64.wrap (((BitVec.toNat (BitVec.ofInt 64 a1 &&& BitVec.ofInt 64 (4294967295 : Int)) : Nat) : Int))))) 4294967296))) &&& BitVec.ofInt 64 (4294967295 : Int)) : Nat) : Int)))), (13, iV .u64 (Int.fdiv (IntKind.u64.wrap ((IntKind.u64.wrap ((Int.fdiv a0 4294967296) * (IntKind.u64.wrap (((BitVec.toNat (BitVec.ofInt 64 a1 &&& BitVec.ofInt 64 (4294967295 : Int)) : Nat) : Int))))) + (Int.fdiv (IntKind.u64.wrap ((IntKind.u64.wrap (((BitVec.toNat (BitVec.ofInt 64 a0 &&& BitVec.ofInt 64 (4294967295 : Int)) : Nat) : Int))) * (IntKind.u64.wrap (((BitVec.toNat (BitVec.ofInt 64 a1 &&& BitVec.ofInt 64 (4294967295 : Int)) : Nat) : Int))))) 4294967296))) 4294967296))], [], 0⟩ [(0 : Int) ≤ 32] (by kernel_rfl) ⟨by decide, trivial⟩ ?_
  refine AWp.seq ?_
  refine reg hP hn hm [] [0, 1, 7, 9, 12, 13] [] ⟨[(0, iV .u64 a0), (1, iV .u64 a1), (7, iV .u64 (Int.fdiv a0 4294967296)), (9, iV .u64 (Int.fdiv a1 4294967296)), (12, iV .u64 (IntKind.u64.wrap ((IntKind.u64.wrap (((BitVec.toNat (BitVec.ofInt 64 (IntKind.u64.wrap ((IntKind.u64.wrap ((Int.fdiv a0 4294967296) * (IntKind.u64.wrap (((BitVec.toNat (BitVec.ofInt 64 a1 &&& BitVec.ofInt 64 (4294967295 : Int)) : Nat) : Int))))) + (Int.fdiv (IntKind.u64.wrap ((IntKind.u64.wrap (((BitVec.toNat (BitVec.ofInt 64 a0 &&& BitVec.ofInt 64 (4294967295 : Int)) : Nat) : Int))) * (IntKind.u64.wrap (((BitVec.toNat (BitVec.ofInt 64 a1 &&& BitVec.ofInt 64 (4294967295 : Int)) : Nat) : Int))))) 4294967296))) &&& BitVec.ofInt 64 (4294967295 : Int)) : Nat) : Int))) + (IntKind.u64.wrap ((IntKind.u64.wrap (((BitVec.toNat (BitVec.ofInt 64 a0 &&& BitVec.ofInt 64 (4294967295 : Int)) : Nat) : Int))) * (Int.fdiv a1 4294967296)))))), (13, iV .u64 (Int.fdiv (IntKind.u64.wrap ((IntKind.u64.wrap ((Int.fdiv a0 4294967296) * (IntKind.u64.wrap (((BitVec.toNat (BitVec.ofInt 64 a1 &&& BitVec.ofInt 64 (4294967295 : Int)) : Nat) : Int))))) + (Int.fdiv (IntKind.u64.wrap ((IntKind.u64.wrap (((BitVec.toNat (BitVec.ofInt 64 a0 &&& BitVec.ofInt 64 (4294967295 : Int)) : Nat) : Int))) * (IntKind.u64.wrap (((BitVec.toNat (BitVec.ofInt 64 a1 &&& BitVec.ofInt 64 (4294967295 : Int)) : Nat) : Int))))) 4294967296))) 4294967296))], [], 0⟩ [] (by kernel_rfl) trivial ?_
  refine AWp.seq ?_
  refine reg hP hn hm [] [0, 1, 4] [] ⟨[(0, iV .u64 a0), (1, iV .u64 a1), (4, iV .u64 (IntKind.u64.wrap ((IntKind.u64.wrap ((IntKind.u64.wrap ((Int.fdiv a0 4294967296) * (Int.fdiv a1 4294967296))) + (Int.fdiv (IntKind.u64.wrap ((IntKind.u64.wrap ((Int.fdiv a0 4294967296) * (IntKind.u64.wrap (((BitVec.toNat (BitVec.ofInt 64 a1 &&& BitVec.ofInt 64 (4294967295 : Int)) : Nat) : Int))))) + (Int.fdiv (IntKind.u64.wrap ((IntKind.u64.wrap (((BitVec.toNat (BitVec.ofInt 64 a0 &&& BitVec.ofInt 64 (4294967295 : Int)) : Nat) : Int))) * (IntKind.u64.wrap (((BitVec.toNat (BitVec.ofInt 64 a1 &&& BitVec.ofInt 64 (4294967295 : Int)) : Nat) : Int))))) 4294967296))) 4294967296))) + (Int.fdiv (IntKind.u64.wrap ((IntKind.u64.wrap (((BitVec.toNat (BitVec.ofInt 64 (IntKind.u64.wrap ((IntKind.u64.wrap ((Int.fdiv a0 4294967296) * (IntKind.u64.wrap (((BitVec.toNat (BitVec.ofInt 64 a1 &&& BitVec.ofInt 64 (4294967295 : Int)) : Nat) : Int))))) + (Int.fdiv (IntKind.u64.wrap ((IntKind.u64.wrap (((BitVec.toNat (BitVec.ofInt 64 a0 &&& BitVec.ofInt 64 (4294967295 : Int)) : Nat) : Int))) * (IntKind.u64.wrap (((BitVec.toNat (BitVec.ofInt 64 a1 &&& BitVec.ofInt 64 (4294967295 : Int)) : Nat) : Int))))) 4294967296))) &&& BitVec.ofInt 64 (4294967295 : Int)) : Nat) : Int))) + (IntKind.u64.wrap ((IntKind.u64.wrap (((BitVec.toNat (BitVec.ofInt 64 a0 &&& BitVec.ofInt 64 (4294967295 : Int)) : Nat) : Int))) * (Int.fdiv a1 4294967296))))) 4294967296))))], [], 0⟩ [(0 : Int) ≤ 32] (by kernel_rfl) ⟨by decide, trivial⟩ ?_
  refine AWp.seq ?_
  refine reg hP hn hm [] [4, 5] [] ⟨[(4, iV .u64 (IntKind.u64.wrap ((IntKind.u64.wrap ((IntKind.u64.wrap ((Int.fdiv a0 4294967296) * (Int.fdiv a1 4294967296))) + (Int.fdiv (IntKind.u64.wrap ((IntKind.u64.wrap ((Int.fdiv a0 4294967296) * (IntKind.u64.wrap (((BitVec.toNat (BitVec.ofInt 64 a1 &&& BitVec.ofInt 64 (4294967295 : Int)) : Nat) : Int))))) + (Int.fdiv (IntKind.u64.wrap ((IntKind.u64.wrap (((BitVec.toNat (BitVec.ofInt 64 a0 &&& BitVec.ofInt 64 (4294967295 : Int)) : Nat) : Int))) * (IntKind.u64.wrap (((BitVec.toNat (BitVec.ofInt 64 a1 &&& BitVec.ofInt 64 (4294967295 : Int)) : Nat) : Int))))) 4294967296))) 4294967296))) + (Int.fdiv (IntKind.u64.wrap ((IntKind.u64.wrap (((BitVec.toNat (BitVec.ofInt 64 (IntKind.u64.wrap ((IntKind.u64.wrap ((Int.fdiv a0 4294967296) * (IntKind.u64.wrap (((BitVec.toNat (BitVec.ofInt 64 a1 &&& BitVec.ofInt 64 (4294967295 : Int)) : Nat) : Int))))) + (Int.fdiv (IntKind.u64.wrap ((IntKind.u64.wrap (((BitVec.toNat (BitVec.ofInt 64 a0 &&& BitVec.ofInt 64 (4294967295 : Int)) : Nat) : Int))) * (IntKind.u64.wrap (((BitVec.toNat (BitVec.ofInt 64 a1 &&& BitVec.ofInt 64 (4294967295 : Int)) : Nat) : Int))))) 4294967296))) &&& BitVec.ofInt 64 (4294967295 : Int)) : Nat) : Int))) + (IntKind.u64.wrap ((IntKind.u64.wrap (((BitVec.toNat (BitVec.ofInt 64 a0 &&& BitVec.ofInt 64 (4294967295 : Int)) : Nat) : Int))) * (Int.fdiv a1 4294967296))))) 4294967296)))), (5, iV .u64 (IntKind.u64.wrap (a0 * a1)))], [], 0⟩ [] (by kernel_rfl) trivial ?_
  refine AWp.conv (inv := []) (vk := []) (e0 := []) (t := ⟨[(4, iV .u64 (IntKind.u64.wrap ((IntKind.u64.wrap ((IntKind.u64.wrap ((Int.fdiv a0 4294967296) * (Int.fdiv a1 4294967296))) + (Int.fdiv (IntKind.u64.wrap ((IntKind.u64.wrap ((Int.fdiv a0 4294967296) * (IntKind.u64.wrap (((BitVec.toNat (BitVec.ofInt 64 a1 &&& BitVec.ofInt 64 (4294967295 : Int)) : Nat) : Int))))) + (Int.fdiv (IntKind.u64.wrap ((IntKind.u64.wrap (((BitVec.toNat (BitVec.ofInt 64 a0 &&& BitVec.ofInt 64 (4294967295 : Int)) : Nat) : Int))) * (IntKind.u64.wrap (((BitVec.toNat (BitVec.ofInt 64 a1 &&& BitVec.ofInt 64 (4294967295 : Int)) : Nat) : Int))))) 4294967296))) 4294967296))) + (Int.fdiv (IntKind.u64.wrap ((IntKind.u64.wrap (((BitVec.toNat (BitVec.ofInt 64 (IntKind.u64.wrap ((IntKind.u64.wrap ((Int.fdiv a0 4294967296) * (IntKind.u64.wrap (((BitVec.toNat (BitVec.ofInt 64 a1 &&& BitVec.ofInt 64 (4294967295 : Int)) : Nat) : Int))))) + (Int.fdiv (IntKind.u64.wrap ((IntKind.u64.wrap (((BitVec.toNat (BitVec.ofInt 64 a0 &&& BitVec.ofInt 64 (4294967295 : Int)) : Nat) : Int))) * (IntKind.u64.wrap (((BitVec.toNat (BitVec.ofInt 64 a1 &&& BitVec.ofInt 64 (4294967295 : Int)) : Nat) : Int))))) 4294967296))) &&& BitVec.ofInt 64 (4294967295 : Int)) : Nat) : Int))) + (IntKind.u64.wrap ((IntKind.u64.wrap (((BitVec.toNat (BitVec.ofInt 64 a0 &&& BitVec.ofInt 64 (4294967295 : Int)) : Nat) : Int))) * (Int.fdiv a1 4294967296))))) 4294967296)))), (5, iV .u64 (IntKind.u64.wrap (a0 * a1)))], [], 0⟩) (by kernel_rfl) ?_
  refine AWp.ret ?_
  obtain rfl := Option.some.inj H
  exact Exists.intro _ (And.intro (fun _ _ h => h) (And.intro (.inl rfl) (And.intro rfl (And.intro (by kernel_rfl) (by kernel_rfl)))))
def f_num_Mul.f (a0 : Int) (a1 : Int) : Option (Tnum_Wide) := (f_bits_Mul64.f a0 a1) >>= fun t1202 => some (⟨IntKind.u64.wrap ((IntKind.u64.wrap ((IntKind.u64.wrap ((Int.fdiv a0 4294967296) * (Int.fdiv a1 4294967296))) + (Int.fdiv (IntKind.u64.wrap ((IntKind.u64.wrap ((Int.fdiv a0 4294967296) * (IntKind.u64.wrap (((BitVec.toNat (BitVec.ofInt 64 a1 &&& BitVec.ofInt 64 (4294967295 : Int)) : Nat) : Int))))) + (Int.fdiv (IntKind.u64.wrap ((IntKind.u64.wrap (((BitVec.toNat (BitVec.ofInt 64 a0 &&& BitVec.ofInt 64 (4294967295 : Int)) : Nat) : Int))) * (IntKind.u64.wrap (((BitVec.toNat (BitVec.ofInt 64 a1 &&& BitVec.ofInt 64 (4294967295 : Int)) : Nat) : Int))))) 4294967296))) 4294967296))) + (Int.fdiv (IntKind.u64.wrap ((IntKind.u64.wrap (((BitVec.toNat (BitVec.ofInt 64 (IntKind.u64.wrap ((IntKind.u64.wrap ((Int.fdiv a0 4294967296) * (IntKind.u64.wrap (((BitVec.toNat (BitVec.ofInt 64 a1 &&& BitVec.ofInt 64 (4294967295 : Int)) : Nat) : Int))))) + (Int.fdiv (IntKind.u64.wrap ((IntKind.u64.wrap (((BitVec.toNat (BitVec.ofInt 64 a0 &&& BitVec.ofInt 64 (4294967295 : Int)) : Nat) : Int))) * (IntKind.u64.wrap (((BitVec.toNat (BitVec.ofInt 64 a1 &&& BitVec.ofInt 64 (4294967295 : Int)) : Nat) : Int))))) 4294967296))) &&& BitVec.ofInt 64 (4294967295 : Int)) : Nat) : Int))) + (IntKind.u64.wrap ((IntKind.u64.wrap (((BitVec.toNat (BitVec.ofInt 64 a0 &&& BitVec.ofInt 64 (4294967295 : Int)) : Nat) : Int))) * (Int.fdiv a1 4294967296))))) 4294967296)), IntKind.u64.wrap (a0 * a1)⟩ : Tnum_Wide)
theorem f_num_Mul.ok (a0 : Int) (a1 : Int) (r : Tnum_Wide) (H : f_num_Mul.f a0 a1 = some r) : Pv.Fn Try.prog 70 [iV .u64 a0, iV .u64 a1] [] 0 (fun x o => x = .agg (anum_Wide (r)) ∧ o = []) := by
  unfold f_num_Mul.f at H
  refine Fn.bodyK [] Try.func70 rfl rfl (fun Γ hP hn => ?_)
  have hm : Try.prog.follows .mixedOrders = true := by kernel_rfl
  replace hn : Γ.n = 16 := hn
  refine AWp.seq ?_
  refine reg hP hn hm [(0, .k 0)] [0, 1, 4] [0] ⟨[(0, iV .u64 a0), (1, iV .u64 a1), (4, .ptr 0 0 0)], [(0, some (.box 130 (anum_Wide ⟨0, 0⟩)))], 0⟩ [] (by kernel_rfl) trivial ?_
  refine AWp.seq ?_
  obtain ⟨t1202, e1203, H⟩ := bind_of H
  refine reg hP hn hm [(2, .call [] [] [] [] 0 (.tup [iV .u64 (IntKind.u64.wrap ((IntKind.u64.wrap ((IntKind.u64.wrap ((Int.fdiv a0 4294967296) * (Int.fdiv a1 4294967296))) + (Int.fdiv (IntKind.u64.wrap ((IntKind.u64.wrap ((Int.fdiv a0 4294967296) * (IntKind.u64.wrap (((BitVec.toNat (BitVec.ofInt 64 a1 &&& BitVec.ofInt 64 (4294967295 : Int)) : Nat) : Int))))) + (Int.fdiv (IntKind.u64.wrap ((IntKind.u64.wrap (((BitVec.toNat (BitVec.ofInt 64 a0 &&& BitVec.ofInt 64 (4294967295 : Int)) : Nat) : Int))) * (IntKind.u64.wrap (((BitVec.toNat (BitVec.ofInt 64 a1 &&& BitVec.ofInt 64 (4294967295 : Int)) : Nat) : Int))))) 4294967296))) 4294967296))) + (Int.fdiv (IntKind.u64.wrap ((IntKind.u64.wrap (((BitVec.toNat (BitVec.ofInt 64 (IntKind.u64.wrap ((IntKind.u64.wrap ((Int.fdiv a0 4294967296) * (IntKind.u64.wrap (((BitVec.toNat (BitVec.ofInt 64 a1 &&& BitVec.ofInt 64 (4294967295 : Int)) : Nat) : Int))))) + (Int.fdiv (IntKind.u64.wrap ((IntKind.u64.wrap (((BitVec.toNat (BitVec.ofInt 64 a0 &&& BitVec.ofInt 64 (4294967295 : Int)) : Nat) : Int))) * (IntKind.u64.wrap (((BitVec.toNat (BitVec.ofInt 64 a1 &&& BitVec.ofInt 64 (4294967295 : Int)) : Nat) : Int))))) 4294967296))) &&& BitVec.ofInt 64 (4294967295 : Int)) : Nat) : Int))) + (IntKind.u64.wrap ((IntKind.u64.wrap (((BitVec.toNat (BitVec.ofInt 64 a0 &&& BitVec.ofInt 64 (4294967295 : Int)) : Nat) : Int))) * (Int.fdiv a1 4294967296))))) 4294967296))), iV .u64 (IntKind.u64.wrap (a0 * a1))]) [])] [4, 5, 6] [0] ⟨[(4, .ptr 0 0 0), (5, iV .u64 (IntKind.u64.wrap ((IntKind.u64.wrap ((IntKind.u64.wrap ((Int.fdiv a0 4294967296) * (Int.fdiv a1 4294967296))) + (Int.fdiv (IntKind.u64.wrap ((IntKind.u64.wrap ((Int.fdiv a0 4294967296) * (IntKind.u64.wrap (((BitVec.toNat (BitVec.ofInt 64 a1 &&& BitVec.ofInt 64 (4294967295 : Int)) : Nat) : Int))))) + (Int.fdiv (IntKind.u64.wrap ((IntKind.u64.wrap (((BitVec.toNat (BitVec.ofInt 64 a0 &&& BitVec.ofInt 64 (4294967295 : Int)) : Nat) : Int))) * (IntKind.u64.wrap (((BitVec.toNat (BitVec.ofInt 64 a1 &&& BitVec.ofInt 64 (4294967295 : Int)) : Nat) : Int))))) 4294967296))) 4294967296))) + (Int.fdiv (IntKind.u64.wrap ((IntKind.u64.wrap (((BitVec.toNat (BitVec.ofInt 64 (IntKind.u64.wrap ((IntKind.u64.wrap ((Int.fdiv a0 4294967296) * (IntKind.u64.wrap (((BitVec.toNat (BitVec.ofInt 64 a1 &&& BitVec.ofInt 64 (4294967295 : Int)) : Nat) : Int))))) + (Int.fdiv (IntKind.u64.wrap ((IntKind.u64.wrap (((BitVec.toNat (BitVec.ofInt 64 a0 &&& BitVec.ofInt 64 (4294967295 : Int)) : Nat) : Int))) * (IntKind.u64.wrap (((BitVec.toNat (BitVec.ofInt 64 a1 &&& BitVec.ofInt 64 (4294967295 : Int)) : Nat) : Int))))) 4294967296))) &&& BitVec.ofInt 64 (4294967295 : Int)) : Nat) : Int))) + (IntKind.u64.wrap ((IntKind.u64.wrap (((BitVec.toNat (BitVec.ofInt 64 a0 &&& BitVec.ofInt 64 (4294967295 : Int)) : Nat) : Int))) * (Int.fdiv a1 4294967296))))) 4294967296)))), (6, iV .u64 (IntKind.u64.wrap (a0 * a1)))], [(0, some (.box 130 (anum_Wide ⟨0, 0⟩)))], 0⟩ [Enters Try.prog 105, Pv.Fn Try.prog 105 [iV .u64 a0, iV .u64 a1] [] 0 (fun r o => r = .tup [iV .u64 (IntKind.u64.wrap ((IntKind.u64.wrap ((IntKind.u64.wrap ((Int.fdiv a0 4294967296) * (Int.fdiv a1 4294967296))) + (Int.fdiv (IntKind.u64.wrap ((IntKind.u64.wrap ((Int.fdiv a0 4294967296) * (IntKind.u64.wrap (((BitVec.toNat (BitVec.ofInt 64 a1 &&& BitVec.ofInt 64 (4294967295 : Int)) : Nat) : Int))))) + (Int.fdiv (IntKind.u64.wrap ((IntKind.u64.wrap (((BitVec.toNat (BitVec.ofInt 64 a0 &&& BitVec.ofInt 64 (4294967295 : Int)) : Nat) : Int))) * (IntKind.u64.wrap (((BitVec.toNat (BitVec.ofInt 64 a1 &&& BitVec.ofInt 64 (4294967295 : Int)) : Nat) : Int))))) 4294967296))) 4294967296))) + (Int.fdiv (IntKind.u64.wrap ((IntKind.u64.wrap (((BitVec.toNat (BitVec.ofInt 64 (IntKind.u64.wrap ((IntKind.u64.wrap ((Int.fdiv a0 4294967296) * (IntKind.u64.wrap (((BitVec.toNat (BitVec.ofInt 64 a1 &&& BitVec.ofInt 64 (4294967295 : Int)) : Nat) : Int))))) + (Int.fdiv (IntKind.u64.wrap ((IntKind.u64.wrap (((BitVec.toNat (BitVec.ofInt 64 a0 &&& BitVec.ofInt 64 (4294967295 : Int)) : Nat) : Int))) * (IntKind.u64.wrap (((BitVec.toNat (BitVec.ofInt 64 a1 &&& BitVec.ofInt 64 (4294967295 : Int)) : Nat) : Int))))) 4294967296))) &&& BitVec.ofInt 64 (4294967295 : Int)) : Nat) : Int))) + (IntKind.u64.wrap ((IntKind.u64.wrap (((BitVec.toNat (BitVec.ofInt 64 a0 &&& BitVec.ofInt 64 (4294967295 : Int)) : Nat) : Int))) * (Int.fdiv a1 4294967296))))) 4294967296))), iV .u64 (IntKind.u64.wrap (a0 * a1))] ∧ o = [])] (by kernel_rfl) ⟨by exact Try.call105, by exact f_bits_Mul64.ok a0 a1 t1202 e1203, trivial⟩ ?_
  refine AWp.seq ?_
  refine reg hP hn hm [] [4] [0] ⟨[(4, .ptr 0 0 0)], [(0, some (.box 130 (anum_Wide ⟨(IntKind.u64.wrap ((IntKind.u64.wrap ((IntKind.u64.wrap ((Int.fdiv a0 4294967296) * (Int.fdiv a1 4294967296))) + (Int.fdiv (IntKind.u64.wrap ((IntKind.u64.wrap ((Int.fdiv a0 4294967296) * (IntKind.u64.wrap (((BitVec.toNat (BitVec.ofInt 64 a1 &&& BitVec.ofInt 64 (4294967295 : Int)) : Nat) : Int))))) + (Int.fdiv (IntKind.u64.wrap ((IntKind.u64.wrap (((BitVec.toNat (BitVec.ofInt 64 a0 &&& BitVec.ofInt 64 (4294967295 : Int)) : Nat) : Int))) * (IntKind.u64.wrap (((BitVec.toNat (BitVec.ofInt 64 a1 &&& BitVec.ofInt 64 (4294967295 : Int)) : Nat) : Int))))) 4294967296))) 4294967296))) + (Int.fdiv (IntKind.u64.wrap ((IntKind.u64.wrap (((BitVec.toNat (BitVec.ofInt 64 (IntKind.u64.wrap ((IntKind.u64.wrap ((Int.fdiv a0 4294967296) * (IntKind.u64.wrap (((BitVec.toNat (BitVec.ofInt 64 a1 &&& BitVec.ofInt 64 (4294967295 : Int)) : Nat) : Int))))) + (Int.fdiv (IntKind.u64.wrap ((IntKind.u64.wrap (((BitVec.toNat (BitVec.ofInt 64 a0 &&& BitVec.ofInt 64 (4294967295 : Int)) : Nat) : Int))) * (IntKind.u64.wrap (((BitVec.toNat (BitVec.ofInt 64 a1 &&& BitVec.ofInt 64 (4294967295 : Int)) : Nat) : Int))))) 4294967296))) &&& BitVec.ofInt 64 (4294967295 : Int)) : Nat) : Int))) + (IntKind.u64.wrap ((IntKind.u64.wrap (((BitVec.toNat (BitVec.ofInt 64 a0 &&& BitVec.ofInt 64 (4294967295 : Int)) : Nat) : Int))) * (Int.fdiv a1 4294967296))))) 4294967296))), (IntKind.u64.wrap (a0 * a1))⟩)))], 0⟩ [] (by kernel_rfl) trivial ?_
  refine AWp.conv (inv := [(0, 0)]) (vk := []) (e0 := []) (t := ⟨[(4, .ptr 0 0 0)], [(0, some (.box 130 (anum_Wide ((⟨IntKind.u64.wrap ((IntKind.u64.wrap ((IntKind.u64.wrap ((Int.fdiv a0 4294967296) * (Int.fdiv a1 4294967296))) + (Int.fdiv (IntKind.u64.wrap ((IntKind.u64.wrap ((Int.fdiv a0 4294967296) * (IntKind.u64.wrap (((BitVec.toNat (BitVec.ofInt 64 a1 &&& BitVec.ofInt 64 (4294967295 : Int)) : Nat) : Int))))) + (Int.fdiv (IntKind.u64.wrap ((IntKind.u64.wrap (((BitVec.toNat (BitVec.ofInt 64 a0 &&& BitVec.ofInt 64 (4294967295 : Int)) : Nat) : Int))) * (IntKind.u64.wrap (((BitVec.toNat (BitVec.ofInt 64 a1 &&& BitVec.ofInt 64 (4294967295 : Int)) : Nat) : Int))))) 4294967296))) 4294967296))) + (Int.fdiv (IntKind.u64.wrap ((IntKind.u64.wrap (((BitVec.toNat (BitVec.ofInt 64 (IntKind.u64.wrap ((IntKind.u64.wrap ((Int.fdiv a0 4294967296) * (IntKind.u64.wrap (((BitVec.toNat (BitVec.ofInt 64 a1 &&& BitVec.ofInt 64 (4294967295 : Int)) : Nat) : Int))))) + (Int.fdiv (IntKind.u64.wrap ((IntKind.u64.wrap (((BitVec.toNat (BitVec.ofInt 64 a0 &&& BitVec.ofInt 64 (4294967295 : Int)) : Nat) : Int))) * (IntKind.u64.wrap (((BitVec.toNat (BitVec.ofInt 64 a1 &&& BitVec.ofInt 64 (4294967295 : Int)) : Nat) : Int))))) 4294967296))) &&& BitVec.ofInt 64 (4294967295 : Int)) : Nat) : Int))) + (IntKind.u64.wrap ((IntKind.u64.wrap (((BitVec.toNat (BitVec.ofInt 64 a0 &&& BitVec.ofInt 64 (4294967295 : Int)) : Nat) : Int))) * (Int.fdiv a1 4294967296))))) 4294967296)), IntKind.u64.wrap (a0 * a1)⟩ : Tnum_Wide)))))], 0⟩) (by kernel_rfl) ?_
  refine AWp.ret ?_
  obtain rfl := Option.some.inj H
  exact Exists.intro _ (And.intro (fun _ _ h => h) (And.intro (.inl rfl) (And.intro rfl (And.intro (by kernel_rfl) (by kernel_rfl)))))
def f_bits_Len64.f (a0 : Int) : Option (Int) := ((if (decide (a0 ≥ (4294967296 : Int))) = true then (some (Int.fdiv a0 4294967296, 32)) else (some (a0, 0))) : Option (Int × Int)) >>= fun oo => match oo with | (x1216, x1217) => (((if (decide (x1216 ≥ (65536 : Int))) = true then (some (Int.fdiv x1216 65536, IntKind.i64.wrap (x1217 + (16 : Int)))) else (some (x1216, x1217))) : Option (Int × Int)) >>= fun oo => match oo with | (x1219, x1220) => (((if (decide (x1219 ≥ (256 : Int))) = true then (some (Int.fdiv x1219 256, IntKind.i64.wrap (x1220 + (8 : Int)))) else (some (x1219, x1220))) : Option (Int × Int)) >>= fun oo => match oo with | (x1222, x1223) => ((chk (0 ≤ (IntKind.u8.wrap (x1222)) ∧ (IntKind.u8.wrap (x1222)) < ((⟨#[0, 1, 2, 2, 3, 3, 3, 3, 4, 4, 4, 4, 4, 4, 4, 4, 5, 5, 5, 5, 5, 5, 5, 5, 5, 5, 5, 5, 5, 5, 5, 5, 6, 6, 6, 6, 6, 6, 6, 6, 6, 6, 6, 6, 6, 6, 6, 6, 6, 6, 6, 6, 6, 6, 6, 6, 6, 6, 6, 6, 6, 6, 6, 6, 7, 7, 7, 7, 7, 7, 7, 7, 7, 7, 7, 7, 7, 7, 7, 7, 7, 7, 7, 7, 7, 7, 7, 7, 7, 7, 7, 7, 7, 7, 7, 7, 7, 7, 7, 7, 7, 7, 7, 7, 7, 7, 7, 7, 7, 7, 7, 7, 7, 7, 7, 7, 7, 7, 7, 7, 7, 7, 7, 7, 7, 7, 7, 7, 8, 8, 8, 8, 8, 8, 8, 8, 8, 8, 8, 8, 8, 8, 8, 8, 8, 8, 8, 8, 8, 8, 8, 8, 8, 8, 8, 8, 8, 8, 8, 8, 8, 8, 8, 8, 8, 8, 8, 8, 8, 8, 8, 8, 8, 8, 8, 8, 8, 8, 8, 8, 8, 8, 8, 8, 8, 8, 8, 8, 8, 8, 8, 8, 8, 8, 8, 8, 8, 8, 8, 8, 8, 8, 8, 8, 8, 8, 8, 8, 8, 8, 8, 8, 8, 8, 8, 8, 8, 8, 8, 8, 8, 8, 8, 8, 8, 8, 8, 8, 8, 8, 8, 8, 8, 8, 8, 8, 8, 8, 8, 8, 8, 8, 8, 8, 8, 8, 8, 8, 8, 8, 8, 8, 8, 8, 8, 8]⟩ : ByteArray).size : Int))) >>= fun _ => some (IntKind.i64.wrap (x1223 + (IntKind.i64.wrap (bt (⟨#[0, 1, 2, 2, 3, 3, 3, 3, 4, 4, 4, 4, 4, 4, 4, 4, 5, 5, 5, 5, 5, 5, 5, 5, 5, 5, 5, 5, 5, 5, 5, 5, 6, 6, 6, 6, 6, 6, 6, 6, 6, 6, 6, 6, 6, 6, 6, 6, 6, 6, 6, 6, 6, 6, 6, 6, 6, 6, 6, 6, 6, 6, 6, 6, 7, 7, 7, 7, 7, 7, 7, 7, 7, 7, 7, 7, 7, 7, 7, 7, 7, 7, 7, 7, 7, 7, 7, 7, 7, 7, 7, 7, 7, 7, 7, 7, 7, 7, 7, 7, 7, 7, 7, 7, 7, 7, 7, 7, 7, 7, 7, 7, 7, 7, 7, 7, 7, 7, 7, 7, 7, 7, 7, 7, 7, 7, 7, 7, 8, 8, 8, 8, 8, 8, 8, 8, 8, 8, 8, 8, 8, 8, 8, 8, 8, 8, 8, 8, 8, 8, 8, 8, 8, 8, 8, 8, 8, 8, 8, 8, 8, 8, 8, 8, 8, 8, 8, 8, 8, 8, 8, 8, 8, 8, 8, 8, 8, 8, 8, 8, 8, 8, 8, 8, 8, 8, 8, 8, 8, 8, 8, 8, 8, 8, 8, 8, 8, 8, 8, 8, 8, 8, 8, 8, 8, 8, 8, 8, 8, 8, 8, 8, 8, 8, 8, 8, 8, 8, 8, 8, 8, 8, 8, 8, 8, 8, 8, 8, 8, 8, 8, 8, 8, 8, 8, 8, 8, 8, 8, 8, 8, 8, 8, 8, 8, 8, 8, 8, 8, 8, 8, 8, 8, 8, 8, 8]⟩ : ByteArray) (IntKind.u8.wrap (x1222)))))))))
theorem f_bits_Len64.ok (a0 : Int) (r : Int) (H : f_bits_Len64.f a0 = some r) : Pv.Fn Try.prog 129 [iV .u64 a0] [] 0 (fun x o => x = iV .i64 r ∧ o = []) := by
  unfold f_bits_Len64.f at H
  refine Fn.bodyK [] Try.func129 rfl rfl (fun Γ hP hn => ?_)
  have hm : Try.prog.follows .mixedOrders = true := by kernel_rfl
  replace hn : Γ.n = 25 := hn
  refine AWp.seq ?_
  refine reg hP hn hm [] [0, 2] [] ⟨[(0, iV .u64 a0), (2, iV .i64 0)], [], 0⟩ [] (by kernel_rfl) trivial ?_
  refine AWp.seq ?_
  refine AWp.seq ?_
  refine reg hP hn hm [] [0, 2, 4] [] ⟨[(0, iV .u64 a0), (2, iV .i64 0), (4, bV (decide (a0 ≥ (4294967296 : Int))))], [], 0⟩ [] (by kernel_rfl) trivial ?_
  obtain ⟨o1226, e1227, H⟩ := bind_of H
  refine AWp.mono (Q := fun e s => (match (generalizing := false) o1226 with | (x1216, x1217) => e = .normal ∧ s = ⟨[(0, iV .u64 x1216), (2, iV .i64 x1217)], [], 0⟩)) (AWp.cv ?_) ?_
  · replace H := e1227; clear e1227
    refine AWp.cond (decide (a0 ≥ (4294967296 : Int))) rfl (fun c1215 => ?_) (fun c1215 => ?_)
    · replace H := (ifT c1215).symm.trans H
      refine AWp.seq ?_
      refine reg hP hn hm [] [0] [] ⟨[(0, iV .u64 (Int.fdiv a0 4294967296))], [], 0⟩ [(0 : Int) ≤ 32] (by kernel_rfl) ⟨by decide, trivial⟩ ?_
      refine reg hP hn hm [] [0, 2] [] ⟨[(0, iV .u64 (Int.fdiv a0 4294967296)), (2, iV .i64 32)], [], 0⟩ [] (by kernel_rfl) trivial ?_
      obtain rfl := Option.some.inj H
      exact Exists.intro _ (And.intro (fun _ _ h => h.conv (inv := []) (vk := []) (e0 := []) (t := ⟨[(0, iV .u64 (Int.fdiv a0 4294967296)), (2, iV .i64 32)], [], 0⟩) (by kernel_rfl)) (And.intro rfl rfl))
    · replace H := (ifF c1215).symm.trans H
      refine AWp.skip ?_
      obtain rfl := Option.some.inj H
      exact Exists.intro _ (And.intro (fun _ _ h => h.conv (inv := []) (vk := []) (e0 := []) (t := ⟨[(0, iV .u64 a0), (2, iV .i64 0)], [], 0⟩) (by kernel_rfl)) (And.intro rfl rfl))
  · obtain ⟨x1216, x1217⟩ := o1226
    rintro e s ⟨rfl, rfl⟩
    refine AWp.seq ?_
    refine AWp.seq ?_
    refine reg hP hn hm [] [0, 2, 8] [] ⟨[(0, iV .u64 x1216), (2, iV .i64 x1217), (8, bV (decide (x1216 ≥ (65536 : Int))))], [], 0⟩ [] (by kernel_rfl) trivial ?_
    obtain ⟨o1228, e1229, H⟩ := bind_of H
    refine AWp.mono (Q := fun e s => (match (generalizing := false) o1228 with | (x1219, x1220) => e = .normal ∧ s = ⟨[(0, iV .u64 x1219), (2, iV .i64 x1220)], [], 0⟩)) (AWp.cv ?_) ?_
    · replace H := e1229; clear e1229
      refine AWp.cond (decide (x1216 ≥ (65536 : Int))) rfl (fun c1218 => ?_) (fun c1218 => ?_)
      · replace H := (ifT c1218).symm.trans H
        refine AWp.seq ?_
        refine reg hP hn hm [] [0, 2] [] ⟨[(0, iV .u64 (Int.fdiv x1216 65536)), (2, iV .i64 x1217)], [], 0⟩ [(0 : Int) ≤ 16] (by kernel_rfl) ⟨by decide, trivial⟩ ?_
        refine reg hP hn hm [] [0, 2] [] ⟨[(0, iV .u64 (Int.fdiv x1216 65536)), (2, iV .i64 (IntKind.i64.wrap (x1217 + (16 : Int))))], [], 0⟩ [] (by kernel_rfl) trivial ?_
        obtain rfl := Option.some.inj H
        exact Exists.intro _ (And.intro (fun _ _ h => h.conv (inv := []) (vk := []) (e0 := []) (t := ⟨[(0, iV .u64 (Int.fdiv x1216 65536)), (2, iV .i64 (IntKind.i64.wrap (x1217 + (16 : Int))))], [], 0⟩) (by kernel_rfl)) (And.intro rfl rfl))
      · replace H := (ifF c1218).symm.trans H
        refine AWp.skip ?_
        obtain rfl := Option.some.inj H
        exact Exists.intro _ (And.intro (fun _ _ h => h.conv (inv := []) (vk := []) (e0 := []) (t := ⟨[(0, iV .u64 x1216), (2, iV .i64 x1217)], [], 0⟩) (by kernel_rfl)) (And.intro rfl rfl))
    · obtain ⟨x1219, x1220⟩ := o1228
      rintro e s ⟨rfl, rfl⟩
      refine AWp.seq ?_
      refine AWp.seq ?_
      refine reg hP hn hm [] [0, 2, 14] [] ⟨[(0, iV .u64 x1219), (2, iV .i64 x1220), (14, bV (decide (x1219 ≥ (256 : Int))))], [], 0⟩ [] (by kernel_rfl) trivial ?_
      obtain ⟨o1230, e1231, H⟩ := bind_of H
      refine AWp.mono (Q := fun e s => (match (generalizing := false) o1230 with | (x1222, x1223) => e = .normal ∧ s = ⟨[(0, iV .u64 x1222), (2, iV .i64 x1223)], [], 0⟩)) (AWp.cv ?_) ?_
      · replace H := e1231; clear e1231
        refine AWp.cond (decide (x1219 ≥ (256 : Int))) rfl (fun c1221 => ?_) (fun c1221 => ?_)
        · replace H := (ifT c1221).symm.trans H
          refine AWp.seq ?_
          refine reg hP hn hm [] [0, 2] [] ⟨[(0, iV .u64 (Int.fdiv x1219 256)), (2, iV .i64 x1220)], [], 0⟩ [(0 : Int) ≤ 8] (by kernel_rfl) ⟨by decide, trivial⟩ ?_
          refine reg hP hn hm [] [0, 2] [] ⟨[(0, iV .u64 (Int.fdiv x1219 256)), (2, iV .i64 (IntKind.i64.wrap (x1220 + (8 : Int))))], [], 0⟩ [] (by kernel_rfl) trivial ?_
          obtain rfl := Option.some.inj H
          exact Exists.intro _ (And.intro (fun _ _ h => h.conv (inv := []) (vk := []) (e0 := []) (t := ⟨[(0, iV .u64 (Int.fdiv x1219 256)), (2, iV .i64 (IntKind.i64.wrap (x1220 + (8 : Int))))], [], 0⟩) (by kernel_rfl)) (And.intro rfl rfl))
        · replace H := (ifF c1221).symm.trans H
          refine AWp.skip ?_
          obtain rfl := Option.some.inj H
          exact Exists.intro _ (And.intro (fun _ _ h => h.conv (inv := []) (vk := []) (e0 := []) (t := ⟨[(0, iV .u64 x1219), (2, iV .i64 x1220)], [], 0⟩) (by kernel_rfl)) (And.intro rfl rfl))
      · obtain ⟨x1222, x1223⟩ := o1230
        rintro e s ⟨rfl, rfl⟩
        refine AWp.seq ?_
        obtain ⟨c1225, H⟩ := chk_of H
        refine reg hP hn hm [] [2] [] ⟨[(2, iV .i64 (IntKind.i64.wrap (x1223 + (IntKind.i64.wrap (bt (⟨#[0, 1, 2, 2, 3, 3, 3, 3, 4, 4, 4, 4, 4, 4, 4, 4, 5, 5, 5, 5, 5, 5, 5, 5, 5, 5, 5, 5, 5, 5, 5, 5, 6, 6, 6, 6, 6, 6, 6, 6, 6, 6, 6, 6, 6, 6, 6, 6, 6, 6, 6, 6, 6, 6, 6, 6, 6, 6, 6, 6, 6, 6, 6, 6, 7, 7, 7, 7, 7, 7, 7, 7, 7, 7, 7, 7, 7, 7, 7, 7, 7, 7, 7, 7, 7, 7, 7, 7, 7, 7, 7, 7, 7, 7, 7, 7, 7, 7, 7, 7, 7, 7, 7, 7, 7, 7, 7, 7, 7, 7, 7, 7, 7, 7, 7, 7, 7, 7, 7, 7, 7, 7, 7, 7, 7, 7, 7, 7, 8, 8, 8, 8, 8, 8, 8, 8, 8, 8, 8, 8, 8, 8, 8, 8, 8, 8, 8, 8, 8, 8, 8, 8, 8, 8, 8, 8, 8, 8, 8, 8, 8, 8, 8, 8, 8, 8, 8, 8, 8, 8, 8, 8, 8, 8, 8, 8, 8, 8, 8, 8, 8, 8, 8, 8, 8, 8, 8, 8, 8, 8, 8, 8, 8, 8, 8, 8, 8, 8, 8, 8, 8, 8, 8, 8, 8, 8, 8, 8, 8, 8, 8, 8, 8, 8, 8, 8, 8, 8, 8, 8, 8, 8, 8, 8, 8, 8, 8, 8, 8, 8, 8, 8, 8, 8, 8, 8, 8, 8, 8, 8, 8, 8, 8, 8, 8, 8, 8, 8, 8, 8, 8, 8, 8, 8, 8, 8]⟩ : ByteArray) (IntKind.u8.wrap (x1222)))))))], [], 0⟩ [0 ≤ (IntKind.u8.wrap (x1222)), (IntKind.u8.wrap (x1222)) < ((⟨#[0, 1, 2, 2, 3, 3, 3, 3, 4, 4, 4, 4, 4, 4, 4, 4, 5, 5, 5, 5, 5, 5, 5, 5, 5, 5, 5, 5, 5, 5, 5, 5, 6, 6, 6, 6, 6, 6, 6, 6, 6, 6, 6, 6, 6, 6, 6, 6, 6, 6, 6, 6, 6, 6, 6, 6, 6, 6, 6, 6, 6, 6, 6, 6, 7, 7, 7, 7, 7, 7, 7, 7, 7, 7, 7, 7, 7, 7, 7, 7, 7, 7, 7, 7, 7, 7, 7, 7, 7, 7, 7, 7, 7, 7, 7, 7, 7, 7, 7, 7, 7, 7, 7, 7, 7, 7, 7, 7, 7, 7, 7, 7, 7, 7, 7, 7, 7, 7, 7, 7, 7, 7, 7, 7, 7, 7, 7, 7, 8, 8, 8, 8, 8, 8, 8, 8, 8, 8, 8, 8, 8, 8, 8, 8, 8, 8, 8, 8, 8, 8, 8, 8, 8, 8, 8, 8, 8, 8, 8, 8, 8, 8, 8, 8, 8, 8, 8, 8, 8, 8, 8, 8, 8, 8, 8, 8, 8, 8, 8, 8, 8, 8, 8, 8, 8, 8, 8, 8, 8, 8, 8, 8, 8, 8, 8, 8, 8, 8, 8, 8, 8, 8, 8, 8, 8, 8, 8, 8, 8, 8, 8, 8, 8, 8, 8, 8, 8, 8, 8, 8, 8, 8, 8, 8, 8, 8, 8, 8, 8, 8, 8, 8, 8, 8, 8, 8, 8, 8, 8, 8, 8, 8, 8, 8, 8, 8, 8, 8, 8, 8, 8, 8, 8, 8, 8, 8]⟩ : ByteArray).size : Int)] (by kernel_rfl) ⟨by exact c1225.1, by exact c1225.2, trivial⟩ ?_
        refine AWp.conv (inv := []) (vk := []) (e0 := []) (t := ⟨[(2, iV .i64 (IntKind.i64.wrap (x1223 + (IntKind.i64.wrap (bt (⟨#[0, 1, 2, 2, 3, 3, 3, 3, 4, 4, 4, 4, 4, 4, 4, 4, 5, 5, 5, 5, 5, 5, 5, 5, 5, 5, 5, 5, 5, 5, 5, 5, 6, 6, 6, 6, 6, 6, 6, 6, 6, 6, 6, 6, 6, 6, 6, 6, 6, 6, 6, 6, 6, 6, 6, 6, 6, 6, 6, 6, 6, 6, 6, 6, 7, 7, 7, 7, 7, 7, 7, 7, 7, 7, 7, 7, 7, 7, 7, 7, 7, 7, 7, 7, 7, 7, 7, 7, 7, 7, 7, 7, 7, 7, 7, 7, 7, 7, 7, 7, 7, 7, 7, 7, 7, 7, 7, 7, 7, 7, 7, 7, 7, 7, 7, 7, 7, 7, 7, 7, 7, 7, 7, 7, 7, 7, 7, 7, 8, 8, 8, 8, 8, 8, 8, 8, 8, 8, 8, 8, 8, 8, 8, 8, 8, 8, 8, 8, 8, 8, 8, 8, 8, 8, 8, 8, 8, 8, 8, 8, 8, 8, 8, 8, 8, 8, 8, 8, 8, 8, 8, 8, 8, 8, 8, 8, 8, 8, 8, 8, 8, 8, 8, 8, 8, 8, 8, 8, 8, 8, 8, 8, 8, 8, 8, 8, 8, 8, 8, 8, 8, 8, 8, 8, 8, 8, 8, 8, 8, 8, 8, 8, 8, 8, 8, 8, 8, 8, 8, 8, 8, 8, 8, 8, 8, 8, 8, 8, 8, 8, 8, 8, 8, 8, 8, 8, 8, 8, 8, 8, 8, 8, 8, 8, 8, 8, 8, 8, 8, 8, 8, 8, 8, 8, 8, 8]⟩ : ByteArray) (IntKind.u8.wrap (x1222)))))))], [], 0⟩) (by kernel_rfl) ?_
        refine AWp.ret ?_
        obtain rfl := Option.some.inj H
        exact Exists.intro _ (And.intro (fun _ _ h => h) (And.intro (.inl rfl) (And.intro rfl (And.intro (by kernel_rfl) (by kernel_rfl)))))
def f_bits_LeadingZeros64.f (a0 : Int) : Option (Int) := (f_bits_Len64.f a0) >>= fun t1234 => some (IntKind.i64.wrap ((64 : Int) - t1234))
theorem f_bits_LeadingZeros64.ok (a0 : Int) (r : Int) (H : f_bits_LeadingZeros64.f a0 = some r) : Pv.Fn Try.prog 136 [iV .u64 a0] [] 0 (fun x o => x = iV .i64 r ∧ o = []) := by
  unfold f_bits_LeadingZeros64.f at H
  refine Fn.bodyK [] Try.func136 rfl rfl (fun Γ hP hn => ?_)
  have hm : Try.prog.follows .mixedOrders = true := by kernel_rfl
  replace hn : Γ.n = 6 := hn
  refine AWp.seq ?_
  refine reg hP hn hm [] [0] [] ⟨[(0, iV .u64 a0)], [], 0⟩ [] (by kernel_rfl) trivial ?_
  refine AWp.seq ?_
  obtain ⟨t1234, e1235, H⟩ := bind_of H
  refine reg hP hn hm [(1, .call [] [] [] [] 0 (iV .i64 t1234) [])] [2] [] ⟨[(2, iV .i64 (IntKind.i64.wrap ((64 : Int) - t1234)))], [], 0⟩ [Enters Try.prog 129, Pv.Fn Try.prog 129 [iV .u64 a0] [] 0 (fun r o => r = iV .i64 t1234 ∧ o = [])] (by kernel_rfl) ⟨by exact Try.call129, by exact f_bits_Len64.ok a0 t1234 e1235, trivial⟩ ?_
  refine AWp.conv (inv := []) (vk := []) (e0 := []) (t := ⟨[(2, iV .i64 (IntKind.i64.wrap ((64 : Int) - t1234)))], [], 0⟩) (by kernel_rfl) ?_
  refine AWp.ret ?_
  obtain rfl := Option.some.inj H
  exact Exists.intro _ (And.intro (fun _ _ h => h) (And.intro (.inl rfl) (And.intro rfl (And.intro (by kernel_rfl) (by kernel_rfl)))))
def f_bits_Div64.l0 (a0 : Int) (a1 : Int) (a2 : Int) (t1238 : Int) (x1251 : Int) (x1252 : Int) : Option (Int) := ((if (decide (x1251 ≥ (4294967296 : Int))) = true then (some true) else (some (decide ((IntKind.u64.wrap (x1251 * (IntKind.u64.wrap (((BitVec.toNat (BitVec.ofInt 64 (IntKind.u64.wrap (a2 * 2 ^ (min (Int.toNat (IntKind.u64.wrap (t1238))) 64))) &&& BitVec.ofInt 64 (4294967295 : Int)) : Nat) : Int))))) > (IntKind.u64.wrap ((IntKind.u64.wrap ((4294967296 : Int) * x1252)) + (Int.fdiv (IntKind.u64.wrap (a1 * 2 ^ (min (Int.toNat (IntKind.u64.wrap (t1238))) 64))) 4294967296))))))) : Option (Bool)) >>= fun x1255 => if x1255 = true then (if (decide ((IntKind.u64.wrap (x1252 + (Int.fdiv (IntKind.u64.wrap (a2 * 2 ^ (min (Int.toNat (IntKind.u64.wrap (t1238))) 64))) 4294967296))) ≥ (4294967296 : Int))) = true then (some (IntKind.u64.wrap (x1251 - (1 : Int)))) else (f_bits_Div64.l0 a0 a1 a2 t1238 (IntKind.u64.wrap (x1251 - (1 : Int))) (IntKind.u64.wrap (x1252 + (Int.fdiv (IntKind.u64.wrap (a2 * 2 ^ (min (Int.toNat (IntKind.u64.wrap (t1238))) 64))) 4294967296))))) else (some x1251)
partial_fixpoint
def f_bits_Div64.l1 (a0 : Int) (a1 : Int) (a2 : Int) (t1238 : Int) (x1258 : Int) (x1266 : Int) (x1267 : Int) : Option (Int) := ((if (decide (x1267 ≥ (4294967296 : Int))) = true then (some true) else (some (decide ((IntKind.u64.wrap (x1267 * (IntKind.u64.wrap (((BitVec.toNat (BitVec.ofInt 64 (IntKind.u64.wrap (a2 * 2 ^ (min (Int.toNat (IntKind.u64.wrap (t1238))) 64))) &&& BitVec.ofInt 64 (4294967295 : Int)) : Nat) : Int))))) > (IntKind.u64.wrap ((IntKind.u64.wrap ((4294967296 : Int) * x1266)) + (IntKind.u64.wrap (((BitVec.toNat (BitVec.ofInt 64 (IntKind.u64.wrap (a1 * 2 ^ (min (Int.toNat (IntKind.u64.wrap (t1238))) 64))) &&& BitVec.ofInt 64 (4294967295 : Int)) : Nat) : Int))))))))) : Option (Bool)) >>= fun x1270 => if x1270 = true then (if (decide ((IntKind.u64.wrap (x1266 + (Int.fdiv (IntKind.u64.wrap (a2 * 2 ^ (min (Int.toNat (IntKind.u64.wrap (t1238))) 64))) 4294967296))) ≥ (4294967296 : Int))) = true then (some (IntKind.u64.wrap (x1267 - (1 : Int)))) else (f_bits_Div64.l1 a0 a1 a2 t1238 x1258 (IntKind.u64.wrap (x1266 + (Int.fdiv (IntKind.u64.wrap (a2 * 2 ^ (min (Int.toNat (IntKind.u64.wrap (t1238))) 64))) 4294967296))) (IntKind.u64.wrap (x1267 - (1 : Int))))) else (some x1267)
partial_fixpoint
def f_bits_Div64.f (a0 : Int) (a1 : Int) (a2 : Int) : Option (Int × Int) := if (a2 == (0 : Int)) = true then (none) else (if (decide (a2 ≤ a0)) = true then (none) else (if (a0 == (0 : Int)) = true then ((chk (a2 ≠ 0)) >>= fun _ => some (IntKind.u64.wrap (Int.tdiv a1 a2), Int.tmod a1 a2)) else ((f_bits_LeadingZeros64.f a2) >>= fun t1238 => (chk (0 ≤ (IntKind.u64.wrap (t1238)))) >>= fun _ => (chk (0 ≤ (IntKind.u64.wrap ((64 : Int) - (IntKind.u64.wrap (t1238)))))) >>= fun _ => (chk ((Int.fdiv (IntKind.u64.wrap (a2 * 2 ^ (min (Int.toNat (IntKind.u64.wrap (t1238))) 64))) 4294967296) ≠ 0)) >>= fun _ => (f_bits_Div64.l0 a0 a1 a2 t1238 (IntKind.u64.wrap (Int.tdiv (IntKind.u64.wrap (((BitVec.toNat (BitVec.ofInt 64 (IntKind.u64.wrap (a0 * 2 ^ (min (Int.toNat (IntKind.u64.wrap (t1238))) 64))) ||| BitVec.ofInt 64 (Int.fdiv a1 (2 ^ (min (Int.toNat (IntKind.u64.wrap ((64 : Int) - (IntKind.u64.wrap (t1238))))) 64)))) : Nat) : Int))) (Int.fdiv (IntKind.u64.wrap (a2 * 2 ^ (min (Int.toNat (IntKind.u64.wrap (t1238))) 64))) 4294967296))) (IntKind.u64.wrap ((IntKind.u64.wrap (((BitVec.toNat (BitVec.ofInt 64 (IntKind.u64.wrap (a0 * 2 ^ (min (Int.toNat (IntKind.u64.wrap (t1238))) 64))) ||| BitVec.ofInt 64 (Int.fdiv a1 (2 ^ (min (Int.toNat (IntKind.u64.wrap ((64 : Int) - (IntKind.u64.wrap (t1238))))) 64)))) : Nat) : Int))) - (IntKind.u64.wrap ((IntKind.u64.wrap (Int.tdiv (IntKind.u64.wrap (((BitVec.toNat (BitVec.ofInt 64 (IntKind.u64.wrap (a0 * 2 ^ (min (Int.toNat (IntKind.u64.wrap (t1238))) 64))) ||| BitVec.ofInt 64 (Int.fdiv a1 (2 ^ (min (Int.toNat (IntKind.u64.wrap ((64 : Int) - (IntKind.u64.wrap (t1238))))) 64)))) : Nat) : Int))) (Int.fdiv (IntKind.u64.wrap (a2 * 2 ^ (min (Int.toNat (IntKind.u64.wrap (t1238))) 64))) 4294967296))) * (Int.fdiv (IntKind.u64.wrap (a2 * 2 ^ (min (Int.toNat (IntKind.u64.wrap (t1238))) 64))) 4294967296)))))) >>= fun x1258 => (chk ((Int.fdiv (IntKind.u64.wrap (a2 * 2 ^ (min (Int.toNat (IntKind.u64.wrap (t1238))) 64))) 4294967296) ≠ 0)) >>= fun _ => (f_bits_Div64.l1 a0 a1 a2 t1238 x1258 (IntKind.u64.wrap ((IntKind.u64.wrap ((IntKind.u64.wrap ((IntKind.u64.wrap ((IntKind.u64.wrap (((BitVec.toNat (BitVec.ofInt 64 (IntKind.u64.wrap (a0 * 2 ^ (min (Int.toNat (IntKind.u64.wrap (t1238))) 64))) ||| BitVec.ofInt 64 (Int.fdiv a1 (2 ^ (min (Int.toNat (IntKind.u64.wrap ((64 : Int) - (IntKind.u64.wrap (t1238))))) 64)))) : Nat) : Int))) * (4294967296 : Int))) + (Int.fdiv (IntKind.u64.wrap (a1 * 2 ^ (min (Int.toNat (IntKind.u64.wrap (t1238))) 64))) 4294967296))) - (IntKind.u64.wrap (x1258 * (IntKind.u64.wrap (a2 * 2 ^ (min (Int.toNat (IntKind.u64.wrap (t1238))) 64))))))) - (IntKind.u64.wrap ((IntKind.u64.wrap (Int.tdiv (IntKind.u64.wrap ((IntKind.u64.wrap ((IntKind.u64.wrap ((IntKind.u64.wrap (((BitVec.toNat (BitVec.ofInt 64 (IntKind.u64.wrap (a0 * 2 ^ (min (Int.toNat (IntKind.u64.wrap (t1238))) 64))) ||| BitVec.ofInt 64 (Int.fdiv a1 (2 ^ (min (Int.toNat (IntKind.u64.wrap ((64 : Int) - (IntKind.u64.wrap (t1238))))) 64)))) : Nat) : Int))) * (4294967296 : Int))) + (Int.fdiv (IntKind.u64.wrap (a1 * 2 ^ (min (Int.toNat (IntKind.u64.wrap (t1238))) 64))) 4294967296))) - (IntKind.u64.wrap (x1258 * (IntKind.u64.wrap (a2 * 2 ^ (min (Int.toNat (IntKind.u64.wrap (t1238))) 64))))))) (Int.fdiv (IntKind.u64.wrap (a2 * 2 ^ (min (Int.toNat (IntKind.u64.wrap (t1238))) 64))) 4294967296))) * (Int.fdiv (IntKind.u64.wrap (a2 * 2 ^ (min (Int.toNat (IntKind.u64.wrap (t1238))) 64))) 4294967296))))) (IntKind.u64.wrap (Int.tdiv (IntKind.u64.wrap ((IntKind.u64.wrap ((IntKind.u64.wrap ((IntKind.u64.wrap (((BitVec.toNat (BitVec.ofInt 64 (IntKind.u64.wrap (a0 * 2 ^ (min (Int.toNat (IntKind.u64.wrap (t1238))) 64))) ||| BitVec.ofInt 64 (Int.fdiv a1 (2 ^ (min (Int.toNat (IntKind.u64.wrap ((64 : Int) - (IntKind.u64.wrap (t1238))))) 64)))) : Nat) : Int))) * (4294967296 : Int))) + (Int.fdiv (IntKind.u64.wrap (a1 * 2 ^ (min (Int.toNat (IntKind.u64.wrap (t1238))) 64))) 4294967296))) - (IntKind.u64.wrap (x1258 * (IntKind.u64.wrap (a2 * 2 ^ (min (Int.toNat (IntKind.u64.wrap (t1238))) 64))))))) (Int.fdiv (IntKind.u64.wrap (a2 * 2 ^ (min (Int.toNat (IntKind.u64.wrap (t1238))) 64))) 4294967296)))) >>= fun x1273 => (chk (0 ≤ (IntKind.u64.wrap (t1238)))) >>= fun _ => some (IntKind.u64.wrap ((IntKind.u64.wrap (x1258 * (4294967296 : Int))) + x1273), Int.fdiv (IntKind.u64.wrap ((IntKind.u64.wrap ((IntKind.u64.wrap ((IntKind.u64.wrap ((IntKind.u64.wrap ((IntKind.u64.wrap ((IntKind.u64.wrap (((BitVec.toNat (BitVec.ofInt 64 (IntKind.u64.wrap (a0 * 2 ^ (min (Int.toNat (IntKind.u64.wrap (t1238))) 64))) ||| BitVec.ofInt 64 (Int.fdiv a1 (2 ^ (min (Int.toNat (IntKind.u64.wrap ((64 : Int) - (IntKind.u64.wrap (t1238))))) 64)))) : Nat) : Int))) * (4294967296 : Int))) + (Int.fdiv (IntKind.u64.wrap (a1 * 2 ^ (min (Int.toNat (IntKind.u64.wrap (t1238))) 64))) 4294967296))) - (IntKind.u64.wrap (x1258 * (IntKind.u64.wrap (a2 * 2 ^ (min (Int.toNat (IntKind.u64.wrap (t1238))) 64))))))) * (4294967296 : Int))) + (IntKind.u64.wrap (((BitVec.toNat (BitVec.ofInt 64 (IntKind.u64.wrap (a1 * 2 ^ (min (Int.toNat (IntKind.u64.wrap (t1238))) 64))) &&& BitVec.ofInt 64 (4294967295 : Int)) : Nat) : Int))))) - (IntKind.u64.wrap (x1273 * (IntKind.u64.wrap (a2 * 2 ^ (min (Int.toNat (IntKind.u64.wrap (t1238))) 64))))))) (2 ^ (min (Int.toNat (IntKind.u64.wrap (t1238))) 64))))))
theorem f_bits_Div64.ok (a0 : Int) (a1 : Int) (a2 : Int) (r : Int × Int) (H : f_bits_Div64.f a0 a1 a2 = some r) : Pv.Fn Try.prog 106 [iV .u64 a0, iV .u64 a1, iV .u64 a2] [] 0 (fun x o => x = .tup [iV .u64 r.1, iV .u64 r.2] ∧ o = []) := by
  unfold f_bits_Div64.f at H
  refine Fn.bodyK [] Try.func106 rfl rfl (fun Γ hP hn => ?_)
  have hm : Try.prog.follows .mixedOrders = true := by kernel_rfl
  replace hn : Γ.n = 135 := hn
  refine AWp.seq ?_
  refine reg hP hn hm [] [0, 1, 2] [] ⟨[(0, iV .u64 a0), (1, iV .u64 a1), (2, iV .u64 a2)], [], 0⟩ [] (by kernel_rfl) trivial ?_
  refine AWp.seq ?_
  refine AWp.seq ?_
  refine reg hP hn hm [] [0, 1, 2, 20] [] ⟨[(0, iV .u64 a0), (1, iV .u64 a1), (2, iV .u64 a2), (20, bV (a2 == (0 : Int)))], [], 0⟩ [] (by kernel_rfl) trivial ?_
  refine AWp.cond (a2 == (0 : Int)) rfl (fun c1210 => ?_) (fun c1210 => ?_)
  · replace H := (ifT c1210).symm.trans H
    exact nomatch H
  · replace H := (ifF c1210).symm.trans H
    refine AWp.skip ?_
    refine AWp.seq ?_
    refine AWp.seq ?_
    refine reg hP hn hm [] [0, 1, 2, 24] [] ⟨[(0, iV .u64 a0), (1, iV .u64 a1), (2, iV .u64 a2), (24, bV (decide (a2 ≤ a0)))], [], 0⟩ [] (by kernel_rfl) trivial ?_
    refine AWp.cond (decide (a2 ≤ a0)) rfl (fun c1211 => ?_) (fun c1211 => ?_)
    · replace H := (ifT c1211).symm.trans H
      exact nomatch H
    · replace H := (ifF c1211).symm.trans H
      refine AWp.skip ?_
      refine AWp.seq ?_
      refine AWp.seq ?_
      refine reg hP hn hm [] [0, 1, 2, 27] [] ⟨[(0, iV .u64 a0), (1, iV .u64 a1), (2, iV .u64 a2), (27, bV (a0 == (0 : Int)))], [], 0⟩ [] (by kernel_rfl) trivial ?_
      refine AWp.cond (a0 == (0 : Int)) rfl (fun c1212 => ?_) (fun c1212 => ?_)
      · replace H := (ifT c1212).symm.trans H
        refine AWp.seq ?_
        obtain ⟨c1214, H⟩ := chk_of H
        refine reg hP hn hm [] [6, 7] [] ⟨[(6, iV .u64 (IntKind.u64.wrap (Int.tdiv a1 a2))), (7, iV .u64 (Int.tmod a1 a2))], [], 0⟩ [a2 ≠ 0, a2 ≠ 0] (by kernel_rfl) ⟨by exact c1214, by exact c1214, trivial⟩ ?_
        refine AWp.conv (inv := []) (vk := []) (e0 := []) (t := ⟨[(6, iV .u64 (IntKind.u64.wrap (Int.tdiv a1 a2))), (7, iV .u64 (Int.tmod a1 a2))], [], 0⟩) (by kernel_rfl) ?_
        refine AWp.ret ?_
        obtain rfl := Option.some.inj H
        exact Exists.intro _ (And.intro (fun _ _ h => h) (And.intro (.inl rfl) (And.intro rfl (And.intro (by kernel_rfl) (by kernel_rfl)))))
      · replace H := (ifF c1212).symm.trans H
        refine AWp.skip ?_
        refine AWp.seq ?_
        obtain ⟨t1238, e1239, H⟩ := bind_of H
        refine reg hP hn hm [(1, .call [] [] [] [] 0 (iV .i64 t1238) [])] [0, 1, 2, 8] [] ⟨[(0, iV .u64 a0), (1, iV .u64 a1), (2, iV .u64 a2), (8, iV .u64 (IntKind.u64.wrap (t1238)))], [], 0⟩ [Enters Try.prog 136, Pv.Fn Try.prog 136 [iV .u64 a2] [] 0 (fun r o => r = iV .i64 t1238 ∧ o = [])] (by kernel_rfl) ⟨by exact Try.call136, by exact f_bits_LeadingZeros64.ok a2 t1238 e1239, trivial⟩ ?_
        refine AWp.seq ?_
        obtain ⟨c1241, H⟩ := chk_of H
        refine reg hP hn hm [] [0, 1, 2, 8] [] ⟨[(0, iV .u64 a0), (1, iV .u64 a1), (2, iV .u64 (IntKind.u64.wrap (a2 * 2 ^ (min (Int.toNat (IntKind.u64.wrap (t1238))) 64)))), (8, iV .u64 (IntKind.u64.wrap (t1238)))], [], 0⟩ [0 ≤ (IntKind.u64.wrap (t1238))] (by kernel_rfl) ⟨by exact c1241, trivial⟩ ?_
        refine AWp.seq ?_
        refine reg hP hn hm [] [0, 1, 2, 8, 9] [] ⟨[(0, iV .u64 a0), (1, iV .u64 a1), (2, iV .u64 (IntKind.u64.wrap (a2 * 2 ^ (min (Int.toNat (IntKind.u64.wrap (t1238))) 64)))), (8, iV .u64 (IntKind.u64.wrap (t1238))), (9, iV .u64 (Int.fdiv (IntKind.u64.wrap (a2 * 2 ^ (min (Int.toNat (IntKind.u64.wrap (t1238))) 64))) 4294967296))], [], 0⟩ [(0 : Int) ≤ 32] (by kernel_rfl) ⟨by decide, trivial⟩ ?_
        refine AWp.seq ?_
        refine reg hP hn hm [] [0, 1, 2, 8, 9, 10] [] ⟨[(0, iV .u64 a0), (1, iV .u64 a1), (2, iV .u64 (IntKind.u64.wrap (a2 * 2 ^ (min (Int.toNat (IntKind.u64.wrap (t1238))) 64)))), (8, iV .u64 (IntKind.u64.wrap (t1238))), (9, iV .u64 (Int.fdiv (IntKind.u64.wrap (a2 * 2 ^ (min (Int.toNat (IntKind.u64.wrap (t1238))) 64))) 4294967296)), (10, iV .u64 (IntKind.u64.wrap (((BitVec.toNat (BitVec.ofInt 64 (IntKind.u64.wrap (a2 * 2 ^ (min (Int.toNat (IntKind.u64.wrap (t1238))) 64))) &&& BitVec.ofInt 64 (4294967295 : Int)) : Nat) : Int))))], [], 0⟩ [] (by kernel_rfl) trivial ?_
        refine AWp.seq ?_
        obtain ⟨c1243, H⟩ := chk_of H
        refine reg hP hn hm [] [1, 2, 8, 9, 10, 11] [] ⟨[(1, iV .u64 a1), (2, iV .u64 (IntKind.u64.wrap (a2 * 2 ^ (min (Int.toNat (IntKind.u64.wrap (t1238))) 64)))), (8, iV .u64 (IntKind.u64.wrap (t1238))), (9, iV .u64 (Int.fdiv (IntKind.u64.wrap (a2 * 2 ^ (min (Int.toNat (IntKind.u64.wrap (t1238))) 64))) 4294967296)), (10, iV .u64 (IntKind.u64.wrap (((BitVec.toNat (BitVec.ofInt 64 (IntKind.u64.wrap (a2 * 2 ^ (min (Int.toNat (IntKind.u64.wrap (t1238))) 64))) &&& BitVec.ofInt 64 (4294967295 : Int)) : Nat) : Int)))), (11, iV .u64 (IntKind.u64.wrap (((BitVec.toNat (BitVec.ofInt 64 (IntKind.u64.wrap (a0 * 2 ^ (min (Int.toNat (IntKind.u64.wrap (t1238))) 64))) ||| BitVec.ofInt 64 (Int.fdiv a1 (2 ^ (min (Int.toNat (IntKind.u64.wrap ((64 : Int) - (IntKind.u64.wrap (t1238))))) 64)))) : Nat) : Int))))], [], 0⟩ [0 ≤ (IntKind.u64.wrap (t1238)), 0 ≤ (IntKind.u64.wrap ((64 : Int) - (IntKind.u64.wrap (t1238))))] (by kernel_rfl) ⟨by exact c1241, by exact c1243, trivial⟩ ?_
        refine AWp.seq ?_
        refine reg hP hn hm [] [2, 8, 9, 10, 11, 12] [] ⟨[(2, iV .u64 (IntKind.u64.wrap (a2 * 2 ^ (min (Int.toNat (IntKind.u64.wrap (t1238))) 64)))), (8, iV .u64 (IntKind.u64.wrap (t1238))), (9, iV .u64 (Int.fdiv (IntKind.u64.wrap (a2 * 2 ^ (min (Int.toNat (IntKind.u64.wrap (t1238))) 64))) 4294967296)), (10, iV .u64 (IntKind.u64.wrap (((BitVec.toNat (BitVec.ofInt 64 (IntKind.u64.wrap (a2 * 2 ^ (min (Int.toNat (IntKind.u64.wrap (t1238))) 64))) &&& BitVec.ofInt 64 (4294967295 : Int)) : Nat) : Int)))), (11, iV .u64 (IntKind.u64.wrap (((BitVec.toNat (BitVec.ofInt 64 (IntKind.u64.wrap (a0 * 2 ^ (min (Int.toNat (IntKind.u64.wrap (t1238))) 64))) ||| BitVec.ofInt 64 (Int.fdiv a1 (2 ^ (min (Int.toNat (IntKind.u64.wrap ((64 : Int) - (IntKind.u64.wrap (t1238))))) 64)))) : Nat) : Int)))), (12, iV .u64 (IntKind.u64.wrap (a1 * 2 ^ (min (Int.toNat (IntKind.u64.wrap (t1238))) 64))))], [], 0⟩ [0 ≤ (IntKind.u64.wrap (t1238))] (by kernel_rfl) ⟨by exact c1241, trivial⟩ ?_
        refine AWp.seq ?_
        refine reg hP hn hm [] [2, 8, 9, 10, 11, 12, 13] [] ⟨[(2, iV .u64 (IntKind.u64.wrap (a2 * 2 ^ (min (Int.toNat (IntKind.u64.wrap (t1238))) 64)))), (8, iV .u64 (IntKind.u64.wrap (t1238))), (9, iV .u64 (Int.fdiv (IntKind.u64.wrap (a2 * 2 ^ (min (Int.toNat (IntKind.u64.wrap (t1238))) 64))) 4294967296)), (10, iV .u64 (IntKind.u64.wrap (((BitVec.toNat (BitVec.ofInt 64 (IntKind.u64.wrap (a2 * 2 ^ (min (Int.toNat (IntKind.u64.wrap (t1238))) 64))) &&& BitVec.ofInt 64 (4294967295 : Int)) : Nat) : Int)))), (11, iV .u64 (IntKind.u64.wrap (((BitVec.toNat (BitVec.ofInt 64 (IntKind.u64.wrap (a0 * 2 ^ (min (Int.toNat (IntKind.u64.wrap (t1238))) 64))) ||| BitVec.ofInt 64 (Int.fdiv a1 (2 ^ (min (Int.toNat (IntKind.u64.wrap ((64 : Int) - (IntKind.u64.wrap (t1238))))) 64)))) : Nat) : Int)))), (12, iV .u64 (IntKind.u64.wrap (a1 * 2 ^ (min (Int.toNat (IntKind.u64.wrap (t1238))) 64)))), (13, iV .u64 (Int.fdiv (IntKind.u64.wrap (a1 * 2 ^ (min (Int.toNat (IntKind.u64.wrap (t1238))) 64))) 4294967296))], [], 0⟩ [(0 : Int) ≤ 32] (by kernel_rfl) ⟨by decide, trivial⟩ ?_
        refine AWp.seq ?_
        refine reg hP hn hm [] [2, 8, 9, 10, 11, 13, 14] [] ⟨[(2, iV .u64 (IntKind.u64.wrap (a2 * 2 ^ (min (Int.toNat (IntKind.u64.wrap (t1238))) 64)))), (8, iV .u64 (IntKind.u64.wrap (t1238))), (9, iV .u64 (Int.fdiv (IntKind.u64.wrap (a2 * 2 ^ (min (Int.toNat (IntKind.u64.wrap (t1238))) 64))) 4294967296)), (10, iV .u64 (IntKind.u64.wrap (((BitVec.toNat (BitVec.ofInt 64 (IntKind.u64.wrap (a2 * 2 ^ (min (Int.toNat (IntKind.u64.wrap (t1238))) 64))) &&& BitVec.ofInt 64 (4294967295 : Int)) : Nat) : Int)))), (11, iV .u64 (IntKind.u64.wrap (((BitVec.toNat (BitVec.ofInt 64 (IntKind.u64.wrap (a0 * 2 ^ (min (Int.toNat (IntKind.u64.wrap (t1238))) 64))) ||| BitVec.ofInt 64 (Int.fdiv a1 (2 ^ (min (Int.toNat (IntKind.u64.wrap ((64 : Int) - (IntKind.u64.wrap (t1238))))) 64)))) : Nat) : Int)))), (13, iV .u64 (Int.fdiv (IntKind.u64.wrap (a1 * 2 ^ (min (Int.toNat (IntKind.u64.wrap (t1238))) 64))) 4294967296)), (14, iV .u64 (IntKind.u64.wrap (((BitVec.toNat (BitVec.ofInt 64 (IntKind.u64.wrap (a1 * 2 ^ (min (Int.toNat (IntKind.u64.wrap (t1238))) 64))) &&& BitVec.ofInt 64 (4294967295 : Int)) : Nat) : Int))))], [], 0⟩ [] (by kernel_rfl) trivial ?_
        refine AWp.seq ?_
        obtain ⟨c1245, H⟩ := chk_of H
        refine reg hP hn hm [] [2, 8, 9, 10, 11, 13, 14, 15] [] ⟨[(2, iV .u64 (IntKind.u64.wrap (a2 * 2 ^ (min (Int.toNat (IntKind.u64.wrap (t1238))) 64)))), (8, iV .u64 (IntKind.u64.wrap (t1238))), (9, iV .u64 (Int.fdiv (IntKind.u64.wrap (a2 * 2 ^ (min (Int.toNat (IntKind.u64.wrap (t1238))) 64))) 4294967296)), (10, iV .u64 (IntKind.u64.wrap (((BitVec.toNat (BitVec.ofInt 64 (IntKind.u64.wrap (a2 * 2 ^ (min (Int.toNat (IntKind.u64.wrap (t1238))) 64))) &&& BitVec.ofInt 64 (4294967295 : Int)) : Nat) : Int)))), (11, iV .u64 (IntKind.u64.wrap (((BitVec.toNat (BitVec.ofInt 64 (IntKind.u64.wrap (a0 * 2 ^ (min (Int.toNat (IntKind.u64.wrap (t1238))) 64))) ||| BitVec.ofInt 64 (Int.fdiv a1 (2 ^ (min (Int.toNat (IntKind.u64.wrap ((64 : Int) - (IntKind.u64.wrap (t1238))))) 64)))) : Nat) : Int)))), (13, iV .u64 (Int.fdiv (IntKind.u64.wrap (a1 * 2 ^ (min (Int.toNat (IntKind.u64.wrap (t1238))) 64))) 4294967296)), (14, iV .u64 (IntKind.u64.wrap (((BitVec.toNat (BitVec.ofInt 64 (IntKind.u64.wrap (a1 * 2 ^ (min (Int.toNat (IntKind.u64.wrap (t1238))) 64))) &&& BitVec.ofInt 64 (4294967295 : Int)) : Nat) : Int)))), (15, iV .u64 (IntKind.u64.wrap (Int.tdiv (IntKind.u64.wrap (((BitVec.toNat (BitVec.ofInt 64 (IntKind.u64.wrap (a0 * 2 ^ (min (Int.toNat (IntKind.u64.wrap (t1238))) 64))) ||| BitVec.ofInt 64 (Int.fdiv a1 (2 ^ (min (Int.toNat (IntKind.u64.wrap ((64 : Int) - (IntKind.u64.wrap (t1238))))) 64)))) : Nat) : Int))) (Int.fdiv (IntKind.u64.wrap (a2 * 2 ^ (min (Int.toNat (IntKind.u64.wrap (t1238))) 64))) 4294967296))))], [], 0⟩ [(Int.fdiv (IntKind.u64.wrap (a2 * 2 ^ (min (Int.toNat (IntKind.u64.wrap (t1238))) 64))) 4294967296) ≠ 0] (by kernel_rfl) ⟨by exact c1245, trivial⟩ ?_
        refine AWp.seq ?_
        refine reg hP hn hm [] [2, 8, 9, 10, 11, 13, 14, 15, 16] [] ⟨[(2, iV .u64 (IntKind.u64.wrap (a2 * 2 ^ (min (Int.toNat (IntKind.u64.wrap (t1238))) 64)))), (8, iV .u64 (IntKind.u64.wrap (t1238))), (9, iV .u64 (Int.fdiv (IntKind.u64.wrap (a2 * 2 ^ (min (Int.toNat (IntKind.u64.wrap (t1238))) 64))) 4294967296)), (10, iV .u64 (IntKind.u64.wrap (((BitVec.toNat (BitVec.ofInt 64 (IntKind.u64.wrap (a2 * 2 ^ (min (Int.toNat (IntKind.u64.wrap (t1238))) 64))) &&& BitVec.ofInt 64 (4294967295 : Int)) : Nat) : Int)))), (11, iV .u64 (IntKind.u64.wrap (((BitVec.toNat (BitVec.ofInt 64 (IntKind.u64.wrap (a0 * 2 ^ (min (Int.toNat (IntKind.u64.wrap (t1238))) 64))) ||| BitVec.ofInt 64 (Int.fdiv a1 (2 ^ (min (Int.toNat (IntKind.u64.wrap ((64 : Int) - (IntKind.u64.wrap (t1238))))) 64)))) : Nat) : Int)))), (13, iV .u64 (Int.fdiv (IntKind.u64.wrap (a1 * 2 ^ (min (Int.toNat (IntKind.u64.wrap (t1238))) 64))) 4294967296)), (14, iV .u64 (IntKind.u64.wrap (((BitVec.toNat (BitVec.ofInt 64 (IntKind.u64.wrap (a1 * 2 ^ (min (Int.toNat (IntKind.u64.wrap (t1238))) 64))) &&& BitVec.ofInt 64 (4294967295 : Int)) : Nat) : Int)))), (15, iV .u64 (IntKind.u64.wrap (Int.tdiv (IntKind.u64.wrap (((BitVec.toNat (BitVec.ofInt 64 (IntKind.u64.wrap (a0 * 2 ^ (min (Int.toNat (IntKind.u64.wrap (t1238))) 64))) ||| BitVec.ofInt 64 (Int.fdiv a1 (2 ^ (min (Int.toNat (IntKind.u64.wrap ((64 : Int) - (IntKind.u64.wrap (t1238))))) 64)))) : Nat) : Int))) (Int.fdiv (IntKind.u64.wrap (a2 * 2 ^ (min (Int.toNat (IntKind.u64.wrap (t1238))) 64))) 4294967296)))), (16, iV .u64 (IntKind.u64.wrap ((IntKind.u64.wrap (((BitVec.toNat (BitVec.ofInt 64 (IntKind.u64.wrap (a0 * 2 ^ (min (Int.toNat (IntKind.u64.wrap (t1238))) 64))) ||| BitVec.ofInt 64 (Int.fdiv a1 (2 ^ (min (Int.toNat (IntKind.u64.wrap ((64 : Int) - (IntKind.u64.wrap (t1238))))) 64)))) : Nat) : Int))) - (IntKind.u64.wrap ((IntKind.u64.wrap (Int.tdiv (IntKind.u64.wrap (((BitVec.toNat (BitVec.ofInt 64 (IntKind.u64.wrap (a0 * 2 ^ (min (Int.toNat (IntKind.u64.wrap (t1238))) 64))) ||| BitVec.ofInt 64 (Int.fdiv a1 (2 ^ (min (Int.toNat (IntKind.u64.wrap ((64 : Int) - (IntKind.u64.wrap (t1238))))) 64)))) : Nat) : Int))) (Int.fdiv (IntKind.u64.wrap (a2 * 2 ^ (min (Int.toNat (IntKind.u64.wrap (t1238))) 64))) 4294967296))) * (Int.fdiv (IntKind.u64.wrap (a2 * 2 ^ (min (Int.toNat (IntKind.u64.wrap (t1238))) 64))) 4294967296))))))], [], 0⟩ [] (by kernel_rfl) trivial ?_
        refine AWp.seq ?_
        refine AWp.block ?_
        obtain ⟨o1276, e1277, H⟩ := bind_of H
        refine AWp.loop (LWp.conv (inv := []) (vk := []) (e0 := []) (t := ⟨[(2, iV .u64 (IntKind.u64.wrap (a2 * 2 ^ (min (Int.toNat (IntKind.u64.wrap (t1238))) 64)))), (8, iV .u64 (IntKind.u64.wrap (t1238))), (9, iV .u64 (Int.fdiv (IntKind.u64.wrap (a2 * 2 ^ (min (Int.toNat (IntKind.u64.wrap (t1238))) 64))) 4294967296)), (10, iV .u64 (IntKind.u64.wrap (((BitVec.toNat (BitVec.ofInt 64 (IntKind.u64.wrap (a2 * 2 ^ (min (Int.toNat (IntKind.u64.wrap (t1238))) 64))) &&& BitVec.ofInt 64 (4294967295 : Int)) : Nat) : Int)))), (11, iV .u64 (IntKind.u64.wrap (((BitVec.toNat (BitVec.ofInt 64 (IntKind.u64.wrap (a0 * 2 ^ (min (Int.toNat (IntKind.u64.wrap (t1238))) 64))) ||| BitVec.ofInt 64 (Int.fdiv a1 (2 ^ (min (Int.toNat (IntKind.u64.wrap ((64 : Int) - (IntKind.u64.wrap (t1238))))) 64)))) : Nat) : Int)))), (13, iV .u64 (Int.fdiv (IntKind.u64.wrap (a1 * 2 ^ (min (Int.toNat (IntKind.u64.wrap (t1238))) 64))) 4294967296)), (14, iV .u64 (IntKind.u64.wrap (((BitVec.toNat (BitVec.ofInt 64 (IntKind.u64.wrap (a1 * 2 ^ (min (Int.toNat (IntKind.u64.wrap (t1238))) 64))) &&& BitVec.ofInt 64 (4294967295 : Int)) : Nat) : Int)))), (15, iV .u64 (IntKind.u64.wrap (Int.tdiv (IntKind.u64.wrap (((BitVec.toNat (BitVec.ofInt 64 (IntKind.u64.wrap (a0 * 2 ^ (min (Int.toNat (IntKind.u64.wrap (t1238))) 64))) ||| BitVec.ofInt 64 (Int.fdiv a1 (2 ^ (min (Int.toNat (IntKind.u64.wrap ((64 : Int) - (IntKind.u64.wrap (t1238))))) 64)))) : Nat) : Int))) (Int.fdiv (IntKind.u64.wrap (a2 * 2 ^ (min (Int.toNat (IntKind.u64.wrap (t1238))) 64))) 4294967296)))), (16, iV .u64 (IntKind.u64.wrap ((IntKind.u64.wrap (((BitVec.toNat (BitVec.ofInt 64 (IntKind.u64.wrap (a0 * 2 ^ (min (Int.toNat (IntKind.u64.wrap (t1238))) 64))) ||| BitVec.ofInt 64 (Int.fdiv a1 (2 ^ (min (Int.toNat (IntKind.u64.wrap ((64 : Int) - (IntKind.u64.wrap (t1238))))) 64)))) : Nat) : Int))) - (IntKind.u64.wrap ((IntKind.u64.wrap (Int.tdiv (IntKind.u64.wrap (((BitVec.toNat (BitVec.ofInt 64 (IntKind.u64.wrap (a0 * 2 ^ (min (Int.toNat (IntKind.u64.wrap (t1238))) 64))) ||| BitVec.ofInt 64 (Int.fdiv a1 (2 ^ (min (Int.toNat (IntKind.u64.wrap ((64 : Int) - (IntKind.u64.wrap (t1238))))) 64)))) : Nat) : Int))) (Int.fdiv (IntKind.u64.wrap (a2 * 2 ^ (min (Int.toNat (IntKind.u64.wrap (t1238))) 64))) 4294967296))) * (Int.fdiv (IntKind.u64.wrap (a2 * 2 ^ (min (Int.toNat (IntKind.u64.wrap (t1238))) 64))) 4294967296))))))], [], 0⟩) (by kernel_rfl) ?_)
        refine LWp.mono (Q := fun e s => (match (generalizing := false) o1276 with | x1258 => e = .exit 0 ∧ s = ⟨[(2, iV .u64 (IntKind.u64.wrap (a2 * 2 ^ (min (Int.toNat (IntKind.u64.wrap (t1238))) 64)))), (8, iV .u64 (IntKind.u64.wrap (t1238))), (9, iV .u64 (Int.fdiv (IntKind.u64.wrap (a2 * 2 ^ (min (Int.toNat (IntKind.u64.wrap (t1238))) 64))) 4294967296)), (10, iV .u64 (IntKind.u64.wrap (((BitVec.toNat (BitVec.ofInt 64 (IntKind.u64.wrap (a2 * 2 ^ (min (Int.toNat (IntKind.u64.wrap (t1238))) 64))) &&& BitVec.ofInt 64 (4294967295 : Int)) : Nat) : Int)))), (11, iV .u64 (IntKind.u64.wrap (((BitVec.toNat (BitVec.ofInt 64 (IntKind.u64.wrap (a0 * 2 ^ (min (Int.toNat (IntKind.u64.wrap (t1238))) 64))) ||| BitVec.ofInt 64 (Int.fdiv a1 (2 ^ (min (Int.toNat (IntKind.u64.wrap ((64 : Int) - (IntKind.u64.wrap (t1238))))) 64)))) : Nat) : Int)))), (13, iV .u64 (Int.fdiv (IntKind.u64.wrap (a1 * 2 ^ (min (Int.toNat (IntKind.u64.wrap (t1238))) 64))) 4294967296)), (14, iV .u64 (IntKind.u64.wrap (((BitVec.toNat (BitVec.ofInt 64 (IntKind.u64.wrap (a1 * 2 ^ (min (Int.toNat (IntKind.u64.wrap (t1238))) 64))) &&& BitVec.ofInt 64 (4294967295 : Int)) : Nat) : Int)))), (15, iV .u64 x1258)], [], 0⟩)) (LWp.cv (withBody (fun body hbody => ?_))) ?_
        · refine f_bits_Div64.l0.partial_correctness a0 a1 a2 t1238 (motive := fun x1251 x1252 o1276 => LWp Γ body (fun e s => ∃ t, Cv Γ s t ∧ (match (generalizing := false) o1276 with | x1258 => e = .exit 0 ∧ t = ⟨[(2, iV .u64 (IntKind.u64.wrap (a2 * 2 ^ (min (Int.toNat (IntKind.u64.wrap (t1238))) 64)))), (8, iV .u64 (IntKind.u64.wrap (t1238))), (9, iV .u64 (Int.fdiv (IntKind.u64.wrap (a2 * 2 ^ (min (Int.toNat (IntKind.u64.wrap (t1238))) 64))) 4294967296)), (10, iV .u64 (IntKind.u64.wrap (((BitVec.toNat (BitVec.ofInt 64 (IntKind.u64.wrap (a2 * 2 ^ (min (Int.toNat (IntKind.u64.wrap (t1238))) 64))) &&& BitVec.ofInt 64 (4294967295 : Int)) : Nat) : Int)))), (11, iV .u64 (IntKind.u64.wrap (((BitVec.toNat (BitVec.ofInt 64 (IntKind.u64.wrap (a0 * 2 ^ (min (Int.toNat (IntKind.u64.wrap (t1238))) 64))) ||| BitVec.ofInt 64 (Int.fdiv a1 (2 ^ (min (Int.toNat (IntKind.u64.wrap ((64 : Int) - (IntKind.u64.wrap (t1238))))) 64)))) : Nat) : Int)))), (13, iV .u64 (Int.fdiv (IntKind.u64.wrap (a1 * 2 ^ (min (Int.toNat (IntKind.u64.wrap (t1238))) 64))) 4294967296)), (14, iV .u64 (IntKind.u64.wrap (((BitVec.toNat (BitVec.ofInt 64 (IntKind.u64.wrap (a1 * 2 ^ (min (Int.toNat (IntKind.u64.wrap (t1238))) 64))) &&& BitVec.ofInt 64 (4294967295 : Int)) : Nat) : Int)))), (15, iV .u64 x1258)], [], 0⟩)) ⟨[(2, iV .u64 (IntKind.u64.wrap (a2 * 2 ^ (min (Int.toNat (IntKind.u64.wrap (t1238))) 64)))), (8, iV .u64 (IntKind.u64.wrap (t1238))), (9, iV .u64 (Int.fdiv (IntKind.u64.wrap (a2 * 2 ^ (min (Int.toNat (IntKind.u64.wrap (t1238))) 64))) 4294967296)), (10, iV .u64 (IntKind.u64.wrap (((BitVec.toNat (BitVec.ofInt 64 (IntKind.u64.wrap (a2 * 2 ^ (min (Int.toNat (IntKind.u64.wrap (t1238))) 64))) &&& BitVec.ofInt 64 (4294967295 : Int)) : Nat) : Int)))), (11, iV .u64 (IntKind.u64.wrap (((BitVec.toNat (BitVec.ofInt 64 (IntKind.u64.wrap (a0 * 2 ^ (min (Int.toNat (IntKind.u64.wrap (t1238))) 64))) ||| BitVec.ofInt 64 (Int.fdiv a1 (2 ^ (min (Int.toNat (IntKind.u64.wrap ((64 : Int) - (IntKind.u64.wrap (t1238))))) 64)))) : Nat) : Int)))), (13, iV .u64 (Int.fdiv (IntKind.u64.wrap (a1 * 2 ^ (min (Int.toNat (IntKind.u64.wrap (t1238))) 64))) 4294967296)), (14, iV .u64 (IntKind.u64.wrap (((BitVec.toNat (BitVec.ofInt 64 (IntKind.u64.wrap (a1 * 2 ^ (min (Int.toNat (IntKind.u64.wrap (t1238))) 64))) &&& BitVec.ofInt 64 (4294967295 : Int)) : Nat) : Int)))), (15, iV .u64 x1251), (16, iV .u64 x1252)], [], 0⟩) ?_ _ _ _ e1277
          clear H e1277 o1276; intro self ih x1251 x1252 o1276 H
          subst hbody
          refine LWp.round ?_
          refine AWp.seq ?_
          refine AWp.seq ?_
          obtain ⟨o1278, e1279, H⟩ := bind_of H
          refine AWp.mono (Q := fun e s => (match (generalizing := false) o1278 with | x1255 => e = .normal ∧ s = ⟨[(2, iV .u64 (IntKind.u64.wrap (a2 * 2 ^ (min (Int.toNat (IntKind.u64.wrap (t1238))) 64)))), (8, iV .u64 (IntKind.u64.wrap (t1238))), (9, iV .u64 (Int.fdiv (IntKind.u64.wrap (a2 * 2 ^ (min (Int.toNat (IntKind.u64.wrap (t1238))) 64))) 4294967296)), (10, iV .u64 (IntKind.u64.wrap (((BitVec.toNat (BitVec.ofInt 64 (IntKind.u64.wrap (a2 * 2 ^ (min (Int.toNat (IntKind.u64.wrap (t1238))) 64))) &&& BitVec.ofInt 64 (4294967295 : Int)) : Nat) : Int)))), (11, iV .u64 (IntKind.u64.wrap (((BitVec.toNat (BitVec.ofInt 64 (IntKind.u64.wrap (a0 * 2 ^ (min (Int.toNat (IntKind.u64.wrap (t1238))) 64))) ||| BitVec.ofInt 64 (Int.fdiv a1 (2 ^ (min (Int.toNat (IntKind.u64.wrap ((64 : Int) - (IntKind.u64.wrap (t1238))))) 64)))) : Nat) : Int)))), (13, iV .u64 (Int.fdiv (IntKind.u64.wrap (a1 * 2 ^ (min (Int.toNat (IntKind.u64.wrap (t1238))) 64))) 4294967296)), (14, iV .u64 (IntKind.u64.wrap (((BitVec.toNat (BitVec.ofInt 64 (IntKind.u64.wrap (a1 * 2 ^ (min (Int.toNat (IntKind.u64.wrap (t1238))) 64))) &&& BitVec.ofInt 64 (4294967295 : Int)) : Nat) : Int)))), (15, iV .u64 x1251), (16, iV .u64 x1252), (78, bV x1255)], [], 0⟩)) (AWp.cv ?_) ?_
          · replace H := e1279; clear e1279
            rcases Bool.eq_false_or_eq_true (decide (x1251 ≥ (4294967296 : Int))) with c1254 | c1254
            · replace H := (ifT c1254).symm.trans H
              refine reg hP hn hm [(2, .b true)] [2, 8, 9, 10, 11, 13, 14, 15, 16, 78] [] ⟨[(2, iV .u64 (IntKind.u64.wrap (a2 * 2 ^ (min (Int.toNat (IntKind.u64.wrap (t1238))) 64)))), (8, iV .u64 (IntKind.u64.wrap (t1238))), (9, iV .u64 (Int.fdiv (IntKind.u64.wrap (a2 * 2 ^ (min (Int.toNat (IntKind.u64.wrap (t1238))) 64))) 4294967296)), (10, iV .u64 (IntKind.u64.wrap (((BitVec.toNat (BitVec.ofInt 64 (IntKind.u64.wrap (a2 * 2 ^ (min (Int.toNat (IntKind.u64.wrap (t1238))) 64))) &&& BitVec.ofInt 64 (4294967295 : Int)) : Nat) : Int)))), (11, iV .u64 (IntKind.u64.wrap (((BitVec.toNat (BitVec.ofInt 64 (IntKind.u64.wrap (a0 * 2 ^ (min (Int.toNat (IntKind.u64.wrap (t1238))) 64))) ||| BitVec.ofInt 64 (Int.fdiv a1 (2 ^ (min (Int.toNat (IntKind.u64.wrap ((64 : Int) - (IntKind.u64.wrap (t1238))))) 64)))) : Nat) : Int)))), (13, iV .u64 (Int.fdiv (IntKind.u64.wrap (a1 * 2 ^ (min (Int.toNat (IntKind.u64.wrap (t1238))) 64))) 4294967296)), (14, iV .u64 (IntKind.u64.wrap (((BitVec.toNat (BitVec.ofInt 64 (IntKind.u64.wrap (a1 * 2 ^ (min (Int.toNat (IntKind.u64.wrap (t1238))) 64))) &&& BitVec.ofInt 64 (4294967295 : Int)) : Nat) : Int)))), (15, iV .u64 x1251), (16, iV .u64 x1252), (78, bV true)], [], 0⟩ [(decide (x1251 ≥ (4294967296 : Int))) = true] (by kernel_rfl) ⟨by exact c1254, trivial⟩ ?_
              obtain rfl := Option.some.inj H
              exact Exists.intro _ (And.intro (fun _ _ h => h.conv (inv := []) (vk := []) (e0 := []) (t := ⟨[(2, iV .u64 (IntKind.u64.wrap (a2 * 2 ^ (min (Int.toNat (IntKind.u64.wrap (t1238))) 64)))), (8, iV .u64 (IntKind.u64.wrap (t1238))), (9, iV .u64 (Int.fdiv (IntKind.u64.wrap (a2 * 2 ^ (min (Int.toNat (IntKind.u64.wrap (t1238))) 64))) 4294967296)), (10, iV .u64 (IntKind.u64.wrap (((BitVec.toNat (BitVec.ofInt 64 (IntKind.u64.wrap (a2 * 2 ^ (min (Int.toNat (IntKind.u64.wrap (t1238))) 64))) &&& BitVec.ofInt 64 (4294967295 : Int)) : Nat) : Int)))), (11, iV .u64 (IntKind.u64.wrap (((BitVec.toNat (BitVec.ofInt 64 (IntKind.u64.wrap (a0 * 2 ^ (min (Int.toNat (IntKind.u64.wrap (t1238))) 64))) ||| BitVec.ofInt 64 (Int.fdiv a1 (2 ^ (min (Int.toNat (IntKind.u64.wrap ((64 : Int) - (IntKind.u64.wrap (t1238))))) 64)))) : Nat) : Int)))), (13, iV .u64 (Int.fdiv (IntKind.u64.wrap (a1 * 2 ^ (min (Int.toNat (IntKind.u64.wrap (t1238))) 64))) 4294967296)), (14, iV .u64 (IntKind.u64.wrap (((BitVec.toNat (BitVec.ofInt 64 (IntKind.u64.wrap (a1 * 2 ^ (min (Int.toNat (IntKind.u64.wrap (t1238))) 64))) &&& BitVec.ofInt 64 (4294967295 : Int)) : Nat) : Int)))), (15, iV .u64 x1251), (16, iV .u64 x1252), (78, bV true)], [], 0⟩) (by kernel_rfl)) (And.intro rfl rfl))
            · replace H := (ifF c1254).symm.trans H
              refine reg hP hn hm [(2, .b false)] [2, 8, 9, 10, 11, 13, 14, 15, 16, 70, 71, 72, 73, 74, 75, 76, 77, 78] [] ⟨[(2, iV .u64 (IntKind.u64.wrap (a2 * 2 ^ (min (Int.toNat (IntKind.u64.wrap (t1238))) 64)))), (8, iV .u64 (IntKind.u64.wrap (t1238))), (9, iV .u64 (Int.fdiv (IntKind.u64.wrap (a2 * 2 ^ (min (Int.toNat (IntKind.u64.wrap (t1238))) 64))) 4294967296)), (10, iV .u64 (IntKind.u64.wrap (((BitVec.toNat (BitVec.ofInt 64 (IntKind.u64.wrap (a2 * 2 ^ (min (Int.toNat (IntKind.u64.wrap (t1238))) 64))) &&& BitVec.ofInt 64 (4294967295 : Int)) : Nat) : Int)))), (11, iV .u64 (IntKind.u64.wrap (((BitVec.toNat (BitVec.ofInt 64 (IntKind.u64.wrap (a0 * 2 ^ (min (Int.toNat (IntKind.u64.wrap (t1238))) 64))) ||| BitVec.ofInt 64 (Int.fdiv a1 (2 ^ (min (Int.toNat (IntKind.u64.wrap ((64 : Int) - (IntKind.u64.wrap (t1238))))) 64)))) : Nat) : Int)))), (13, iV .u64 (Int.fdiv (IntKind.u64.wrap (a1 * 2 ^ (min (Int.toNat (IntKind.u64.wrap (t1238))) 64))) 4294967296)), (14, iV .u64 (IntKind.u64.wrap (((BitVec.toNat (BitVec.ofInt 64 (IntKind.u64.wrap (a1 * 2 ^ (min (Int.toNat (IntKind.u64.wrap (t1238))) 64))) &&& BitVec.ofInt 64 (4294967295 : Int)) : Nat) : Int)))), (15, iV .u64 x1251), (16, iV .u64 x1252), (70, iV .u64 x1251), (71, iV .u64 (IntKind.u64.wrap (((BitVec.toNat (BitVec.ofInt 64 (IntKind.u64.wrap (a2 * 2 ^ (min (Int.toNat (IntKind.u64.wrap (t1238))) 64))) &&& BitVec.ofInt 64 (4294967295 : Int)) : Nat) : Int)))), (72, iV .u64 (IntKind.u64.wrap (x1251 * (IntKind.u64.wrap (((BitVec.toNat (BitVec.ofInt 64 (IntKind.u64.wrap (a2 * 2 ^ (min (Int.toNat (IntKind.u64.wrap (t1238))) 64))) &&& BitVec.ofInt 64 (4294967295 : Int)) : Nat) : Int)))))), (73, iV .u64 x1252), (74, iV .u64 (IntKind.u64.wrap ((4294967296 : Int) * x1252))), (75, iV .u64 (Int.fdiv (IntKind.u64.wrap (a1 * 2 ^ (min (Int.toNat (IntKind.u64.wrap (t1238))) 64))) 4294967296)), (76, iV .u64 (IntKind.u64.wrap ((IntKind.u64.wrap ((4294967296 : Int) * x1252)) + (Int.fdiv (IntKind.u64.wrap (a1 * 2 ^ (min (Int.toNat (IntKind.u64.wrap (t1238))) 64))) 4294967296)))), (77, bV (decide ((IntKind.u64.wrap (x1251 * (IntKind.u64.wrap (((BitVec.toNat (BitVec.ofInt 64 (IntKind.u64.wrap (a2 * 2 ^ (min (Int.toNat (IntKind.u64.wrap (t1238))) 64))) &&& BitVec.ofInt 64 (4294967295 : Int)) : Nat) : Int))))) > (IntKind.u64.wrap ((IntKind.u64.wrap ((4294967296 : Int) * x1252)) + (Int.fdiv (IntKind.u64.wrap (a1 * 2 ^ (min (Int.toNat (IntKind.u64.wrap (t1238))) 64))) 4294967296)))))), (78, bV (decide ((IntKind.u64.wrap (x1251 * (IntKind.u64.wrap (((BitVec.toNat (BitVec.ofInt 64 (IntKind.u64.wrap (a2 * 2 ^ (min (Int.toNat (IntKind.u64.wrap (t1238))) 64))) &&& BitVec.ofInt 64 (4294967295 : Int)) : Nat) : Int))))) > (IntKind.u64.wrap ((IntKind.u64.wrap ((4294967296 : Int) * x1252)) + (Int.fdiv (IntKind.u64.wrap (a1 * 2 ^ (min (Int.toNat (IntKind.u64.wrap (t1238))) 64))) 4294967296))))))], [], 0⟩ [(decide (x1251 ≥ (4294967296 : Int))) = false] (by kernel_rfl) ⟨by exact c1254, trivial⟩ ?_
              obtain rfl := Option.some.inj H
              exact Exists.intro _ (And.intro (fun _ _ h => h.conv (inv := []) (vk := []) (e0 := []) (t := ⟨[(2, iV .u64 (IntKind.u64.wrap (a2 * 2 ^ (min (Int.toNat (IntKind.u64.wrap (t1238))) 64)))), (8, iV .u64 (IntKind.u64.wrap (t1238))), (9, iV .u64 (Int.fdiv (IntKind.u64.wrap (a2 * 2 ^ (min (Int.toNat (IntKind.u64.wrap (t1238))) 64))) 4294967296)), (10, iV .u64 (IntKind.u64.wrap (((BitVec.toNat (BitVec.ofInt 64 (IntKind.u64.wrap (a2 * 2 ^ (min (Int.toNat (IntKind.u64.wrap (t1238))) 64))) &&& BitVec.ofInt 64 (4294967295 : Int)) : Nat) : Int)))), (11, iV .u64 (IntKind.u64.wrap (((BitVec.toNat (BitVec.ofInt 64 (IntKind.u64.wrap (a0 * 2 ^ (min (Int.toNat (IntKind.u64.wrap (t1238))) 64))) ||| BitVec.ofInt 64 (Int.fdiv a1 (2 ^ (min (Int.toNat (IntKind.u64.wrap ((64 : Int) - (IntKind.u64.wrap (t1238))))) 64)))) : Nat) : Int)))), (13, iV .u64 (Int.fdiv (IntKind.u64.wrap (a1 * 2 ^ (min (Int.toNat (IntKind.u64.wrap (t1238))) 64))) 4294967296)), (14, iV .u64 (IntKind.u64.wrap (((BitVec.toNat (BitVec.ofInt 64 (IntKind.u64.wrap (a1 * 2 ^ (min (Int.toNat (IntKind.u64.wrap (t1238))) 64))) &&& BitVec.ofInt 64 (4294967295 : Int)) : Nat) : Int)))), (15, iV .u64 x1251), (16, iV .u64 x1252), (78, bV (decide ((IntKind.u64.wrap (x1251 * (IntKind.u64.wrap (((BitVec.toNat (BitVec.ofInt 64 (IntKind.u64.wrap (a2 * 2 ^ (min (Int.toNat (IntKind.u64.wrap (t1238))) 64))) &&& BitVec.ofInt 64 (4294967295 : Int)) : Nat) : Int))))) > (IntKind.u64.wrap ((IntKind.u64.wrap ((4294967296 : Int) * x1252)) + (Int.fdiv (IntKind.u64.wrap (a1 * 2 ^ (min (Int.toNat (IntKind.u64.wrap (t1238))) 64))) 4294967296))))))], [], 0⟩) (by kernel_rfl)) (And.intro rfl rfl))
          · obtain ⟨x1255, rfl⟩ : ∃ z, z = o1278 := ⟨_, rfl⟩
            rintro e s ⟨rfl, rfl⟩
            refine AWp.cond x1255 rfl (fun c1256 => ?_) (fun c1256 => ?_)
            · replace H := (ifT c1256).symm.trans H
              refine AWp.skip ?_
              refine AWp.block ?_
              refine AWp.seq ?_
              refine reg hP hn hm [] [2, 8, 9, 10, 11, 13, 14, 15, 16] [] ⟨[(2, iV .u64 (IntKind.u64.wrap (a2 * 2 ^ (min (Int.toNat (IntKind.u64.wrap (t1238))) 64)))), (8, iV .u64 (IntKind.u64.wrap (t1238))), (9, iV .u64 (Int.fdiv (IntKind.u64.wrap (a2 * 2 ^ (min (Int.toNat (IntKind.u64.wrap (t1238))) 64))) 4294967296)), (10, iV .u64 (IntKind.u64.wrap (((BitVec.toNat (BitVec.ofInt 64 (IntKind.u64.wrap (a2 * 2 ^ (min (Int.toNat (IntKind.u64.wrap (t1238))) 64))) &&& BitVec.ofInt 64 (4294967295 : Int)) : Nat) : Int)))), (11, iV .u64 (IntKind.u64.wrap (((BitVec.toNat (BitVec.ofInt 64 (IntKind.u64.wrap (a0 * 2 ^ (min (Int.toNat (IntKind.u64.wrap (t1238))) 64))) ||| BitVec.ofInt 64 (Int.fdiv a1 (2 ^ (min (Int.toNat (IntKind.u64.wrap ((64 : Int) - (IntKind.u64.wrap (t1238))))) 64)))) : Nat) : Int)))), (13, iV .u64 (Int.fdiv (IntKind.u64.wrap (a1 * 2 ^ (min (Int.toNat (IntKind.u64.wrap (t1238))) 64))) 4294967296)), (14, iV .u64 (IntKind.u64.wrap (((BitVec.toNat (BitVec.ofInt 64 (IntKind.u64.wrap (a1 * 2 ^ (min (Int.toNat (IntKind.u64.wrap (t1238))) 64))) &&& BitVec.ofInt 64 (4294967295 : Int)) : Nat) : Int)))), (15, iV .u64 (IntKind.u64.wrap (x1251 - (1 : Int)))), (16, iV .u64 x1252)], [], 0⟩ [] (by kernel_rfl) trivial ?_
              refine AWp.seq ?_
              refine reg hP hn hm [] [2, 8, 9, 10, 11, 13, 14, 15, 16] [] ⟨[(2, iV .u64 (IntKind.u64.wrap (a2 * 2 ^ (min (Int.toNat (IntKind.u64.wrap (t1238))) 64)))), (8, iV .u64 (IntKind.u64.wrap (t1238))), (9, iV .u64 (Int.fdiv (IntKind.u64.wrap (a2 * 2 ^ (min (Int.toNat (IntKind.u64.wrap (t1238))) 64))) 4294967296)), (10, iV .u64 (IntKind.u64.wrap (((BitVec.toNat (BitVec.ofInt 64 (IntKind.u64.wrap (a2 * 2 ^ (min (Int.toNat (IntKind.u64.wrap (t1238))) 64))) &&& BitVec.ofInt 64 (4294967295 : Int)) : Nat) : Int)))), (11, iV .u64 (IntKind.u64.wrap (((BitVec.toNat (BitVec.ofInt 64 (IntKind.u64.wrap (a0 * 2 ^ (min (Int.toNat (IntKind.u64.wrap (t1238))) 64))) ||| BitVec.ofInt 64 (Int.fdiv a1 (2 ^ (min (Int.toNat (IntKind.u64.wrap ((64 : Int) - (IntKind.u64.wrap (t1238))))) 64)))) : Nat) : Int)))), (13, iV .u64 (Int.fdiv (IntKind.u64.wrap (a1 * 2 ^ (min (Int.toNat (IntKind.u64.wrap (t1238))) 64))) 4294967296)), (14, iV .u64 (IntKind.u64.wrap (((BitVec.toNat (BitVec.ofInt 64 (IntKind.u64.wrap (a1 * 2 ^ (min (Int.toNat (IntKind.u64.wrap (t1238))) 64))) &&& BitVec.ofInt 64 (4294967295 : Int)) : Nat) : Int)))), (15, iV .u64 (IntKind.u64.wrap (x1251 - (1 : Int)))), (16, iV .u64 (IntKind.u64.wrap (x1252 + (Int.fdiv (IntKind.u64.wrap (a2 * 2 ^ (min (Int.toNat (IntKind.u64.wrap (t1238))) 64))) 4294967296))))], [], 0⟩ [] (by kernel_rfl) trivial ?_
              refine AWp.seq ?_
              refine reg hP hn hm [] [2, 8, 9, 10, 11, 13, 14, 15, 16, 85] [] ⟨[(2, iV .u64 (IntKind.u64.wrap (a2 * 2 ^ (min (Int.toNat (IntKind.u64.wrap (t1238))) 64)))), (8, iV .u64 (IntKind.u64.wrap (t1238))), (9, iV .u64 (Int.fdiv (IntKind.u64.wrap (a2 * 2 ^ (min (Int.toNat (IntKind.u64.wrap (t1238))) 64))) 4294967296)), (10, iV .u64 (IntKind.u64.wrap (((BitVec.toNat (BitVec.ofInt 64 (IntKind.u64.wrap (a2 * 2 ^ (min (Int.toNat (IntKind.u64.wrap (t1238))) 64))) &&& BitVec.ofInt 64 (4294967295 : Int)) : Nat) : Int)))), (11, iV .u64 (IntKind.u64.wrap (((BitVec.toNat (BitVec.ofInt 64 (IntKind.u64.wrap (a0 * 2 ^ (min (Int.toNat (IntKind.u64.wrap (t1238))) 64))) ||| BitVec.ofInt 64 (Int.fdiv a1 (2 ^ (min (Int.toNat (IntKind.u64.wrap ((64 : Int) - (IntKind.u64.wrap (t1238))))) 64)))) : Nat) : Int)))), (13, iV .u64 (Int.fdiv (IntKind.u64.wrap (a1 * 2 ^ (min (Int.toNat (IntKind.u64.wrap (t1238))) 64))) 4294967296)), (14, iV .u64 (IntKind.u64.wrap (((BitVec.toNat (BitVec.ofInt 64 (IntKind.u64.wrap (a1 * 2 ^ (min (Int.toNat (IntKind.u64.wrap (t1238))) 64))) &&& BitVec.ofInt 64 (4294967295 : Int)) : Nat) : Int)))), (15, iV .u64 (IntKind.u64.wrap (x1251 - (1 : Int)))), (16, iV .u64 (IntKind.u64.wrap (x1252 + (Int.fdiv (IntKind.u64.wrap (a2 * 2 ^ (min (Int.toNat (IntKind.u64.wrap (t1238))) 64))) 4294967296)))), (85, bV (decide ((IntKind.u64.wrap (x1252 + (Int.fdiv (IntKind.u64.wrap (a2 * 2 ^ (min (Int.toNat (IntKind.u64.wrap (t1238))) 64))) 4294967296))) ≥ (4294967296 : Int))))], [], 0⟩ [] (by kernel_rfl) trivial ?_
              refine AWp.cond (decide ((IntKind.u64.wrap (x1252 + (Int.fdiv (IntKind.u64.wrap (a2 * 2 ^ (min (Int.toNat (IntKind.u64.wrap (t1238))) 64))) 4294967296))) ≥ (4294967296 : Int))) rfl (fun c1257 => ?_) (fun c1257 => ?_)
              · replace H := (ifT c1257).symm.trans H
                refine AWp.exit ?_
                obtain rfl := Option.some.inj H
                exact Exists.intro _ (And.intro (fun _ _ h => h.conv (inv := []) (vk := []) (e0 := []) (t := ⟨[(2, iV .u64 (IntKind.u64.wrap (a2 * 2 ^ (min (Int.toNat (IntKind.u64.wrap (t1238))) 64)))), (8, iV .u64 (IntKind.u64.wrap (t1238))), (9, iV .u64 (Int.fdiv (IntKind.u64.wrap (a2 * 2 ^ (min (Int.toNat (IntKind.u64.wrap (t1238))) 64))) 4294967296)), (10, iV .u64 (IntKind.u64.wrap (((BitVec.toNat (BitVec.ofInt 64 (IntKind.u64.wrap (a2 * 2 ^ (min (Int.toNat (IntKind.u64.wrap (t1238))) 64))) &&& BitVec.ofInt 64 (4294967295 : Int)) : Nat) : Int)))), (11, iV .u64 (IntKind.u64.wrap (((BitVec.toNat (BitVec.ofInt 64 (IntKind.u64.wrap (a0 * 2 ^ (min (Int.toNat (IntKind.u64.wrap (t1238))) 64))) ||| BitVec.ofInt 64 (Int.fdiv a1 (2 ^ (min (Int.toNat (IntKind.u64.wrap ((64 : Int) - (IntKind.u64.wrap (t1238))))) 64)))) : Nat) : Int)))), (13, iV .u64 (Int.fdiv (IntKind.u64.wrap (a1 * 2 ^ (min (Int.toNat (IntKind.u64.wrap (t1238))) 64))) 4294967296)), (14, iV .u64 (IntKind.u64.wrap (((BitVec.toNat (BitVec.ofInt 64 (IntKind.u64.wrap (a1 * 2 ^ (min (Int.toNat (IntKind.u64.wrap (t1238))) 64))) &&& BitVec.ofInt 64 (4294967295 : Int)) : Nat) : Int)))), (15, iV .u64 (IntKind.u64.wrap (x1251 - (1 : Int))))], [], 0⟩) (by kernel_rfl)) (And.intro rfl rfl))
              · replace H := (ifF c1257).symm.trans H
                refine AWp.skip ?_
                exact LWp.conv (inv := []) (vk := []) (e0 := []) (t := ⟨[(2, iV .u64 (IntKind.u64.wrap (a2 * 2 ^ (min (Int.toNat (IntKind.u64.wrap (t1238))) 64)))), (8, iV .u64 (IntKind.u64.wrap (t1238))), (9, iV .u64 (Int.fdiv (IntKind.u64.wrap (a2 * 2 ^ (min (Int.toNat (IntKind.u64.wrap (t1238))) 64))) 4294967296)), (10, iV .u64 (IntKind.u64.wrap (((BitVec.toNat (BitVec.ofInt 64 (IntKind.u64.wrap (a2 * 2 ^ (min (Int.toNat (IntKind.u64.wrap (t1238))) 64))) &&& BitVec.ofInt 64 (4294967295 : Int)) : Nat) : Int)))), (11, iV .u64 (IntKind.u64.wrap (((BitVec.toNat (BitVec.ofInt 64 (IntKind.u64.wrap (a0 * 2 ^ (min (Int.toNat (IntKind.u64.wrap (t1238))) 64))) ||| BitVec.ofInt 64 (Int.fdiv a1 (2 ^ (min (Int.toNat (IntKind.u64.wrap ((64 : Int) - (IntKind.u64.wrap (t1238))))) 64)))) : Nat) : Int)))), (13, iV .u64 (Int.fdiv (IntKind.u64.wrap (a1 * 2 ^ (min (Int.toNat (IntKind.u64.wrap (t1238))) 64))) 4294967296)), (14, iV .u64 (IntKind.u64.wrap (((BitVec.toNat (BitVec.ofInt 64 (IntKind.u64.wrap (a1 * 2 ^ (min (Int.toNat (IntKind.u64.wrap (t1238))) 64))) &&& BitVec.ofInt 64 (4294967295 : Int)) : Nat) : Int)))), (15, iV .u64 (IntKind.u64.wrap (x1251 - (1 : Int)))), (16, iV .u64 (IntKind.u64.wrap (x1252 + (Int.fdiv (IntKind.u64.wrap (a2 * 2 ^ (min (Int.toNat (IntKind.u64.wrap (t1238))) 64))) 4294967296))))], [], 0⟩) (by kernel_rfl) (ih _ _ _ H)
            · replace H := (ifF c1256).symm.trans H
              refine AWp.exit ?_
              obtain rfl := Option.some.inj H
              exact Exists.intro _ (And.intro (fun _ _ h => h.conv (inv := []) (vk := []) (e0 := []) (t := ⟨[(2, iV .u64 (IntKind.u64.wrap (a2 * 2 ^ (min (Int.toNat (IntKind.u64.wrap (t1238))) 64)))), (8, iV .u64 (IntKind.u64.wrap (t1238))), (9, iV .u64 (Int.fdiv (IntKind.u64.wrap (a2 * 2 ^ (min (Int.toNat (IntKind.u64.wrap (t1238))) 64))) 4294967296)), (10, iV .u64 (IntKind.u64.wrap (((BitVec.toNat (BitVec.ofInt 64 (IntKind.u64.wrap (a2 * 2 ^ (min (Int.toNat (IntKind.u64.wrap (t1238))) 64))) &&& BitVec.ofInt 64 (4294967295 : Int)) : Nat) : Int)))), (11, iV .u64 (IntKind.u64.wrap (((BitVec.toNat (BitVec.ofInt 64 (IntKind.u64.wrap (a0 * 2 ^ (min (Int.toNat (IntKind.u64.wrap (t1238))) 64))) ||| BitVec.ofInt 64 (Int.fdiv a1 (2 ^ (min (Int.toNat (IntKind.u64.wrap ((64 : Int) - (IntKind.u64.wrap (t1238))))) 64)))) : Nat) : Int)))), (13, iV .u64 (Int.fdiv (IntKind.u64.wrap (a1 * 2 ^ (min (Int.toNat (IntKind.u64.wrap (t1238))) 64))) 4294967296)), (14, iV .u64 (IntKind.u64.wrap (((BitVec.toNat (BitVec.ofInt 64 (IntKind.u64.wrap (a1 * 2 ^ (min (Int.toNat (IntKind.u64.wrap (t1238))) 64))) &&& BitVec.ofInt 64 (4294967295 : Int)) : Nat) : Int)))), (15, iV .u64 x1251)], [], 0⟩) (by kernel_rfl)) (And.intro rfl rfl))
        · obtain ⟨x1258, rfl⟩ : ∃ z, z = o1276 := ⟨_, rfl⟩
          rintro e s ⟨rfl, rfl⟩
          refine AWp.seq ?_
          refine reg hP hn hm [] [2, 8, 9, 10, 14, 15, 17] [] ⟨[(2, iV .u64 (IntKind.u64.wrap (a2 * 2 ^ (min (Int.toNat (IntKind.u64.wrap (t1238))) 64)))), (8, iV .u64 (IntKind.u64.wrap (t1238))), (9, iV .u64 (Int.fdiv (IntKind.u64.wrap (a2 * 2 ^ (min (Int.toNat (IntKind.u64.wrap (t1238))) 64))) 4294967296)), (10, iV .u64 (IntKind.u64.wrap (((BitVec.toNat (BitVec.ofInt 64 (IntKind.u64.wrap (a2 * 2 ^ (min (Int.toNat (IntKind.u64.wrap (t1238))) 64))) &&& BitVec.ofInt 64 (4294967295 : Int)) : Nat) : Int)))), (14, iV .u64 (IntKind.u64.wrap (((BitVec.toNat (BitVec.ofInt 64 (IntKind.u64.wrap (a1 * 2 ^ (min (Int.toNat (IntKind.u64.wrap (t1238))) 64))) &&& BitVec.ofInt 64 (4294967295 : Int)) : Nat) : Int)))), (15, iV .u64 x1258), (17, iV .u64 (IntKind.u64.wrap ((IntKind.u64.wrap ((IntKind.u64.wrap ((IntKind.u64.wrap (((BitVec.toNat (BitVec.ofInt 64 (IntKind.u64.wrap (a0 * 2 ^ (min (Int.toNat (IntKind.u64.wrap (t1238))) 64))) ||| BitVec.ofInt 64 (Int.fdiv a1 (2 ^ (min (Int.toNat (IntKind.u64.wrap ((64 : Int) - (IntKind.u64.wrap (t1238))))) 64)))) : Nat) : Int))) * (4294967296 : Int))) + (Int.fdiv (IntKind.u64.wrap (a1 * 2 ^ (min (Int.toNat (IntKind.u64.wrap (t1238))) 64))) 4294967296))) - (IntKind.u64.wrap (x1258 * (IntKind.u64.wrap (a2 * 2 ^ (min (Int.toNat (IntKind.u64.wrap (t1238))) 64))))))))], [], 0⟩ [] (by kernel_rfl) trivial ?_
          refine AWp.seq ?_
          obtain ⟨c1260, H⟩ := chk_of H
          refine reg hP hn hm [] [2, 8, 9, 10, 14, 15, 17, 18] [] ⟨[(2, iV .u64 (IntKind.u64.wrap (a2 * 2 ^ (min (Int.toNat (IntKind.u64.wrap (t1238))) 64)))), (8, iV .u64 (IntKind.u64.wrap (t1238))), (9, iV .u64 (Int.fdiv (IntKind.u64.wrap (a2 * 2 ^ (min (Int.toNat (IntKind.u64.wrap (t1238))) 64))) 4294967296)), (10, iV .u64 (IntKind.u64.wrap (((BitVec.toNat (BitVec.ofInt 64 (IntKind.u64.wrap (a2 * 2 ^ (min (Int.toNat (IntKind.u64.wrap (t1238))) 64))) &&& BitVec.ofInt 64 (4294967295 : Int)) : Nat) : Int)))), (14, iV .u64 (IntKind.u64.wrap (((BitVec.toNat (BitVec.ofInt 64 (IntKind.u64.wrap (a1 * 2 ^ (min (Int.toNat (IntKind.u64.wrap (t1238))) 64))) &&& BitVec.ofInt 64 (4294967295 : Int)) : Nat) : Int)))), (15, iV .u64 x1258), (17, iV .u64 (IntKind.u64.wrap ((IntKind.u64.wrap ((IntKind.u64.wrap ((IntKind.u64.wrap (((BitVec.toNat (BitVec.ofInt 64 (IntKind.u64.wrap (a0 * 2 ^ (min (Int.toNat (IntKind.u64.wrap (t1238))) 64))) ||| BitVec.ofInt 64 (Int.fdiv a1 (2 ^ (min (Int.toNat (IntKind.u64.wrap ((64 : Int) - (IntKind.u64.wrap (t1238))))) 64)))) : Nat) : Int))) * (4294967296 : Int))) + (Int.fdiv (IntKind.u64.wrap (a1 * 2 ^ (min (Int.toNat (IntKind.u64.wrap (t1238))) 64))) 4294967296))) - (IntKind.u64.wrap (x1258 * (IntKind.u64.wrap (a2 * 2 ^ (min (Int.toNat (IntKind.u64.wrap (t1238))) 64)))))))), (18, iV .u64 (IntKind.u64.wrap (Int.tdiv (IntKind.u64.wrap ((IntKind.u64.wrap ((IntKind.u64.wrap ((IntKind.u64.wrap (((BitVec.toNat (BitVec.ofInt 64 (IntKind.u64.wrap (a0 * 2 ^ (min (Int.toNat (IntKind.u64.wrap (t1238))) 64))) ||| BitVec.ofInt 64 (Int.fdiv a1 (2 ^ (min (Int.toNat (IntKind.u64.wrap ((64 : Int) - (IntKind.u64.wrap (t1238))))) 64)))) : Nat) : Int))) * (4294967296 : Int))) + (Int.fdiv (IntKind.u64.wrap (a1 * 2 ^ (min (Int.toNat (IntKind.u64.wrap (t1238))) 64))) 4294967296))) - (IntKind.u64.wrap (x1258 * (IntKind.u64.wrap (a2 * 2 ^ (min (Int.toNat (IntKind.u64.wrap (t1238))) 64))))))) (Int.fdiv (IntKind.u64.wrap (a2 * 2 ^ (min (Int.toNat (IntKind.u64.wrap (t1238))) 64))) 4294967296))))], [], 0⟩ [(Int.fdiv (IntKind.u64.wrap (a2 * 2 ^ (min (Int.toNat (IntKind.u64.wrap (t1238))) 64))) 4294967296) ≠ 0] (by kernel_rfl) ⟨by exact c1260, trivial⟩ ?_
          refine AWp.seq ?_
          refine reg hP hn hm [] [2, 8, 9, 10, 14, 15, 16, 17, 18] [] ⟨[(2, iV .u64 (IntKind.u64.wrap (a2 * 2 ^ (min (Int.toNat (IntKind.u64.wrap (t1238))) 64)))), (8, iV .u64 (IntKind.u64.wrap (t1238))), (9, iV .u64 (Int.fdiv (IntKind.u64.wrap (a2 * 2 ^ (min (Int.toNat (IntKind.u64.wrap (t1238))) 64))) 4294967296)), (10, iV .u64 (IntKind.u64.wrap (((BitVec.toNat (BitVec.ofInt 64 (IntKind.u64.wrap (a2 * 2 ^ (min (Int.toNat (IntKind.u64.wrap (t1238))) 64))) &&& BitVec.ofInt 64 (4294967295 : Int)) : Nat) : Int)))), (14, iV .u64 (IntKind.u64.wrap (((BitVec.toNat (BitVec.ofInt 64 (IntKind.u64.wrap (a1 * 2 ^ (min (Int.toNat (IntKind.u64.wrap (t1238))) 64))) &&& BitVec.ofInt 64 (4294967295 : Int)) : Nat) : Int)))), (15, iV .u64 x1258), (16, iV .u64 (IntKind.u64.wrap ((IntKind.u64.wrap ((IntKind.u64.wrap ((IntKind.u64.wrap ((IntKind.u64.wrap (((BitVec.toNat (BitVec.ofInt 64 (IntKind.u64.wrap (a0 * 2 ^ (min (Int.toNat (IntKind.u64.wrap (t1238))) 64))) ||| BitVec.ofInt 64 (Int.fdiv a1 (2 ^ (min (Int.toNat (IntKind.u64.wrap ((64 : Int) - (IntKind.u64.wrap (t1238))))) 64)))) : Nat) : Int))) * (4294967296 : Int))) + (Int.fdiv (IntKind.u64.wrap (a1 * 2 ^ (min (Int.toNat (IntKind.u64.wrap (t1238))) 64))) 4294967296))) - (IntKind.u64.wrap (x1258 * (IntKind.u64.wrap (a2 * 2 ^ (min (Int.toNat (IntKind.u64.wrap (t1238))) 64))))))) - (IntKind.u64.wrap ((IntKind.u64.wrap (Int.tdiv (IntKind.u64.wrap ((IntKind.u64.wrap ((IntKind.u64.wrap ((IntKind.u64.wrap (((BitVec.toNat (BitVec.ofInt 64 (IntKind.u64.wrap (a0 * 2 ^ (min (Int.toNat (IntKind.u64.wrap (t1238))) 64))) ||| BitVec.ofInt 64 (Int.fdiv a1 (2 ^ (min (Int.toNat (IntKind.u64.wrap ((64 : Int) - (IntKind.u64.wrap (t1238))))) 64)))) : Nat) : Int))) * (4294967296 : Int))) + (Int.fdiv (IntKind.u64.wrap (a1 * 2 ^ (min (Int.toNat (IntKind.u64.wrap (t1238))) 64))) 4294967296))) - (IntKind.u64.wrap (x1258 * (IntKind.u64.wrap (a2 * 2 ^ (min (Int.toNat (IntKind.u64.wrap (t1238))) 64))))))) (Int.fdiv (IntKind.u64.wrap (a2 * 2 ^ (min (Int.toNat (IntKind.u64.wrap (t1238))) 64))) 4294967296))) * (Int.fdiv (IntKind.u64.wrap (a2 * 2 ^ (min (Int.toNat (IntKind.u64.wrap (t1238))) 64))) 4294967296)))))), (17, iV .u64 (IntKind.u64.wrap ((IntKind.u64.wrap ((IntKind.u64.wrap ((IntKind.u64.wrap (((BitVec.toNat (BitVec.ofInt 64 (IntKind.u64.wrap (a0 * 2 ^ (min (Int.toNat (IntKind.u64.wrap (t1238))) 64))) ||| BitVec.ofInt 64 (Int.fdiv a1 (2 ^ (min (Int.toNat (IntKind.u64.wrap ((64 : Int) - (IntKind.u64.wrap (t1238))))) 64)))) : Nat) : Int))) * (4294967296 : Int))) + (Int.fdiv (IntKind.u64.wrap (a1 * 2 ^ (min (Int.toNat (IntKind.u64.wrap (t1238))) 64))) 4294967296))) - (IntKind.u64.wrap (x1258 * (IntKind.u64.wrap (a2 * 2 ^ (min (Int.toNat (IntKind.u64.wrap (t1238))) 64)))))))), (18, iV .u64 (IntKind.u64.wrap (Int.tdiv (IntKind.u64.wrap ((IntKind.u64.wrap ((IntKind.u64.wrap ((IntKind.u64.wrap (((BitVec.toNat (BitVec.ofInt 64 (IntKind.u64.wrap (a0 * 2 ^ (min (Int.toNat (IntKind.u64.wrap (t1238))) 64))) ||| BitVec.ofInt 64 (Int.fdiv a1 (2 ^ (min (Int.toNat (IntKind.u64.wrap ((64 : Int) - (IntKind.u64.wrap (t1238))))) 64)))) : Nat) : Int))) * (4294967296 : Int))) + (Int.fdiv (IntKind.u64.wrap (a1 * 2 ^ (min (Int.toNat (IntKind.u64.wrap (t1238))) 64))) 4294967296))) - (IntKind.u64.wrap (x1258 * (IntKind.u64.wrap (a2 * 2 ^ (min (Int.toNat (IntKind.u64.wrap (t1238))) 64))))))) (Int.fdiv (IntKind.u64.wrap (a2 * 2 ^ (min (Int.toNat (IntKind.u64.wrap (t1238))) 64))) 4294967296))))], [], 0⟩ [] (by kernel_rfl) trivial ?_
          refine AWp.seq ?_
          refine AWp.block ?_
          obtain ⟨o1280, e1281, H⟩ := bind_of H
          refine AWp.loop (LWp.conv (inv := []) (vk := []) (e0 := []) (t := ⟨[(2, iV .u64 (IntKind.u64.wrap (a2 * 2 ^ (min (Int.toNat (IntKind.u64.wrap (t1238))) 64)))), (8, iV .u64 (IntKind.u64.wrap (t1238))), (9, iV .u64 (Int.fdiv (IntKind.u64.wrap (a2 * 2 ^ (min (Int.toNat (IntKind.u64.wrap (t1238))) 64))) 4294967296)), (10, iV .u64 (IntKind.u64.wrap (((BitVec.toNat (BitVec.ofInt 64 (IntKind.u64.wrap (a2 * 2 ^ (min (Int.toNat (IntKind.u64.wrap (t1238))) 64))) &&& BitVec.ofInt 64 (4294967295 : Int)) : Nat) : Int)))), (14, iV .u64 (IntKind.u64.wrap (((BitVec.toNat (BitVec.ofInt 64 (IntKind.u64.wrap (a1 * 2 ^ (min (Int.toNat (IntKind.u64.wrap (t1238))) 64))) &&& BitVec.ofInt 64 (4294967295 : Int)) : Nat) : Int)))), (15, iV .u64 x1258), (16, iV .u64 (IntKind.u64.wrap ((IntKind.u64.wrap ((IntKind.u64.wrap ((IntKind.u64.wrap ((IntKind.u64.wrap (((BitVec.toNat (BitVec.ofInt 64 (IntKind.u64.wrap (a0 * 2 ^ (min (Int.toNat (IntKind.u64.wrap (t1238))) 64))) ||| BitVec.ofInt 64 (Int.fdiv a1 (2 ^ (min (Int.toNat (IntKind.u64.wrap ((64 : Int) - (IntKind.u64.wrap (t1238))))) 64)))) : Nat) : Int))) * (4294967296 : Int))) + (Int.fdiv (IntKind.u64.wrap (a1 * 2 ^ (min (Int.toNat (IntKind.u64.wrap (t1238))) 64))) 4294967296))) - (IntKind.u64.wrap (x1258 * (IntKind.u64.wrap (a2 * 2 ^ (min (Int.toNat (IntKind.u64.wrap (t1238))) 64))))))) - (IntKind.u64.wrap ((IntKind.u64.wrap (Int.tdiv (IntKind.u64.wrap ((IntKind.u64.wrap ((IntKind.u64.wrap ((IntKind.u64.wrap (((BitVec.toNat (BitVec.ofInt 64 (IntKind.u64.wrap (a0 * 2 ^ (min (Int.toNat (IntKind.u64.wrap (t1238))) 64))) ||| BitVec.ofInt 64 (Int.fdiv a1 (2 ^ (min (Int.toNat (IntKind.u64.wrap ((64 : Int) - (IntKind.u64.wrap (t1238))))) 64)))) : Nat) : Int))) * (4294967296 : Int))) + (Int.fdiv (IntKind.u64.wrap (a1 * 2 ^ (min (Int.toNat (IntKind.u64.wrap (t1238))) 64))) 4294967296))) - (IntKind.u64.wrap (x1258 * (IntKind.u64.wrap (a2 * 2 ^ (min (Int.toNat (IntKind.u64.wrap (t1238))) 64))))))) (Int.fdiv (IntKind.u64.wrap (a2 * 2 ^ (min (Int.toNat (IntKind.u64.wrap (t1238))) 64))) 4294967296))) * (Int.fdiv (IntKind.u64.wrap (a2 * 2 ^ (min (Int.toNat (IntKind.u64.wrap (t1238))) 64))) 4294967296)))))), (17, iV .u64 (IntKind.u64.wrap ((IntKind.u64.wrap ((IntKind.u64.wrap ((IntKind.u64.wrap (((BitVec.toNat (BitVec.ofInt 64 (IntKind.u64.wrap (a0 * 2 ^ (min (Int.toNat (IntKind.u64.wrap (t1238))) 64))) ||| BitVec.ofInt 64 (Int.fdiv a1 (2 ^ (min (Int.toNat (IntKind.u64.wrap ((64 : Int) - (IntKind.u64.wrap (t1238))))) 64)))) : Nat) : Int))) * (4294967296 : Int))) + (Int.fdiv (IntKind.u64.wrap (a1 * 2 ^ (min (Int.toNat (IntKind.u64.wrap (t1238))) 64))) 4294967296))) - (IntKind.u64.wrap (x1258 * (IntKind.u64.wrap (a2 * 2 ^ (min (Int.toNat (IntKind.u64.wrap (t1238))) 64)))))))), (18, iV .u64 (IntKind.u64.wrap (Int.tdiv (IntKind.u64.wrap ((IntKind.u64.wrap ((IntKind.u64.wrap ((IntKind.u64.wrap (((BitVec.toNat (BitVec.ofInt 64 (IntKind.u64.wrap (a0 * 2 ^ (min (Int.toNat (IntKind.u64.wrap (t1238))) 64))) ||| BitVec.ofInt 64 (Int.fdiv a1 (2 ^ (min (Int.toNat (IntKind.u64.wrap ((64 : Int) - (IntKind.u64.wrap (t1238))))) 64)))) : Nat) : Int))) * (4294967296 : Int))) + (Int.fdiv (IntKind.u64.wrap (a1 * 2 ^ (min (Int.toNat (IntKind.u64.wrap (t1238))) 64))) 4294967296))) - (IntKind.u64.wrap (x1258 * (IntKind.u64.wrap (a2 * 2 ^ (min (Int.toNat (IntKind.u64.wrap (t1238))) 64))))))) (Int.fdiv (IntKind.u64.wrap (a2 * 2 ^ (min (Int.toNat (IntKind.u64.wrap (t1238))) 64))) 4294967296))))], [], 0⟩) (by kernel_rfl) ?_)
          refine LWp.mono (Q := fun e s => (match (generalizing := false) o1280 with | x1273 => e = .exit 2 ∧ s = ⟨[(2, iV .u64 (IntKind.u64.wrap (a2 * 2 ^ (min (Int.toNat (IntKind.u64.wrap (t1238))) 64)))), (8, iV .u64 (IntKind.u64.wrap (t1238))), (14, iV .u64 (IntKind.u64.wrap (((BitVec.toNat (BitVec.ofInt 64 (IntKind.u64.wrap (a1 * 2 ^ (min (Int.toNat (IntKind.u64.wrap (t1238))) 64))) &&& BitVec.ofInt 64 (4294967295 : Int)) : Nat) : Int)))), (15, iV .u64 x1258), (17, iV .u64 (IntKind.u64.wrap ((IntKind.u64.wrap ((IntKind.u64.wrap ((IntKind.u64.wrap (((BitVec.toNat (BitVec.ofInt 64 (IntKind.u64.wrap (a0 * 2 ^ (min (Int.toNat (IntKind.u64.wrap (t1238))) 64))) ||| BitVec.ofInt 64 (Int.fdiv a1 (2 ^ (min (Int.toNat (IntKind.u64.wrap ((64 : Int) - (IntKind.u64.wrap (t1238))))) 64)))) : Nat) : Int))) * (4294967296 : Int))) + (Int.fdiv (IntKind.u64.wrap (a1 * 2 ^ (min (Int.toNat (IntKind.u64.wrap (t1238))) 64))) 4294967296))) - (IntKind.u64.wrap (x1258 * (IntKind.u64.wrap (a2 * 2 ^ (min (Int.toNat (IntKind.u64.wrap (t1238))) 64)))))))), (18, iV .u64 x1273)], [], 0⟩)) (LWp.cv (withBody (fun body hbody => ?_))) ?_
          · refine f_bits_Div64.l1.partial_correctness a0 a1 a2 t1238 x1258 (motive := fun x1266 x1267 o1280 => LWp Γ body (fun e s => ∃ t, Cv Γ s t ∧ (match (generalizing := false) o1280 with | x1273 => e = .exit 2 ∧ t = ⟨[(2, iV .u64 (IntKind.u64.wrap (a2 * 2 ^ (min (Int.toNat (IntKind.u64.wrap (t1238))) 64)))), (8, iV .u64 (IntKind.u64.wrap (t1238))), (14, iV .u64 (IntKind.u64.wrap (((BitVec.toNat (BitVec.ofInt 64 (IntKind.u64.wrap (a1 * 2 ^ (min (Int.toNat (IntKind.u64.wrap (t1238))) 64))) &&& BitVec.ofInt 64 (4294967295 : Int)) : Nat) : Int)))), (15, iV .u64 x1258), (17, iV .u64 (IntKind.u64.wrap ((IntKind.u64.wrap ((IntKind.u64.wrap ((IntKind.u64.wrap (((BitVec.toNat (BitVec.ofInt 64 (IntKind.u64.wrap (a0 * 2 ^ (min (Int.toNat (IntKind.u64.wrap (t1238))) 64))) ||| BitVec.ofInt 64 (Int.fdiv a1 (2 ^ (min (Int.toNat (IntKind.u64.wrap ((64 : Int) - (IntKind.u64.wrap (t1238))))) 64)))) : Nat) : Int))) * (4294967296 : Int))) + (Int.fdiv (IntKind.u64.wrap (a1 * 2 ^ (min (Int.toNat (IntKind.u64.wrap (t1238))) 64))) 4294967296))) - (IntKind.u64.wrap (x1258 * (IntKind.u64.wrap (a2 * 2 ^ (min (Int.toNat (IntKind.u64.wrap (t1238))) 64)))))))), (18, iV .u64 x1273)], [], 0⟩)) ⟨[(2, iV .u64 (IntKind.u64.wrap (a2 * 2 ^ (min (Int.toNat (IntKind.u64.wrap (t1238))) 64)))), (8, iV .u64 (IntKind.u64.wrap (t1238))), (9, iV .u64 (Int.fdiv (IntKind.u64.wrap (a2 * 2 ^ (min (Int.toNat (IntKind.u64.wrap (t1238))) 64))) 4294967296)), (10, iV .u64 (IntKind.u64.wrap (((BitVec.toNat (BitVec.ofInt 64 (IntKind.u64.wrap (a2 * 2 ^ (min (Int.toNat (IntKind.u64.wrap (t1238))) 64))) &&& BitVec.ofInt 64 (4294967295 : Int)) : Nat) : Int)))), (14, iV .u64 (IntKind.u64.wrap (((BitVec.toNat (BitVec.ofInt 64 (IntKind.u64.wrap (a1 * 2 ^ (min (Int.toNat (IntKind.u64.wrap (t1238))) 64))) &&& BitVec.ofInt 64 (4294967295 : Int)) : Nat) : Int)))), (15, iV .u64 x1258), (16, iV .u64 x1266), (17, iV .u64 (IntKind.u64.wrap ((IntKind.u64.wrap ((IntKind.u64.wrap ((IntKind.u64.wrap (((BitVec.toNat (BitVec.ofInt 64 (IntKind.u64.wrap (a0 * 2 ^ (min (Int.toNat (IntKind.u64.wrap (t1238))) 64))) ||| BitVec.ofInt 64 (Int.fdiv a1 (2 ^ (min (Int.toNat (IntKind.u64.wrap ((64 : Int) - (IntKind.u64.wrap (t1238))))) 64)))) : Nat) : Int))) * (4294967296 : Int))) + (Int.fdiv (IntKind.u64.wrap (a1 * 2 ^ (min (Int.toNat (IntKind.u64.wrap (t1238))) 64))) 4294967296))) - (IntKind.u64.wrap (x1258 * (IntKind.u64.wrap (a2 * 2 ^ (min (Int.toNat (IntKind.u64.wrap (t1238))) 64)))))))), (18, iV .u64 x1267)], [], 0⟩) ?_ _ _ _ e1281
            clear H e1281 o1280; intro self ih x1266 x1267 o1280 H
            subst hbody
            refine LWp.round ?_
            refine AWp.seq ?_
            refine AWp.seq ?_
            obtain ⟨o1282, e1283, H⟩ := bind_of H
            refine AWp.mono (Q := fun e s => (match (generalizing := false) o1282 with | x1270 => e = .normal ∧ s = ⟨[(2, iV .u64 (IntKind.u64.wrap (a2 * 2 ^ (min (Int.toNat (IntKind.u64.wrap (t1238))) 64)))), (8, iV .u64 (IntKind.u64.wrap (t1238))), (9, iV .u64 (Int.fdiv (IntKind.u64.wrap (a2 * 2 ^ (min (Int.toNat (IntKind.u64.wrap (t1238))) 64))) 4294967296)), (10, iV .u64 (IntKind.u64.wrap (((BitVec.toNat (BitVec.ofInt 64 (IntKind.u64.wrap (a2 * 2 ^ (min (Int.toNat (IntKind.u64.wrap (t1238))) 64))) &&& BitVec.ofInt 64 (4294967295 : Int)) : Nat) : Int)))), (14, iV .u64 (IntKind.u64.wrap (((BitVec.toNat (BitVec.ofInt 64 (IntKind.u64.wrap (a1 * 2 ^ (min (Int.toNat (IntKind.u64.wrap (t1238))) 64))) &&& BitVec.ofInt 64 (4294967295 : Int)) : Nat) : Int)))), (15, iV .u64 x1258), (16, iV .u64 x1266), (17, iV .u64 (IntKind.u64.wrap ((IntKind.u64.wrap ((IntKind.u64.wrap ((IntKind.u64.wrap (((BitVec.toNat (BitVec.ofInt 64 (IntKind.u64.wrap (a0 * 2 ^ (min (Int.toNat (IntKind.u64.wrap (t1238))) 64))) ||| BitVec.ofInt 64 (Int.fdiv a1 (2 ^ (min (Int.toNat (IntKind.u64.wrap ((64 : Int) - (IntKind.u64.wrap (t1238))))) 64)))) : Nat) : Int))) * (4294967296 : Int))) + (Int.fdiv (IntKind.u64.wrap (a1 * 2 ^ (min (Int.toNat (IntKind.u64.wrap (t1238))) 64))) 4294967296))) - (IntKind.u64.wrap (x1258 * (IntKind.u64.wrap (a2 * 2 ^ (min (Int.toNat (IntKind.u64.wrap (t1238))) 64)))))))), (18, iV .u64 x1267), (113, bV x1270)], [], 0⟩)) (AWp.cv ?_) ?_
            · replace H := e1283; clear e1283
              rcases Bool.eq_false_or_eq_true (decide (x1267 ≥ (4294967296 : Int))) with c1269 | c1269
              · replace H := (ifT c1269).symm.trans H
                refine reg hP hn hm [(2, .b true)] [2, 8, 9, 10, 14, 15, 16, 17, 18, 113] [] ⟨[(2, iV .u64 (IntKind.u64.wrap (a2 * 2 ^ (min (Int.toNat (IntKind.u64.wrap (t1238))) 64)))), (8, iV .u64 (IntKind.u64.wrap (t1238))), (9, iV .u64 (Int.fdiv (IntKind.u64.wrap (a2 * 2 ^ (min (Int.toNat (IntKind.u64.wrap (t1238))) 64))) 4294967296)), (10, iV .u64 (IntKind.u64.wrap (((BitVec.toNat (BitVec.ofInt 64 (IntKind.u64.wrap (a2 * 2 ^ (min (Int.toNat (IntKind.u64.wrap (t1238))) 64))) &&& BitVec.ofInt 64 (4294967295 : Int)) : Nat) : Int)))), (14, iV .u64 (IntKind.u64.wrap (((BitVec.toNat (BitVec.ofInt 64 (IntKind.u64.wrap (a1 * 2 ^ (min (Int.toNat (IntKind.u64.wrap (t1238))) 64))) &&& BitVec.ofInt 64 (4294967295 : Int)) : Nat) : Int)))), (15, iV .u64 x1258), (16, iV .u64 x1266), (17, iV .u64 (IntKind.u64.wrap ((IntKind.u64.wrap ((IntKind.u64.wrap ((IntKind.u64.wrap (((BitVec.toNat (BitVec.ofInt 64 (IntKind.u64.wrap (a0 * 2 ^ (min (Int.toNat (IntKind.u64.wrap (t1238))) 64))) ||| BitVec.ofInt 64 (Int.fdiv a1 (2 ^ (min (Int.toNat (IntKind.u64.wrap ((64 : Int) - (IntKind.u64.wrap (t1238))))) 64)))) : Nat) : Int))) * (4294967296 : Int))) + (Int.fdiv (IntKind.u64.wrap (a1 * 2 ^ (min (Int.toNat (IntKind.u64.wrap (t1238))) 64))) 4294967296))) - (IntKind.u64.wrap (x1258 * (IntKind.u64.wrap (a2 * 2 ^ (min (Int.toNat (IntKind.u64.wrap (t1238))) 64)))))))), (18, iV .u64 x1267), (113, bV true)], [], 0⟩ [(decide (x1267 ≥ (4294967296 : Int))) = true] (by kernel_rfl) ⟨by exact c1269, trivial⟩ ?_
                obtain rfl := Option.some.inj H
                exact Exists.intro _ (And.intro (fun _ _ h => h.conv (inv := []) (vk := []) (e0 := []) (t := ⟨[(2, iV .u64 (IntKind.u64.wrap (a2 * 2 ^ (min (Int.toNat (IntKind.u64.wrap (t1238))) 64)))), (8, iV .u64 (IntKind.u64.wrap (t1238))), (9, iV .u64 (Int.fdiv (IntKind.u64.wrap (a2 * 2 ^ (min (Int.toNat (IntKind.u64.wrap (t1238))) 64))) 4294967296)), (10, iV .u64 (IntKind.u64.wrap (((BitVec.toNat (BitVec.ofInt 64 (IntKind.u64.wrap (a2 * 2 ^ (min (Int.toNat (IntKind.u64.wrap (t1238))) 64))) &&& BitVec.ofInt 64 (4294967295 : Int)) : Nat) : Int)))), (14, iV .u64 (IntKind.u64.wrap (((BitVec.toNat (BitVec.ofInt 64 (IntKind.u64.wrap (a1 * 2 ^ (min (Int.toNat (IntKind.u64.wrap (t1238))) 64))) &&& BitVec.ofInt 64 (4294967295 : Int)) : Nat) : Int)))), (15, iV .u64 x1258), (16, iV .u64 x1266), (17, iV .u64 (IntKind.u64.wrap ((IntKind.u64.wrap ((IntKind.u64.wrap ((IntKind.u64.wrap (((BitVec.toNat (BitVec.ofInt 64 (IntKind.u64.wrap (a0 * 2 ^ (min (Int.toNat (IntKind.u64.wrap (t1238))) 64))) ||| BitVec.ofInt 64 (Int.fdiv a1 (2 ^ (min (Int.toNat (IntKind.u64.wrap ((64 : Int) - (IntKind.u64.wrap (t1238))))) 64)))) : Nat) : Int))) * (4294967296 : Int))) + (Int.fdiv (IntKind.u64.wrap (a1 * 2 ^ (min (Int.toNat (IntKind.u64.wrap (t1238))) 64))) 4294967296))) - (IntKind.u64.wrap (x1258 * (IntKind.u64.wrap (a2 * 2 ^ (min (Int.toNat (IntKind.u64.wrap (t1238))) 64)))))))), (18, iV .u64 x1267), (113, bV true)], [], 0⟩) (by kernel_rfl)) (And.intro rfl rfl))
              · replace H := (ifF c1269).symm.trans H
                refine reg hP hn hm [(2, .b false)] [2, 8, 9, 10, 14, 15, 16, 17, 18, 105, 106, 107, 108, 109, 110, 111, 112, 113] [] ⟨[(2, iV .u64 (IntKind.u64.wrap (a2 * 2 ^ (min (Int.toNat (IntKind.u64.wrap (t1238))) 64)))), (8, iV .u64 (IntKind.u64.wrap (t1238))), (9, iV .u64 (Int.fdiv (IntKind.u64.wrap (a2 * 2 ^ (min (Int.toNat (IntKind.u64.wrap (t1238))) 64))) 4294967296)), (10, iV .u64 (IntKind.u64.wrap (((BitVec.toNat (BitVec.ofInt 64 (IntKind.u64.wrap (a2 * 2 ^ (min (Int.toNat (IntKind.u64.wrap (t1238))) 64))) &&& BitVec.ofInt 64 (4294967295 : Int)) : Nat) : Int)))), (14, iV .u64 (IntKind.u64.wrap (((BitVec.toNat (BitVec.ofInt 64 (IntKind.u64.wrap (a1 * 2 ^ (min (Int.toNat (IntKind.u64.wrap (t1238))) 64))) &&& BitVec.ofInt 64 (4294967295 : Int)) : Nat) : Int)))), (15, iV .u64 x1258), (16, iV .u64 x1266), (17, iV .u64 (IntKind.u64.wrap ((IntKind.u64.wrap ((IntKind.u64.wrap ((IntKind.u64.wrap (((BitVec.toNat (BitVec.ofInt 64 (IntKind.u64.wrap (a0 * 2 ^ (min (Int.toNat (IntKind.u64.wrap (t1238))) 64))) ||| BitVec.ofInt 64 (Int.fdiv a1 (2 ^ (min (Int.toNat (IntKind.u64.wrap ((64 : Int) - (IntKind.u64.wrap (t1238))))) 64)))) : Nat) : Int))) * (4294967296 : Int))) + (Int.fdiv (IntKind.u64.wrap (a1 * 2 ^ (min (Int.toNat (IntKind.u64.wrap (t1238))) 64))) 4294967296))) - (IntKind.u64.wrap (x1258 * (IntKind.u64.wrap (a2 * 2 ^ (min (Int.toNat (IntKind.u64.wrap (t1238))) 64)))))))), (18, iV .u64 x1267), (105, iV .u64 x1267), (106, iV .u64 (IntKind.u64.wrap (((BitVec.toNat (BitVec.ofInt 64 (IntKind.u64.wrap (a2 * 2 ^ (min (Int.toNat (IntKind.u64.wrap (t1238))) 64))) &&& BitVec.ofInt 64 (4294967295 : Int)) : Nat) : Int)))), (107, iV .u64 (IntKind.u64.wrap (x1267 * (IntKind.u64.wrap (((BitVec.toNat (BitVec.ofInt 64 (IntKind.u64.wrap (a2 * 2 ^ (min (Int.toNat (IntKind.u64.wrap (t1238))) 64))) &&& BitVec.ofInt 64 (4294967295 : Int)) : Nat) : Int)))))), (108, iV .u64 x1266), (109, iV .u64 (IntKind.u64.wrap ((4294967296 : Int) * x1266))), (110, iV .u64 (IntKind.u64.wrap (((BitVec.toNat (BitVec.ofInt 64 (IntKind.u64.wrap (a1 * 2 ^ (min (Int.toNat (IntKind.u64.wrap (t1238))) 64))) &&& BitVec.ofInt 64 (4294967295 : Int)) : Nat) : Int)))), (111, iV .u64 (IntKind.u64.wrap ((IntKind.u64.wrap ((4294967296 : Int) * x1266)) + (IntKind.u64.wrap (((BitVec.toNat (BitVec.ofInt 64 (IntKind.u64.wrap (a1 * 2 ^ (min (Int.toNat (IntKind.u64.wrap (t1238))) 64))) &&& BitVec.ofInt 64 (4294967295 : Int)) : Nat) : Int)))))), (112, bV (decide ((IntKind.u64.wrap (x1267 * (IntKind.u64.wrap (((BitVec.toNat (BitVec.ofInt 64 (IntKind.u64.wrap (a2 * 2 ^ (min (Int.toNat (IntKind.u64.wrap (t1238))) 64))) &&& BitVec.ofInt 64 (4294967295 : Int)) : Nat) : Int))))) > (IntKind.u64.wrap ((IntKind.u64.wrap ((4294967296 : Int) * x1266)) + (IntKind.u64.wrap (((BitVec.toNat (BitVec.ofInt 64 (IntKind.u64.wrap (a1 * 2 ^ (min (Int.toNat (IntKind.u64.wrap (t1238))) 64))) &&& BitVec.ofInt 64 (4294967295 : Int)) : Nat) : Int)))))))), (113, bV (decide ((IntKind.u64.wrap (x1267 * (IntKind.u64.wrap (((BitVec.toNat (BitVec.ofInt 64 (IntKind.u64.wrap (a2 * 2 ^ (min (Int.toNat (IntKind.u64.wrap (t1238))) 64))) &&& BitVec.ofInt 64 (4294967295 : Int)) : Nat) : Int))))) > (IntKind.u64.wrap ((IntKind.u64.wrap ((4294967296 : Int) * x1266)) + (IntKind.u64.wrap (((BitVec.toNat (BitVec.ofInt 64 (IntKind.u64.wrap (a1 * 2 ^ (min (Int.toNat (IntKind.u64.wrap (t1238))) 64))) &&& BitVec.ofInt 64 (4294967295 : Int)) : Nat) : Int))))))))], [], 0⟩ [(decide (x1267 ≥ (4294967296 : Int))) = false] (by kernel_rfl) ⟨by exact c1269, trivial⟩ ?_
                obtain rfl := Option.some.inj H
                exact Exists.intro _ (And.intro (fun _ _ h => h.conv (inv := []) (vk := []) (e0 := []) (t := ⟨[(2, iV .u64 (IntKind.u64.wrap (a2 * 2 ^ (min (Int.toNat (IntKind.u64.wrap (t1238))) 64)))), (8, iV .u64 (IntKind.u64.wrap (t1238))), (9, iV .u64 (Int.fdiv (IntKind.u64.wrap (a2 * 2 ^ (min (Int.toNat (IntKind.u64.wrap (t1238))) 64))) 4294967296)), (10, iV .u64 (IntKind.u64.wrap (((BitVec.toNat (BitVec.ofInt 64 (IntKind.u64.wrap (a2 * 2 ^ (min (Int.toNat (IntKind.u64.wrap (t1238))) 64))) &&& BitVec.ofInt 64 (4294967295 : Int)) : Nat) : Int)))), (14, iV .u64 (IntKind.u64.wrap (((BitVec.toNat (BitVec.ofInt 64 (IntKind.u64.wrap (a1 * 2 ^ (min (Int.toNat (IntKind.u64.wrap (t1238))) 64))) &&& BitVec.ofInt 64 (4294967295 : Int)) : Nat) : Int)))), (15, iV .u64 x1258), (16, iV .u64 x1266), (17, iV .u64 (IntKind.u64.wrap ((IntKind.u64.wrap ((IntKind.u64.wrap ((IntKind.u64.wrap (((BitVec.toNat (BitVec.ofInt 64 (IntKind.u64.wrap (a0 * 2 ^ (min (Int.toNat (IntKind.u64.wrap (t1238))) 64))) ||| BitVec.ofInt 64 (Int.fdiv a1 (2 ^ (min (Int.toNat (IntKind.u64.wrap ((64 : Int) - (IntKind.u64.wrap (t1238))))) 64)))) : Nat) : Int))) * (4294967296 : Int))) + (Int.fdiv (IntKind.u64.wrap (a1 * 2 ^ (min (Int.toNat (IntKind.u64.wrap (t1238))) 64))) 4294967296))) - (IntKind.u64.wrap (x1258 * (IntKind.u64.wrap (a2 * 2 ^ (min (Int.toNat (IntKind.u64.wrap (t1238))) 64)))))))), (18, iV .u64 x1267), (113, bV (decide ((IntKind.u64.wrap (x1267 * (IntKind.u64.wrap (((BitVec.toNat (BitVec.ofInt 64 (IntKind.u64.wrap (a2 * 2 ^ (min (Int.toNat (IntKind.u64.wrap (t1238))) 64))) &&& BitVec.ofInt 64 (4294967295 : Int)) : Nat) : Int))))) > (IntKind.u64.wrap ((IntKind.u64.wrap ((4294967296 : Int) * x1266)) + (IntKind.u64.wrap (((BitVec.toNat (BitVec.ofInt 64 (IntKind.u64.wrap (a1 * 2 ^ (min (Int.toNat (IntKind.u64.wrap (t1238))) 64))) &&& BitVec.ofInt 64 (4294967295 : Int)) : Nat) : Int))))))))], [], 0⟩) (by kernel_rfl)) (And.intro rfl rfl))
            · obtain ⟨x1270, rfl⟩ : ∃ z, z = o1282 := ⟨_, rfl⟩
              rintro e s ⟨rfl, rfl⟩
              refine AWp.cond x1270 rfl (fun c1271 => ?_) (fun c1271 => ?_)
              · replace H := (ifT c1271).symm.trans H
                refine AWp.skip ?_
                refine AWp.block ?_
                refine AWp.seq ?_
                refine reg hP hn hm [] [2, 8, 9, 10, 14, 15, 16, 17, 18] [] ⟨[(2, iV .u64 (IntKind.u64.wrap (a2 * 2 ^ (min (Int.toNat (IntKind.u64.wrap (t1238))) 64)))), (8, iV .u64 (IntKind.u64.wrap (t1238))), (9, iV .u64 (Int.fdiv (IntKind.u64.wrap (a2 * 2 ^ (min (Int.toNat (IntKind.u64.wrap (t1238))) 64))) 4294967296)), (10, iV .u64 (IntKind.u64.wrap (((BitVec.toNat (BitVec.ofInt 64 (IntKind.u64.wrap (a2 * 2 ^ (min (Int.toNat (IntKind.u64.wrap (t1238))) 64))) &&& BitVec.ofInt 64 (4294967295 : Int)) : Nat) : Int)))), (14, iV .u64 (IntKind.u64.wrap (((BitVec.toNat (BitVec.ofInt 64 (IntKind.u64.wrap (a1 * 2 ^ (min (Int.toNat (IntKind.u64.wrap (t1238))) 64))) &&& BitVec.ofInt 64 (4294967295 : Int)) : Nat) : Int)))), (15, iV .u64 x1258), (16, iV .u64 x1266), (17, iV .u64 (IntKind.u64.wrap ((IntKind.u64.wrap ((IntKind.u64.wrap ((IntKind.u64.wrap (((BitVec.toNat (BitVec.ofInt 64 (IntKind.u64.wrap (a0 * 2 ^ (min (Int.toNat (IntKind.u64.wrap (t1238))) 64))) ||| BitVec.ofInt 64 (Int.fdiv a1 (2 ^ (min (Int.toNat (IntKind.u64.wrap ((64 : Int) - (IntKind.u64.wrap (t1238))))) 64)))) : Nat) : Int))) * (4294967296 : Int))) + (Int.fdiv (IntKind.u64.wrap (a1 * 2 ^ (min (Int.toNat (IntKind.u64.wrap (t1238))) 64))) 4294967296))) - (IntKind.u64.wrap (x1258 * (IntKind.u64.wrap (a2 * 2 ^ (min (Int.toNat (IntKind.u64.wrap (t1238))) 64)))))))), (18, iV .u64 (IntKind.u64.wrap (x1267 - (1 : Int))))], [], 0⟩ [] (by kernel_rfl) trivial ?_
                refine AWp.seq ?_
                refine reg hP hn hm [] [2, 8, 9, 10, 14, 15, 16, 17, 18] [] ⟨[(2, iV .u64 (IntKind.u64.wrap (a2 * 2 ^ (min (Int.toNat (IntKind.u64.wrap (t1238))) 64)))), (8, iV .u64 (IntKind.u64.wrap (t1238))), (9, iV .u64 (Int.fdiv (IntKind.u64.wrap (a2 * 2 ^ (min (Int.toNat (IntKind.u64.wrap (t1238))) 64))) 4294967296)), (10, iV .u64 (IntKind.u64.wrap (((BitVec.toNat (BitVec.ofInt 64 (IntKind.u64.wrap (a2 * 2 ^ (min (Int.toNat (IntKind.u64.wrap (t1238))) 64))) &&& BitVec.ofInt 64 (4294967295 : Int)) : Nat) : Int)))), (14, iV .u64 (IntKind.u64.wrap (((BitVec.toNat (BitVec.ofInt 64 (IntKind.u64.wrap (a1 * 2 ^ (min (Int.toNat (IntKind.u64.wrap (t1238))) 64))) &&& BitVec.ofInt 64 (4294967295 : Int)) : Nat) : Int)))), (15, iV .u64 x1258), (16, iV .u64 (IntKind.u64.wrap (x1266 + (Int.fdiv (IntKind.u64.wrap (a2 * 2 ^ (min (Int.toNat (IntKind.u64.wrap (t1238))) 64))) 4294967296)))), (17, iV .u64 (IntKind.u64.wrap ((IntKind.u64.wrap ((IntKind.u64.wrap ((IntKind.u64.wrap (((BitVec.toNat (BitVec.ofInt 64 (IntKind.u64.wrap (a0 * 2 ^ (min (Int.toNat (IntKind.u64.wrap (t1238))) 64))) ||| BitVec.ofInt 64 (Int.fdiv a1 (2 ^ (min (Int.toNat (IntKind.u64.wrap ((64 : Int) - (IntKind.u64.wrap (t1238))))) 64)))) : Nat) : Int))) * (4294967296 : Int))) + (Int.fdiv (IntKind.u64.wrap (a1 * 2 ^ (min (Int.toNat (IntKind.u64.wrap (t1238))) 64))) 4294967296))) - (IntKind.u64.wrap (x1258 * (IntKind.u64.wrap (a2 * 2 ^ (min (Int.toNat (IntKind.u64.wrap (t1238))) 64)))))))), (18, iV .u64 (IntKind.u64.wrap (x1267 - (1 : Int))))], [], 0⟩ [] (by kernel_rfl) trivial ?_
                refine AWp.seq ?_
                refine reg hP hn hm [] [2, 8, 9, 10, 14, 15, 16, 17, 18, 120] [] ⟨[(2, iV .u64 (IntKind.u64.wrap (a2 * 2 ^ (min (Int.toNat (IntKind.u64.wrap (t1238))) 64)))), (8, iV .u64 (IntKind.u64.wrap (t1238))), (9, iV .u64 (Int.fdiv (IntKind.u64.wrap (a2 * 2 ^ (min (Int.toNat (IntKind.u64.wrap (t1238))) 64))) 4294967296)), (10, iV .u64 (IntKind.u64.wrap (((BitVec.toNat (BitVec.ofInt 64 (IntKind.u64.wrap (a2 * 2 ^ (min (Int.toNat (IntKind.u64.wrap (t1238))) 64))) &&& BitVec.ofInt 64 (4294967295 : Int)) : Nat) : Int)))), (14, iV .u64 (IntKind.u64.wrap (((BitVec.toNat (BitVec.ofInt 64 (IntKind.u64.wrap (a1 * 2 ^ (min (Int.toNat (IntKind.u64.wrap (t1238))) 64))) &&& BitVec.ofInt 64 (4294967295 : Int)) : Nat) : Int)))), (15, iV .u64 x1258), (16, iV .u64 (IntKind.u64.wrap (x1266 + (Int.fdiv (IntKind.u64.wrap (a2 * 2 ^ (min (Int.toNat (IntKind.u64.wrap (t1238))) 64))) 4294967296)))), (17, iV .u64 (IntKind.u64.wrap ((IntKind.u64.wrap ((IntKind.u64.wrap ((IntKind.u64.wrap (((BitVec.toNat (BitVec.ofInt 64 (IntKind.u64.wrap (a0 * 2 ^ (min (Int.toNat (IntKind.u64.wrap (t1238))) 64))) ||| BitVec.ofInt 64 (Int.fdiv a1 (2 ^ (min (Int.toNat (IntKind.u64.wrap ((64 : Int) - (IntKind.u64.wrap (t1238))))) 64)))) : Nat) : Int))) * (4294967296 : Int))) + (Int.fdiv (IntKind.u64.wrap (a1 * 2 ^ (min (Int.toNat (IntKind.u64.wrap (t1238))) 64))) 4294967296))) - (IntKind.u64.wrap (x1258 * (IntKind.u64.wrap (a2 * 2 ^ (min (Int.toNat (IntKind.u64.wrap (t1238))) 64)))))))), (18, iV .u64 (IntKind.u64.wrap (x1267 - (1 : Int)))), (120, bV (decide ((IntKind.u64.wrap (x1266 + (Int.fdiv (IntKind.u64.wrap (a2 * 2 ^ (min (Int.toNat (IntKind.u64.wrap (t1238))) 64))) 4294967296))) ≥ (4294967296 : Int))))], [], 0⟩ [] (by kernel_rfl) trivial ?_
                refine AWp.cond (decide ((IntKind.u64.wrap (x1266 + (Int.fdiv (IntKind.u64.wrap (a2 * 2 ^ (min (Int.toNat (IntKind.u64.wrap (t1238))) 64))) 4294967296))) ≥ (4294967296 : Int))) rfl (fun c1272 => ?_) (fun c1272 => ?_)
                · replace H := (ifT c1272).symm.trans H
                  refine AWp.exit ?_
                  obtain rfl := Option.some.inj H
                  exact Exists.intro _ (And.intro (fun _ _ h => h.conv (inv := []) (vk := []) (e0 := []) (t := ⟨[(2, iV .u64 (IntKind.u64.wrap (a2 * 2 ^ (min (Int.toNat (IntKind.u64.wrap (t1238))) 64)))), (8, iV .u64 (IntKind.u64.wrap (t1238))), (14, iV .u64 (IntKind.u64.wrap (((BitVec.toNat (BitVec.ofInt 64 (IntKind.u64.wrap (a1 * 2 ^ (min (Int.toNat (IntKind.u64.wrap (t1238))) 64))) &&& BitVec.ofInt 64 (4294967295 : Int)) : Nat) : Int)))), (15, iV .u64 x1258), (17, iV .u64 (IntKind.u64.wrap ((IntKind.u64.wrap ((IntKind.u64.wrap ((IntKind.u64.wrap (((BitVec.toNat (BitVec.ofInt 64 (IntKind.u64.wrap (a0 * 2 ^ (min (Int.toNat (IntKind.u64.wrap (t1238))) 64))) ||| BitVec.ofInt 64 (Int.fdiv a1 (2 ^ (min (Int.toNat (IntKind.u64.wrap ((64 : Int) - (IntKind.u64.wrap (t1238))))) 64)))) : Nat) : Int))) * (4294967296 : Int))) + (Int.fdiv (IntKind.u64.wrap (a1 * 2 ^ (min (Int.toNat (IntKind.u64.wrap (t1238))) 64))) 4294967296))) - (IntKind.u64.wrap (x1258 * (IntKind.u64.wrap (a2 * 2 ^ (min (Int.toNat (IntKind.u64.wrap (t1238))) 64)))))))), (18, iV .u64 (IntKind.u64.wrap (x1267 - (1 : Int))))], [], 0⟩) (by kernel_rfl)) (And.intro rfl rfl))
                · replace H := (ifF c1272).symm.trans H
                  refine AWp.skip ?_
                  exact LWp.conv (inv := []) (vk := []) (e0 := []) (t := ⟨[(2, iV .u64 (IntKind.u64.wrap (a2 * 2 ^ (min (Int.toNat (IntKind.u64.wrap (t1238))) 64)))), (8, iV .u64 (IntKind.u64.wrap (t1238))), (9, iV .u64 (Int.fdiv (IntKind.u64.wrap (a2 * 2 ^ (min (Int.toNat (IntKind.u64.wrap (t1238))) 64))) 4294967296)), (10, iV .u64 (IntKind.u64.wrap (((BitVec.toNat (BitVec.ofInt 64 (IntKind.u64.wrap (a2 * 2 ^ (min (Int.toNat (IntKind.u64.wrap (t1238))) 64))) &&& BitVec.ofInt 64 (4294967295 : Int)) : Nat) : Int)))), (14, iV .u64 (IntKind.u64.wrap (((BitVec.toNat (BitVec.ofInt 64 (IntKind.u64.wrap (a1 * 2 ^ (min (Int.toNat (IntKind.u64.wrap (t1238))) 64))) &&& BitVec.ofInt 64 (4294967295 : Int)) : Nat) : Int)))), (15, iV .u64 x1258), (16, iV .u64 (IntKind.u64.wrap (x1266 + (Int.fdiv (IntKind.u64.wrap (a2 * 2 ^ (min (Int.toNat (IntKind.u64.wrap (t1238))) 64))) 4294967296)))), (17, iV .u64 (IntKind.u64.wrap ((IntKind.u64.wrap ((IntKind.u64.wrap ((IntKind.u64.wrap (((BitVec.toNat (BitVec.ofInt 64 (IntKind.u64.wrap (a0 * 2 ^ (min (Int.toNat (IntKind.u64.wrap (t1238))) 64))) ||| BitVec.ofInt 64 (Int.fdiv a1 (2 ^ (min (Int.toNat (IntKind.u64.wrap ((64 : Int) - (IntKind.u64.wrap (t1238))))) 64)))) : Nat) : Int))) * (4294967296 : Int))) + (Int.fdiv (IntKind.u64.wrap (a1 * 2 ^ (min (Int.toNat (IntKind.u64.wrap (t1238))) 64))) 4294967296))) - (IntKind.u64.wrap (x1258 * (IntKind.u64.wrap (a2 * 2 ^ (min (Int.toNat (IntKind.u64.wrap (t1238))) 64)))))))), (18, iV .u64 (IntKind.u64.wrap (x1267 - (1 : Int))))], [], 0⟩) (by kernel_rfl) (ih _ _ _ H)
              · replace H := (ifF c1271).symm.trans H
                refine AWp.exit ?_
                obtain rfl := Option.some.inj H
                exact Exists.intro _ (And.intro (fun _ _ h => h.conv (inv := []) (vk := []) (e0 := []) (t := ⟨[(2, iV .u64 (IntKind.u64.wrap (a2 * 2 ^ (min (Int.toNat (IntKind.u64.wrap (t1238))) 64)))), (8, iV .u64 (IntKind.u64.wrap (t1238))), (14, iV .u64 (IntKind.u64.wrap (((BitVec.toNat (BitVec.ofInt 64 (IntKind.u64.wrap (a1 * 2 ^ (min (Int.toNat (IntKind.u64.wrap (t1238))) 64))) &&& BitVec.ofInt 64 (4294967295 : Int)) : Nat) : Int)))), (15, iV .u64 x1258), (17, iV .u64 (IntKind.u64.wrap ((IntKind.u64.wrap ((IntKind.u64.wrap ((IntKind.u64.wrap (((BitVec.toNat (BitVec.ofInt 64 (IntKind.u64.wrap (a0 * 2 ^ (min (Int.toNat (IntKind.u64.wrap (t1238))) 64))) ||| BitVec.ofInt 64 (Int.fdiv a1 (2 ^ (min (Int.toNat (IntKind.u64.wrap ((64 : Int) - (IntKind.u64.wrap (t1238))))) 64)))) : Nat) : Int))) * (4294967296 : Int))) + (Int.fdiv (IntKind.u64.wrap (a1 * 2 ^ (min (Int.toNat (IntKind.u64.wrap (t1238))) 64))) 4294967296))) - (IntKind.u64.wrap (x1258 * (IntKind.u64.wrap (a2 * 2 ^ (min (Int.toNat (IntKind.u64.wrap (t1238))) 64)))))))), (18, iV .u64 x1267)], [], 0⟩) (by kernel_rfl)) (And.intro rfl rfl))
          · obtain ⟨x1273, rfl⟩ : ∃ z, z = o1280 := ⟨_, rfl⟩
            rintro e s ⟨rfl, rfl⟩
            refine AWp.seq ?_
            obtain ⟨c1275, H⟩ := chk_of H
            refine reg hP hn hm [] [6, 7] [] ⟨[(6, iV .u64 (IntKind.u64.wrap ((IntKind.u64.wrap (x1258 * (4294967296 : Int))) + x1273))), (7, iV .u64 (Int.fdiv (IntKind.u64.wrap ((IntKind.u64.wrap ((IntKind.u64.wrap ((IntKind.u64.wrap ((IntKind.u64.wrap ((IntKind.u64.wrap ((IntKind.u64.wrap (((BitVec.toNat (BitVec.ofInt 64 (IntKind.u64.wrap (a0 * 2 ^ (min (Int.toNat (IntKind.u64.wrap (t1238))) 64))) ||| BitVec.ofInt 64 (Int.fdiv a1 (2 ^ (min (Int.toNat (IntKind.u64.wrap ((64 : Int) - (IntKind.u64.wrap (t1238))))) 64)))) : Nat) : Int))) * (4294967296 : Int))) + (Int.fdiv (IntKind.u64.wrap (a1 * 2 ^ (min (Int.toNat (IntKind.u64.wrap (t1238))) 64))) 4294967296))) - (IntKind.u64.wrap (x1258 * (IntKind.u64.wrap (a2 * 2 ^ (min (Int.toNat (IntKind.u64.wrap (t1238))) 64))))))) * (4294967296 : Int))) + (IntKind.u64.wrap (((BitVec.toNat (BitVec.ofInt 64 (IntKind.u64.wrap (a1 * 2 ^ (min (Int.toNat (IntKind.u64.wrap (t1238))) 64))) &&& BitVec.ofInt 64 (4294967295 : Int)) : Nat) : Int))))) - (IntKind.u64.wrap (x1273 * (IntKind.u64.wrap (a2 * 2 ^ (min (Int.toNat (IntKind.u64.wrap (t1238))) 64))))))) (2 ^ (min (Int.toNat (IntKind.u64.wrap (t1238))) 64))))], [], 0⟩ [0 ≤ (IntKind.u64.wrap (t1238))] (by kernel_rfl) ⟨by exact c1275, trivial⟩ ?_
            refine AWp.conv (inv := []) (vk := []) (e0 := []) (t := ⟨[(6, iV .u64 (IntKind.u64.wrap ((IntKind.u64.wrap (x1258 * (4294967296 : Int))) + x1273))), (7, iV .u64 (Int.fdiv (IntKind.u64.wrap ((IntKind.u64.wrap ((IntKind.u64.wrap ((IntKind.u64.wrap ((IntKind.u64.wrap ((IntKind.u64.wrap ((IntKind.u64.wrap (((BitVec.toNat (BitVec.ofInt 64 (IntKind.u64.wrap (a0 * 2 ^ (min (Int.toNat (IntKind.u64.wrap (t1238))) 64))) ||| BitVec.ofInt 64 (Int.fdiv a1 (2 ^ (min (Int.toNat (IntKind.u64.wrap ((64 : Int) - (IntKind.u64.wrap (t1238))))) 64)))) : Nat) : Int))) * (4294967296 : Int))) + (Int.fdiv (IntKind.u64.wrap (a1 * 2 ^ (min (Int.toNat (IntKind.u64.wrap (t1238))) 64))) 4294967296))) - (IntKind.u64.wrap (x1258 * (IntKind.u64.wrap (a2 * 2 ^ (min (Int.toNat (IntKind.u64.wrap (t1238))) 64))))))) * (4294967296 : Int))) + (IntKind.u64.wrap (((BitVec.toNat (BitVec.ofInt 64 (IntKind.u64.wrap (a1 * 2 ^ (min (Int.toNat (IntKind.u64.wrap (t1238))) 64))) &&& BitVec.ofInt 64 (4294967295 : Int)) : Nat) : Int))))) - (IntKind.u64.wrap (x1273 * (IntKind.u64.wrap (a2 * 2 ^ (min (Int.toNat (IntKind.u64.wrap (t1238))) 64))))))) (2 ^ (min (Int.toNat (IntKind.u64.wrap (t1238))) 64))))], [], 0⟩) (by kernel_rfl) ?_
            refine AWp.ret ?_
            obtain rfl := Option.some.inj H
            exact Exists.intro _ (And.intro (fun _ _ h => h) (And.intro (.inl rfl) (And.intro rfl (And.intro (by kernel_rfl) (by kernel_rfl)))))
def f_num_Wide_Ceil.f (a0 : Tnum_Wide) (a1 : Int) : Option (Int × Int) := ((if (a1 == (0 : Int)) = true then (some true) else (some (decide (a0.f0 ≥ a1)))) : Option (Bool)) >>= fun x1208 => if x1208 = true then (some (0, 5)) else ((f_bits_Div64.f a0.f0 a0.f1 a1) >>= fun t1286 => if (t1286.2 == (0 : Int)) = true then (some (t1286.1, 0)) else ((f_num_Add.f [t1286.1, 1]) >>= fun t1291 => some (t1291.1, t1291.2)))
theorem f_num_Wide_Ceil.ok (a0 : Tnum_Wide) (a1 : Int) (r : Int × Int) (H : f_num_Wide_Ceil.f a0 a1 = some r) : Pv.Fn Try.prog 71 [.agg (anum_Wide a0), iV .u64 a1] [] 0 (fun x o => x = .tup [iV .u64 r.1, iV .i64 r.2] ∧ o = []) := by
  unfold f_num_Wide_Ceil.f at H
  refine Fn.bodyK [] Try.func71 rfl rfl (fun Γ hP hn => ?_)
  have hm : Try.prog.follows .mixedOrders = true := by kernel_rfl
  replace hn : Γ.n = 33 := hn
  refine AWp.seq ?_
  refine reg hP hn hm [(0, .k 0)] [1, 2] [0] ⟨[(1, iV .u64 a1), (2, .ptr 0 0 0)], [(0, some (.box 130 (anum_Wide a0)))], 0⟩ [] (by kernel_rfl) trivial ?_
  refine AWp.seq ?_
  refine AWp.seq ?_
  obtain ⟨o1293, e1294, H⟩ := bind_of H
  refine AWp.mono (Q := fun e s => (match (generalizing := false) o1293 with | x1208 => e = .normal ∧ s = ⟨[(1, iV .u64 a1), (2, .ptr 1 0 0), (15, bV x1208)], [(1, some (.box 130 (anum_Wide a0)))], 0⟩)) (AWp.cv ?_) ?_
  · replace H := e1294; clear e1294
    rcases Bool.eq_false_or_eq_true (a1 == (0 : Int)) with c1207 | c1207
    · replace H := (ifT c1207).symm.trans H
      refine reg hP hn hm [(2, .b true)] [1, 2, 15] [0] ⟨[(1, iV .u64 a1), (2, .ptr 0 0 0), (15, bV true)], [(0, some (.box 130 (anum_Wide a0)))], 0⟩ [(a1 == (0 : Int)) = true] (by kernel_rfl) ⟨by exact c1207, trivial⟩ ?_
      obtain rfl := Option.some.inj H
      exact Exists.intro _ (And.intro (fun _ _ h => h.conv (inv := [(0, 1)]) (vk := []) (e0 := []) (t := ⟨[(1, iV .u64 a1), (2, .ptr 1 0 0), (15, bV true)], [(1, some (.box 130 (anum_Wide a0)))], 0⟩) (by kernel_rfl)) (And.intro rfl rfl))
    · replace H := (ifF c1207).symm.trans H
      refine reg hP hn hm [(2, .b false)] [1, 2, 15] [0] ⟨[(1, iV .u64 a1), (2, .ptr 0 0 0), (15, bV (decide (a0.f0 ≥ a1)))], [(0, some (.box 130 (anum_Wide a0)))], 0⟩ [(a1 == (0 : Int)) = false] (by kernel_rfl) ⟨by exact c1207, trivial⟩ ?_
      obtain rfl := Option.some.inj H
      exact Exists.intro _ (And.intro (fun _ _ h => h.conv (inv := [(0, 1)]) (vk := []) (e0 := []) (t := ⟨[(1, iV .u64 a1), (2, .ptr 1 0 0), (15, bV (decide (a0.f0 ≥ a1)))], [(1, some (.box 130 (anum_Wide a0)))], 0⟩) (by kernel_rfl)) (And.intro rfl rfl))
  · obtain ⟨x1208, rfl⟩ : ∃ z, z = o1293 := ⟨_, rfl⟩
    rintro e s ⟨rfl, rfl⟩
    refine AWp.cond x1208 rfl (fun c1209 => ?_) (fun c1209 => ?_)
    · replace H := (ifT c1209).symm.trans H
      refine AWp.seq ?_
      refine reg hP hn hm [] [4, 5] [] ⟨[(4, iV .u64 0), (5, iV .i64 5)], [], 0⟩ [] (by kernel_rfl) trivial ?_
      refine AWp.conv (inv := []) (vk := []) (e0 := []) (t := ⟨[(4, iV .u64 0), (5, iV .i64 5)], [], 0⟩) (by kernel_rfl) ?_
      refine AWp.ret ?_
      obtain rfl := Option.some.inj H
      exact Exists.intro _ (And.intro (fun _ _ h => h) (And.intro (.inl rfl) (And.intro rfl (And.intro (by kernel_rfl) (by kernel_rfl)))))
    · replace H := (ifF c1209).symm.trans H
      refine AWp.skip ?_
      refine AWp.seq ?_
      obtain ⟨t1286, e1287, H⟩ := bind_of H
      refine reg hP hn hm [(5, .call [] [] [] [] 0 (.tup [iV .u64 t1286.1, iV .u64 t1286.2]) [])] [6, 7] [] ⟨[(6, iV .u64 t1286.1), (7, iV .u64 t1286.2)], [], 0⟩ [Enters Try.prog 106, Pv.Fn Try.prog 106 [iV .u64 a0.f0, iV .u64 a0.f1, iV .u64 a1] [] 0 (fun r o => r = .tup [iV .u64 t1286.1, iV .u64 t1286.2] ∧ o = [])] (by kernel_rfl) ⟨by exact Try.call106, by exact f_bits_Div64.ok a0.f0 a0.f1 a1 t1286 e1287, trivial⟩ ?_
      refine AWp.seq ?_
      refine AWp.seq ?_
      refine reg hP hn hm [] [6, 26] [] ⟨[(6, iV .u64 t1286.1), (26, bV (t1286.2 == (0 : Int)))], [], 0⟩ [] (by kernel_rfl) trivial ?_
      refine AWp.cond (t1286.2 == (0 : Int)) rfl (fun c1288 => ?_) (fun c1288 => ?_)
      · replace H := (ifT c1288).symm.trans H
        refine AWp.seq ?_
        refine reg hP hn hm [] [4, 5] [] ⟨[(4, iV .u64 t1286.1), (5, iV .i64 0)], [], 0⟩ [] (by kernel_rfl) trivial ?_
        refine AWp.conv (inv := []) (vk := []) (e0 := []) (t := ⟨[(4, iV .u64 t1286.1), (5, iV .i64 0)], [], 0⟩) (by kernel_rfl) ?_
        refine AWp.ret ?_
        obtain rfl := Option.some.inj H
        exact Exists.intro _ (And.intro (fun _ _ h => h) (And.intro (.inl rfl) (And.intro rfl (And.intro (by kernel_rfl) (by kernel_rfl)))))
      · replace H := (ifF c1288).symm.trans H
        refine AWp.skip ?_
        refine AWp.seq ?_
        obtain ⟨t1291, e1292, H⟩ := bind_of H
        refine reg hP hn hm [(1, .app 2 ([t1286.1, 1].map (encInt .u64))), (2, .call [] [] [2] [] 0 (.tup [iV .u64 t1291.1, iV .i64 t1291.2]) [])] [4, 5] [] ⟨[(4, iV .u64 t1291.1), (5, iV .i64 t1291.2)], [], 0⟩ [[t1286.1, 1].map (encInt .u64) = [[iI .u64 t1286.1], [iI .u64 1]], Enters Try.prog 107, Pv.Fn Try.prog 107 [.im (.row ([t1286.1, 1].map (encInt .u64)))] [] 0 (fun r o => r = .tup [iV .u64 t1291.1, iV .i64 t1291.2] ∧ o = [])] (by kernel_rfl) ⟨by exact rfl, by exact Try.call107, by exact f_num_Add.ok [t1286.1, 1] t1291 e1292, trivial⟩ ?_
        refine AWp.conv (inv := []) (vk := []) (e0 := []) (t := ⟨[(4, iV .u64 t1291.1), (5, iV .i64 t1291.2)], [], 0⟩) (by kernel_rfl) ?_
        refine AWp.ret ?_
        obtain rfl := Option.some.inj H
        exact Exists.intro _ (And.intro (fun _ _ h => h) (And.intro (.inl rfl) (And.intro rfl (And.intro (by kernel_rfl) (by kernel_rfl)))))
end Go.Proofs.Yteogljahemehkaa.PvGC
