import Derived.Test.YticdbkmekkbiiaaProg
import Derived.Test.YticdbkmekkbiiaaPxMeldEmpty05
set_option linter.unusedVariables false
set_option linter.unnecessarySimpa false
set_option linter.unusedSimpArgs false
set_option maxRecDepth 10000
namespace Go.Proofs.Yticdbkmekkbiiaa.PvGB
open Go Go.Pv
def f_hist_tidy.l0 (t884 : List TBucket) (x897 : List TBucket) (x898 : Int) : Option (((List TBucket) × Int) ⊕ (List TBucket)) := if (decide (x898 < (t884.length : Int))) = true then ((at? t884 x898) >>= fun b903 => ((if (b903.f1 == (0 : Int)) = true then (some (.inr x897)) else (((if (decide ((x897.length : Int) > (0 : Int))) = true then ((at? x897 (IntKind.i64.wrap ((x897.length : Int) - (1 : Int)))) >>= fun b912 => some (b912.f0 == b903.f0)) else (some false)) : Option (Bool)) >>= fun x915 => ((if x915 = true then ((at? x897 (IntKind.i64.wrap ((x897.length : Int) - (1 : Int)))) >>= fun b947 => (f_num_Add.f [b947.f1, b903.f1]) >>= fun t950 => if (t950.2 != (0 : Int)) = true then (some (.inl ([], t950.2))) else (some (.inr (x897.set (Int.toNat (IntKind.i64.wrap ((x897.length : Int) - (1 : Int)))) (⟨b947.f0, t950.1⟩ : TBucket))))) else ((chk ((x897.length + [b903].length) * 16 ≤ 140737488355328)) >>= fun _ => some (.inr (x897 ++ [b903])))) : Option (((List TBucket) × Int) ⊕ (List TBucket))) >>= fun oo => match oo with | .inl rr => (some (.inl rr)) | .inr x955 => (some (.inr x955)))) : Option (((List TBucket) × Int) ⊕ (List TBucket))) >>= fun oo => match oo with | .inl rr => (some (.inl rr)) | .inr x956 => (f_hist_tidy.l0 t884 x956 (IntKind.i64.wrap (x898 + (1 : Int))))) else (some (.inr x897))
partial_fixpoint
def f_hist_tidy.f (a0 : List TBucket) : Option ((List TBucket) × Int) := (f_slices_Clone_api_Bucket.f a0) >>= fun t261 => (f_slices_SortStableFunc_api_Bucket_hist_tidy_1.f t261) >>= fun t884 => (f_hist_tidy.l0 t884 [] 0) >>= fun oo => match oo with | .inl rr => (some rr) | .inr x957 => (some (x957, 0))
theorem f_hist_tidy.ok (a0 : List TBucket) (r : (List TBucket) × Int) (H : f_hist_tidy.f a0 = some r) : Pv.Fn Try.prog 56 [.im (.row (a0.map eBucket))] [] 0 (fun x o => x = .tup [.own 0, iV .i64 r.2] ∧ o = [(0, some (.row 2 54 (r.1.map eBucket)))]) := by
  unfold f_hist_tidy.f at H
  refine Fn.bodyK [0] Try.func56 rfl rfl (fun Γ hP hn => ?_)
  have hm : Try.prog.follows .mixedOrders = true := by kernel_rfl
  replace hn : Γ.n = 68 := hn
  refine AWp.seq ?_
  refine reg hP hn hm [] [0] [] ⟨[(0, .im (.row (a0.map eBucket)))], [], 0⟩ [] (by kernel_rfl) trivial ?_
  refine AWp.seq ?_
  refine reg hP hn hm [] [0, 4] [] ⟨[(0, .im (.row (a0.map eBucket))), (4, .none0)], [], 0⟩ [] (by kernel_rfl) trivial ?_
  refine AWp.seq ?_
  obtain ⟨t261, e262, H⟩ := bind_of H
  refine reg hP hn hm [(1, .call [] [(0, 0)] [] [0] 0 (.own 0) [(0, some (.row 2 54 (t261.map eBucket)))])] [0, 4] [0] ⟨[(0, .own 0), (4, .none0)], [(0, some (.row 2 54 (t261.map eBucket)))], 0⟩ [Enters Try.prog 53, Pv.Fn Try.prog 53 [.im (.row (a0.map eBucket))] [] 0 (fun r o => r = .own 0 ∧ o = [(0, some (.row 2 54 (t261.map eBucket)))])] (by kernel_rfl) ⟨by exact Try.call53, by exact f_slices_Clone_api_Bucket.ok a0 t261 e262, trivial⟩ ?_
  refine AWp.seq ?_
  obtain ⟨t884, e885, H⟩ := bind_of H
  refine reg hP hn hm [(1, .call [(0, 0)] [(0, 0)] [] [] 1 (.tup []) [(0, some (.row 2 54 (t884.map eBucket)))])] [0, 4] [0] ⟨[(0, .own 0), (4, .none0)], [(0, some (.row 2 54 (t884.map eBucket)))], 0⟩ [Enters Try.prog 69, Pv.Fn Try.prog 69 [.own 0, .im (.sc (.func (.func 70) #[] #[]))] [(0, some (.row 2 54 (t261.map eBucket)))] 1 (fun r o => r = .tup [] ∧ o = [(0, some (.row 2 54 (t884.map eBucket)))])] (by kernel_rfl) ⟨by exact Try.call69, by exact f_slices_SortStableFunc_api_Bucket_hist_tidy_1.ok t261 t884 e885, trivial⟩ ?_
  refine AWp.seq ?_
  refine AWp.seq ?_
  refine reg hP hn hm [(1, .any (iV .i64 (t884.length : Int)))] [4, 14, 15, 16] [0] ⟨[(4, .none0), (14, .own 0), (15, iV .i64 (t884.length : Int)), (16, iV .i64 0)], [(0, some (.row 2 54 (t884.map eBucket)))], 0⟩ [((t884.map eBucket).length : Int) = (t884.length : Int)] (by kernel_rfl) ⟨by rw [len_map], trivial⟩ ?_
  refine AWp.block ?_
  obtain ⟨o958, e959, H⟩ := bind_of H
  refine AWp.loop (LWp.conv (inv := [(0, 7)]) (vk := []) (e0 := [6]) (t := ⟨[(4, .own 6), (14, .own 7), (15, iV .i64 (t884.length : Int)), (16, iV .i64 0)], [(6, some (.row 2 54 ([].map eBucket))), (7, some (.row 2 54 (t884.map eBucket)))], 0⟩) (by kernel_rfl) ?_)
  refine LWp.mono (Q := fun e s => (match (generalizing := false) o958 with | .inl rr => e = .ret ∧ s.floor = 0 ∧ resOf Try.prog Try.f56 s = some (.tup [.own 0, iV .i64 rr.2]) ∧ ([(0, s.obj 0)] : List (Nat × Option MObj)) = [(0, some (.row 2 54 (rr.1.map eBucket)))] | .inr x957 => e = .exit 0 ∧ s = ⟨[(4, .own 19)], [(19, some (.row 2 54 (x957.map eBucket)))], 0⟩)) (LWp.cv (withBody (fun body hbody => ?_))) ?_
  · refine f_hist_tidy.l0.partial_correctness t884 (motive := fun x897 x898 o958 => LWp Γ body (fun e s => ∃ t, Cv Γ s t ∧ (match (generalizing := false) o958 with | .inl rr => e = .ret ∧ t.floor = 0 ∧ resOf Try.prog Try.f56 t = some (.tup [.own 0, iV .i64 rr.2]) ∧ ([(0, t.obj 0)] : List (Nat × Option MObj)) = [(0, some (.row 2 54 (rr.1.map eBucket)))] | .inr x957 => e = .exit 0 ∧ t = ⟨[(4, .own 19)], [(19, some (.row 2 54 (x957.map eBucket)))], 0⟩)) ⟨[(4, .own 6), (14, .own 7), (15, iV .i64 (t884.length : Int)), (16, iV .i64 x898)], [(6, some (.row 2 54 (x897.map eBucket))), (7, some (.row 2 54 (t884.map eBucket)))], 0⟩) ?_ _ _ _ e959
    clear H e959 o958; intro self ih x897 x898 o958 H
    subst hbody
    refine LWp.round ?_
    refine AWp.seq ?_
    refine reg hP hn hm [] [4, 14, 15, 16, 17] [6, 7] ⟨[(4, .own 6), (14, .own 7), (15, iV .i64 (t884.length : Int)), (16, iV .i64 x898), (17, bV (decide (x898 < (t884.length : Int))))], [(6, some (.row 2 54 (x897.map eBucket))), (7, some (.row 2 54 (t884.map eBucket)))], 0⟩ [] (by kernel_rfl) trivial ?_
    refine AWp.seq ?_
    refine AWp.cond (decide (x898 < (t884.length : Int))) rfl (fun c899 => ?_) (fun c899 => ?_)
    · replace H := (ifT c899).symm.trans H
      refine AWp.skip ?_
      refine AWp.seq ?_
      refine AWp.block ?_
      refine AWp.seq ?_
      obtain ⟨b903, p904, q905, H⟩ := at_of H
      refine reg hP hn hm [(1, .c (eBucket b903)), (2, .k 8)] [4, 6, 14, 15, 16] [6, 7, 8] ⟨[(4, .own 6), (6, .ptr 8 0 0), (14, .own 7), (15, iV .i64 (t884.length : Int)), (16, iV .i64 x898)], [(6, some (.row 2 54 (x897.map eBucket))), (7, some (.row 2 54 (t884.map eBucket))), (8, some (.box 54 (aBucket b903)))], 0⟩ [0 ≤ x898, x898 < (((t884.map eBucket).length : Nat) : Int), (t884.map eBucket)[(Int.toNat (x898))]? = some (eBucket b903)] (by kernel_rfl) ⟨by exact p904, by exact el_lt eBucket p904 q905, by exact el_map eBucket q905, trivial⟩ ?_
      refine AWp.seq ?_
      refine reg hP hn hm [(1, .any (iV .i64 (x897.length : Int)))] [4, 6, 7, 14, 15, 16] [6, 7, 8] ⟨[(4, .own 6), (6, .ptr 8 0 0), (7, iV .i64 (x897.length : Int)), (14, .own 7), (15, iV .i64 (t884.length : Int)), (16, iV .i64 x898)], [(6, some (.row 2 54 (x897.map eBucket))), (7, some (.row 2 54 (t884.map eBucket))), (8, some (.box 54 (aBucket b903)))], 0⟩ [((x897.map eBucket).length : Int) = (x897.length : Int)] (by kernel_rfl) ⟨by rw [len_map], trivial⟩ ?_
      refine AWp.block ?_
      refine AWp.seq ?_
      refine reg hP hn hm [] [4, 6, 7, 14, 15, 16, 26] [6, 7, 8] ⟨[(4, .own 6), (6, .ptr 8 0 0), (7, iV .i64 (x897.length : Int)), (14, .own 7), (15, iV .i64 (t884.length : Int)), (16, iV .i64 x898), (26, bV (b903.f1 == (0 : Int)))], [(6, some (.row 2 54 (x897.map eBucket))), (7, some (.row 2 54 (t884.map eBucket))), (8, some (.box 54 (aBucket b903)))], 0⟩ [] (by kernel_rfl) trivial ?_
      obtain ⟨o960, e961, H⟩ := bind_of H
      refine AWp.mono (Q := fun e s => (match (generalizing := false) o960 with | .inl rr => e = .ret ∧ s.floor = 0 ∧ resOf Try.prog Try.f56 s = some (.tup [.own 0, iV .i64 rr.2]) ∧ ([(0, s.obj 0)] : List (Nat × Option MObj)) = [(0, some (.row 2 54 (rr.1.map eBucket)))] | .inr x956 => e = .normal ∧ s = ⟨[(4, .own 17), (14, .own 18), (15, iV .i64 (t884.length : Int)), (16, iV .i64 x898)], [(17, some (.row 2 54 (x956.map eBucket))), (18, some (.row 2 54 (t884.map eBucket)))], 0⟩)) (AWp.cv ?_) ?_
      · replace H := e961; clear e961
        refine AWp.cond (b903.f1 == (0 : Int)) rfl (fun c906 => ?_) (fun c906 => ?_)
        · replace H := (ifT c906).symm.trans H
          refine AWp.skip ?_
          obtain rfl := Option.some.inj H
          exact Exists.intro _ (And.intro (fun _ _ h => h.conv (inv := [(6, 17), (7, 18)]) (vk := []) (e0 := []) (t := ⟨[(4, .own 17), (14, .own 18), (15, iV .i64 (t884.length : Int)), (16, iV .i64 x898)], [(17, some (.row 2 54 (x897.map eBucket))), (18, some (.row 2 54 (t884.map eBucket)))], 0⟩) (by kernel_rfl)) (And.intro rfl rfl))
        · replace H := (ifF c906).symm.trans H
          refine AWp.seq ?_
          obtain ⟨o962, e963, H⟩ := bind_of H
          refine AWp.mono (Q := fun e s => (match (generalizing := false) o962 with | x915 => e = .normal ∧ s = ⟨[(4, .own 9), (6, .ptr 10 0 0), (7, iV .i64 (x897.length : Int)), (14, .own 11), (15, iV .i64 (t884.length : Int)), (16, iV .i64 x898), (30, bV x915)], [(9, some (.row 2 54 (x897.map eBucket))), (10, some (.box 54 (aBucket b903))), (11, some (.row 2 54 (t884.map eBucket)))], 0⟩)) (AWp.cv ?_) ?_
          · replace H := e963; clear e963
            rcases Bool.eq_false_or_eq_true (decide ((x897.length : Int) > (0 : Int))) with c911 | c911
            · replace H := (ifT c911).symm.trans H
              obtain ⟨b912, p913, q914, H⟩ := at_of H
              refine reg hP hn hm [(2, .b true), (8, .c (eBucket b912))] [4, 6, 7, 14, 15, 16, 30, 34, 35, 36, 37, 38, 39, 40, 41, 42] [6, 7, 8] ⟨[(4, .own 6), (6, .ptr 8 0 0), (7, iV .i64 (x897.length : Int)), (14, .own 7), (15, iV .i64 (t884.length : Int)), (16, iV .i64 x898), (30, bV (b912.f0 == b903.f0)), (34, .own 6), (35, iV .i64 (x897.length : Int)), (36, iV .i64 (IntKind.i64.wrap ((x897.length : Int) - (1 : Int)))), (37, .ptr 6 (Int.toNat (IntKind.i64.wrap ((x897.length : Int) - (1 : Int)))) 0), (38, .ptr 6 (Int.toNat (IntKind.i64.wrap ((x897.length : Int) - (1 : Int)))) 0), (39, iV .i64 b912.f0), (40, .ptr 8 0 0), (41, iV .i64 b903.f0), (42, bV (b912.f0 == b903.f0))], [(6, some (.row 2 54 (x897.map eBucket))), (7, some (.row 2 54 (t884.map eBucket))), (8, some (.box 54 (aBucket b903)))], 0⟩ [(decide ((x897.length : Int) > (0 : Int))) = true, 0 ≤ (IntKind.i64.wrap ((x897.length : Int) - (1 : Int))), IntKind.i64.wrap ((x897.length : Int) - (1 : Int)) < (((x897.map eBucket).length : Nat) : Int), (x897.map eBucket)[(Int.toNat (IntKind.i64.wrap ((x897.length : Int) - (1 : Int))))]? = some (eBucket b912)] (by kernel_rfl) ⟨by exact c911, by exact p913, by exact el_lt eBucket p913 q914, by exact el_map eBucket q914, trivial⟩ ?_
              obtain rfl := Option.some.inj H
              exact Exists.intro _ (And.intro (fun _ _ h => h.conv (inv := [(6, 9), (8, 10), (7, 11)]) (vk := []) (e0 := []) (t := ⟨[(4, .own 9), (6, .ptr 10 0 0), (7, iV .i64 (x897.length : Int)), (14, .own 11), (15, iV .i64 (t884.length : Int)), (16, iV .i64 x898), (30, bV (b912.f0 == b903.f0))], [(9, some (.row 2 54 (x897.map eBucket))), (10, some (.box 54 (aBucket b903))), (11, some (.row 2 54 (t884.map eBucket)))], 0⟩) (by kernel_rfl)) (And.intro rfl rfl))
            · replace H := (ifF c911).symm.trans H
              refine reg hP hn hm [(2, .b false)] [4, 6, 7, 14, 15, 16, 30] [6, 7, 8] ⟨[(4, .own 6), (6, .ptr 8 0 0), (7, iV .i64 (x897.length : Int)), (14, .own 7), (15, iV .i64 (t884.length : Int)), (16, iV .i64 x898), (30, bV false)], [(6, some (.row 2 54 (x897.map eBucket))), (7, some (.row 2 54 (t884.map eBucket))), (8, some (.box 54 (aBucket b903)))], 0⟩ [(decide ((x897.length : Int) > (0 : Int))) = false] (by kernel_rfl) ⟨by exact c911, trivial⟩ ?_
              obtain rfl := Option.some.inj H
              exact Exists.intro _ (And.intro (fun _ _ h => h.conv (inv := [(6, 9), (8, 10), (7, 11)]) (vk := []) (e0 := []) (t := ⟨[(4, .own 9), (6, .ptr 10 0 0), (7, iV .i64 (x897.length : Int)), (14, .own 11), (15, iV .i64 (t884.length : Int)), (16, iV .i64 x898), (30, bV false)], [(9, some (.row 2 54 (x897.map eBucket))), (10, some (.box 54 (aBucket b903))), (11, some (.row 2 54 (t884.map eBucket)))], 0⟩) (by kernel_rfl)) (And.intro rfl rfl))
          · obtain ⟨x915, rfl⟩ : ∃ z, z = o962 := ⟨_, rfl⟩
            rintro e s ⟨rfl, rfl⟩
            obtain ⟨o964, e965, H⟩ := bind_of H
            refine AWp.mono (Q := fun e s => (match (generalizing := false) o964 with | .inl rr => e = .ret ∧ s.floor = 0 ∧ resOf Try.prog Try.f56 s = some (.tup [.own 0, iV .i64 rr.2]) ∧ ([(0, s.obj 0)] : List (Nat × Option MObj)) = [(0, some (.row 2 54 (rr.1.map eBucket)))] | .inr x955 => e = .normal ∧ s = ⟨[(4, .own 15), (14, .own 16), (15, iV .i64 (t884.length : Int)), (16, iV .i64 x898)], [(15, some (.row 2 54 (x955.map eBucket))), (16, some (.row 2 54 (t884.map eBucket)))], 0⟩)) (AWp.cv ?_) ?_
            · replace H := e965; clear e965
              refine AWp.cond x915 rfl (fun c916 => ?_) (fun c916 => ?_)
              · replace H := (ifT c916).symm.trans H
                refine AWp.seq ?_
                obtain ⟨b947, p948, q949, H⟩ := at_of H
                obtain ⟨t950, e951, H⟩ := bind_of H
                refine reg hP hn hm [(5, .c (eBucket b947)), (8, .app 12 ([b947.f1, b903.f1].map (encInt .u64))), (9, .call [] [] [12] [] 0 (.tup [iV .u64 t950.1, iV .i64 t950.2]) [])] [4, 7, 8, 9, 14, 15, 16] [9, 11] ⟨[(4, .own 9), (7, iV .i64 (x897.length : Int)), (8, iV .u64 t950.1), (9, iV .i64 t950.2), (14, .own 11), (15, iV .i64 (t884.length : Int)), (16, iV .i64 x898)], [(9, some (.row 2 54 (x897.map eBucket))), (11, some (.row 2 54 (t884.map eBucket)))], 0⟩ [0 ≤ (IntKind.i64.wrap ((x897.length : Int) - (1 : Int))), IntKind.i64.wrap ((x897.length : Int) - (1 : Int)) < (((x897.map eBucket).length : Nat) : Int), (x897.map eBucket)[(Int.toNat (IntKind.i64.wrap ((x897.length : Int) - (1 : Int))))]? = some (eBucket b947), [b947.f1, b903.f1].map (encInt .u64) = [[iI .u64 b947.f1], [iI .u64 b903.f1]], Enters Try.prog 45, Pv.Fn Try.prog 45 [.im (.row ([b947.f1, b903.f1].map (encInt .u64)))] [] 0 (fun r o => r = .tup [iV .u64 t950.1, iV .i64 t950.2] ∧ o = [])] (by kernel_rfl) ⟨by exact p948, by exact el_lt eBucket p948 q949, by exact el_map eBucket q949, by exact rfl, by exact Try.call45, by exact f_num_Add.ok [b947.f1, b903.f1] t950 e951, trivial⟩ ?_
                refine AWp.seq ?_
                refine AWp.seq ?_
                refine reg hP hn hm [] [4, 7, 8, 9, 14, 15, 16, 58] [9, 11] ⟨[(4, .own 9), (7, iV .i64 (x897.length : Int)), (8, iV .u64 t950.1), (9, iV .i64 t950.2), (14, .own 11), (15, iV .i64 (t884.length : Int)), (16, iV .i64 x898), (58, bV (t950.2 != (0 : Int)))], [(9, some (.row 2 54 (x897.map eBucket))), (11, some (.row 2 54 (t884.map eBucket)))], 0⟩ [] (by kernel_rfl) trivial ?_
                refine AWp.cond (t950.2 != (0 : Int)) rfl (fun c952 => ?_) (fun c952 => ?_)
                · replace H := (ifT c952).symm.trans H
                  refine AWp.seq ?_
                  refine reg hP hn hm [] [2, 3] [] ⟨[(2, .none0), (3, iV .i64 t950.2)], [], 0⟩ [] (by kernel_rfl) trivial ?_
                  refine AWp.conv (inv := []) (vk := []) (e0 := [0]) (t := ⟨[(2, .own 0), (3, iV .i64 t950.2)], [(0, some (.row 2 54 ([].map eBucket)))], 0⟩) (by kernel_rfl) ?_
                  refine AWp.ret ?_
                  obtain rfl := Option.some.inj H
                  exact Exists.intro _ (And.intro (fun _ _ h => h) (And.intro rfl (And.intro rfl (And.intro (by kernel_rfl) (by kernel_rfl)))))
                · replace H := (ifF c952).symm.trans H
                  refine AWp.skip ?_
                  refine reg hP hn hm [(6, .put (eBucket b947) ((x897.set (Int.toNat (IntKind.i64.wrap ((x897.length : Int) - (1 : Int)))) (⟨b947.f0, t950.1⟩ : TBucket)).map eBucket))] [4, 14, 15, 16] [9, 11] ⟨[(4, .own 9), (14, .own 11), (15, iV .i64 (t884.length : Int)), (16, iV .i64 x898)], [(9, some (.row 2 54 ((x897.set (Int.toNat (IntKind.i64.wrap ((x897.length : Int) - (1 : Int)))) (⟨b947.f0, t950.1⟩ : TBucket)).map eBucket))), (11, some (.row 2 54 (t884.map eBucket)))], 0⟩ [0 ≤ (IntKind.i64.wrap ((x897.length : Int) - (1 : Int))), IntKind.i64.wrap ((x897.length : Int) - (1 : Int)) < (((x897.map eBucket).length : Nat) : Int), (x897.map eBucket)[(Int.toNat (IntKind.i64.wrap ((x897.length : Int) - (1 : Int))))]? = some (eBucket b947), (x897.set (Int.toNat (IntKind.i64.wrap ((x897.length : Int) - (1 : Int)))) (⟨b947.f0, t950.1⟩ : TBucket)).map eBucket = (x897.map eBucket).set (Int.toNat (IntKind.i64.wrap ((x897.length : Int) - (1 : Int)))) (splice (eBucket b947) 1 [iI .u64 t950.1])] (by kernel_rfl) ⟨by exact p948, by exact el_lt eBucket p948 q949, by exact el_map eBucket q949, by exact set1 _ _ _ _, trivial⟩ ?_
                  obtain rfl := Option.some.inj H
                  exact Exists.intro _ (And.intro (fun _ _ h => h.conv (inv := [(9, 15), (11, 16)]) (vk := []) (e0 := []) (t := ⟨[(4, .own 15), (14, .own 16), (15, iV .i64 (t884.length : Int)), (16, iV .i64 x898)], [(15, some (.row 2 54 ((x897.set (Int.toNat (IntKind.i64.wrap ((x897.length : Int) - (1 : Int)))) (⟨b947.f0, t950.1⟩ : TBucket)).map eBucket))), (16, some (.row 2 54 (t884.map eBucket)))], 0⟩) (by kernel_rfl)) (And.intro rfl rfl))
              · replace H := (ifF c916).symm.trans H
                obtain ⟨c954, H⟩ := chk_of H
                refine reg hP hn hm [(2, .app 13 ([b903].map eBucket)), (3, .app 14 ((x897 ++ [b903]).map eBucket))] [4, 14, 15, 16] [11, 14] ⟨[(4, .own 14), (14, .own 11), (15, iV .i64 (t884.length : Int)), (16, iV .i64 x898)], [(11, some (.row 2 54 (t884.map eBucket))), (14, some (.row 2 54 ((x897 ++ [b903]).map eBucket)))], 0⟩ [[b903].map eBucket = [[iI .i64 b903.f0, iI .u64 b903.f1]], (x897 ++ [b903]).map eBucket = (x897.map eBucket) ++ ([b903].map eBucket), ∀ c ∈ ([b903].map eBucket), c.length = 2, ∀ c ∈ ([b903].map eBucket), leaves (c.map .im) = true, ((x897.map eBucket).length + ([b903].map eBucket).length) * 16 ≤ 140737488355328] (by kernel_rfl) ⟨by exact rfl, by simp, by exact all_len _ _ _ (fun _ => rfl), by exact all_leaf _ _ (fun _ => rfl), by simpa using c954, trivial⟩ ?_
                obtain rfl := Option.some.inj H
                exact Exists.intro _ (And.intro (fun _ _ h => h.conv (inv := [(14, 15), (11, 16)]) (vk := []) (e0 := []) (t := ⟨[(4, .own 15), (14, .own 16), (15, iV .i64 (t884.length : Int)), (16, iV .i64 x898)], [(15, some (.row 2 54 ((x897 ++ [b903]).map eBucket))), (16, some (.row 2 54 (t884.map eBucket)))], 0⟩) (by kernel_rfl)) (And.intro rfl rfl))
            · rcases o964 with rr | x955
              · skip
                rintro e s ⟨rfl, hfl, hres⟩
                obtain rfl := Option.some.inj H
                exact Exists.intro _ (And.intro (fun _ _ h => h) (And.intro rfl (And.intro hfl hres)))
              · skip
                rintro e s ⟨rfl, rfl⟩
                obtain rfl := Option.some.inj H
                exact Exists.intro _ (And.intro (fun _ _ h => h.conv (inv := [(15, 17), (16, 18)]) (vk := []) (e0 := []) (t := ⟨[(4, .own 17), (14, .own 18), (15, iV .i64 (t884.length : Int)), (16, iV .i64 x898)], [(17, some (.row 2 54 (x955.map eBucket))), (18, some (.row 2 54 (t884.map eBucket)))], 0⟩) (by kernel_rfl)) (And.intro rfl rfl))
      · rcases o960 with rr | x956
        · skip
          rintro e s ⟨rfl, hfl, hres⟩
          obtain rfl := Option.some.inj H
          exact Exists.intro _ (And.intro (fun _ _ h => h) (And.intro rfl (And.intro hfl hres)))
        · skip
          rintro e s ⟨rfl, rfl⟩
          refine reg hP hn hm [] [4, 14, 15, 16] [17, 18] ⟨[(4, .own 17), (14, .own 18), (15, iV .i64 (t884.length : Int)), (16, iV .i64 (IntKind.i64.wrap (x898 + (1 : Int))))], [(17, some (.row 2 54 (x956.map eBucket))), (18, some (.row 2 54 (t884.map eBucket)))], 0⟩ [] (by kernel_rfl) trivial ?_
          exact LWp.conv (inv := [(17, 6), (18, 7)]) (vk := []) (e0 := []) (t := ⟨[(4, .own 6), (14, .own 7), (15, iV .i64 (t884.length : Int)), (16, iV .i64 (IntKind.i64.wrap (x898 + (1 : Int))))], [(6, some (.row 2 54 (x956.map eBucket))), (7, some (.row 2 54 (t884.map eBucket)))], 0⟩) (by kernel_rfl) (ih _ _ _ H)
    · replace H := (ifF c899).symm.trans H
      refine AWp.exit ?_
      obtain rfl := Option.some.inj H
      exact Exists.intro _ (And.intro (fun _ _ h => h.conv (inv := [(6, 19)]) (vk := []) (e0 := []) (t := ⟨[(4, .own 19)], [(19, some (.row 2 54 (x897.map eBucket)))], 0⟩) (by kernel_rfl)) (And.intro rfl rfl))
  · rcases o958 with rr | x957
    · skip
      rintro e s ⟨rfl, hfl, hres⟩
      obtain rfl := Option.some.inj H
      exact Exists.intro _ (And.intro (fun _ _ h => h) (And.intro (.inl rfl) (And.intro hfl hres)))
    · skip
      rintro e s ⟨rfl, rfl⟩
      refine AWp.seq ?_
      refine reg hP hn hm [] [2, 3] [19] ⟨[(2, .own 19), (3, iV .i64 0)], [(19, some (.row 2 54 (x957.map eBucket)))], 0⟩ [] (by kernel_rfl) trivial ?_
      refine AWp.conv (inv := [(19, 0)]) (vk := []) (e0 := []) (t := ⟨[(2, .own 0), (3, iV .i64 0)], [(0, some (.row 2 54 (x957.map eBucket)))], 0⟩) (by kernel_rfl) ?_
      refine AWp.ret ?_
      obtain rfl := Option.some.inj H
      exact Exists.intro _ (And.intro (fun _ _ h => h) (And.intro (.inl rfl) (And.intro rfl (And.intro (by kernel_rfl) (by kernel_rfl)))))
def f_hist_total.l1 (a0 : List (List TBucket)) (b1015 : List TBucket) (x1010 : Int) (x1030 : Int) (x1031 : Int) : Option ((Int × Int) ⊕ Int) := if (decide (x1031 < (b1015.length : Int))) = true then ((at? b1015 x1031) >>= fun b1036 => (f_num_Add.f [x1030, b1036.f1]) >>= fun t1041 => if (t1041.2 != (0 : Int)) = true then (some (.inl (0, t1041.2))) else (f_hist_total.l1 a0 b1015 x1010 t1041.1 (IntKind.i64.wrap (x1031 + (1 : Int))))) else (some (.inr x1030))
partial_fixpoint
def f_hist_total.l0 (a0 : List (List TBucket)) (x1009 : Int) (x1010 : Int) : Option ((Int × Int) ⊕ Int) := if (decide (x1010 < (a0.length : Int))) = true then ((at? a0 x1010) >>= fun b1015 => (f_hist_total.l1 a0 b1015 x1010 x1009 0) >>= fun oo => match oo with | .inl rr => (some (.inl rr)) | .inr x1044 => (f_hist_total.l0 a0 x1044 (IntKind.i64.wrap (x1010 + (1 : Int))))) else (some (.inr x1009))
partial_fixpoint
def f_hist_total.f (a0 : List (List TBucket)) : Option (Int × Int) := (f_hist_total.l0 a0 0 0) >>= fun oo => match oo with | .inl rr => (some rr) | .inr x1045 => (some (x1045, 0))
theorem f_hist_total.ok (a0 : List (List TBucket)) (r : Int × Int) (H : f_hist_total.f a0 = some r) : Pv.Fn Try.prog 38 [.im (.row (a0.map (encRow eBucket)))] [] 0 (fun x o => x = .tup [iV .u64 r.1, iV .i64 r.2] ∧ o = []) := by
  unfold f_hist_total.f at H
  refine Fn.bodyK [] Try.func38 rfl rfl (fun Γ hP hn => ?_)
  have hm : Try.prog.follows .mixedOrders = true := by kernel_rfl
  replace hn : Γ.n = 36 := hn
  refine AWp.seq ?_
  refine reg hP hn hm [] [0] [] ⟨[(0, .im (.row (a0.map (encRow eBucket))))], [], 0⟩ [] (by kernel_rfl) trivial ?_
  refine AWp.seq ?_
  refine reg hP hn hm [] [0, 4] [] ⟨[(0, .im (.row (a0.map (encRow eBucket)))), (4, iV .u64 0)], [], 0⟩ [] (by kernel_rfl) trivial ?_
  refine AWp.seq ?_
  refine AWp.seq ?_
  refine reg hP hn hm [(1, .any (iV .i64 (a0.length : Int)))] [4, 10, 11, 12] [] ⟨[(4, iV .u64 0), (10, .im (.row (a0.map (encRow eBucket)))), (11, iV .i64 (a0.length : Int)), (12, iV .i64 0)], [], 0⟩ [((a0.map (encRow eBucket)).length : Int) = (a0.length : Int)] (by kernel_rfl) ⟨by rw [len_map], trivial⟩ ?_
  refine AWp.block ?_
  obtain ⟨o1046, e1047, H⟩ := bind_of H
  refine AWp.loop (LWp.conv (inv := []) (vk := []) (e0 := []) (t := ⟨[(4, iV .u64 0), (10, .im (.row (a0.map (encRow eBucket)))), (11, iV .i64 (a0.length : Int)), (12, iV .i64 0)], [], 0⟩) (by kernel_rfl) ?_)
  refine LWp.mono (Q := fun e s => (match (generalizing := false) o1046 with | .inl rr => e = .ret ∧ s.floor = 0 ∧ resOf Try.prog Try.f38 s = some (.tup [iV .u64 rr.1, iV .i64 rr.2]) ∧ ([] : List (Nat × Option MObj)) = [] | .inr x1045 => e = .exit 0 ∧ s = ⟨[(4, iV .u64 x1045)], [], 0⟩)) (LWp.cv (withBody (fun body hbody => ?_))) ?_
  · refine f_hist_total.l0.partial_correctness a0 (motive := fun x1009 x1010 o1046 => LWp Γ body (fun e s => ∃ t, Cv Γ s t ∧ (match (generalizing := false) o1046 with | .inl rr => e = .ret ∧ t.floor = 0 ∧ resOf Try.prog Try.f38 t = some (.tup [iV .u64 rr.1, iV .i64 rr.2]) ∧ ([] : List (Nat × Option MObj)) = [] | .inr x1045 => e = .exit 0 ∧ t = ⟨[(4, iV .u64 x1045)], [], 0⟩)) ⟨[(4, iV .u64 x1009), (10, .im (.row (a0.map (encRow eBucket)))), (11, iV .i64 (a0.length : Int)), (12, iV .i64 x1010)], [], 0⟩) ?_ _ _ _ e1047
    clear H e1047 o1046; intro self ih x1009 x1010 o1046 H
    subst hbody
    refine LWp.round ?_
    refine AWp.seq ?_
    refine reg hP hn hm [] [4, 10, 11, 12, 13] [] ⟨[(4, iV .u64 x1009), (10, .im (.row (a0.map (encRow eBucket)))), (11, iV .i64 (a0.length : Int)), (12, iV .i64 x1010), (13, bV (decide (x1010 < (a0.length : Int))))], [], 0⟩ [] (by kernel_rfl) trivial ?_
    refine AWp.seq ?_
    refine AWp.cond (decide (x1010 < (a0.length : Int))) rfl (fun c1011 => ?_) (fun c1011 => ?_)
    · replace H := (ifT c1011).symm.trans H
      refine AWp.skip ?_
      refine AWp.seq ?_
      refine AWp.block ?_
      refine AWp.seq ?_
      obtain ⟨b1015, p1016, q1017, H⟩ := at_of H
      refine reg hP hn hm [(0, .c ((encRow eBucket) b1015))] [4, 6, 10, 11, 12] [] ⟨[(4, iV .u64 x1009), (6, .im (.row (b1015.map eBucket))), (10, .im (.row (a0.map (encRow eBucket)))), (11, iV .i64 (a0.length : Int)), (12, iV .i64 x1010)], [], 0⟩ [0 ≤ x1010, (a0.map (encRow eBucket))[(Int.toNat (x1010))]? = some ((encRow eBucket) b1015)] (by kernel_rfl) ⟨by exact p1016, by exact el_map (encRow eBucket) q1017, trivial⟩ ?_
      refine AWp.seq ?_
      refine reg hP hn hm [(1, .any (iV .i64 (b1015.length : Int)))] [4, 10, 11, 12, 16, 17, 18] [] ⟨[(4, iV .u64 x1009), (10, .im (.row (a0.map (encRow eBucket)))), (11, iV .i64 (a0.length : Int)), (12, iV .i64 x1010), (16, .im (.row (b1015.map eBucket))), (17, iV .i64 (b1015.length : Int)), (18, iV .i64 0)], [], 0⟩ [((b1015.map eBucket).length : Int) = (b1015.length : Int)] (by kernel_rfl) ⟨by rw [len_map], trivial⟩ ?_
      refine AWp.block ?_
      obtain ⟨o1048, e1049, H⟩ := bind_of H
      refine AWp.loop (LWp.conv (inv := []) (vk := []) (e0 := []) (t := ⟨[(4, iV .u64 x1009), (10, .im (.row (a0.map (encRow eBucket)))), (11, iV .i64 (a0.length : Int)), (12, iV .i64 x1010), (16, .im (.row (b1015.map eBucket))), (17, iV .i64 (b1015.length : Int)), (18, iV .i64 0)], [], 0⟩) (by kernel_rfl) ?_)
      refine LWp.mono (Q := fun e s => (match (generalizing := false) o1048 with | .inl rr => e = .ret ∧ s.floor = 0 ∧ resOf Try.prog Try.f38 s = some (.tup [iV .u64 rr.1, iV .i64 rr.2]) ∧ ([] : List (Nat × Option MObj)) = [] | .inr x1044 => e = .exit 2 ∧ s = ⟨[(4, iV .u64 x1044), (10, .im (.row (a0.map (encRow eBucket)))), (11, iV .i64 (a0.length : Int)), (12, iV .i64 x1010)], [], 0⟩)) (LWp.cv (withBody (fun body hbody => ?_))) ?_
      · refine f_hist_total.l1.partial_correctness a0 b1015 x1010 (motive := fun x1030 x1031 o1048 => LWp Γ body (fun e s => ∃ t, Cv Γ s t ∧ (match (generalizing := false) o1048 with | .inl rr => e = .ret ∧ t.floor = 0 ∧ resOf Try.prog Try.f38 t = some (.tup [iV .u64 rr.1, iV .i64 rr.2]) ∧ ([] : List (Nat × Option MObj)) = [] | .inr x1044 => e = .exit 2 ∧ t = ⟨[(4, iV .u64 x1044), (10, .im (.row (a0.map (encRow eBucket)))), (11, iV .i64 (a0.length : Int)), (12, iV .i64 x1010)], [], 0⟩)) ⟨[(4, iV .u64 x1030), (10, .im (.row (a0.map (encRow eBucket)))), (11, iV .i64 (a0.length : Int)), (12, iV .i64 x1010), (16, .im (.row (b1015.map eBucket))), (17, iV .i64 (b1015.length : Int)), (18, iV .i64 x1031)], [], 0⟩) ?_ _ _ _ e1049
        clear H e1049 o1048; intro self ih x1030 x1031 o1048 H
        subst hbody
        refine LWp.round ?_
        refine AWp.seq ?_
        refine reg hP hn hm [] [4, 10, 11, 12, 16, 17, 18, 19] [] ⟨[(4, iV .u64 x1030), (10, .im (.row (a0.map (encRow eBucket)))), (11, iV .i64 (a0.length : Int)), (12, iV .i64 x1010), (16, .im (.row (b1015.map eBucket))), (17, iV .i64 (b1015.length : Int)), (18, iV .i64 x1031), (19, bV (decide (x1031 < (b1015.length : Int))))], [], 0⟩ [] (by kernel_rfl) trivial ?_
        refine AWp.seq ?_
        refine AWp.cond (decide (x1031 < (b1015.length : Int))) rfl (fun c1032 => ?_) (fun c1032 => ?_)
        · replace H := (ifT c1032).symm.trans H
          refine AWp.skip ?_
          refine AWp.seq ?_
          refine AWp.block ?_
          refine AWp.seq ?_
          obtain ⟨b1036, p1037, q1038, H⟩ := at_of H
          refine reg hP hn hm [(0, .c (eBucket b1036)), (2, .k 6)] [4, 8, 10, 11, 12, 16, 17, 18] [6] ⟨[(4, iV .u64 x1030), (8, .ptr 6 0 0), (10, .im (.row (a0.map (encRow eBucket)))), (11, iV .i64 (a0.length : Int)), (12, iV .i64 x1010), (16, .im (.row (b1015.map eBucket))), (17, iV .i64 (b1015.length : Int)), (18, iV .i64 x1031)], [(6, some (.box 54 (aBucket b1036)))], 0⟩ [0 ≤ x1031, (b1015.map eBucket)[(Int.toNat (x1031))]? = some (eBucket b1036)] (by kernel_rfl) ⟨by exact p1037, by exact el_map eBucket q1038, trivial⟩ ?_
          refine AWp.seq ?_
          refine reg hP hn hm [] [4, 8, 10, 11, 12, 16, 17, 18] [6] ⟨[(4, iV .u64 x1030), (8, .ptr 6 0 0), (10, .im (.row (a0.map (encRow eBucket)))), (11, iV .i64 (a0.length : Int)), (12, iV .i64 x1010), (16, .im (.row (b1015.map eBucket))), (17, iV .i64 (b1015.length : Int)), (18, iV .i64 x1031)], [(6, some (.box 54 (aBucket b1036)))], 0⟩ [] (by kernel_rfl) trivial ?_
          refine AWp.seq ?_
          obtain ⟨t1041, e1042, H⟩ := bind_of H
          refine reg hP hn hm [(3, .app 7 ([x1030, b1036.f1].map (encInt .u64))), (4, .call [] [] [7] [] 0 (.tup [iV .u64 t1041.1, iV .i64 t1041.2]) [])] [4, 9, 10, 11, 12, 16, 17, 18] [] ⟨[(4, iV .u64 t1041.1), (9, iV .i64 t1041.2), (10, .im (.row (a0.map (encRow eBucket)))), (11, iV .i64 (a0.length : Int)), (12, iV .i64 x1010), (16, .im (.row (b1015.map eBucket))), (17, iV .i64 (b1015.length : Int)), (18, iV .i64 x1031)], [], 0⟩ [[x1030, b1036.f1].map (encInt .u64) = [[iI .u64 x1030], [iI .u64 b1036.f1]], Enters Try.prog 45, Pv.Fn Try.prog 45 [.im (.row ([x1030, b1036.f1].map (encInt .u64)))] [] 0 (fun r o => r = .tup [iV .u64 t1041.1, iV .i64 t1041.2] ∧ o = [])] (by kernel_rfl) ⟨by exact rfl, by exact Try.call45, by exact f_num_Add.ok [x1030, b1036.f1] t1041 e1042, trivial⟩ ?_
          refine AWp.seq ?_
          refine reg hP hn hm [] [4, 9, 10, 11, 12, 16, 17, 18, 31] [] ⟨[(4, iV .u64 t1041.1), (9, iV .i64 t1041.2), (10, .im (.row (a0.map (encRow eBucket)))), (11, iV .i64 (a0.length : Int)), (12, iV .i64 x1010), (16, .im (.row (b1015.map eBucket))), (17, iV .i64 (b1015.length : Int)), (18, iV .i64 x1031), (31, bV (t1041.2 != (0 : Int)))], [], 0⟩ [] (by kernel_rfl) trivial ?_
          refine AWp.cond (t1041.2 != (0 : Int)) rfl (fun c1043 => ?_) (fun c1043 => ?_)
          · replace H := (ifT c1043).symm.trans H
            refine AWp.seq ?_
            refine reg hP hn hm [] [2, 3] [] ⟨[(2, iV .u64 0), (3, iV .i64 t1041.2)], [], 0⟩ [] (by kernel_rfl) trivial ?_
            refine AWp.conv (inv := []) (vk := []) (e0 := []) (t := ⟨[(2, iV .u64 0), (3, iV .i64 t1041.2)], [], 0⟩) (by kernel_rfl) ?_
            refine AWp.ret ?_
            obtain rfl := Option.some.inj H
            exact Exists.intro _ (And.intro (fun _ _ h => h) (And.intro rfl (And.intro rfl (And.intro (by kernel_rfl) (by kernel_rfl)))))
          · replace H := (ifF c1043).symm.trans H
            refine AWp.skip ?_
            refine reg hP hn hm [] [4, 10, 11, 12, 16, 17, 18] [] ⟨[(4, iV .u64 t1041.1), (10, .im (.row (a0.map (encRow eBucket)))), (11, iV .i64 (a0.length : Int)), (12, iV .i64 x1010), (16, .im (.row (b1015.map eBucket))), (17, iV .i64 (b1015.length : Int)), (18, iV .i64 (IntKind.i64.wrap (x1031 + (1 : Int))))], [], 0⟩ [] (by kernel_rfl) trivial ?_
            exact LWp.conv (inv := []) (vk := []) (e0 := []) (t := ⟨[(4, iV .u64 t1041.1), (10, .im (.row (a0.map (encRow eBucket)))), (11, iV .i64 (a0.length : Int)), (12, iV .i64 x1010), (16, .im (.row (b1015.map eBucket))), (17, iV .i64 (b1015.length : Int)), (18, iV .i64 (IntKind.i64.wrap (x1031 + (1 : Int))))], [], 0⟩) (by kernel_rfl) (ih _ _ _ H)
        · replace H := (ifF c1032).symm.trans H
          refine AWp.exit ?_
          obtain rfl := Option.some.inj H
          exact Exists.intro _ (And.intro (fun _ _ h => h.conv (inv := []) (vk := []) (e0 := []) (t := ⟨[(4, iV .u64 x1030), (10, .im (.row (a0.map (encRow eBucket)))), (11, iV .i64 (a0.length : Int)), (12, iV .i64 x1010)], [], 0⟩) (by kernel_rfl)) (And.intro rfl rfl))
      · rcases o1048 with rr | x1044
        · skip
          rintro e s ⟨rfl, hfl, hres⟩
          obtain rfl := Option.some.inj H
          exact Exists.intro _ (And.intro (fun _ _ h => h) (And.intro rfl (And.intro hfl hres)))
        · skip
          rintro e s ⟨rfl, rfl⟩
          refine reg hP hn hm [] [4, 10, 11, 12] [] ⟨[(4, iV .u64 x1044), (10, .im (.row (a0.map (encRow eBucket)))), (11, iV .i64 (a0.length : Int)), (12, iV .i64 (IntKind.i64.wrap (x1010 + (1 : Int))))], [], 0⟩ [] (by kernel_rfl) trivial ?_
          exact LWp.conv (inv := []) (vk := []) (e0 := []) (t := ⟨[(4, iV .u64 x1044), (10, .im (.row (a0.map (encRow eBucket)))), (11, iV .i64 (a0.length : Int)), (12, iV .i64 (IntKind.i64.wrap (x1010 + (1 : Int))))], [], 0⟩) (by kernel_rfl) (ih _ _ _ H)
    · replace H := (ifF c1011).symm.trans H
      refine AWp.exit ?_
      obtain rfl := Option.some.inj H
      exact Exists.intro _ (And.intro (fun _ _ h => h.conv (inv := []) (vk := []) (e0 := []) (t := ⟨[(4, iV .u64 x1009)], [], 0⟩) (by kernel_rfl)) (And.intro rfl rfl))
  · rcases o1046 with rr | x1045
    · skip
      rintro e s ⟨rfl, hfl, hres⟩
      obtain rfl := Option.some.inj H
      exact Exists.intro _ (And.intro (fun _ _ h => h) (And.intro (.inl rfl) (And.intro hfl hres)))
    · skip
      rintro e s ⟨rfl, rfl⟩
      refine AWp.seq ?_
      refine reg hP hn hm [] [2, 3] [] ⟨[(2, iV .u64 x1045), (3, iV .i64 0)], [], 0⟩ [] (by kernel_rfl) trivial ?_
      refine AWp.conv (inv := []) (vk := []) (e0 := []) (t := ⟨[(2, iV .u64 x1045), (3, iV .i64 0)], [], 0⟩) (by kernel_rfl) ?_
      refine AWp.ret ?_
      obtain rfl := Option.some.inj H
      exact Exists.intro _ (And.intro (fun _ _ h => h) (And.intro (.inl rfl) (And.intro rfl (And.intro (by kernel_rfl) (by kernel_rfl)))))
def f_bound_Right.f (a0 : Int) : Option (Bool) := ((if (decide (a0 ≥ (-4))) = true then (some (decide (a0 ≤ (8 : Int)))) else (some false)) : Option (Bool)) >>= fun x1063 => some x1063
theorem f_bound_Right.ok (a0 : Int) (r : Bool) (H : f_bound_Right.f a0 = some r) : Pv.Fn Try.prog 34 [iV .i64 a0] [] 0 (fun x o => x = bV r ∧ o = []) := by
  unfold f_bound_Right.f at H
  refine Fn.bodyK [] Try.func34 rfl rfl (fun Γ hP hn => ?_)
  have hm : Try.prog.follows .mixedOrders = true := by kernel_rfl
  replace hn : Γ.n = 9 := hn
  refine AWp.seq ?_
  refine reg hP hn hm [] [0] [] ⟨[(0, iV .i64 a0)], [], 0⟩ [] (by kernel_rfl) trivial ?_
  refine AWp.seq ?_
  obtain ⟨o1064, e1065, H⟩ := bind_of H
  refine AWp.mono (Q := fun e s => (match (generalizing := false) o1064 with | x1063 => e = .normal ∧ s = ⟨[(2, bV x1063)], [], 0⟩)) (AWp.cv ?_) ?_
  · replace H := e1065; clear e1065
    rcases Bool.eq_false_or_eq_true (decide (a0 ≥ (-4))) with c1062 | c1062
    · replace H := (ifT c1062).symm.trans H
      refine reg hP hn hm [(2, .b true)] [2] [] ⟨[(2, bV (decide (a0 ≤ (8 : Int))))], [], 0⟩ [(decide (a0 ≥ (-4))) = true] (by kernel_rfl) ⟨by exact c1062, trivial⟩ ?_
      obtain rfl := Option.some.inj H
      exact Exists.intro _ (And.intro (fun _ _ h => h.conv (inv := []) (vk := []) (e0 := []) (t := ⟨[(2, bV (decide (a0 ≤ (8 : Int))))], [], 0⟩) (by kernel_rfl)) (And.intro rfl rfl))
    · replace H := (ifF c1062).symm.trans H
      refine reg hP hn hm [(2, .b false)] [2] [] ⟨[(2, bV false)], [], 0⟩ [(decide (a0 ≥ (-4))) = false] (by kernel_rfl) ⟨by exact c1062, trivial⟩ ?_
      obtain rfl := Option.some.inj H
      exact Exists.intro _ (And.intro (fun _ _ h => h.conv (inv := []) (vk := []) (e0 := []) (t := ⟨[(2, bV false)], [], 0⟩) (by kernel_rfl)) (And.intro rfl rfl))
  · obtain ⟨x1063, rfl⟩ : ∃ z, z = o1064 := ⟨_, rfl⟩
    rintro e s ⟨rfl, rfl⟩
    refine AWp.conv (inv := []) (vk := []) (e0 := []) (t := ⟨[(2, bV x1063)], [], 0⟩) (by kernel_rfl) ?_
    refine AWp.ret ?_
    obtain rfl := Option.some.inj H
    exact Exists.intro _ (And.intro (fun _ _ h => h) (And.intro (.inl rfl) (And.intro rfl (And.intro (by kernel_rfl) (by kernel_rfl)))))
def f_bound_shift.f (a0 : Int) : Option (Unit) := some ()
theorem f_bound_shift.ok (a0 : Int) (r : Unit) (H : f_bound_shift.f a0 = some r) : Pv.Fn Try.prog 73 [iV .i64 a0] [] 0 (fun x o => x = iV .u64 (IntKind.u64.wrap (IntKind.i64.wrap ((8 : Int) - a0))) ∧ o = []) := by
  unfold f_bound_shift.f at H
  refine Fn.bodyK [] Try.func73 rfl rfl (fun Γ hP hn => ?_)
  have hm : Try.prog.follows .mixedOrders = true := by kernel_rfl
  replace hn : Γ.n = 6 := hn
  refine AWp.seq ?_
  refine reg hP hn hm [] [0] [] ⟨[(0, iV .i64 a0)], [], 0⟩ [] (by kernel_rfl) trivial ?_
  refine AWp.seq ?_
  refine reg hP hn hm [] [2] [] ⟨[(2, iV .u64 (IntKind.u64.wrap (IntKind.i64.wrap ((8 : Int) - a0))))], [], 0⟩ [] (by kernel_rfl) trivial ?_
  refine AWp.conv (inv := []) (vk := []) (e0 := []) (t := ⟨[(2, iV .u64 (IntKind.u64.wrap (IntKind.i64.wrap ((8 : Int) - a0))))], [], 0⟩) (by kernel_rfl) ?_
  refine AWp.ret ?_
  obtain rfl := Option.some.inj H
  exact Exists.intro _ (And.intro (fun _ _ h => h) (And.intro (.inl rfl) (And.intro rfl (And.intro (by kernel_rfl) (by kernel_rfl)))))
def f_bound_Most.f (a0 : Int) : Option (Int) := (f_bound_Right.f a0) >>= fun t1090 => if (!t1090) = true then (some 0) else ((f_bound_shift.f a0) >>= fun t1096 => (chk (0 ≤ (IntKind.u64.wrap (IntKind.i64.wrap ((8 : Int) - a0))))) >>= fun _ => some (Int.fdiv (262144 : Int) (2 ^ (min (Int.toNat (IntKind.u64.wrap (IntKind.i64.wrap ((8 : Int) - a0)))) 64))))
theorem f_bound_Most.ok (a0 : Int) (r : Int) (H : f_bound_Most.f a0 = some r) : Pv.Fn Try.prog 75 [iV .i64 a0] [] 0 (fun x o => x = iV .i64 r ∧ o = []) := by
  unfold f_bound_Most.f at H
  refine Fn.bodyK [] Try.func75 rfl rfl (fun Γ hP hn => ?_)
  have hm : Try.prog.follows .mixedOrders = true := by kernel_rfl
  replace hn : Γ.n = 9 := hn
  refine AWp.seq ?_
  refine reg hP hn hm [] [0] [] ⟨[(0, iV .i64 a0)], [], 0⟩ [] (by kernel_rfl) trivial ?_
  refine AWp.seq ?_
  refine AWp.seq ?_
  obtain ⟨t1090, e1091, H⟩ := bind_of H
  refine reg hP hn hm [(1, .call [] [] [] [] 0 (bV t1090) [])] [0, 5] [] ⟨[(0, iV .i64 a0), (5, bV (!t1090))], [], 0⟩ [Enters Try.prog 34, Pv.Fn Try.prog 34 [iV .i64 a0] [] 0 (fun r o => r = bV t1090 ∧ o = [])] (by kernel_rfl) ⟨by exact Try.call34, by exact f_bound_Right.ok a0 t1090 e1091, trivial⟩ ?_
  refine AWp.cond (!t1090) rfl (fun c1092 => ?_) (fun c1092 => ?_)
  · replace H := (ifT c1092).symm.trans H
    refine AWp.seq ?_
    refine reg hP hn hm [] [2] [] ⟨[(2, iV .i64 0)], [], 0⟩ [] (by kernel_rfl) trivial ?_
    refine AWp.conv (inv := []) (vk := []) (e0 := []) (t := ⟨[(2, iV .i64 0)], [], 0⟩) (by kernel_rfl) ?_
    refine AWp.ret ?_
    obtain rfl := Option.some.inj H
    exact Exists.intro _ (And.intro (fun _ _ h => h) (And.intro (.inl rfl) (And.intro rfl (And.intro (by kernel_rfl) (by kernel_rfl)))))
  · replace H := (ifF c1092).symm.trans H
    refine AWp.skip ?_
    refine AWp.seq ?_
    obtain ⟨t1096, e1097, H⟩ := bind_of H
    obtain ⟨c1098, H⟩ := chk_of H
    refine reg hP hn hm [(1, .call [] [] [] [] 0 (iV .u64 (IntKind.u64.wrap (IntKind.i64.wrap ((8 : Int) - a0)))) [])] [2] [] ⟨[(2, iV .i64 (Int.fdiv (262144 : Int) (2 ^ (min (Int.toNat (IntKind.u64.wrap (IntKind.i64.wrap ((8 : Int) - a0)))) 64))))], [], 0⟩ [Enters Try.prog 73, Pv.Fn Try.prog 73 [iV .i64 a0] [] 0 (fun r o => r = iV .u64 (IntKind.u64.wrap (IntKind.i64.wrap ((8 : Int) - a0))) ∧ o = []), 0 ≤ (IntKind.u64.wrap (IntKind.i64.wrap ((8 : Int) - a0)))] (by kernel_rfl) ⟨by exact Try.call73, by exact f_bound_shift.ok a0 t1096 e1097, by exact c1098, trivial⟩ ?_
    refine AWp.conv (inv := []) (vk := []) (e0 := []) (t := ⟨[(2, iV .i64 (Int.fdiv (262144 : Int) (2 ^ (min (Int.toNat (IntKind.u64.wrap (IntKind.i64.wrap ((8 : Int) - a0)))) 64))))], [], 0⟩) (by kernel_rfl) ?_
    refine AWp.ret ?_
    obtain rfl := Option.some.inj H
    exact Exists.intro _ (And.intro (fun _ _ h => h) (And.intro (.inl rfl) (And.intro rfl (And.intro (by kernel_rfl) (by kernel_rfl)))))
def f_bound_Least.f (a0 : Int) : Option (Int) := (f_bound_Most.f a0) >>= fun t1101 => some (IntKind.i64.wrap ((IntKind.i64.wrap (0 - t1101)) + (1 : Int)))
theorem f_bound_Least.ok (a0 : Int) (r : Int) (H : f_bound_Least.f a0 = some r) : Pv.Fn Try.prog 74 [iV .i64 a0] [] 0 (fun x o => x = iV .i64 r ∧ o = []) := by
  unfold f_bound_Least.f at H
  refine Fn.bodyK [] Try.func74 rfl rfl (fun Γ hP hn => ?_)
  have hm : Try.prog.follows .mixedOrders = true := by kernel_rfl
  replace hn : Γ.n = 7 := hn
  refine AWp.seq ?_
  refine reg hP hn hm [] [0] [] ⟨[(0, iV .i64 a0)], [], 0⟩ [] (by kernel_rfl) trivial ?_
  refine AWp.seq ?_
  obtain ⟨t1101, e1102, H⟩ := bind_of H
  refine reg hP hn hm [(1, .call [] [] [] [] 0 (iV .i64 t1101) [])] [2] [] ⟨[(2, iV .i64 (IntKind.i64.wrap ((IntKind.i64.wrap (0 - t1101)) + (1 : Int))))], [], 0⟩ [Enters Try.prog 75, Pv.Fn Try.prog 75 [iV .i64 a0] [] 0 (fun r o => r = iV .i64 t1101 ∧ o = [])] (by kernel_rfl) ⟨by exact Try.call75, by exact f_bound_Most.ok a0 t1101 e1102, trivial⟩ ?_
  refine AWp.conv (inv := []) (vk := []) (e0 := []) (t := ⟨[(2, iV .i64 (IntKind.i64.wrap ((IntKind.i64.wrap (0 - t1101)) + (1 : Int))))], [], 0⟩) (by kernel_rfl) ?_
  refine AWp.ret ?_
  obtain rfl := Option.some.inj H
  exact Exists.intro _ (And.intro (fun _ _ h => h) (And.intro (.inl rfl) (And.intro rfl (And.intro (by kernel_rfl) (by kernel_rfl)))))
def f_bound_In.f (a0 : Int) (a1 : Int) : Option (Bool) := (((f_bound_Right.f a0) >>= fun t1108 => if t1108 = true then ((f_bound_Least.f a0) >>= fun t1111 => if (decide (a1 ≥ t1111)) = true then ((f_bound_Most.f a0) >>= fun t1114 => some (decide (a1 ≤ t1114))) else (some false)) else (some false)) : Option (Bool)) >>= fun x1116 => some x1116
theorem f_bound_In.ok (a0 : Int) (a1 : Int) (r : Bool) (H : f_bound_In.f a0 a1 = some r) : Pv.Fn Try.prog 61 [iV .i64 a0, iV .i64 a1] [] 0 (fun x o => x = bV r ∧ o = []) := by
  unfold f_bound_In.f at H
  refine Fn.bodyK [] Try.func61 rfl rfl (fun Γ hP hn => ?_)
  have hm : Try.prog.follows .mixedOrders = true := by kernel_rfl
  replace hn : Γ.n = 19 := hn
  refine AWp.seq ?_
  refine reg hP hn hm [] [0, 1] [] ⟨[(0, iV .i64 a0), (1, iV .i64 a1)], [], 0⟩ [] (by kernel_rfl) trivial ?_
  refine AWp.seq ?_
  obtain ⟨o1117, e1118, H⟩ := bind_of H
  refine AWp.mono (Q := fun e s => (match (generalizing := false) o1117 with | x1116 => e = .normal ∧ s = ⟨[(4, bV x1116)], [], 0⟩)) (AWp.cv ?_) ?_
  · replace H := e1118; clear e1118
    obtain ⟨t1108, e1109, H⟩ := bind_of H
    rcases Bool.eq_false_or_eq_true t1108 with c1110 | c1110
    · replace H := (ifT c1110).symm.trans H
      obtain ⟨t1111, e1112, H⟩ := bind_of H
      rcases Bool.eq_false_or_eq_true (decide (a1 ≥ t1111)) with c1113 | c1113
      · replace H := (ifT c1113).symm.trans H
        obtain ⟨t1114, e1115, H⟩ := bind_of H
        refine reg hP hn hm [(1, .call [] [] [] [] 0 (bV t1108) []), (2, .b true), (5, .call [] [] [] [] 0 (iV .i64 t1111) []), (8, .b true), (11, .call [] [] [] [] 0 (iV .i64 t1114) [])] [4] [] ⟨[(4, bV (decide (a1 ≤ t1114)))], [], 0⟩ [Enters Try.prog 34, Pv.Fn Try.prog 34 [iV .i64 a0] [] 0 (fun r o => r = bV t1108 ∧ o = []), t1108 = true, Enters Try.prog 74, Pv.Fn Try.prog 74 [iV .i64 a0] [] 0 (fun r o => r = iV .i64 t1111 ∧ o = []), (decide (a1 ≥ t1111)) = true, Enters Try.prog 75, Pv.Fn Try.prog 75 [iV .i64 a0] [] 0 (fun r o => r = iV .i64 t1114 ∧ o = [])] (by kernel_rfl) ⟨by exact Try.call34, by exact f_bound_Right.ok a0 t1108 e1109, by exact c1110, by exact Try.call74, by exact f_bound_Least.ok a0 t1111 e1112, by exact c1113, by exact Try.call75, by exact f_bound_Most.ok a0 t1114 e1115, trivial⟩ ?_
        obtain rfl := Option.some.inj H
        exact Exists.intro _ (And.intro (fun _ _ h => h.conv (inv := []) (vk := []) (e0 := []) (t := ⟨[(4, bV (decide (a1 ≤ t1114)))], [], 0⟩) (by kernel_rfl)) (And.intro rfl rfl))
      · replace H := (ifF c1113).symm.trans H
        refine reg hP hn hm [(1, .call [] [] [] [] 0 (bV t1108) []), (2, .b true), (5, .call [] [] [] [] 0 (iV .i64 t1111) []), (8, .b false)] [4] [] ⟨[(4, bV false)], [], 0⟩ [Enters Try.prog 34, Pv.Fn Try.prog 34 [iV .i64 a0] [] 0 (fun r o => r = bV t1108 ∧ o = []), t1108 = true, Enters Try.prog 74, Pv.Fn Try.prog 74 [iV .i64 a0] [] 0 (fun r o => r = iV .i64 t1111 ∧ o = []), (decide (a1 ≥ t1111)) = false] (by kernel_rfl) ⟨by exact Try.call34, by exact f_bound_Right.ok a0 t1108 e1109, by exact c1110, by exact Try.call74, by exact f_bound_Least.ok a0 t1111 e1112, by exact c1113, trivial⟩ ?_
        obtain rfl := Option.some.inj H
        exact Exists.intro _ (And.intro (fun _ _ h => h.conv (inv := []) (vk := []) (e0 := []) (t := ⟨[(4, bV false)], [], 0⟩) (by kernel_rfl)) (And.intro rfl rfl))
    · replace H := (ifF c1110).symm.trans H
      refine reg hP hn hm [(1, .call [] [] [] [] 0 (bV t1108) []), (2, .b false)] [4] [] ⟨[(4, bV false)], [], 0⟩ [Enters Try.prog 34, Pv.Fn Try.prog 34 [iV .i64 a0] [] 0 (fun r o => r = bV t1108 ∧ o = []), t1108 = false] (by kernel_rfl) ⟨by exact Try.call34, by exact f_bound_Right.ok a0 t1108 e1109, by exact c1110, trivial⟩ ?_
      obtain rfl := Option.some.inj H
      exact Exists.intro _ (And.intro (fun _ _ h => h.conv (inv := []) (vk := []) (e0 := []) (t := ⟨[(4, bV false)], [], 0⟩) (by kernel_rfl)) (And.intro rfl rfl))
  · obtain ⟨x1116, rfl⟩ : ∃ z, z = o1117 := ⟨_, rfl⟩
    rintro e s ⟨rfl, rfl⟩
    refine AWp.conv (inv := []) (vk := []) (e0 := []) (t := ⟨[(4, bV x1116)], [], 0⟩) (by kernel_rfl) ?_
    refine AWp.ret ?_
    obtain rfl := Option.some.inj H
    exact Exists.intro _ (And.intro (fun _ _ h => h) (And.intro (.inl rfl) (And.intro rfl (And.intro (by kernel_rfl) (by kernel_rfl)))))
def f_bound_Units.f (a0 : Int) (a1 : Int) : Option (Int) := (f_bound_Right.f a0) >>= fun t1127 => if (!t1127) = true then (some 0) else ((f_bound_shift.f a0) >>= fun t1133 => (chk (0 ≤ (IntKind.u64.wrap (IntKind.i64.wrap ((8 : Int) - a0))))) >>= fun _ => some (IntKind.i64.wrap (a1 * 2 ^ (min (Int.toNat (IntKind.u64.wrap (IntKind.i64.wrap ((8 : Int) - a0)))) 64))))
theorem f_bound_Units.ok (a0 : Int) (a1 : Int) (r : Int) (H : f_bound_Units.f a0 a1 = some r) : Pv.Fn Try.prog 60 [iV .i64 a0, iV .i64 a1] [] 0 (fun x o => x = iV .i64 r ∧ o = []) := by
  unfold f_bound_Units.f at H
  refine Fn.bodyK [] Try.func60 rfl rfl (fun Γ hP hn => ?_)
  have hm : Try.prog.follows .mixedOrders = true := by kernel_rfl
  replace hn : Γ.n = 12 := hn
  refine AWp.seq ?_
  refine reg hP hn hm [] [0, 1] [] ⟨[(0, iV .i64 a0), (1, iV .i64 a1)], [], 0⟩ [] (by kernel_rfl) trivial ?_
  refine AWp.seq ?_
  refine AWp.seq ?_
  obtain ⟨t1127, e1128, H⟩ := bind_of H
  refine reg hP hn hm [(1, .call [] [] [] [] 0 (bV t1127) [])] [0, 1, 7] [] ⟨[(0, iV .i64 a0), (1, iV .i64 a1), (7, bV (!t1127))], [], 0⟩ [Enters Try.prog 34, Pv.Fn Try.prog 34 [iV .i64 a0] [] 0 (fun r o => r = bV t1127 ∧ o = [])] (by kernel_rfl) ⟨by exact Try.call34, by exact f_bound_Right.ok a0 t1127 e1128, trivial⟩ ?_
  refine AWp.cond (!t1127) rfl (fun c1129 => ?_) (fun c1129 => ?_)
  · replace H := (ifT c1129).symm.trans H
    refine AWp.seq ?_
    refine reg hP hn hm [] [4] [] ⟨[(4, iV .i64 0)], [], 0⟩ [] (by kernel_rfl) trivial ?_
    refine AWp.conv (inv := []) (vk := []) (e0 := []) (t := ⟨[(4, iV .i64 0)], [], 0⟩) (by kernel_rfl) ?_
    refine AWp.ret ?_
    obtain rfl := Option.some.inj H
    exact Exists.intro _ (And.intro (fun _ _ h => h) (And.intro (.inl rfl) (And.intro rfl (And.intro (by kernel_rfl) (by kernel_rfl)))))
  · replace H := (ifF c1129).symm.trans H
    refine AWp.skip ?_
    refine AWp.seq ?_
    obtain ⟨t1133, e1134, H⟩ := bind_of H
    obtain ⟨c1135, H⟩ := chk_of H
    refine reg hP hn hm [(2, .call [] [] [] [] 0 (iV .u64 (IntKind.u64.wrap (IntKind.i64.wrap ((8 : Int) - a0)))) [])] [4] [] ⟨[(4, iV .i64 (IntKind.i64.wrap (a1 * 2 ^ (min (Int.toNat (IntKind.u64.wrap (IntKind.i64.wrap ((8 : Int) - a0)))) 64))))], [], 0⟩ [Enters Try.prog 73, Pv.Fn Try.prog 73 [iV .i64 a0] [] 0 (fun r o => r = iV .u64 (IntKind.u64.wrap (IntKind.i64.wrap ((8 : Int) - a0))) ∧ o = []), 0 ≤ (IntKind.u64.wrap (IntKind.i64.wrap ((8 : Int) - a0)))] (by kernel_rfl) ⟨by exact Try.call73, by exact f_bound_shift.ok a0 t1133 e1134, by exact c1135, trivial⟩ ?_
    refine AWp.conv (inv := []) (vk := []) (e0 := []) (t := ⟨[(4, iV .i64 (IntKind.i64.wrap (a1 * 2 ^ (min (Int.toNat (IntKind.u64.wrap (IntKind.i64.wrap ((8 : Int) - a0)))) 64))))], [], 0⟩) (by kernel_rfl) ?_
    refine AWp.ret ?_
    obtain rfl := Option.some.inj H
    exact Exists.intro _ (And.intro (fun _ _ h => h) (And.intro (.inl rfl) (And.intro rfl (And.intro (by kernel_rfl) (by kernel_rfl)))))
def f_bound_Low.f (a0 : Int) (a1 : Int) : Option (Int) := (f_bound_Units.f a0 (IntKind.i64.wrap (a1 - (1 : Int)))) >>= fun t1138 => some t1138
theorem f_bound_Low.ok (a0 : Int) (a1 : Int) (r : Int) (H : f_bound_Low.f a0 a1 = some r) : Pv.Fn Try.prog 62 [iV .i64 a0, iV .i64 a1] [] 0 (fun x o => x = iV .i64 r ∧ o = []) := by
  unfold f_bound_Low.f at H
  refine Fn.bodyK [] Try.func62 rfl rfl (fun Γ hP hn => ?_)
  have hm : Try.prog.follows .mixedOrders = true := by kernel_rfl
  replace hn : Γ.n = 9 := hn
  refine AWp.seq ?_
  refine reg hP hn hm [] [0, 1] [] ⟨[(0, iV .i64 a0), (1, iV .i64 a1)], [], 0⟩ [] (by kernel_rfl) trivial ?_
  refine AWp.seq ?_
  obtain ⟨t1138, e1139, H⟩ := bind_of H
  refine reg hP hn hm [(3, .call [] [] [] [] 0 (iV .i64 t1138) [])] [4] [] ⟨[(4, iV .i64 t1138)], [], 0⟩ [Enters Try.prog 60, Pv.Fn Try.prog 60 [iV .i64 a0, iV .i64 (IntKind.i64.wrap (a1 - (1 : Int)))] [] 0 (fun r o => r = iV .i64 t1138 ∧ o = [])] (by kernel_rfl) ⟨by exact Try.call60, by exact f_bound_Units.ok a0 (IntKind.i64.wrap (a1 - (1 : Int))) t1138 e1139, trivial⟩ ?_
  refine AWp.conv (inv := []) (vk := []) (e0 := []) (t := ⟨[(4, iV .i64 t1138)], [], 0⟩) (by kernel_rfl) ?_
  refine AWp.ret ?_
  obtain rfl := Option.some.inj H
  exact Exists.intro _ (And.intro (fun _ _ h => h) (And.intro (.inl rfl) (And.intro rfl (And.intro (by kernel_rfl) (by kernel_rfl)))))
def f_hist_buckets.l0 (a0 : THist) (a1 : List TBucket) (x1145 : Int) : Option (Int ⊕ Unit) := if (decide (x1145 < (a1.length : Int))) = true then ((at? a1 x1145) >>= fun b1150 => (f_bound_In.f a0.f1 b1150.f0) >>= fun t1155 => if (!t1155) = true then (some (.inl 4)) else (((if (decide (x1145 > (0 : Int))) = true then ((at? a1 (IntKind.i64.wrap (x1145 - (1 : Int)))) >>= fun b1163 => some (decide (b1163.f0 ≥ b1150.f0))) else (some false)) : Option (Bool)) >>= fun x1166 => if x1166 = true then (some (.inl 32)) else (if (b1150.f1 == (0 : Int)) = true then (some (.inl 21)) else ((f_bound_Low.f a0.f1 b1150.f0) >>= fun t1171 => if (decide (t1171 < a0.f2)) = true then (some (.inl 31)) else (f_hist_buckets.l0 a0 a1 (IntKind.i64.wrap (x1145 + (1 : Int)))))))) else (some (.inr ()))
partial_fixpoint
def f_hist_buckets.f (a0 : THist) (a1 : List TBucket) : Option (Int) := if (decide ((a1.length : Int) > (512 : Int))) = true then (some 9) else ((f_hist_buckets.l0 a0 a1 0) >>= fun oo => match oo with | .inl rr => (some rr) | .inr _ => (some 0))
theorem f_hist_buckets.ok (a0 : THist) (a1 : List TBucket) (r : Int) (H : f_hist_buckets.f a0 a1 = some r) : Pv.Fn Try.prog 37 [.agg (aHist a0), .im (.row (a1.map eBucket))] [] 0 (fun x o => x = iV .i64 r ∧ o = []) := by
  unfold f_hist_buckets.f at H
  refine Fn.bodyK [] Try.func37 rfl rfl (fun Γ hP hn => ?_)
  have hm : Try.prog.follows .mixedOrders = true := by kernel_rfl
  replace hn : Γ.n = 52 := hn
  refine AWp.seq ?_
  refine reg hP hn hm [(0, .k 0)] [1, 2] [0] ⟨[(1, .im (.row (a1.map eBucket))), (2, .ptr 0 0 0)], [(0, some (.box 25 (aHist a0)))], 0⟩ [] (by kernel_rfl) trivial ?_
  refine AWp.seq ?_
  refine AWp.seq ?_
  refine reg hP hn hm [(1, .any (iV .i64 (a1.length : Int)))] [1, 2, 9] [0] ⟨[(1, .im (.row (a1.map eBucket))), (2, .ptr 0 0 0), (9, bV (decide ((a1.length : Int) > (512 : Int))))], [(0, some (.box 25 (aHist a0)))], 0⟩ [((a1.map eBucket).length : Int) = (a1.length : Int)] (by kernel_rfl) ⟨by rw [len_map], trivial⟩ ?_
  refine AWp.cond (decide ((a1.length : Int) > (512 : Int))) rfl (fun c1077 => ?_) (fun c1077 => ?_)
  · replace H := (ifT c1077).symm.trans H
    refine AWp.seq ?_
    refine reg hP hn hm [] [4] [] ⟨[(4, iV .i64 9)], [], 0⟩ [] (by kernel_rfl) trivial ?_
    refine AWp.conv (inv := []) (vk := []) (e0 := []) (t := ⟨[(4, iV .i64 9)], [], 0⟩) (by kernel_rfl) ?_
    refine AWp.ret ?_
    obtain rfl := Option.some.inj H
    exact Exists.intro _ (And.intro (fun _ _ h => h) (And.intro (.inl rfl) (And.intro rfl (And.intro (by kernel_rfl) (by kernel_rfl)))))
  · replace H := (ifF c1077).symm.trans H
    refine AWp.skip ?_
    refine AWp.seq ?_
    refine AWp.seq ?_
    refine reg hP hn hm [(1, .any (iV .i64 (a1.length : Int)))] [1, 2, 10, 11, 12] [0] ⟨[(1, .im (.row (a1.map eBucket))), (2, .ptr 0 0 0), (10, .im (.row (a1.map eBucket))), (11, iV .i64 (a1.length : Int)), (12, iV .i64 0)], [(0, some (.box 25 (aHist a0)))], 0⟩ [((a1.map eBucket).length : Int) = (a1.length : Int)] (by kernel_rfl) ⟨by rw [len_map], trivial⟩ ?_
    refine AWp.block ?_
    obtain ⟨o1174, e1175, H⟩ := bind_of H
    refine AWp.loop (LWp.conv (inv := [(0, 2)]) (vk := []) (e0 := []) (t := ⟨[(1, .im (.row (a1.map eBucket))), (2, .ptr 2 0 0), (10, .im (.row (a1.map eBucket))), (11, iV .i64 (a1.length : Int)), (12, iV .i64 0)], [(2, some (.box 25 (aHist a0)))], 0⟩) (by kernel_rfl) ?_)
    refine LWp.mono (Q := fun e s => (match (generalizing := false) o1174 with | .inl rr => e = .ret ∧ s.floor = 0 ∧ resOf Try.prog Try.f37 s = some (iV .i64 rr) ∧ ([] : List (Nat × Option MObj)) = [] | .inr _ => e = .exit 0 ∧ s = ⟨[], [], 0⟩)) (LWp.cv (withBody (fun body hbody => ?_))) ?_
    · refine f_hist_buckets.l0.partial_correctness a0 a1 (motive := fun x1145 o1174 => LWp Γ body (fun e s => ∃ t, Cv Γ s t ∧ (match (generalizing := false) o1174 with | .inl rr => e = .ret ∧ t.floor = 0 ∧ resOf Try.prog Try.f37 t = some (iV .i64 rr) ∧ ([] : List (Nat × Option MObj)) = [] | .inr _ => e = .exit 0 ∧ t = ⟨[], [], 0⟩)) ⟨[(1, .im (.row (a1.map eBucket))), (2, .ptr 2 0 0), (10, .im (.row (a1.map eBucket))), (11, iV .i64 (a1.length : Int)), (12, iV .i64 x1145)], [(2, some (.box 25 (aHist a0)))], 0⟩) ?_ _ _ e1175
      clear H e1175 o1174; intro self ih x1145 o1174 H
      subst hbody
      refine LWp.round ?_
      refine AWp.seq ?_
      refine reg hP hn hm [] [1, 2, 10, 11, 12, 13] [2] ⟨[(1, .im (.row (a1.map eBucket))), (2, .ptr 2 0 0), (10, .im (.row (a1.map eBucket))), (11, iV .i64 (a1.length : Int)), (12, iV .i64 x1145), (13, bV (decide (x1145 < (a1.length : Int))))], [(2, some (.box 25 (aHist a0)))], 0⟩ [] (by kernel_rfl) trivial ?_
      refine AWp.seq ?_
      refine AWp.cond (decide (x1145 < (a1.length : Int))) rfl (fun c1146 => ?_) (fun c1146 => ?_)
      · replace H := (ifT c1146).symm.trans H
        refine AWp.skip ?_
        refine AWp.seq ?_
        refine AWp.block ?_
        refine AWp.seq ?_
        obtain ⟨b1150, p1151, q1152, H⟩ := at_of H
        refine reg hP hn hm [(1, .c (eBucket b1150)), (3, .k 3)] [1, 2, 5, 6, 10, 11, 12] [2, 3] ⟨[(1, .im (.row (a1.map eBucket))), (2, .ptr 2 0 0), (5, iV .i64 x1145), (6, .ptr 3 0 0), (10, .im (.row (a1.map eBucket))), (11, iV .i64 (a1.length : Int)), (12, iV .i64 x1145)], [(2, some (.box 25 (aHist a0))), (3, some (.box 54 (aBucket b1150)))], 0⟩ [0 ≤ x1145, (a1.map eBucket)[(Int.toNat (x1145))]? = some (eBucket b1150)] (by kernel_rfl) ⟨by exact p1151, by exact el_map eBucket q1152, trivial⟩ ?_
        refine AWp.block ?_
        refine AWp.seq ?_
        obtain ⟨t1155, e1156, H⟩ := bind_of H
        refine reg hP hn hm [(4, .call [] [] [] [] 0 (bV t1155) [])] [1, 2, 5, 6, 10, 11, 12, 17] [2, 3] ⟨[(1, .im (.row (a1.map eBucket))), (2, .ptr 2 0 0), (5, iV .i64 x1145), (6, .ptr 3 0 0), (10, .im (.row (a1.map eBucket))), (11, iV .i64 (a1.length : Int)), (12, iV .i64 x1145), (17, bV (!t1155))], [(2, some (.box 25 (aHist a0))), (3, some (.box 54 (aBucket b1150)))], 0⟩ [Enters Try.prog 61, Pv.Fn Try.prog 61 [iV .i64 a0.f1, iV .i64 b1150.f0] [] 0 (fun r o => r = bV t1155 ∧ o = [])] (by kernel_rfl) ⟨by exact Try.call61, by exact f_bound_In.ok a0.f1 b1150.f0 t1155 e1156, trivial⟩ ?_
        refine AWp.cond (!t1155) rfl (fun c1157 => ?_) (fun c1157 => ?_)
        · replace H := (ifT c1157).symm.trans H
          refine AWp.seq ?_
          refine reg hP hn hm [] [4] [] ⟨[(4, iV .i64 4)], [], 0⟩ [] (by kernel_rfl) trivial ?_
          refine AWp.conv (inv := []) (vk := []) (e0 := []) (t := ⟨[(4, iV .i64 4)], [], 0⟩) (by kernel_rfl) ?_
          refine AWp.ret ?_
          obtain rfl := Option.some.inj H
          exact Exists.intro _ (And.intro (fun _ _ h => h) (And.intro rfl (And.intro rfl (And.intro (by kernel_rfl) (by kernel_rfl)))))
        · replace H := (ifF c1157).symm.trans H
          refine AWp.seq ?_
          obtain ⟨o1176, e1177, H⟩ := bind_of H
          refine AWp.mono (Q := fun e s => (match (generalizing := false) o1176 with | x1166 => e = .normal ∧ s = ⟨[(1, .im (.row (a1.map eBucket))), (2, .ptr 4 0 0), (6, .ptr 5 0 0), (10, .im (.row (a1.map eBucket))), (11, iV .i64 (a1.length : Int)), (12, iV .i64 x1145), (24, bV x1166)], [(4, some (.box 25 (aHist a0))), (5, some (.box 54 (aBucket b1150)))], 0⟩)) (AWp.cv ?_) ?_
          · replace H := e1177; clear e1177
            rcases Bool.eq_false_or_eq_true (decide (x1145 > (0 : Int))) with c1162 | c1162
            · replace H := (ifT c1162).symm.trans H
              obtain ⟨b1163, p1164, q1165, H⟩ := at_of H
              refine reg hP hn hm [(2, .b true), (6, .c (eBucket b1163))] [1, 2, 6, 10, 11, 12, 24, 28, 29, 30, 31, 32, 33, 34, 35, 36] [2, 3] ⟨[(1, .im (.row (a1.map eBucket))), (2, .ptr 2 0 0), (6, .ptr 3 0 0), (10, .im (.row (a1.map eBucket))), (11, iV .i64 (a1.length : Int)), (12, iV .i64 x1145), (24, bV (decide (b1163.f0 ≥ b1150.f0))), (28, .im (.row (a1.map eBucket))), (29, iV .i64 x1145), (30, iV .i64 (IntKind.i64.wrap (x1145 - (1 : Int)))), (31, .ip [iI .i64 b1163.f0, iI .u64 b1163.f1]), (32, .ip [iI .i64 b1163.f0, iI .u64 b1163.f1]), (33, iV .i64 b1163.f0), (34, .ptr 3 0 0), (35, iV .i64 b1150.f0), (36, bV (decide (b1163.f0 ≥ b1150.f0)))], [(2, some (.box 25 (aHist a0))), (3, some (.box 54 (aBucket b1150)))], 0⟩ [(decide (x1145 > (0 : Int))) = true, 0 ≤ (IntKind.i64.wrap (x1145 - (1 : Int))), (a1.map eBucket)[(Int.toNat (IntKind.i64.wrap (x1145 - (1 : Int))))]? = some (eBucket b1163)] (by kernel_rfl) ⟨by exact c1162, by exact p1164, by exact el_map eBucket q1165, trivial⟩ ?_
              obtain rfl := Option.some.inj H
              exact Exists.intro _ (And.intro (fun _ _ h => h.conv (inv := [(2, 4), (3, 5)]) (vk := []) (e0 := []) (t := ⟨[(1, .im (.row (a1.map eBucket))), (2, .ptr 4 0 0), (6, .ptr 5 0 0), (10, .im (.row (a1.map eBucket))), (11, iV .i64 (a1.length : Int)), (12, iV .i64 x1145), (24, bV (decide (b1163.f0 ≥ b1150.f0)))], [(4, some (.box 25 (aHist a0))), (5, some (.box 54 (aBucket b1150)))], 0⟩) (by kernel_rfl)) (And.intro rfl rfl))
            · replace H := (ifF c1162).symm.trans H
              refine reg hP hn hm [(2, .b false)] [1, 2, 6, 10, 11, 12, 24] [2, 3] ⟨[(1, .im (.row (a1.map eBucket))), (2, .ptr 2 0 0), (6, .ptr 3 0 0), (10, .im (.row (a1.map eBucket))), (11, iV .i64 (a1.length : Int)), (12, iV .i64 x1145), (24, bV false)], [(2, some (.box 25 (aHist a0))), (3, some (.box 54 (aBucket b1150)))], 0⟩ [(decide (x1145 > (0 : Int))) = false] (by kernel_rfl) ⟨by exact c1162, trivial⟩ ?_
              obtain rfl := Option.some.inj H
              exact Exists.intro _ (And.intro (fun _ _ h => h.conv (inv := [(2, 4), (3, 5)]) (vk := []) (e0 := []) (t := ⟨[(1, .im (.row (a1.map eBucket))), (2, .ptr 4 0 0), (6, .ptr 5 0 0), (10, .im (.row (a1.map eBucket))), (11, iV .i64 (a1.length : Int)), (12, iV .i64 x1145), (24, bV false)], [(4, some (.box 25 (aHist a0))), (5, some (.box 54 (aBucket b1150)))], 0⟩) (by kernel_rfl)) (And.intro rfl rfl))
          · obtain ⟨x1166, rfl⟩ : ∃ z, z = o1176 := ⟨_, rfl⟩
            rintro e s ⟨rfl, rfl⟩
            refine AWp.cond x1166 rfl (fun c1167 => ?_) (fun c1167 => ?_)
            · replace H := (ifT c1167).symm.trans H
              refine AWp.seq ?_
              refine reg hP hn hm [] [4] [] ⟨[(4, iV .i64 32)], [], 0⟩ [] (by kernel_rfl) trivial ?_
              refine AWp.conv (inv := []) (vk := []) (e0 := []) (t := ⟨[(4, iV .i64 32)], [], 0⟩) (by kernel_rfl) ?_
              refine AWp.ret ?_
              obtain rfl := Option.some.inj H
              exact Exists.intro _ (And.intro (fun _ _ h => h) (And.intro rfl (And.intro rfl (And.intro (by kernel_rfl) (by kernel_rfl)))))
            · replace H := (ifF c1167).symm.trans H
              refine AWp.seq ?_
              refine reg hP hn hm [] [1, 2, 6, 10, 11, 12, 38] [4, 5] ⟨[(1, .im (.row (a1.map eBucket))), (2, .ptr 4 0 0), (6, .ptr 5 0 0), (10, .im (.row (a1.map eBucket))), (11, iV .i64 (a1.length : Int)), (12, iV .i64 x1145), (38, bV (b1150.f1 == (0 : Int)))], [(4, some (.box 25 (aHist a0))), (5, some (.box 54 (aBucket b1150)))], 0⟩ [] (by kernel_rfl) trivial ?_
              refine AWp.cond (b1150.f1 == (0 : Int)) rfl (fun c1168 => ?_) (fun c1168 => ?_)
              · replace H := (ifT c1168).symm.trans H
                refine AWp.seq ?_
                refine reg hP hn hm [] [4] [] ⟨[(4, iV .i64 21)], [], 0⟩ [] (by kernel_rfl) trivial ?_
                refine AWp.conv (inv := []) (vk := []) (e0 := []) (t := ⟨[(4, iV .i64 21)], [], 0⟩) (by kernel_rfl) ?_
                refine AWp.ret ?_
                obtain rfl := Option.some.inj H
                exact Exists.intro _ (And.intro (fun _ _ h => h) (And.intro rfl (And.intro rfl (And.intro (by kernel_rfl) (by kernel_rfl)))))
              · replace H := (ifF c1168).symm.trans H
                refine AWp.seq ?_
                obtain ⟨t1171, e1172, H⟩ := bind_of H
                refine reg hP hn hm [(4, .call [] [] [] [] 0 (iV .i64 t1171) [])] [1, 2, 10, 11, 12, 42] [4] ⟨[(1, .im (.row (a1.map eBucket))), (2, .ptr 4 0 0), (10, .im (.row (a1.map eBucket))), (11, iV .i64 (a1.length : Int)), (12, iV .i64 x1145), (42, bV (decide (t1171 < a0.f2)))], [(4, some (.box 25 (aHist a0)))], 0⟩ [Enters Try.prog 62, Pv.Fn Try.prog 62 [iV .i64 a0.f1, iV .i64 b1150.f0] [] 0 (fun r o => r = iV .i64 t1171 ∧ o = [])] (by kernel_rfl) ⟨by exact Try.call62, by exact f_bound_Low.ok a0.f1 b1150.f0 t1171 e1172, trivial⟩ ?_
                refine AWp.cond (decide (t1171 < a0.f2)) rfl (fun c1173 => ?_) (fun c1173 => ?_)
                · replace H := (ifT c1173).symm.trans H
                  refine AWp.seq ?_
                  refine reg hP hn hm [] [4] [] ⟨[(4, iV .i64 31)], [], 0⟩ [] (by kernel_rfl) trivial ?_
                  refine AWp.conv (inv := []) (vk := []) (e0 := []) (t := ⟨[(4, iV .i64 31)], [], 0⟩) (by kernel_rfl) ?_
                  refine AWp.ret ?_
                  obtain rfl := Option.some.inj H
                  exact Exists.intro _ (And.intro (fun _ _ h => h) (And.intro rfl (And.intro rfl (And.intro (by kernel_rfl) (by kernel_rfl)))))
                · replace H := (ifF c1173).symm.trans H
                  refine AWp.skip ?_
                  refine reg hP hn hm [] [1, 2, 10, 11, 12] [4] ⟨[(1, .im (.row (a1.map eBucket))), (2, .ptr 4 0 0), (10, .im (.row (a1.map eBucket))), (11, iV .i64 (a1.length : Int)), (12, iV .i64 (IntKind.i64.wrap (x1145 + (1 : Int))))], [(4, some (.box 25 (aHist a0)))], 0⟩ [] (by kernel_rfl) trivial ?_
                  exact LWp.conv (inv := [(4, 2)]) (vk := []) (e0 := []) (t := ⟨[(1, .im (.row (a1.map eBucket))), (2, .ptr 2 0 0), (10, .im (.row (a1.map eBucket))), (11, iV .i64 (a1.length : Int)), (12, iV .i64 (IntKind.i64.wrap (x1145 + (1 : Int))))], [(2, some (.box 25 (aHist a0)))], 0⟩) (by kernel_rfl) (ih _ _ H)
      · replace H := (ifF c1146).symm.trans H
        refine AWp.exit ?_
        obtain rfl := Option.some.inj H
        exact Exists.intro _ (And.intro (fun _ _ h => h.conv (inv := []) (vk := []) (e0 := []) (t := ⟨[], [], 0⟩) (by kernel_rfl)) (And.intro rfl rfl))
    · rcases o1174 with rr | _
      · skip
        rintro e s ⟨rfl, hfl, hres⟩
        obtain rfl := Option.some.inj H
        exact Exists.intro _ (And.intro (fun _ _ h => h) (And.intro (.inl rfl) (And.intro hfl hres)))
      · skip
        rintro e s ⟨rfl, rfl⟩
        refine AWp.seq ?_
        refine reg hP hn hm [] [4] [] ⟨[(4, iV .i64 0)], [], 0⟩ [] (by kernel_rfl) trivial ?_
        refine AWp.conv (inv := []) (vk := []) (e0 := []) (t := ⟨[(4, iV .i64 0)], [], 0⟩) (by kernel_rfl) ?_
        refine AWp.ret ?_
        obtain rfl := Option.some.inj H
        exact Exists.intro _ (And.intro (fun _ _ h => h) (And.intro (.inl rfl) (And.intro rfl (And.intro (by kernel_rfl) (by kernel_rfl)))))
def f_hist_Check.l0 (a0 : THist) (x1183 : Int) : Option (Int ⊕ Unit) := if (decide (x1183 < (2 : Int))) = true then ((((chk (0 ≤ x1183 ∧ x1183 < (2 : Int))) >>= fun _ => if (x1183 == (0 : Int)) = true then (some a0.f6) else (some a0.f7)) : Option (List TBucket)) >>= fun x1189 => (f_hist_buckets.f a0 x1189) >>= fun t1192 => if (t1192 != (0 : Int)) = true then (some (.inl t1192)) else (f_hist_Check.l0 a0 (IntKind.i64.wrap (x1183 + (1 : Int))))) else (some (.inr ()))
partial_fixpoint
def f_hist_Check.f (a0 : THist) : Option (Int) := ((if (a0.f0 != (0 : Int)) = true then (some (a0.f0 != (1 : Int))) else (some false)) : Option (Bool)) >>= fun x1059 => if x1059 = true then (some 25) else ((f_bound_Right.f a0.f1) >>= fun t1068 => if (!t1068) = true then (some 20) else (((if (a0.f2 != (-524288)) = true then (if (decide (a0.f2 ≤ (-262144))) = true then (some true) else (some (decide (a0.f2 > (262144 : Int))))) else (some false)) : Option (Bool)) >>= fun x1075 => if x1075 = true then (some 31) else ((f_hist_Check.l0 a0 0) >>= fun oo => match oo with | .inl rr => (some rr) | .inr _ => ((f_hist_total.f [a0.f6, a0.f7, [(⟨0, a0.f3⟩ : TBucket)]]) >>= fun t1197 => if (t1197.2 != (0 : Int)) = true then (some t1197.2) else (if (t1197.1 != a0.f4) = true then (some 21) else (some 0))))))
theorem f_hist_Check.ok (a0 : THist) (r : Int) (H : f_hist_Check.f a0 = some r) : Pv.Fn Try.prog 13 [.agg (aHist a0)] [] 0 (fun x o => x = iV .i64 r ∧ o = []) := by
  unfold f_hist_Check.f at H
  refine Fn.bodyK [] Try.func13 rfl rfl (fun Γ hP hn => ?_)
  have hm : Try.prog.follows .mixedOrders = true := by kernel_rfl
  replace hn : Γ.n = 73 := hn
  refine AWp.seq ?_
  refine reg hP hn hm [(0, .k 0)] [1] [0] ⟨[(1, .ptr 0 0 0)], [(0, some (.box 25 (aHist a0)))], 0⟩ [] (by kernel_rfl) trivial ?_
  refine AWp.seq ?_
  refine AWp.block ?_
  refine AWp.seq ?_
  obtain ⟨o1201, e1202, H⟩ := bind_of H
  refine AWp.mono (Q := fun e s => (match (generalizing := false) o1201 with | x1059 => e = .normal ∧ s = ⟨[(1, .ptr 1 0 0), (8, bV x1059)], [(1, some (.box 25 (aHist a0)))], 0⟩)) (AWp.cv ?_) ?_
  · replace H := e1202; clear e1202
    rcases Bool.eq_false_or_eq_true (a0.f0 != (0 : Int)) with c1058 | c1058
    · replace H := (ifT c1058).symm.trans H
      refine reg hP hn hm [(3, .b true)] [1, 8] [0] ⟨[(1, .ptr 0 0 0), (8, bV (a0.f0 != (1 : Int)))], [(0, some (.box 25 (aHist a0)))], 0⟩ [(a0.f0 != (0 : Int)) = true] (by kernel_rfl) ⟨by exact c1058, trivial⟩ ?_
      obtain rfl := Option.some.inj H
      exact Exists.intro _ (And.intro (fun _ _ h => h.conv (inv := [(0, 1)]) (vk := []) (e0 := []) (t := ⟨[(1, .ptr 1 0 0), (8, bV (a0.f0 != (1 : Int)))], [(1, some (.box 25 (aHist a0)))], 0⟩) (by kernel_rfl)) (And.intro rfl rfl))
    · replace H := (ifF c1058).symm.trans H
      refine reg hP hn hm [(3, .b false)] [1, 8] [0] ⟨[(1, .ptr 0 0 0), (8, bV false)], [(0, some (.box 25 (aHist a0)))], 0⟩ [(a0.f0 != (0 : Int)) = false] (by kernel_rfl) ⟨by exact c1058, trivial⟩ ?_
      obtain rfl := Option.some.inj H
      exact Exists.intro _ (And.intro (fun _ _ h => h.conv (inv := [(0, 1)]) (vk := []) (e0 := []) (t := ⟨[(1, .ptr 1 0 0), (8, bV false)], [(1, some (.box 25 (aHist a0)))], 0⟩) (by kernel_rfl)) (And.intro rfl rfl))
  · obtain ⟨x1059, rfl⟩ : ∃ z, z = o1201 := ⟨_, rfl⟩
    rintro e s ⟨rfl, rfl⟩
    refine AWp.cond x1059 rfl (fun c1060 => ?_) (fun c1060 => ?_)
    · replace H := (ifT c1060).symm.trans H
      refine AWp.seq ?_
      refine reg hP hn hm [] [2] [] ⟨[(2, iV .i64 25)], [], 0⟩ [] (by kernel_rfl) trivial ?_
      refine AWp.conv (inv := []) (vk := []) (e0 := []) (t := ⟨[(2, iV .i64 25)], [], 0⟩) (by kernel_rfl) ?_
      refine AWp.ret ?_
      obtain rfl := Option.some.inj H
      exact Exists.intro _ (And.intro (fun _ _ h => h) (And.intro (.inl rfl) (And.intro rfl (And.intro (by kernel_rfl) (by kernel_rfl)))))
    · replace H := (ifF c1060).symm.trans H
      refine AWp.seq ?_
      obtain ⟨t1068, e1069, H⟩ := bind_of H
      refine reg hP hn hm [(2, .call [] [] [] [] 0 (bV t1068) [])] [1, 17] [1] ⟨[(1, .ptr 1 0 0), (17, bV (!t1068))], [(1, some (.box 25 (aHist a0)))], 0⟩ [Enters Try.prog 34, Pv.Fn Try.prog 34 [iV .i64 a0.f1] [] 0 (fun r o => r = bV t1068 ∧ o = [])] (by kernel_rfl) ⟨by exact Try.call34, by exact f_bound_Right.ok a0.f1 t1068 e1069, trivial⟩ ?_
      refine AWp.cond (!t1068) rfl (fun c1070 => ?_) (fun c1070 => ?_)
      · replace H := (ifT c1070).symm.trans H
        refine AWp.seq ?_
        refine reg hP hn hm [] [2] [] ⟨[(2, iV .i64 20)], [], 0⟩ [] (by kernel_rfl) trivial ?_
        refine AWp.conv (inv := []) (vk := []) (e0 := []) (t := ⟨[(2, iV .i64 20)], [], 0⟩) (by kernel_rfl) ?_
        refine AWp.ret ?_
        obtain rfl := Option.some.inj H
        exact Exists.intro _ (And.intro (fun _ _ h => h) (And.intro (.inl rfl) (And.intro rfl (And.intro (by kernel_rfl) (by kernel_rfl)))))
      · replace H := (ifF c1070).symm.trans H
        refine AWp.seq ?_
        obtain ⟨o1203, e1204, H⟩ := bind_of H
        refine AWp.mono (Q := fun e s => (match (generalizing := false) o1203 with | x1075 => e = .normal ∧ s = ⟨[(1, .ptr 2 0 0), (22, bV x1075)], [(2, some (.box 25 (aHist a0)))], 0⟩)) (AWp.cv ?_) ?_
        · replace H := e1204; clear e1204
          rcases Bool.eq_false_or_eq_true (a0.f2 != (-524288)) with c1073 | c1073
          · replace H := (ifT c1073).symm.trans H
            rcases Bool.eq_false_or_eq_true (decide (a0.f2 ≤ (-262144))) with c1074 | c1074
            · replace H := (ifT c1074).symm.trans H
              refine reg hP hn hm [(3, .b true), (7, .b true)] [1, 22] [1] ⟨[(1, .ptr 1 0 0), (22, bV true)], [(1, some (.box 25 (aHist a0)))], 0⟩ [(a0.f2 != (-524288)) = true, (decide (a0.f2 ≤ (-262144))) = true] (by kernel_rfl) ⟨by exact c1073, by exact c1074, trivial⟩ ?_
              obtain rfl := Option.some.inj H
              exact Exists.intro _ (And.intro (fun _ _ h => h.conv (inv := [(1, 2)]) (vk := []) (e0 := []) (t := ⟨[(1, .ptr 2 0 0), (22, bV true)], [(2, some (.box 25 (aHist a0)))], 0⟩) (by kernel_rfl)) (And.intro rfl rfl))
            · replace H := (ifF c1074).symm.trans H
              refine reg hP hn hm [(3, .b true), (7, .b false)] [1, 22] [1] ⟨[(1, .ptr 1 0 0), (22, bV (decide (a0.f2 > (262144 : Int))))], [(1, some (.box 25 (aHist a0)))], 0⟩ [(a0.f2 != (-524288)) = true, (decide (a0.f2 ≤ (-262144))) = false] (by kernel_rfl) ⟨by exact c1073, by exact c1074, trivial⟩ ?_
              obtain rfl := Option.some.inj H
              exact Exists.intro _ (And.intro (fun _ _ h => h.conv (inv := [(1, 2)]) (vk := []) (e0 := []) (t := ⟨[(1, .ptr 2 0 0), (22, bV (decide (a0.f2 > (262144 : Int))))], [(2, some (.box 25 (aHist a0)))], 0⟩) (by kernel_rfl)) (And.intro rfl rfl))
          · replace H := (ifF c1073).symm.trans H
            refine reg hP hn hm [(3, .b false)] [1, 22] [1] ⟨[(1, .ptr 1 0 0), (22, bV false)], [(1, some (.box 25 (aHist a0)))], 0⟩ [(a0.f2 != (-524288)) = false] (by kernel_rfl) ⟨by exact c1073, trivial⟩ ?_
            obtain rfl := Option.some.inj H
            exact Exists.intro _ (And.intro (fun _ _ h => h.conv (inv := [(1, 2)]) (vk := []) (e0 := []) (t := ⟨[(1, .ptr 2 0 0), (22, bV false)], [(2, some (.box 25 (aHist a0)))], 0⟩) (by kernel_rfl)) (And.intro rfl rfl))
        · obtain ⟨x1075, rfl⟩ : ∃ z, z = o1203 := ⟨_, rfl⟩
          rintro e s ⟨rfl, rfl⟩
          refine AWp.cond x1075 rfl (fun c1076 => ?_) (fun c1076 => ?_)
          · replace H := (ifT c1076).symm.trans H
            refine AWp.seq ?_
            refine reg hP hn hm [] [2] [] ⟨[(2, iV .i64 31)], [], 0⟩ [] (by kernel_rfl) trivial ?_
            refine AWp.conv (inv := []) (vk := []) (e0 := []) (t := ⟨[(2, iV .i64 31)], [], 0⟩) (by kernel_rfl) ?_
            refine AWp.ret ?_
            obtain rfl := Option.some.inj H
            exact Exists.intro _ (And.intro (fun _ _ h => h) (And.intro (.inl rfl) (And.intro rfl (And.intro (by kernel_rfl) (by kernel_rfl)))))
          · replace H := (ifF c1076).symm.trans H
            refine AWp.skip ?_
            refine AWp.seq ?_
            refine AWp.seq ?_
            refine reg hP hn hm [] [1, 40, 41] [2] ⟨[(1, .ptr 2 0 0), (40, .agg [.im (.row (a0.f6.map eBucket)), .im (.row (a0.f7.map eBucket))]), (41, iV .i64 0)], [(2, some (.box 25 (aHist a0)))], 0⟩ [] (by kernel_rfl) trivial ?_
            refine AWp.block ?_
            obtain ⟨o1205, e1206, H⟩ := bind_of H
            refine AWp.loop (LWp.conv (inv := [(2, 3)]) (vk := []) (e0 := []) (t := ⟨[(1, .ptr 3 0 0), (40, .agg [.im (.row (a0.f6.map eBucket)), .im (.row (a0.f7.map eBucket))]), (41, iV .i64 0)], [(3, some (.box 25 (aHist a0)))], 0⟩) (by kernel_rfl) ?_)
            refine LWp.mono (Q := fun e s => (match (generalizing := false) o1205 with | .inl rr => e = .ret ∧ s.floor = 0 ∧ resOf Try.prog Try.f13 s = some (iV .i64 rr) ∧ ([] : List (Nat × Option MObj)) = [] | .inr _ => e = .exit 1 ∧ s = ⟨[(1, .ptr 5 0 0)], [(5, some (.box 25 (aHist a0)))], 0⟩)) (LWp.cv (withBody (fun body hbody => ?_))) ?_
            · refine f_hist_Check.l0.partial_correctness a0 (motive := fun x1183 o1205 => LWp Γ body (fun e s => ∃ t, Cv Γ s t ∧ (match (generalizing := false) o1205 with | .inl rr => e = .ret ∧ t.floor = 0 ∧ resOf Try.prog Try.f13 t = some (iV .i64 rr) ∧ ([] : List (Nat × Option MObj)) = [] | .inr _ => e = .exit 1 ∧ t = ⟨[(1, .ptr 5 0 0)], [(5, some (.box 25 (aHist a0)))], 0⟩)) ⟨[(1, .ptr 3 0 0), (40, .agg [.im (.row (a0.f6.map eBucket)), .im (.row (a0.f7.map eBucket))]), (41, iV .i64 x1183)], [(3, some (.box 25 (aHist a0)))], 0⟩) ?_ _ _ e1206
              clear H e1206 o1205; intro self ih x1183 o1205 H
              subst hbody
              refine LWp.round ?_
              refine AWp.seq ?_
              refine reg hP hn hm [] [1, 40, 41, 42] [3] ⟨[(1, .ptr 3 0 0), (40, .agg [.im (.row (a0.f6.map eBucket)), .im (.row (a0.f7.map eBucket))]), (41, iV .i64 x1183), (42, bV (decide (x1183 < (2 : Int))))], [(3, some (.box 25 (aHist a0)))], 0⟩ [] (by kernel_rfl) trivial ?_
              refine AWp.seq ?_
              refine AWp.cond (decide (x1183 < (2 : Int))) rfl (fun c1184 => ?_) (fun c1184 => ?_)
              · replace H := (ifT c1184).symm.trans H
                refine AWp.skip ?_
                refine AWp.seq ?_
                refine AWp.block ?_
                refine AWp.seq ?_
                obtain ⟨o1207, e1208, H⟩ := bind_of H
                refine AWp.mono (Q := fun e s => (match (generalizing := false) o1207 with | x1189 => e = .normal ∧ s = ⟨[(1, .ptr 4 0 0), (4, .im (.row (x1189.map eBucket))), (40, .agg [.im (.row (a0.f6.map eBucket)), .im (.row (a0.f7.map eBucket))]), (41, iV .i64 x1183)], [(4, some (.box 25 (aHist a0)))], 0⟩)) (AWp.cv ?_) ?_
                · replace H := e1208; clear e1208
                  obtain ⟨c1187, H⟩ := chk_of H
                  rcases Bool.eq_false_or_eq_true (x1183 == (0 : Int)) with c1188 | c1188
                  · replace H := (ifT c1188).symm.trans H
                    refine reg hP hn hm [(0, .more (xIdx 0))] [1, 4, 40, 41] [3] ⟨[(1, .ptr 3 0 0), (4, .im (.row (a0.f6.map eBucket))), (40, .agg [.im (.row (a0.f6.map eBucket)), .im (.row (a0.f7.map eBucket))]), (41, iV .i64 x1183)], [(3, some (.box 25 (aHist a0)))], 0⟩ [x1183 = ((0 : Nat) : Int)] (by kernel_rfl) ⟨by exact (by simpa using c1188), trivial⟩ ?_
                    obtain rfl := Option.some.inj H
                    exact Exists.intro _ (And.intro (fun _ _ h => h.conv (inv := [(3, 4)]) (vk := []) (e0 := []) (t := ⟨[(1, .ptr 4 0 0), (4, .im (.row (a0.f6.map eBucket))), (40, .agg [.im (.row (a0.f6.map eBucket)), .im (.row (a0.f7.map eBucket))]), (41, iV .i64 x1183)], [(4, some (.box 25 (aHist a0)))], 0⟩) (by kernel_rfl)) (And.intro rfl rfl))
                  · replace H := (ifF c1188).symm.trans H
                    refine reg hP hn hm [(0, .more (xIdx 1))] [1, 4, 40, 41] [3] ⟨[(1, .ptr 3 0 0), (4, .im (.row (a0.f7.map eBucket))), (40, .agg [.im (.row (a0.f6.map eBucket)), .im (.row (a0.f7.map eBucket))]), (41, iV .i64 x1183)], [(3, some (.box 25 (aHist a0)))], 0⟩ [x1183 = ((1 : Nat) : Int)] (by kernel_rfl) ⟨by have := c1187; simp only [beq_eq_false_iff_ne] at *; omega, trivial⟩ ?_
                    obtain rfl := Option.some.inj H
                    exact Exists.intro _ (And.intro (fun _ _ h => h.conv (inv := [(3, 4)]) (vk := []) (e0 := []) (t := ⟨[(1, .ptr 4 0 0), (4, .im (.row (a0.f7.map eBucket))), (40, .agg [.im (.row (a0.f6.map eBucket)), .im (.row (a0.f7.map eBucket))]), (41, iV .i64 x1183)], [(4, some (.box 25 (aHist a0)))], 0⟩) (by kernel_rfl)) (And.intro rfl rfl))
                · obtain ⟨x1189, rfl⟩ : ∃ z, z = o1207 := ⟨_, rfl⟩
                  rintro e s ⟨rfl, rfl⟩
                  refine AWp.seq ?_
                  obtain ⟨t1192, e1193, H⟩ := bind_of H
                  refine reg hP hn hm [(2, .call [] [] [] [] 0 (iV .i64 t1192) [])] [1, 5, 40, 41] [4] ⟨[(1, .ptr 4 0 0), (5, iV .i64 t1192), (40, .agg [.im (.row (a0.f6.map eBucket)), .im (.row (a0.f7.map eBucket))]), (41, iV .i64 x1183)], [(4, some (.box 25 (aHist a0)))], 0⟩ [Enters Try.prog 37, Pv.Fn Try.prog 37 [.agg (aHist a0), .im (.row (x1189.map eBucket))] [] 0 (fun r o => r = iV .i64 t1192 ∧ o = [])] (by kernel_rfl) ⟨by exact Try.call37, by exact f_hist_buckets.ok a0 x1189 t1192 e1193, trivial⟩ ?_
                  refine AWp.seq ?_
                  refine reg hP hn hm [] [1, 5, 40, 41, 48] [4] ⟨[(1, .ptr 4 0 0), (5, iV .i64 t1192), (40, .agg [.im (.row (a0.f6.map eBucket)), .im (.row (a0.f7.map eBucket))]), (41, iV .i64 x1183), (48, bV (t1192 != (0 : Int)))], [(4, some (.box 25 (aHist a0)))], 0⟩ [] (by kernel_rfl) trivial ?_
                  refine AWp.cond (t1192 != (0 : Int)) rfl (fun c1194 => ?_) (fun c1194 => ?_)
                  · replace H := (ifT c1194).symm.trans H
                    refine AWp.seq ?_
                    refine reg hP hn hm [] [2] [] ⟨[(2, iV .i64 t1192)], [], 0⟩ [] (by kernel_rfl) trivial ?_
                    refine AWp.conv (inv := []) (vk := []) (e0 := []) (t := ⟨[(2, iV .i64 t1192)], [], 0⟩) (by kernel_rfl) ?_
                    refine AWp.ret ?_
                    obtain rfl := Option.some.inj H
                    exact Exists.intro _ (And.intro (fun _ _ h => h) (And.intro rfl (And.intro rfl (And.intro (by kernel_rfl) (by kernel_rfl)))))
                  · replace H := (ifF c1194).symm.trans H
                    refine AWp.skip ?_
                    refine reg hP hn hm [] [1, 40, 41] [4] ⟨[(1, .ptr 4 0 0), (40, .agg [.im (.row (a0.f6.map eBucket)), .im (.row (a0.f7.map eBucket))]), (41, iV .i64 (IntKind.i64.wrap (x1183 + (1 : Int))))], [(4, some (.box 25 (aHist a0)))], 0⟩ [] (by kernel_rfl) trivial ?_
                    exact LWp.conv (inv := [(4, 3)]) (vk := []) (e0 := []) (t := ⟨[(1, .ptr 3 0 0), (40, .agg [.im (.row (a0.f6.map eBucket)), .im (.row (a0.f7.map eBucket))]), (41, iV .i64 (IntKind.i64.wrap (x1183 + (1 : Int))))], [(3, some (.box 25 (aHist a0)))], 0⟩) (by kernel_rfl) (ih _ _ H)
              · replace H := (ifF c1184).symm.trans H
                refine AWp.exit ?_
                obtain rfl := Option.some.inj H
                exact Exists.intro _ (And.intro (fun _ _ h => h.conv (inv := [(3, 5)]) (vk := []) (e0 := []) (t := ⟨[(1, .ptr 5 0 0)], [(5, some (.box 25 (aHist a0)))], 0⟩) (by kernel_rfl)) (And.intro rfl rfl))
            · rcases o1205 with rr | _
              · skip
                rintro e s ⟨rfl, hfl, hres⟩
                obtain rfl := Option.some.inj H
                exact Exists.intro _ (And.intro (fun _ _ h => h) (And.intro (.inl rfl) (And.intro hfl hres)))
              · skip
                rintro e s ⟨rfl, rfl⟩
                refine AWp.seq ?_
                obtain ⟨t1197, e1198, H⟩ := bind_of H
                refine reg hP hn hm [(7, .more (xFz (.app 6 ([(⟨0, a0.f3⟩ : TBucket)].map eBucket)))), (8, .app 7 ([a0.f6, a0.f7, [(⟨0, a0.f3⟩ : TBucket)]].map (encRow eBucket))), (9, .call [] [] [7] [] 0 (.tup [iV .u64 t1197.1, iV .i64 t1197.2]) [])] [1, 6, 7] [5] ⟨[(1, .ptr 5 0 0), (6, iV .u64 t1197.1), (7, iV .i64 t1197.2)], [(5, some (.box 25 (aHist a0)))], 0⟩ [[(⟨0, a0.f3⟩ : TBucket)].map eBucket = [[iI .i64 0, iI .u64 a0.f3]], [a0.f6, a0.f7, [(⟨0, a0.f3⟩ : TBucket)]].map (encRow eBucket) = [[.row (a0.f6.map eBucket)], [.row (a0.f7.map eBucket)], [.row ([(⟨0, a0.f3⟩ : TBucket)].map eBucket)]], Enters Try.prog 38, Pv.Fn Try.prog 38 [.im (.row ([a0.f6, a0.f7, [(⟨0, a0.f3⟩ : TBucket)]].map (encRow eBucket)))] [] 0 (fun r o => r = .tup [iV .u64 t1197.1, iV .i64 t1197.2] ∧ o = [])] (by kernel_rfl) ⟨by exact rfl, by exact rfl, by exact Try.call38, by exact f_hist_total.ok [a0.f6, a0.f7, [(⟨0, a0.f3⟩ : TBucket)]] t1197 e1198, trivial⟩ ?_
                refine AWp.seq ?_
                refine AWp.block ?_
                refine AWp.seq ?_
                refine reg hP hn hm [] [1, 6, 7, 64] [5] ⟨[(1, .ptr 5 0 0), (6, iV .u64 t1197.1), (7, iV .i64 t1197.2), (64, bV (t1197.2 != (0 : Int)))], [(5, some (.box 25 (aHist a0)))], 0⟩ [] (by kernel_rfl) trivial ?_
                refine AWp.cond (t1197.2 != (0 : Int)) rfl (fun c1199 => ?_) (fun c1199 => ?_)
                · replace H := (ifT c1199).symm.trans H
                  refine AWp.seq ?_
                  refine reg hP hn hm [] [2] [] ⟨[(2, iV .i64 t1197.2)], [], 0⟩ [] (by kernel_rfl) trivial ?_
                  refine AWp.conv (inv := []) (vk := []) (e0 := []) (t := ⟨[(2, iV .i64 t1197.2)], [], 0⟩) (by kernel_rfl) ?_
                  refine AWp.ret ?_
                  obtain rfl := Option.some.inj H
                  exact Exists.intro _ (And.intro (fun _ _ h => h) (And.intro (.inl rfl) (And.intro rfl (And.intro (by kernel_rfl) (by kernel_rfl)))))
                · replace H := (ifF c1199).symm.trans H
                  refine AWp.seq ?_
                  refine reg hP hn hm [] [68] [] ⟨[(68, bV (t1197.1 != a0.f4))], [], 0⟩ [] (by kernel_rfl) trivial ?_
                  refine AWp.cond (t1197.1 != a0.f4) rfl (fun c1200 => ?_) (fun c1200 => ?_)
                  · replace H := (ifT c1200).symm.trans H
                    refine AWp.seq ?_
                    refine reg hP hn hm [] [2] [] ⟨[(2, iV .i64 21)], [], 0⟩ [] (by kernel_rfl) trivial ?_
                    refine AWp.conv (inv := []) (vk := []) (e0 := []) (t := ⟨[(2, iV .i64 21)], [], 0⟩) (by kernel_rfl) ?_
                    refine AWp.ret ?_
                    obtain rfl := Option.some.inj H
                    exact Exists.intro _ (And.intro (fun _ _ h => h) (And.intro (.inl rfl) (And.intro rfl (And.intro (by kernel_rfl) (by kernel_rfl)))))
                  · replace H := (ifF c1200).symm.trans H
                    refine AWp.skip ?_
                    refine AWp.seq ?_
                    refine reg hP hn hm [] [2] [] ⟨[(2, iV .i64 0)], [], 0⟩ [] (by kernel_rfl) trivial ?_
                    refine AWp.conv (inv := []) (vk := []) (e0 := []) (t := ⟨[(2, iV .i64 0)], [], 0⟩) (by kernel_rfl) ?_
                    refine AWp.ret ?_
                    obtain rfl := Option.some.inj H
                    exact Exists.intro _ (And.intro (fun _ _ h => h) (And.intro (.inl rfl) (And.intro rfl (And.intro (by kernel_rfl) (by kernel_rfl)))))
def f_hist_Make.f (a0 : THist) (a1 : List TBucket) (a2 : List TBucket) : Option (THist × Int) := (f_hist_tidy.f a1) >>= fun t968 => (f_hist_tidy.f a2) >>= fun t972 => if ((if t972.2 > t968.2 then t972.2 else t968.2) != (0 : Int)) = true then (some ((⟨0, 0, 0, 0, 0, 0, [], []⟩ : THist), (if t972.2 > t968.2 then t972.2 else t968.2))) else ((f_hist_total.f [t968.1, t972.1, [(⟨0, a0.f3⟩ : TBucket)]]) >>= fun t1054 => if (t1054.2 != (0 : Int)) = true then (some ((⟨0, 0, 0, 0, 0, 0, [], []⟩ : THist), t1054.2)) else ((f_hist_Check.f (⟨a0.f0, a0.f1, a0.f2, a0.f3, t1054.1, a0.f5, t968.1, t972.1⟩ : THist)) >>= fun t1211 => if (t1211 != (0 : Int)) = true then (some ((⟨0, 0, 0, 0, 0, 0, [], []⟩ : THist), t1211)) else (some ((⟨a0.f0, a0.f1, a0.f2, a0.f3, t1054.1, a0.f5, t968.1, t972.1⟩ : THist), 0))))
theorem f_hist_Make.ok (a0 : THist) (a1 : List TBucket) (a2 : List TBucket) (r : THist × Int) (H : f_hist_Make.f a0 a1 a2 = some r) : Pv.Fn Try.prog 33 [.agg (aHist a0), .im (.row (a1.map eBucket)), .im (.row (a2.map eBucket))] [] 0 (fun x o => x = .tup [.agg (aHist (r.1)), iV .i64 r.2] ∧ o = []) := by
  unfold f_hist_Make.f at H
  refine Fn.bodyK [] Try.func33 rfl rfl (fun Γ hP hn => ?_)
  have hm : Try.prog.follows .mixedOrders = true := by kernel_rfl
  replace hn : Γ.n = 55 := hn
  refine AWp.seq ?_
  refine reg hP hn hm [(0, .k 0), (1, .k 1)] [1, 2, 3, 6] [0, 1] ⟨[(1, .im (.row (a1.map eBucket))), (2, .im (.row (a2.map eBucket))), (3, .ptr 0 0 0), (6, .ptr 1 0 0)], [(0, some (.box 25 (aHist a0))), (1, some (.box 25 [iV .i64 0, iV .i64 0, iV .i64 0, iV .u64 0, iV .u64 0, iV .i64 0, .none0, .none0]))], 0⟩ [] (by kernel_rfl) trivial ?_
  refine AWp.seq ?_
  refine reg hP hn hm [] [1, 2, 3, 6] [0, 1] ⟨[(1, .im (.row (a1.map eBucket))), (2, .im (.row (a2.map eBucket))), (3, .ptr 0 0 0), (6, .ptr 1 0 0)], [(0, some (.box 25 (aHist a0))), (1, some (.box 25 [iV .i64 0, iV .i64 0, iV .i64 0, iV .u64 0, iV .u64 0, iV .i64 0, .none0, .none0]))], 0⟩ [] (by kernel_rfl) trivial ?_
  refine AWp.seq ?_
  obtain ⟨t968, e969, H⟩ := bind_of H
  refine reg hP hn hm [(1, .call [] [(0, 2)] [] [2] 0 (.tup [.own 0, iV .i64 t968.2]) [(0, some (.row 2 54 (t968.1.map eBucket)))])] [2, 3, 6, 8] [0, 1, 2] ⟨[(2, .im (.row (a2.map eBucket))), (3, .ptr 0 0 0), (6, .ptr 1 0 0), (8, iV .i64 t968.2)], [(0, some (.box 25 [iV .i64 a0.f0, iV .i64 a0.f1, iV .i64 a0.f2, iV .u64 a0.f3, iV .u64 a0.f4, iV .i64 a0.f5, .own 2, .im (.row (a0.f7.map eBucket))])), (1, some (.box 25 [iV .i64 0, iV .i64 0, iV .i64 0, iV .u64 0, iV .u64 0, iV .i64 0, .none0, .none0])), (2, some (.row 2 54 (t968.1.map eBucket)))], 0⟩ [Enters Try.prog 56, Pv.Fn Try.prog 56 [.im (.row (a1.map eBucket))] [] 0 (fun r o => r = .tup [.own 0, iV .i64 t968.2] ∧ o = [(0, some (.row 2 54 (t968.1.map eBucket)))])] (by kernel_rfl) ⟨by exact Try.call56, by exact f_hist_tidy.ok a1 t968 e969, trivial⟩ ?_
  refine AWp.seq ?_
  obtain ⟨t972, e973, H⟩ := bind_of H
  refine reg hP hn hm [(1, .call [] [(0, 3)] [] [3] 0 (.tup [.own 0, iV .i64 t972.2]) [(0, some (.row 2 54 (t972.1.map eBucket)))])] [3, 6, 8, 9] [0, 1, 2, 3] ⟨[(3, .ptr 0 0 0), (6, .ptr 1 0 0), (8, iV .i64 t968.2), (9, iV .i64 t972.2)], [(0, some (.box 25 [iV .i64 a0.f0, iV .i64 a0.f1, iV .i64 a0.f2, iV .u64 a0.f3, iV .u64 a0.f4, iV .i64 a0.f5, .own 2, .own 3])), (1, some (.box 25 [iV .i64 0, iV .i64 0, iV .i64 0, iV .u64 0, iV .u64 0, iV .i64 0, .none0, .none0])), (2, some (.row 2 54 (t968.1.map eBucket))), (3, some (.row 2 54 (t972.1.map eBucket)))], 0⟩ [Enters Try.prog 56, Pv.Fn Try.prog 56 [.im (.row (a2.map eBucket))] [] 0 (fun r o => r = .tup [.own 0, iV .i64 t972.2] ∧ o = [(0, some (.row 2 54 (t972.1.map eBucket)))])] (by kernel_rfl) ⟨by exact Try.call56, by exact f_hist_tidy.ok a2 t972 e973, trivial⟩ ?_
  refine AWp.seq ?_
  refine AWp.seq ?_
  refine reg hP hn hm [(2, .more xMax)] [3, 6, 8] [0, 1, 2, 3] ⟨[(3, .ptr 0 0 0), (6, .ptr 1 0 0), (8, iV .i64 (if t972.2 > t968.2 then t972.2 else t968.2))], [(0, some (.box 25 [iV .i64 a0.f0, iV .i64 a0.f1, iV .i64 a0.f2, iV .u64 a0.f3, iV .u64 a0.f4, iV .i64 a0.f5, .own 2, .own 3])), (1, some (.box 25 [iV .i64 0, iV .i64 0, iV .i64 0, iV .u64 0, iV .u64 0, iV .i64 0, .none0, .none0])), (2, some (.row 2 54 (t968.1.map eBucket))), (3, some (.row 2 54 (t972.1.map eBucket)))], 0⟩ [] (by kernel_rfl) trivial ?_
  refine AWp.seq ?_
  refine reg hP hn hm [] [3, 6, 8, 27] [0, 1, 2, 3] ⟨[(3, .ptr 0 0 0), (6, .ptr 1 0 0), (8, iV .i64 (if t972.2 > t968.2 then t972.2 else t968.2)), (27, bV ((if t972.2 > t968.2 then t972.2 else t968.2) != (0 : Int)))], [(0, some (.box 25 [iV .i64 a0.f0, iV .i64 a0.f1, iV .i64 a0.f2, iV .u64 a0.f3, iV .u64 a0.f4, iV .i64 a0.f5, .own 2, .own 3])), (1, some (.box 25 [iV .i64 0, iV .i64 0, iV .i64 0, iV .u64 0, iV .u64 0, iV .i64 0, .none0, .none0])), (2, some (.row 2 54 (t968.1.map eBucket))), (3, some (.row 2 54 (t972.1.map eBucket)))], 0⟩ [] (by kernel_rfl) trivial ?_
  refine AWp.cond ((if t972.2 > t968.2 then t972.2 else t968.2) != (0 : Int)) rfl (fun c974 => ?_) (fun c974 => ?_)
  · replace H := (ifT c974).symm.trans H
    refine AWp.seq ?_
    refine reg hP hn hm [] [6, 7] [1] ⟨[(6, .ptr 1 0 0), (7, iV .i64 (if t972.2 > t968.2 then t972.2 else t968.2))], [(1, some (.box 25 [iV .i64 0, iV .i64 0, iV .i64 0, iV .u64 0, iV .u64 0, iV .i64 0, .none0, .none0]))], 0⟩ [] (by kernel_rfl) trivial ?_
    refine AWp.conv (inv := [(1, 0)]) (vk := []) (e0 := []) (t := ⟨[(6, .ptr 0 0 0), (7, iV .i64 (if t972.2 > t968.2 then t972.2 else t968.2))], [(0, some (.box 25 (aHist ((⟨0, 0, 0, 0, 0, 0, [], []⟩ : THist)))))], 0⟩) (by kernel_rfl) ?_
    refine AWp.ret ?_
    obtain rfl := Option.some.inj H
    exact Exists.intro _ (And.intro (fun _ _ h => h) (And.intro (.inl rfl) (And.intro rfl (And.intro (by kernel_rfl) (by kernel_rfl)))))
  · replace H := (ifF c974).symm.trans H
    refine AWp.skip ?_
    refine AWp.seq ?_
    refine AWp.seq ?_
    refine AWp.conv (inv := [(0, 0), (1, 1)]) (vk := [2, 3]) (e0 := []) (t := ⟨[(3, .ptr 0 0 0), (6, .ptr 1 0 0), (8, iV .i64 (if t972.2 > t968.2 then t972.2 else t968.2)), (27, bV ((if t972.2 > t968.2 then t972.2 else t968.2) != (0 : Int)))], [(0, some (.box 25 (aHist ⟨a0.f0, a0.f1, a0.f2, a0.f3, a0.f4, a0.f5, t968.1, t972.1⟩))), (1, some (.box 25 [iV .i64 0, iV .i64 0, iV .i64 0, iV .u64 0, iV .u64 0, iV .i64 0, .none0, .none0]))], 0⟩) (by kernel_rfl) ?_
    obtain ⟨t1054, e1055, H⟩ := bind_of H
    refine reg hP hn hm [(7, .more (xFz (.app 4 ([(⟨0, a0.f3⟩ : TBucket)].map eBucket)))), (8, .app 5 ([t968.1, t972.1, [(⟨0, a0.f3⟩ : TBucket)]].map (encRow eBucket))), (9, .call [] [] [5] [] 0 (.tup [iV .u64 t1054.1, iV .i64 t1054.2]) [])] [3, 6, 8] [0, 1] ⟨[(3, .ptr 0 0 0), (6, .ptr 1 0 0), (8, iV .i64 t1054.2)], [(0, some (.box 25 (aHist ⟨a0.f0, a0.f1, a0.f2, a0.f3, t1054.1, a0.f5, t968.1, t972.1⟩))), (1, some (.box 25 [iV .i64 0, iV .i64 0, iV .i64 0, iV .u64 0, iV .u64 0, iV .i64 0, .none0, .none0]))], 0⟩ [[(⟨0, a0.f3⟩ : TBucket)].map eBucket = [[iI .i64 0, iI .u64 a0.f3]], [t968.1, t972.1, [(⟨0, a0.f3⟩ : TBucket)]].map (encRow eBucket) = [[.row (t968.1.map eBucket)], [.row (t972.1.map eBucket)], [.row ([(⟨0, a0.f3⟩ : TBucket)].map eBucket)]], Enters Try.prog 38, Pv.Fn Try.prog 38 [.im (.row ([t968.1, t972.1, [(⟨0, a0.f3⟩ : TBucket)]].map (encRow eBucket)))] [] 0 (fun r o => r = .tup [iV .u64 t1054.1, iV .i64 t1054.2] ∧ o = [])] (by kernel_rfl) ⟨by exact rfl, by exact rfl, by exact Try.call38, by exact f_hist_total.ok [t968.1, t972.1, [(⟨0, a0.f3⟩ : TBucket)]] t1054 e1055, trivial⟩ ?_
    refine AWp.seq ?_
    refine reg hP hn hm [] [3, 6, 8, 45] [0, 1] ⟨[(3, .ptr 0 0 0), (6, .ptr 1 0 0), (8, iV .i64 t1054.2), (45, bV (t1054.2 != (0 : Int)))], [(0, some (.box 25 (aHist ⟨a0.f0, a0.f1, a0.f2, a0.f3, t1054.1, a0.f5, t968.1, t972.1⟩))), (1, some (.box 25 [iV .i64 0, iV .i64 0, iV .i64 0, iV .u64 0, iV .u64 0, iV .i64 0, .none0, .none0]))], 0⟩ [] (by kernel_rfl) trivial ?_
    refine AWp.cond (t1054.2 != (0 : Int)) rfl (fun c1056 => ?_) (fun c1056 => ?_)
    · replace H := (ifT c1056).symm.trans H
      refine AWp.seq ?_
      refine reg hP hn hm [] [6, 7] [1] ⟨[(6, .ptr 1 0 0), (7, iV .i64 t1054.2)], [(1, some (.box 25 [iV .i64 0, iV .i64 0, iV .i64 0, iV .u64 0, iV .u64 0, iV .i64 0, .none0, .none0]))], 0⟩ [] (by kernel_rfl) trivial ?_
      refine AWp.conv (inv := [(1, 0)]) (vk := []) (e0 := []) (t := ⟨[(6, .ptr 0 0 0), (7, iV .i64 t1054.2)], [(0, some (.box 25 (aHist ((⟨0, 0, 0, 0, 0, 0, [], []⟩ : THist)))))], 0⟩) (by kernel_rfl) ?_
      refine AWp.ret ?_
      obtain rfl := Option.some.inj H
      exact Exists.intro _ (And.intro (fun _ _ h => h) (And.intro (.inl rfl) (And.intro rfl (And.intro (by kernel_rfl) (by kernel_rfl)))))
    · replace H := (ifF c1056).symm.trans H
      refine AWp.skip ?_
      refine AWp.seq ?_
      refine AWp.seq ?_
      obtain ⟨t1211, e1212, H⟩ := bind_of H
      refine reg hP hn hm [(1, .call [] [] [] [] 0 (iV .i64 t1211) [])] [3, 6, 10] [0, 1] ⟨[(3, .ptr 0 0 0), (6, .ptr 1 0 0), (10, iV .i64 t1211)], [(0, some (.box 25 (aHist ⟨a0.f0, a0.f1, a0.f2, a0.f3, t1054.1, a0.f5, t968.1, t972.1⟩))), (1, some (.box 25 [iV .i64 0, iV .i64 0, iV .i64 0, iV .u64 0, iV .u64 0, iV .i64 0, .none0, .none0]))], 0⟩ [Enters Try.prog 13, Pv.Fn Try.prog 13 [.agg (aHist ⟨a0.f0, a0.f1, a0.f2, a0.f3, t1054.1, a0.f5, t968.1, t972.1⟩)] [] 0 (fun r o => r = iV .i64 t1211 ∧ o = [])] (by kernel_rfl) ⟨by exact Try.call13, by exact f_hist_Check.ok (⟨a0.f0, a0.f1, a0.f2, a0.f3, t1054.1, a0.f5, t968.1, t972.1⟩ : THist) t1211 e1212, trivial⟩ ?_
      refine AWp.seq ?_
      refine reg hP hn hm [] [3, 6, 10, 51] [0, 1] ⟨[(3, .ptr 0 0 0), (6, .ptr 1 0 0), (10, iV .i64 t1211), (51, bV (t1211 != (0 : Int)))], [(0, some (.box 25 (aHist ⟨a0.f0, a0.f1, a0.f2, a0.f3, t1054.1, a0.f5, t968.1, t972.1⟩))), (1, some (.box 25 [iV .i64 0, iV .i64 0, iV .i64 0, iV .u64 0, iV .u64 0, iV .i64 0, .none0, .none0]))], 0⟩ [] (by kernel_rfl) trivial ?_
      refine AWp.cond (t1211 != (0 : Int)) rfl (fun c1213 => ?_) (fun c1213 => ?_)
      · replace H := (ifT c1213).symm.trans H
        refine AWp.seq ?_
        refine reg hP hn hm [] [6, 7] [1] ⟨[(6, .ptr 1 0 0), (7, iV .i64 t1211)], [(1, some (.box 25 [iV .i64 0, iV .i64 0, iV .i64 0, iV .u64 0, iV .u64 0, iV .i64 0, .none0, .none0]))], 0⟩ [] (by kernel_rfl) trivial ?_
        refine AWp.conv (inv := [(1, 0)]) (vk := []) (e0 := []) (t := ⟨[(6, .ptr 0 0 0), (7, iV .i64 t1211)], [(0, some (.box 25 (aHist ((⟨0, 0, 0, 0, 0, 0, [], []⟩ : THist)))))], 0⟩) (by kernel_rfl) ?_
        refine AWp.ret ?_
        obtain rfl := Option.some.inj H
        exact Exists.intro _ (And.intro (fun _ _ h => h) (And.intro (.inl rfl) (And.intro rfl (And.intro (by kernel_rfl) (by kernel_rfl)))))
      · replace H := (ifF c1213).symm.trans H
        refine AWp.skip ?_
        refine AWp.seq ?_
        refine reg hP hn hm [] [6, 7] [1] ⟨[(6, .ptr 1 0 0), (7, iV .i64 0)], [(1, some (.box 25 (aHist ⟨a0.f0, a0.f1, a0.f2, a0.f3, t1054.1, a0.f5, t968.1, t972.1⟩)))], 0⟩ [] (by kernel_rfl) trivial ?_
        refine AWp.conv (inv := [(1, 0)]) (vk := []) (e0 := []) (t := ⟨[(6, .ptr 0 0 0), (7, iV .i64 0)], [(0, some (.box 25 (aHist ((⟨a0.f0, a0.f1, a0.f2, a0.f3, t1054.1, a0.f5, t968.1, t972.1⟩ : THist)))))], 0⟩) (by kernel_rfl) ?_
        refine AWp.ret ?_
        obtain rfl := Option.some.inj H
        exact Exists.intro _ (And.intro (fun _ _ h => h) (And.intro (.inl rfl) (And.intro rfl (And.intro (by kernel_rfl) (by kernel_rfl)))))
def f_num_Up.f (a0 : Int) (a1 : Int) : Option (Unit) := (chk (0 ≤ a1)) >>= fun _ => some ()
theorem f_num_Up.ok (a0 : Int) (a1 : Int) (r : Unit) (H : f_num_Up.f a0 a1 = some r) : Pv.Fn Try.prog 72 [iV .i64 a0, iV .u64 a1] [] 0 (fun x o => x = iV .i64 (IntKind.i64.wrap (0 - (Int.fdiv (IntKind.i64.wrap (0 - a0)) (2 ^ (min (Int.toNat (a1)) 64))))) ∧ o = []) := by
  unfold f_num_Up.f at H
  refine Fn.bodyK [] Try.func72 rfl rfl (fun Γ hP hn => ?_)
  have hm : Try.prog.follows .mixedOrders = true := by kernel_rfl
  replace hn : Γ.n = 10 := hn
  refine AWp.seq ?_
  refine reg hP hn hm [] [0, 1] [] ⟨[(0, iV .i64 a0), (1, iV .u64 a1)], [], 0⟩ [] (by kernel_rfl) trivial ?_
  refine AWp.seq ?_
  obtain ⟨c1255, H⟩ := chk_of H
  refine reg hP hn hm [] [4] [] ⟨[(4, iV .i64 (IntKind.i64.wrap (0 - (Int.fdiv (IntKind.i64.wrap (0 - a0)) (2 ^ (min (Int.toNat (a1)) 64))))))], [], 0⟩ [0 ≤ a1] (by kernel_rfl) ⟨by exact c1255, trivial⟩ ?_
  refine AWp.conv (inv := []) (vk := []) (e0 := []) (t := ⟨[(4, iV .i64 (IntKind.i64.wrap (0 - (Int.fdiv (IntKind.i64.wrap (0 - a0)) (2 ^ (min (Int.toNat (a1)) 64))))))], [], 0⟩) (by kernel_rfl) ?_
  refine AWp.ret ?_
  obtain rfl := Option.some.inj H
  exact Exists.intro _ (And.intro (fun _ _ h => h) (And.intro (.inl rfl) (And.intro rfl (And.intro (by kernel_rfl) (by kernel_rfl)))))
def f_bound_To.f (a0 : Int) (a1 : Int) (a2 : Int) : Option (Int × Int) := (((f_bound_Right.f a0) >>= fun t1241 => if (!t1241) = true then (some true) else ((f_bound_Right.f a1) >>= fun t1244 => if (!t1244) = true then (some true) else (some (decide (a1 > a0))))) : Option (Bool)) >>= fun x1247 => if x1247 = true then (some (0, 20)) else ((f_bound_In.f a0 a2) >>= fun t1251 => if (!t1251) = true then (some (0, 4)) else ((f_num_Up.f a2 (IntKind.u64.wrap (IntKind.i64.wrap (a0 - a1)))) >>= fun t1258 => some (IntKind.i64.wrap (0 - (Int.fdiv (IntKind.i64.wrap (0 - a2)) (2 ^ (min (Int.toNat ((IntKind.u64.wrap (IntKind.i64.wrap (a0 - a1))))) 64)))), 0)))
theorem f_bound_To.ok (a0 : Int) (a1 : Int) (a2 : Int) (r : Int × Int) (H : f_bound_To.f a0 a1 a2 = some r) : Pv.Fn Try.prog 57 [iV .i64 a0, iV .i64 a1, iV .i64 a2] [] 0 (fun x o => x = .tup [iV .i64 r.1, iV .i64 r.2] ∧ o = []) := by
  unfold f_bound_To.f at H
  refine Fn.bodyK [] Try.func57 rfl rfl (fun Γ hP hn => ?_)
  have hm : Try.prog.follows .mixedOrders = true := by kernel_rfl
  replace hn : Γ.n = 33 := hn
  refine AWp.seq ?_
  refine reg hP hn hm [] [0, 1, 2] [] ⟨[(0, iV .i64 a0), (1, iV .i64 a1), (2, iV .i64 a2)], [], 0⟩ [] (by kernel_rfl) trivial ?_
  refine AWp.seq ?_
  refine AWp.block ?_
  refine AWp.seq ?_
  obtain ⟨o1260, e1261, H⟩ := bind_of H
  refine AWp.mono (Q := fun e s => (match (generalizing := false) o1260 with | x1247 => e = .normal ∧ s = ⟨[(0, iV .i64 a0), (1, iV .i64 a1), (2, iV .i64 a2), (8, bV x1247)], [], 0⟩)) (AWp.cv ?_) ?_
  · replace H := e1261; clear e1261
    obtain ⟨t1241, e1242, H⟩ := bind_of H
    rcases Bool.eq_false_or_eq_true (!t1241) with c1243 | c1243
    · replace H := (ifT c1243).symm.trans H
      refine reg hP hn hm [(1, .call [] [] [] [] 0 (bV t1241) []), (3, .b true)] [0, 1, 2, 8] [] ⟨[(0, iV .i64 a0), (1, iV .i64 a1), (2, iV .i64 a2), (8, bV true)], [], 0⟩ [Enters Try.prog 34, Pv.Fn Try.prog 34 [iV .i64 a0] [] 0 (fun r o => r = bV t1241 ∧ o = []), (!t1241) = true] (by kernel_rfl) ⟨by exact Try.call34, by exact f_bound_Right.ok a0 t1241 e1242, by exact c1243, trivial⟩ ?_
      obtain rfl := Option.some.inj H
      exact Exists.intro _ (And.intro (fun _ _ h => h.conv (inv := []) (vk := []) (e0 := []) (t := ⟨[(0, iV .i64 a0), (1, iV .i64 a1), (2, iV .i64 a2), (8, bV true)], [], 0⟩) (by kernel_rfl)) (And.intro rfl rfl))
    · replace H := (ifF c1243).symm.trans H
      obtain ⟨t1244, e1245, H⟩ := bind_of H
      rcases Bool.eq_false_or_eq_true (!t1244) with c1246 | c1246
      · replace H := (ifT c1246).symm.trans H
        refine reg hP hn hm [(1, .call [] [] [] [] 0 (bV t1241) []), (3, .b false), (5, .call [] [] [] [] 0 (bV t1244) []), (8, .b true)] [0, 1, 2, 8] [] ⟨[(0, iV .i64 a0), (1, iV .i64 a1), (2, iV .i64 a2), (8, bV true)], [], 0⟩ [Enters Try.prog 34, Pv.Fn Try.prog 34 [iV .i64 a0] [] 0 (fun r o => r = bV t1241 ∧ o = []), (!t1241) = false, Enters Try.prog 34, Pv.Fn Try.prog 34 [iV .i64 a1] [] 0 (fun r o => r = bV t1244 ∧ o = []), (!t1244) = true] (by kernel_rfl) ⟨by exact Try.call34, by exact f_bound_Right.ok a0 t1241 e1242, by exact c1243, by exact Try.call34, by exact f_bound_Right.ok a1 t1244 e1245, by exact c1246, trivial⟩ ?_
        obtain rfl := Option.some.inj H
        exact Exists.intro _ (And.intro (fun _ _ h => h.conv (inv := []) (vk := []) (e0 := []) (t := ⟨[(0, iV .i64 a0), (1, iV .i64 a1), (2, iV .i64 a2), (8, bV true)], [], 0⟩) (by kernel_rfl)) (And.intro rfl rfl))
      · replace H := (ifF c1246).symm.trans H
        refine reg hP hn hm [(1, .call [] [] [] [] 0 (bV t1241) []), (3, .b false), (5, .call [] [] [] [] 0 (bV t1244) []), (8, .b false)] [0, 1, 2, 8] [] ⟨[(0, iV .i64 a0), (1, iV .i64 a1), (2, iV .i64 a2), (8, bV (decide (a1 > a0)))], [], 0⟩ [Enters Try.prog 34, Pv.Fn Try.prog 34 [iV .i64 a0] [] 0 (fun r o => r = bV t1241 ∧ o = []), (!t1241) = false, Enters Try.prog 34, Pv.Fn Try.prog 34 [iV .i64 a1] [] 0 (fun r o => r = bV t1244 ∧ o = []), (!t1244) = false] (by kernel_rfl) ⟨by exact Try.call34, by exact f_bound_Right.ok a0 t1241 e1242, by exact c1243, by exact Try.call34, by exact f_bound_Right.ok a1 t1244 e1245, by exact c1246, trivial⟩ ?_
        obtain rfl := Option.some.inj H
        exact Exists.intro _ (And.intro (fun _ _ h => h.conv (inv := []) (vk := []) (e0 := []) (t := ⟨[(0, iV .i64 a0), (1, iV .i64 a1), (2, iV .i64 a2), (8, bV (decide (a1 > a0)))], [], 0⟩) (by kernel_rfl)) (And.intro rfl rfl))
  · obtain ⟨x1247, rfl⟩ : ∃ z, z = o1260 := ⟨_, rfl⟩
    rintro e s ⟨rfl, rfl⟩
    refine AWp.cond x1247 rfl (fun c1248 => ?_) (fun c1248 => ?_)
    · replace H := (ifT c1248).symm.trans H
      refine AWp.seq ?_
      refine reg hP hn hm [] [6, 7] [] ⟨[(6, iV .i64 0), (7, iV .i64 20)], [], 0⟩ [] (by kernel_rfl) trivial ?_
      refine AWp.conv (inv := []) (vk := []) (e0 := []) (t := ⟨[(6, iV .i64 0), (7, iV .i64 20)], [], 0⟩) (by kernel_rfl) ?_
      refine AWp.ret ?_
      obtain rfl := Option.some.inj H
      exact Exists.intro _ (And.intro (fun _ _ h => h) (And.intro (.inl rfl) (And.intro rfl (And.intro (by kernel_rfl) (by kernel_rfl)))))
    · replace H := (ifF c1248).symm.trans H
      refine AWp.seq ?_
      obtain ⟨t1251, e1252, H⟩ := bind_of H
      refine reg hP hn hm [(2, .call [] [] [] [] 0 (bV t1251) [])] [0, 1, 2, 22] [] ⟨[(0, iV .i64 a0), (1, iV .i64 a1), (2, iV .i64 a2), (22, bV (!t1251))], [], 0⟩ [Enters Try.prog 61, Pv.Fn Try.prog 61 [iV .i64 a0, iV .i64 a2] [] 0 (fun r o => r = bV t1251 ∧ o = [])] (by kernel_rfl) ⟨by exact Try.call61, by exact f_bound_In.ok a0 a2 t1251 e1252, trivial⟩ ?_
      refine AWp.cond (!t1251) rfl (fun c1253 => ?_) (fun c1253 => ?_)
      · replace H := (ifT c1253).symm.trans H
        refine AWp.seq ?_
        refine reg hP hn hm [] [6, 7] [] ⟨[(6, iV .i64 0), (7, iV .i64 4)], [], 0⟩ [] (by kernel_rfl) trivial ?_
        refine AWp.conv (inv := []) (vk := []) (e0 := []) (t := ⟨[(6, iV .i64 0), (7, iV .i64 4)], [], 0⟩) (by kernel_rfl) ?_
        refine AWp.ret ?_
        obtain rfl := Option.some.inj H
        exact Exists.intro _ (And.intro (fun _ _ h => h) (And.intro (.inl rfl) (And.intro rfl (And.intro (by kernel_rfl) (by kernel_rfl)))))
      · replace H := (ifF c1253).symm.trans H
        refine AWp.skip ?_
        refine AWp.seq ?_
        obtain ⟨t1258, e1259, H⟩ := bind_of H
        refine reg hP hn hm [(5, .call [] [] [] [] 0 (iV .i64 (IntKind.i64.wrap (0 - (Int.fdiv (IntKind.i64.wrap (0 - a2)) (2 ^ (min (Int.toNat ((IntKind.u64.wrap (IntKind.i64.wrap (a0 - a1))))) 64)))))) [])] [6, 7] [] ⟨[(6, iV .i64 (IntKind.i64.wrap (0 - (Int.fdiv (IntKind.i64.wrap (0 - a2)) (2 ^ (min (Int.toNat ((IntKind.u64.wrap (IntKind.i64.wrap (a0 - a1))))) 64)))))), (7, iV .i64 0)], [], 0⟩ [Enters Try.prog 72, Pv.Fn Try.prog 72 [iV .i64 a2, iV .u64 (IntKind.u64.wrap (IntKind.i64.wrap (a0 - a1)))] [] 0 (fun r o => r = iV .i64 (IntKind.i64.wrap (0 - (Int.fdiv (IntKind.i64.wrap (0 - a2)) (2 ^ (min (Int.toNat ((IntKind.u64.wrap (IntKind.i64.wrap (a0 - a1))))) 64))))) ∧ o = [])] (by kernel_rfl) ⟨by exact Try.call72, by exact f_num_Up.ok a2 (IntKind.u64.wrap (IntKind.i64.wrap (a0 - a1))) t1258 e1259, trivial⟩ ?_
        refine AWp.conv (inv := []) (vk := []) (e0 := []) (t := ⟨[(6, iV .i64 (IntKind.i64.wrap (0 - (Int.fdiv (IntKind.i64.wrap (0 - a2)) (2 ^ (min (Int.toNat ((IntKind.u64.wrap (IntKind.i64.wrap (a0 - a1))))) 64)))))), (7, iV .i64 0)], [], 0⟩) (by kernel_rfl) ?_
        refine AWp.ret ?_
        obtain rfl := Option.some.inj H
        exact Exists.intro _ (And.intro (fun _ _ h => h) (And.intro (.inl rfl) (And.intro rfl (And.intro (by kernel_rfl) (by kernel_rfl)))))
def f_meld_down.l0 (a0 : List TBucket) (a1 : Int) (a2 : Int) (x1268 : List TBucket) (x1269 : Int) : Option (List TBucket) := if (decide (x1269 < (a0.length : Int))) = true then ((at? a0 x1269) >>= fun b1274 => (f_bound_To.f a1 a2 b1274.f0) >>= fun t1279 => (chk ((x1268.length + [(⟨t1279.1, b1274.f1⟩ : TBucket)].length) * 16 ≤ 140737488355328)) >>= fun _ => f_meld_down.l0 a0 a1 a2 (x1268 ++ [(⟨t1279.1, b1274.f1⟩ : TBucket)]) (IntKind.i64.wrap (x1269 + (1 : Int)))) else (some x1268)
partial_fixpoint
def f_meld_down.f (a0 : List TBucket) (a1 : Int) (a2 : Int) : Option (List TBucket) := (f_meld_down.l0 a0 a1 a2 [] 0) >>= fun x1283 => some x1283
theorem f_meld_down.ok (a0 : List TBucket) (a1 : Int) (a2 : Int) (r : List TBucket) (H : f_meld_down.f a0 a1 a2 = some r) : Pv.Fn Try.prog 35 [.im (.row (a0.map eBucket)), iV .i64 a1, iV .i64 a2] [] 0 (fun x o => x = .own 0 ∧ o = [(0, some (.row 2 54 (r.map eBucket)))]) := by
  unfold f_meld_down.f at H
  refine Fn.bodyK [0] Try.func35 rfl rfl (fun Γ hP hn => ?_)
  have hm : Try.prog.follows .mixedOrders = true := by kernel_rfl
  replace hn : Γ.n = 31 := hn
  refine AWp.seq ?_
  refine reg hP hn hm [] [0, 1, 2] [] ⟨[(0, .im (.row (a0.map eBucket))), (1, iV .i64 a1), (2, iV .i64 a2)], [], 0⟩ [] (by kernel_rfl) trivial ?_
  refine AWp.seq ?_
  refine reg hP hn hm [] [0, 1, 2, 7] [] ⟨[(0, .im (.row (a0.map eBucket))), (1, iV .i64 a1), (2, iV .i64 a2), (7, .none0)], [], 0⟩ [] (by kernel_rfl) trivial ?_
  refine AWp.seq ?_
  refine AWp.seq ?_
  refine reg hP hn hm [(1, .any (iV .i64 (a0.length : Int)))] [1, 2, 7, 10, 11, 12] [] ⟨[(1, iV .i64 a1), (2, iV .i64 a2), (7, .none0), (10, .im (.row (a0.map eBucket))), (11, iV .i64 (a0.length : Int)), (12, iV .i64 0)], [], 0⟩ [((a0.map eBucket).length : Int) = (a0.length : Int)] (by kernel_rfl) ⟨by rw [len_map], trivial⟩ ?_
  refine AWp.block ?_
  obtain ⟨o1284, e1285, H⟩ := bind_of H
  refine AWp.loop (LWp.conv (inv := []) (vk := []) (e0 := [3]) (t := ⟨[(1, iV .i64 a1), (2, iV .i64 a2), (7, .own 3), (10, .im (.row (a0.map eBucket))), (11, iV .i64 (a0.length : Int)), (12, iV .i64 0)], [(3, some (.row 2 54 ([].map eBucket)))], 0⟩) (by kernel_rfl) ?_)
  refine LWp.mono (Q := fun e s => (match (generalizing := false) o1284 with | x1283 => e = .exit 0 ∧ s = ⟨[(7, .own 7)], [(7, some (.row 2 54 (x1283.map eBucket)))], 0⟩)) (LWp.cv (withBody (fun body hbody => ?_))) ?_
  · refine f_meld_down.l0.partial_correctness a0 a1 a2 (motive := fun x1268 x1269 o1284 => LWp Γ body (fun e s => ∃ t, Cv Γ s t ∧ (match (generalizing := false) o1284 with | x1283 => e = .exit 0 ∧ t = ⟨[(7, .own 7)], [(7, some (.row 2 54 (x1283.map eBucket)))], 0⟩)) ⟨[(1, iV .i64 a1), (2, iV .i64 a2), (7, .own 3), (10, .im (.row (a0.map eBucket))), (11, iV .i64 (a0.length : Int)), (12, iV .i64 x1269)], [(3, some (.row 2 54 (x1268.map eBucket)))], 0⟩) ?_ _ _ _ e1285
    clear H e1285 o1284; intro self ih x1268 x1269 o1284 H
    subst hbody
    refine LWp.round ?_
    refine AWp.seq ?_
    refine reg hP hn hm [] [1, 2, 7, 10, 11, 12, 13] [3] ⟨[(1, iV .i64 a1), (2, iV .i64 a2), (7, .own 3), (10, .im (.row (a0.map eBucket))), (11, iV .i64 (a0.length : Int)), (12, iV .i64 x1269), (13, bV (decide (x1269 < (a0.length : Int))))], [(3, some (.row 2 54 (x1268.map eBucket)))], 0⟩ [] (by kernel_rfl) trivial ?_
    refine AWp.seq ?_
    refine AWp.cond (decide (x1269 < (a0.length : Int))) rfl (fun c1270 => ?_) (fun c1270 => ?_)
    · replace H := (ifT c1270).symm.trans H
      refine AWp.skip ?_
      refine AWp.seq ?_
      refine AWp.block ?_
      refine AWp.seq ?_
      obtain ⟨b1274, p1275, q1276, H⟩ := at_of H
      refine reg hP hn hm [(0, .c (eBucket b1274)), (2, .k 4)] [1, 2, 7, 9, 10, 11, 12] [3, 4] ⟨[(1, iV .i64 a1), (2, iV .i64 a2), (7, .own 3), (9, .ptr 4 0 0), (10, .im (.row (a0.map eBucket))), (11, iV .i64 (a0.length : Int)), (12, iV .i64 x1269)], [(3, some (.row 2 54 (x1268.map eBucket))), (4, some (.box 54 (aBucket b1274)))], 0⟩ [0 ≤ x1269, (a0.map eBucket)[(Int.toNat (x1269))]? = some (eBucket b1274)] (by kernel_rfl) ⟨by exact p1275, by exact el_map eBucket q1276, trivial⟩ ?_
      refine AWp.seq ?_
      obtain ⟨t1279, e1280, H⟩ := bind_of H
      refine reg hP hn hm [(4, .call [] [] [] [] 0 (.tup [iV .i64 t1279.1, iV .i64 t1279.2]) [])] [1, 2, 7, 9, 10, 11, 12] [3, 4] ⟨[(1, iV .i64 a1), (2, iV .i64 a2), (7, .own 3), (9, .ptr 4 0 0), (10, .im (.row (a0.map eBucket))), (11, iV .i64 (a0.length : Int)), (12, iV .i64 x1269)], [(3, some (.row 2 54 (x1268.map eBucket))), (4, some (.box 54 (aBucket ⟨t1279.1, b1274.f1⟩)))], 0⟩ [Enters Try.prog 57, Pv.Fn Try.prog 57 [iV .i64 a1, iV .i64 a2, iV .i64 b1274.f0] [] 0 (fun r o => r = .tup [iV .i64 t1279.1, iV .i64 t1279.2] ∧ o = [])] (by kernel_rfl) ⟨by exact Try.call57, by exact f_bound_To.ok a1 a2 b1274.f0 t1279 e1280, trivial⟩ ?_
      obtain ⟨c1282, H⟩ := chk_of H
      refine reg hP hn hm [(2, .app 5 ([(⟨t1279.1, b1274.f1⟩ : TBucket)].map eBucket)), (3, .app 6 ((x1268 ++ [(⟨t1279.1, b1274.f1⟩ : TBucket)]).map eBucket))] [1, 2, 7, 10, 11, 12] [6] ⟨[(1, iV .i64 a1), (2, iV .i64 a2), (7, .own 6), (10, .im (.row (a0.map eBucket))), (11, iV .i64 (a0.length : Int)), (12, iV .i64 x1269)], [(6, some (.row 2 54 ((x1268 ++ [(⟨t1279.1, b1274.f1⟩ : TBucket)]).map eBucket)))], 0⟩ [[(⟨t1279.1, b1274.f1⟩ : TBucket)].map eBucket = [[iI .i64 t1279.1, iI .u64 b1274.f1]], (x1268 ++ [(⟨t1279.1, b1274.f1⟩ : TBucket)]).map eBucket = (x1268.map eBucket) ++ ([(⟨t1279.1, b1274.f1⟩ : TBucket)].map eBucket), ∀ c ∈ ([(⟨t1279.1, b1274.f1⟩ : TBucket)].map eBucket), c.length = 2, ∀ c ∈ ([(⟨t1279.1, b1274.f1⟩ : TBucket)].map eBucket), leaves (c.map .im) = true, ((x1268.map eBucket).length + ([(⟨t1279.1, b1274.f1⟩ : TBucket)].map eBucket).length) * 16 ≤ 140737488355328] (by kernel_rfl) ⟨by exact rfl, by simp, by exact all_len _ _ _ (fun _ => rfl), by exact all_leaf _ _ (fun _ => rfl), by simpa using c1282, trivial⟩ ?_
      refine reg hP hn hm [] [1, 2, 7, 10, 11, 12] [6] ⟨[(1, iV .i64 a1), (2, iV .i64 a2), (7, .own 6), (10, .im (.row (a0.map eBucket))), (11, iV .i64 (a0.length : Int)), (12, iV .i64 (IntKind.i64.wrap (x1269 + (1 : Int))))], [(6, some (.row 2 54 ((x1268 ++ [(⟨t1279.1, b1274.f1⟩ : TBucket)]).map eBucket)))], 0⟩ [] (by kernel_rfl) trivial ?_
      exact LWp.conv (inv := [(6, 3)]) (vk := []) (e0 := []) (t := ⟨[(1, iV .i64 a1), (2, iV .i64 a2), (7, .own 3), (10, .im (.row (a0.map eBucket))), (11, iV .i64 (a0.length : Int)), (12, iV .i64 (IntKind.i64.wrap (x1269 + (1 : Int))))], [(3, some (.row 2 54 ((x1268 ++ [(⟨t1279.1, b1274.f1⟩ : TBucket)]).map eBucket)))], 0⟩) (by kernel_rfl) (ih _ _ _ H)
    · replace H := (ifF c1270).symm.trans H
      refine AWp.exit ?_
      obtain rfl := Option.some.inj H
      exact Exists.intro _ (And.intro (fun _ _ h => h.conv (inv := [(3, 7)]) (vk := []) (e0 := []) (t := ⟨[(7, .own 7)], [(7, some (.row 2 54 (x1268.map eBucket)))], 0⟩) (by kernel_rfl)) (And.intro rfl rfl))
  · obtain ⟨x1283, rfl⟩ : ∃ z, z = o1284 := ⟨_, rfl⟩
    rintro e s ⟨rfl, rfl⟩
    refine AWp.seq ?_
    refine reg hP hn hm [] [6] [7] ⟨[(6, .own 7)], [(7, some (.row 2 54 (x1283.map eBucket)))], 0⟩ [] (by kernel_rfl) trivial ?_
    refine AWp.conv (inv := [(7, 0)]) (vk := []) (e0 := []) (t := ⟨[(6, .own 0)], [(0, some (.row 2 54 (x1283.map eBucket)))], 0⟩) (by kernel_rfl) ?_
    refine AWp.ret ?_
    obtain rfl := Option.some.inj H
    exact Exists.intro _ (And.intro (fun _ _ h => h) (And.intro (.inl rfl) (And.intro rfl (And.intro (by kernel_rfl) (by kernel_rfl)))))
def f_meld_edge.l0 (a0 : THist) (a1 : List TBucket) (a2 : Int) (x1317 : Int) : Option (Int ⊕ Unit) := if (decide (x1317 < (a1.length : Int))) = true then ((at? a1 x1317) >>= fun b1322 => (((f_bound_Low.f a0.f1 b1322.f0) >>= fun t1330 => if (decide (t1330 < a2)) = true then ((f_bound_Units.f a0.f1 b1322.f0) >>= fun t1333 => some (decide (a2 < t1333))) else (some false)) : Option (Bool)) >>= fun x1335 => if x1335 = true then ((f_bound_Units.f a0.f1 b1322.f0) >>= fun t1339 => some (.inl t1339)) else (f_meld_edge.l0 a0 a1 a2 (IntKind.i64.wrap (x1317 + (1 : Int))))) else (some (.inr ()))
partial_fixpoint
def f_meld_edge.f (a0 : THist) (a1 : List TBucket) (a2 : Int) : Option (Int) := (f_meld_edge.l0 a0 a1 a2 0) >>= fun oo => match oo with | .inl rr => (some rr) | .inr _ => (some a2)
theorem f_meld_edge.ok (a0 : THist) (a1 : List TBucket) (a2 : Int) (r : Int) (H : f_meld_edge.f a0 a1 a2 = some r) : Pv.Fn Try.prog 58 [.agg (aHist a0), .im (.row (a1.map eBucket)), iV .i64 a2] [] 0 (fun x o => x = iV .i64 r ∧ o = []) := by
  unfold f_meld_edge.f at H
  refine Fn.bodyK [] Try.func58 rfl rfl (fun Γ hP hn => ?_)
  have hm : Try.prog.follows .mixedOrders = true := by kernel_rfl
  replace hn : Γ.n = 38 := hn
  refine AWp.seq ?_
  refine reg hP hn hm [(0, .k 0)] [1, 2, 3] [0] ⟨[(1, .im (.row (a1.map eBucket))), (2, iV .i64 a2), (3, .ptr 0 0 0)], [(0, some (.box 25 (aHist a0)))], 0⟩ [] (by kernel_rfl) trivial ?_
  refine AWp.seq ?_
  refine AWp.seq ?_
  refine reg hP hn hm [(1, .any (iV .i64 (a1.length : Int)))] [2, 3, 9, 10, 11] [0] ⟨[(2, iV .i64 a2), (3, .ptr 0 0 0), (9, .im (.row (a1.map eBucket))), (10, iV .i64 (a1.length : Int)), (11, iV .i64 0)], [(0, some (.box 25 (aHist a0)))], 0⟩ [((a1.map eBucket).length : Int) = (a1.length : Int)] (by kernel_rfl) ⟨by rw [len_map], trivial⟩ ?_
  refine AWp.block ?_
  obtain ⟨o1341, e1342, H⟩ := bind_of H
  refine AWp.loop (LWp.conv (inv := [(0, 4)]) (vk := []) (e0 := []) (t := ⟨[(2, iV .i64 a2), (3, .ptr 4 0 0), (9, .im (.row (a1.map eBucket))), (10, iV .i64 (a1.length : Int)), (11, iV .i64 0)], [(4, some (.box 25 (aHist a0)))], 0⟩) (by kernel_rfl) ?_)
  refine LWp.mono (Q := fun e s => (match (generalizing := false) o1341 with | .inl rr => e = .ret ∧ s.floor = 0 ∧ resOf Try.prog Try.f58 s = some (iV .i64 rr) ∧ ([] : List (Nat × Option MObj)) = [] | .inr _ => e = .exit 0 ∧ s = ⟨[(2, iV .i64 a2)], [], 0⟩)) (LWp.cv (withBody (fun body hbody => ?_))) ?_
  · refine f_meld_edge.l0.partial_correctness a0 a1 a2 (motive := fun x1317 o1341 => LWp Γ body (fun e s => ∃ t, Cv Γ s t ∧ (match (generalizing := false) o1341 with | .inl rr => e = .ret ∧ t.floor = 0 ∧ resOf Try.prog Try.f58 t = some (iV .i64 rr) ∧ ([] : List (Nat × Option MObj)) = [] | .inr _ => e = .exit 0 ∧ t = ⟨[(2, iV .i64 a2)], [], 0⟩)) ⟨[(2, iV .i64 a2), (3, .ptr 4 0 0), (9, .im (.row (a1.map eBucket))), (10, iV .i64 (a1.length : Int)), (11, iV .i64 x1317)], [(4, some (.box 25 (aHist a0)))], 0⟩) ?_ _ _ e1342
    clear H e1342 o1341; intro self ih x1317 o1341 H
    subst hbody
    refine LWp.round ?_
    refine AWp.seq ?_
    refine reg hP hn hm [] [2, 3, 9, 10, 11, 12] [4] ⟨[(2, iV .i64 a2), (3, .ptr 4 0 0), (9, .im (.row (a1.map eBucket))), (10, iV .i64 (a1.length : Int)), (11, iV .i64 x1317), (12, bV (decide (x1317 < (a1.length : Int))))], [(4, some (.box 25 (aHist a0)))], 0⟩ [] (by kernel_rfl) trivial ?_
    refine AWp.seq ?_
    refine AWp.cond (decide (x1317 < (a1.length : Int))) rfl (fun c1318 => ?_) (fun c1318 => ?_)
    · replace H := (ifT c1318).symm.trans H
      refine AWp.skip ?_
      refine AWp.seq ?_
      refine AWp.block ?_
      refine AWp.seq ?_
      obtain ⟨b1322, p1323, q1324, H⟩ := at_of H
      refine reg hP hn hm [(0, .c (eBucket b1322)), (2, .k 5)] [2, 3, 8, 9, 10, 11] [4, 5] ⟨[(2, iV .i64 a2), (3, .ptr 4 0 0), (8, .ptr 5 0 0), (9, .im (.row (a1.map eBucket))), (10, iV .i64 (a1.length : Int)), (11, iV .i64 x1317)], [(4, some (.box 25 (aHist a0))), (5, some (.box 54 (aBucket b1322)))], 0⟩ [0 ≤ x1317, (a1.map eBucket)[(Int.toNat (x1317))]? = some (eBucket b1322)] (by kernel_rfl) ⟨by exact p1323, by exact el_map eBucket q1324, trivial⟩ ?_
      refine AWp.seq ?_
      obtain ⟨o1343, e1344, H⟩ := bind_of H
      refine AWp.mono (Q := fun e s => (match (generalizing := false) o1343 with | x1335 => e = .normal ∧ s = ⟨[(2, iV .i64 a2), (3, .ptr 6 0 0), (8, .ptr 7 0 0), (9, .im (.row (a1.map eBucket))), (10, iV .i64 (a1.length : Int)), (11, iV .i64 x1317), (30, bV x1335)], [(6, some (.box 25 (aHist a0))), (7, some (.box 54 (aBucket b1322)))], 0⟩)) (AWp.cv ?_) ?_
      · replace H := e1344; clear e1344
        obtain ⟨t1330, e1331, H⟩ := bind_of H
        rcases Bool.eq_false_or_eq_true (decide (t1330 < a2)) with c1332 | c1332
        · replace H := (ifT c1332).symm.trans H
          obtain ⟨t1333, e1334, H⟩ := bind_of H
          refine reg hP hn hm [(4, .call [] [] [] [] 0 (iV .i64 t1330) []), (7, .b true), (13, .call [] [] [] [] 0 (iV .i64 t1333) [])] [2, 3, 8, 9, 10, 11, 23, 24, 25, 26, 27, 28, 29, 30] [4, 5] ⟨[(2, iV .i64 a2), (3, .ptr 4 0 0), (8, .ptr 5 0 0), (9, .im (.row (a1.map eBucket))), (10, iV .i64 (a1.length : Int)), (11, iV .i64 x1317), (23, iV .i64 a2), (24, .ptr 4 0 1), (25, iV .i64 a0.f1), (26, .ptr 5 0 0), (27, iV .i64 b1322.f0), (28, iV .i64 t1333), (29, bV (decide (a2 < t1333))), (30, bV (decide (a2 < t1333)))], [(4, some (.box 25 (aHist a0))), (5, some (.box 54 (aBucket b1322)))], 0⟩ [Enters Try.prog 62, Pv.Fn Try.prog 62 [iV .i64 a0.f1, iV .i64 b1322.f0] [] 0 (fun r o => r = iV .i64 t1330 ∧ o = []), (decide (t1330 < a2)) = true, Enters Try.prog 60, Pv.Fn Try.prog 60 [iV .i64 a0.f1, iV .i64 b1322.f0] [] 0 (fun r o => r = iV .i64 t1333 ∧ o = [])] (by kernel_rfl) ⟨by exact Try.call62, by exact f_bound_Low.ok a0.f1 b1322.f0 t1330 e1331, by exact c1332, by exact Try.call60, by exact f_bound_Units.ok a0.f1 b1322.f0 t1333 e1334, trivial⟩ ?_
          obtain rfl := Option.some.inj H
          exact Exists.intro _ (And.intro (fun _ _ h => h.conv (inv := [(4, 6), (5, 7)]) (vk := []) (e0 := []) (t := ⟨[(2, iV .i64 a2), (3, .ptr 6 0 0), (8, .ptr 7 0 0), (9, .im (.row (a1.map eBucket))), (10, iV .i64 (a1.length : Int)), (11, iV .i64 x1317), (30, bV (decide (a2 < t1333)))], [(6, some (.box 25 (aHist a0))), (7, some (.box 54 (aBucket b1322)))], 0⟩) (by kernel_rfl)) (And.intro rfl rfl))
        · replace H := (ifF c1332).symm.trans H
          refine reg hP hn hm [(4, .call [] [] [] [] 0 (iV .i64 t1330) []), (7, .b false)] [2, 3, 8, 9, 10, 11, 30] [4, 5] ⟨[(2, iV .i64 a2), (3, .ptr 4 0 0), (8, .ptr 5 0 0), (9, .im (.row (a1.map eBucket))), (10, iV .i64 (a1.length : Int)), (11, iV .i64 x1317), (30, bV false)], [(4, some (.box 25 (aHist a0))), (5, some (.box 54 (aBucket b1322)))], 0⟩ [Enters Try.prog 62, Pv.Fn Try.prog 62 [iV .i64 a0.f1, iV .i64 b1322.f0] [] 0 (fun r o => r = iV .i64 t1330 ∧ o = []), (decide (t1330 < a2)) = false] (by kernel_rfl) ⟨by exact Try.call62, by exact f_bound_Low.ok a0.f1 b1322.f0 t1330 e1331, by exact c1332, trivial⟩ ?_
          obtain rfl := Option.some.inj H
          exact Exists.intro _ (And.intro (fun _ _ h => h.conv (inv := [(4, 6), (5, 7)]) (vk := []) (e0 := []) (t := ⟨[(2, iV .i64 a2), (3, .ptr 6 0 0), (8, .ptr 7 0 0), (9, .im (.row (a1.map eBucket))), (10, iV .i64 (a1.length : Int)), (11, iV .i64 x1317), (30, bV false)], [(6, some (.box 25 (aHist a0))), (7, some (.box 54 (aBucket b1322)))], 0⟩) (by kernel_rfl)) (And.intro rfl rfl))
      · obtain ⟨x1335, rfl⟩ : ∃ z, z = o1343 := ⟨_, rfl⟩
        rintro e s ⟨rfl, rfl⟩
        refine AWp.cond x1335 rfl (fun c1336 => ?_) (fun c1336 => ?_)
        · replace H := (ifT c1336).symm.trans H
          refine AWp.seq ?_
          obtain ⟨t1339, e1340, H⟩ := bind_of H
          refine reg hP hn hm [(4, .call [] [] [] [] 0 (iV .i64 t1339) [])] [6] [] ⟨[(6, iV .i64 t1339)], [], 0⟩ [Enters Try.prog 60, Pv.Fn Try.prog 60 [iV .i64 a0.f1, iV .i64 b1322.f0] [] 0 (fun r o => r = iV .i64 t1339 ∧ o = [])] (by kernel_rfl) ⟨by exact Try.call60, by exact f_bound_Units.ok a0.f1 b1322.f0 t1339 e1340, trivial⟩ ?_
          refine AWp.conv (inv := []) (vk := []) (e0 := []) (t := ⟨[(6, iV .i64 t1339)], [], 0⟩) (by kernel_rfl) ?_
          refine AWp.ret ?_
          obtain rfl := Option.some.inj H
          exact Exists.intro _ (And.intro (fun _ _ h => h) (And.intro rfl (And.intro rfl (And.intro (by kernel_rfl) (by kernel_rfl)))))
        · replace H := (ifF c1336).symm.trans H
          refine AWp.skip ?_
          refine reg hP hn hm [] [2, 3, 9, 10, 11] [6] ⟨[(2, iV .i64 a2), (3, .ptr 6 0 0), (9, .im (.row (a1.map eBucket))), (10, iV .i64 (a1.length : Int)), (11, iV .i64 (IntKind.i64.wrap (x1317 + (1 : Int))))], [(6, some (.box 25 (aHist a0)))], 0⟩ [] (by kernel_rfl) trivial ?_
          exact LWp.conv (inv := [(6, 4)]) (vk := []) (e0 := []) (t := ⟨[(2, iV .i64 a2), (3, .ptr 4 0 0), (9, .im (.row (a1.map eBucket))), (10, iV .i64 (a1.length : Int)), (11, iV .i64 (IntKind.i64.wrap (x1317 + (1 : Int))))], [(4, some (.box 25 (aHist a0)))], 0⟩) (by kernel_rfl) (ih _ _ H)
    · replace H := (ifF c1318).symm.trans H
      refine AWp.exit ?_
      obtain rfl := Option.some.inj H
      exact Exists.intro _ (And.intro (fun _ _ h => h.conv (inv := []) (vk := []) (e0 := []) (t := ⟨[(2, iV .i64 a2)], [], 0⟩) (by kernel_rfl)) (And.intro rfl rfl))
  · rcases o1341 with rr | _
    · skip
      rintro e s ⟨rfl, hfl, hres⟩
      obtain rfl := Option.some.inj H
      exact Exists.intro _ (And.intro (fun _ _ h => h) (And.intro (.inl rfl) (And.intro hfl hres)))
    · skip
      rintro e s ⟨rfl, rfl⟩
      refine AWp.seq ?_
      refine reg hP hn hm [] [6] [] ⟨[(6, iV .i64 a2)], [], 0⟩ [] (by kernel_rfl) trivial ?_
      refine AWp.conv (inv := []) (vk := []) (e0 := []) (t := ⟨[(6, iV .i64 a2)], [], 0⟩) (by kernel_rfl) ?_
      refine AWp.ret ?_
      obtain rfl := Option.some.inj H
      exact Exists.intro _ (And.intro (fun _ _ h => h) (And.intro (.inl rfl) (And.intro rfl (And.intro (by kernel_rfl) (by kernel_rfl)))))
def f_meld_swallow_1_8ce.l0 (a0 : List TBucket) (a1_c0 : Int) (a1_c1 : Int) (a1_c2 : Int) (a1_c4 : Int) (a1_c5 : Int) (a1_c6 : List TBucket) (a1_c7 : List TBucket) (a2_c0 : Int) (x1373 : Int) (x1374 : List TBucket) (x1375 : Int) : Option ((List TBucket) × Int) := if (decide (x1375 < (a0.length : Int))) = true then ((at? a0 x1375) >>= fun b1380 => (f_bound_Units.f a1_c1 b1380.f0) >>= fun t1385 => ((if (decide (t1385 > a2_c0)) = true then ((chk ((x1374.length + [b1380].length) * 16 ≤ 140737488355328)) >>= fun _ => some (x1373, x1374 ++ [b1380])) else ((f_num_Add.f [x1373, b1380.f1]) >>= fun t1392 => some (t1392.1, x1374))) : Option (Int × (List TBucket))) >>= fun oo => match oo with | (x1394, x1395) => (f_meld_swallow_1_8ce.l0 a0 a1_c0 a1_c1 a1_c2 a1_c4 a1_c5 a1_c6 a1_c7 a2_c0 x1394 x1395 (IntKind.i64.wrap (x1375 + (1 : Int))))) else (some (x1374, x1373))
partial_fixpoint
def f_meld_swallow_1_8ce.f (a0 : List TBucket) (a1_c0 : Int) (a1_c1 : Int) (a1_c2 : Int) (a1_c3 : Int) (a1_c4 : Int) (a1_c5 : Int) (a1_c6 : List TBucket) (a1_c7 : List TBucket) (a2_c0 : Int) : Option ((List TBucket) × Int) := (f_meld_swallow_1_8ce.l0 a0 a1_c0 a1_c1 a1_c2 a1_c4 a1_c5 a1_c6 a1_c7 a2_c0 a1_c3 [] 0) >>= fun oo => match oo with | (x1396, x1397) => (some (x1396, x1397))
theorem f_meld_swallow_1_8ce.ok (a0 : List TBucket) (a1_c0 : Int) (a1_c1 : Int) (a1_c2 : Int) (a1_c3 : Int) (a1_c4 : Int) (a1_c5 : Int) (a1_c6 : List TBucket) (a1_c7 : List TBucket) (a2_c0 : Int) (r : (List TBucket) × Int) (H : f_meld_swallow_1_8ce.f a0 a1_c0 a1_c1 a1_c2 a1_c3 a1_c4 a1_c5 a1_c6 a1_c7 a2_c0 = some r) : Pv.Fn Try.prog 59 [.im (.row (a0.map eBucket)), .ptr 0 0 0, .ptr 1 0 0] [(0, some (.box 25 (aHist ⟨a1_c0, a1_c1, a1_c2, a1_c3, a1_c4, a1_c5, a1_c6, a1_c7⟩))), (1, some (.box 3 [iV .i64 a2_c0]))] 2 (fun x o => x = .own 2 ∧ o = [(0, some (.box 25 (aHist ⟨a1_c0, a1_c1, a1_c2, r.2, a1_c4, a1_c5, a1_c6, a1_c7⟩))), (1, some (.box 3 [iV .i64 a2_c0])), (2, some (.row 2 54 (r.1.map eBucket)))]) := by
  unfold f_meld_swallow_1_8ce.f at H
  refine Fn.bodyK [0, 1, 2] Try.func59 rfl rfl (fun Γ hP hn => ?_)
  have hm : Try.prog.follows .mixedOrders = true := by kernel_rfl
  replace hn : Γ.n = 37 := hn
  refine AWp.seq ?_
  refine reg hP hn hm [] [0, 1, 2] [0, 1] ⟨[(0, .im (.row (a0.map eBucket))), (1, .ptr 0 0 0), (2, .ptr 1 0 0)], [(0, some (.box 25 (aHist ⟨a1_c0, a1_c1, a1_c2, a1_c3, a1_c4, a1_c5, a1_c6, a1_c7⟩))), (1, some (.box 3 [iV .i64 a2_c0]))], 2⟩ [] (by kernel_rfl) trivial ?_
  refine AWp.seq ?_
  refine reg hP hn hm [] [0, 1, 2, 5] [0, 1] ⟨[(0, .im (.row (a0.map eBucket))), (1, .ptr 0 0 0), (2, .ptr 1 0 0), (5, .none0)], [(0, some (.box 25 (aHist ⟨a1_c0, a1_c1, a1_c2, a1_c3, a1_c4, a1_c5, a1_c6, a1_c7⟩))), (1, some (.box 3 [iV .i64 a2_c0]))], 2⟩ [] (by kernel_rfl) trivial ?_
  refine AWp.seq ?_
  refine AWp.seq ?_
  refine reg hP hn hm [(1, .any (iV .i64 (a0.length : Int)))] [1, 2, 5, 8, 9, 10] [0, 1] ⟨[(1, .ptr 0 0 0), (2, .ptr 1 0 0), (5, .none0), (8, .im (.row (a0.map eBucket))), (9, iV .i64 (a0.length : Int)), (10, iV .i64 0)], [(0, some (.box 25 (aHist ⟨a1_c0, a1_c1, a1_c2, a1_c3, a1_c4, a1_c5, a1_c6, a1_c7⟩))), (1, some (.box 3 [iV .i64 a2_c0]))], 2⟩ [((a0.map eBucket).length : Int) = (a0.length : Int)] (by kernel_rfl) ⟨by rw [len_map], trivial⟩ ?_
  refine AWp.block ?_
  obtain ⟨o1398, e1399, H⟩ := bind_of H
  refine AWp.loop (LWp.conv (inv := [(0, 0), (1, 1)]) (vk := []) (e0 := [7]) (t := ⟨[(1, .ptr 0 0 0), (2, .ptr 1 0 0), (5, .own 7), (8, .im (.row (a0.map eBucket))), (9, iV .i64 (a0.length : Int)), (10, iV .i64 0)], [(0, some (.box 25 (aHist ⟨a1_c0, a1_c1, a1_c2, a1_c3, a1_c4, a1_c5, a1_c6, a1_c7⟩))), (1, some (.box 3 [iV .i64 a2_c0])), (7, some (.row 2 54 ([].map eBucket)))], 2⟩) (by kernel_rfl) ?_)
  refine LWp.mono (Q := fun e s => (match (generalizing := false) o1398 with | (x1396, x1397) => e = .exit 0 ∧ s = ⟨[(5, .own 13)], [(0, some (.box 25 (aHist ⟨a1_c0, a1_c1, a1_c2, x1397, a1_c4, a1_c5, a1_c6, a1_c7⟩))), (1, some (.box 3 [iV .i64 a2_c0])), (13, some (.row 2 54 (x1396.map eBucket)))], 2⟩)) (LWp.cv (withBody (fun body hbody => ?_))) ?_
  · refine f_meld_swallow_1_8ce.l0.partial_correctness a0 a1_c0 a1_c1 a1_c2 a1_c4 a1_c5 a1_c6 a1_c7 a2_c0 (motive := fun x1373 x1374 x1375 o1398 => LWp Γ body (fun e s => ∃ t, Cv Γ s t ∧ (match (generalizing := false) o1398 with | (x1396, x1397) => e = .exit 0 ∧ t = ⟨[(5, .own 13)], [(0, some (.box 25 (aHist ⟨a1_c0, a1_c1, a1_c2, x1397, a1_c4, a1_c5, a1_c6, a1_c7⟩))), (1, some (.box 3 [iV .i64 a2_c0])), (13, some (.row 2 54 (x1396.map eBucket)))], 2⟩)) ⟨[(1, .ptr 0 0 0), (2, .ptr 1 0 0), (5, .own 7), (8, .im (.row (a0.map eBucket))), (9, iV .i64 (a0.length : Int)), (10, iV .i64 x1375)], [(0, some (.box 25 (aHist ⟨a1_c0, a1_c1, a1_c2, x1373, a1_c4, a1_c5, a1_c6, a1_c7⟩))), (1, some (.box 3 [iV .i64 a2_c0])), (7, some (.row 2 54 (x1374.map eBucket)))], 2⟩) ?_ _ _ _ _ e1399
    clear H e1399 o1398; intro self ih x1373 x1374 x1375 o1398 H
    subst hbody
    refine LWp.round ?_
    refine AWp.seq ?_
    refine reg hP hn hm [] [1, 2, 5, 8, 9, 10, 11] [0, 1, 7] ⟨[(1, .ptr 0 0 0), (2, .ptr 1 0 0), (5, .own 7), (8, .im (.row (a0.map eBucket))), (9, iV .i64 (a0.length : Int)), (10, iV .i64 x1375), (11, bV (decide (x1375 < (a0.length : Int))))], [(0, some (.box 25 (aHist ⟨a1_c0, a1_c1, a1_c2, x1373, a1_c4, a1_c5, a1_c6, a1_c7⟩))), (1, some (.box 3 [iV .i64 a2_c0])), (7, some (.row 2 54 (x1374.map eBucket)))], 2⟩ [] (by kernel_rfl) trivial ?_
    refine AWp.seq ?_
    refine AWp.cond (decide (x1375 < (a0.length : Int))) rfl (fun c1376 => ?_) (fun c1376 => ?_)
    · replace H := (ifT c1376).symm.trans H
      refine AWp.skip ?_
      refine AWp.seq ?_
      refine AWp.block ?_
      refine AWp.seq ?_
      obtain ⟨b1380, p1381, q1382, H⟩ := at_of H
      refine reg hP hn hm [(0, .c (eBucket b1380)), (2, .k 8)] [1, 2, 5, 7, 8, 9, 10] [0, 1, 7, 8] ⟨[(1, .ptr 0 0 0), (2, .ptr 1 0 0), (5, .own 7), (7, .ptr 8 0 0), (8, .im (.row (a0.map eBucket))), (9, iV .i64 (a0.length : Int)), (10, iV .i64 x1375)], [(0, some (.box 25 (aHist ⟨a1_c0, a1_c1, a1_c2, x1373, a1_c4, a1_c5, a1_c6, a1_c7⟩))), (1, some (.box 3 [iV .i64 a2_c0])), (7, some (.row 2 54 (x1374.map eBucket))), (8, some (.box 54 (aBucket b1380)))], 2⟩ [0 ≤ x1375, (a0.map eBucket)[(Int.toNat (x1375))]? = some (eBucket b1380)] (by kernel_rfl) ⟨by exact p1381, by exact el_map eBucket q1382, trivial⟩ ?_
      refine AWp.seq ?_
      obtain ⟨t1385, e1386, H⟩ := bind_of H
      refine reg hP hn hm [(4, .call [] [] [] [] 0 (iV .i64 t1385) [])] [1, 2, 5, 7, 8, 9, 10, 20] [0, 1, 7, 8] ⟨[(1, .ptr 0 0 0), (2, .ptr 1 0 0), (5, .own 7), (7, .ptr 8 0 0), (8, .im (.row (a0.map eBucket))), (9, iV .i64 (a0.length : Int)), (10, iV .i64 x1375), (20, bV (decide (t1385 > a2_c0)))], [(0, some (.box 25 (aHist ⟨a1_c0, a1_c1, a1_c2, x1373, a1_c4, a1_c5, a1_c6, a1_c7⟩))), (1, some (.box 3 [iV .i64 a2_c0])), (7, some (.row 2 54 (x1374.map eBucket))), (8, some (.box 54 (aBucket b1380)))], 2⟩ [Enters Try.prog 60, Pv.Fn Try.prog 60 [iV .i64 a1_c1, iV .i64 b1380.f0] [] 0 (fun r o => r = iV .i64 t1385 ∧ o = [])] (by kernel_rfl) ⟨by exact Try.call60, by exact f_bound_Units.ok a1_c1 b1380.f0 t1385 e1386, trivial⟩ ?_
      obtain ⟨o1400, e1401, H⟩ := bind_of H
      refine AWp.mono (Q := fun e s => (match (generalizing := false) o1400 with | (x1394, x1395) => e = .normal ∧ s = ⟨[(1, .ptr 0 0 0), (2, .ptr 1 0 0), (5, .own 12), (8, .im (.row (a0.map eBucket))), (9, iV .i64 (a0.length : Int)), (10, iV .i64 x1375)], [(0, some (.box 25 (aHist ⟨a1_c0, a1_c1, a1_c2, x1394, a1_c4, a1_c5, a1_c6, a1_c7⟩))), (1, some (.box 3 [iV .i64 a2_c0])), (12, some (.row 2 54 (x1395.map eBucket)))], 2⟩)) (AWp.cv ?_) ?_
      · replace H := e1401; clear e1401
        refine AWp.cond (decide (t1385 > a2_c0)) rfl (fun c1387 => ?_) (fun c1387 => ?_)
        · replace H := (ifT c1387).symm.trans H
          obtain ⟨c1389, H⟩ := chk_of H
          refine reg hP hn hm [(2, .app 9 ([b1380].map eBucket)), (3, .app 10 ((x1374 ++ [b1380]).map eBucket))] [1, 2, 5, 8, 9, 10] [0, 1, 10] ⟨[(1, .ptr 0 0 0), (2, .ptr 1 0 0), (5, .own 10), (8, .im (.row (a0.map eBucket))), (9, iV .i64 (a0.length : Int)), (10, iV .i64 x1375)], [(0, some (.box 25 (aHist ⟨a1_c0, a1_c1, a1_c2, x1373, a1_c4, a1_c5, a1_c6, a1_c7⟩))), (1, some (.box 3 [iV .i64 a2_c0])), (10, some (.row 2 54 ((x1374 ++ [b1380]).map eBucket)))], 2⟩ [[b1380].map eBucket = [[iI .i64 b1380.f0, iI .u64 b1380.f1]], (x1374 ++ [b1380]).map eBucket = (x1374.map eBucket) ++ ([b1380].map eBucket), ∀ c ∈ ([b1380].map eBucket), c.length = 2, ∀ c ∈ ([b1380].map eBucket), leaves (c.map .im) = true, ((x1374.map eBucket).length + ([b1380].map eBucket).length) * 16 ≤ 140737488355328] (by kernel_rfl) ⟨by exact rfl, by simp, by exact all_len _ _ _ (fun _ => rfl), by exact all_leaf _ _ (fun _ => rfl), by simpa using c1389, trivial⟩ ?_
          obtain rfl := Option.some.inj H
          exact Exists.intro _ (And.intro (fun _ _ h => h.conv (inv := [(0, 0), (1, 1), (10, 12)]) (vk := []) (e0 := []) (t := ⟨[(1, .ptr 0 0 0), (2, .ptr 1 0 0), (5, .own 12), (8, .im (.row (a0.map eBucket))), (9, iV .i64 (a0.length : Int)), (10, iV .i64 x1375)], [(0, some (.box 25 (aHist ⟨a1_c0, a1_c1, a1_c2, x1373, a1_c4, a1_c5, a1_c6, a1_c7⟩))), (1, some (.box 3 [iV .i64 a2_c0])), (12, some (.row 2 54 ((x1374 ++ [b1380]).map eBucket)))], 2⟩) (by kernel_rfl)) (And.intro rfl rfl))
        · replace H := (ifF c1387).symm.trans H
          obtain ⟨t1392, e1393, H⟩ := bind_of H
          refine reg hP hn hm [(4, .app 11 ([x1373, b1380.f1].map (encInt .u64))), (5, .call [] [] [11] [] 0 (.tup [iV .u64 t1392.1, iV .i64 t1392.2]) [])] [1, 2, 5, 8, 9, 10] [0, 1, 7] ⟨[(1, .ptr 0 0 0), (2, .ptr 1 0 0), (5, .own 7), (8, .im (.row (a0.map eBucket))), (9, iV .i64 (a0.length : Int)), (10, iV .i64 x1375)], [(0, some (.box 25 (aHist ⟨a1_c0, a1_c1, a1_c2, t1392.1, a1_c4, a1_c5, a1_c6, a1_c7⟩))), (1, some (.box 3 [iV .i64 a2_c0])), (7, some (.row 2 54 (x1374.map eBucket)))], 2⟩ [[x1373, b1380.f1].map (encInt .u64) = [[iI .u64 x1373], [iI .u64 b1380.f1]], Enters Try.prog 45, Pv.Fn Try.prog 45 [.im (.row ([x1373, b1380.f1].map (encInt .u64)))] [] 0 (fun r o => r = .tup [iV .u64 t1392.1, iV .i64 t1392.2] ∧ o = [])] (by kernel_rfl) ⟨by exact rfl, by exact Try.call45, by exact f_num_Add.ok [x1373, b1380.f1] t1392 e1393, trivial⟩ ?_
          obtain rfl := Option.some.inj H
          exact Exists.intro _ (And.intro (fun _ _ h => h.conv (inv := [(0, 0), (1, 1), (7, 12)]) (vk := []) (e0 := []) (t := ⟨[(1, .ptr 0 0 0), (2, .ptr 1 0 0), (5, .own 12), (8, .im (.row (a0.map eBucket))), (9, iV .i64 (a0.length : Int)), (10, iV .i64 x1375)], [(0, some (.box 25 (aHist ⟨a1_c0, a1_c1, a1_c2, t1392.1, a1_c4, a1_c5, a1_c6, a1_c7⟩))), (1, some (.box 3 [iV .i64 a2_c0])), (12, some (.row 2 54 (x1374.map eBucket)))], 2⟩) (by kernel_rfl)) (And.intro rfl rfl))
      · obtain ⟨x1394, x1395⟩ := o1400
        rintro e s ⟨rfl, rfl⟩
        refine reg hP hn hm [] [1, 2, 5, 8, 9, 10] [0, 1, 12] ⟨[(1, .ptr 0 0 0), (2, .ptr 1 0 0), (5, .own 12), (8, .im (.row (a0.map eBucket))), (9, iV .i64 (a0.length : Int)), (10, iV .i64 (IntKind.i64.wrap (x1375 + (1 : Int))))], [(0, some (.box 25 (aHist ⟨a1_c0, a1_c1, a1_c2, x1394, a1_c4, a1_c5, a1_c6, a1_c7⟩))), (1, some (.box 3 [iV .i64 a2_c0])), (12, some (.row 2 54 (x1395.map eBucket)))], 2⟩ [] (by kernel_rfl) trivial ?_
        exact LWp.conv (inv := [(0, 0), (1, 1), (12, 7)]) (vk := []) (e0 := []) (t := ⟨[(1, .ptr 0 0 0), (2, .ptr 1 0 0), (5, .own 7), (8, .im (.row (a0.map eBucket))), (9, iV .i64 (a0.length : Int)), (10, iV .i64 (IntKind.i64.wrap (x1375 + (1 : Int))))], [(0, some (.box 25 (aHist ⟨a1_c0, a1_c1, a1_c2, x1394, a1_c4, a1_c5, a1_c6, a1_c7⟩))), (1, some (.box 3 [iV .i64 a2_c0])), (7, some (.row 2 54 (x1395.map eBucket)))], 2⟩) (by kernel_rfl) (ih _ _ _ _ H)
    · replace H := (ifF c1376).symm.trans H
      refine AWp.exit ?_
      obtain rfl := Option.some.inj H
      exact Exists.intro _ (And.intro (fun _ _ h => h.conv (inv := [(7, 13), (0, 0), (1, 1)]) (vk := []) (e0 := []) (t := ⟨[(5, .own 13)], [(0, some (.box 25 (aHist ⟨a1_c0, a1_c1, a1_c2, x1373, a1_c4, a1_c5, a1_c6, a1_c7⟩))), (1, some (.box 3 [iV .i64 a2_c0])), (13, some (.row 2 54 (x1374.map eBucket)))], 2⟩) (by kernel_rfl)) (And.intro rfl rfl))
  · obtain ⟨x1396, x1397⟩ := o1398
    rintro e s ⟨rfl, rfl⟩
    refine AWp.seq ?_
    refine reg hP hn hm [] [4] [0, 1, 13] ⟨[(4, .own 13)], [(0, some (.box 25 (aHist ⟨a1_c0, a1_c1, a1_c2, x1397, a1_c4, a1_c5, a1_c6, a1_c7⟩))), (1, some (.box 3 [iV .i64 a2_c0])), (13, some (.row 2 54 (x1396.map eBucket)))], 2⟩ [] (by kernel_rfl) trivial ?_
    refine AWp.conv (inv := [(0, 0), (1, 1), (13, 2)]) (vk := []) (e0 := []) (t := ⟨[(4, .own 2)], [(0, some (.box 25 (aHist ⟨a1_c0, a1_c1, a1_c2, x1397, a1_c4, a1_c5, a1_c6, a1_c7⟩))), (1, some (.box 3 [iV .i64 a2_c0])), (2, some (.row 2 54 (x1396.map eBucket)))], 2⟩) (by kernel_rfl) ?_
    refine AWp.ret ?_
    obtain rfl := Option.some.inj H
    exact Exists.intro _ (And.intro (fun _ _ h => h) (And.intro (.inl rfl) (And.intro rfl (And.intro (by kernel_rfl) (by kernel_rfl)))))
def f_meld_swallow.f (a0 : THist) (a1 : List TBucket) (a2 : List TBucket) (a3 : Int) : Option (THist × Int) := (f_meld_edge.f a0 a1 a3) >>= fun t1349 => (f_meld_edge.f a0 a2 a3) >>= fun t1351 => (f_meld_swallow_1_8ce.f a1 a0.f0 a0.f1 a0.f2 a0.f3 a0.f4 a0.f5 a0.f6 a0.f7 (if t1351 > t1349 then t1351 else t1349)) >>= fun t1406 => (f_meld_swallow_1_8ce.f a2 a0.f0 a0.f1 a0.f2 t1406.2 a0.f4 a0.f5 a0.f6 a0.f7 (if t1351 > t1349 then t1351 else t1349)) >>= fun t1408 => (f_hist_Make.f (⟨a0.f0, a0.f1, (if t1351 > t1349 then t1351 else t1349), t1408.2, a0.f4, a0.f5, a0.f6, a0.f7⟩ : THist) t1406.1 t1408.1) >>= fun t1414 => some ((t1414.1), t1414.2)
theorem f_meld_swallow.ok (a0 : THist) (a1 : List TBucket) (a2 : List TBucket) (a3 : Int) (r : THist × Int) (H : f_meld_swallow.f a0 a1 a2 a3 = some r) : Pv.Fn Try.prog 36 [.agg (aHist a0), .im (.row (a1.map eBucket)), .im (.row (a2.map eBucket)), iV .i64 a3] [] 0 (fun x o => x = .tup [.agg (aHist (r.1)), iV .i64 r.2] ∧ o = []) := by
  unfold f_meld_swallow.f at H
  refine Fn.bodyK [] Try.func36 rfl rfl (fun Γ hP hn => ?_)
  have hm : Try.prog.follows .mixedOrders = true := by kernel_rfl
  replace hn : Γ.n = 35 := hn
  refine AWp.seq ?_
  refine reg hP hn hm [(0, .k 0), (1, .k 1), (2, .k 2)] [1, 2, 4, 7, 8] [0, 1, 2] ⟨[(1, .im (.row (a1.map eBucket))), (2, .im (.row (a2.map eBucket))), (4, .ptr 0 0 0), (7, .ptr 1 0 0), (8, .ptr 2 0 0)], [(0, some (.box 25 (aHist a0))), (1, some (.box 3 [iV .i64 a3])), (2, some (.box 25 [iV .i64 0, iV .i64 0, iV .i64 0, iV .u64 0, iV .u64 0, iV .i64 0, .none0, .none0]))], 0⟩ [] (by kernel_rfl) trivial ?_
  refine AWp.seq ?_
  obtain ⟨t1349, e1350, H⟩ := bind_of H
  obtain ⟨t1351, e1352, H⟩ := bind_of H
  refine reg hP hn hm [(3, .call [] [] [] [] 0 (iV .i64 t1349) []), (7, .call [] [] [] [] 0 (iV .i64 t1351) []), (8, .more xMax)] [1, 2, 4, 7, 8] [0, 1, 2] ⟨[(1, .im (.row (a1.map eBucket))), (2, .im (.row (a2.map eBucket))), (4, .ptr 0 0 0), (7, .ptr 1 0 0), (8, .ptr 2 0 0)], [(0, some (.box 25 (aHist a0))), (1, some (.box 3 [iV .i64 (if t1351 > t1349 then t1351 else t1349)])), (2, some (.box 25 [iV .i64 0, iV .i64 0, iV .i64 0, iV .u64 0, iV .u64 0, iV .i64 0, .none0, .none0]))], 0⟩ [Enters Try.prog 58, Pv.Fn Try.prog 58 [.agg (aHist a0), .im (.row (a1.map eBucket)), iV .i64 a3] [] 0 (fun r o => r = iV .i64 t1349 ∧ o = []), Enters Try.prog 58, Pv.Fn Try.prog 58 [.agg (aHist a0), .im (.row (a2.map eBucket)), iV .i64 a3] [] 0 (fun r o => r = iV .i64 t1351 ∧ o = [])] (by kernel_rfl) ⟨by exact Try.call58, by exact f_meld_edge.ok a0 a1 a3 t1349 e1350, by exact Try.call58, by exact f_meld_edge.ok a0 a2 a3 t1351 e1352, trivial⟩ ?_
  refine AWp.seq ?_
  refine reg hP hn hm [(0, .more xFunc)] [1, 2, 4, 7, 8, 10] [0, 1, 2] ⟨[(1, .im (.row (a1.map eBucket))), (2, .im (.row (a2.map eBucket))), (4, .ptr 0 0 0), (7, .ptr 1 0 0), (8, .ptr 2 0 0), (10, .fn 59 [.ptr 0 0 0, .ptr 1 0 0])], [(0, some (.box 25 (aHist a0))), (1, some (.box 3 [iV .i64 (if t1351 > t1349 then t1351 else t1349)])), (2, some (.box 25 [iV .i64 0, iV .i64 0, iV .i64 0, iV .u64 0, iV .u64 0, iV .i64 0, .none0, .none0]))], 0⟩ [] (by kernel_rfl) trivial ?_
  refine AWp.seq ?_
  obtain ⟨t1406, e1407, H⟩ := bind_of H
  obtain ⟨t1408, e1409, H⟩ := bind_of H
  refine reg hP hn hm [(2, .call [(0, 0), (1, 1)] [(0, 0), (1, 1), (2, 3)] [] [3] 2 (.own 2) [(0, some (.box 25 (aHist ⟨a0.f0, a0.f1, a0.f2, t1406.2, a0.f4, a0.f5, a0.f6, a0.f7⟩))), (1, some (.box 3 [iV .i64 (if t1351 > t1349 then t1351 else t1349)])), (2, some (.row 2 54 (t1406.1.map eBucket)))]), (5, .call [(0, 0), (1, 1)] [(0, 0), (1, 1), (2, 4)] [] [4] 2 (.own 2) [(0, some (.box 25 (aHist ⟨a0.f0, a0.f1, a0.f2, t1408.2, a0.f4, a0.f5, a0.f6, a0.f7⟩))), (1, some (.box 3 [iV .i64 (if t1351 > t1349 then t1351 else t1349)])), (2, some (.row 2 54 (t1408.1.map eBucket)))])] [1, 2, 4, 7, 8] [0, 1, 2, 3, 4] ⟨[(1, .own 3), (2, .own 4), (4, .ptr 0 0 0), (7, .ptr 1 0 0), (8, .ptr 2 0 0)], [(0, some (.box 25 (aHist ⟨a0.f0, a0.f1, a0.f2, t1408.2, a0.f4, a0.f5, a0.f6, a0.f7⟩))), (1, some (.box 3 [iV .i64 (if t1351 > t1349 then t1351 else t1349)])), (2, some (.box 25 [iV .i64 0, iV .i64 0, iV .i64 0, iV .u64 0, iV .u64 0, iV .i64 0, .none0, .none0])), (3, some (.row 2 54 (t1406.1.map eBucket))), (4, some (.row 2 54 (t1408.1.map eBucket)))], 0⟩ [Enters Try.prog 59, Pv.Fn Try.prog 59 [.im (.row (a1.map eBucket)), .ptr 0 0 0, .ptr 1 0 0] [(0, some (.box 25 (aHist a0))), (1, some (.box 3 [iV .i64 (if t1351 > t1349 then t1351 else t1349)]))] 2 (fun r o => r = .own 2 ∧ o = [(0, some (.box 25 (aHist ⟨a0.f0, a0.f1, a0.f2, t1406.2, a0.f4, a0.f5, a0.f6, a0.f7⟩))), (1, some (.box 3 [iV .i64 (if t1351 > t1349 then t1351 else t1349)])), (2, some (.row 2 54 (t1406.1.map eBucket)))]), Enters Try.prog 59, Pv.Fn Try.prog 59 [.im (.row (a2.map eBucket)), .ptr 0 0 0, .ptr 1 0 0] [(0, some (.box 25 (aHist ⟨a0.f0, a0.f1, a0.f2, t1406.2, a0.f4, a0.f5, a0.f6, a0.f7⟩))), (1, some (.box 3 [iV .i64 (if t1351 > t1349 then t1351 else t1349)]))] 2 (fun r o => r = .own 2 ∧ o = [(0, some (.box 25 (aHist ⟨a0.f0, a0.f1, a0.f2, t1408.2, a0.f4, a0.f5, a0.f6, a0.f7⟩))), (1, some (.box 3 [iV .i64 (if t1351 > t1349 then t1351 else t1349)])), (2, some (.row 2 54 (t1408.1.map eBucket)))])] (by kernel_rfl) ⟨by exact Try.call59, by exact f_meld_swallow_1_8ce.ok a1 a0.f0 a0.f1 a0.f2 a0.f3 a0.f4 a0.f5 a0.f6 a0.f7 (if t1351 > t1349 then t1351 else t1349) t1406 e1407, by exact Try.call59, by exact f_meld_swallow_1_8ce.ok a2 a0.f0 a0.f1 a0.f2 t1406.2 a0.f4 a0.f5 a0.f6 a0.f7 (if t1351 > t1349 then t1351 else t1349) t1408 e1409, trivial⟩ ?_
  refine AWp.seq ?_
  refine reg hP hn hm [] [1, 2, 4, 8] [0, 2, 3, 4] ⟨[(1, .own 3), (2, .own 4), (4, .ptr 0 0 0), (8, .ptr 2 0 0)], [(0, some (.box 25 (aHist ⟨a0.f0, a0.f1, (if t1351 > t1349 then t1351 else t1349), t1408.2, a0.f4, a0.f5, a0.f6, a0.f7⟩))), (2, some (.box 25 [iV .i64 0, iV .i64 0, iV .i64 0, iV .u64 0, iV .u64 0, iV .i64 0, .none0, .none0])), (3, some (.row 2 54 (t1406.1.map eBucket))), (4, some (.row 2 54 (t1408.1.map eBucket)))], 0⟩ [] (by kernel_rfl) trivial ?_
  refine AWp.seq ?_
  refine AWp.conv (inv := [(2, 2), (0, 0)]) (vk := [3, 4]) (e0 := []) (t := ⟨[(1, .im (.row (t1406.1.map eBucket))), (2, .im (.row (t1408.1.map eBucket))), (4, .ptr 0 0 0), (8, .ptr 2 0 0)], [(0, some (.box 25 (aHist ⟨a0.f0, a0.f1, (if t1351 > t1349 then t1351 else t1349), t1408.2, a0.f4, a0.f5, a0.f6, a0.f7⟩))), (2, some (.box 25 [iV .i64 0, iV .i64 0, iV .i64 0, iV .u64 0, iV .u64 0, iV .i64 0, .none0, .none0]))], 0⟩) (by kernel_rfl) ?_
  obtain ⟨t1414, e1415, H⟩ := bind_of H
  refine reg hP hn hm [(3, .call [] [] [] [] 0 (.tup [.agg (aHist (t1414.1)), iV .i64 t1414.2]) [])] [8, 9] [2] ⟨[(8, .ptr 2 0 0), (9, iV .i64 t1414.2)], [(2, some (.box 25 (aHist (t1414.1))))], 0⟩ [Enters Try.prog 33, Pv.Fn Try.prog 33 [.agg (aHist ⟨a0.f0, a0.f1, (if t1351 > t1349 then t1351 else t1349), t1408.2, a0.f4, a0.f5, a0.f6, a0.f7⟩), .im (.row (t1406.1.map eBucket)), .im (.row (t1408.1.map eBucket))] [] 0 (fun r o => r = .tup [.agg (aHist (t1414.1)), iV .i64 t1414.2] ∧ o = [])] (by kernel_rfl) ⟨by exact Try.call33, by exact f_hist_Make.ok (⟨a0.f0, a0.f1, (if t1351 > t1349 then t1351 else t1349), t1408.2, a0.f4, a0.f5, a0.f6, a0.f7⟩ : THist) t1406.1 t1408.1 t1414 e1415, trivial⟩ ?_
  refine AWp.conv (inv := [(2, 0)]) (vk := []) (e0 := []) (t := ⟨[(8, .ptr 0 0 0), (9, iV .i64 t1414.2)], [(0, some (.box 25 (aHist ((t1414.1)))))], 0⟩) (by kernel_rfl) ?_
  refine AWp.ret ?_
  obtain rfl := Option.some.inj H
  exact Exists.intro _ (And.intro (fun _ _ h => h) (And.intro (.inl rfl) (And.intro rfl (And.intro (by kernel_rfl) (by kernel_rfl)))))
def f_meld_Down.f (a0 : THist) (a1 : Int) : Option (THist × Int) := (((f_bound_Right.f a1) >>= fun t1223 => if (!t1223) = true then (some true) else (some (decide (a1 > a0.f1)))) : Option (Bool)) >>= fun x1226 => if x1226 = true then (some ((⟨0, 0, 0, 0, 0, 0, [], []⟩ : THist), 20)) else ((f_meld_down.f a0.f6 a0.f1 a1) >>= fun t1290 => (f_meld_down.f a0.f7 a0.f1 a1) >>= fun t1292 => (f_meld_swallow.f (⟨a0.f0, a1, a0.f2, a0.f3, a0.f4, a0.f5, a0.f6, a0.f7⟩ : THist) t1290 t1292 a0.f2) >>= fun t1420 => some ((t1420.1), t1420.2))
theorem f_meld_Down.ok (a0 : THist) (a1 : Int) (r : THist × Int) (H : f_meld_Down.f a0 a1 = some r) : Pv.Fn Try.prog 12 [.agg (aHist a0), iV .i64 a1] [] 0 (fun x o => x = .tup [.agg (aHist (r.1)), iV .i64 r.2] ∧ o = []) := by
  unfold f_meld_Down.f at H
  refine Fn.bodyK [] Try.func12 rfl rfl (fun Γ hP hn => ?_)
  have hm : Try.prog.follows .mixedOrders = true := by kernel_rfl
  replace hn : Γ.n = 41 := hn
  refine AWp.seq ?_
  refine reg hP hn hm [(0, .k 0), (1, .k 1)] [1, 2, 4] [0, 1] ⟨[(1, iV .i64 a1), (2, .ptr 0 0 0), (4, .ptr 1 0 0)], [(0, some (.box 25 (aHist a0))), (1, some (.box 25 [iV .i64 0, iV .i64 0, iV .i64 0, iV .u64 0, iV .u64 0, iV .i64 0, .none0, .none0]))], 0⟩ [] (by kernel_rfl) trivial ?_
  refine AWp.seq ?_
  refine AWp.seq ?_
  obtain ⟨o1422, e1423, H⟩ := bind_of H
  refine AWp.mono (Q := fun e s => (match (generalizing := false) o1422 with | x1226 => e = .normal ∧ s = ⟨[(1, iV .i64 a1), (2, .ptr 2 0 0), (4, .ptr 3 0 0), (17, bV x1226)], [(2, some (.box 25 (aHist a0))), (3, some (.box 25 [iV .i64 0, iV .i64 0, iV .i64 0, iV .u64 0, iV .u64 0, iV .i64 0, .none0, .none0]))], 0⟩)) (AWp.cv ?_) ?_
  · replace H := e1423; clear e1423
    obtain ⟨t1223, e1224, H⟩ := bind_of H
    rcases Bool.eq_false_or_eq_true (!t1223) with c1225 | c1225
    · replace H := (ifT c1225).symm.trans H
      refine reg hP hn hm [(1, .call [] [] [] [] 0 (bV t1223) []), (3, .b true)] [1, 2, 4, 17] [0, 1] ⟨[(1, iV .i64 a1), (2, .ptr 0 0 0), (4, .ptr 1 0 0), (17, bV true)], [(0, some (.box 25 (aHist a0))), (1, some (.box 25 [iV .i64 0, iV .i64 0, iV .i64 0, iV .u64 0, iV .u64 0, iV .i64 0, .none0, .none0]))], 0⟩ [Enters Try.prog 34, Pv.Fn Try.prog 34 [iV .i64 a1] [] 0 (fun r o => r = bV t1223 ∧ o = []), (!t1223) = true] (by kernel_rfl) ⟨by exact Try.call34, by exact f_bound_Right.ok a1 t1223 e1224, by exact c1225, trivial⟩ ?_
      obtain rfl := Option.some.inj H
      exact Exists.intro _ (And.intro (fun _ _ h => h.conv (inv := [(0, 2), (1, 3)]) (vk := []) (e0 := []) (t := ⟨[(1, iV .i64 a1), (2, .ptr 2 0 0), (4, .ptr 3 0 0), (17, bV true)], [(2, some (.box 25 (aHist a0))), (3, some (.box 25 [iV .i64 0, iV .i64 0, iV .i64 0, iV .u64 0, iV .u64 0, iV .i64 0, .none0, .none0]))], 0⟩) (by kernel_rfl)) (And.intro rfl rfl))
    · replace H := (ifF c1225).symm.trans H
      refine reg hP hn hm [(1, .call [] [] [] [] 0 (bV t1223) []), (3, .b false)] [1, 2, 4, 17] [0, 1] ⟨[(1, iV .i64 a1), (2, .ptr 0 0 0), (4, .ptr 1 0 0), (17, bV (decide (a1 > a0.f1)))], [(0, some (.box 25 (aHist a0))), (1, some (.box 25 [iV .i64 0, iV .i64 0, iV .i64 0, iV .u64 0, iV .u64 0, iV .i64 0, .none0, .none0]))], 0⟩ [Enters Try.prog 34, Pv.Fn Try.prog 34 [iV .i64 a1] [] 0 (fun r o => r = bV t1223 ∧ o = []), (!t1223) = false] (by kernel_rfl) ⟨by exact Try.call34, by exact f_bound_Right.ok a1 t1223 e1224, by exact c1225, trivial⟩ ?_
      obtain rfl := Option.some.inj H
      exact Exists.intro _ (And.intro (fun _ _ h => h.conv (inv := [(0, 2), (1, 3)]) (vk := []) (e0 := []) (t := ⟨[(1, iV .i64 a1), (2, .ptr 2 0 0), (4, .ptr 3 0 0), (17, bV (decide (a1 > a0.f1)))], [(2, some (.box 25 (aHist a0))), (3, some (.box 25 [iV .i64 0, iV .i64 0, iV .i64 0, iV .u64 0, iV .u64 0, iV .i64 0, .none0, .none0]))], 0⟩) (by kernel_rfl)) (And.intro rfl rfl))
  · obtain ⟨x1226, rfl⟩ : ∃ z, z = o1422 := ⟨_, rfl⟩
    rintro e s ⟨rfl, rfl⟩
    refine AWp.cond x1226 rfl (fun c1227 => ?_) (fun c1227 => ?_)
    · replace H := (ifT c1227).symm.trans H
      refine AWp.seq ?_
      refine reg hP hn hm [] [4, 5] [3] ⟨[(4, .ptr 3 0 0), (5, iV .i64 20)], [(3, some (.box 25 [iV .i64 0, iV .i64 0, iV .i64 0, iV .u64 0, iV .u64 0, iV .i64 0, .none0, .none0]))], 0⟩ [] (by kernel_rfl) trivial ?_
      refine AWp.conv (inv := [(3, 0)]) (vk := []) (e0 := []) (t := ⟨[(4, .ptr 0 0 0), (5, iV .i64 20)], [(0, some (.box 25 (aHist ((⟨0, 0, 0, 0, 0, 0, [], []⟩ : THist)))))], 0⟩) (by kernel_rfl) ?_
      refine AWp.ret ?_
      obtain rfl := Option.some.inj H
      exact Exists.intro _ (And.intro (fun _ _ h => h) (And.intro (.inl rfl) (And.intro rfl (And.intro (by kernel_rfl) (by kernel_rfl)))))
    · replace H := (ifF c1227).symm.trans H
      refine AWp.skip ?_
      refine AWp.seq ?_
      refine reg hP hn hm [] [1, 2, 4, 6] [2, 3] ⟨[(1, iV .i64 a1), (2, .ptr 2 0 0), (4, .ptr 3 0 0), (6, iV .i64 a0.f1)], [(2, some (.box 25 (aHist a0))), (3, some (.box 25 [iV .i64 0, iV .i64 0, iV .i64 0, iV .u64 0, iV .u64 0, iV .i64 0, .none0, .none0]))], 0⟩ [] (by kernel_rfl) trivial ?_
      refine AWp.seq ?_
      refine reg hP hn hm [] [1, 2, 4, 6] [2, 3] ⟨[(1, iV .i64 a1), (2, .ptr 2 0 0), (4, .ptr 3 0 0), (6, iV .i64 a0.f1)], [(2, some (.box 25 (aHist ⟨a0.f0, a1, a0.f2, a0.f3, a0.f4, a0.f5, a0.f6, a0.f7⟩))), (3, some (.box 25 [iV .i64 0, iV .i64 0, iV .i64 0, iV .u64 0, iV .u64 0, iV .i64 0, .none0, .none0]))], 0⟩ [] (by kernel_rfl) trivial ?_
      refine AWp.seq ?_
      obtain ⟨t1290, e1291, H⟩ := bind_of H
      obtain ⟨t1292, e1293, H⟩ := bind_of H
      refine reg hP hn hm [(4, .call [] [(0, 4)] [] [4] 0 (.own 0) [(0, some (.row 2 54 (t1290.map eBucket)))]), (9, .call [] [(0, 5)] [] [5] 0 (.own 0) [(0, some (.row 2 54 (t1292.map eBucket)))])] [2, 4, 7, 8] [2, 3, 4, 5] ⟨[(2, .ptr 2 0 0), (4, .ptr 3 0 0), (7, .own 4), (8, .own 5)], [(2, some (.box 25 (aHist ⟨a0.f0, a1, a0.f2, a0.f3, a0.f4, a0.f5, a0.f6, a0.f7⟩))), (3, some (.box 25 [iV .i64 0, iV .i64 0, iV .i64 0, iV .u64 0, iV .u64 0, iV .i64 0, .none0, .none0])), (4, some (.row 2 54 (t1290.map eBucket))), (5, some (.row 2 54 (t1292.map eBucket)))], 0⟩ [Enters Try.prog 35, Pv.Fn Try.prog 35 [.im (.row (a0.f6.map eBucket)), iV .i64 a0.f1, iV .i64 a1] [] 0 (fun r o => r = .own 0 ∧ o = [(0, some (.row 2 54 (t1290.map eBucket)))]), Enters Try.prog 35, Pv.Fn Try.prog 35 [.im (.row (a0.f7.map eBucket)), iV .i64 a0.f1, iV .i64 a1] [] 0 (fun r o => r = .own 0 ∧ o = [(0, some (.row 2 54 (t1292.map eBucket)))])] (by kernel_rfl) ⟨by exact Try.call35, by exact f_meld_down.ok a0.f6 a0.f1 a1 t1290 e1291, by exact Try.call35, by exact f_meld_down.ok a0.f7 a0.f1 a1 t1292 e1293, trivial⟩ ?_
      refine AWp.seq ?_
      refine AWp.conv (inv := [(2, 2), (3, 3)]) (vk := [4, 5]) (e0 := []) (t := ⟨[(2, .ptr 2 0 0), (4, .ptr 3 0 0), (7, .im (.row (t1290.map eBucket))), (8, .im (.row (t1292.map eBucket)))], [(2, some (.box 25 (aHist ⟨a0.f0, a1, a0.f2, a0.f3, a0.f4, a0.f5, a0.f6, a0.f7⟩))), (3, some (.box 25 [iV .i64 0, iV .i64 0, iV .i64 0, iV .u64 0, iV .u64 0, iV .i64 0, .none0, .none0]))], 0⟩) (by kernel_rfl) ?_
      obtain ⟨t1420, e1421, H⟩ := bind_of H
      refine reg hP hn hm [(5, .call [] [] [] [] 0 (.tup [.agg (aHist (t1420.1)), iV .i64 t1420.2]) [])] [4, 5] [3] ⟨[(4, .ptr 3 0 0), (5, iV .i64 t1420.2)], [(3, some (.box 25 (aHist (t1420.1))))], 0⟩ [Enters Try.prog 36, Pv.Fn Try.prog 36 [.agg (aHist ⟨a0.f0, a1, a0.f2, a0.f3, a0.f4, a0.f5, a0.f6, a0.f7⟩), .im (.row (t1290.map eBucket)), .im (.row (t1292.map eBucket)), iV .i64 a0.f2] [] 0 (fun r o => r = .tup [.agg (aHist (t1420.1)), iV .i64 t1420.2] ∧ o = [])] (by kernel_rfl) ⟨by exact Try.call36, by exact f_meld_swallow.ok (⟨a0.f0, a1, a0.f2, a0.f3, a0.f4, a0.f5, a0.f6, a0.f7⟩ : THist) t1290 t1292 a0.f2 t1420 e1421, trivial⟩ ?_
      refine AWp.conv (inv := [(3, 0)]) (vk := []) (e0 := []) (t := ⟨[(4, .ptr 0 0 0), (5, iV .i64 t1420.2)], [(0, some (.box 25 (aHist ((t1420.1)))))], 0⟩) (by kernel_rfl) ?_
      refine AWp.ret ?_
      obtain rfl := Option.some.inj H
      exact Exists.intro _ (And.intro (fun _ _ h => h) (And.intro (.inl rfl) (And.intro rfl (And.intro (by kernel_rfl) (by kernel_rfl)))))
def f_pluviallaw07_awake.f  : Option (Bool) := (f_hist_Empty.f 0 1) >>= fun t1216 => (f_hist_Make.f (t1216) [(⟨3, 2⟩ : TBucket)] ([] : List TBucket)) >>= fun t1218 => (f_meld_Down.f (t1218.1) 0) >>= fun t1426 => ((if (t1218.2 == (0 : Int)) = true then (if (t1426.2 == (0 : Int)) = true then (if ((((t1426.1).f6).length : Int) == (1 : Int)) = true then ((at? ((t1426.1).f6) 0) >>= fun b1437 => some ((b1437.f0 == (2 : Int)) && ((b1437.f1 == (2 : Int)) && true))) else (some false)) else (some false)) else (some false)) : Option (Bool)) >>= fun x1440 => some x1440
theorem f_pluviallaw07_awake.ok  (r : Bool) (H : f_pluviallaw07_awake.f  = some r) : Pv.Fn Try.prog 11 [] [] 0 (fun x o => x = bV r ∧ o = []) := by
  unfold f_pluviallaw07_awake.f at H
  refine Fn.bodyK [] Try.func11 rfl rfl (fun Γ hP hn => ?_)
  have hm : Try.prog.follows .mixedOrders = true := by kernel_rfl
  replace hn : Γ.n = 37 := hn
  refine AWp.seq ?_
  refine reg hP hn hm [] [] [] ⟨[], [], 0⟩ [] (by kernel_rfl) trivial ?_
  refine AWp.seq ?_
  obtain ⟨t1216, e1217, H⟩ := bind_of H
  obtain ⟨t1218, e1219, H⟩ := bind_of H
  refine reg hP hn hm [(0, .call [] [] [] [] 0 (.agg (aHist (t1216))) []), (2, .app 0 ([(⟨3, 2⟩ : TBucket)].map eBucket)), (3, .call [] [] [0] [] 0 (.tup [.agg (aHist (t1218.1)), iV .i64 t1218.2]) []), (7, .k 1)] [1, 2] [1] ⟨[(1, .ptr 1 0 0), (2, iV .i64 t1218.2)], [(1, some (.box 25 (aHist (t1218.1))))], 0⟩ [Enters Try.prog 31, Pv.Fn Try.prog 31 [iV .i64 0, iV .i64 1] [] 0 (fun r o => r = .agg (aHist (t1216)) ∧ o = []), [(⟨3, 2⟩ : TBucket)].map eBucket = [[iI .i64 3, iI .u64 2]], Enters Try.prog 33, Pv.Fn Try.prog 33 [.agg (aHist (t1216)), .im (.row ([(⟨3, 2⟩ : TBucket)].map eBucket)), .im (.row (([] : List TBucket).map eBucket))] [] 0 (fun r o => r = .tup [.agg (aHist (t1218.1)), iV .i64 t1218.2] ∧ o = [])] (by kernel_rfl) ⟨by exact Try.call31, by exact f_hist_Empty.ok 0 1 t1216 e1217, by exact rfl, by exact Try.call33, by exact f_hist_Make.ok (t1216) [(⟨3, 2⟩ : TBucket)] ([] : List TBucket) t1218 e1219, trivial⟩ ?_
  refine AWp.seq ?_
  obtain ⟨t1426, e1427, H⟩ := bind_of H
  refine reg hP hn hm [(1, .call [] [] [] [] 0 (.tup [.agg (aHist (t1426.1)), iV .i64 t1426.2]) []), (5, .k 2)] [2, 3, 4] [2] ⟨[(2, iV .i64 t1218.2), (3, .ptr 2 0 0), (4, iV .i64 t1426.2)], [(2, some (.box 25 (aHist (t1426.1))))], 0⟩ [Enters Try.prog 12, Pv.Fn Try.prog 12 [.agg (aHist (t1218.1)), iV .i64 0] [] 0 (fun r o => r = .tup [.agg (aHist (t1426.1)), iV .i64 t1426.2] ∧ o = [])] (by kernel_rfl) ⟨by exact Try.call12, by exact f_meld_Down.ok (t1218.1) 0 t1426 e1427, trivial⟩ ?_
  refine AWp.seq ?_
  obtain ⟨o1441, e1442, H⟩ := bind_of H
  refine AWp.mono (Q := fun e s => (match (generalizing := false) o1441 with | x1440 => e = .normal ∧ s = ⟨[(0, bV x1440)], [], 0⟩)) (AWp.cv ?_) ?_
  · replace H := e1442; clear e1442
    rcases Bool.eq_false_or_eq_true (t1218.2 == (0 : Int)) with c1434 | c1434
    · replace H := (ifT c1434).symm.trans H
      rcases Bool.eq_false_or_eq_true (t1426.2 == (0 : Int)) with c1435 | c1435
      · replace H := (ifT c1435).symm.trans H
        rcases Bool.eq_false_or_eq_true ((((t1426.1).f6).length : Int) == (1 : Int)) with c1436 | c1436
        · replace H := (ifT c1436).symm.trans H
          obtain ⟨b1437, p1438, q1439, H⟩ := at_of H
          refine reg hP hn hm [(2, .b true), (6, .b true), (9, .any (iV .i64 (((t1426.1).f6).length : Int))), (12, .b true), (15, .c (eBucket b1437)), (18, .more (xAgg none))] [0] [] ⟨[(0, bV ((b1437.f0 == (2 : Int)) && ((b1437.f1 == (2 : Int)) && true)))], [], 0⟩ [(t1218.2 == (0 : Int)) = true, (t1426.2 == (0 : Int)) = true, ((((t1426.1).f6).map eBucket).length : Int) = (((t1426.1).f6).length : Int), ((((t1426.1).f6).length : Int) == (1 : Int)) = true, 0 ≤ (0 : Int), (((t1426.1).f6).map eBucket)[(Int.toNat (0))]? = some (eBucket b1437)] (by kernel_rfl) ⟨by exact c1434, by exact c1435, by rw [len_map], by exact c1436, by exact p1438, by exact el_map eBucket q1439, trivial⟩ ?_
          obtain rfl := Option.some.inj H
          exact Exists.intro _ (And.intro (fun _ _ h => h.conv (inv := []) (vk := []) (e0 := []) (t := ⟨[(0, bV ((b1437.f0 == (2 : Int)) && ((b1437.f1 == (2 : Int)) && true)))], [], 0⟩) (by kernel_rfl)) (And.intro rfl rfl))
        · replace H := (ifF c1436).symm.trans H
          refine reg hP hn hm [(2, .b true), (6, .b true), (9, .any (iV .i64 (((t1426.1).f6).length : Int))), (12, .b false)] [0] [] ⟨[(0, bV false)], [], 0⟩ [(t1218.2 == (0 : Int)) = true, (t1426.2 == (0 : Int)) = true, ((((t1426.1).f6).map eBucket).length : Int) = (((t1426.1).f6).length : Int), ((((t1426.1).f6).length : Int) == (1 : Int)) = false] (by kernel_rfl) ⟨by exact c1434, by exact c1435, by rw [len_map], by exact c1436, trivial⟩ ?_
          obtain rfl := Option.some.inj H
          exact Exists.intro _ (And.intro (fun _ _ h => h.conv (inv := []) (vk := []) (e0 := []) (t := ⟨[(0, bV false)], [], 0⟩) (by kernel_rfl)) (And.intro rfl rfl))
      · replace H := (ifF c1435).symm.trans H
        refine reg hP hn hm [(2, .b true), (6, .b false)] [0] [] ⟨[(0, bV false)], [], 0⟩ [(t1218.2 == (0 : Int)) = true, (t1426.2 == (0 : Int)) = false] (by kernel_rfl) ⟨by exact c1434, by exact c1435, trivial⟩ ?_
        obtain rfl := Option.some.inj H
        exact Exists.intro _ (And.intro (fun _ _ h => h.conv (inv := []) (vk := []) (e0 := []) (t := ⟨[(0, bV false)], [], 0⟩) (by kernel_rfl)) (And.intro rfl rfl))
    · replace H := (ifF c1434).symm.trans H
      refine reg hP hn hm [(2, .b false)] [0] [] ⟨[(0, bV false)], [], 0⟩ [(t1218.2 == (0 : Int)) = false] (by kernel_rfl) ⟨by exact c1434, trivial⟩ ?_
      obtain rfl := Option.some.inj H
      exact Exists.intro _ (And.intro (fun _ _ h => h.conv (inv := []) (vk := []) (e0 := []) (t := ⟨[(0, bV false)], [], 0⟩) (by kernel_rfl)) (And.intro rfl rfl))
  · obtain ⟨x1440, rfl⟩ : ∃ z, z = o1441 := ⟨_, rfl⟩
    rintro e s ⟨rfl, rfl⟩
    refine AWp.conv (inv := []) (vk := []) (e0 := []) (t := ⟨[(0, bV x1440)], [], 0⟩) (by kernel_rfl) ?_
    refine AWp.ret ?_
    obtain rfl := Option.some.inj H
    exact Exists.intro _ (And.intro (fun _ _ h => h) (And.intro (.inl rfl) (And.intro rfl (And.intro (by kernel_rfl) (by kernel_rfl)))))
def f_slices_Equal_api_Bucket.l0 (a0 : List TBucket) (a1 : List TBucket) (x1504 : Int) : Option (Bool ⊕ Unit) := if (decide (x1504 < (a0.length : Int))) = true then ((at? a0 x1504) >>= fun b1512 => (at? a1 x1504) >>= fun b1515 => if (!((b1512.f0 == b1515.f0) && ((b1512.f1 == b1515.f1) && true))) = true then (some (.inl false)) else (f_slices_Equal_api_Bucket.l0 a0 a1 (IntKind.i64.wrap (x1504 + (1 : Int))))) else (some (.inr ()))
partial_fixpoint
def f_slices_Equal_api_Bucket.f (a0 : List TBucket) (a1 : List TBucket) : Option (Bool) := if ((a0.length : Int) != (a1.length : Int)) = true then (some false) else ((f_slices_Equal_api_Bucket.l0 a0 a1 0) >>= fun oo => match oo with | .inl rr => (some rr) | .inr _ => (some true))
theorem f_slices_Equal_api_Bucket.ok (a0 : List TBucket) (a1 : List TBucket) (r : Bool) (H : f_slices_Equal_api_Bucket.f a0 a1 = some r) : Pv.Fn Try.prog 39 [.im (.row (a0.map eBucket)), .im (.row (a1.map eBucket))] [] 0 (fun x o => x = bV r ∧ o = []) := by
  unfold f_slices_Equal_api_Bucket.f at H
  refine Fn.bodyK [] Try.func39 rfl rfl (fun Γ hP hn => ?_)
  have hm : Try.prog.follows .mixedOrders = true := by kernel_rfl
  replace hn : Γ.n = 26 := hn
  refine AWp.seq ?_
  refine reg hP hn hm [] [0, 1] [] ⟨[(0, .im (.row (a0.map eBucket))), (1, .im (.row (a1.map eBucket)))], [], 0⟩ [] (by kernel_rfl) trivial ?_
  refine AWp.seq ?_
  refine AWp.seq ?_
  refine reg hP hn hm [(1, .any (iV .i64 (a0.length : Int))), (3, .any (iV .i64 (a1.length : Int)))] [0, 1, 10] [] ⟨[(0, .im (.row (a0.map eBucket))), (1, .im (.row (a1.map eBucket))), (10, bV ((a0.length : Int) != (a1.length : Int)))], [], 0⟩ [((a0.map eBucket).length : Int) = (a0.length : Int), ((a1.map eBucket).length : Int) = (a1.length : Int)] (by kernel_rfl) ⟨by rw [len_map], by rw [len_map], trivial⟩ ?_
  refine AWp.cond ((a0.length : Int) != (a1.length : Int)) rfl (fun c1489 => ?_) (fun c1489 => ?_)
  · replace H := (ifT c1489).symm.trans H
    refine AWp.seq ?_
    refine reg hP hn hm [] [4] [] ⟨[(4, bV false)], [], 0⟩ [] (by kernel_rfl) trivial ?_
    refine AWp.conv (inv := []) (vk := []) (e0 := []) (t := ⟨[(4, bV false)], [], 0⟩) (by kernel_rfl) ?_
    refine AWp.ret ?_
    obtain rfl := Option.some.inj H
    exact Exists.intro _ (And.intro (fun _ _ h => h) (And.intro (.inl rfl) (And.intro rfl (And.intro (by kernel_rfl) (by kernel_rfl)))))
  · replace H := (ifF c1489).symm.trans H
    refine AWp.skip ?_
    refine AWp.seq ?_
    refine AWp.seq ?_
    refine reg hP hn hm [(1, .any (iV .i64 (a0.length : Int)))] [0, 1, 12, 13] [] ⟨[(0, .im (.row (a0.map eBucket))), (1, .im (.row (a1.map eBucket))), (12, iV .i64 (a0.length : Int)), (13, iV .i64 0)], [], 0⟩ [((a0.map eBucket).length : Int) = (a0.length : Int)] (by kernel_rfl) ⟨by rw [len_map], trivial⟩ ?_
    refine AWp.block ?_
    obtain ⟨o1519, e1520, H⟩ := bind_of H
    refine AWp.loop (LWp.conv (inv := []) (vk := []) (e0 := []) (t := ⟨[(0, .im (.row (a0.map eBucket))), (1, .im (.row (a1.map eBucket))), (12, iV .i64 (a0.length : Int)), (13, iV .i64 0)], [], 0⟩) (by kernel_rfl) ?_)
    refine LWp.mono (Q := fun e s => (match (generalizing := false) o1519 with | .inl rr => e = .ret ∧ s.floor = 0 ∧ resOf Try.prog Try.f39 s = some (bV rr) ∧ ([] : List (Nat × Option MObj)) = [] | .inr _ => e = .exit 0 ∧ s = ⟨[], [], 0⟩)) (LWp.cv (withBody (fun body hbody => ?_))) ?_
    · refine f_slices_Equal_api_Bucket.l0.partial_correctness a0 a1 (motive := fun x1504 o1519 => LWp Γ body (fun e s => ∃ t, Cv Γ s t ∧ (match (generalizing := false) o1519 with | .inl rr => e = .ret ∧ t.floor = 0 ∧ resOf Try.prog Try.f39 t = some (bV rr) ∧ ([] : List (Nat × Option MObj)) = [] | .inr _ => e = .exit 0 ∧ t = ⟨[], [], 0⟩)) ⟨[(0, .im (.row (a0.map eBucket))), (1, .im (.row (a1.map eBucket))), (12, iV .i64 (a0.length : Int)), (13, iV .i64 x1504)], [], 0⟩) ?_ _ _ e1520
      clear H e1520 o1519; intro self ih x1504 o1519 H
      subst hbody
      refine LWp.round ?_
      refine AWp.seq ?_
      refine reg hP hn hm [] [0, 1, 12, 13, 14] [] ⟨[(0, .im (.row (a0.map eBucket))), (1, .im (.row (a1.map eBucket))), (12, iV .i64 (a0.length : Int)), (13, iV .i64 x1504), (14, bV (decide (x1504 < (a0.length : Int))))], [], 0⟩ [] (by kernel_rfl) trivial ?_
      refine AWp.seq ?_
      refine AWp.cond (decide (x1504 < (a0.length : Int))) rfl (fun c1505 => ?_) (fun c1505 => ?_)
      · replace H := (ifT c1505).symm.trans H
        refine AWp.skip ?_
        refine AWp.seq ?_
        refine AWp.block ?_
        refine AWp.seq ?_
        refine reg hP hn hm [] [0, 1, 5, 12, 13] [] ⟨[(0, .im (.row (a0.map eBucket))), (1, .im (.row (a1.map eBucket))), (5, iV .i64 x1504), (12, iV .i64 (a0.length : Int)), (13, iV .i64 x1504)], [], 0⟩ [] (by kernel_rfl) trivial ?_
        refine AWp.seq ?_
        obtain ⟨b1512, p1513, q1514, H⟩ := at_of H
        obtain ⟨b1515, p1516, q1517, H⟩ := at_of H
        refine reg hP hn hm [(2, .c (eBucket b1512)), (6, .c (eBucket b1515)), (8, .more (xAgg none))] [0, 1, 12, 13, 24] [] ⟨[(0, .im (.row (a0.map eBucket))), (1, .im (.row (a1.map eBucket))), (12, iV .i64 (a0.length : Int)), (13, iV .i64 x1504), (24, bV (!((b1512.f0 == b1515.f0) && ((b1512.f1 == b1515.f1) && true))))], [], 0⟩ [0 ≤ x1504, (a0.map eBucket)[(Int.toNat (x1504))]? = some (eBucket b1512), 0 ≤ x1504, (a1.map eBucket)[(Int.toNat (x1504))]? = some (eBucket b1515)] (by kernel_rfl) ⟨by exact p1513, by exact el_map eBucket q1514, by exact p1516, by exact el_map eBucket q1517, trivial⟩ ?_
        refine AWp.cond (!((b1512.f0 == b1515.f0) && ((b1512.f1 == b1515.f1) && true))) rfl (fun c1518 => ?_) (fun c1518 => ?_)
        · replace H := (ifT c1518).symm.trans H
          refine AWp.seq ?_
          refine reg hP hn hm [] [4] [] ⟨[(4, bV false)], [], 0⟩ [] (by kernel_rfl) trivial ?_
          refine AWp.conv (inv := []) (vk := []) (e0 := []) (t := ⟨[(4, bV false)], [], 0⟩) (by kernel_rfl) ?_
          refine AWp.ret ?_
          obtain rfl := Option.some.inj H
          exact Exists.intro _ (And.intro (fun _ _ h => h) (And.intro rfl (And.intro rfl (And.intro (by kernel_rfl) (by kernel_rfl)))))
        · replace H := (ifF c1518).symm.trans H
          refine AWp.skip ?_
          refine reg hP hn hm [] [0, 1, 12, 13] [] ⟨[(0, .im (.row (a0.map eBucket))), (1, .im (.row (a1.map eBucket))), (12, iV .i64 (a0.length : Int)), (13, iV .i64 (IntKind.i64.wrap (x1504 + (1 : Int))))], [], 0⟩ [] (by kernel_rfl) trivial ?_
          exact LWp.conv (inv := []) (vk := []) (e0 := []) (t := ⟨[(0, .im (.row (a0.map eBucket))), (1, .im (.row (a1.map eBucket))), (12, iV .i64 (a0.length : Int)), (13, iV .i64 (IntKind.i64.wrap (x1504 + (1 : Int))))], [], 0⟩) (by kernel_rfl) (ih _ _ H)
      · replace H := (ifF c1505).symm.trans H
        refine AWp.exit ?_
        obtain rfl := Option.some.inj H
        exact Exists.intro _ (And.intro (fun _ _ h => h.conv (inv := []) (vk := []) (e0 := []) (t := ⟨[], [], 0⟩) (by kernel_rfl)) (And.intro rfl rfl))
    · rcases o1519 with rr | _
      · skip
        rintro e s ⟨rfl, hfl, hres⟩
        obtain rfl := Option.some.inj H
        exact Exists.intro _ (And.intro (fun _ _ h => h) (And.intro (.inl rfl) (And.intro hfl hres)))
      · skip
        rintro e s ⟨rfl, rfl⟩
        refine AWp.seq ?_
        refine reg hP hn hm [] [4] [] ⟨[(4, bV true)], [], 0⟩ [] (by kernel_rfl) trivial ?_
        refine AWp.conv (inv := []) (vk := []) (e0 := []) (t := ⟨[(4, bV true)], [], 0⟩) (by kernel_rfl) ?_
        refine AWp.ret ?_
        obtain rfl := Option.some.inj H
        exact Exists.intro _ (And.intro (fun _ _ h => h) (And.intro (.inl rfl) (And.intro rfl (And.intro (by kernel_rfl) (by kernel_rfl)))))
def f_hist_Same.f (a0 : THist) (a1 : THist) : Option (Bool) := ((if (a0.f0 == a1.f0) = true then (if (a0.f1 == a1.f1) = true then (if (a0.f2 == a1.f2) = true then (if (a0.f3 == a1.f3) = true then (if (a0.f4 == a1.f4) = true then (if (a0.f5 == a1.f5) = true then ((f_slices_Equal_api_Bucket.f a0.f6 a1.f6) >>= fun t1532 => if t1532 = true then ((f_slices_Equal_api_Bucket.f a0.f7 a1.f7) >>= fun t1535 => some t1535) else (some false)) else (some false)) else (some false)) else (some false)) else (some false)) else (some false)) else (some false)) : Option (Bool)) >>= fun x1537 => some x1537
theorem f_hist_Same.ok (a0 : THist) (a1 : THist) (r : Bool) (H : f_hist_Same.f a0 a1 = some r) : Pv.Fn Try.prog 14 [.agg (aHist a0), .agg (aHist a1)] [] 0 (fun x o => x = bV r ∧ o = []) := by
  unfold f_hist_Same.f at H
  refine Fn.bodyK [] Try.func14 rfl rfl (fun Γ hP hn => ?_)
  have hm : Try.prog.follows .mixedOrders = true := by kernel_rfl
  replace hn : Γ.n = 59 := hn
  refine AWp.seq ?_
  refine reg hP hn hm [(0, .k 0), (1, .k 1)] [2, 3] [0, 1] ⟨[(2, .ptr 0 0 0), (3, .ptr 1 0 0)], [(0, some (.box 25 (aHist a0))), (1, some (.box 25 (aHist a1)))], 0⟩ [] (by kernel_rfl) trivial ?_
  refine AWp.seq ?_
  obtain ⟨o1538, e1539, H⟩ := bind_of H
  refine AWp.mono (Q := fun e s => (match (generalizing := false) o1538 with | x1537 => e = .normal ∧ s = ⟨[(4, bV x1537)], [], 0⟩)) (AWp.cv ?_) ?_
  · replace H := e1539; clear e1539
    rcases Bool.eq_false_or_eq_true (a0.f0 == a1.f0) with c1526 | c1526
    · replace H := (ifT c1526).symm.trans H
      rcases Bool.eq_false_or_eq_true (a0.f1 == a1.f1) with c1527 | c1527
      · replace H := (ifT c1527).symm.trans H
        rcases Bool.eq_false_or_eq_true (a0.f2 == a1.f2) with c1528 | c1528
        · replace H := (ifT c1528).symm.trans H
          rcases Bool.eq_false_or_eq_true (a0.f3 == a1.f3) with c1529 | c1529
          · replace H := (ifT c1529).symm.trans H
            rcases Bool.eq_false_or_eq_true (a0.f4 == a1.f4) with c1530 | c1530
            · replace H := (ifT c1530).symm.trans H
              rcases Bool.eq_false_or_eq_true (a0.f5 == a1.f5) with c1531 | c1531
              · replace H := (ifT c1531).symm.trans H
                obtain ⟨t1532, e1533, H⟩ := bind_of H
                rcases Bool.eq_false_or_eq_true t1532 with c1534 | c1534
                · replace H := (ifT c1534).symm.trans H
                  obtain ⟨t1535, e1536, H⟩ := bind_of H
                  refine reg hP hn hm [(5, .b true), (12, .b true), (19, .b true), (26, .b true), (33, .b true), (40, .b true), (45, .call [] [] [] [] 0 (bV t1532) []), (47, .b true), (52, .call [] [] [] [] 0 (bV t1535) [])] [4] [] ⟨[(4, bV t1535)], [], 0⟩ [(a0.f0 == a1.f0) = true, (a0.f1 == a1.f1) = true, (a0.f2 == a1.f2) = true, (a0.f3 == a1.f3) = true, (a0.f4 == a1.f4) = true, (a0.f5 == a1.f5) = true, Enters Try.prog 39, Pv.Fn Try.prog 39 [.im (.row (a0.f6.map eBucket)), .im (.row (a1.f6.map eBucket))] [] 0 (fun r o => r = bV t1532 ∧ o = []), t1532 = true, Enters Try.prog 39, Pv.Fn Try.prog 39 [.im (.row (a0.f7.map eBucket)), .im (.row (a1.f7.map eBucket))] [] 0 (fun r o => r = bV t1535 ∧ o = [])] (by kernel_rfl) ⟨by exact c1526, by exact c1527, by exact c1528, by exact c1529, by exact c1530, by exact c1531, by exact Try.call39, by exact f_slices_Equal_api_Bucket.ok a0.f6 a1.f6 t1532 e1533, by exact c1534, by exact Try.call39, by exact f_slices_Equal_api_Bucket.ok a0.f7 a1.f7 t1535 e1536, trivial⟩ ?_
                  obtain rfl := Option.some.inj H
                  exact Exists.intro _ (And.intro (fun _ _ h => h.conv (inv := []) (vk := []) (e0 := []) (t := ⟨[(4, bV t1535)], [], 0⟩) (by kernel_rfl)) (And.intro rfl rfl))
                · replace H := (ifF c1534).symm.trans H
                  refine reg hP hn hm [(5, .b true), (12, .b true), (19, .b true), (26, .b true), (33, .b true), (40, .b true), (45, .call [] [] [] [] 0 (bV t1532) []), (47, .b false)] [4] [] ⟨[(4, bV false)], [], 0⟩ [(a0.f0 == a1.f0) = true, (a0.f1 == a1.f1) = true, (a0.f2 == a1.f2) = true, (a0.f3 == a1.f3) = true, (a0.f4 == a1.f4) = true, (a0.f5 == a1.f5) = true, Enters Try.prog 39, Pv.Fn Try.prog 39 [.im (.row (a0.f6.map eBucket)), .im (.row (a1.f6.map eBucket))] [] 0 (fun r o => r = bV t1532 ∧ o = []), t1532 = false] (by kernel_rfl) ⟨by exact c1526, by exact c1527, by exact c1528, by exact c1529, by exact c1530, by exact c1531, by exact Try.call39, by exact f_slices_Equal_api_Bucket.ok a0.f6 a1.f6 t1532 e1533, by exact c1534, trivial⟩ ?_
                  obtain rfl := Option.some.inj H
                  exact Exists.intro _ (And.intro (fun _ _ h => h.conv (inv := []) (vk := []) (e0 := []) (t := ⟨[(4, bV false)], [], 0⟩) (by kernel_rfl)) (And.intro rfl rfl))
              · replace H := (ifF c1531).symm.trans H
                refine reg hP hn hm [(5, .b true), (12, .b true), (19, .b true), (26, .b true), (33, .b true), (40, .b false)] [4] [] ⟨[(4, bV false)], [], 0⟩ [(a0.f0 == a1.f0) = true, (a0.f1 == a1.f1) = true, (a0.f2 == a1.f2) = true, (a0.f3 == a1.f3) = true, (a0.f4 == a1.f4) = true, (a0.f5 == a1.f5) = false] (by kernel_rfl) ⟨by exact c1526, by exact c1527, by exact c1528, by exact c1529, by exact c1530, by exact c1531, trivial⟩ ?_
                obtain rfl := Option.some.inj H
                exact Exists.intro _ (And.intro (fun _ _ h => h.conv (inv := []) (vk := []) (e0 := []) (t := ⟨[(4, bV false)], [], 0⟩) (by kernel_rfl)) (And.intro rfl rfl))
            · replace H := (ifF c1530).symm.trans H
              refine reg hP hn hm [(5, .b true), (12, .b true), (19, .b true), (26, .b true), (33, .b false)] [4] [] ⟨[(4, bV false)], [], 0⟩ [(a0.f0 == a1.f0) = true, (a0.f1 == a1.f1) = true, (a0.f2 == a1.f2) = true, (a0.f3 == a1.f3) = true, (a0.f4 == a1.f4) = false] (by kernel_rfl) ⟨by exact c1526, by exact c1527, by exact c1528, by exact c1529, by exact c1530, trivial⟩ ?_
              obtain rfl := Option.some.inj H
              exact Exists.intro _ (And.intro (fun _ _ h => h.conv (inv := []) (vk := []) (e0 := []) (t := ⟨[(4, bV false)], [], 0⟩) (by kernel_rfl)) (And.intro rfl rfl))
          · replace H := (ifF c1529).symm.trans H
            refine reg hP hn hm [(5, .b true), (12, .b true), (19, .b true), (26, .b false)] [4] [] ⟨[(4, bV false)], [], 0⟩ [(a0.f0 == a1.f0) = true, (a0.f1 == a1.f1) = true, (a0.f2 == a1.f2) = true, (a0.f3 == a1.f3) = false] (by kernel_rfl) ⟨by exact c1526, by exact c1527, by exact c1528, by exact c1529, trivial⟩ ?_
            obtain rfl := Option.some.inj H
            exact Exists.intro _ (And.intro (fun _ _ h => h.conv (inv := []) (vk := []) (e0 := []) (t := ⟨[(4, bV false)], [], 0⟩) (by kernel_rfl)) (And.intro rfl rfl))
        · replace H := (ifF c1528).symm.trans H
          refine reg hP hn hm [(5, .b true), (12, .b true), (19, .b false)] [4] [] ⟨[(4, bV false)], [], 0⟩ [(a0.f0 == a1.f0) = true, (a0.f1 == a1.f1) = true, (a0.f2 == a1.f2) = false] (by kernel_rfl) ⟨by exact c1526, by exact c1527, by exact c1528, trivial⟩ ?_
          obtain rfl := Option.some.inj H
          exact Exists.intro _ (And.intro (fun _ _ h => h.conv (inv := []) (vk := []) (e0 := []) (t := ⟨[(4, bV false)], [], 0⟩) (by kernel_rfl)) (And.intro rfl rfl))
      · replace H := (ifF c1527).symm.trans H
        refine reg hP hn hm [(5, .b true), (12, .b false)] [4] [] ⟨[(4, bV false)], [], 0⟩ [(a0.f0 == a1.f0) = true, (a0.f1 == a1.f1) = false] (by kernel_rfl) ⟨by exact c1526, by exact c1527, trivial⟩ ?_
        obtain rfl := Option.some.inj H
        exact Exists.intro _ (And.intro (fun _ _ h => h.conv (inv := []) (vk := []) (e0 := []) (t := ⟨[(4, bV false)], [], 0⟩) (by kernel_rfl)) (And.intro rfl rfl))
    · replace H := (ifF c1526).symm.trans H
      refine reg hP hn hm [(5, .b false)] [4] [] ⟨[(4, bV false)], [], 0⟩ [(a0.f0 == a1.f0) = false] (by kernel_rfl) ⟨by exact c1526, trivial⟩ ?_
      obtain rfl := Option.some.inj H
      exact Exists.intro _ (And.intro (fun _ _ h => h.conv (inv := []) (vk := []) (e0 := []) (t := ⟨[(4, bV false)], [], 0⟩) (by kernel_rfl)) (And.intro rfl rfl))
  · obtain ⟨x1537, rfl⟩ : ∃ z, z = o1538 := ⟨_, rfl⟩
    rintro e s ⟨rfl, rfl⟩
    refine AWp.conv (inv := []) (vk := []) (e0 := []) (t := ⟨[(4, bV x1537)], [], 0⟩) (by kernel_rfl) ?_
    refine AWp.ret ?_
    obtain rfl := Option.some.inj H
    exact Exists.intro _ (And.intro (fun _ _ h => h) (And.intro (.inl rfl) (And.intro rfl (And.intro (by kernel_rfl) (by kernel_rfl)))))
def f_hist_Clone.f (a0 : THist) : Option (THist) := (f_slices_Clone_api_Bucket.f a0.f6) >>= fun t1553 => (f_slices_Clone_api_Bucket.f a0.f7) >>= fun t1555 => some (⟨a0.f0, a0.f1, a0.f2, a0.f3, a0.f4, a0.f5, t1553, t1555⟩ : THist)
theorem f_hist_Clone.ok (a0 : THist) (r : THist) (H : f_hist_Clone.f a0 = some r) : Pv.Fn Try.prog 26 [.agg (aHist a0)] [] 0 (fun x o => x = .agg [iV .i64 ((r).f0), iV .i64 ((r).f1), iV .i64 ((r).f2), iV .u64 ((r).f3), iV .u64 ((r).f4), iV .i64 ((r).f5), .own 0, .own 1] ∧ o = [(0, some (.row 2 54 (((r).f6).map eBucket))), (1, some (.row 2 54 (((r).f7).map eBucket)))]) := by
  unfold f_hist_Clone.f at H
  refine Fn.bodyK [0, 1] Try.func26 rfl rfl (fun Γ hP hn => ?_)
  have hm : Try.prog.follows .mixedOrders = true := by kernel_rfl
  replace hn : Γ.n = 12 := hn
  refine AWp.seq ?_
  refine reg hP hn hm [(0, .k 0), (1, .k 1)] [1, 2] [0, 1] ⟨[(1, .ptr 0 0 0), (2, .ptr 1 0 0)], [(0, some (.box 25 (aHist a0))), (1, some (.box 25 [iV .i64 0, iV .i64 0, iV .i64 0, iV .u64 0, iV .u64 0, iV .i64 0, .none0, .none0]))], 0⟩ [] (by kernel_rfl) trivial ?_
  refine AWp.seq ?_
  obtain ⟨t1553, e1554, H⟩ := bind_of H
  obtain ⟨t1555, e1556, H⟩ := bind_of H
  refine reg hP hn hm [(2, .call [] [(0, 2)] [] [2] 0 (.own 0) [(0, some (.row 2 54 (t1553.map eBucket)))]), (5, .call [] [(0, 3)] [] [3] 0 (.own 0) [(0, some (.row 2 54 (t1555.map eBucket)))])] [1, 2] [0, 1, 2, 3] ⟨[(1, .ptr 0 0 0), (2, .ptr 1 0 0)], [(0, some (.box 25 [iV .i64 a0.f0, iV .i64 a0.f1, iV .i64 a0.f2, iV .u64 a0.f3, iV .u64 a0.f4, iV .i64 a0.f5, .own 2, .own 3])), (1, some (.box 25 [iV .i64 0, iV .i64 0, iV .i64 0, iV .u64 0, iV .u64 0, iV .i64 0, .none0, .none0])), (2, some (.row 2 54 (t1553.map eBucket))), (3, some (.row 2 54 (t1555.map eBucket)))], 0⟩ [Enters Try.prog 53, Pv.Fn Try.prog 53 [.im (.row (a0.f6.map eBucket))] [] 0 (fun r o => r = .own 0 ∧ o = [(0, some (.row 2 54 (t1553.map eBucket)))]), Enters Try.prog 53, Pv.Fn Try.prog 53 [.im (.row (a0.f7.map eBucket))] [] 0 (fun r o => r = .own 0 ∧ o = [(0, some (.row 2 54 (t1555.map eBucket)))])] (by kernel_rfl) ⟨by exact Try.call53, by exact f_slices_Clone_api_Bucket.ok a0.f6 t1553 e1554, by exact Try.call53, by exact f_slices_Clone_api_Bucket.ok a0.f7 t1555 e1556, trivial⟩ ?_
  refine AWp.seq ?_
  refine reg hP hn hm [] [2] [1, 2, 3] ⟨[(2, .ptr 1 0 0)], [(1, some (.box 25 [iV .i64 a0.f0, iV .i64 a0.f1, iV .i64 a0.f2, iV .u64 a0.f3, iV .u64 a0.f4, iV .i64 a0.f5, .own 2, .own 3])), (2, some (.row 2 54 (t1553.map eBucket))), (3, some (.row 2 54 (t1555.map eBucket)))], 0⟩ [] (by kernel_rfl) trivial ?_
  refine AWp.conv (inv := [(1, 2), (2, 0), (3, 1)]) (vk := []) (e0 := []) (t := ⟨[(2, .ptr 2 0 0)], [(0, some (.row 2 54 ((((⟨a0.f0, a0.f1, a0.f2, a0.f3, a0.f4, a0.f5, t1553, t1555⟩ : THist)).f6).map eBucket))), (1, some (.row 2 54 ((((⟨a0.f0, a0.f1, a0.f2, a0.f3, a0.f4, a0.f5, t1553, t1555⟩ : THist)).f7).map eBucket))), (2, some (.box 25 [iV .i64 (((⟨a0.f0, a0.f1, a0.f2, a0.f3, a0.f4, a0.f5, t1553, t1555⟩ : THist)).f0), iV .i64 (((⟨a0.f0, a0.f1, a0.f2, a0.f3, a0.f4, a0.f5, t1553, t1555⟩ : THist)).f1), iV .i64 (((⟨a0.f0, a0.f1, a0.f2, a0.f3, a0.f4, a0.f5, t1553, t1555⟩ : THist)).f2), iV .u64 (((⟨a0.f0, a0.f1, a0.f2, a0.f3, a0.f4, a0.f5, t1553, t1555⟩ : THist)).f3), iV .u64 (((⟨a0.f0, a0.f1, a0.f2, a0.f3, a0.f4, a0.f5, t1553, t1555⟩ : THist)).f4), iV .i64 (((⟨a0.f0, a0.f1, a0.f2, a0.f3, a0.f4, a0.f5, t1553, t1555⟩ : THist)).f5), .own 0, .own 1]))], 0⟩) (by kernel_rfl) ?_
  refine AWp.ret ?_
  obtain rfl := Option.some.inj H
  exact Exists.intro _ (And.intro (fun _ _ h => h) (And.intro (.inl rfl) (And.intro rfl (And.intro (by kernel_rfl) (by kernel_rfl)))))
def f_meld_Widen.f (a0 : THist) (a1 : Int) : Option (THist × Int) := if (decide (a1 < a0.f2)) = true then (some ((⟨0, 0, 0, 0, 0, 0, [], []⟩ : THist), 31)) else (if (a1 == a0.f2) = true then ((f_hist_Clone.f a0) >>= fun t1559 => some ((t1559), 0)) else (((if (decide (a1 ≤ (-262144))) = true then (some true) else (some (decide (a1 > (262144 : Int))))) : Option (Bool)) >>= fun x1563 => if x1563 = true then (some ((⟨0, 0, 0, 0, 0, 0, [], []⟩ : THist), 31)) else ((f_meld_swallow.f a0 a0.f6 a0.f7 a1) >>= fun t1567 => some ((t1567.1), t1567.2))))
theorem f_meld_Widen.ok (a0 : THist) (a1 : Int) (r : THist × Int) (H : f_meld_Widen.f a0 a1 = some r) : Pv.Fn Try.prog 15 [.agg (aHist a0), iV .i64 a1] [] 0 (fun x o => x = .tup [.agg (aHist (r.1)), iV .i64 r.2] ∧ o = []) := by
  unfold f_meld_Widen.f at H
  refine Fn.bodyK [] Try.func15 rfl rfl (fun Γ hP hn => ?_)
  have hm : Try.prog.follows .mixedOrders = true := by kernel_rfl
  replace hn : Γ.n = 36 := hn
  refine AWp.seq ?_
  refine reg hP hn hm [(0, .k 0), (1, .k 1)] [1, 2, 4] [0, 1] ⟨[(1, iV .i64 a1), (2, .ptr 0 0 0), (4, .ptr 1 0 0)], [(0, some (.box 25 (aHist a0))), (1, some (.box 25 [iV .i64 0, iV .i64 0, iV .i64 0, iV .u64 0, iV .u64 0, iV .i64 0, .none0, .none0]))], 0⟩ [] (by kernel_rfl) trivial ?_
  refine AWp.seq ?_
  refine AWp.block ?_
  refine AWp.seq ?_
  refine reg hP hn hm [] [1, 2, 4, 6] [0, 1] ⟨[(1, iV .i64 a1), (2, .ptr 0 0 0), (4, .ptr 1 0 0), (6, bV (decide (a1 < a0.f2)))], [(0, some (.box 25 (aHist a0))), (1, some (.box 25 [iV .i64 0, iV .i64 0, iV .i64 0, iV .u64 0, iV .u64 0, iV .i64 0, .none0, .none0]))], 0⟩ [] (by kernel_rfl) trivial ?_
  refine AWp.cond (decide (a1 < a0.f2)) rfl (fun c1547 => ?_) (fun c1547 => ?_)
  · replace H := (ifT c1547).symm.trans H
    refine AWp.seq ?_
    refine reg hP hn hm [] [4, 5] [1] ⟨[(4, .ptr 1 0 0), (5, iV .i64 31)], [(1, some (.box 25 [iV .i64 0, iV .i64 0, iV .i64 0, iV .u64 0, iV .u64 0, iV .i64 0, .none0, .none0]))], 0⟩ [] (by kernel_rfl) trivial ?_
    refine AWp.conv (inv := [(1, 0)]) (vk := []) (e0 := []) (t := ⟨[(4, .ptr 0 0 0), (5, iV .i64 31)], [(0, some (.box 25 (aHist ((⟨0, 0, 0, 0, 0, 0, [], []⟩ : THist)))))], 0⟩) (by kernel_rfl) ?_
    refine AWp.ret ?_
    obtain rfl := Option.some.inj H
    exact Exists.intro _ (And.intro (fun _ _ h => h) (And.intro (.inl rfl) (And.intro rfl (And.intro (by kernel_rfl) (by kernel_rfl)))))
  · replace H := (ifF c1547).symm.trans H
    refine AWp.seq ?_
    refine reg hP hn hm [] [1, 2, 4, 12] [0, 1] ⟨[(1, iV .i64 a1), (2, .ptr 0 0 0), (4, .ptr 1 0 0), (12, bV (a1 == a0.f2))], [(0, some (.box 25 (aHist a0))), (1, some (.box 25 [iV .i64 0, iV .i64 0, iV .i64 0, iV .u64 0, iV .u64 0, iV .i64 0, .none0, .none0]))], 0⟩ [] (by kernel_rfl) trivial ?_
    refine AWp.cond (a1 == a0.f2) rfl (fun c1548 => ?_) (fun c1548 => ?_)
    · replace H := (ifT c1548).symm.trans H
      refine AWp.seq ?_
      obtain ⟨t1559, e1560, H⟩ := bind_of H
      refine reg hP hn hm [(1, .call [] [(0, 2), (1, 3)] [] [2, 3] 0 (.agg [iV .i64 ((t1559).f0), iV .i64 ((t1559).f1), iV .i64 ((t1559).f2), iV .u64 ((t1559).f3), iV .u64 ((t1559).f4), iV .i64 ((t1559).f5), .own 0, .own 1]) [(0, some (.row 2 54 (((t1559).f6).map eBucket))), (1, some (.row 2 54 (((t1559).f7).map eBucket)))])] [4, 5] [1, 2, 3] ⟨[(4, .ptr 1 0 0), (5, iV .i64 0)], [(1, some (.box 25 [iV .i64 ((t1559).f0), iV .i64 ((t1559).f1), iV .i64 ((t1559).f2), iV .u64 ((t1559).f3), iV .u64 ((t1559).f4), iV .i64 ((t1559).f5), .own 2, .own 3])), (2, some (.row 2 54 (((t1559).f6).map eBucket))), (3, some (.row 2 54 (((t1559).f7).map eBucket)))], 0⟩ [Enters Try.prog 26, Pv.Fn Try.prog 26 [.agg (aHist a0)] [] 0 (fun r o => r = .agg [iV .i64 ((t1559).f0), iV .i64 ((t1559).f1), iV .i64 ((t1559).f2), iV .u64 ((t1559).f3), iV .u64 ((t1559).f4), iV .i64 ((t1559).f5), .own 0, .own 1] ∧ o = [(0, some (.row 2 54 (((t1559).f6).map eBucket))), (1, some (.row 2 54 (((t1559).f7).map eBucket)))])] (by kernel_rfl) ⟨by exact Try.call26, by exact f_hist_Clone.ok a0 t1559 e1560, trivial⟩ ?_
      refine AWp.conv (inv := [(1, 0)]) (vk := [2, 3]) (e0 := []) (t := ⟨[(4, .ptr 0 0 0), (5, iV .i64 0)], [(0, some (.box 25 (aHist ((t1559)))))], 0⟩) (by kernel_rfl) ?_
      refine AWp.ret ?_
      obtain rfl := Option.some.inj H
      exact Exists.intro _ (And.intro (fun _ _ h => h) (And.intro (.inl rfl) (And.intro rfl (And.intro (by kernel_rfl) (by kernel_rfl)))))
    · replace H := (ifF c1548).symm.trans H
      refine AWp.seq ?_
      obtain ⟨o1569, e1570, H⟩ := bind_of H
      refine AWp.mono (Q := fun e s => (match (generalizing := false) o1569 with | x1563 => e = .normal ∧ s = ⟨[(1, iV .i64 a1), (2, .ptr 4 0 0), (4, .ptr 5 0 0), (19, bV x1563)], [(4, some (.box 25 (aHist a0))), (5, some (.box 25 [iV .i64 0, iV .i64 0, iV .i64 0, iV .u64 0, iV .u64 0, iV .i64 0, .none0, .none0]))], 0⟩)) (AWp.cv ?_) ?_
      · replace H := e1570; clear e1570
        rcases Bool.eq_false_or_eq_true (decide (a1 ≤ (-262144))) with c1562 | c1562
        · replace H := (ifT c1562).symm.trans H
          refine reg hP hn hm [(2, .b true)] [1, 2, 4, 19] [0, 1] ⟨[(1, iV .i64 a1), (2, .ptr 0 0 0), (4, .ptr 1 0 0), (19, bV true)], [(0, some (.box 25 (aHist a0))), (1, some (.box 25 [iV .i64 0, iV .i64 0, iV .i64 0, iV .u64 0, iV .u64 0, iV .i64 0, .none0, .none0]))], 0⟩ [(decide (a1 ≤ (-262144))) = true] (by kernel_rfl) ⟨by exact c1562, trivial⟩ ?_
          obtain rfl := Option.some.inj H
          exact Exists.intro _ (And.intro (fun _ _ h => h.conv (inv := [(0, 4), (1, 5)]) (vk := []) (e0 := []) (t := ⟨[(1, iV .i64 a1), (2, .ptr 4 0 0), (4, .ptr 5 0 0), (19, bV true)], [(4, some (.box 25 (aHist a0))), (5, some (.box 25 [iV .i64 0, iV .i64 0, iV .i64 0, iV .u64 0, iV .u64 0, iV .i64 0, .none0, .none0]))], 0⟩) (by kernel_rfl)) (And.intro rfl rfl))
        · replace H := (ifF c1562).symm.trans H
          refine reg hP hn hm [(2, .b false)] [1, 2, 4, 19] [0, 1] ⟨[(1, iV .i64 a1), (2, .ptr 0 0 0), (4, .ptr 1 0 0), (19, bV (decide (a1 > (262144 : Int))))], [(0, some (.box 25 (aHist a0))), (1, some (.box 25 [iV .i64 0, iV .i64 0, iV .i64 0, iV .u64 0, iV .u64 0, iV .i64 0, .none0, .none0]))], 0⟩ [(decide (a1 ≤ (-262144))) = false] (by kernel_rfl) ⟨by exact c1562, trivial⟩ ?_
          obtain rfl := Option.some.inj H
          exact Exists.intro _ (And.intro (fun _ _ h => h.conv (inv := [(0, 4), (1, 5)]) (vk := []) (e0 := []) (t := ⟨[(1, iV .i64 a1), (2, .ptr 4 0 0), (4, .ptr 5 0 0), (19, bV (decide (a1 > (262144 : Int))))], [(4, some (.box 25 (aHist a0))), (5, some (.box 25 [iV .i64 0, iV .i64 0, iV .i64 0, iV .u64 0, iV .u64 0, iV .i64 0, .none0, .none0]))], 0⟩) (by kernel_rfl)) (And.intro rfl rfl))
      · obtain ⟨x1563, rfl⟩ : ∃ z, z = o1569 := ⟨_, rfl⟩
        rintro e s ⟨rfl, rfl⟩
        refine AWp.cond x1563 rfl (fun c1564 => ?_) (fun c1564 => ?_)
        · replace H := (ifT c1564).symm.trans H
          refine AWp.seq ?_
          refine reg hP hn hm [] [4, 5] [5] ⟨[(4, .ptr 5 0 0), (5, iV .i64 31)], [(5, some (.box 25 [iV .i64 0, iV .i64 0, iV .i64 0, iV .u64 0, iV .u64 0, iV .i64 0, .none0, .none0]))], 0⟩ [] (by kernel_rfl) trivial ?_
          refine AWp.conv (inv := [(5, 0)]) (vk := []) (e0 := []) (t := ⟨[(4, .ptr 0 0 0), (5, iV .i64 31)], [(0, some (.box 25 (aHist ((⟨0, 0, 0, 0, 0, 0, [], []⟩ : THist)))))], 0⟩) (by kernel_rfl) ?_
          refine AWp.ret ?_
          obtain rfl := Option.some.inj H
          exact Exists.intro _ (And.intro (fun _ _ h => h) (And.intro (.inl rfl) (And.intro rfl (And.intro (by kernel_rfl) (by kernel_rfl)))))
        · replace H := (ifF c1564).symm.trans H
          refine AWp.skip ?_
          refine AWp.seq ?_
          obtain ⟨t1567, e1568, H⟩ := bind_of H
          refine reg hP hn hm [(6, .call [] [] [] [] 0 (.tup [.agg (aHist (t1567.1)), iV .i64 t1567.2]) [])] [4, 5] [5] ⟨[(4, .ptr 5 0 0), (5, iV .i64 t1567.2)], [(5, some (.box 25 (aHist (t1567.1))))], 0⟩ [Enters Try.prog 36, Pv.Fn Try.prog 36 [.agg (aHist a0), .im (.row (a0.f6.map eBucket)), .im (.row (a0.f7.map eBucket)), iV .i64 a1] [] 0 (fun r o => r = .tup [.agg (aHist (t1567.1)), iV .i64 t1567.2] ∧ o = [])] (by kernel_rfl) ⟨by exact Try.call36, by exact f_meld_swallow.ok a0 a0.f6 a0.f7 a1 t1567 e1568, trivial⟩ ?_
          refine AWp.conv (inv := [(5, 0)]) (vk := []) (e0 := []) (t := ⟨[(4, .ptr 0 0 0), (5, iV .i64 t1567.2)], [(0, some (.box 25 (aHist ((t1567.1)))))], 0⟩) (by kernel_rfl) ?_
          refine AWp.ret ?_
          obtain rfl := Option.some.inj H
          exact Exists.intro _ (And.intro (fun _ _ h => h) (And.intro (.inl rfl) (And.intro rfl (And.intro (by kernel_rfl) (by kernel_rfl)))))
end Go.Proofs.Yticdbkmekkbiiaa.PvGB
