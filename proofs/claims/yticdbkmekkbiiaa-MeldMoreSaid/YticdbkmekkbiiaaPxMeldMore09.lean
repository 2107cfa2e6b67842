import Derived.Test.YticdbkmekkbiiaaProg
import Derived.Test.YticdbkmekkbiiaaPxMeldMore08
set_option linter.unusedVariables false
set_option linter.unnecessarySimpa false
set_option linter.unusedSimpArgs false
set_option maxRecDepth 10000
namespace Go.Proofs.Yticdbkmekkbiiaa.PvGB
open Go Go.Pv
def f_pluviallaw07_MeldMore.l0 (a0 : THist) (a1 : List THist) (a2 : Int) (x2980 : List THist) (x2981 : Int) (x2982 : Int) : Option (Bool ⊕ ((List THist) × Int)) := if (decide (x2982 < (a1.length : Int))) = true then ((at? a1 x2982) >>= fun b2987 => (at? x2980 (IntKind.i64.wrap ((x2980.length : Int) - (1 : Int)))) >>= fun b2995 => (f_meld_Add.f b2995 (⟨0, b2987.f1, b2987.f2, b2987.f3, b2987.f4, b2987.f5, b2987.f6, b2987.f7⟩ : THist)) >>= fun t2998 => if (t2998.2 != (0 : Int)) = true then ((f_pluviallaw07_awake.f) >>= fun t3003 => some (.inl t3003)) else ((f_meld_Reset.f b2995 (t2998.1)) >>= fun t3007 => if t3007 = true then (some (.inl false)) else ((chk ((x2980.length + [(t2998.1)].length) * 96 ≤ 140737488355328)) >>= fun _ => f_pluviallaw07_MeldMore.l0 a0 a1 a2 (x2980 ++ [(t2998.1)]) (IntKind.u64.wrap (((t2998.1).f4) - a0.f4)) (IntKind.i64.wrap (x2982 + (1 : Int)))))) else (some (.inr (x2980, x2981)))
partial_fixpoint
def f_pluviallaw07_MeldMore.f (a0 : THist) (a1 : List THist) (a2 : Int) : Option (Bool) := (((f_pluviallaw07_right.f [a0]) >>= fun t2938 => if (!t2938) = true then (some true) else (if (a0.f0 != (0 : Int)) = true then (some true) else (if (decide ((a1.length : Int) > (8 : Int))) = true then (some true) else ((f_pluviallaw07_right.f a1) >>= fun t2943 => some (!t2943))))) : Option (Bool)) >>= fun x2945 => if x2945 = true then ((f_pluviallaw07_awake.f) >>= fun t2949 => some t2949) else ((f_pluviallaw07_MeldMore.l0 a0 a1 a2 [a0] 0 0) >>= fun oo => match oo with | .inl rr => (some rr) | .inr (x3012, x3013) => (if (decide ((x3012.length : Int) < (3 : Int))) = true then ((f_pluviallaw07_awake.f) >>= fun t3017 => some t3017) else ((f_meld_Rise.f x3012) >>= fun t3168 => (chk ((IntKind.i64.wrap ((x3012.length : Int) - (2 : Int))) ≠ 0)) >>= fun _ => (chk (0 ≤ (0 : Int) ∧ (0 : Int) ≤ (IntKind.i64.wrap ((IntKind.i64.wrap ((1 : Int) + (Int.tmod (IntKind.i64.wrap (a2)) (IntKind.i64.wrap ((x3012.length : Int) - (2 : Int)))))) + (1 : Int))) ∧ (IntKind.i64.wrap ((IntKind.i64.wrap ((1 : Int) + (Int.tmod (IntKind.i64.wrap (a2)) (IntKind.i64.wrap ((x3012.length : Int) - (2 : Int)))))) + (1 : Int))) ≤ (x3012.length : Int))) >>= fun _ => (f_meld_Rise.f ((x3012.drop (Int.toNat ((0 : Int)))).take ((Int.toNat ((IntKind.i64.wrap ((IntKind.i64.wrap ((1 : Int) + (Int.tmod (IntKind.i64.wrap (a2)) (IntKind.i64.wrap ((x3012.length : Int) - (2 : Int)))))) + (1 : Int))))) - (Int.toNat ((0 : Int)))))) >>= fun t3176 => (chk (0 ≤ (IntKind.i64.wrap ((1 : Int) + (Int.tmod (IntKind.i64.wrap (a2)) (IntKind.i64.wrap ((x3012.length : Int) - (2 : Int)))))) ∧ (IntKind.i64.wrap ((1 : Int) + (Int.tmod (IntKind.i64.wrap (a2)) (IntKind.i64.wrap ((x3012.length : Int) - (2 : Int)))))) ≤ (x3012.length : Int) ∧ (x3012.length : Int) ≤ (x3012.length : Int))) >>= fun _ => (f_meld_Rise.f ((x3012.drop (Int.toNat ((IntKind.i64.wrap ((1 : Int) + (Int.tmod (IntKind.i64.wrap (a2)) (IntKind.i64.wrap ((x3012.length : Int) - (2 : Int))))))))).take ((Int.toNat ((x3012.length : Int))) - (Int.toNat ((IntKind.i64.wrap ((1 : Int) + (Int.tmod (IntKind.i64.wrap (a2)) (IntKind.i64.wrap ((x3012.length : Int) - (2 : Int))))))))))) >>= fun t3182 => ((if (t3168.2 != (0 : Int)) = true then (some true) else (if (t3176.2 != (0 : Int)) = true then (some true) else (some (t3182.2 != (0 : Int))))) : Option (Bool)) >>= fun x3188 => if x3188 = true then ((f_pluviallaw07_awake.f) >>= fun t3192 => some t3192) else ((((f_pluviallaw07_awake.f) >>= fun t3199 => if t3199 = true then (if (((t3168.1).f4) == x3013) = true then (if ((IntKind.u64.wrap (((t3176.1).f4) + ((t3182.1).f4))) == ((t3168.1).f4)) = true then (some ((IntKind.i64.wrap (((t3176.1).f5) + ((t3182.1).f5))) == ((t3168.1).f5))) else (some false)) else (some false)) else (some false)) : Option (Bool)) >>= fun x3204 => some x3204))))
theorem f_pluviallaw07_MeldMore.ok (a0 : THist) (a1 : List THist) (a2 : Int) (r : Bool) (H : f_pluviallaw07_MeldMore.f a0 a1 a2 = some r) : Pv.Fn Try.prog 7 [.agg (aHist a0), .im (.row (a1.map eHist)), iV .u8 a2] [] 0 (fun x o => x = bV r ∧ o = []) := by
  unfold f_pluviallaw07_MeldMore.f at H
  refine Fn.bodyK [] Try.func7 rfl rfl (fun Γ hP hn => ?_)
  have hm : Try.prog.follows .mixedOrders = true := by kernel_rfl
  replace hn : Γ.n = 150 := hn
  refine AWp.seq ?_
  refine reg hP hn hm [(0, .k 0)] [1, 2, 3] [0] ⟨[(1, .im (.row (a1.map eHist))), (2, iV .u8 a2), (3, .ptr 0 0 0)], [(0, some (.box 25 (aHist a0)))], 0⟩ [] (by kernel_rfl) trivial ?_
  refine AWp.seq ?_
  refine AWp.seq ?_
  obtain ⟨o3205, e3206, H⟩ := bind_of H
  refine AWp.mono (Q := fun e s => (match (generalizing := false) o3205 with | x2945 => e = .normal ∧ s = ⟨[(1, .im (.row (a1.map eHist))), (2, iV .u8 a2), (3, .ptr 2 0 0), (38, bV x2945)], [(2, some (.box 25 (aHist a0)))], 0⟩)) (AWp.cv ?_) ?_
  · replace H := e3206; clear e3206
    obtain ⟨t2938, e2939, H⟩ := bind_of H
    rcases Bool.eq_false_or_eq_true (!t2938) with c2940 | c2940
    · replace H := (ifT c2940).symm.trans H
      refine reg hP hn hm [(1, .app 1 ([a0].map eHist)), (2, .call [] [] [1] [] 0 (bV t2938) []), (4, .b true)] [1, 2, 3, 38] [0] ⟨[(1, .im (.row (a1.map eHist))), (2, iV .u8 a2), (3, .ptr 0 0 0), (38, bV true)], [(0, some (.box 25 (aHist a0)))], 0⟩ [[a0].map eHist = [[iI .i64 a0.f0, iI .i64 a0.f1, iI .i64 a0.f2, iI .u64 a0.f3, iI .u64 a0.f4, iI .i64 a0.f5, .row (a0.f6.map eBucket), .row (a0.f7.map eBucket)]], Enters Try.prog 10, Pv.Fn Try.prog 10 [.im (.row ([a0].map eHist))] [] 0 (fun r o => r = bV t2938 ∧ o = []), (!t2938) = true] (by kernel_rfl) ⟨by exact rfl, by exact Try.call10, by exact f_pluviallaw07_right.ok [a0] t2938 e2939, by exact c2940, trivial⟩ ?_
      obtain rfl := Option.some.inj H
      exact Exists.intro _ (And.intro (fun _ _ h => h.conv (inv := [(0, 2)]) (vk := []) (e0 := []) (t := ⟨[(1, .im (.row (a1.map eHist))), (2, iV .u8 a2), (3, .ptr 2 0 0), (38, bV true)], [(2, some (.box 25 (aHist a0)))], 0⟩) (by kernel_rfl)) (And.intro rfl rfl))
    · replace H := (ifF c2940).symm.trans H
      rcases Bool.eq_false_or_eq_true (a0.f0 != (0 : Int)) with c2941 | c2941
      · replace H := (ifT c2941).symm.trans H
        refine reg hP hn hm [(1, .app 1 ([a0].map eHist)), (2, .call [] [] [1] [] 0 (bV t2938) []), (4, .b false), (9, .b true)] [1, 2, 3, 38] [0] ⟨[(1, .im (.row (a1.map eHist))), (2, iV .u8 a2), (3, .ptr 0 0 0), (38, bV true)], [(0, some (.box 25 (aHist a0)))], 0⟩ [[a0].map eHist = [[iI .i64 a0.f0, iI .i64 a0.f1, iI .i64 a0.f2, iI .u64 a0.f3, iI .u64 a0.f4, iI .i64 a0.f5, .row (a0.f6.map eBucket), .row (a0.f7.map eBucket)]], Enters Try.prog 10, Pv.Fn Try.prog 10 [.im (.row ([a0].map eHist))] [] 0 (fun r o => r = bV t2938 ∧ o = []), (!t2938) = false, (a0.f0 != (0 : Int)) = true] (by kernel_rfl) ⟨by exact rfl, by exact Try.call10, by exact f_pluviallaw07_right.ok [a0] t2938 e2939, by exact c2940, by exact c2941, trivial⟩ ?_
        obtain rfl := Option.some.inj H
        exact Exists.intro _ (And.intro (fun _ _ h => h.conv (inv := [(0, 2)]) (vk := []) (e0 := []) (t := ⟨[(1, .im (.row (a1.map eHist))), (2, iV .u8 a2), (3, .ptr 2 0 0), (38, bV true)], [(2, some (.box 25 (aHist a0)))], 0⟩) (by kernel_rfl)) (And.intro rfl rfl))
      · replace H := (ifF c2941).symm.trans H
        rcases Bool.eq_false_or_eq_true (decide ((a1.length : Int) > (8 : Int))) with c2942 | c2942
        · replace H := (ifT c2942).symm.trans H
          refine reg hP hn hm [(1, .app 1 ([a0].map eHist)), (2, .call [] [] [1] [] 0 (bV t2938) []), (4, .b false), (9, .b false), (11, .any (iV .i64 (a1.length : Int))), (14, .b true)] [1, 2, 3, 38] [0] ⟨[(1, .im (.row (a1.map eHist))), (2, iV .u8 a2), (3, .ptr 0 0 0), (38, bV true)], [(0, some (.box 25 (aHist a0)))], 0⟩ [[a0].map eHist = [[iI .i64 a0.f0, iI .i64 a0.f1, iI .i64 a0.f2, iI .u64 a0.f3, iI .u64 a0.f4, iI .i64 a0.f5, .row (a0.f6.map eBucket), .row (a0.f7.map eBucket)]], Enters Try.prog 10, Pv.Fn Try.prog 10 [.im (.row ([a0].map eHist))] [] 0 (fun r o => r = bV t2938 ∧ o = []), (!t2938) = false, (a0.f0 != (0 : Int)) = false, ((a1.map eHist).length : Int) = (a1.length : Int), (decide ((a1.length : Int) > (8 : Int))) = true] (by kernel_rfl) ⟨by exact rfl, by exact Try.call10, by exact f_pluviallaw07_right.ok [a0] t2938 e2939, by exact c2940, by exact c2941, by rw [len_map], by exact c2942, trivial⟩ ?_
          obtain rfl := Option.some.inj H
          exact Exists.intro _ (And.intro (fun _ _ h => h.conv (inv := [(0, 2)]) (vk := []) (e0 := []) (t := ⟨[(1, .im (.row (a1.map eHist))), (2, iV .u8 a2), (3, .ptr 2 0 0), (38, bV true)], [(2, some (.box 25 (aHist a0)))], 0⟩) (by kernel_rfl)) (And.intro rfl rfl))
        · replace H := (ifF c2942).symm.trans H
          obtain ⟨t2943, e2944, H⟩ := bind_of H
          refine reg hP hn hm [(1, .app 1 ([a0].map eHist)), (2, .call [] [] [1] [] 0 (bV t2938) []), (4, .b false), (9, .b false), (11, .any (iV .i64 (a1.length : Int))), (14, .b false), (16, .call [] [] [] [] 0 (bV t2943) [])] [1, 2, 3, 38] [0] ⟨[(1, .im (.row (a1.map eHist))), (2, iV .u8 a2), (3, .ptr 0 0 0), (38, bV (!t2943))], [(0, some (.box 25 (aHist a0)))], 0⟩ [[a0].map eHist = [[iI .i64 a0.f0, iI .i64 a0.f1, iI .i64 a0.f2, iI .u64 a0.f3, iI .u64 a0.f4, iI .i64 a0.f5, .row (a0.f6.map eBucket), .row (a0.f7.map eBucket)]], Enters Try.prog 10, Pv.Fn Try.prog 10 [.im (.row ([a0].map eHist))] [] 0 (fun r o => r = bV t2938 ∧ o = []), (!t2938) = false, (a0.f0 != (0 : Int)) = false, ((a1.map eHist).length : Int) = (a1.length : Int), (decide ((a1.length : Int) > (8 : Int))) = false, Enters Try.prog 10, Pv.Fn Try.prog 10 [.im (.row (a1.map eHist))] [] 0 (fun r o => r = bV t2943 ∧ o = [])] (by kernel_rfl) ⟨by exact rfl, by exact Try.call10, by exact f_pluviallaw07_right.ok [a0] t2938 e2939, by exact c2940, by exact c2941, by rw [len_map], by exact c2942, by exact Try.call10, by exact f_pluviallaw07_right.ok a1 t2943 e2944, trivial⟩ ?_
          obtain rfl := Option.some.inj H
          exact Exists.intro _ (And.intro (fun _ _ h => h.conv (inv := [(0, 2)]) (vk := []) (e0 := []) (t := ⟨[(1, .im (.row (a1.map eHist))), (2, iV .u8 a2), (3, .ptr 2 0 0), (38, bV (!t2943))], [(2, some (.box 25 (aHist a0)))], 0⟩) (by kernel_rfl)) (And.intro rfl rfl))
  · obtain ⟨x2945, rfl⟩ : ∃ z, z = o3205 := ⟨_, rfl⟩
    rintro e s ⟨rfl, rfl⟩
    refine AWp.cond x2945 rfl (fun c2946 => ?_) (fun c2946 => ?_)
    · replace H := (ifT c2946).symm.trans H
      refine AWp.seq ?_
      obtain ⟨t2949, e2950, H⟩ := bind_of H
      refine reg hP hn hm [(0, .call [] [] [] [] 0 (bV t2949) [])] [6] [] ⟨[(6, bV t2949)], [], 0⟩ [Enters Try.prog 11, Pv.Fn Try.prog 11 [] [] 0 (fun r o => r = bV t2949 ∧ o = [])] (by kernel_rfl) ⟨by exact Try.call11, by exact f_pluviallaw07_awake.ok  t2949 e2950, trivial⟩ ?_
      refine AWp.conv (inv := []) (vk := []) (e0 := []) (t := ⟨[(6, bV t2949)], [], 0⟩) (by kernel_rfl) ?_
      refine AWp.ret ?_
      obtain rfl := Option.some.inj H
      exact Exists.intro _ (And.intro (fun _ _ h => h) (And.intro (.inl rfl) (And.intro rfl (And.intro (by kernel_rfl) (by kernel_rfl)))))
    · replace H := (ifF c2946).symm.trans H
      refine AWp.skip ?_
      refine AWp.seq ?_
      refine reg hP hn hm [(1, .app 3 ([a0].map eHist))] [1, 2, 3, 7] [2, 3] ⟨[(1, .im (.row (a1.map eHist))), (2, iV .u8 a2), (3, .ptr 2 0 0), (7, .own 3)], [(2, some (.box 25 (aHist a0))), (3, some (.row 8 25 ([a0].map eHist)))], 0⟩ [[a0].map eHist = [[iI .i64 a0.f0, iI .i64 a0.f1, iI .i64 a0.f2, iI .u64 a0.f3, iI .u64 a0.f4, iI .i64 a0.f5, .row (a0.f6.map eBucket), .row (a0.f7.map eBucket)]]] (by kernel_rfl) ⟨by exact rfl, trivial⟩ ?_
      refine AWp.seq ?_
      refine reg hP hn hm [] [1, 2, 3, 7, 8] [2, 3] ⟨[(1, .im (.row (a1.map eHist))), (2, iV .u8 a2), (3, .ptr 2 0 0), (7, .own 3), (8, iV .u64 0)], [(2, some (.box 25 (aHist a0))), (3, some (.row 8 25 ([a0].map eHist)))], 0⟩ [] (by kernel_rfl) trivial ?_
      refine AWp.seq ?_
      refine AWp.seq ?_
      refine reg hP hn hm [(1, .any (iV .i64 (a1.length : Int)))] [2, 3, 7, 8, 42, 43, 44] [2, 3] ⟨[(2, iV .u8 a2), (3, .ptr 2 0 0), (7, .own 3), (8, iV .u64 0), (42, .im (.row (a1.map eHist))), (43, iV .i64 (a1.length : Int)), (44, iV .i64 0)], [(2, some (.box 25 (aHist a0))), (3, some (.row 8 25 ([a0].map eHist)))], 0⟩ [((a1.map eHist).length : Int) = (a1.length : Int)] (by kernel_rfl) ⟨by rw [len_map], trivial⟩ ?_
      refine AWp.block ?_
      obtain ⟨o3207, e3208, H⟩ := bind_of H
      refine AWp.loop (LWp.conv (inv := [(2, 8), (3, 9)]) (vk := []) (e0 := []) (t := ⟨[(2, iV .u8 a2), (3, .ptr 8 0 0), (7, .own 9), (8, iV .u64 0), (42, .im (.row (a1.map eHist))), (43, iV .i64 (a1.length : Int)), (44, iV .i64 0)], [(8, some (.box 25 (aHist a0))), (9, some (.row 8 25 ([a0].map eHist)))], 0⟩) (by kernel_rfl) ?_)
      refine LWp.mono (Q := fun e s => (match (generalizing := false) o3207 with | .inl rr => e = .ret ∧ s.floor = 0 ∧ resOf Try.prog Try.f7 s = some (bV rr) ∧ ([] : List (Nat × Option MObj)) = [] | .inr (x3012, x3013) => e = .exit 0 ∧ s = ⟨[(2, iV .u8 a2), (7, .own 14), (8, iV .u64 x3013)], [(14, some (.row 8 25 (x3012.map eHist)))], 0⟩)) (LWp.cv (withBody (fun body hbody => ?_))) ?_
      · refine f_pluviallaw07_MeldMore.l0.partial_correctness a0 a1 a2 (motive := fun x2980 x2981 x2982 o3207 => LWp Γ body (fun e s => ∃ t, Cv Γ s t ∧ (match (generalizing := false) o3207 with | .inl rr => e = .ret ∧ t.floor = 0 ∧ resOf Try.prog Try.f7 t = some (bV rr) ∧ ([] : List (Nat × Option MObj)) = [] | .inr (x3012, x3013) => e = .exit 0 ∧ t = ⟨[(2, iV .u8 a2), (7, .own 14), (8, iV .u64 x3013)], [(14, some (.row 8 25 (x3012.map eHist)))], 0⟩)) ⟨[(2, iV .u8 a2), (3, .ptr 8 0 0), (7, .own 9), (8, iV .u64 x2981), (42, .im (.row (a1.map eHist))), (43, iV .i64 (a1.length : Int)), (44, iV .i64 x2982)], [(8, some (.box 25 (aHist a0))), (9, some (.row 8 25 (x2980.map eHist)))], 0⟩) ?_ _ _ _ _ e3208
        clear H e3208 o3207; intro self ih x2980 x2981 x2982 o3207 H
        subst hbody
        refine LWp.round ?_
        refine AWp.seq ?_
        refine reg hP hn hm [] [2, 3, 7, 8, 42, 43, 44, 45] [8, 9] ⟨[(2, iV .u8 a2), (3, .ptr 8 0 0), (7, .own 9), (8, iV .u64 x2981), (42, .im (.row (a1.map eHist))), (43, iV .i64 (a1.length : Int)), (44, iV .i64 x2982), (45, bV (decide (x2982 < (a1.length : Int))))], [(8, some (.box 25 (aHist a0))), (9, some (.row 8 25 (x2980.map eHist)))], 0⟩ [] (by kernel_rfl) trivial ?_
        refine AWp.seq ?_
        refine AWp.cond (decide (x2982 < (a1.length : Int))) rfl (fun c2983 => ?_) (fun c2983 => ?_)
        · replace H := (ifT c2983).symm.trans H
          refine AWp.skip ?_
          refine AWp.seq ?_
          refine AWp.block ?_
          refine AWp.seq ?_
          obtain ⟨b2987, p2988, q2989, H⟩ := at_of H
          refine reg hP hn hm [(0, .c (eHist b2987)), (2, .k 10)] [2, 3, 7, 10, 42, 43, 44] [8, 9, 10] ⟨[(2, iV .u8 a2), (3, .ptr 8 0 0), (7, .own 9), (10, .ptr 10 0 0), (42, .im (.row (a1.map eHist))), (43, iV .i64 (a1.length : Int)), (44, iV .i64 x2982)], [(8, some (.box 25 (aHist a0))), (9, some (.row 8 25 (x2980.map eHist))), (10, some (.box 25 (aHist b2987)))], 0⟩ [0 ≤ x2982, (a1.map eHist)[(Int.toNat (x2982))]? = some (eHist b2987)] (by kernel_rfl) ⟨by exact p2988, by exact el_map eHist q2989, trivial⟩ ?_
          refine AWp.seq ?_
          refine reg hP hn hm [] [2, 3, 7, 10, 42, 43, 44] [8, 9, 10] ⟨[(2, iV .u8 a2), (3, .ptr 8 0 0), (7, .own 9), (10, .ptr 10 0 0), (42, .im (.row (a1.map eHist))), (43, iV .i64 (a1.length : Int)), (44, iV .i64 x2982)], [(8, some (.box 25 (aHist a0))), (9, some (.row 8 25 (x2980.map eHist))), (10, some (.box 25 (aHist ⟨0, b2987.f1, b2987.f2, b2987.f3, b2987.f4, b2987.f5, b2987.f6, b2987.f7⟩)))], 0⟩ [] (by kernel_rfl) trivial ?_
          refine AWp.seq ?_
          obtain ⟨b2995, p2996, q2997, H⟩ := at_of H
          obtain ⟨t2998, e2999, H⟩ := bind_of H
          refine reg hP hn hm [(2, .any (iV .i64 (x2980.length : Int))), (5, .c (eHist b2995)), (7, .call [] [] [] [] 0 (.tup [.agg (aHist (t2998.1)), iV .i64 t2998.2]) []), (11, .k 11)] [2, 3, 7, 11, 12, 42, 43, 44] [8, 9, 11] ⟨[(2, iV .u8 a2), (3, .ptr 8 0 0), (7, .own 9), (11, .ptr 11 0 0), (12, iV .i64 t2998.2), (42, .im (.row (a1.map eHist))), (43, iV .i64 (a1.length : Int)), (44, iV .i64 x2982)], [(8, some (.box 25 (aHist a0))), (9, some (.row 8 25 (x2980.map eHist))), (11, some (.box 25 (aHist (t2998.1))))], 0⟩ [((x2980.map eHist).length : Int) = (x2980.length : Int), 0 ≤ (IntKind.i64.wrap ((x2980.length : Int) - (1 : Int))), IntKind.i64.wrap ((x2980.length : Int) - (1 : Int)) < (((x2980.map eHist).length : Nat) : Int), (x2980.map eHist)[(Int.toNat (IntKind.i64.wrap ((x2980.length : Int) - (1 : Int))))]? = some (eHist b2995), Enters Try.prog 21, Pv.Fn Try.prog 21 [.agg (aHist b2995), .agg (aHist ⟨0, b2987.f1, b2987.f2, b2987.f3, b2987.f4, b2987.f5, b2987.f6, b2987.f7⟩)] [] 0 (fun r o => r = .tup [.agg (aHist (t2998.1)), iV .i64 t2998.2] ∧ o = [])] (by kernel_rfl) ⟨by rw [len_map], by exact p2996, by exact el_lt eHist p2996 q2997, by exact el_map eHist q2997, by exact Try.call21, by exact f_meld_Add.ok b2995 (⟨0, b2987.f1, b2987.f2, b2987.f3, b2987.f4, b2987.f5, b2987.f6, b2987.f7⟩ : THist) t2998 e2999, trivial⟩ ?_
          refine AWp.seq ?_
          refine AWp.seq ?_
          refine reg hP hn hm [] [2, 3, 7, 11, 42, 43, 44, 61] [8, 9, 11] ⟨[(2, iV .u8 a2), (3, .ptr 8 0 0), (7, .own 9), (11, .ptr 11 0 0), (42, .im (.row (a1.map eHist))), (43, iV .i64 (a1.length : Int)), (44, iV .i64 x2982), (61, bV (t2998.2 != (0 : Int)))], [(8, some (.box 25 (aHist a0))), (9, some (.row 8 25 (x2980.map eHist))), (11, some (.box 25 (aHist (t2998.1))))], 0⟩ [] (by kernel_rfl) trivial ?_
          refine AWp.cond (t2998.2 != (0 : Int)) rfl (fun c3000 => ?_) (fun c3000 => ?_)
          · replace H := (ifT c3000).symm.trans H
            refine AWp.seq ?_
            obtain ⟨t3003, e3004, H⟩ := bind_of H
            refine reg hP hn hm [(0, .call [] [] [] [] 0 (bV t3003) [])] [6] [] ⟨[(6, bV t3003)], [], 0⟩ [Enters Try.prog 11, Pv.Fn Try.prog 11 [] [] 0 (fun r o => r = bV t3003 ∧ o = [])] (by kernel_rfl) ⟨by exact Try.call11, by exact f_pluviallaw07_awake.ok  t3003 e3004, trivial⟩ ?_
            refine AWp.conv (inv := []) (vk := []) (e0 := []) (t := ⟨[(6, bV t3003)], [], 0⟩) (by kernel_rfl) ?_
            refine AWp.ret ?_
            obtain rfl := Option.some.inj H
            exact Exists.intro _ (And.intro (fun _ _ h => h) (And.intro rfl (And.intro rfl (And.intro (by kernel_rfl) (by kernel_rfl)))))
          · replace H := (ifF c3000).symm.trans H
            refine AWp.skip ?_
            refine AWp.seq ?_
            refine AWp.seq ?_
            obtain ⟨t3007, e3008, H⟩ := bind_of H
            refine reg hP hn hm [(2, .any (iV .i64 (x2980.length : Int))), (5, .c (eHist b2995)), (7, .call [] [] [] [] 0 (bV t3007) [])] [2, 3, 7, 11, 42, 43, 44, 70] [8, 9, 11] ⟨[(2, iV .u8 a2), (3, .ptr 8 0 0), (7, .own 9), (11, .ptr 11 0 0), (42, .im (.row (a1.map eHist))), (43, iV .i64 (a1.length : Int)), (44, iV .i64 x2982), (70, bV t3007)], [(8, some (.box 25 (aHist a0))), (9, some (.row 8 25 (x2980.map eHist))), (11, some (.box 25 (aHist (t2998.1))))], 0⟩ [((x2980.map eHist).length : Int) = (x2980.length : Int), 0 ≤ (IntKind.i64.wrap ((x2980.length : Int) - (1 : Int))), IntKind.i64.wrap ((x2980.length : Int) - (1 : Int)) < (((x2980.map eHist).length : Nat) : Int), (x2980.map eHist)[(Int.toNat (IntKind.i64.wrap ((x2980.length : Int) - (1 : Int))))]? = some (eHist b2995), Enters Try.prog 25, Pv.Fn Try.prog 25 [.agg (aHist b2995), .agg (aHist (t2998.1))] [] 0 (fun r o => r = bV t3007 ∧ o = [])] (by kernel_rfl) ⟨by rw [len_map], by exact p2996, by exact el_lt eHist p2996 q2997, by exact el_map eHist q2997, by exact Try.call25, by exact f_meld_Reset.ok b2995 (t2998.1) t3007 e3008, trivial⟩ ?_
            refine AWp.cond t3007 rfl (fun c3009 => ?_) (fun c3009 => ?_)
            · replace H := (ifT c3009).symm.trans H
              refine AWp.seq ?_
              refine reg hP hn hm [] [6] [] ⟨[(6, bV false)], [], 0⟩ [] (by kernel_rfl) trivial ?_
              refine AWp.conv (inv := []) (vk := []) (e0 := []) (t := ⟨[(6, bV false)], [], 0⟩) (by kernel_rfl) ?_
              refine AWp.ret ?_
              obtain rfl := Option.some.inj H
              exact Exists.intro _ (And.intro (fun _ _ h => h) (And.intro rfl (And.intro rfl (And.intro (by kernel_rfl) (by kernel_rfl)))))
            · replace H := (ifF c3009).symm.trans H
              refine AWp.skip ?_
              refine AWp.seq ?_
              obtain ⟨c3011, H⟩ := chk_of H
              refine reg hP hn hm [(2, .app 12 ([(t2998.1)].map eHist)), (3, .app 13 ((x2980 ++ [(t2998.1)]).map eHist))] [2, 3, 7, 11, 42, 43, 44] [8, 11, 13] ⟨[(2, iV .u8 a2), (3, .ptr 8 0 0), (7, .own 13), (11, .ptr 11 0 0), (42, .im (.row (a1.map eHist))), (43, iV .i64 (a1.length : Int)), (44, iV .i64 x2982)], [(8, some (.box 25 (aHist a0))), (11, some (.box 25 (aHist (t2998.1)))), (13, some (.row 8 25 ((x2980 ++ [(t2998.1)]).map eHist)))], 0⟩ [[(t2998.1)].map eHist = [[iI .i64 ((t2998.1).f0), iI .i64 ((t2998.1).f1), iI .i64 ((t2998.1).f2), iI .u64 ((t2998.1).f3), iI .u64 ((t2998.1).f4), iI .i64 ((t2998.1).f5), .row (((t2998.1).f6).map eBucket), .row (((t2998.1).f7).map eBucket)]], (x2980 ++ [(t2998.1)]).map eHist = (x2980.map eHist) ++ ([(t2998.1)].map eHist), ∀ c ∈ ([(t2998.1)].map eHist), c.length = 8, ∀ c ∈ ([(t2998.1)].map eHist), leaves (c.map .im) = true, ((x2980.map eHist).length + ([(t2998.1)].map eHist).length) * 96 ≤ 140737488355328] (by kernel_rfl) ⟨by exact rfl, by simp, by exact all_len _ _ _ (fun _ => rfl), by exact all_leaf _ _ (fun _ => rfl), by simpa using c3011, trivial⟩ ?_
              refine reg hP hn hm [] [2, 3, 7, 8, 42, 43, 44] [8, 13] ⟨[(2, iV .u8 a2), (3, .ptr 8 0 0), (7, .own 13), (8, iV .u64 (IntKind.u64.wrap (((t2998.1).f4) - a0.f4))), (42, .im (.row (a1.map eHist))), (43, iV .i64 (a1.length : Int)), (44, iV .i64 x2982)], [(8, some (.box 25 (aHist a0))), (13, some (.row 8 25 ((x2980 ++ [(t2998.1)]).map eHist)))], 0⟩ [] (by kernel_rfl) trivial ?_
              refine reg hP hn hm [] [2, 3, 7, 8, 42, 43, 44] [8, 13] ⟨[(2, iV .u8 a2), (3, .ptr 8 0 0), (7, .own 13), (8, iV .u64 (IntKind.u64.wrap (((t2998.1).f4) - a0.f4))), (42, .im (.row (a1.map eHist))), (43, iV .i64 (a1.length : Int)), (44, iV .i64 (IntKind.i64.wrap (x2982 + (1 : Int))))], [(8, some (.box 25 (aHist a0))), (13, some (.row 8 25 ((x2980 ++ [(t2998.1)]).map eHist)))], 0⟩ [] (by kernel_rfl) trivial ?_
              exact LWp.conv (inv := [(8, 8), (13, 9)]) (vk := []) (e0 := []) (t := ⟨[(2, iV .u8 a2), (3, .ptr 8 0 0), (7, .own 9), (8, iV .u64 (IntKind.u64.wrap (((t2998.1).f4) - a0.f4))), (42, .im (.row (a1.map eHist))), (43, iV .i64 (a1.length : Int)), (44, iV .i64 (IntKind.i64.wrap (x2982 + (1 : Int))))], [(8, some (.box 25 (aHist a0))), (9, some (.row 8 25 ((x2980 ++ [(t2998.1)]).map eHist)))], 0⟩) (by kernel_rfl) (ih _ _ _ _ H)
        · replace H := (ifF c2983).symm.trans H
          refine AWp.exit ?_
          obtain rfl := Option.some.inj H
          exact Exists.intro _ (And.intro (fun _ _ h => h.conv (inv := [(9, 14)]) (vk := []) (e0 := []) (t := ⟨[(2, iV .u8 a2), (7, .own 14), (8, iV .u64 x2981)], [(14, some (.row 8 25 (x2980.map eHist)))], 0⟩) (by kernel_rfl)) (And.intro rfl rfl))
      · rcases o3207 with rr | ⟨x3012, x3013⟩
        · skip
          rintro e s ⟨rfl, hfl, hres⟩
          obtain rfl := Option.some.inj H
          exact Exists.intro _ (And.intro (fun _ _ h => h) (And.intro (.inl rfl) (And.intro hfl hres)))
        · skip
          rintro e s ⟨rfl, rfl⟩
          refine AWp.seq ?_
          refine AWp.seq ?_
          refine reg hP hn hm [(1, .any (iV .i64 (x3012.length : Int)))] [2, 7, 8, 83] [14] ⟨[(2, iV .u8 a2), (7, .own 14), (8, iV .u64 x3013), (83, bV (decide ((x3012.length : Int) < (3 : Int))))], [(14, some (.row 8 25 (x3012.map eHist)))], 0⟩ [((x3012.map eHist).length : Int) = (x3012.length : Int)] (by kernel_rfl) ⟨by rw [len_map], trivial⟩ ?_
          refine AWp.cond (decide ((x3012.length : Int) < (3 : Int))) rfl (fun c3014 => ?_) (fun c3014 => ?_)
          · replace H := (ifT c3014).symm.trans H
            refine AWp.seq ?_
            obtain ⟨t3017, e3018, H⟩ := bind_of H
            refine reg hP hn hm [(0, .call [] [] [] [] 0 (bV t3017) [])] [6] [] ⟨[(6, bV t3017)], [], 0⟩ [Enters Try.prog 11, Pv.Fn Try.prog 11 [] [] 0 (fun r o => r = bV t3017 ∧ o = [])] (by kernel_rfl) ⟨by exact Try.call11, by exact f_pluviallaw07_awake.ok  t3017 e3018, trivial⟩ ?_
            refine AWp.conv (inv := []) (vk := []) (e0 := []) (t := ⟨[(6, bV t3017)], [], 0⟩) (by kernel_rfl) ?_
            refine AWp.ret ?_
            obtain rfl := Option.some.inj H
            exact Exists.intro _ (And.intro (fun _ _ h => h) (And.intro (.inl rfl) (And.intro rfl (And.intro (by kernel_rfl) (by kernel_rfl)))))
          · replace H := (ifF c3014).symm.trans H
            refine AWp.skip ?_
            refine AWp.seq ?_
            refine AWp.conv (inv := []) (vk := [14]) (e0 := []) (t := ⟨[(2, iV .u8 a2), (7, .im (.row (x3012.map eHist))), (8, iV .u64 x3013), (83, bV (decide ((x3012.length : Int) < (3 : Int))))], [], 0⟩) (by kernel_rfl) ?_
            obtain ⟨t3168, e3169, H⟩ := bind_of H
            refine reg hP hn hm [(1, .call [] [] [] [] 0 (.tup [.agg (aHist (t3168.1)), iV .i64 t3168.2]) []), (5, .k 15)] [2, 7, 8, 13, 14] [15] ⟨[(2, iV .u8 a2), (7, .im (.row (x3012.map eHist))), (8, iV .u64 x3013), (13, .ptr 15 0 0), (14, iV .i64 t3168.2)], [(15, some (.box 25 (aHist (t3168.1))))], 0⟩ [Enters Try.prog 27, Pv.Fn Try.prog 27 [.im (.row (x3012.map eHist))] [] 0 (fun r o => r = .tup [.agg (aHist (t3168.1)), iV .i64 t3168.2] ∧ o = [])] (by kernel_rfl) ⟨by exact Try.call27, by exact f_meld_Rise.ok x3012 t3168 e3169, trivial⟩ ?_
            refine AWp.seq ?_
            obtain ⟨c3171, H⟩ := chk_of H
            refine reg hP hn hm [(3, .any (iV .i64 (x3012.length : Int)))] [7, 8, 13, 14, 15] [15] ⟨[(7, .im (.row (x3012.map eHist))), (8, iV .u64 x3013), (13, .ptr 15 0 0), (14, iV .i64 t3168.2), (15, iV .i64 (IntKind.i64.wrap ((1 : Int) + (Int.tmod (IntKind.i64.wrap (a2)) (IntKind.i64.wrap ((x3012.length : Int) - (2 : Int)))))))], [(15, some (.box 25 (aHist (t3168.1))))], 0⟩ [((x3012.map eHist).length : Int) = (x3012.length : Int), (IntKind.i64.wrap ((x3012.length : Int) - (2 : Int))) ≠ 0] (by kernel_rfl) ⟨by rw [len_map], by exact c3171, trivial⟩ ?_
            refine AWp.seq ?_
            obtain ⟨c3175, H⟩ := chk_of H
            obtain ⟨t3176, e3177, H⟩ := bind_of H
            refine reg hP hn hm [(3, .rows (((x3012.drop (Int.toNat ((0 : Int)))).take ((Int.toNat ((IntKind.i64.wrap ((IntKind.i64.wrap ((1 : Int) + (Int.tmod (IntKind.i64.wrap (a2)) (IntKind.i64.wrap ((x3012.length : Int) - (2 : Int)))))) + (1 : Int))))) - (Int.toNat ((0 : Int))))).map eHist)), (4, .call [] [] [] [] 0 (.tup [.agg (aHist (t3176.1)), iV .i64 t3176.2]) []), (8, .k 16)] [7, 8, 13, 14, 15, 16, 17] [15, 16] ⟨[(7, .im (.row (x3012.map eHist))), (8, iV .u64 x3013), (13, .ptr 15 0 0), (14, iV .i64 t3168.2), (15, iV .i64 (IntKind.i64.wrap ((1 : Int) + (Int.tmod (IntKind.i64.wrap (a2)) (IntKind.i64.wrap ((x3012.length : Int) - (2 : Int))))))), (16, .ptr 16 0 0), (17, iV .i64 t3176.2)], [(15, some (.box 25 (aHist (t3168.1)))), (16, some (.box 25 (aHist (t3176.1))))], 0⟩ [0 ≤ (0 : Int), (0 : Int) ≤ (IntKind.i64.wrap ((IntKind.i64.wrap ((1 : Int) + (Int.tmod (IntKind.i64.wrap (a2)) (IntKind.i64.wrap ((x3012.length : Int) - (2 : Int)))))) + (1 : Int))), (IntKind.i64.wrap ((IntKind.i64.wrap ((1 : Int) + (Int.tmod (IntKind.i64.wrap (a2)) (IntKind.i64.wrap ((x3012.length : Int) - (2 : Int)))))) + (1 : Int))) ≤ ((x3012.map eHist).length : Int), ∀ c ∈ x3012.map eHist, c.length = 8, ((x3012.drop (Int.toNat ((0 : Int)))).take ((Int.toNat ((IntKind.i64.wrap ((IntKind.i64.wrap ((1 : Int) + (Int.tmod (IntKind.i64.wrap (a2)) (IntKind.i64.wrap ((x3012.length : Int) - (2 : Int)))))) + (1 : Int))))) - (Int.toNat ((0 : Int))))).map eHist = ((x3012.map eHist).drop (Int.toNat ((0 : Int)))).take ((Int.toNat ((IntKind.i64.wrap ((IntKind.i64.wrap ((1 : Int) + (Int.tmod (IntKind.i64.wrap (a2)) (IntKind.i64.wrap ((x3012.length : Int) - (2 : Int)))))) + (1 : Int))))) - (Int.toNat ((0 : Int)))), Enters Try.prog 27, Pv.Fn Try.prog 27 [.im (.row (((x3012.drop (Int.toNat ((0 : Int)))).take ((Int.toNat ((IntKind.i64.wrap ((IntKind.i64.wrap ((1 : Int) + (Int.tmod (IntKind.i64.wrap (a2)) (IntKind.i64.wrap ((x3012.length : Int) - (2 : Int)))))) + (1 : Int))))) - (Int.toNat ((0 : Int))))).map eHist))] [] 0 (fun r o => r = .tup [.agg (aHist (t3176.1)), iV .i64 t3176.2] ∧ o = [])] (by kernel_rfl) ⟨by exact c3175.1, by simpa using c3175.2.1, by simpa using c3175.2.2, by exact all_len _ _ _ (fun _ => rfl), by simp [cut1], by exact Try.call27, by exact f_meld_Rise.ok ((x3012.drop (Int.toNat ((0 : Int)))).take ((Int.toNat ((IntKind.i64.wrap ((IntKind.i64.wrap ((1 : Int) + (Int.tmod (IntKind.i64.wrap (a2)) (IntKind.i64.wrap ((x3012.length : Int) - (2 : Int)))))) + (1 : Int))))) - (Int.toNat ((0 : Int))))) t3176 e3177, trivial⟩ ?_
            refine AWp.seq ?_
            obtain ⟨c3181, H⟩ := chk_of H
            obtain ⟨t3182, e3183, H⟩ := bind_of H
            refine reg hP hn hm [(2, .rows (((x3012.drop (Int.toNat ((IntKind.i64.wrap ((1 : Int) + (Int.tmod (IntKind.i64.wrap (a2)) (IntKind.i64.wrap ((x3012.length : Int) - (2 : Int))))))))).take ((Int.toNat ((x3012.length : Int))) - (Int.toNat ((IntKind.i64.wrap ((1 : Int) + (Int.tmod (IntKind.i64.wrap (a2)) (IntKind.i64.wrap ((x3012.length : Int) - (2 : Int)))))))))).map eHist)), (3, .call [] [] [] [] 0 (.tup [.agg (aHist (t3182.1)), iV .i64 t3182.2]) []), (7, .k 17)] [8, 13, 14, 16, 17, 18, 19] [15, 16, 17] ⟨[(8, iV .u64 x3013), (13, .ptr 15 0 0), (14, iV .i64 t3168.2), (16, .ptr 16 0 0), (17, iV .i64 t3176.2), (18, .ptr 17 0 0), (19, iV .i64 t3182.2)], [(15, some (.box 25 (aHist (t3168.1)))), (16, some (.box 25 (aHist (t3176.1)))), (17, some (.box 25 (aHist (t3182.1))))], 0⟩ [0 ≤ (IntKind.i64.wrap ((1 : Int) + (Int.tmod (IntKind.i64.wrap (a2)) (IntKind.i64.wrap ((x3012.length : Int) - (2 : Int)))))), (IntKind.i64.wrap ((1 : Int) + (Int.tmod (IntKind.i64.wrap (a2)) (IntKind.i64.wrap ((x3012.length : Int) - (2 : Int)))))) ≤ ((x3012.map eHist).length : Int), ((x3012.map eHist).length : Int) ≤ ((x3012.map eHist).length : Int), ∀ c ∈ x3012.map eHist, c.length = 8, ((x3012.drop (Int.toNat ((IntKind.i64.wrap ((1 : Int) + (Int.tmod (IntKind.i64.wrap (a2)) (IntKind.i64.wrap ((x3012.length : Int) - (2 : Int))))))))).take ((Int.toNat ((x3012.length : Int))) - (Int.toNat ((IntKind.i64.wrap ((1 : Int) + (Int.tmod (IntKind.i64.wrap (a2)) (IntKind.i64.wrap ((x3012.length : Int) - (2 : Int)))))))))).map eHist = ((x3012.map eHist).drop (Int.toNat ((IntKind.i64.wrap ((1 : Int) + (Int.tmod (IntKind.i64.wrap (a2)) (IntKind.i64.wrap ((x3012.length : Int) - (2 : Int))))))))).take ((Int.toNat (((x3012.map eHist).length : Int))) - (Int.toNat ((IntKind.i64.wrap ((1 : Int) + (Int.tmod (IntKind.i64.wrap (a2)) (IntKind.i64.wrap ((x3012.length : Int) - (2 : Int))))))))), Enters Try.prog 27, Pv.Fn Try.prog 27 [.im (.row (((x3012.drop (Int.toNat ((IntKind.i64.wrap ((1 : Int) + (Int.tmod (IntKind.i64.wrap (a2)) (IntKind.i64.wrap ((x3012.length : Int) - (2 : Int))))))))).take ((Int.toNat ((x3012.length : Int))) - (Int.toNat ((IntKind.i64.wrap ((1 : Int) + (Int.tmod (IntKind.i64.wrap (a2)) (IntKind.i64.wrap ((x3012.length : Int) - (2 : Int)))))))))).map eHist))] [] 0 (fun r o => r = .tup [.agg (aHist (t3182.1)), iV .i64 t3182.2] ∧ o = [])] (by kernel_rfl) ⟨by exact c3181.1, by simpa using c3181.2.1, by simpa using c3181.2.2, by exact all_len _ _ _ (fun _ => rfl), by simp [cut1], by exact Try.call27, by exact f_meld_Rise.ok ((x3012.drop (Int.toNat ((IntKind.i64.wrap ((1 : Int) + (Int.tmod (IntKind.i64.wrap (a2)) (IntKind.i64.wrap ((x3012.length : Int) - (2 : Int))))))))).take ((Int.toNat ((x3012.length : Int))) - (Int.toNat ((IntKind.i64.wrap ((1 : Int) + (Int.tmod (IntKind.i64.wrap (a2)) (IntKind.i64.wrap ((x3012.length : Int) - (2 : Int)))))))))) t3182 e3183, trivial⟩ ?_
            refine AWp.seq ?_
            refine AWp.seq ?_
            obtain ⟨o3209, e3210, H⟩ := bind_of H
            refine AWp.mono (Q := fun e s => (match (generalizing := false) o3209 with | x3188 => e = .normal ∧ s = ⟨[(8, iV .u64 x3013), (13, .ptr 18 0 0), (16, .ptr 19 0 0), (18, .ptr 20 0 0), (121, bV x3188)], [(18, some (.box 25 (aHist (t3168.1)))), (19, some (.box 25 (aHist (t3176.1)))), (20, some (.box 25 (aHist (t3182.1))))], 0⟩)) (AWp.cv ?_) ?_
            · replace H := e3210; clear e3210
              rcases Bool.eq_false_or_eq_true (t3168.2 != (0 : Int)) with c3186 | c3186
              · replace H := (ifT c3186).symm.trans H
                refine reg hP hn hm [(2, .b true)] [8, 13, 16, 18, 121] [15, 16, 17] ⟨[(8, iV .u64 x3013), (13, .ptr 15 0 0), (16, .ptr 16 0 0), (18, .ptr 17 0 0), (121, bV true)], [(15, some (.box 25 (aHist (t3168.1)))), (16, some (.box 25 (aHist (t3176.1)))), (17, some (.box 25 (aHist (t3182.1))))], 0⟩ [(t3168.2 != (0 : Int)) = true] (by kernel_rfl) ⟨by exact c3186, trivial⟩ ?_
                obtain rfl := Option.some.inj H
                exact Exists.intro _ (And.intro (fun _ _ h => h.conv (inv := [(15, 18), (16, 19), (17, 20)]) (vk := []) (e0 := []) (t := ⟨[(8, iV .u64 x3013), (13, .ptr 18 0 0), (16, .ptr 19 0 0), (18, .ptr 20 0 0), (121, bV true)], [(18, some (.box 25 (aHist (t3168.1)))), (19, some (.box 25 (aHist (t3176.1)))), (20, some (.box 25 (aHist (t3182.1))))], 0⟩) (by kernel_rfl)) (And.intro rfl rfl))
              · replace H := (ifF c3186).symm.trans H
                rcases Bool.eq_false_or_eq_true (t3176.2 != (0 : Int)) with c3187 | c3187
                · replace H := (ifT c3187).symm.trans H
                  refine reg hP hn hm [(2, .b false), (6, .b true)] [8, 13, 16, 18, 121] [15, 16, 17] ⟨[(8, iV .u64 x3013), (13, .ptr 15 0 0), (16, .ptr 16 0 0), (18, .ptr 17 0 0), (121, bV true)], [(15, some (.box 25 (aHist (t3168.1)))), (16, some (.box 25 (aHist (t3176.1)))), (17, some (.box 25 (aHist (t3182.1))))], 0⟩ [(t3168.2 != (0 : Int)) = false, (t3176.2 != (0 : Int)) = true] (by kernel_rfl) ⟨by exact c3186, by exact c3187, trivial⟩ ?_
                  obtain rfl := Option.some.inj H
                  exact Exists.intro _ (And.intro (fun _ _ h => h.conv (inv := [(15, 18), (16, 19), (17, 20)]) (vk := []) (e0 := []) (t := ⟨[(8, iV .u64 x3013), (13, .ptr 18 0 0), (16, .ptr 19 0 0), (18, .ptr 20 0 0), (121, bV true)], [(18, some (.box 25 (aHist (t3168.1)))), (19, some (.box 25 (aHist (t3176.1)))), (20, some (.box 25 (aHist (t3182.1))))], 0⟩) (by kernel_rfl)) (And.intro rfl rfl))
                · replace H := (ifF c3187).symm.trans H
                  refine reg hP hn hm [(2, .b false), (6, .b false)] [8, 13, 16, 18, 121] [15, 16, 17] ⟨[(8, iV .u64 x3013), (13, .ptr 15 0 0), (16, .ptr 16 0 0), (18, .ptr 17 0 0), (121, bV (t3182.2 != (0 : Int)))], [(15, some (.box 25 (aHist (t3168.1)))), (16, some (.box 25 (aHist (t3176.1)))), (17, some (.box 25 (aHist (t3182.1))))], 0⟩ [(t3168.2 != (0 : Int)) = false, (t3176.2 != (0 : Int)) = false] (by kernel_rfl) ⟨by exact c3186, by exact c3187, trivial⟩ ?_
                  obtain rfl := Option.some.inj H
                  exact Exists.intro _ (And.intro (fun _ _ h => h.conv (inv := [(15, 18), (16, 19), (17, 20)]) (vk := []) (e0 := []) (t := ⟨[(8, iV .u64 x3013), (13, .ptr 18 0 0), (16, .ptr 19 0 0), (18, .ptr 20 0 0), (121, bV (t3182.2 != (0 : Int)))], [(18, some (.box 25 (aHist (t3168.1)))), (19, some (.box 25 (aHist (t3176.1)))), (20, some (.box 25 (aHist (t3182.1))))], 0⟩) (by kernel_rfl)) (And.intro rfl rfl))
            · obtain ⟨x3188, rfl⟩ : ∃ z, z = o3209 := ⟨_, rfl⟩
              rintro e s ⟨rfl, rfl⟩
              refine AWp.cond x3188 rfl (fun c3189 => ?_) (fun c3189 => ?_)
              · replace H := (ifT c3189).symm.trans H
                refine AWp.seq ?_
                obtain ⟨t3192, e3193, H⟩ := bind_of H
                refine reg hP hn hm [(0, .call [] [] [] [] 0 (bV t3192) [])] [6] [] ⟨[(6, bV t3192)], [], 0⟩ [Enters Try.prog 11, Pv.Fn Try.prog 11 [] [] 0 (fun r o => r = bV t3192 ∧ o = [])] (by kernel_rfl) ⟨by exact Try.call11, by exact f_pluviallaw07_awake.ok  t3192 e3193, trivial⟩ ?_
                refine AWp.conv (inv := []) (vk := []) (e0 := []) (t := ⟨[(6, bV t3192)], [], 0⟩) (by kernel_rfl) ?_
                refine AWp.ret ?_
                obtain rfl := Option.some.inj H
                exact Exists.intro _ (And.intro (fun _ _ h => h) (And.intro (.inl rfl) (And.intro rfl (And.intro (by kernel_rfl) (by kernel_rfl)))))
              · replace H := (ifF c3189).symm.trans H
                refine AWp.skip ?_
                refine AWp.seq ?_
                obtain ⟨o3211, e3212, H⟩ := bind_of H
                refine AWp.mono (Q := fun e s => (match (generalizing := false) o3211 with | x3204 => e = .normal ∧ s = ⟨[(6, bV x3204)], [], 0⟩)) (AWp.cv ?_) ?_
                · replace H := e3212; clear e3212
                  obtain ⟨t3199, e3200, H⟩ := bind_of H
                  rcases Bool.eq_false_or_eq_true t3199 with c3201 | c3201
                  · replace H := (ifT c3201).symm.trans H
                    rcases Bool.eq_false_or_eq_true (((t3168.1).f4) == x3013) with c3202 | c3202
                    · replace H := (ifT c3202).symm.trans H
                      rcases Bool.eq_false_or_eq_true ((IntKind.u64.wrap (((t3176.1).f4) + ((t3182.1).f4))) == ((t3168.1).f4)) with c3203 | c3203
                      · replace H := (ifT c3203).symm.trans H
                        refine reg hP hn hm [(0, .call [] [] [] [] 0 (bV t3199) []), (1, .b true), (7, .b true), (17, .b true)] [6] [] ⟨[(6, bV ((IntKind.i64.wrap (((t3176.1).f5) + ((t3182.1).f5))) == ((t3168.1).f5)))], [], 0⟩ [Enters Try.prog 11, Pv.Fn Try.prog 11 [] [] 0 (fun r o => r = bV t3199 ∧ o = []), t3199 = true, (((t3168.1).f4) == x3013) = true, ((IntKind.u64.wrap (((t3176.1).f4) + ((t3182.1).f4))) == ((t3168.1).f4)) = true] (by kernel_rfl) ⟨by exact Try.call11, by exact f_pluviallaw07_awake.ok  t3199 e3200, by exact c3201, by exact c3202, by exact c3203, trivial⟩ ?_
                        obtain rfl := Option.some.inj H
                        exact Exists.intro _ (And.intro (fun _ _ h => h.conv (inv := []) (vk := []) (e0 := []) (t := ⟨[(6, bV ((IntKind.i64.wrap (((t3176.1).f5) + ((t3182.1).f5))) == ((t3168.1).f5)))], [], 0⟩) (by kernel_rfl)) (And.intro rfl rfl))
                      · replace H := (ifF c3203).symm.trans H
                        refine reg hP hn hm [(0, .call [] [] [] [] 0 (bV t3199) []), (1, .b true), (7, .b true), (17, .b false)] [6] [] ⟨[(6, bV false)], [], 0⟩ [Enters Try.prog 11, Pv.Fn Try.prog 11 [] [] 0 (fun r o => r = bV t3199 ∧ o = []), t3199 = true, (((t3168.1).f4) == x3013) = true, ((IntKind.u64.wrap (((t3176.1).f4) + ((t3182.1).f4))) == ((t3168.1).f4)) = false] (by kernel_rfl) ⟨by exact Try.call11, by exact f_pluviallaw07_awake.ok  t3199 e3200, by exact c3201, by exact c3202, by exact c3203, trivial⟩ ?_
                        obtain rfl := Option.some.inj H
                        exact Exists.intro _ (And.intro (fun _ _ h => h.conv (inv := []) (vk := []) (e0 := []) (t := ⟨[(6, bV false)], [], 0⟩) (by kernel_rfl)) (And.intro rfl rfl))
                    · replace H := (ifF c3202).symm.trans H
                      refine reg hP hn hm [(0, .call [] [] [] [] 0 (bV t3199) []), (1, .b true), (7, .b false)] [6] [] ⟨[(6, bV false)], [], 0⟩ [Enters Try.prog 11, Pv.Fn Try.prog 11 [] [] 0 (fun r o => r = bV t3199 ∧ o = []), t3199 = true, (((t3168.1).f4) == x3013) = false] (by kernel_rfl) ⟨by exact Try.call11, by exact f_pluviallaw07_awake.ok  t3199 e3200, by exact c3201, by exact c3202, trivial⟩ ?_
                      obtain rfl := Option.some.inj H
                      exact Exists.intro _ (And.intro (fun _ _ h => h.conv (inv := []) (vk := []) (e0 := []) (t := ⟨[(6, bV false)], [], 0⟩) (by kernel_rfl)) (And.intro rfl rfl))
                  · replace H := (ifF c3201).symm.trans H
                    refine reg hP hn hm [(0, .call [] [] [] [] 0 (bV t3199) []), (1, .b false)] [6] [] ⟨[(6, bV false)], [], 0⟩ [Enters Try.prog 11, Pv.Fn Try.prog 11 [] [] 0 (fun r o => r = bV t3199 ∧ o = []), t3199 = false] (by kernel_rfl) ⟨by exact Try.call11, by exact f_pluviallaw07_awake.ok  t3199 e3200, by exact c3201, trivial⟩ ?_
                    obtain rfl := Option.some.inj H
                    exact Exists.intro _ (And.intro (fun _ _ h => h.conv (inv := []) (vk := []) (e0 := []) (t := ⟨[(6, bV false)], [], 0⟩) (by kernel_rfl)) (And.intro rfl rfl))
                · obtain ⟨x3204, rfl⟩ : ∃ z, z = o3211 := ⟨_, rfl⟩
                  rintro e s ⟨rfl, rfl⟩
                  refine AWp.conv (inv := []) (vk := []) (e0 := []) (t := ⟨[(6, bV x3204)], [], 0⟩) (by kernel_rfl) ?_
                  refine AWp.ret ?_
                  obtain rfl := Option.some.inj H
                  exact Exists.intro _ (And.intro (fun _ _ h => h) (And.intro (.inl rfl) (And.intro rfl (And.intro (by kernel_rfl) (by kernel_rfl)))))
end Go.Proofs.Yticdbkmekkbiiaa.PvGB
