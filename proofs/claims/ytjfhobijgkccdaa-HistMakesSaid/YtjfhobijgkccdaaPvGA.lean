import Derived.Test.YtjfhobijgkccdaaProg
import Derived.Test.YtjfhobijgkccdaaPvGAp1
set_option linter.unusedVariables false
set_option linter.unnecessarySimpa false
set_option linter.unusedSimpArgs false
set_option maxRecDepth 10000
namespace Go.Proofs.Ytjfhobijgkccdaa.PvGA
open Go Go.Pv
def f_hist_Check.l0 (a0 : THist) (x942 : Int) : Option (Int ⊕ Unit) := if (decide (x942 < (2 : Int))) = true then ((((chk (0 ≤ x942 ∧ x942 < (2 : Int))) >>= fun _ => if (x942 == (0 : Int)) = true then (some a0.f6) else (some a0.f7)) : Option (List TBucket)) >>= fun x948 => (f_hist_buckets.f a0 x948) >>= fun t951 => if (t951 != (0 : Int)) = true then (some (.inl t951)) else (f_hist_Check.l0 a0 (IntKind.i64.wrap (x942 + (1 : Int))))) else (some (.inr ()))
partial_fixpoint
def f_hist_Check.f (a0 : THist) : Option (Int) := ((if (a0.f0 != (0 : Int)) = true then (some (a0.f0 != (1 : Int))) else (some false)) : Option (Bool)) >>= fun x818 => if x818 = true then (some 25) else ((f_bound_Right.f a0.f1) >>= fun t827 => if (!t827) = true then (some 20) else (((if (a0.f2 != (-524288)) = true then (if (decide (a0.f2 ≤ (-262144))) = true then (some true) else (some (decide (a0.f2 > (262144 : Int))))) else (some false)) : Option (Bool)) >>= fun x834 => if x834 = true then (some 31) else ((f_hist_Check.l0 a0 0) >>= fun oo => match oo with | .inl rr => (some rr) | .inr _ => ((f_hist_total.f [a0.f6, a0.f7, [(⟨0, a0.f3⟩ : TBucket)]]) >>= fun t956 => if (t956.2 != (0 : Int)) = true then (some t956.2) else (if (t956.1 != a0.f4) = true then (some 21) else (some 0))))))
theorem f_hist_Check.ok (a0 : THist) (r : Int) (H : f_hist_Check.f a0 = some r) : Pv.Fn Try.prog 19 [.agg [iV .i64 a0.f0, iV .i64 a0.f1, iV .i64 a0.f2, iV .u64 a0.f3, iV .u64 a0.f4, iV .i64 a0.f5, .im (.row (a0.f6.map eBucket)), .im (.row (a0.f7.map eBucket))]] [] 0 (fun x o => x = iV .i64 r ∧ o = []) := by
  unfold f_hist_Check.f at H
  refine Fn.bodyK [] Try.func19 rfl rfl (fun Γ hP hn => ?_)
  have hm : Try.prog.follows .mixedOrders = true := by kernel_rfl
  replace hn : Γ.n = 73 := hn
  refine AWp.seq ?_
  refine reg hP hn hm [(0, .k 0)] [1] [0] ⟨[(1, .ptr 0 0 0)], [(0, some (.box 30 [iV .i64 a0.f0, iV .i64 a0.f1, iV .i64 a0.f2, iV .u64 a0.f3, iV .u64 a0.f4, iV .i64 a0.f5, .im (.row (a0.f6.map eBucket)), .im (.row (a0.f7.map eBucket))]))], 0⟩ [] (by kernel_rfl) trivial ?_
  refine AWp.seq ?_
  refine AWp.block ?_
  refine AWp.seq ?_
  obtain ⟨o960, e961, H⟩ := bind_of H
  refine AWp.mono (Q := fun e s => (match (generalizing := false) o960 with | x818 => e = .normal ∧ s = ⟨[(1, .ptr 1 0 0), (8, bV x818)], [(1, some (.box 30 [iV .i64 a0.f0, iV .i64 a0.f1, iV .i64 a0.f2, iV .u64 a0.f3, iV .u64 a0.f4, iV .i64 a0.f5, .im (.row (a0.f6.map eBucket)), .im (.row (a0.f7.map eBucket))]))], 0⟩)) (AWp.cv ?_) ?_
  · replace H := e961; clear e961
    rcases Bool.eq_false_or_eq_true (a0.f0 != (0 : Int)) with c817 | c817
    · replace H := (ifT c817).symm.trans H
      refine reg hP hn hm [(3, .b true)] [1, 8] [0] ⟨[(1, .ptr 0 0 0), (8, bV (a0.f0 != (1 : Int)))], [(0, some (.box 30 [iV .i64 a0.f0, iV .i64 a0.f1, iV .i64 a0.f2, iV .u64 a0.f3, iV .u64 a0.f4, iV .i64 a0.f5, .im (.row (a0.f6.map eBucket)), .im (.row (a0.f7.map eBucket))]))], 0⟩ [(a0.f0 != (0 : Int)) = true] (by kernel_rfl) ⟨by exact c817, trivial⟩ ?_
      obtain rfl := Option.some.inj H
      exact Exists.intro _ (And.intro (fun _ _ h => h.conv (inv := [(0, 1)]) (vk := []) (e0 := []) (t := ⟨[(1, .ptr 1 0 0), (8, bV (a0.f0 != (1 : Int)))], [(1, some (.box 30 [iV .i64 a0.f0, iV .i64 a0.f1, iV .i64 a0.f2, iV .u64 a0.f3, iV .u64 a0.f4, iV .i64 a0.f5, .im (.row (a0.f6.map eBucket)), .im (.row (a0.f7.map eBucket))]))], 0⟩) (by kernel_rfl)) (And.intro rfl rfl))
    · replace H := (ifF c817).symm.trans H
      refine reg hP hn hm [(3, .b false)] [1, 8] [0] ⟨[(1, .ptr 0 0 0), (8, bV false)], [(0, some (.box 30 [iV .i64 a0.f0, iV .i64 a0.f1, iV .i64 a0.f2, iV .u64 a0.f3, iV .u64 a0.f4, iV .i64 a0.f5, .im (.row (a0.f6.map eBucket)), .im (.row (a0.f7.map eBucket))]))], 0⟩ [(a0.f0 != (0 : Int)) = false] (by kernel_rfl) ⟨by exact c817, trivial⟩ ?_
      obtain rfl := Option.some.inj H
      exact Exists.intro _ (And.intro (fun _ _ h => h.conv (inv := [(0, 1)]) (vk := []) (e0 := []) (t := ⟨[(1, .ptr 1 0 0), (8, bV false)], [(1, some (.box 30 [iV .i64 a0.f0, iV .i64 a0.f1, iV .i64 a0.f2, iV .u64 a0.f3, iV .u64 a0.f4, iV .i64 a0.f5, .im (.row (a0.f6.map eBucket)), .im (.row (a0.f7.map eBucket))]))], 0⟩) (by kernel_rfl)) (And.intro rfl rfl))
  · obtain ⟨x818, rfl⟩ : ∃ z, z = o960 := ⟨_, rfl⟩
    rintro e s ⟨rfl, rfl⟩
    refine AWp.cond x818 rfl (fun c819 => ?_) (fun c819 => ?_)
    · replace H := (ifT c819).symm.trans H
      refine AWp.seq ?_
      refine reg hP hn hm [] [2] [] ⟨[(2, iV .i64 25)], [], 0⟩ [] (by kernel_rfl) trivial ?_
      refine AWp.conv (inv := []) (vk := []) (e0 := []) (t := ⟨[(2, iV .i64 25)], [], 0⟩) (by kernel_rfl) ?_
      refine AWp.ret ?_
      obtain rfl := Option.some.inj H
      exact Exists.intro _ (And.intro (fun _ _ h => h) (And.intro (.inl rfl) (And.intro rfl (And.intro (by kernel_rfl) (by kernel_rfl)))))
    · replace H := (ifF c819).symm.trans H
      refine AWp.seq ?_
      obtain ⟨t827, e828, H⟩ := bind_of H
      refine reg hP hn hm [(2, .call [] [] [] [] 0 (bV t827) [])] [1, 17] [1] ⟨[(1, .ptr 1 0 0), (17, bV (!t827))], [(1, some (.box 30 [iV .i64 a0.f0, iV .i64 a0.f1, iV .i64 a0.f2, iV .u64 a0.f3, iV .u64 a0.f4, iV .i64 a0.f5, .im (.row (a0.f6.map eBucket)), .im (.row (a0.f7.map eBucket))]))], 0⟩ [Enters Try.prog 48, Pv.Fn Try.prog 48 [iV .i64 a0.f1] [] 0 (fun r o => r = bV t827 ∧ o = [])] (by kernel_rfl) ⟨by exact Try.call48, by exact f_bound_Right.ok a0.f1 t827 e828, trivial⟩ ?_
      refine AWp.cond (!t827) rfl (fun c829 => ?_) (fun c829 => ?_)
      · replace H := (ifT c829).symm.trans H
        refine AWp.seq ?_
        refine reg hP hn hm [] [2] [] ⟨[(2, iV .i64 20)], [], 0⟩ [] (by kernel_rfl) trivial ?_
        refine AWp.conv (inv := []) (vk := []) (e0 := []) (t := ⟨[(2, iV .i64 20)], [], 0⟩) (by kernel_rfl) ?_
        refine AWp.ret ?_
        obtain rfl := Option.some.inj H
        exact Exists.intro _ (And.intro (fun _ _ h => h) (And.intro (.inl rfl) (And.intro rfl (And.intro (by kernel_rfl) (by kernel_rfl)))))
      · replace H := (ifF c829).symm.trans H
        refine AWp.seq ?_
        obtain ⟨o962, e963, H⟩ := bind_of H
        refine AWp.mono (Q := fun e s => (match (generalizing := false) o962 with | x834 => e = .normal ∧ s = ⟨[(1, .ptr 2 0 0), (22, bV x834)], [(2, some (.box 30 [iV .i64 a0.f0, iV .i64 a0.f1, iV .i64 a0.f2, iV .u64 a0.f3, iV .u64 a0.f4, iV .i64 a0.f5, .im (.row (a0.f6.map eBucket)), .im (.row (a0.f7.map eBucket))]))], 0⟩)) (AWp.cv ?_) ?_
        · replace H := e963; clear e963
          rcases Bool.eq_false_or_eq_true (a0.f2 != (-524288)) with c832 | c832
          · replace H := (ifT c832).symm.trans H
            rcases Bool.eq_false_or_eq_true (decide (a0.f2 ≤ (-262144))) with c833 | c833
            · replace H := (ifT c833).symm.trans H
              refine reg hP hn hm [(3, .b true), (7, .b true)] [1, 22] [1] ⟨[(1, .ptr 1 0 0), (22, bV true)], [(1, some (.box 30 [iV .i64 a0.f0, iV .i64 a0.f1, iV .i64 a0.f2, iV .u64 a0.f3, iV .u64 a0.f4, iV .i64 a0.f5, .im (.row (a0.f6.map eBucket)), .im (.row (a0.f7.map eBucket))]))], 0⟩ [(a0.f2 != (-524288)) = true, (decide (a0.f2 ≤ (-262144))) = true] (by kernel_rfl) ⟨by exact c832, by exact c833, trivial⟩ ?_
              obtain rfl := Option.some.inj H
              exact Exists.intro _ (And.intro (fun _ _ h => h.conv (inv := [(1, 2)]) (vk := []) (e0 := []) (t := ⟨[(1, .ptr 2 0 0), (22, bV true)], [(2, some (.box 30 [iV .i64 a0.f0, iV .i64 a0.f1, iV .i64 a0.f2, iV .u64 a0.f3, iV .u64 a0.f4, iV .i64 a0.f5, .im (.row (a0.f6.map eBucket)), .im (.row (a0.f7.map eBucket))]))], 0⟩) (by kernel_rfl)) (And.intro rfl rfl))
            · replace H := (ifF c833).symm.trans H
              refine reg hP hn hm [(3, .b true), (7, .b false)] [1, 22] [1] ⟨[(1, .ptr 1 0 0), (22, bV (decide (a0.f2 > (262144 : Int))))], [(1, some (.box 30 [iV .i64 a0.f0, iV .i64 a0.f1, iV .i64 a0.f2, iV .u64 a0.f3, iV .u64 a0.f4, iV .i64 a0.f5, .im (.row (a0.f6.map eBucket)), .im (.row (a0.f7.map eBucket))]))], 0⟩ [(a0.f2 != (-524288)) = true, (decide (a0.f2 ≤ (-262144))) = false] (by kernel_rfl) ⟨by exact c832, by exact c833, trivial⟩ ?_
              obtain rfl := Option.some.inj H
              exact Exists.intro _ (And.intro (fun _ _ h => h.conv (inv := [(1, 2)]) (vk := []) (e0 := []) (t := ⟨[(1, .ptr 2 0 0), (22, bV (decide (a0.f2 > (262144 : Int))))], [(2, some (.box 30 [iV .i64 a0.f0, iV .i64 a0.f1, iV .i64 a0.f2, iV .u64 a0.f3, iV .u64 a0.f4, iV .i64 a0.f5, .im (.row (a0.f6.map eBucket)), .im (.row (a0.f7.map eBucket))]))], 0⟩) (by kernel_rfl)) (And.intro rfl rfl))
          · replace H := (ifF c832).symm.trans H
            refine reg hP hn hm [(3, .b false)] [1, 22] [1] ⟨[(1, .ptr 1 0 0), (22, bV false)], [(1, some (.box 30 [iV .i64 a0.f0, iV .i64 a0.f1, iV .i64 a0.f2, iV .u64 a0.f3, iV .u64 a0.f4, iV .i64 a0.f5, .im (.row (a0.f6.map eBucket)), .im (.row (a0.f7.map eBucket))]))], 0⟩ [(a0.f2 != (-524288)) = false] (by kernel_rfl) ⟨by exact c832, trivial⟩ ?_
            obtain rfl := Option.some.inj H
            exact Exists.intro _ (And.intro (fun _ _ h => h.conv (inv := [(1, 2)]) (vk := []) (e0 := []) (t := ⟨[(1, .ptr 2 0 0), (22, bV false)], [(2, some (.box 30 [iV .i64 a0.f0, iV .i64 a0.f1, iV .i64 a0.f2, iV .u64 a0.f3, iV .u64 a0.f4, iV .i64 a0.f5, .im (.row (a0.f6.map eBucket)), .im (.row (a0.f7.map eBucket))]))], 0⟩) (by kernel_rfl)) (And.intro rfl rfl))
        · obtain ⟨x834, rfl⟩ : ∃ z, z = o962 := ⟨_, rfl⟩
          rintro e s ⟨rfl, rfl⟩
          refine AWp.cond x834 rfl (fun c835 => ?_) (fun c835 => ?_)
          · replace H := (ifT c835).symm.trans H
            refine AWp.seq ?_
            refine reg hP hn hm [] [2] [] ⟨[(2, iV .i64 31)], [], 0⟩ [] (by kernel_rfl) trivial ?_
            refine AWp.conv (inv := []) (vk := []) (e0 := []) (t := ⟨[(2, iV .i64 31)], [], 0⟩) (by kernel_rfl) ?_
            refine AWp.ret ?_
            obtain rfl := Option.some.inj H
            exact Exists.intro _ (And.intro (fun _ _ h => h) (And.intro (.inl rfl) (And.intro rfl (And.intro (by kernel_rfl) (by kernel_rfl)))))
          · replace H := (ifF c835).symm.trans H
            refine AWp.skip ?_
            refine AWp.seq ?_
            refine AWp.seq ?_
            refine reg hP hn hm [] [1, 40, 41] [2] ⟨[(1, .ptr 2 0 0), (40, .agg [.im (.row (a0.f6.map eBucket)), .im (.row (a0.f7.map eBucket))]), (41, iV .i64 0)], [(2, some (.box 30 [iV .i64 a0.f0, iV .i64 a0.f1, iV .i64 a0.f2, iV .u64 a0.f3, iV .u64 a0.f4, iV .i64 a0.f5, .im (.row (a0.f6.map eBucket)), .im (.row (a0.f7.map eBucket))]))], 0⟩ [] (by kernel_rfl) trivial ?_
            refine AWp.block ?_
            obtain ⟨o964, e965, H⟩ := bind_of H
            refine AWp.loop (LWp.conv (inv := [(2, 3)]) (vk := []) (e0 := []) (t := ⟨[(1, .ptr 3 0 0), (40, .agg [.im (.row (a0.f6.map eBucket)), .im (.row (a0.f7.map eBucket))]), (41, iV .i64 0)], [(3, some (.box 30 [iV .i64 a0.f0, iV .i64 a0.f1, iV .i64 a0.f2, iV .u64 a0.f3, iV .u64 a0.f4, iV .i64 a0.f5, .im (.row (a0.f6.map eBucket)), .im (.row (a0.f7.map eBucket))]))], 0⟩) (by kernel_rfl) ?_)
            refine LWp.mono (Q := fun e s => (match (generalizing := false) o964 with | .inl rr => e = .ret ∧ s.floor = 0 ∧ resOf Try.prog Try.f19 s = some (iV .i64 rr) ∧ ([] : List (Nat × Option MObj)) = [] | .inr _ => e = .exit 1 ∧ s = ⟨[(1, .ptr 5 0 0)], [(5, some (.box 30 [iV .i64 a0.f0, iV .i64 a0.f1, iV .i64 a0.f2, iV .u64 a0.f3, iV .u64 a0.f4, iV .i64 a0.f5, .im (.row (a0.f6.map eBucket)), .im (.row (a0.f7.map eBucket))]))], 0⟩)) (LWp.cv (withBody (fun body hbody => ?_))) ?_
            · refine f_hist_Check.l0.partial_correctness a0 (motive := fun x942 o964 => LWp Γ body (fun e s => ∃ t, Cv Γ s t ∧ (match (generalizing := false) o964 with | .inl rr => e = .ret ∧ t.floor = 0 ∧ resOf Try.prog Try.f19 t = some (iV .i64 rr) ∧ ([] : List (Nat × Option MObj)) = [] | .inr _ => e = .exit 1 ∧ t = ⟨[(1, .ptr 5 0 0)], [(5, some (.box 30 [iV .i64 a0.f0, iV .i64 a0.f1, iV .i64 a0.f2, iV .u64 a0.f3, iV .u64 a0.f4, iV .i64 a0.f5, .im (.row (a0.f6.map eBucket)), .im (.row (a0.f7.map eBucket))]))], 0⟩)) ⟨[(1, .ptr 3 0 0), (40, .agg [.im (.row (a0.f6.map eBucket)), .im (.row (a0.f7.map eBucket))]), (41, iV .i64 x942)], [(3, some (.box 30 [iV .i64 a0.f0, iV .i64 a0.f1, iV .i64 a0.f2, iV .u64 a0.f3, iV .u64 a0.f4, iV .i64 a0.f5, .im (.row (a0.f6.map eBucket)), .im (.row (a0.f7.map eBucket))]))], 0⟩) ?_ _ _ e965
              clear H e965 o964; intro self ih x942 o964 H
              subst hbody
              refine LWp.round ?_
              refine AWp.seq ?_
              refine reg hP hn hm [] [1, 40, 41, 42] [3] ⟨[(1, .ptr 3 0 0), (40, .agg [.im (.row (a0.f6.map eBucket)), .im (.row (a0.f7.map eBucket))]), (41, iV .i64 x942), (42, bV (decide (x942 < (2 : Int))))], [(3, some (.box 30 [iV .i64 a0.f0, iV .i64 a0.f1, iV .i64 a0.f2, iV .u64 a0.f3, iV .u64 a0.f4, iV .i64 a0.f5, .im (.row (a0.f6.map eBucket)), .im (.row (a0.f7.map eBucket))]))], 0⟩ [] (by kernel_rfl) trivial ?_
              refine AWp.seq ?_
              refine AWp.cond (decide (x942 < (2 : Int))) rfl (fun c943 => ?_) (fun c943 => ?_)
              · replace H := (ifT c943).symm.trans H
                refine AWp.skip ?_
                refine AWp.seq ?_
                refine AWp.block ?_
                refine AWp.seq ?_
                obtain ⟨o966, e967, H⟩ := bind_of H
                refine AWp.mono (Q := fun e s => (match (generalizing := false) o966 with | x948 => e = .normal ∧ s = ⟨[(1, .ptr 4 0 0), (4, .im (.row (x948.map eBucket))), (40, .agg [.im (.row (a0.f6.map eBucket)), .im (.row (a0.f7.map eBucket))]), (41, iV .i64 x942)], [(4, some (.box 30 [iV .i64 a0.f0, iV .i64 a0.f1, iV .i64 a0.f2, iV .u64 a0.f3, iV .u64 a0.f4, iV .i64 a0.f5, .im (.row (a0.f6.map eBucket)), .im (.row (a0.f7.map eBucket))]))], 0⟩)) (AWp.cv ?_) ?_
                · replace H := e967; clear e967
                  obtain ⟨c946, H⟩ := chk_of H
                  rcases Bool.eq_false_or_eq_true (x942 == (0 : Int)) with c947 | c947
                  · replace H := (ifT c947).symm.trans H
                    refine reg hP hn hm [(0, .more (xIdx 0))] [1, 4, 40, 41] [3] ⟨[(1, .ptr 3 0 0), (4, .im (.row (a0.f6.map eBucket))), (40, .agg [.im (.row (a0.f6.map eBucket)), .im (.row (a0.f7.map eBucket))]), (41, iV .i64 x942)], [(3, some (.box 30 [iV .i64 a0.f0, iV .i64 a0.f1, iV .i64 a0.f2, iV .u64 a0.f3, iV .u64 a0.f4, iV .i64 a0.f5, .im (.row (a0.f6.map eBucket)), .im (.row (a0.f7.map eBucket))]))], 0⟩ [x942 = ((0 : Nat) : Int)] (by kernel_rfl) ⟨by exact (by simpa using c947), trivial⟩ ?_
                    obtain rfl := Option.some.inj H
                    exact Exists.intro _ (And.intro (fun _ _ h => h.conv (inv := [(3, 4)]) (vk := []) (e0 := []) (t := ⟨[(1, .ptr 4 0 0), (4, .im (.row (a0.f6.map eBucket))), (40, .agg [.im (.row (a0.f6.map eBucket)), .im (.row (a0.f7.map eBucket))]), (41, iV .i64 x942)], [(4, some (.box 30 [iV .i64 a0.f0, iV .i64 a0.f1, iV .i64 a0.f2, iV .u64 a0.f3, iV .u64 a0.f4, iV .i64 a0.f5, .im (.row (a0.f6.map eBucket)), .im (.row (a0.f7.map eBucket))]))], 0⟩) (by kernel_rfl)) (And.intro rfl rfl))
                  · replace H := (ifF c947).symm.trans H
                    refine reg hP hn hm [(0, .more (xIdx 1))] [1, 4, 40, 41] [3] ⟨[(1, .ptr 3 0 0), (4, .im (.row (a0.f7.map eBucket))), (40, .agg [.im (.row (a0.f6.map eBucket)), .im (.row (a0.f7.map eBucket))]), (41, iV .i64 x942)], [(3, some (.box 30 [iV .i64 a0.f0, iV .i64 a0.f1, iV .i64 a0.f2, iV .u64 a0.f3, iV .u64 a0.f4, iV .i64 a0.f5, .im (.row (a0.f6.map eBucket)), .im (.row (a0.f7.map eBucket))]))], 0⟩ [x942 = ((1 : Nat) : Int)] (by kernel_rfl) ⟨by have := c946; simp only [beq_eq_false_iff_ne] at *; omega, trivial⟩ ?_
                    obtain rfl := Option.some.inj H
                    exact Exists.intro _ (And.intro (fun _ _ h => h.conv (inv := [(3, 4)]) (vk := []) (e0 := []) (t := ⟨[(1, .ptr 4 0 0), (4, .im (.row (a0.f7.map eBucket))), (40, .agg [.im (.row (a0.f6.map eBucket)), .im (.row (a0.f7.map eBucket))]), (41, iV .i64 x942)], [(4, some (.box 30 [iV .i64 a0.f0, iV .i64 a0.f1, iV .i64 a0.f2, iV .u64 a0.f3, iV .u64 a0.f4, iV .i64 a0.f5, .im (.row (a0.f6.map eBucket)), .im (.row (a0.f7.map eBucket))]))], 0⟩) (by kernel_rfl)) (And.intro rfl rfl))
                · obtain ⟨x948, rfl⟩ : ∃ z, z = o966 := ⟨_, rfl⟩
                  rintro e s ⟨rfl, rfl⟩
                  refine AWp.seq ?_
                  obtain ⟨t951, e952, H⟩ := bind_of H
                  refine reg hP hn hm [(2, .call [] [] [] [] 0 (iV .i64 t951) [])] [1, 5, 40, 41] [4] ⟨[(1, .ptr 4 0 0), (5, iV .i64 t951), (40, .agg [.im (.row (a0.f6.map eBucket)), .im (.row (a0.f7.map eBucket))]), (41, iV .i64 x942)], [(4, some (.box 30 [iV .i64 a0.f0, iV .i64 a0.f1, iV .i64 a0.f2, iV .u64 a0.f3, iV .u64 a0.f4, iV .i64 a0.f5, .im (.row (a0.f6.map eBucket)), .im (.row (a0.f7.map eBucket))]))], 0⟩ [Enters Try.prog 49, Pv.Fn Try.prog 49 [.agg [iV .i64 a0.f0, iV .i64 a0.f1, iV .i64 a0.f2, iV .u64 a0.f3, iV .u64 a0.f4, iV .i64 a0.f5, .im (.row (a0.f6.map eBucket)), .im (.row (a0.f7.map eBucket))], .im (.row (x948.map eBucket))] [] 0 (fun r o => r = iV .i64 t951 ∧ o = [])] (by kernel_rfl) ⟨by exact Try.call49, by exact f_hist_buckets.ok a0 x948 t951 e952, trivial⟩ ?_
                  refine AWp.seq ?_
                  refine reg hP hn hm [] [1, 5, 40, 41, 48] [4] ⟨[(1, .ptr 4 0 0), (5, iV .i64 t951), (40, .agg [.im (.row (a0.f6.map eBucket)), .im (.row (a0.f7.map eBucket))]), (41, iV .i64 x942), (48, bV (t951 != (0 : Int)))], [(4, some (.box 30 [iV .i64 a0.f0, iV .i64 a0.f1, iV .i64 a0.f2, iV .u64 a0.f3, iV .u64 a0.f4, iV .i64 a0.f5, .im (.row (a0.f6.map eBucket)), .im (.row (a0.f7.map eBucket))]))], 0⟩ [] (by kernel_rfl) trivial ?_
                  refine AWp.cond (t951 != (0 : Int)) rfl (fun c953 => ?_) (fun c953 => ?_)
                  · replace H := (ifT c953).symm.trans H
                    refine AWp.seq ?_
                    refine reg hP hn hm [] [2] [] ⟨[(2, iV .i64 t951)], [], 0⟩ [] (by kernel_rfl) trivial ?_
                    refine AWp.conv (inv := []) (vk := []) (e0 := []) (t := ⟨[(2, iV .i64 t951)], [], 0⟩) (by kernel_rfl) ?_
                    refine AWp.ret ?_
                    obtain rfl := Option.some.inj H
                    exact Exists.intro _ (And.intro (fun _ _ h => h) (And.intro rfl (And.intro rfl (And.intro (by kernel_rfl) (by kernel_rfl)))))
                  · replace H := (ifF c953).symm.trans H
                    refine AWp.skip ?_
                    refine reg hP hn hm [] [1, 40, 41] [4] ⟨[(1, .ptr 4 0 0), (40, .agg [.im (.row (a0.f6.map eBucket)), .im (.row (a0.f7.map eBucket))]), (41, iV .i64 (IntKind.i64.wrap (x942 + (1 : Int))))], [(4, some (.box 30 [iV .i64 a0.f0, iV .i64 a0.f1, iV .i64 a0.f2, iV .u64 a0.f3, iV .u64 a0.f4, iV .i64 a0.f5, .im (.row (a0.f6.map eBucket)), .im (.row (a0.f7.map eBucket))]))], 0⟩ [] (by kernel_rfl) trivial ?_
                    exact LWp.conv (inv := [(4, 3)]) (vk := []) (e0 := []) (t := ⟨[(1, .ptr 3 0 0), (40, .agg [.im (.row (a0.f6.map eBucket)), .im (.row (a0.f7.map eBucket))]), (41, iV .i64 (IntKind.i64.wrap (x942 + (1 : Int))))], [(3, some (.box 30 [iV .i64 a0.f0, iV .i64 a0.f1, iV .i64 a0.f2, iV .u64 a0.f3, iV .u64 a0.f4, iV .i64 a0.f5, .im (.row (a0.f6.map eBucket)), .im (.row (a0.f7.map eBucket))]))], 0⟩) (by kernel_rfl) (ih _ _ H)
              · replace H := (ifF c943).symm.trans H
                refine AWp.exit ?_
                obtain rfl := Option.some.inj H
                exact Exists.intro _ (And.intro (fun _ _ h => h.conv (inv := [(3, 5)]) (vk := []) (e0 := []) (t := ⟨[(1, .ptr 5 0 0)], [(5, some (.box 30 [iV .i64 a0.f0, iV .i64 a0.f1, iV .i64 a0.f2, iV .u64 a0.f3, iV .u64 a0.f4, iV .i64 a0.f5, .im (.row (a0.f6.map eBucket)), .im (.row (a0.f7.map eBucket))]))], 0⟩) (by kernel_rfl)) (And.intro rfl rfl))
            · rcases o964 with rr | _
              · skip
                rintro e s ⟨rfl, hfl, hres⟩
                obtain rfl := Option.some.inj H
                exact Exists.intro _ (And.intro (fun _ _ h => h) (And.intro (.inl rfl) (And.intro hfl hres)))
              · skip
                rintro e s ⟨rfl, rfl⟩
                refine AWp.seq ?_
                obtain ⟨t956, e957, H⟩ := bind_of H
                refine reg hP hn hm [(7, .more (xFz (.app 6 ([(⟨0, a0.f3⟩ : TBucket)].map eBucket)))), (8, .app 7 ([a0.f6, a0.f7, [(⟨0, a0.f3⟩ : TBucket)]].map (encRow eBucket))), (9, .call [] [] [7] [] 0 (.tup [iV .u64 t956.1, iV .i64 t956.2]) [])] [1, 6, 7] [5] ⟨[(1, .ptr 5 0 0), (6, iV .u64 t956.1), (7, iV .i64 t956.2)], [(5, some (.box 30 [iV .i64 a0.f0, iV .i64 a0.f1, iV .i64 a0.f2, iV .u64 a0.f3, iV .u64 a0.f4, iV .i64 a0.f5, .im (.row (a0.f6.map eBucket)), .im (.row (a0.f7.map eBucket))]))], 0⟩ [[(⟨0, a0.f3⟩ : TBucket)].map eBucket = [[iI .i64 0, iI .u64 a0.f3]], [a0.f6, a0.f7, [(⟨0, a0.f3⟩ : TBucket)]].map (encRow eBucket) = [[.row (a0.f6.map eBucket)], [.row (a0.f7.map eBucket)], [.row ([(⟨0, a0.f3⟩ : TBucket)].map eBucket)]], Enters Try.prog 46, Pv.Fn Try.prog 46 [.im (.row ([a0.f6, a0.f7, [(⟨0, a0.f3⟩ : TBucket)]].map (encRow eBucket)))] [] 0 (fun r o => r = .tup [iV .u64 t956.1, iV .i64 t956.2] ∧ o = [])] (by kernel_rfl) ⟨by exact rfl, by exact rfl, by exact Try.call46, by exact f_hist_total.ok [a0.f6, a0.f7, [(⟨0, a0.f3⟩ : TBucket)]] t956 e957, trivial⟩ ?_
                refine AWp.seq ?_
                refine AWp.block ?_
                refine AWp.seq ?_
                refine reg hP hn hm [] [1, 6, 7, 64] [5] ⟨[(1, .ptr 5 0 0), (6, iV .u64 t956.1), (7, iV .i64 t956.2), (64, bV (t956.2 != (0 : Int)))], [(5, some (.box 30 [iV .i64 a0.f0, iV .i64 a0.f1, iV .i64 a0.f2, iV .u64 a0.f3, iV .u64 a0.f4, iV .i64 a0.f5, .im (.row (a0.f6.map eBucket)), .im (.row (a0.f7.map eBucket))]))], 0⟩ [] (by kernel_rfl) trivial ?_
                refine AWp.cond (t956.2 != (0 : Int)) rfl (fun c958 => ?_) (fun c958 => ?_)
                · replace H := (ifT c958).symm.trans H
                  refine AWp.seq ?_
                  refine reg hP hn hm [] [2] [] ⟨[(2, iV .i64 t956.2)], [], 0⟩ [] (by kernel_rfl) trivial ?_
                  refine AWp.conv (inv := []) (vk := []) (e0 := []) (t := ⟨[(2, iV .i64 t956.2)], [], 0⟩) (by kernel_rfl) ?_
                  refine AWp.ret ?_
                  obtain rfl := Option.some.inj H
                  exact Exists.intro _ (And.intro (fun _ _ h => h) (And.intro (.inl rfl) (And.intro rfl (And.intro (by kernel_rfl) (by kernel_rfl)))))
                · replace H := (ifF c958).symm.trans H
                  refine AWp.seq ?_
                  refine reg hP hn hm [] [68] [] ⟨[(68, bV (t956.1 != a0.f4))], [], 0⟩ [] (by kernel_rfl) trivial ?_
                  refine AWp.cond (t956.1 != a0.f4) rfl (fun c959 => ?_) (fun c959 => ?_)
                  · replace H := (ifT c959).symm.trans H
                    refine AWp.seq ?_
                    refine reg hP hn hm [] [2] [] ⟨[(2, iV .i64 21)], [], 0⟩ [] (by kernel_rfl) trivial ?_
                    refine AWp.conv (inv := []) (vk := []) (e0 := []) (t := ⟨[(2, iV .i64 21)], [], 0⟩) (by kernel_rfl) ?_
                    refine AWp.ret ?_
                    obtain rfl := Option.some.inj H
                    exact Exists.intro _ (And.intro (fun _ _ h => h) (And.intro (.inl rfl) (And.intro rfl (And.intro (by kernel_rfl) (by kernel_rfl)))))
                  · replace H := (ifF c959).symm.trans H
                    refine AWp.skip ?_
                    refine AWp.seq ?_
                    refine reg hP hn hm [] [2] [] ⟨[(2, iV .i64 0)], [], 0⟩ [] (by kernel_rfl) trivial ?_
                    refine AWp.conv (inv := []) (vk := []) (e0 := []) (t := ⟨[(2, iV .i64 0)], [], 0⟩) (by kernel_rfl) ?_
                    refine AWp.ret ?_
                    obtain rfl := Option.some.inj H
                    exact Exists.intro _ (And.intro (fun _ _ h => h) (And.intro (.inl rfl) (And.intro rfl (And.intro (by kernel_rfl) (by kernel_rfl)))))
def f_hist_Make.f (a0 : THist) (a1 : List TBucket) (a2 : List TBucket) : Option (THist × Int) := (f_hist_tidy.f a1) >>= fun t727 => (f_hist_tidy.f a2) >>= fun t731 => if ((if t731.2 > t727.2 then t731.2 else t727.2) != (0 : Int)) = true then (some ((⟨0, 0, 0, 0, 0, 0, [], []⟩ : THist), (if t731.2 > t727.2 then t731.2 else t727.2))) else ((f_hist_total.f [t727.1, t731.1, [(⟨0, a0.f3⟩ : TBucket)]]) >>= fun t813 => if (t813.2 != (0 : Int)) = true then (some ((⟨0, 0, 0, 0, 0, 0, [], []⟩ : THist), t813.2)) else ((f_hist_Check.f (⟨a0.f0, a0.f1, a0.f2, a0.f3, t813.1, a0.f5, t727.1, t731.1⟩ : THist)) >>= fun t970 => if (t970 != (0 : Int)) = true then (some ((⟨0, 0, 0, 0, 0, 0, [], []⟩ : THist), t970)) else (some ((⟨a0.f0, a0.f1, a0.f2, a0.f3, t813.1, a0.f5, t727.1, t731.1⟩ : THist), 0))))
theorem f_hist_Make.ok (a0 : THist) (a1 : List TBucket) (a2 : List TBucket) (r : THist × Int) (H : f_hist_Make.f a0 a1 a2 = some r) : Pv.Fn Try.prog 17 [.agg [iV .i64 a0.f0, iV .i64 a0.f1, iV .i64 a0.f2, iV .u64 a0.f3, iV .u64 a0.f4, iV .i64 a0.f5, .im (.row (a0.f6.map eBucket)), .im (.row (a0.f7.map eBucket))], .im (.row (a1.map eBucket)), .im (.row (a2.map eBucket))] [] 0 (fun x o => x = .tup [.agg [iV .i64 ((r.1).f0), iV .i64 ((r.1).f1), iV .i64 ((r.1).f2), iV .u64 ((r.1).f3), iV .u64 ((r.1).f4), iV .i64 ((r.1).f5), .im (.row (((r.1).f6).map eBucket)), .im (.row (((r.1).f7).map eBucket))], iV .i64 r.2] ∧ o = []) := by
  unfold f_hist_Make.f at H
  refine Fn.bodyK [] Try.func17 rfl rfl (fun Γ hP hn => ?_)
  have hm : Try.prog.follows .mixedOrders = true := by kernel_rfl
  replace hn : Γ.n = 55 := hn
  refine AWp.seq ?_
  refine reg hP hn hm [(0, .k 0), (1, .k 1)] [1, 2, 3, 6] [0, 1] ⟨[(1, .im (.row (a1.map eBucket))), (2, .im (.row (a2.map eBucket))), (3, .ptr 0 0 0), (6, .ptr 1 0 0)], [(0, some (.box 30 [iV .i64 a0.f0, iV .i64 a0.f1, iV .i64 a0.f2, iV .u64 a0.f3, iV .u64 a0.f4, iV .i64 a0.f5, .im (.row (a0.f6.map eBucket)), .im (.row (a0.f7.map eBucket))])), (1, some (.box 30 [iV .i64 0, iV .i64 0, iV .i64 0, iV .u64 0, iV .u64 0, iV .i64 0, .none0, .none0]))], 0⟩ [] (by kernel_rfl) trivial ?_
  refine AWp.seq ?_
  refine reg hP hn hm [] [1, 2, 3, 6] [0, 1] ⟨[(1, .im (.row (a1.map eBucket))), (2, .im (.row (a2.map eBucket))), (3, .ptr 0 0 0), (6, .ptr 1 0 0)], [(0, some (.box 30 [iV .i64 a0.f0, iV .i64 a0.f1, iV .i64 a0.f2, iV .u64 a0.f3, iV .u64 a0.f4, iV .i64 a0.f5, .im (.row (a0.f6.map eBucket)), .im (.row (a0.f7.map eBucket))])), (1, some (.box 30 [iV .i64 0, iV .i64 0, iV .i64 0, iV .u64 0, iV .u64 0, iV .i64 0, .none0, .none0]))], 0⟩ [] (by kernel_rfl) trivial ?_
  refine AWp.seq ?_
  obtain ⟨t727, e728, H⟩ := bind_of H
  refine reg hP hn hm [(1, .call [] [(0, 2)] [] [2] 0 (.tup [.own 0, iV .i64 t727.2]) [(0, some (.row 2 36 (t727.1.map eBucket)))])] [2, 3, 6, 8] [0, 1, 2] ⟨[(2, .im (.row (a2.map eBucket))), (3, .ptr 0 0 0), (6, .ptr 1 0 0), (8, iV .i64 t727.2)], [(0, some (.box 30 [iV .i64 a0.f0, iV .i64 a0.f1, iV .i64 a0.f2, iV .u64 a0.f3, iV .u64 a0.f4, iV .i64 a0.f5, .own 2, .im (.row (a0.f7.map eBucket))])), (1, some (.box 30 [iV .i64 0, iV .i64 0, iV .i64 0, iV .u64 0, iV .u64 0, iV .i64 0, .none0, .none0])), (2, some (.row 2 36 (t727.1.map eBucket)))], 0⟩ [Enters Try.prog 45, Pv.Fn Try.prog 45 [.im (.row (a1.map eBucket))] [] 0 (fun r o => r = .tup [.own 0, iV .i64 t727.2] ∧ o = [(0, some (.row 2 36 (t727.1.map eBucket)))])] (by kernel_rfl) ⟨by exact Try.call45, by exact f_hist_tidy.ok a1 t727 e728, trivial⟩ ?_
  refine AWp.seq ?_
  obtain ⟨t731, e732, H⟩ := bind_of H
  refine reg hP hn hm [(1, .call [] [(0, 3)] [] [3] 0 (.tup [.own 0, iV .i64 t731.2]) [(0, some (.row 2 36 (t731.1.map eBucket)))])] [3, 6, 8, 9] [0, 1, 2, 3] ⟨[(3, .ptr 0 0 0), (6, .ptr 1 0 0), (8, iV .i64 t727.2), (9, iV .i64 t731.2)], [(0, some (.box 30 [iV .i64 a0.f0, iV .i64 a0.f1, iV .i64 a0.f2, iV .u64 a0.f3, iV .u64 a0.f4, iV .i64 a0.f5, .own 2, .own 3])), (1, some (.box 30 [iV .i64 0, iV .i64 0, iV .i64 0, iV .u64 0, iV .u64 0, iV .i64 0, .none0, .none0])), (2, some (.row 2 36 (t727.1.map eBucket))), (3, some (.row 2 36 (t731.1.map eBucket)))], 0⟩ [Enters Try.prog 45, Pv.Fn Try.prog 45 [.im (.row (a2.map eBucket))] [] 0 (fun r o => r = .tup [.own 0, iV .i64 t731.2] ∧ o = [(0, some (.row 2 36 (t731.1.map eBucket)))])] (by kernel_rfl) ⟨by exact Try.call45, by exact f_hist_tidy.ok a2 t731 e732, trivial⟩ ?_
  refine AWp.seq ?_
  refine AWp.seq ?_
  refine reg hP hn hm [(2, .more xMax)] [3, 6, 8] [0, 1, 2, 3] ⟨[(3, .ptr 0 0 0), (6, .ptr 1 0 0), (8, iV .i64 (if t731.2 > t727.2 then t731.2 else t727.2))], [(0, some (.box 30 [iV .i64 a0.f0, iV .i64 a0.f1, iV .i64 a0.f2, iV .u64 a0.f3, iV .u64 a0.f4, iV .i64 a0.f5, .own 2, .own 3])), (1, some (.box 30 [iV .i64 0, iV .i64 0, iV .i64 0, iV .u64 0, iV .u64 0, iV .i64 0, .none0, .none0])), (2, some (.row 2 36 (t727.1.map eBucket))), (3, some (.row 2 36 (t731.1.map eBucket)))], 0⟩ [] (by kernel_rfl) trivial ?_
  refine AWp.seq ?_
  refine reg hP hn hm [] [3, 6, 8, 27] [0, 1, 2, 3] ⟨[(3, .ptr 0 0 0), (6, .ptr 1 0 0), (8, iV .i64 (if t731.2 > t727.2 then t731.2 else t727.2)), (27, bV ((if t731.2 > t727.2 then t731.2 else t727.2) != (0 : Int)))], [(0, some (.box 30 [iV .i64 a0.f0, iV .i64 a0.f1, iV .i64 a0.f2, iV .u64 a0.f3, iV .u64 a0.f4, iV .i64 a0.f5, .own 2, .own 3])), (1, some (.box 30 [iV .i64 0, iV .i64 0, iV .i64 0, iV .u64 0, iV .u64 0, iV .i64 0, .none0, .none0])), (2, some (.row 2 36 (t727.1.map eBucket))), (3, some (.row 2 36 (t731.1.map eBucket)))], 0⟩ [] (by kernel_rfl) trivial ?_
  refine AWp.cond ((if t731.2 > t727.2 then t731.2 else t727.2) != (0 : Int)) rfl (fun c733 => ?_) (fun c733 => ?_)
  · replace H := (ifT c733).symm.trans H
    refine AWp.seq ?_
    refine reg hP hn hm [] [6, 7] [1] ⟨[(6, .ptr 1 0 0), (7, iV .i64 (if t731.2 > t727.2 then t731.2 else t727.2))], [(1, some (.box 30 [iV .i64 0, iV .i64 0, iV .i64 0, iV .u64 0, iV .u64 0, iV .i64 0, .none0, .none0]))], 0⟩ [] (by kernel_rfl) trivial ?_
    refine AWp.conv (inv := [(1, 0)]) (vk := []) (e0 := []) (t := ⟨[(6, .ptr 0 0 0), (7, iV .i64 (if t731.2 > t727.2 then t731.2 else t727.2))], [(0, some (.box 30 [iV .i64 (((⟨0, 0, 0, 0, 0, 0, [], []⟩ : THist)).f0), iV .i64 (((⟨0, 0, 0, 0, 0, 0, [], []⟩ : THist)).f1), iV .i64 (((⟨0, 0, 0, 0, 0, 0, [], []⟩ : THist)).f2), iV .u64 (((⟨0, 0, 0, 0, 0, 0, [], []⟩ : THist)).f3), iV .u64 (((⟨0, 0, 0, 0, 0, 0, [], []⟩ : THist)).f4), iV .i64 (((⟨0, 0, 0, 0, 0, 0, [], []⟩ : THist)).f5), .im (.row ((((⟨0, 0, 0, 0, 0, 0, [], []⟩ : THist)).f6).map eBucket)), .im (.row ((((⟨0, 0, 0, 0, 0, 0, [], []⟩ : THist)).f7).map eBucket))]))], 0⟩) (by kernel_rfl) ?_
    refine AWp.ret ?_
    obtain rfl := Option.some.inj H
    exact Exists.intro _ (And.intro (fun _ _ h => h) (And.intro (.inl rfl) (And.intro rfl (And.intro (by kernel_rfl) (by kernel_rfl)))))
  · replace H := (ifF c733).symm.trans H
    refine AWp.skip ?_
    refine AWp.seq ?_
    refine AWp.seq ?_
    refine AWp.conv (inv := [(0, 0), (1, 1)]) (vk := [2, 3]) (e0 := []) (t := ⟨[(3, .ptr 0 0 0), (6, .ptr 1 0 0), (8, iV .i64 (if t731.2 > t727.2 then t731.2 else t727.2)), (27, bV ((if t731.2 > t727.2 then t731.2 else t727.2) != (0 : Int)))], [(0, some (.box 30 [iV .i64 a0.f0, iV .i64 a0.f1, iV .i64 a0.f2, iV .u64 a0.f3, iV .u64 a0.f4, iV .i64 a0.f5, .im (.row (t727.1.map eBucket)), .im (.row (t731.1.map eBucket))])), (1, some (.box 30 [iV .i64 0, iV .i64 0, iV .i64 0, iV .u64 0, iV .u64 0, iV .i64 0, .none0, .none0]))], 0⟩) (by kernel_rfl) ?_
    obtain ⟨t813, e814, H⟩ := bind_of H
    refine reg hP hn hm [(7, .more (xFz (.app 4 ([(⟨0, a0.f3⟩ : TBucket)].map eBucket)))), (8, .app 5 ([t727.1, t731.1, [(⟨0, a0.f3⟩ : TBucket)]].map (encRow eBucket))), (9, .call [] [] [5] [] 0 (.tup [iV .u64 t813.1, iV .i64 t813.2]) [])] [3, 6, 8] [0, 1] ⟨[(3, .ptr 0 0 0), (6, .ptr 1 0 0), (8, iV .i64 t813.2)], [(0, some (.box 30 [iV .i64 a0.f0, iV .i64 a0.f1, iV .i64 a0.f2, iV .u64 a0.f3, iV .u64 t813.1, iV .i64 a0.f5, .im (.row (t727.1.map eBucket)), .im (.row (t731.1.map eBucket))])), (1, some (.box 30 [iV .i64 0, iV .i64 0, iV .i64 0, iV .u64 0, iV .u64 0, iV .i64 0, .none0, .none0]))], 0⟩ [[(⟨0, a0.f3⟩ : TBucket)].map eBucket = [[iI .i64 0, iI .u64 a0.f3]], [t727.1, t731.1, [(⟨0, a0.f3⟩ : TBucket)]].map (encRow eBucket) = [[.row (t727.1.map eBucket)], [.row (t731.1.map eBucket)], [.row ([(⟨0, a0.f3⟩ : TBucket)].map eBucket)]], Enters Try.prog 46, Pv.Fn Try.prog 46 [.im (.row ([t727.1, t731.1, [(⟨0, a0.f3⟩ : TBucket)]].map (encRow eBucket)))] [] 0 (fun r o => r = .tup [iV .u64 t813.1, iV .i64 t813.2] ∧ o = [])] (by kernel_rfl) ⟨by exact rfl, by exact rfl, by exact Try.call46, by exact f_hist_total.ok [t727.1, t731.1, [(⟨0, a0.f3⟩ : TBucket)]] t813 e814, trivial⟩ ?_
    refine AWp.seq ?_
    refine reg hP hn hm [] [3, 6, 8, 45] [0, 1] ⟨[(3, .ptr 0 0 0), (6, .ptr 1 0 0), (8, iV .i64 t813.2), (45, bV (t813.2 != (0 : Int)))], [(0, some (.box 30 [iV .i64 a0.f0, iV .i64 a0.f1, iV .i64 a0.f2, iV .u64 a0.f3, iV .u64 t813.1, iV .i64 a0.f5, .im (.row (t727.1.map eBucket)), .im (.row (t731.1.map eBucket))])), (1, some (.box 30 [iV .i64 0, iV .i64 0, iV .i64 0, iV .u64 0, iV .u64 0, iV .i64 0, .none0, .none0]))], 0⟩ [] (by kernel_rfl) trivial ?_
    refine AWp.cond (t813.2 != (0 : Int)) rfl (fun c815 => ?_) (fun c815 => ?_)
    · replace H := (ifT c815).symm.trans H
      refine AWp.seq ?_
      refine reg hP hn hm [] [6, 7] [1] ⟨[(6, .ptr 1 0 0), (7, iV .i64 t813.2)], [(1, some (.box 30 [iV .i64 0, iV .i64 0, iV .i64 0, iV .u64 0, iV .u64 0, iV .i64 0, .none0, .none0]))], 0⟩ [] (by kernel_rfl) trivial ?_
      refine AWp.conv (inv := [(1, 0)]) (vk := []) (e0 := []) (t := ⟨[(6, .ptr 0 0 0), (7, iV .i64 t813.2)], [(0, some (.box 30 [iV .i64 (((⟨0, 0, 0, 0, 0, 0, [], []⟩ : THist)).f0), iV .i64 (((⟨0, 0, 0, 0, 0, 0, [], []⟩ : THist)).f1), iV .i64 (((⟨0, 0, 0, 0, 0, 0, [], []⟩ : THist)).f2), iV .u64 (((⟨0, 0, 0, 0, 0, 0, [], []⟩ : THist)).f3), iV .u64 (((⟨0, 0, 0, 0, 0, 0, [], []⟩ : THist)).f4), iV .i64 (((⟨0, 0, 0, 0, 0, 0, [], []⟩ : THist)).f5), .im (.row ((((⟨0, 0, 0, 0, 0, 0, [], []⟩ : THist)).f6).map eBucket)), .im (.row ((((⟨0, 0, 0, 0, 0, 0, [], []⟩ : THist)).f7).map eBucket))]))], 0⟩) (by kernel_rfl) ?_
      refine AWp.ret ?_
      obtain rfl := Option.some.inj H
      exact Exists.intro _ (And.intro (fun _ _ h => h) (And.intro (.inl rfl) (And.intro rfl (And.intro (by kernel_rfl) (by kernel_rfl)))))
    · replace H := (ifF c815).symm.trans H
      refine AWp.skip ?_
      refine AWp.seq ?_
      refine AWp.seq ?_
      obtain ⟨t970, e971, H⟩ := bind_of H
      refine reg hP hn hm [(1, .call [] [] [] [] 0 (iV .i64 t970) [])] [3, 6, 10] [0, 1] ⟨[(3, .ptr 0 0 0), (6, .ptr 1 0 0), (10, iV .i64 t970)], [(0, some (.box 30 [iV .i64 a0.f0, iV .i64 a0.f1, iV .i64 a0.f2, iV .u64 a0.f3, iV .u64 t813.1, iV .i64 a0.f5, .im (.row (t727.1.map eBucket)), .im (.row (t731.1.map eBucket))])), (1, some (.box 30 [iV .i64 0, iV .i64 0, iV .i64 0, iV .u64 0, iV .u64 0, iV .i64 0, .none0, .none0]))], 0⟩ [Enters Try.prog 19, Pv.Fn Try.prog 19 [.agg [iV .i64 ((⟨a0.f0, a0.f1, a0.f2, a0.f3, t813.1, a0.f5, t727.1, t731.1⟩ : THist).f0), iV .i64 ((⟨a0.f0, a0.f1, a0.f2, a0.f3, t813.1, a0.f5, t727.1, t731.1⟩ : THist).f1), iV .i64 ((⟨a0.f0, a0.f1, a0.f2, a0.f3, t813.1, a0.f5, t727.1, t731.1⟩ : THist).f2), iV .u64 ((⟨a0.f0, a0.f1, a0.f2, a0.f3, t813.1, a0.f5, t727.1, t731.1⟩ : THist).f3), iV .u64 ((⟨a0.f0, a0.f1, a0.f2, a0.f3, t813.1, a0.f5, t727.1, t731.1⟩ : THist).f4), iV .i64 ((⟨a0.f0, a0.f1, a0.f2, a0.f3, t813.1, a0.f5, t727.1, t731.1⟩ : THist).f5), .im (.row (((⟨a0.f0, a0.f1, a0.f2, a0.f3, t813.1, a0.f5, t727.1, t731.1⟩ : THist).f6).map eBucket)), .im (.row (((⟨a0.f0, a0.f1, a0.f2, a0.f3, t813.1, a0.f5, t727.1, t731.1⟩ : THist).f7).map eBucket))]] [] 0 (fun r o => r = iV .i64 t970 ∧ o = [])] (by kernel_rfl) ⟨by exact Try.call19, by exact f_hist_Check.ok (⟨a0.f0, a0.f1, a0.f2, a0.f3, t813.1, a0.f5, t727.1, t731.1⟩ : THist) t970 e971, trivial⟩ ?_
      refine AWp.seq ?_
      refine reg hP hn hm [] [3, 6, 10, 51] [0, 1] ⟨[(3, .ptr 0 0 0), (6, .ptr 1 0 0), (10, iV .i64 t970), (51, bV (t970 != (0 : Int)))], [(0, some (.box 30 [iV .i64 a0.f0, iV .i64 a0.f1, iV .i64 a0.f2, iV .u64 a0.f3, iV .u64 t813.1, iV .i64 a0.f5, .im (.row (t727.1.map eBucket)), .im (.row (t731.1.map eBucket))])), (1, some (.box 30 [iV .i64 0, iV .i64 0, iV .i64 0, iV .u64 0, iV .u64 0, iV .i64 0, .none0, .none0]))], 0⟩ [] (by kernel_rfl) trivial ?_
      refine AWp.cond (t970 != (0 : Int)) rfl (fun c972 => ?_) (fun c972 => ?_)
      · replace H := (ifT c972).symm.trans H
        refine AWp.seq ?_
        refine reg hP hn hm [] [6, 7] [1] ⟨[(6, .ptr 1 0 0), (7, iV .i64 t970)], [(1, some (.box 30 [iV .i64 0, iV .i64 0, iV .i64 0, iV .u64 0, iV .u64 0, iV .i64 0, .none0, .none0]))], 0⟩ [] (by kernel_rfl) trivial ?_
        refine AWp.conv (inv := [(1, 0)]) (vk := []) (e0 := []) (t := ⟨[(6, .ptr 0 0 0), (7, iV .i64 t970)], [(0, some (.box 30 [iV .i64 (((⟨0, 0, 0, 0, 0, 0, [], []⟩ : THist)).f0), iV .i64 (((⟨0, 0, 0, 0, 0, 0, [], []⟩ : THist)).f1), iV .i64 (((⟨0, 0, 0, 0, 0, 0, [], []⟩ : THist)).f2), iV .u64 (((⟨0, 0, 0, 0, 0, 0, [], []⟩ : THist)).f3), iV .u64 (((⟨0, 0, 0, 0, 0, 0, [], []⟩ : THist)).f4), iV .i64 (((⟨0, 0, 0, 0, 0, 0, [], []⟩ : THist)).f5), .im (.row ((((⟨0, 0, 0, 0, 0, 0, [], []⟩ : THist)).f6).map eBucket)), .im (.row ((((⟨0, 0, 0, 0, 0, 0, [], []⟩ : THist)).f7).map eBucket))]))], 0⟩) (by kernel_rfl) ?_
        refine AWp.ret ?_
        obtain rfl := Option.some.inj H
        exact Exists.intro _ (And.intro (fun _ _ h => h) (And.intro (.inl rfl) (And.intro rfl (And.intro (by kernel_rfl) (by kernel_rfl)))))
      · replace H := (ifF c972).symm.trans H
        refine AWp.skip ?_
        refine AWp.seq ?_
        refine reg hP hn hm [] [6, 7] [1] ⟨[(6, .ptr 1 0 0), (7, iV .i64 0)], [(1, some (.box 30 [iV .i64 a0.f0, iV .i64 a0.f1, iV .i64 a0.f2, iV .u64 a0.f3, iV .u64 t813.1, iV .i64 a0.f5, .im (.row (t727.1.map eBucket)), .im (.row (t731.1.map eBucket))]))], 0⟩ [] (by kernel_rfl) trivial ?_
        refine AWp.conv (inv := [(1, 0)]) (vk := []) (e0 := []) (t := ⟨[(6, .ptr 0 0 0), (7, iV .i64 0)], [(0, some (.box 30 [iV .i64 (((⟨a0.f0, a0.f1, a0.f2, a0.f3, t813.1, a0.f5, t727.1, t731.1⟩ : THist)).f0), iV .i64 (((⟨a0.f0, a0.f1, a0.f2, a0.f3, t813.1, a0.f5, t727.1, t731.1⟩ : THist)).f1), iV .i64 (((⟨a0.f0, a0.f1, a0.f2, a0.f3, t813.1, a0.f5, t727.1, t731.1⟩ : THist)).f2), iV .u64 (((⟨a0.f0, a0.f1, a0.f2, a0.f3, t813.1, a0.f5, t727.1, t731.1⟩ : THist)).f3), iV .u64 (((⟨a0.f0, a0.f1, a0.f2, a0.f3, t813.1, a0.f5, t727.1, t731.1⟩ : THist)).f4), iV .i64 (((⟨a0.f0, a0.f1, a0.f2, a0.f3, t813.1, a0.f5, t727.1, t731.1⟩ : THist)).f5), .im (.row ((((⟨a0.f0, a0.f1, a0.f2, a0.f3, t813.1, a0.f5, t727.1, t731.1⟩ : THist)).f6).map eBucket)), .im (.row ((((⟨a0.f0, a0.f1, a0.f2, a0.f3, t813.1, a0.f5, t727.1, t731.1⟩ : THist)).f7).map eBucket))]))], 0⟩) (by kernel_rfl) ?_
        refine AWp.ret ?_
        obtain rfl := Option.some.inj H
        exact Exists.intro _ (And.intro (fun _ _ h => h) (And.intro (.inl rfl) (And.intro rfl (And.intro (by kernel_rfl) (by kernel_rfl)))))
def f_pluviallaw05_awake.f  : Option (Bool) := (f_hist_Empty.f 0 0) >>= fun t975 => (f_hist_Make.f (t975) [(⟨3, 2⟩ : TBucket), (⟨1, 1⟩ : TBucket)] ([] : List TBucket)) >>= fun t977 => ((if (t977.2 == (0 : Int)) = true then (if (((t977.1).f4) == (3 : Int)) = true then (if ((((t977.1).f6).length : Int) == (2 : Int)) = true then ((at? ((t977.1).f6) 0) >>= fun b988 => some ((b988.f0 == (1 : Int)) && ((b988.f1 == (1 : Int)) && true))) else (some false)) else (some false)) else (some false)) : Option (Bool)) >>= fun x991 => some x991
theorem f_pluviallaw05_awake.ok  (r : Bool) (H : f_pluviallaw05_awake.f  = some r) : Pv.Fn Try.prog 16 [] [] 0 (fun x o => x = bV r ∧ o = []) := by
  unfold f_pluviallaw05_awake.f at H
  refine Fn.bodyK [] Try.func16 rfl rfl (fun Γ hP hn => ?_)
  have hm : Try.prog.follows .mixedOrders = true := by kernel_rfl
  replace hn : Γ.n = 32 := hn
  refine AWp.seq ?_
  refine reg hP hn hm [] [] [] ⟨[], [], 0⟩ [] (by kernel_rfl) trivial ?_
  refine AWp.seq ?_
  obtain ⟨t975, e976, H⟩ := bind_of H
  obtain ⟨t977, e978, H⟩ := bind_of H
  refine reg hP hn hm [(0, .call [] [] [] [] 0 (.agg [iV .i64 ((t975).f0), iV .i64 ((t975).f1), iV .i64 ((t975).f2), iV .u64 ((t975).f3), iV .u64 ((t975).f4), iV .i64 ((t975).f5), .im (.row (((t975).f6).map eBucket)), .im (.row (((t975).f7).map eBucket))]) []), (3, .app 0 ([(⟨3, 2⟩ : TBucket), (⟨1, 1⟩ : TBucket)].map eBucket)), (4, .call [] [] [0] [] 0 (.tup [.agg [iV .i64 ((t977.1).f0), iV .i64 ((t977.1).f1), iV .i64 ((t977.1).f2), iV .u64 ((t977.1).f3), iV .u64 ((t977.1).f4), iV .i64 ((t977.1).f5), .im (.row (((t977.1).f6).map eBucket)), .im (.row (((t977.1).f7).map eBucket))], iV .i64 t977.2]) []), (8, .k 1)] [1, 2] [1] ⟨[(1, .ptr 1 0 0), (2, iV .i64 t977.2)], [(1, some (.box 30 [iV .i64 ((t977.1).f0), iV .i64 ((t977.1).f1), iV .i64 ((t977.1).f2), iV .u64 ((t977.1).f3), iV .u64 ((t977.1).f4), iV .i64 ((t977.1).f5), .im (.row (((t977.1).f6).map eBucket)), .im (.row (((t977.1).f7).map eBucket))]))], 0⟩ [Enters Try.prog 33, Pv.Fn Try.prog 33 [iV .i64 0, iV .i64 0] [] 0 (fun r o => r = .agg [iV .i64 ((t975).f0), iV .i64 ((t975).f1), iV .i64 ((t975).f2), iV .u64 ((t975).f3), iV .u64 ((t975).f4), iV .i64 ((t975).f5), .im (.row (((t975).f6).map eBucket)), .im (.row (((t975).f7).map eBucket))] ∧ o = []), [(⟨3, 2⟩ : TBucket), (⟨1, 1⟩ : TBucket)].map eBucket = [[iI .i64 3, iI .u64 2], [iI .i64 1, iI .u64 1]], Enters Try.prog 17, Pv.Fn Try.prog 17 [.agg [iV .i64 ((t975).f0), iV .i64 ((t975).f1), iV .i64 ((t975).f2), iV .u64 ((t975).f3), iV .u64 ((t975).f4), iV .i64 ((t975).f5), .im (.row (((t975).f6).map eBucket)), .im (.row (((t975).f7).map eBucket))], .im (.row ([(⟨3, 2⟩ : TBucket), (⟨1, 1⟩ : TBucket)].map eBucket)), .im (.row (([] : List TBucket).map eBucket))] [] 0 (fun r o => r = .tup [.agg [iV .i64 ((t977.1).f0), iV .i64 ((t977.1).f1), iV .i64 ((t977.1).f2), iV .u64 ((t977.1).f3), iV .u64 ((t977.1).f4), iV .i64 ((t977.1).f5), .im (.row (((t977.1).f6).map eBucket)), .im (.row (((t977.1).f7).map eBucket))], iV .i64 t977.2] ∧ o = [])] (by kernel_rfl) ⟨by exact Try.call33, by exact f_hist_Empty.ok 0 0 t975 e976, by exact rfl, by exact Try.call17, by exact f_hist_Make.ok (t975) [(⟨3, 2⟩ : TBucket), (⟨1, 1⟩ : TBucket)] ([] : List TBucket) t977 e978, trivial⟩ ?_
  refine AWp.seq ?_
  obtain ⟨o992, e993, H⟩ := bind_of H
  refine AWp.mono (Q := fun e s => (match (generalizing := false) o992 with | x991 => e = .normal ∧ s = ⟨[(0, bV x991)], [], 0⟩)) (AWp.cv ?_) ?_
  · replace H := e993; clear e993
    rcases Bool.eq_false_or_eq_true (t977.2 == (0 : Int)) with c985 | c985
    · replace H := (ifT c985).symm.trans H
      rcases Bool.eq_false_or_eq_true (((t977.1).f4) == (3 : Int)) with c986 | c986
      · replace H := (ifT c986).symm.trans H
        rcases Bool.eq_false_or_eq_true ((((t977.1).f6).length : Int) == (2 : Int)) with c987 | c987
        · replace H := (ifT c987).symm.trans H
          obtain ⟨b988, p989, q990, H⟩ := at_of H
          refine reg hP hn hm [(2, .b true), (7, .b true), (10, .any (iV .i64 (((t977.1).f6).length : Int))), (13, .b true), (16, .c (eBucket b988)), (19, .more (xAgg none))] [0] [] ⟨[(0, bV ((b988.f0 == (1 : Int)) && ((b988.f1 == (1 : Int)) && true)))], [], 0⟩ [(t977.2 == (0 : Int)) = true, (((t977.1).f4) == (3 : Int)) = true, ((((t977.1).f6).map eBucket).length : Int) = (((t977.1).f6).length : Int), ((((t977.1).f6).length : Int) == (2 : Int)) = true, 0 ≤ (0 : Int), (((t977.1).f6).map eBucket)[(Int.toNat (0))]? = some (eBucket b988)] (by kernel_rfl) ⟨by exact c985, by exact c986, by rw [len_map], by exact c987, by exact p989, by exact el_map eBucket q990, trivial⟩ ?_
          obtain rfl := Option.some.inj H
          exact Exists.intro _ (And.intro (fun _ _ h => h.conv (inv := []) (vk := []) (e0 := []) (t := ⟨[(0, bV ((b988.f0 == (1 : Int)) && ((b988.f1 == (1 : Int)) && true)))], [], 0⟩) (by kernel_rfl)) (And.intro rfl rfl))
        · replace H := (ifF c987).symm.trans H
          refine reg hP hn hm [(2, .b true), (7, .b true), (10, .any (iV .i64 (((t977.1).f6).length : Int))), (13, .b false)] [0] [] ⟨[(0, bV false)], [], 0⟩ [(t977.2 == (0 : Int)) = true, (((t977.1).f4) == (3 : Int)) = true, ((((t977.1).f6).map eBucket).length : Int) = (((t977.1).f6).length : Int), ((((t977.1).f6).length : Int) == (2 : Int)) = false] (by kernel_rfl) ⟨by exact c985, by exact c986, by rw [len_map], by exact c987, trivial⟩ ?_
          obtain rfl := Option.some.inj H
          exact Exists.intro _ (And.intro (fun _ _ h => h.conv (inv := []) (vk := []) (e0 := []) (t := ⟨[(0, bV false)], [], 0⟩) (by kernel_rfl)) (And.intro rfl rfl))
      · replace H := (ifF c986).symm.trans H
        refine reg hP hn hm [(2, .b true), (7, .b false)] [0] [] ⟨[(0, bV false)], [], 0⟩ [(t977.2 == (0 : Int)) = true, (((t977.1).f4) == (3 : Int)) = false] (by kernel_rfl) ⟨by exact c985, by exact c986, trivial⟩ ?_
        obtain rfl := Option.some.inj H
        exact Exists.intro _ (And.intro (fun _ _ h => h.conv (inv := []) (vk := []) (e0 := []) (t := ⟨[(0, bV false)], [], 0⟩) (by kernel_rfl)) (And.intro rfl rfl))
    · replace H := (ifF c985).symm.trans H
      refine reg hP hn hm [(2, .b false)] [0] [] ⟨[(0, bV false)], [], 0⟩ [(t977.2 == (0 : Int)) = false] (by kernel_rfl) ⟨by exact c985, trivial⟩ ?_
      obtain rfl := Option.some.inj H
      exact Exists.intro _ (And.intro (fun _ _ h => h.conv (inv := []) (vk := []) (e0 := []) (t := ⟨[(0, bV false)], [], 0⟩) (by kernel_rfl)) (And.intro rfl rfl))
  · obtain ⟨x991, rfl⟩ : ∃ z, z = o992 := ⟨_, rfl⟩
    rintro e s ⟨rfl, rfl⟩
    refine AWp.conv (inv := []) (vk := []) (e0 := []) (t := ⟨[(0, bV x991)], [], 0⟩) (by kernel_rfl) ?_
    refine AWp.ret ?_
    obtain rfl := Option.some.inj H
    exact Exists.intro _ (And.intro (fun _ _ h => h) (And.intro (.inl rfl) (And.intro rfl (And.intro (by kernel_rfl) (by kernel_rfl)))))
def f_slices_Equal_api_Bucket.l0 (a0 : List TBucket) (a1 : List TBucket) (x1055 : Int) : Option (Bool ⊕ Unit) := if (decide (x1055 < (a0.length : Int))) = true then ((at? a0 x1055) >>= fun b1063 => (at? a1 x1055) >>= fun b1066 => if (!((b1063.f0 == b1066.f0) && ((b1063.f1 == b1066.f1) && true))) = true then (some (.inl false)) else (f_slices_Equal_api_Bucket.l0 a0 a1 (IntKind.i64.wrap (x1055 + (1 : Int))))) else (some (.inr ()))
partial_fixpoint
def f_slices_Equal_api_Bucket.f (a0 : List TBucket) (a1 : List TBucket) : Option (Bool) := if ((a0.length : Int) != (a1.length : Int)) = true then (some false) else ((f_slices_Equal_api_Bucket.l0 a0 a1 0) >>= fun oo => match oo with | .inl rr => (some rr) | .inr _ => (some true))
theorem f_slices_Equal_api_Bucket.ok (a0 : List TBucket) (a1 : List TBucket) (r : Bool) (H : f_slices_Equal_api_Bucket.f a0 a1 = some r) : Pv.Fn Try.prog 47 [.im (.row (a0.map eBucket)), .im (.row (a1.map eBucket))] [] 0 (fun x o => x = bV r ∧ o = []) := by
  unfold f_slices_Equal_api_Bucket.f at H
  refine Fn.bodyK [] Try.func47 rfl rfl (fun Γ hP hn => ?_)
  have hm : Try.prog.follows .mixedOrders = true := by kernel_rfl
  replace hn : Γ.n = 26 := hn
  refine AWp.seq ?_
  refine reg hP hn hm [] [0, 1] [] ⟨[(0, .im (.row (a0.map eBucket))), (1, .im (.row (a1.map eBucket)))], [], 0⟩ [] (by kernel_rfl) trivial ?_
  refine AWp.seq ?_
  refine AWp.seq ?_
  refine reg hP hn hm [(1, .any (iV .i64 (a0.length : Int))), (3, .any (iV .i64 (a1.length : Int)))] [0, 1, 10] [] ⟨[(0, .im (.row (a0.map eBucket))), (1, .im (.row (a1.map eBucket))), (10, bV ((a0.length : Int) != (a1.length : Int)))], [], 0⟩ [((a0.map eBucket).length : Int) = (a0.length : Int), ((a1.map eBucket).length : Int) = (a1.length : Int)] (by kernel_rfl) ⟨by rw [len_map], by rw [len_map], trivial⟩ ?_
  refine AWp.cond ((a0.length : Int) != (a1.length : Int)) rfl (fun c1040 => ?_) (fun c1040 => ?_)
  · replace H := (ifT c1040).symm.trans H
    refine AWp.seq ?_
    refine reg hP hn hm [] [4] [] ⟨[(4, bV false)], [], 0⟩ [] (by kernel_rfl) trivial ?_
    refine AWp.conv (inv := []) (vk := []) (e0 := []) (t := ⟨[(4, bV false)], [], 0⟩) (by kernel_rfl) ?_
    refine AWp.ret ?_
    obtain rfl := Option.some.inj H
    exact Exists.intro _ (And.intro (fun _ _ h => h) (And.intro (.inl rfl) (And.intro rfl (And.intro (by kernel_rfl) (by kernel_rfl)))))
  · replace H := (ifF c1040).symm.trans H
    refine AWp.skip ?_
    refine AWp.seq ?_
    refine AWp.seq ?_
    refine reg hP hn hm [(1, .any (iV .i64 (a0.length : Int)))] [0, 1, 12, 13] [] ⟨[(0, .im (.row (a0.map eBucket))), (1, .im (.row (a1.map eBucket))), (12, iV .i64 (a0.length : Int)), (13, iV .i64 0)], [], 0⟩ [((a0.map eBucket).length : Int) = (a0.length : Int)] (by kernel_rfl) ⟨by rw [len_map], trivial⟩ ?_
    refine AWp.block ?_
    obtain ⟨o1070, e1071, H⟩ := bind_of H
    refine AWp.loop (LWp.conv (inv := []) (vk := []) (e0 := []) (t := ⟨[(0, .im (.row (a0.map eBucket))), (1, .im (.row (a1.map eBucket))), (12, iV .i64 (a0.length : Int)), (13, iV .i64 0)], [], 0⟩) (by kernel_rfl) ?_)
    refine LWp.mono (Q := fun e s => (match (generalizing := false) o1070 with | .inl rr => e = .ret ∧ s.floor = 0 ∧ resOf Try.prog Try.f47 s = some (bV rr) ∧ ([] : List (Nat × Option MObj)) = [] | .inr _ => e = .exit 0 ∧ s = ⟨[], [], 0⟩)) (LWp.cv (withBody (fun body hbody => ?_))) ?_
    · refine f_slices_Equal_api_Bucket.l0.partial_correctness a0 a1 (motive := fun x1055 o1070 => LWp Γ body (fun e s => ∃ t, Cv Γ s t ∧ (match (generalizing := false) o1070 with | .inl rr => e = .ret ∧ t.floor = 0 ∧ resOf Try.prog Try.f47 t = some (bV rr) ∧ ([] : List (Nat × Option MObj)) = [] | .inr _ => e = .exit 0 ∧ t = ⟨[], [], 0⟩)) ⟨[(0, .im (.row (a0.map eBucket))), (1, .im (.row (a1.map eBucket))), (12, iV .i64 (a0.length : Int)), (13, iV .i64 x1055)], [], 0⟩) ?_ _ _ e1071
      clear H e1071 o1070; intro self ih x1055 o1070 H
      subst hbody
      refine LWp.round ?_
      refine AWp.seq ?_
      refine reg hP hn hm [] [0, 1, 12, 13, 14] [] ⟨[(0, .im (.row (a0.map eBucket))), (1, .im (.row (a1.map eBucket))), (12, iV .i64 (a0.length : Int)), (13, iV .i64 x1055), (14, bV (decide (x1055 < (a0.length : Int))))], [], 0⟩ [] (by kernel_rfl) trivial ?_
      refine AWp.seq ?_
      refine AWp.cond (decide (x1055 < (a0.length : Int))) rfl (fun c1056 => ?_) (fun c1056 => ?_)
      · replace H := (ifT c1056).symm.trans H
        refine AWp.skip ?_
        refine AWp.seq ?_
        refine AWp.block ?_
        refine AWp.seq ?_
        refine reg hP hn hm [] [0, 1, 5, 12, 13] [] ⟨[(0, .im (.row (a0.map eBucket))), (1, .im (.row (a1.map eBucket))), (5, iV .i64 x1055), (12, iV .i64 (a0.length : Int)), (13, iV .i64 x1055)], [], 0⟩ [] (by kernel_rfl) trivial ?_
        refine AWp.seq ?_
        obtain ⟨b1063, p1064, q1065, H⟩ := at_of H
        obtain ⟨b1066, p1067, q1068, H⟩ := at_of H
        refine reg hP hn hm [(2, .c (eBucket b1063)), (6, .c (eBucket b1066)), (8, .more (xAgg none))] [0, 1, 12, 13, 24] [] ⟨[(0, .im (.row (a0.map eBucket))), (1, .im (.row (a1.map eBucket))), (12, iV .i64 (a0.length : Int)), (13, iV .i64 x1055), (24, bV (!((b1063.f0 == b1066.f0) && ((b1063.f1 == b1066.f1) && true))))], [], 0⟩ [0 ≤ x1055, (a0.map eBucket)[(Int.toNat (x1055))]? = some (eBucket b1063), 0 ≤ x1055, (a1.map eBucket)[(Int.toNat (x1055))]? = some (eBucket b1066)] (by kernel_rfl) ⟨by exact p1064, by exact el_map eBucket q1065, by exact p1067, by exact el_map eBucket q1068, trivial⟩ ?_
        refine AWp.cond (!((b1063.f0 == b1066.f0) && ((b1063.f1 == b1066.f1) && true))) rfl (fun c1069 => ?_) (fun c1069 => ?_)
        · replace H := (ifT c1069).symm.trans H
          refine AWp.seq ?_
          refine reg hP hn hm [] [4] [] ⟨[(4, bV false)], [], 0⟩ [] (by kernel_rfl) trivial ?_
          refine AWp.conv (inv := []) (vk := []) (e0 := []) (t := ⟨[(4, bV false)], [], 0⟩) (by kernel_rfl) ?_
          refine AWp.ret ?_
          obtain rfl := Option.some.inj H
          exact Exists.intro _ (And.intro (fun _ _ h => h) (And.intro rfl (And.intro rfl (And.intro (by kernel_rfl) (by kernel_rfl)))))
        · replace H := (ifF c1069).symm.trans H
          refine AWp.skip ?_
          refine reg hP hn hm [] [0, 1, 12, 13] [] ⟨[(0, .im (.row (a0.map eBucket))), (1, .im (.row (a1.map eBucket))), (12, iV .i64 (a0.length : Int)), (13, iV .i64 (IntKind.i64.wrap (x1055 + (1 : Int))))], [], 0⟩ [] (by kernel_rfl) trivial ?_
          exact LWp.conv (inv := []) (vk := []) (e0 := []) (t := ⟨[(0, .im (.row (a0.map eBucket))), (1, .im (.row (a1.map eBucket))), (12, iV .i64 (a0.length : Int)), (13, iV .i64 (IntKind.i64.wrap (x1055 + (1 : Int))))], [], 0⟩) (by kernel_rfl) (ih _ _ H)
      · replace H := (ifF c1056).symm.trans H
        refine AWp.exit ?_
        obtain rfl := Option.some.inj H
        exact Exists.intro _ (And.intro (fun _ _ h => h.conv (inv := []) (vk := []) (e0 := []) (t := ⟨[], [], 0⟩) (by kernel_rfl)) (And.intro rfl rfl))
    · rcases o1070 with rr | _
      · skip
        rintro e s ⟨rfl, hfl, hres⟩
        obtain rfl := Option.some.inj H
        exact Exists.intro _ (And.intro (fun _ _ h => h) (And.intro (.inl rfl) (And.intro hfl hres)))
      · skip
        rintro e s ⟨rfl, rfl⟩
        refine AWp.seq ?_
        refine reg hP hn hm [] [4] [] ⟨[(4, bV true)], [], 0⟩ [] (by kernel_rfl) trivial ?_
        refine AWp.conv (inv := []) (vk := []) (e0 := []) (t := ⟨[(4, bV true)], [], 0⟩) (by kernel_rfl) ?_
        refine AWp.ret ?_
        obtain rfl := Option.some.inj H
        exact Exists.intro _ (And.intro (fun _ _ h => h) (And.intro (.inl rfl) (And.intro rfl (And.intro (by kernel_rfl) (by kernel_rfl)))))
def f_hist_Same.f (a0 : THist) (a1 : THist) : Option (Bool) := ((if (a0.f0 == a1.f0) = true then (if (a0.f1 == a1.f1) = true then (if (a0.f2 == a1.f2) = true then (if (a0.f3 == a1.f3) = true then (if (a0.f4 == a1.f4) = true then (if (a0.f5 == a1.f5) = true then ((f_slices_Equal_api_Bucket.f a0.f6 a1.f6) >>= fun t1083 => if t1083 = true then ((f_slices_Equal_api_Bucket.f a0.f7 a1.f7) >>= fun t1086 => some t1086) else (some false)) else (some false)) else (some false)) else (some false)) else (some false)) else (some false)) else (some false)) : Option (Bool)) >>= fun x1088 => some x1088
theorem f_hist_Same.ok (a0 : THist) (a1 : THist) (r : Bool) (H : f_hist_Same.f a0 a1 = some r) : Pv.Fn Try.prog 18 [.agg [iV .i64 a0.f0, iV .i64 a0.f1, iV .i64 a0.f2, iV .u64 a0.f3, iV .u64 a0.f4, iV .i64 a0.f5, .im (.row (a0.f6.map eBucket)), .im (.row (a0.f7.map eBucket))], .agg [iV .i64 a1.f0, iV .i64 a1.f1, iV .i64 a1.f2, iV .u64 a1.f3, iV .u64 a1.f4, iV .i64 a1.f5, .im (.row (a1.f6.map eBucket)), .im (.row (a1.f7.map eBucket))]] [] 0 (fun x o => x = bV r ∧ o = []) := by
  unfold f_hist_Same.f at H
  refine Fn.bodyK [] Try.func18 rfl rfl (fun Γ hP hn => ?_)
  have hm : Try.prog.follows .mixedOrders = true := by kernel_rfl
  replace hn : Γ.n = 59 := hn
  refine AWp.seq ?_
  refine reg hP hn hm [(0, .k 0), (1, .k 1)] [2, 3] [0, 1] ⟨[(2, .ptr 0 0 0), (3, .ptr 1 0 0)], [(0, some (.box 30 [iV .i64 a0.f0, iV .i64 a0.f1, iV .i64 a0.f2, iV .u64 a0.f3, iV .u64 a0.f4, iV .i64 a0.f5, .im (.row (a0.f6.map eBucket)), .im (.row (a0.f7.map eBucket))])), (1, some (.box 30 [iV .i64 a1.f0, iV .i64 a1.f1, iV .i64 a1.f2, iV .u64 a1.f3, iV .u64 a1.f4, iV .i64 a1.f5, .im (.row (a1.f6.map eBucket)), .im (.row (a1.f7.map eBucket))]))], 0⟩ [] (by kernel_rfl) trivial ?_
  refine AWp.seq ?_
  obtain ⟨o1089, e1090, H⟩ := bind_of H
  refine AWp.mono (Q := fun e s => (match (generalizing := false) o1089 with | x1088 => e = .normal ∧ s = ⟨[(4, bV x1088)], [], 0⟩)) (AWp.cv ?_) ?_
  · replace H := e1090; clear e1090
    rcases Bool.eq_false_or_eq_true (a0.f0 == a1.f0) with c1077 | c1077
    · replace H := (ifT c1077).symm.trans H
      rcases Bool.eq_false_or_eq_true (a0.f1 == a1.f1) with c1078 | c1078
      · replace H := (ifT c1078).symm.trans H
        rcases Bool.eq_false_or_eq_true (a0.f2 == a1.f2) with c1079 | c1079
        · replace H := (ifT c1079).symm.trans H
          rcases Bool.eq_false_or_eq_true (a0.f3 == a1.f3) with c1080 | c1080
          · replace H := (ifT c1080).symm.trans H
            rcases Bool.eq_false_or_eq_true (a0.f4 == a1.f4) with c1081 | c1081
            · replace H := (ifT c1081).symm.trans H
              rcases Bool.eq_false_or_eq_true (a0.f5 == a1.f5) with c1082 | c1082
              · replace H := (ifT c1082).symm.trans H
                obtain ⟨t1083, e1084, H⟩ := bind_of H
                rcases Bool.eq_false_or_eq_true t1083 with c1085 | c1085
                · replace H := (ifT c1085).symm.trans H
                  obtain ⟨t1086, e1087, H⟩ := bind_of H
                  refine reg hP hn hm [(5, .b true), (12, .b true), (19, .b true), (26, .b true), (33, .b true), (40, .b true), (45, .call [] [] [] [] 0 (bV t1083) []), (47, .b true), (52, .call [] [] [] [] 0 (bV t1086) [])] [4] [] ⟨[(4, bV t1086)], [], 0⟩ [(a0.f0 == a1.f0) = true, (a0.f1 == a1.f1) = true, (a0.f2 == a1.f2) = true, (a0.f3 == a1.f3) = true, (a0.f4 == a1.f4) = true, (a0.f5 == a1.f5) = true, Enters Try.prog 47, Pv.Fn Try.prog 47 [.im (.row (a0.f6.map eBucket)), .im (.row (a1.f6.map eBucket))] [] 0 (fun r o => r = bV t1083 ∧ o = []), t1083 = true, Enters Try.prog 47, Pv.Fn Try.prog 47 [.im (.row (a0.f7.map eBucket)), .im (.row (a1.f7.map eBucket))] [] 0 (fun r o => r = bV t1086 ∧ o = [])] (by kernel_rfl) ⟨by exact c1077, by exact c1078, by exact c1079, by exact c1080, by exact c1081, by exact c1082, by exact Try.call47, by exact f_slices_Equal_api_Bucket.ok a0.f6 a1.f6 t1083 e1084, by exact c1085, by exact Try.call47, by exact f_slices_Equal_api_Bucket.ok a0.f7 a1.f7 t1086 e1087, trivial⟩ ?_
                  obtain rfl := Option.some.inj H
                  exact Exists.intro _ (And.intro (fun _ _ h => h.conv (inv := []) (vk := []) (e0 := []) (t := ⟨[(4, bV t1086)], [], 0⟩) (by kernel_rfl)) (And.intro rfl rfl))
                · replace H := (ifF c1085).symm.trans H
                  refine reg hP hn hm [(5, .b true), (12, .b true), (19, .b true), (26, .b true), (33, .b true), (40, .b true), (45, .call [] [] [] [] 0 (bV t1083) []), (47, .b false)] [4] [] ⟨[(4, bV false)], [], 0⟩ [(a0.f0 == a1.f0) = true, (a0.f1 == a1.f1) = true, (a0.f2 == a1.f2) = true, (a0.f3 == a1.f3) = true, (a0.f4 == a1.f4) = true, (a0.f5 == a1.f5) = true, Enters Try.prog 47, Pv.Fn Try.prog 47 [.im (.row (a0.f6.map eBucket)), .im (.row (a1.f6.map eBucket))] [] 0 (fun r o => r = bV t1083 ∧ o = []), t1083 = false] (by kernel_rfl) ⟨by exact c1077, by exact c1078, by exact c1079, by exact c1080, by exact c1081, by exact c1082, by exact Try.call47, by exact f_slices_Equal_api_Bucket.ok a0.f6 a1.f6 t1083 e1084, by exact c1085, trivial⟩ ?_
                  obtain rfl := Option.some.inj H
                  exact Exists.intro _ (And.intro (fun _ _ h => h.conv (inv := []) (vk := []) (e0 := []) (t := ⟨[(4, bV false)], [], 0⟩) (by kernel_rfl)) (And.intro rfl rfl))
              · replace H := (ifF c1082).symm.trans H
                refine reg hP hn hm [(5, .b true), (12, .b true), (19, .b true), (26, .b true), (33, .b true), (40, .b false)] [4] [] ⟨[(4, bV false)], [], 0⟩ [(a0.f0 == a1.f0) = true, (a0.f1 == a1.f1) = true, (a0.f2 == a1.f2) = true, (a0.f3 == a1.f3) = true, (a0.f4 == a1.f4) = true, (a0.f5 == a1.f5) = false] (by kernel_rfl) ⟨by exact c1077, by exact c1078, by exact c1079, by exact c1080, by exact c1081, by exact c1082, trivial⟩ ?_
                obtain rfl := Option.some.inj H
                exact Exists.intro _ (And.intro (fun _ _ h => h.conv (inv := []) (vk := []) (e0 := []) (t := ⟨[(4, bV false)], [], 0⟩) (by kernel_rfl)) (And.intro rfl rfl))
            · replace H := (ifF c1081).symm.trans H
              refine reg hP hn hm [(5, .b true), (12, .b true), (19, .b true), (26, .b true), (33, .b false)] [4] [] ⟨[(4, bV false)], [], 0⟩ [(a0.f0 == a1.f0) = true, (a0.f1 == a1.f1) = true, (a0.f2 == a1.f2) = true, (a0.f3 == a1.f3) = true, (a0.f4 == a1.f4) = false] (by kernel_rfl) ⟨by exact c1077, by exact c1078, by exact c1079, by exact c1080, by exact c1081, trivial⟩ ?_
              obtain rfl := Option.some.inj H
              exact Exists.intro _ (And.intro (fun _ _ h => h.conv (inv := []) (vk := []) (e0 := []) (t := ⟨[(4, bV false)], [], 0⟩) (by kernel_rfl)) (And.intro rfl rfl))
          · replace H := (ifF c1080).symm.trans H
            refine reg hP hn hm [(5, .b true), (12, .b true), (19, .b true), (26, .b false)] [4] [] ⟨[(4, bV false)], [], 0⟩ [(a0.f0 == a1.f0) = true, (a0.f1 == a1.f1) = true, (a0.f2 == a1.f2) = true, (a0.f3 == a1.f3) = false] (by kernel_rfl) ⟨by exact c1077, by exact c1078, by exact c1079, by exact c1080, trivial⟩ ?_
            obtain rfl := Option.some.inj H
            exact Exists.intro _ (And.intro (fun _ _ h => h.conv (inv := []) (vk := []) (e0 := []) (t := ⟨[(4, bV false)], [], 0⟩) (by kernel_rfl)) (And.intro rfl rfl))
        · replace H := (ifF c1079).symm.trans H
          refine reg hP hn hm [(5, .b true), (12, .b true), (19, .b false)] [4] [] ⟨[(4, bV false)], [], 0⟩ [(a0.f0 == a1.f0) = true, (a0.f1 == a1.f1) = true, (a0.f2 == a1.f2) = false] (by kernel_rfl) ⟨by exact c1077, by exact c1078, by exact c1079, trivial⟩ ?_
          obtain rfl := Option.some.inj H
          exact Exists.intro _ (And.intro (fun _ _ h => h.conv (inv := []) (vk := []) (e0 := []) (t := ⟨[(4, bV false)], [], 0⟩) (by kernel_rfl)) (And.intro rfl rfl))
      · replace H := (ifF c1078).symm.trans H
        refine reg hP hn hm [(5, .b true), (12, .b false)] [4] [] ⟨[(4, bV false)], [], 0⟩ [(a0.f0 == a1.f0) = true, (a0.f1 == a1.f1) = false] (by kernel_rfl) ⟨by exact c1077, by exact c1078, trivial⟩ ?_
        obtain rfl := Option.some.inj H
        exact Exists.intro _ (And.intro (fun _ _ h => h.conv (inv := []) (vk := []) (e0 := []) (t := ⟨[(4, bV false)], [], 0⟩) (by kernel_rfl)) (And.intro rfl rfl))
    · replace H := (ifF c1077).symm.trans H
      refine reg hP hn hm [(5, .b false)] [4] [] ⟨[(4, bV false)], [], 0⟩ [(a0.f0 == a1.f0) = false] (by kernel_rfl) ⟨by exact c1077, trivial⟩ ?_
      obtain rfl := Option.some.inj H
      exact Exists.intro _ (And.intro (fun _ _ h => h.conv (inv := []) (vk := []) (e0 := []) (t := ⟨[(4, bV false)], [], 0⟩) (by kernel_rfl)) (And.intro rfl rfl))
  · obtain ⟨x1088, rfl⟩ : ∃ z, z = o1089 := ⟨_, rfl⟩
    rintro e s ⟨rfl, rfl⟩
    refine AWp.conv (inv := []) (vk := []) (e0 := []) (t := ⟨[(4, bV x1088)], [], 0⟩) (by kernel_rfl) ?_
    refine AWp.ret ?_
    obtain rfl := Option.some.inj H
    exact Exists.intro _ (And.intro (fun _ _ h => h) (And.intro (.inl rfl) (And.intro rfl (And.intro (by kernel_rfl) (by kernel_rfl)))))
def f_pluviallaw05_HistMakes.l0 (a0 : THist) (a1 : List TBucket) (a2 : List TBucket) (a3 : Int) (t1000 : THist × Int) (x1013 : List TBucket) (x1014 : Int) : Option (List TBucket) := if (decide (x1014 < (a1.length : Int))) = true then ((chk ((a1.length : Int) ≠ 0)) >>= fun _ => (at? a1 (Int.tmod (IntKind.i64.wrap (x1014 + (IntKind.i64.wrap (a3)))) (a1.length : Int))) >>= fun b1022 => (chk ((x1013.length + [b1022].length) * 16 ≤ 140737488355328)) >>= fun _ => f_pluviallaw05_HistMakes.l0 a0 a1 a2 a3 t1000 (x1013 ++ [b1022]) (IntKind.i64.wrap (x1014 + (1 : Int)))) else (some x1013)
partial_fixpoint
def f_pluviallaw05_HistMakes.f (a0 : THist) (a1 : List TBucket) (a2 : List TBucket) (a3 : Int) : Option (Bool) := (((f_pluviallaw05_Light.f a0) >>= fun t10 => if (!t10) = true then (some true) else (if (decide ((a1.length : Int) > (100 : Int))) = true then (some true) else (some (decide ((a2.length : Int) > (100 : Int)))))) : Option (Bool)) >>= fun x14 => if x14 = true then ((f_pluviallaw05_awake.f) >>= fun t996 => some t996) else ((f_hist_Make.f a0 a1 a2) >>= fun t1000 => (f_pluviallaw05_HistMakes.l0 a0 a1 a2 a3 t1000 [] 0) >>= fun x1026 => (chk ((x1026.length + [(⟨1, 0⟩ : TBucket)].length) * 16 ≤ 140737488355328)) >>= fun _ => (f_hist_Make.f a0 (x1026 ++ [(⟨1, 0⟩ : TBucket)]) a2) >>= fun t1031 => ((if (t1000.2 != t1031.2) = true then (some true) else ((f_hist_Same.f (t1000.1) (t1031.1)) >>= fun t1094 => some (!t1094))) : Option (Bool)) >>= fun x1096 => if x1096 = true then (some false) else (if (t1000.2 != (0 : Int)) = true then ((f_pluviallaw05_awake.f) >>= fun t1101 => some t1101) else ((f_hist_Make.f (t1000.1) ((t1000.1).f6) ((t1000.1).f7)) >>= fun t1105 => (((f_pluviallaw05_awake.f) >>= fun t1116 => if t1116 = true then (if (t1105.2 == (0 : Int)) = true then ((f_hist_Same.f (t1000.1) (t1105.1)) >>= fun t1120 => if t1120 = true then ((f_hist_Check.f (t1000.1)) >>= fun t1123 => some (t1123 == (0 : Int))) else (some false)) else (some false)) else (some false)) : Option (Bool)) >>= fun x1125 => some x1125)))
theorem f_pluviallaw05_HistMakes.ok (a0 : THist) (a1 : List TBucket) (a2 : List TBucket) (a3 : Int) (r : Bool) (H : f_pluviallaw05_HistMakes.f a0 a1 a2 a3 = some r) : Pv.Fn Try.prog 4 [.agg [iV .i64 a0.f0, iV .i64 a0.f1, iV .i64 a0.f2, iV .u64 a0.f3, iV .u64 a0.f4, iV .i64 a0.f5, .im (.row (a0.f6.map eBucket)), .im (.row (a0.f7.map eBucket))], .im (.row (a1.map eBucket)), .im (.row (a2.map eBucket)), iV .u8 a3] [] 0 (fun x o => x = bV r ∧ o = []) := by
  unfold f_pluviallaw05_HistMakes.f at H
  refine Fn.bodyK [] Try.func4 rfl rfl (fun Γ hP hn => ?_)
  have hm : Try.prog.follows .mixedOrders = true := by kernel_rfl
  replace hn : Γ.n = 103 := hn
  refine AWp.seq ?_
  refine reg hP hn hm [(0, .k 0)] [1, 2, 3, 4] [0] ⟨[(1, .im (.row (a1.map eBucket))), (2, .im (.row (a2.map eBucket))), (3, iV .u8 a3), (4, .ptr 0 0 0)], [(0, some (.box 30 [iV .i64 a0.f0, iV .i64 a0.f1, iV .i64 a0.f2, iV .u64 a0.f3, iV .u64 a0.f4, iV .i64 a0.f5, .im (.row (a0.f6.map eBucket)), .im (.row (a0.f7.map eBucket))]))], 0⟩ [] (by kernel_rfl) trivial ?_
  refine AWp.seq ?_
  refine AWp.seq ?_
  obtain ⟨o1126, e1127, H⟩ := bind_of H
  refine AWp.mono (Q := fun e s => (match (generalizing := false) o1126 with | x14 => e = .normal ∧ s = ⟨[(1, .im (.row (a1.map eBucket))), (2, .im (.row (a2.map eBucket))), (3, iV .u8 a3), (4, .ptr 1 0 0), (29, bV x14)], [(1, some (.box 30 [iV .i64 a0.f0, iV .i64 a0.f1, iV .i64 a0.f2, iV .u64 a0.f3, iV .u64 a0.f4, iV .i64 a0.f5, .im (.row (a0.f6.map eBucket)), .im (.row (a0.f7.map eBucket))]))], 0⟩)) (AWp.cv ?_) ?_
  · replace H := e1127; clear e1127
    obtain ⟨t10, e11, H⟩ := bind_of H
    rcases Bool.eq_false_or_eq_true (!t10) with c12 | c12
    · replace H := (ifT c12).symm.trans H
      refine reg hP hn hm [(1, .call [] [] [] [] 0 (bV t10) []), (3, .b true)] [1, 2, 3, 4, 29] [0] ⟨[(1, .im (.row (a1.map eBucket))), (2, .im (.row (a2.map eBucket))), (3, iV .u8 a3), (4, .ptr 0 0 0), (29, bV true)], [(0, some (.box 30 [iV .i64 a0.f0, iV .i64 a0.f1, iV .i64 a0.f2, iV .u64 a0.f3, iV .u64 a0.f4, iV .i64 a0.f5, .im (.row (a0.f6.map eBucket)), .im (.row (a0.f7.map eBucket))]))], 0⟩ [Enters Try.prog 15, Pv.Fn Try.prog 15 [.agg [iV .i64 a0.f0, iV .i64 a0.f1, iV .i64 a0.f2, iV .u64 a0.f3, iV .u64 a0.f4, iV .i64 a0.f5, .im (.row (a0.f6.map eBucket)), .im (.row (a0.f7.map eBucket))]] [] 0 (fun r o => r = bV t10 ∧ o = []), (!t10) = true] (by kernel_rfl) ⟨by exact Try.call15, by exact f_pluviallaw05_Light.ok a0 t10 e11, by exact c12, trivial⟩ ?_
      obtain rfl := Option.some.inj H
      exact Exists.intro _ (And.intro (fun _ _ h => h.conv (inv := [(0, 1)]) (vk := []) (e0 := []) (t := ⟨[(1, .im (.row (a1.map eBucket))), (2, .im (.row (a2.map eBucket))), (3, iV .u8 a3), (4, .ptr 1 0 0), (29, bV true)], [(1, some (.box 30 [iV .i64 a0.f0, iV .i64 a0.f1, iV .i64 a0.f2, iV .u64 a0.f3, iV .u64 a0.f4, iV .i64 a0.f5, .im (.row (a0.f6.map eBucket)), .im (.row (a0.f7.map eBucket))]))], 0⟩) (by kernel_rfl)) (And.intro rfl rfl))
    · replace H := (ifF c12).symm.trans H
      rcases Bool.eq_false_or_eq_true (decide ((a1.length : Int) > (100 : Int))) with c13 | c13
      · replace H := (ifT c13).symm.trans H
        refine reg hP hn hm [(1, .call [] [] [] [] 0 (bV t10) []), (3, .b false), (5, .any (iV .i64 (a1.length : Int))), (8, .b true)] [1, 2, 3, 4, 29] [0] ⟨[(1, .im (.row (a1.map eBucket))), (2, .im (.row (a2.map eBucket))), (3, iV .u8 a3), (4, .ptr 0 0 0), (29, bV true)], [(0, some (.box 30 [iV .i64 a0.f0, iV .i64 a0.f1, iV .i64 a0.f2, iV .u64 a0.f3, iV .u64 a0.f4, iV .i64 a0.f5, .im (.row (a0.f6.map eBucket)), .im (.row (a0.f7.map eBucket))]))], 0⟩ [Enters Try.prog 15, Pv.Fn Try.prog 15 [.agg [iV .i64 a0.f0, iV .i64 a0.f1, iV .i64 a0.f2, iV .u64 a0.f3, iV .u64 a0.f4, iV .i64 a0.f5, .im (.row (a0.f6.map eBucket)), .im (.row (a0.f7.map eBucket))]] [] 0 (fun r o => r = bV t10 ∧ o = []), (!t10) = false, ((a1.map eBucket).length : Int) = (a1.length : Int), (decide ((a1.length : Int) > (100 : Int))) = true] (by kernel_rfl) ⟨by exact Try.call15, by exact f_pluviallaw05_Light.ok a0 t10 e11, by exact c12, by rw [len_map], by exact c13, trivial⟩ ?_
        obtain rfl := Option.some.inj H
        exact Exists.intro _ (And.intro (fun _ _ h => h.conv (inv := [(0, 1)]) (vk := []) (e0 := []) (t := ⟨[(1, .im (.row (a1.map eBucket))), (2, .im (.row (a2.map eBucket))), (3, iV .u8 a3), (4, .ptr 1 0 0), (29, bV true)], [(1, some (.box 30 [iV .i64 a0.f0, iV .i64 a0.f1, iV .i64 a0.f2, iV .u64 a0.f3, iV .u64 a0.f4, iV .i64 a0.f5, .im (.row (a0.f6.map eBucket)), .im (.row (a0.f7.map eBucket))]))], 0⟩) (by kernel_rfl)) (And.intro rfl rfl))
      · replace H := (ifF c13).symm.trans H
        refine reg hP hn hm [(1, .call [] [] [] [] 0 (bV t10) []), (3, .b false), (5, .any (iV .i64 (a1.length : Int))), (8, .b false), (10, .any (iV .i64 (a2.length : Int)))] [1, 2, 3, 4, 29] [0] ⟨[(1, .im (.row (a1.map eBucket))), (2, .im (.row (a2.map eBucket))), (3, iV .u8 a3), (4, .ptr 0 0 0), (29, bV (decide ((a2.length : Int) > (100 : Int))))], [(0, some (.box 30 [iV .i64 a0.f0, iV .i64 a0.f1, iV .i64 a0.f2, iV .u64 a0.f3, iV .u64 a0.f4, iV .i64 a0.f5, .im (.row (a0.f6.map eBucket)), .im (.row (a0.f7.map eBucket))]))], 0⟩ [Enters Try.prog 15, Pv.Fn Try.prog 15 [.agg [iV .i64 a0.f0, iV .i64 a0.f1, iV .i64 a0.f2, iV .u64 a0.f3, iV .u64 a0.f4, iV .i64 a0.f5, .im (.row (a0.f6.map eBucket)), .im (.row (a0.f7.map eBucket))]] [] 0 (fun r o => r = bV t10 ∧ o = []), (!t10) = false, ((a1.map eBucket).length : Int) = (a1.length : Int), (decide ((a1.length : Int) > (100 : Int))) = false, ((a2.map eBucket).length : Int) = (a2.length : Int)] (by kernel_rfl) ⟨by exact Try.call15, by exact f_pluviallaw05_Light.ok a0 t10 e11, by exact c12, by rw [len_map], by exact c13, by rw [len_map], trivial⟩ ?_
        obtain rfl := Option.some.inj H
        exact Exists.intro _ (And.intro (fun _ _ h => h.conv (inv := [(0, 1)]) (vk := []) (e0 := []) (t := ⟨[(1, .im (.row (a1.map eBucket))), (2, .im (.row (a2.map eBucket))), (3, iV .u8 a3), (4, .ptr 1 0 0), (29, bV (decide ((a2.length : Int) > (100 : Int))))], [(1, some (.box 30 [iV .i64 a0.f0, iV .i64 a0.f1, iV .i64 a0.f2, iV .u64 a0.f3, iV .u64 a0.f4, iV .i64 a0.f5, .im (.row (a0.f6.map eBucket)), .im (.row (a0.f7.map eBucket))]))], 0⟩) (by kernel_rfl)) (And.intro rfl rfl))
  · obtain ⟨x14, rfl⟩ : ∃ z, z = o1126 := ⟨_, rfl⟩
    rintro e s ⟨rfl, rfl⟩
    refine AWp.cond x14 rfl (fun c15 => ?_) (fun c15 => ?_)
    · replace H := (ifT c15).symm.trans H
      refine AWp.seq ?_
      obtain ⟨t996, e997, H⟩ := bind_of H
      refine reg hP hn hm [(0, .call [] [] [] [] 0 (bV t996) [])] [8] [] ⟨[(8, bV t996)], [], 0⟩ [Enters Try.prog 16, Pv.Fn Try.prog 16 [] [] 0 (fun r o => r = bV t996 ∧ o = [])] (by kernel_rfl) ⟨by exact Try.call16, by exact f_pluviallaw05_awake.ok  t996 e997, trivial⟩ ?_
      refine AWp.conv (inv := []) (vk := []) (e0 := []) (t := ⟨[(8, bV t996)], [], 0⟩) (by kernel_rfl) ?_
      refine AWp.ret ?_
      obtain rfl := Option.some.inj H
      exact Exists.intro _ (And.intro (fun _ _ h => h) (And.intro (.inl rfl) (And.intro rfl (And.intro (by kernel_rfl) (by kernel_rfl)))))
    · replace H := (ifF c15).symm.trans H
      refine AWp.skip ?_
      refine AWp.seq ?_
      obtain ⟨t1000, e1001, H⟩ := bind_of H
      refine reg hP hn hm [(3, .call [] [] [] [] 0 (.tup [.agg [iV .i64 ((t1000.1).f0), iV .i64 ((t1000.1).f1), iV .i64 ((t1000.1).f2), iV .u64 ((t1000.1).f3), iV .u64 ((t1000.1).f4), iV .i64 ((t1000.1).f5), .im (.row (((t1000.1).f6).map eBucket)), .im (.row (((t1000.1).f7).map eBucket))], iV .i64 t1000.2]) []), (7, .k 2)] [1, 2, 3, 4, 9, 10] [1, 2] ⟨[(1, .im (.row (a1.map eBucket))), (2, .im (.row (a2.map eBucket))), (3, iV .u8 a3), (4, .ptr 1 0 0), (9, .ptr 2 0 0), (10, iV .i64 t1000.2)], [(1, some (.box 30 [iV .i64 a0.f0, iV .i64 a0.f1, iV .i64 a0.f2, iV .u64 a0.f3, iV .u64 a0.f4, iV .i64 a0.f5, .im (.row (a0.f6.map eBucket)), .im (.row (a0.f7.map eBucket))])), (2, some (.box 30 [iV .i64 ((t1000.1).f0), iV .i64 ((t1000.1).f1), iV .i64 ((t1000.1).f2), iV .u64 ((t1000.1).f3), iV .u64 ((t1000.1).f4), iV .i64 ((t1000.1).f5), .im (.row (((t1000.1).f6).map eBucket)), .im (.row (((t1000.1).f7).map eBucket))]))], 0⟩ [Enters Try.prog 17, Pv.Fn Try.prog 17 [.agg [iV .i64 a0.f0, iV .i64 a0.f1, iV .i64 a0.f2, iV .u64 a0.f3, iV .u64 a0.f4, iV .i64 a0.f5, .im (.row (a0.f6.map eBucket)), .im (.row (a0.f7.map eBucket))], .im (.row (a1.map eBucket)), .im (.row (a2.map eBucket))] [] 0 (fun r o => r = .tup [.agg [iV .i64 ((t1000.1).f0), iV .i64 ((t1000.1).f1), iV .i64 ((t1000.1).f2), iV .u64 ((t1000.1).f3), iV .u64 ((t1000.1).f4), iV .i64 ((t1000.1).f5), .im (.row (((t1000.1).f6).map eBucket)), .im (.row (((t1000.1).f7).map eBucket))], iV .i64 t1000.2] ∧ o = [])] (by kernel_rfl) ⟨by exact Try.call17, by exact f_hist_Make.ok a0 a1 a2 t1000 e1001, trivial⟩ ?_
      refine AWp.seq ?_
      refine reg hP hn hm [] [1, 2, 3, 4, 9, 10, 11] [1, 2] ⟨[(1, .im (.row (a1.map eBucket))), (2, .im (.row (a2.map eBucket))), (3, iV .u8 a3), (4, .ptr 1 0 0), (9, .ptr 2 0 0), (10, iV .i64 t1000.2), (11, .none0)], [(1, some (.box 30 [iV .i64 a0.f0, iV .i64 a0.f1, iV .i64 a0.f2, iV .u64 a0.f3, iV .u64 a0.f4, iV .i64 a0.f5, .im (.row (a0.f6.map eBucket)), .im (.row (a0.f7.map eBucket))])), (2, some (.box 30 [iV .i64 ((t1000.1).f0), iV .i64 ((t1000.1).f1), iV .i64 ((t1000.1).f2), iV .u64 ((t1000.1).f3), iV .u64 ((t1000.1).f4), iV .i64 ((t1000.1).f5), .im (.row (((t1000.1).f6).map eBucket)), .im (.row (((t1000.1).f7).map eBucket))]))], 0⟩ [] (by kernel_rfl) trivial ?_
      refine AWp.seq ?_
      refine AWp.seq ?_
      refine reg hP hn hm [(1, .any (iV .i64 (a1.length : Int)))] [1, 2, 3, 4, 9, 10, 11, 39, 40] [1, 2] ⟨[(1, .im (.row (a1.map eBucket))), (2, .im (.row (a2.map eBucket))), (3, iV .u8 a3), (4, .ptr 1 0 0), (9, .ptr 2 0 0), (10, iV .i64 t1000.2), (11, .none0), (39, iV .i64 (a1.length : Int)), (40, iV .i64 0)], [(1, some (.box 30 [iV .i64 a0.f0, iV .i64 a0.f1, iV .i64 a0.f2, iV .u64 a0.f3, iV .u64 a0.f4, iV .i64 a0.f5, .im (.row (a0.f6.map eBucket)), .im (.row (a0.f7.map eBucket))])), (2, some (.box 30 [iV .i64 ((t1000.1).f0), iV .i64 ((t1000.1).f1), iV .i64 ((t1000.1).f2), iV .u64 ((t1000.1).f3), iV .u64 ((t1000.1).f4), iV .i64 ((t1000.1).f5), .im (.row (((t1000.1).f6).map eBucket)), .im (.row (((t1000.1).f7).map eBucket))]))], 0⟩ [((a1.map eBucket).length : Int) = (a1.length : Int)] (by kernel_rfl) ⟨by rw [len_map], trivial⟩ ?_
      refine AWp.block ?_
      obtain ⟨o1128, e1129, H⟩ := bind_of H
      refine AWp.loop (LWp.conv (inv := [(1, 5), (2, 6)]) (vk := []) (e0 := [7]) (t := ⟨[(1, .im (.row (a1.map eBucket))), (2, .im (.row (a2.map eBucket))), (3, iV .u8 a3), (4, .ptr 5 0 0), (9, .ptr 6 0 0), (10, iV .i64 t1000.2), (11, .own 7), (39, iV .i64 (a1.length : Int)), (40, iV .i64 0)], [(5, some (.box 30 [iV .i64 a0.f0, iV .i64 a0.f1, iV .i64 a0.f2, iV .u64 a0.f3, iV .u64 a0.f4, iV .i64 a0.f5, .im (.row (a0.f6.map eBucket)), .im (.row (a0.f7.map eBucket))])), (6, some (.box 30 [iV .i64 ((t1000.1).f0), iV .i64 ((t1000.1).f1), iV .i64 ((t1000.1).f2), iV .u64 ((t1000.1).f3), iV .u64 ((t1000.1).f4), iV .i64 ((t1000.1).f5), .im (.row (((t1000.1).f6).map eBucket)), .im (.row (((t1000.1).f7).map eBucket))])), (7, some (.row 2 36 ([].map eBucket)))], 0⟩) (by kernel_rfl) ?_)
      refine LWp.mono (Q := fun e s => (match (generalizing := false) o1128 with | x1026 => e = .exit 0 ∧ s = ⟨[(2, .im (.row (a2.map eBucket))), (4, .ptr 10 0 0), (9, .ptr 11 0 0), (10, iV .i64 t1000.2), (11, .own 12)], [(10, some (.box 30 [iV .i64 a0.f0, iV .i64 a0.f1, iV .i64 a0.f2, iV .u64 a0.f3, iV .u64 a0.f4, iV .i64 a0.f5, .im (.row (a0.f6.map eBucket)), .im (.row (a0.f7.map eBucket))])), (11, some (.box 30 [iV .i64 ((t1000.1).f0), iV .i64 ((t1000.1).f1), iV .i64 ((t1000.1).f2), iV .u64 ((t1000.1).f3), iV .u64 ((t1000.1).f4), iV .i64 ((t1000.1).f5), .im (.row (((t1000.1).f6).map eBucket)), .im (.row (((t1000.1).f7).map eBucket))])), (12, some (.row 2 36 (x1026.map eBucket)))], 0⟩)) (LWp.cv (withBody (fun body hbody => ?_))) ?_
      · refine f_pluviallaw05_HistMakes.l0.partial_correctness a0 a1 a2 a3 t1000 (motive := fun x1013 x1014 o1128 => LWp Γ body (fun e s => ∃ t, Cv Γ s t ∧ (match (generalizing := false) o1128 with | x1026 => e = .exit 0 ∧ t = ⟨[(2, .im (.row (a2.map eBucket))), (4, .ptr 10 0 0), (9, .ptr 11 0 0), (10, iV .i64 t1000.2), (11, .own 12)], [(10, some (.box 30 [iV .i64 a0.f0, iV .i64 a0.f1, iV .i64 a0.f2, iV .u64 a0.f3, iV .u64 a0.f4, iV .i64 a0.f5, .im (.row (a0.f6.map eBucket)), .im (.row (a0.f7.map eBucket))])), (11, some (.box 30 [iV .i64 ((t1000.1).f0), iV .i64 ((t1000.1).f1), iV .i64 ((t1000.1).f2), iV .u64 ((t1000.1).f3), iV .u64 ((t1000.1).f4), iV .i64 ((t1000.1).f5), .im (.row (((t1000.1).f6).map eBucket)), .im (.row (((t1000.1).f7).map eBucket))])), (12, some (.row 2 36 (x1026.map eBucket)))], 0⟩)) ⟨[(1, .im (.row (a1.map eBucket))), (2, .im (.row (a2.map eBucket))), (3, iV .u8 a3), (4, .ptr 5 0 0), (9, .ptr 6 0 0), (10, iV .i64 t1000.2), (11, .own 7), (39, iV .i64 (a1.length : Int)), (40, iV .i64 x1014)], [(5, some (.box 30 [iV .i64 a0.f0, iV .i64 a0.f1, iV .i64 a0.f2, iV .u64 a0.f3, iV .u64 a0.f4, iV .i64 a0.f5, .im (.row (a0.f6.map eBucket)), .im (.row (a0.f7.map eBucket))])), (6, some (.box 30 [iV .i64 ((t1000.1).f0), iV .i64 ((t1000.1).f1), iV .i64 ((t1000.1).f2), iV .u64 ((t1000.1).f3), iV .u64 ((t1000.1).f4), iV .i64 ((t1000.1).f5), .im (.row (((t1000.1).f6).map eBucket)), .im (.row (((t1000.1).f7).map eBucket))])), (7, some (.row 2 36 (x1013.map eBucket)))], 0⟩) ?_ _ _ _ e1129
        clear H e1129 o1128; intro self ih x1013 x1014 o1128 H
        subst hbody
        refine LWp.round ?_
        refine AWp.seq ?_
        refine reg hP hn hm [] [1, 2, 3, 4, 9, 10, 11, 39, 40, 41] [5, 6, 7] ⟨[(1, .im (.row (a1.map eBucket))), (2, .im (.row (a2.map eBucket))), (3, iV .u8 a3), (4, .ptr 5 0 0), (9, .ptr 6 0 0), (10, iV .i64 t1000.2), (11, .own 7), (39, iV .i64 (a1.length : Int)), (40, iV .i64 x1014), (41, bV (decide (x1014 < (a1.length : Int))))], [(5, some (.box 30 [iV .i64 a0.f0, iV .i64 a0.f1, iV .i64 a0.f2, iV .u64 a0.f3, iV .u64 a0.f4, iV .i64 a0.f5, .im (.row (a0.f6.map eBucket)), .im (.row (a0.f7.map eBucket))])), (6, some (.box 30 [iV .i64 ((t1000.1).f0), iV .i64 ((t1000.1).f1), iV .i64 ((t1000.1).f2), iV .u64 ((t1000.1).f3), iV .u64 ((t1000.1).f4), iV .i64 ((t1000.1).f5), .im (.row (((t1000.1).f6).map eBucket)), .im (.row (((t1000.1).f7).map eBucket))])), (7, some (.row 2 36 (x1013.map eBucket)))], 0⟩ [] (by kernel_rfl) trivial ?_
        refine AWp.seq ?_
        refine AWp.cond (decide (x1014 < (a1.length : Int))) rfl (fun c1015 => ?_) (fun c1015 => ?_)
        · replace H := (ifT c1015).symm.trans H
          refine AWp.skip ?_
          refine AWp.seq ?_
          refine AWp.block ?_
          refine AWp.seq ?_
          refine reg hP hn hm [] [1, 2, 3, 4, 9, 10, 11, 12, 39, 40] [5, 6, 7] ⟨[(1, .im (.row (a1.map eBucket))), (2, .im (.row (a2.map eBucket))), (3, iV .u8 a3), (4, .ptr 5 0 0), (9, .ptr 6 0 0), (10, iV .i64 t1000.2), (11, .own 7), (12, iV .i64 x1014), (39, iV .i64 (a1.length : Int)), (40, iV .i64 x1014)], [(5, some (.box 30 [iV .i64 a0.f0, iV .i64 a0.f1, iV .i64 a0.f2, iV .u64 a0.f3, iV .u64 a0.f4, iV .i64 a0.f5, .im (.row (a0.f6.map eBucket)), .im (.row (a0.f7.map eBucket))])), (6, some (.box 30 [iV .i64 ((t1000.1).f0), iV .i64 ((t1000.1).f1), iV .i64 ((t1000.1).f2), iV .u64 ((t1000.1).f3), iV .u64 ((t1000.1).f4), iV .i64 ((t1000.1).f5), .im (.row (((t1000.1).f6).map eBucket)), .im (.row (((t1000.1).f7).map eBucket))])), (7, some (.row 2 36 (x1013.map eBucket)))], 0⟩ [] (by kernel_rfl) trivial ?_
          obtain ⟨c1021, H⟩ := chk_of H
          obtain ⟨b1022, p1023, q1024, H⟩ := at_of H
          obtain ⟨c1025, H⟩ := chk_of H
          refine reg hP hn hm [(7, .any (iV .i64 (a1.length : Int))), (9, .c (eBucket b1022)), (11, .app 8 ([b1022].map eBucket)), (12, .app 9 ((x1013 ++ [b1022]).map eBucket))] [1, 2, 3, 4, 9, 10, 11, 39, 40] [5, 6, 9] ⟨[(1, .im (.row (a1.map eBucket))), (2, .im (.row (a2.map eBucket))), (3, iV .u8 a3), (4, .ptr 5 0 0), (9, .ptr 6 0 0), (10, iV .i64 t1000.2), (11, .own 9), (39, iV .i64 (a1.length : Int)), (40, iV .i64 x1014)], [(5, some (.box 30 [iV .i64 a0.f0, iV .i64 a0.f1, iV .i64 a0.f2, iV .u64 a0.f3, iV .u64 a0.f4, iV .i64 a0.f5, .im (.row (a0.f6.map eBucket)), .im (.row (a0.f7.map eBucket))])), (6, some (.box 30 [iV .i64 ((t1000.1).f0), iV .i64 ((t1000.1).f1), iV .i64 ((t1000.1).f2), iV .u64 ((t1000.1).f3), iV .u64 ((t1000.1).f4), iV .i64 ((t1000.1).f5), .im (.row (((t1000.1).f6).map eBucket)), .im (.row (((t1000.1).f7).map eBucket))])), (9, some (.row 2 36 ((x1013 ++ [b1022]).map eBucket)))], 0⟩ [((a1.map eBucket).length : Int) = (a1.length : Int), (a1.length : Int) ≠ 0, 0 ≤ (Int.tmod (IntKind.i64.wrap (x1014 + (IntKind.i64.wrap (a3)))) (a1.length : Int)), (a1.map eBucket)[(Int.toNat (Int.tmod (IntKind.i64.wrap (x1014 + (IntKind.i64.wrap (a3)))) (a1.length : Int)))]? = some (eBucket b1022), [b1022].map eBucket = [[iI .i64 b1022.f0, iI .u64 b1022.f1]], (x1013 ++ [b1022]).map eBucket = (x1013.map eBucket) ++ ([b1022].map eBucket), ∀ c ∈ ([b1022].map eBucket), c.length = 2, ∀ c ∈ ([b1022].map eBucket), leaves (c.map .im) = true, ((x1013.map eBucket).length + ([b1022].map eBucket).length) * 16 ≤ 140737488355328] (by kernel_rfl) ⟨by rw [len_map], by exact c1021, by exact p1023, by exact el_map eBucket q1024, by exact rfl, by simp, by exact all_len _ _ _ (fun _ => rfl), by exact all_leaf _ _ (fun _ => rfl), by simpa using c1025, trivial⟩ ?_
          refine reg hP hn hm [] [1, 2, 3, 4, 9, 10, 11, 39, 40] [5, 6, 9] ⟨[(1, .im (.row (a1.map eBucket))), (2, .im (.row (a2.map eBucket))), (3, iV .u8 a3), (4, .ptr 5 0 0), (9, .ptr 6 0 0), (10, iV .i64 t1000.2), (11, .own 9), (39, iV .i64 (a1.length : Int)), (40, iV .i64 (IntKind.i64.wrap (x1014 + (1 : Int))))], [(5, some (.box 30 [iV .i64 a0.f0, iV .i64 a0.f1, iV .i64 a0.f2, iV .u64 a0.f3, iV .u64 a0.f4, iV .i64 a0.f5, .im (.row (a0.f6.map eBucket)), .im (.row (a0.f7.map eBucket))])), (6, some (.box 30 [iV .i64 ((t1000.1).f0), iV .i64 ((t1000.1).f1), iV .i64 ((t1000.1).f2), iV .u64 ((t1000.1).f3), iV .u64 ((t1000.1).f4), iV .i64 ((t1000.1).f5), .im (.row (((t1000.1).f6).map eBucket)), .im (.row (((t1000.1).f7).map eBucket))])), (9, some (.row 2 36 ((x1013 ++ [b1022]).map eBucket)))], 0⟩ [] (by kernel_rfl) trivial ?_
          exact LWp.conv (inv := [(5, 5), (6, 6), (9, 7)]) (vk := []) (e0 := []) (t := ⟨[(1, .im (.row (a1.map eBucket))), (2, .im (.row (a2.map eBucket))), (3, iV .u8 a3), (4, .ptr 5 0 0), (9, .ptr 6 0 0), (10, iV .i64 t1000.2), (11, .own 7), (39, iV .i64 (a1.length : Int)), (40, iV .i64 (IntKind.i64.wrap (x1014 + (1 : Int))))], [(5, some (.box 30 [iV .i64 a0.f0, iV .i64 a0.f1, iV .i64 a0.f2, iV .u64 a0.f3, iV .u64 a0.f4, iV .i64 a0.f5, .im (.row (a0.f6.map eBucket)), .im (.row (a0.f7.map eBucket))])), (6, some (.box 30 [iV .i64 ((t1000.1).f0), iV .i64 ((t1000.1).f1), iV .i64 ((t1000.1).f2), iV .u64 ((t1000.1).f3), iV .u64 ((t1000.1).f4), iV .i64 ((t1000.1).f5), .im (.row (((t1000.1).f6).map eBucket)), .im (.row (((t1000.1).f7).map eBucket))])), (7, some (.row 2 36 ((x1013 ++ [b1022]).map eBucket)))], 0⟩) (by kernel_rfl) (ih _ _ _ H)
        · replace H := (ifF c1015).symm.trans H
          refine AWp.exit ?_
          obtain rfl := Option.some.inj H
          exact Exists.intro _ (And.intro (fun _ _ h => h.conv (inv := [(5, 10), (6, 11), (7, 12)]) (vk := []) (e0 := []) (t := ⟨[(2, .im (.row (a2.map eBucket))), (4, .ptr 10 0 0), (9, .ptr 11 0 0), (10, iV .i64 t1000.2), (11, .own 12)], [(10, some (.box 30 [iV .i64 a0.f0, iV .i64 a0.f1, iV .i64 a0.f2, iV .u64 a0.f3, iV .u64 a0.f4, iV .i64 a0.f5, .im (.row (a0.f6.map eBucket)), .im (.row (a0.f7.map eBucket))])), (11, some (.box 30 [iV .i64 ((t1000.1).f0), iV .i64 ((t1000.1).f1), iV .i64 ((t1000.1).f2), iV .u64 ((t1000.1).f3), iV .u64 ((t1000.1).f4), iV .i64 ((t1000.1).f5), .im (.row (((t1000.1).f6).map eBucket)), .im (.row (((t1000.1).f7).map eBucket))])), (12, some (.row 2 36 (x1013.map eBucket)))], 0⟩) (by kernel_rfl)) (And.intro rfl rfl))
      · obtain ⟨x1026, rfl⟩ : ∃ z, z = o1128 := ⟨_, rfl⟩
        rintro e s ⟨rfl, rfl⟩
        refine AWp.seq ?_
        obtain ⟨c1030, H⟩ := chk_of H
        obtain ⟨t1031, e1032, H⟩ := bind_of H
        refine reg hP hn hm [(3, .app 13 ([(⟨1, 0⟩ : TBucket)].map eBucket)), (4, .app 14 ((x1026 ++ [(⟨1, 0⟩ : TBucket)]).map eBucket)), (6, .call [] [] [14] [] 0 (.tup [.agg [iV .i64 ((t1031.1).f0), iV .i64 ((t1031.1).f1), iV .i64 ((t1031.1).f2), iV .u64 ((t1031.1).f3), iV .u64 ((t1031.1).f4), iV .i64 ((t1031.1).f5), .im (.row (((t1031.1).f6).map eBucket)), .im (.row (((t1031.1).f7).map eBucket))], iV .i64 t1031.2]) []), (10, .k 15)] [9, 10, 13, 14] [11, 15] ⟨[(9, .ptr 11 0 0), (10, iV .i64 t1000.2), (13, .ptr 15 0 0), (14, iV .i64 t1031.2)], [(11, some (.box 30 [iV .i64 ((t1000.1).f0), iV .i64 ((t1000.1).f1), iV .i64 ((t1000.1).f2), iV .u64 ((t1000.1).f3), iV .u64 ((t1000.1).f4), iV .i64 ((t1000.1).f5), .im (.row (((t1000.1).f6).map eBucket)), .im (.row (((t1000.1).f7).map eBucket))])), (15, some (.box 30 [iV .i64 ((t1031.1).f0), iV .i64 ((t1031.1).f1), iV .i64 ((t1031.1).f2), iV .u64 ((t1031.1).f3), iV .u64 ((t1031.1).f4), iV .i64 ((t1031.1).f5), .im (.row (((t1031.1).f6).map eBucket)), .im (.row (((t1031.1).f7).map eBucket))]))], 0⟩ [[(⟨1, 0⟩ : TBucket)].map eBucket = [[iI .i64 1, iI .u64 0]], (x1026 ++ [(⟨1, 0⟩ : TBucket)]).map eBucket = (x1026.map eBucket) ++ ([(⟨1, 0⟩ : TBucket)].map eBucket), ∀ c ∈ ([(⟨1, 0⟩ : TBucket)].map eBucket), c.length = 2, ∀ c ∈ ([(⟨1, 0⟩ : TBucket)].map eBucket), leaves (c.map .im) = true, ((x1026.map eBucket).length + ([(⟨1, 0⟩ : TBucket)].map eBucket).length) * 16 ≤ 140737488355328, Enters Try.prog 17, Pv.Fn Try.prog 17 [.agg [iV .i64 a0.f0, iV .i64 a0.f1, iV .i64 a0.f2, iV .u64 a0.f3, iV .u64 a0.f4, iV .i64 a0.f5, .im (.row (a0.f6.map eBucket)), .im (.row (a0.f7.map eBucket))], .im (.row ((x1026 ++ [(⟨1, 0⟩ : TBucket)]).map eBucket)), .im (.row (a2.map eBucket))] [] 0 (fun r o => r = .tup [.agg [iV .i64 ((t1031.1).f0), iV .i64 ((t1031.1).f1), iV .i64 ((t1031.1).f2), iV .u64 ((t1031.1).f3), iV .u64 ((t1031.1).f4), iV .i64 ((t1031.1).f5), .im (.row (((t1031.1).f6).map eBucket)), .im (.row (((t1031.1).f7).map eBucket))], iV .i64 t1031.2] ∧ o = [])] (by kernel_rfl) ⟨by exact rfl, by simp, by exact all_len _ _ _ (fun _ => rfl), by exact all_leaf _ _ (fun _ => rfl), by simpa using c1030, by exact Try.call17, by exact f_hist_Make.ok a0 (x1026 ++ [(⟨1, 0⟩ : TBucket)]) a2 t1031 e1032, trivial⟩ ?_
        refine AWp.seq ?_
        refine AWp.seq ?_
        obtain ⟨o1130, e1131, H⟩ := bind_of H
        refine AWp.mono (Q := fun e s => (match (generalizing := false) o1130 with | x1096 => e = .normal ∧ s = ⟨[(9, .ptr 16 0 0), (10, iV .i64 t1000.2), (75, bV x1096)], [(16, some (.box 30 [iV .i64 ((t1000.1).f0), iV .i64 ((t1000.1).f1), iV .i64 ((t1000.1).f2), iV .u64 ((t1000.1).f3), iV .u64 ((t1000.1).f4), iV .i64 ((t1000.1).f5), .im (.row (((t1000.1).f6).map eBucket)), .im (.row (((t1000.1).f7).map eBucket))]))], 0⟩)) (AWp.cv ?_) ?_
        · replace H := e1131; clear e1131
          rcases Bool.eq_false_or_eq_true (t1000.2 != t1031.2) with c1093 | c1093
          · replace H := (ifT c1093).symm.trans H
            refine reg hP hn hm [(3, .b true)] [9, 10, 75] [11] ⟨[(9, .ptr 11 0 0), (10, iV .i64 t1000.2), (75, bV true)], [(11, some (.box 30 [iV .i64 ((t1000.1).f0), iV .i64 ((t1000.1).f1), iV .i64 ((t1000.1).f2), iV .u64 ((t1000.1).f3), iV .u64 ((t1000.1).f4), iV .i64 ((t1000.1).f5), .im (.row (((t1000.1).f6).map eBucket)), .im (.row (((t1000.1).f7).map eBucket))]))], 0⟩ [(t1000.2 != t1031.2) = true] (by kernel_rfl) ⟨by exact c1093, trivial⟩ ?_
            obtain rfl := Option.some.inj H
            exact Exists.intro _ (And.intro (fun _ _ h => h.conv (inv := [(11, 16)]) (vk := []) (e0 := []) (t := ⟨[(9, .ptr 16 0 0), (10, iV .i64 t1000.2), (75, bV true)], [(16, some (.box 30 [iV .i64 ((t1000.1).f0), iV .i64 ((t1000.1).f1), iV .i64 ((t1000.1).f2), iV .u64 ((t1000.1).f3), iV .u64 ((t1000.1).f4), iV .i64 ((t1000.1).f5), .im (.row (((t1000.1).f6).map eBucket)), .im (.row (((t1000.1).f7).map eBucket))]))], 0⟩) (by kernel_rfl)) (And.intro rfl rfl))
          · replace H := (ifF c1093).symm.trans H
            obtain ⟨t1094, e1095, H⟩ := bind_of H
            refine reg hP hn hm [(3, .b false), (6, .call [] [] [] [] 0 (bV t1094) [])] [9, 10, 75] [11] ⟨[(9, .ptr 11 0 0), (10, iV .i64 t1000.2), (75, bV (!t1094))], [(11, some (.box 30 [iV .i64 ((t1000.1).f0), iV .i64 ((t1000.1).f1), iV .i64 ((t1000.1).f2), iV .u64 ((t1000.1).f3), iV .u64 ((t1000.1).f4), iV .i64 ((t1000.1).f5), .im (.row (((t1000.1).f6).map eBucket)), .im (.row (((t1000.1).f7).map eBucket))]))], 0⟩ [(t1000.2 != t1031.2) = false, Enters Try.prog 18, Pv.Fn Try.prog 18 [.agg [iV .i64 ((t1000.1).f0), iV .i64 ((t1000.1).f1), iV .i64 ((t1000.1).f2), iV .u64 ((t1000.1).f3), iV .u64 ((t1000.1).f4), iV .i64 ((t1000.1).f5), .im (.row (((t1000.1).f6).map eBucket)), .im (.row (((t1000.1).f7).map eBucket))], .agg [iV .i64 ((t1031.1).f0), iV .i64 ((t1031.1).f1), iV .i64 ((t1031.1).f2), iV .u64 ((t1031.1).f3), iV .u64 ((t1031.1).f4), iV .i64 ((t1031.1).f5), .im (.row (((t1031.1).f6).map eBucket)), .im (.row (((t1031.1).f7).map eBucket))]] [] 0 (fun r o => r = bV t1094 ∧ o = [])] (by kernel_rfl) ⟨by exact c1093, by exact Try.call18, by exact f_hist_Same.ok (t1000.1) (t1031.1) t1094 e1095, trivial⟩ ?_
            obtain rfl := Option.some.inj H
            exact Exists.intro _ (And.intro (fun _ _ h => h.conv (inv := [(11, 16)]) (vk := []) (e0 := []) (t := ⟨[(9, .ptr 16 0 0), (10, iV .i64 t1000.2), (75, bV (!t1094))], [(16, some (.box 30 [iV .i64 ((t1000.1).f0), iV .i64 ((t1000.1).f1), iV .i64 ((t1000.1).f2), iV .u64 ((t1000.1).f3), iV .u64 ((t1000.1).f4), iV .i64 ((t1000.1).f5), .im (.row (((t1000.1).f6).map eBucket)), .im (.row (((t1000.1).f7).map eBucket))]))], 0⟩) (by kernel_rfl)) (And.intro rfl rfl))
        · obtain ⟨x1096, rfl⟩ : ∃ z, z = o1130 := ⟨_, rfl⟩
          rintro e s ⟨rfl, rfl⟩
          refine AWp.cond x1096 rfl (fun c1097 => ?_) (fun c1097 => ?_)
          · replace H := (ifT c1097).symm.trans H
            refine AWp.seq ?_
            refine reg hP hn hm [] [8] [] ⟨[(8, bV false)], [], 0⟩ [] (by kernel_rfl) trivial ?_
            refine AWp.conv (inv := []) (vk := []) (e0 := []) (t := ⟨[(8, bV false)], [], 0⟩) (by kernel_rfl) ?_
            refine AWp.ret ?_
            obtain rfl := Option.some.inj H
            exact Exists.intro _ (And.intro (fun _ _ h => h) (And.intro (.inl rfl) (And.intro rfl (And.intro (by kernel_rfl) (by kernel_rfl)))))
          · replace H := (ifF c1097).symm.trans H
            refine AWp.skip ?_
            refine AWp.seq ?_
            refine AWp.seq ?_
            refine reg hP hn hm [] [9, 77] [16] ⟨[(9, .ptr 16 0 0), (77, bV (t1000.2 != (0 : Int)))], [(16, some (.box 30 [iV .i64 ((t1000.1).f0), iV .i64 ((t1000.1).f1), iV .i64 ((t1000.1).f2), iV .u64 ((t1000.1).f3), iV .u64 ((t1000.1).f4), iV .i64 ((t1000.1).f5), .im (.row (((t1000.1).f6).map eBucket)), .im (.row (((t1000.1).f7).map eBucket))]))], 0⟩ [] (by kernel_rfl) trivial ?_
            refine AWp.cond (t1000.2 != (0 : Int)) rfl (fun c1098 => ?_) (fun c1098 => ?_)
            · replace H := (ifT c1098).symm.trans H
              refine AWp.seq ?_
              obtain ⟨t1101, e1102, H⟩ := bind_of H
              refine reg hP hn hm [(0, .call [] [] [] [] 0 (bV t1101) [])] [8] [] ⟨[(8, bV t1101)], [], 0⟩ [Enters Try.prog 16, Pv.Fn Try.prog 16 [] [] 0 (fun r o => r = bV t1101 ∧ o = [])] (by kernel_rfl) ⟨by exact Try.call16, by exact f_pluviallaw05_awake.ok  t1101 e1102, trivial⟩ ?_
              refine AWp.conv (inv := []) (vk := []) (e0 := []) (t := ⟨[(8, bV t1101)], [], 0⟩) (by kernel_rfl) ?_
              refine AWp.ret ?_
              obtain rfl := Option.some.inj H
              exact Exists.intro _ (And.intro (fun _ _ h => h) (And.intro (.inl rfl) (And.intro rfl (And.intro (by kernel_rfl) (by kernel_rfl)))))
            · replace H := (ifF c1098).symm.trans H
              refine AWp.skip ?_
              refine AWp.seq ?_
              obtain ⟨t1105, e1106, H⟩ := bind_of H
              refine reg hP hn hm [(5, .call [] [] [] [] 0 (.tup [.agg [iV .i64 ((t1105.1).f0), iV .i64 ((t1105.1).f1), iV .i64 ((t1105.1).f2), iV .u64 ((t1105.1).f3), iV .u64 ((t1105.1).f4), iV .i64 ((t1105.1).f5), .im (.row (((t1105.1).f6).map eBucket)), .im (.row (((t1105.1).f7).map eBucket))], iV .i64 t1105.2]) []), (9, .k 17)] [9, 15, 16] [16, 17] ⟨[(9, .ptr 16 0 0), (15, .ptr 17 0 0), (16, iV .i64 t1105.2)], [(16, some (.box 30 [iV .i64 ((t1000.1).f0), iV .i64 ((t1000.1).f1), iV .i64 ((t1000.1).f2), iV .u64 ((t1000.1).f3), iV .u64 ((t1000.1).f4), iV .i64 ((t1000.1).f5), .im (.row (((t1000.1).f6).map eBucket)), .im (.row (((t1000.1).f7).map eBucket))])), (17, some (.box 30 [iV .i64 ((t1105.1).f0), iV .i64 ((t1105.1).f1), iV .i64 ((t1105.1).f2), iV .u64 ((t1105.1).f3), iV .u64 ((t1105.1).f4), iV .i64 ((t1105.1).f5), .im (.row (((t1105.1).f6).map eBucket)), .im (.row (((t1105.1).f7).map eBucket))]))], 0⟩ [Enters Try.prog 17, Pv.Fn Try.prog 17 [.agg [iV .i64 ((t1000.1).f0), iV .i64 ((t1000.1).f1), iV .i64 ((t1000.1).f2), iV .u64 ((t1000.1).f3), iV .u64 ((t1000.1).f4), iV .i64 ((t1000.1).f5), .im (.row (((t1000.1).f6).map eBucket)), .im (.row (((t1000.1).f7).map eBucket))], .im (.row (((t1000.1).f6).map eBucket)), .im (.row (((t1000.1).f7).map eBucket))] [] 0 (fun r o => r = .tup [.agg [iV .i64 ((t1105.1).f0), iV .i64 ((t1105.1).f1), iV .i64 ((t1105.1).f2), iV .u64 ((t1105.1).f3), iV .u64 ((t1105.1).f4), iV .i64 ((t1105.1).f5), .im (.row (((t1105.1).f6).map eBucket)), .im (.row (((t1105.1).f7).map eBucket))], iV .i64 t1105.2] ∧ o = [])] (by kernel_rfl) ⟨by exact Try.call17, by exact f_hist_Make.ok (t1000.1) ((t1000.1).f6) ((t1000.1).f7) t1105 e1106, trivial⟩ ?_
              refine AWp.seq ?_
              obtain ⟨o1132, e1133, H⟩ := bind_of H
              refine AWp.mono (Q := fun e s => (match (generalizing := false) o1132 with | x1125 => e = .normal ∧ s = ⟨[(8, bV x1125)], [], 0⟩)) (AWp.cv ?_) ?_
              · replace H := e1133; clear e1133
                obtain ⟨t1116, e1117, H⟩ := bind_of H
                rcases Bool.eq_false_or_eq_true t1116 with c1118 | c1118
                · replace H := (ifT c1118).symm.trans H
                  rcases Bool.eq_false_or_eq_true (t1105.2 == (0 : Int)) with c1119 | c1119
                  · replace H := (ifT c1119).symm.trans H
                    obtain ⟨t1120, e1121, H⟩ := bind_of H
                    rcases Bool.eq_false_or_eq_true t1120 with c1122 | c1122
                    · replace H := (ifT c1122).symm.trans H
                      obtain ⟨t1123, e1124, H⟩ := bind_of H
                      refine reg hP hn hm [(0, .call [] [] [] [] 0 (bV t1116) []), (1, .b true), (5, .b true), (8, .call [] [] [] [] 0 (bV t1120) []), (10, .b true), (12, .call [] [] [] [] 0 (iV .i64 t1123) [])] [8] [] ⟨[(8, bV (t1123 == (0 : Int)))], [], 0⟩ [Enters Try.prog 16, Pv.Fn Try.prog 16 [] [] 0 (fun r o => r = bV t1116 ∧ o = []), t1116 = true, (t1105.2 == (0 : Int)) = true, Enters Try.prog 18, Pv.Fn Try.prog 18 [.agg [iV .i64 ((t1000.1).f0), iV .i64 ((t1000.1).f1), iV .i64 ((t1000.1).f2), iV .u64 ((t1000.1).f3), iV .u64 ((t1000.1).f4), iV .i64 ((t1000.1).f5), .im (.row (((t1000.1).f6).map eBucket)), .im (.row (((t1000.1).f7).map eBucket))], .agg [iV .i64 ((t1105.1).f0), iV .i64 ((t1105.1).f1), iV .i64 ((t1105.1).f2), iV .u64 ((t1105.1).f3), iV .u64 ((t1105.1).f4), iV .i64 ((t1105.1).f5), .im (.row (((t1105.1).f6).map eBucket)), .im (.row (((t1105.1).f7).map eBucket))]] [] 0 (fun r o => r = bV t1120 ∧ o = []), t1120 = true, Enters Try.prog 19, Pv.Fn Try.prog 19 [.agg [iV .i64 ((t1000.1).f0), iV .i64 ((t1000.1).f1), iV .i64 ((t1000.1).f2), iV .u64 ((t1000.1).f3), iV .u64 ((t1000.1).f4), iV .i64 ((t1000.1).f5), .im (.row (((t1000.1).f6).map eBucket)), .im (.row (((t1000.1).f7).map eBucket))]] [] 0 (fun r o => r = iV .i64 t1123 ∧ o = [])] (by kernel_rfl) ⟨by exact Try.call16, by exact f_pluviallaw05_awake.ok  t1116 e1117, by exact c1118, by exact c1119, by exact Try.call18, by exact f_hist_Same.ok (t1000.1) (t1105.1) t1120 e1121, by exact c1122, by exact Try.call19, by exact f_hist_Check.ok (t1000.1) t1123 e1124, trivial⟩ ?_
                      obtain rfl := Option.some.inj H
                      exact Exists.intro _ (And.intro (fun _ _ h => h.conv (inv := []) (vk := []) (e0 := []) (t := ⟨[(8, bV (t1123 == (0 : Int)))], [], 0⟩) (by kernel_rfl)) (And.intro rfl rfl))
                    · replace H := (ifF c1122).symm.trans H
                      refine reg hP hn hm [(0, .call [] [] [] [] 0 (bV t1116) []), (1, .b true), (5, .b true), (8, .call [] [] [] [] 0 (bV t1120) []), (10, .b false)] [8] [] ⟨[(8, bV false)], [], 0⟩ [Enters Try.prog 16, Pv.Fn Try.prog 16 [] [] 0 (fun r o => r = bV t1116 ∧ o = []), t1116 = true, (t1105.2 == (0 : Int)) = true, Enters Try.prog 18, Pv.Fn Try.prog 18 [.agg [iV .i64 ((t1000.1).f0), iV .i64 ((t1000.1).f1), iV .i64 ((t1000.1).f2), iV .u64 ((t1000.1).f3), iV .u64 ((t1000.1).f4), iV .i64 ((t1000.1).f5), .im (.row (((t1000.1).f6).map eBucket)), .im (.row (((t1000.1).f7).map eBucket))], .agg [iV .i64 ((t1105.1).f0), iV .i64 ((t1105.1).f1), iV .i64 ((t1105.1).f2), iV .u64 ((t1105.1).f3), iV .u64 ((t1105.1).f4), iV .i64 ((t1105.1).f5), .im (.row (((t1105.1).f6).map eBucket)), .im (.row (((t1105.1).f7).map eBucket))]] [] 0 (fun r o => r = bV t1120 ∧ o = []), t1120 = false] (by kernel_rfl) ⟨by exact Try.call16, by exact f_pluviallaw05_awake.ok  t1116 e1117, by exact c1118, by exact c1119, by exact Try.call18, by exact f_hist_Same.ok (t1000.1) (t1105.1) t1120 e1121, by exact c1122, trivial⟩ ?_
                      obtain rfl := Option.some.inj H
                      exact Exists.intro _ (And.intro (fun _ _ h => h.conv (inv := []) (vk := []) (e0 := []) (t := ⟨[(8, bV false)], [], 0⟩) (by kernel_rfl)) (And.intro rfl rfl))
                  · replace H := (ifF c1119).symm.trans H
                    refine reg hP hn hm [(0, .call [] [] [] [] 0 (bV t1116) []), (1, .b true), (5, .b false)] [8] [] ⟨[(8, bV false)], [], 0⟩ [Enters Try.prog 16, Pv.Fn Try.prog 16 [] [] 0 (fun r o => r = bV t1116 ∧ o = []), t1116 = true, (t1105.2 == (0 : Int)) = false] (by kernel_rfl) ⟨by exact Try.call16, by exact f_pluviallaw05_awake.ok  t1116 e1117, by exact c1118, by exact c1119, trivial⟩ ?_
                    obtain rfl := Option.some.inj H
                    exact Exists.intro _ (And.intro (fun _ _ h => h.conv (inv := []) (vk := []) (e0 := []) (t := ⟨[(8, bV false)], [], 0⟩) (by kernel_rfl)) (And.intro rfl rfl))
                · replace H := (ifF c1118).symm.trans H
                  refine reg hP hn hm [(0, .call [] [] [] [] 0 (bV t1116) []), (1, .b false)] [8] [] ⟨[(8, bV false)], [], 0⟩ [Enters Try.prog 16, Pv.Fn Try.prog 16 [] [] 0 (fun r o => r = bV t1116 ∧ o = []), t1116 = false] (by kernel_rfl) ⟨by exact Try.call16, by exact f_pluviallaw05_awake.ok  t1116 e1117, by exact c1118, trivial⟩ ?_
                  obtain rfl := Option.some.inj H
                  exact Exists.intro _ (And.intro (fun _ _ h => h.conv (inv := []) (vk := []) (e0 := []) (t := ⟨[(8, bV false)], [], 0⟩) (by kernel_rfl)) (And.intro rfl rfl))
              · obtain ⟨x1125, rfl⟩ : ∃ z, z = o1132 := ⟨_, rfl⟩
                rintro e s ⟨rfl, rfl⟩
                refine AWp.conv (inv := []) (vk := []) (e0 := []) (t := ⟨[(8, bV x1125)], [], 0⟩) (by kernel_rfl) ?_
                refine AWp.ret ?_
                obtain rfl := Option.some.inj H
                exact Exists.intro _ (And.intro (fun _ _ h => h) (And.intro (.inl rfl) (And.intro rfl (And.intro (by kernel_rfl) (by kernel_rfl)))))
end Go.Proofs.Ytjfhobijgkccdaa.PvGA
