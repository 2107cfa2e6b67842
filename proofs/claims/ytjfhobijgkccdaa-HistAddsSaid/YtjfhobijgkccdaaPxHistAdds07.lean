import Derived.Test.YtjfhobijgkccdaaProg
import Derived.Test.YtjfhobijgkccdaaPxHistAdds06
set_option linter.unusedVariables false
set_option linter.unnecessarySimpa false
set_option linter.unusedSimpArgs false
set_option maxRecDepth 10000
namespace Go.Proofs.Ytjfhobijgkccdaa.PvGA3
open Go Go.Pv
def f_hist_Check.l0 (a0 : THist) (x944 : Int) : Option (Int ⊕ Unit) := if (decide (x944 < (2 : Int))) = true then ((((chk (0 ≤ x944 ∧ x944 < (2 : Int))) >>= fun _ => if (x944 == (0 : Int)) = true then (some a0.f6) else (some a0.f7)) : Option (List TBucket)) >>= fun x950 => (f_hist_buckets.f a0 x950) >>= fun t953 => if (t953 != (0 : Int)) = true then (some (.inl t953)) else (f_hist_Check.l0 a0 (IntKind.i64.wrap (x944 + (1 : Int))))) else (some (.inr ()))
partial_fixpoint
def f_hist_Check.f (a0 : THist) : Option (Int) := ((if (a0.f0 != (0 : Int)) = true then (some (a0.f0 != (1 : Int))) else (some false)) : Option (Bool)) >>= fun x820 => if x820 = true then (some 25) else ((f_bound_Right.f a0.f1) >>= fun t829 => if (!t829) = true then (some 20) else (((if (a0.f2 != (-524288)) = true then (if (decide (a0.f2 ≤ (-262144))) = true then (some true) else (some (decide (a0.f2 > (262144 : Int))))) else (some false)) : Option (Bool)) >>= fun x836 => if x836 = true then (some 31) else ((f_hist_Check.l0 a0 0) >>= fun oo => match oo with | .inl rr => (some rr) | .inr _ => ((f_hist_total.f [a0.f6, a0.f7, [(⟨0, a0.f3⟩ : TBucket)]]) >>= fun t958 => if (t958.2 != (0 : Int)) = true then (some t958.2) else (if (t958.1 != a0.f4) = true then (some 21) else (some 0))))))
theorem f_hist_Check.ok (a0 : THist) (r : Int) (H : f_hist_Check.f a0 = some r) : Pv.Fn Try.prog 19 [.agg (aHist a0)] [] 0 (fun x o => x = iV .i64 r ∧ o = []) := by
  unfold f_hist_Check.f at H
  refine Fn.bodyK [] Try.func19 rfl rfl (fun Γ hP hn => ?_)
  have hm : Try.prog.follows .mixedOrders = true := by kernel_rfl
  replace hn : Γ.n = 73 := hn
  refine AWp.seq ?_
  refine reg hP hn hm [(0, .k 0)] [1] [0] ⟨[(1, .ptr 0 0 0)], [(0, some (.box 30 (aHist a0)))], 0⟩ [] (by kernel_rfl) trivial ?_
  refine AWp.seq ?_
  refine AWp.block ?_
  refine AWp.seq ?_
  obtain ⟨o962, e963, H⟩ := bind_of H
  refine AWp.mono (Q := fun e s => (match (generalizing := false) o962 with | x820 => e = .normal ∧ s = ⟨[(1, .ptr 1 0 0), (8, bV x820)], [(1, some (.box 30 (aHist a0)))], 0⟩)) (AWp.cv ?_) ?_
  · replace H := e963; clear e963
    rcases Bool.eq_false_or_eq_true (a0.f0 != (0 : Int)) with c819 | c819
    · replace H := (ifT c819).symm.trans H
      refine reg hP hn hm [(3, .b true)] [1, 8] [0] ⟨[(1, .ptr 0 0 0), (8, bV (a0.f0 != (1 : Int)))], [(0, some (.box 30 (aHist a0)))], 0⟩ [(a0.f0 != (0 : Int)) = true] (by kernel_rfl) ⟨by exact c819, trivial⟩ ?_
      obtain rfl := Option.some.inj H
      exact Exists.intro _ (And.intro (fun _ _ h => h.conv (inv := [(0, 1)]) (vk := []) (e0 := []) (t := ⟨[(1, .ptr 1 0 0), (8, bV (a0.f0 != (1 : Int)))], [(1, some (.box 30 (aHist a0)))], 0⟩) (by kernel_rfl)) (And.intro rfl rfl))
    · replace H := (ifF c819).symm.trans H
      refine reg hP hn hm [(3, .b false)] [1, 8] [0] ⟨[(1, .ptr 0 0 0), (8, bV false)], [(0, some (.box 30 (aHist a0)))], 0⟩ [(a0.f0 != (0 : Int)) = false] (by kernel_rfl) ⟨by exact c819, trivial⟩ ?_
      obtain rfl := Option.some.inj H
      exact Exists.intro _ (And.intro (fun _ _ h => h.conv (inv := [(0, 1)]) (vk := []) (e0 := []) (t := ⟨[(1, .ptr 1 0 0), (8, bV false)], [(1, some (.box 30 (aHist a0)))], 0⟩) (by kernel_rfl)) (And.intro rfl rfl))
  · obtain ⟨x820, rfl⟩ : ∃ z, z = o962 := ⟨_, rfl⟩
    rintro e s ⟨rfl, rfl⟩
    refine AWp.cond x820 rfl (fun c821 => ?_) (fun c821 => ?_)
    · replace H := (ifT c821).symm.trans H
      refine AWp.seq ?_
      refine reg hP hn hm [] [2] [] ⟨[(2, iV .i64 25)], [], 0⟩ [] (by kernel_rfl) trivial ?_
      refine AWp.conv (inv := []) (vk := []) (e0 := []) (t := ⟨[(2, iV .i64 25)], [], 0⟩) (by kernel_rfl) ?_
      refine AWp.ret ?_
      obtain rfl := Option.some.inj H
      exact Exists.intro _ (And.intro (fun _ _ h => h) (And.intro (.inl rfl) (And.intro rfl (And.intro (by kernel_rfl) (by kernel_rfl)))))
    · replace H := (ifF c821).symm.trans H
      refine AWp.seq ?_
      obtain ⟨t829, e830, H⟩ := bind_of H
      refine reg hP hn hm [(2, .call [] [] [] [] 0 (bV t829) [])] [1, 17] [1] ⟨[(1, .ptr 1 0 0), (17, bV (!t829))], [(1, some (.box 30 (aHist a0)))], 0⟩ [Enters Try.prog 48, Pv.Fn Try.prog 48 [iV .i64 a0.f1] [] 0 (fun r o => r = bV t829 ∧ o = [])] (by kernel_rfl) ⟨by exact Try.call48, by exact f_bound_Right.ok a0.f1 t829 e830, trivial⟩ ?_
      refine AWp.cond (!t829) rfl (fun c831 => ?_) (fun c831 => ?_)
      · replace H := (ifT c831).symm.trans H
        refine AWp.seq ?_
        refine reg hP hn hm [] [2] [] ⟨[(2, iV .i64 20)], [], 0⟩ [] (by kernel_rfl) trivial ?_
        refine AWp.conv (inv := []) (vk := []) (e0 := []) (t := ⟨[(2, iV .i64 20)], [], 0⟩) (by kernel_rfl) ?_
        refine AWp.ret ?_
        obtain rfl := Option.some.inj H
        exact Exists.intro _ (And.intro (fun _ _ h => h) (And.intro (.inl rfl) (And.intro rfl (And.intro (by kernel_rfl) (by kernel_rfl)))))
      · replace H := (ifF c831).symm.trans H
        refine AWp.seq ?_
        obtain ⟨o964, e965, H⟩ := bind_of H
        refine AWp.mono (Q := fun e s => (match (generalizing := false) o964 with | x836 => e = .normal ∧ s = ⟨[(1, .ptr 2 0 0), (22, bV x836)], [(2, some (.box 30 (aHist a0)))], 0⟩)) (AWp.cv ?_) ?_
        · replace H := e965; clear e965
          rcases Bool.eq_false_or_eq_true (a0.f2 != (-524288)) with c834 | c834
          · replace H := (ifT c834).symm.trans H
            rcases Bool.eq_false_or_eq_true (decide (a0.f2 ≤ (-262144))) with c835 | c835
            · replace H := (ifT c835).symm.trans H
              refine reg hP hn hm [(3, .b true), (7, .b true)] [1, 22] [1] ⟨[(1, .ptr 1 0 0), (22, bV true)], [(1, some (.box 30 (aHist a0)))], 0⟩ [(a0.f2 != (-524288)) = true, (decide (a0.f2 ≤ (-262144))) = true] (by kernel_rfl) ⟨by exact c834, by exact c835, trivial⟩ ?_
              obtain rfl := Option.some.inj H
              exact Exists.intro _ (And.intro (fun _ _ h => h.conv (inv := [(1, 2)]) (vk := []) (e0 := []) (t := ⟨[(1, .ptr 2 0 0), (22, bV true)], [(2, some (.box 30 (aHist a0)))], 0⟩) (by kernel_rfl)) (And.intro rfl rfl))
            · replace H := (ifF c835).symm.trans H
              refine reg hP hn hm [(3, .b true), (7, .b false)] [1, 22] [1] ⟨[(1, .ptr 1 0 0), (22, bV (decide (a0.f2 > (262144 : Int))))], [(1, some (.box 30 (aHist a0)))], 0⟩ [(a0.f2 != (-524288)) = true, (decide (a0.f2 ≤ (-262144))) = false] (by kernel_rfl) ⟨by exact c834, by exact c835, trivial⟩ ?_
              obtain rfl := Option.some.inj H
              exact Exists.intro _ (And.intro (fun _ _ h => h.conv (inv := [(1, 2)]) (vk := []) (e0 := []) (t := ⟨[(1, .ptr 2 0 0), (22, bV (decide (a0.f2 > (262144 : Int))))], [(2, some (.box 30 (aHist a0)))], 0⟩) (by kernel_rfl)) (And.intro rfl rfl))
          · replace H := (ifF c834).symm.trans H
            refine reg hP hn hm [(3, .b false)] [1, 22] [1] ⟨[(1, .ptr 1 0 0), (22, bV false)], [(1, some (.box 30 (aHist a0)))], 0⟩ [(a0.f2 != (-524288)) = false] (by kernel_rfl) ⟨by exact c834, trivial⟩ ?_
            obtain rfl := Option.some.inj H
            exact Exists.intro _ (And.intro (fun _ _ h => h.conv (inv := [(1, 2)]) (vk := []) (e0 := []) (t := ⟨[(1, .ptr 2 0 0), (22, bV false)], [(2, some (.box 30 (aHist a0)))], 0⟩) (by kernel_rfl)) (And.intro rfl rfl))
        · obtain ⟨x836, rfl⟩ : ∃ z, z = o964 := ⟨_, rfl⟩
          rintro e s ⟨rfl, rfl⟩
          refine AWp.cond x836 rfl (fun c837 => ?_) (fun c837 => ?_)
          · replace H := (ifT c837).symm.trans H
            refine AWp.seq ?_
            refine reg hP hn hm [] [2] [] ⟨[(2, iV .i64 31)], [], 0⟩ [] (by kernel_rfl) trivial ?_
            refine AWp.conv (inv := []) (vk := []) (e0 := []) (t := ⟨[(2, iV .i64 31)], [], 0⟩) (by kernel_rfl) ?_
            refine AWp.ret ?_
            obtain rfl := Option.some.inj H
            exact Exists.intro _ (And.intro (fun _ _ h => h) (And.intro (.inl rfl) (And.intro rfl (And.intro (by kernel_rfl) (by kernel_rfl)))))
          · replace H := (ifF c837).symm.trans H
            refine AWp.skip ?_
            refine AWp.seq ?_
            refine AWp.seq ?_
            refine reg hP hn hm [] [1, 40, 41] [2] ⟨[(1, .ptr 2 0 0), (40, .agg [.im (.row (a0.f6.map eBucket)), .im (.row (a0.f7.map eBucket))]), (41, iV .i64 0)], [(2, some (.box 30 (aHist a0)))], 0⟩ [] (by kernel_rfl) trivial ?_
            refine AWp.block ?_
            obtain ⟨o966, e967, H⟩ := bind_of H
            refine AWp.loop (LWp.conv (inv := [(2, 3)]) (vk := []) (e0 := []) (t := ⟨[(1, .ptr 3 0 0), (40, .agg [.im (.row (a0.f6.map eBucket)), .im (.row (a0.f7.map eBucket))]), (41, iV .i64 0)], [(3, some (.box 30 (aHist a0)))], 0⟩) (by kernel_rfl) ?_)
            refine LWp.mono (Q := fun e s => (match (generalizing := false) o966 with | .inl rr => e = .ret ∧ s.floor = 0 ∧ resOf Try.prog Try.f19 s = some (iV .i64 rr) ∧ ([] : List (Nat × Option MObj)) = [] | .inr _ => e = .exit 1 ∧ s = ⟨[(1, .ptr 5 0 0)], [(5, some (.box 30 (aHist a0)))], 0⟩)) (LWp.cv (withBody (fun body hbody => ?_))) ?_
            · refine f_hist_Check.l0.partial_correctness a0 (motive := fun x944 o966 => LWp Γ body (fun e s => ∃ t, Cv Γ s t ∧ (match (generalizing := false) o966 with | .inl rr => e = .ret ∧ t.floor = 0 ∧ resOf Try.prog Try.f19 t = some (iV .i64 rr) ∧ ([] : List (Nat × Option MObj)) = [] | .inr _ => e = .exit 1 ∧ t = ⟨[(1, .ptr 5 0 0)], [(5, some (.box 30 (aHist a0)))], 0⟩)) ⟨[(1, .ptr 3 0 0), (40, .agg [.im (.row (a0.f6.map eBucket)), .im (.row (a0.f7.map eBucket))]), (41, iV .i64 x944)], [(3, some (.box 30 (aHist a0)))], 0⟩) ?_ _ _ e967
              clear H e967 o966; intro self ih x944 o966 H
              subst hbody
              refine LWp.round ?_
              refine AWp.seq ?_
              refine reg hP hn hm [] [1, 40, 41, 42] [3] ⟨[(1, .ptr 3 0 0), (40, .agg [.im (.row (a0.f6.map eBucket)), .im (.row (a0.f7.map eBucket))]), (41, iV .i64 x944), (42, bV (decide (x944 < (2 : Int))))], [(3, some (.box 30 (aHist a0)))], 0⟩ [] (by kernel_rfl) trivial ?_
              refine AWp.seq ?_
              refine AWp.cond (decide (x944 < (2 : Int))) rfl (fun c945 => ?_) (fun c945 => ?_)
              · replace H := (ifT c945).symm.trans H
                refine AWp.skip ?_
                refine AWp.seq ?_
                refine AWp.block ?_
                refine AWp.seq ?_
                obtain ⟨o968, e969, H⟩ := bind_of H
                refine AWp.mono (Q := fun e s => (match (generalizing := false) o968 with | x950 => e = .normal ∧ s = ⟨[(1, .ptr 4 0 0), (4, .im (.row (x950.map eBucket))), (40, .agg [.im (.row (a0.f6.map eBucket)), .im (.row (a0.f7.map eBucket))]), (41, iV .i64 x944)], [(4, some (.box 30 (aHist a0)))], 0⟩)) (AWp.cv ?_) ?_
                · replace H := e969; clear e969
                  obtain ⟨c948, H⟩ := chk_of H
                  rcases Bool.eq_false_or_eq_true (x944 == (0 : Int)) with c949 | c949
                  · replace H := (ifT c949).symm.trans H
                    refine reg hP hn hm [(0, .more (xIdx 0))] [1, 4, 40, 41] [3] ⟨[(1, .ptr 3 0 0), (4, .im (.row (a0.f6.map eBucket))), (40, .agg [.im (.row (a0.f6.map eBucket)), .im (.row (a0.f7.map eBucket))]), (41, iV .i64 x944)], [(3, some (.box 30 (aHist a0)))], 0⟩ [x944 = ((0 : Nat) : Int)] (by kernel_rfl) ⟨by exact (by simpa using c949), trivial⟩ ?_
                    obtain rfl := Option.some.inj H
                    exact Exists.intro _ (And.intro (fun _ _ h => h.conv (inv := [(3, 4)]) (vk := []) (e0 := []) (t := ⟨[(1, .ptr 4 0 0), (4, .im (.row (a0.f6.map eBucket))), (40, .agg [.im (.row (a0.f6.map eBucket)), .im (.row (a0.f7.map eBucket))]), (41, iV .i64 x944)], [(4, some (.box 30 (aHist a0)))], 0⟩) (by kernel_rfl)) (And.intro rfl rfl))
                  · replace H := (ifF c949).symm.trans H
                    refine reg hP hn hm [(0, .more (xIdx 1))] [1, 4, 40, 41] [3] ⟨[(1, .ptr 3 0 0), (4, .im (.row (a0.f7.map eBucket))), (40, .agg [.im (.row (a0.f6.map eBucket)), .im (.row (a0.f7.map eBucket))]), (41, iV .i64 x944)], [(3, some (.box 30 (aHist a0)))], 0⟩ [x944 = ((1 : Nat) : Int)] (by kernel_rfl) ⟨by have := c948; simp only [beq_eq_false_iff_ne] at *; omega, trivial⟩ ?_
                    obtain rfl := Option.some.inj H
                    exact Exists.intro _ (And.intro (fun _ _ h => h.conv (inv := [(3, 4)]) (vk := []) (e0 := []) (t := ⟨[(1, .ptr 4 0 0), (4, .im (.row (a0.f7.map eBucket))), (40, .agg [.im (.row (a0.f6.map eBucket)), .im (.row (a0.f7.map eBucket))]), (41, iV .i64 x944)], [(4, some (.box 30 (aHist a0)))], 0⟩) (by kernel_rfl)) (And.intro rfl rfl))
                · obtain ⟨x950, rfl⟩ : ∃ z, z = o968 := ⟨_, rfl⟩
                  rintro e s ⟨rfl, rfl⟩
                  refine AWp.seq ?_
                  obtain ⟨t953, e954, H⟩ := bind_of H
                  refine reg hP hn hm [(2, .call [] [] [] [] 0 (iV .i64 t953) [])] [1, 5, 40, 41] [4] ⟨[(1, .ptr 4 0 0), (5, iV .i64 t953), (40, .agg [.im (.row (a0.f6.map eBucket)), .im (.row (a0.f7.map eBucket))]), (41, iV .i64 x944)], [(4, some (.box 30 (aHist a0)))], 0⟩ [Enters Try.prog 49, Pv.Fn Try.prog 49 [.agg (aHist a0), .im (.row (x950.map eBucket))] [] 0 (fun r o => r = iV .i64 t953 ∧ o = [])] (by kernel_rfl) ⟨by exact Try.call49, by exact f_hist_buckets.ok a0 x950 t953 e954, trivial⟩ ?_
                  refine AWp.seq ?_
                  refine reg hP hn hm [] [1, 5, 40, 41, 48] [4] ⟨[(1, .ptr 4 0 0), (5, iV .i64 t953), (40, .agg [.im (.row (a0.f6.map eBucket)), .im (.row (a0.f7.map eBucket))]), (41, iV .i64 x944), (48, bV (t953 != (0 : Int)))], [(4, some (.box 30 (aHist a0)))], 0⟩ [] (by kernel_rfl) trivial ?_
                  refine AWp.cond (t953 != (0 : Int)) rfl (fun c955 => ?_) (fun c955 => ?_)
                  · replace H := (ifT c955).symm.trans H
                    refine AWp.seq ?_
                    refine reg hP hn hm [] [2] [] ⟨[(2, iV .i64 t953)], [], 0⟩ [] (by kernel_rfl) trivial ?_
                    refine AWp.conv (inv := []) (vk := []) (e0 := []) (t := ⟨[(2, iV .i64 t953)], [], 0⟩) (by kernel_rfl) ?_
                    refine AWp.ret ?_
                    obtain rfl := Option.some.inj H
                    exact Exists.intro _ (And.intro (fun _ _ h => h) (And.intro rfl (And.intro rfl (And.intro (by kernel_rfl) (by kernel_rfl)))))
                  · replace H := (ifF c955).symm.trans H
                    refine AWp.skip ?_
                    refine reg hP hn hm [] [1, 40, 41] [4] ⟨[(1, .ptr 4 0 0), (40, .agg [.im (.row (a0.f6.map eBucket)), .im (.row (a0.f7.map eBucket))]), (41, iV .i64 (IntKind.i64.wrap (x944 + (1 : Int))))], [(4, some (.box 30 (aHist a0)))], 0⟩ [] (by kernel_rfl) trivial ?_
                    exact LWp.conv (inv := [(4, 3)]) (vk := []) (e0 := []) (t := ⟨[(1, .ptr 3 0 0), (40, .agg [.im (.row (a0.f6.map eBucket)), .im (.row (a0.f7.map eBucket))]), (41, iV .i64 (IntKind.i64.wrap (x944 + (1 : Int))))], [(3, some (.box 30 (aHist a0)))], 0⟩) (by kernel_rfl) (ih _ _ H)
              · replace H := (ifF c945).symm.trans H
                refine AWp.exit ?_
                obtain rfl := Option.some.inj H
                exact Exists.intro _ (And.intro (fun _ _ h => h.conv (inv := [(3, 5)]) (vk := []) (e0 := []) (t := ⟨[(1, .ptr 5 0 0)], [(5, some (.box 30 (aHist a0)))], 0⟩) (by kernel_rfl)) (And.intro rfl rfl))
            · rcases o966 with rr | _
              · skip
                rintro e s ⟨rfl, hfl, hres⟩
                obtain rfl := Option.some.inj H
                exact Exists.intro _ (And.intro (fun _ _ h => h) (And.intro (.inl rfl) (And.intro hfl hres)))
              · skip
                rintro e s ⟨rfl, rfl⟩
                refine AWp.seq ?_
                obtain ⟨t958, e959, H⟩ := bind_of H
                refine reg hP hn hm [(7, .more (xFz (.app 6 ([(⟨0, a0.f3⟩ : TBucket)].map eBucket)))), (8, .app 7 ([a0.f6, a0.f7, [(⟨0, a0.f3⟩ : TBucket)]].map (encRow eBucket))), (9, .call [] [] [7] [] 0 (.tup [iV .u64 t958.1, iV .i64 t958.2]) [])] [1, 6, 7] [5] ⟨[(1, .ptr 5 0 0), (6, iV .u64 t958.1), (7, iV .i64 t958.2)], [(5, some (.box 30 (aHist a0)))], 0⟩ [[(⟨0, a0.f3⟩ : TBucket)].map eBucket = [[iI .i64 0, iI .u64 a0.f3]], [a0.f6, a0.f7, [(⟨0, a0.f3⟩ : TBucket)]].map (encRow eBucket) = [[.row (a0.f6.map eBucket)], [.row (a0.f7.map eBucket)], [.row ([(⟨0, a0.f3⟩ : TBucket)].map eBucket)]], Enters Try.prog 46, Pv.Fn Try.prog 46 [.im (.row ([a0.f6, a0.f7, [(⟨0, a0.f3⟩ : TBucket)]].map (encRow eBucket)))] [] 0 (fun r o => r = .tup [iV .u64 t958.1, iV .i64 t958.2] ∧ o = [])] (by kernel_rfl) ⟨by exact rfl, by exact rfl, by exact Try.call46, by exact f_hist_total.ok [a0.f6, a0.f7, [(⟨0, a0.f3⟩ : TBucket)]] t958 e959, trivial⟩ ?_
                refine AWp.seq ?_
                refine AWp.block ?_
                refine AWp.seq ?_
                refine reg hP hn hm [] [1, 6, 7, 64] [5] ⟨[(1, .ptr 5 0 0), (6, iV .u64 t958.1), (7, iV .i64 t958.2), (64, bV (t958.2 != (0 : Int)))], [(5, some (.box 30 (aHist a0)))], 0⟩ [] (by kernel_rfl) trivial ?_
                refine AWp.cond (t958.2 != (0 : Int)) rfl (fun c960 => ?_) (fun c960 => ?_)
                · replace H := (ifT c960).symm.trans H
                  refine AWp.seq ?_
                  refine reg hP hn hm [] [2] [] ⟨[(2, iV .i64 t958.2)], [], 0⟩ [] (by kernel_rfl) trivial ?_
                  refine AWp.conv (inv := []) (vk := []) (e0 := []) (t := ⟨[(2, iV .i64 t958.2)], [], 0⟩) (by kernel_rfl) ?_
                  refine AWp.ret ?_
                  obtain rfl := Option.some.inj H
                  exact Exists.intro _ (And.intro (fun _ _ h => h) (And.intro (.inl rfl) (And.intro rfl (And.intro (by kernel_rfl) (by kernel_rfl)))))
                · replace H := (ifF c960).symm.trans H
                  refine AWp.seq ?_
                  refine reg hP hn hm [] [68] [] ⟨[(68, bV (t958.1 != a0.f4))], [], 0⟩ [] (by kernel_rfl) trivial ?_
                  refine AWp.cond (t958.1 != a0.f4) rfl (fun c961 => ?_) (fun c961 => ?_)
                  · replace H := (ifT c961).symm.trans H
                    refine AWp.seq ?_
                    refine reg hP hn hm [] [2] [] ⟨[(2, iV .i64 21)], [], 0⟩ [] (by kernel_rfl) trivial ?_
                    refine AWp.conv (inv := []) (vk := []) (e0 := []) (t := ⟨[(2, iV .i64 21)], [], 0⟩) (by kernel_rfl) ?_
                    refine AWp.ret ?_
                    obtain rfl := Option.some.inj H
                    exact Exists.intro _ (And.intro (fun _ _ h => h) (And.intro (.inl rfl) (And.intro rfl (And.intro (by kernel_rfl) (by kernel_rfl)))))
                  · replace H := (ifF c961).symm.trans H
                    refine AWp.skip ?_
                    refine AWp.seq ?_
                    refine reg hP hn hm [] [2] [] ⟨[(2, iV .i64 0)], [], 0⟩ [] (by kernel_rfl) trivial ?_
                    refine AWp.conv (inv := []) (vk := []) (e0 := []) (t := ⟨[(2, iV .i64 0)], [], 0⟩) (by kernel_rfl) ?_
                    refine AWp.ret ?_
                    obtain rfl := Option.some.inj H
                    exact Exists.intro _ (And.intro (fun _ _ h => h) (And.intro (.inl rfl) (And.intro rfl (And.intro (by kernel_rfl) (by kernel_rfl)))))
def f_hist_Make.f (a0 : THist) (a1 : List TBucket) (a2 : List TBucket) : Option (THist × Int) := (f_hist_tidy.f a1) >>= fun t729 => (f_hist_tidy.f a2) >>= fun t733 => if ((if t733.2 > t729.2 then t733.2 else t729.2) != (0 : Int)) = true then (some ((⟨0, 0, 0, 0, 0, 0, [], []⟩ : THist), (if t733.2 > t729.2 then t733.2 else t729.2))) else ((f_hist_total.f [t729.1, t733.1, [(⟨0, a0.f3⟩ : TBucket)]]) >>= fun t815 => if (t815.2 != (0 : Int)) = true then (some ((⟨0, 0, 0, 0, 0, 0, [], []⟩ : THist), t815.2)) else ((f_hist_Check.f (⟨a0.f0, a0.f1, a0.f2, a0.f3, t815.1, a0.f5, t729.1, t733.1⟩ : THist)) >>= fun t972 => if (t972 != (0 : Int)) = true then (some ((⟨0, 0, 0, 0, 0, 0, [], []⟩ : THist), t972)) else (some ((⟨a0.f0, a0.f1, a0.f2, a0.f3, t815.1, a0.f5, t729.1, t733.1⟩ : THist), 0))))
theorem f_hist_Make.ok (a0 : THist) (a1 : List TBucket) (a2 : List TBucket) (r : THist × Int) (H : f_hist_Make.f a0 a1 a2 = some r) : Pv.Fn Try.prog 17 [.agg (aHist a0), .im (.row (a1.map eBucket)), .im (.row (a2.map eBucket))] [] 0 (fun x o => x = .tup [.agg (aHist (r.1)), iV .i64 r.2] ∧ o = []) := by
  unfold f_hist_Make.f at H
  refine Fn.bodyK [] Try.func17 rfl rfl (fun Γ hP hn => ?_)
  have hm : Try.prog.follows .mixedOrders = true := by kernel_rfl
  replace hn : Γ.n = 55 := hn
  refine AWp.seq ?_
  refine reg hP hn hm [(0, .k 0), (1, .k 1)] [1, 2, 3, 6] [0, 1] ⟨[(1, .im (.row (a1.map eBucket))), (2, .im (.row (a2.map eBucket))), (3, .ptr 0 0 0), (6, .ptr 1 0 0)], [(0, some (.box 30 (aHist a0))), (1, some (.box 30 [iV .i64 0, iV .i64 0, iV .i64 0, iV .u64 0, iV .u64 0, iV .i64 0, .none0, .none0]))], 0⟩ [] (by kernel_rfl) trivial ?_
  refine AWp.seq ?_
  refine reg hP hn hm [] [1, 2, 3, 6] [0, 1] ⟨[(1, .im (.row (a1.map eBucket))), (2, .im (.row (a2.map eBucket))), (3, .ptr 0 0 0), (6, .ptr 1 0 0)], [(0, some (.box 30 (aHist a0))), (1, some (.box 30 [iV .i64 0, iV .i64 0, iV .i64 0, iV .u64 0, iV .u64 0, iV .i64 0, .none0, .none0]))], 0⟩ [] (by kernel_rfl) trivial ?_
  refine AWp.seq ?_
  obtain ⟨t729, e730, H⟩ := bind_of H
  refine reg hP hn hm [(1, .call [] [(0, 2)] [] [2] 0 (.tup [.own 0, iV .i64 t729.2]) [(0, some (.row 2 36 (t729.1.map eBucket)))])] [2, 3, 6, 8] [0, 1, 2] ⟨[(2, .im (.row (a2.map eBucket))), (3, .ptr 0 0 0), (6, .ptr 1 0 0), (8, iV .i64 t729.2)], [(0, some (.box 30 [iV .i64 a0.f0, iV .i64 a0.f1, iV .i64 a0.f2, iV .u64 a0.f3, iV .u64 a0.f4, iV .i64 a0.f5, .own 2, .im (.row (a0.f7.map eBucket))])), (1, some (.box 30 [iV .i64 0, iV .i64 0, iV .i64 0, iV .u64 0, iV .u64 0, iV .i64 0, .none0, .none0])), (2, some (.row 2 36 (t729.1.map eBucket)))], 0⟩ [Enters Try.prog 45, Pv.Fn Try.prog 45 [.im (.row (a1.map eBucket))] [] 0 (fun r o => r = .tup [.own 0, iV .i64 t729.2] ∧ o = [(0, some (.row 2 36 (t729.1.map eBucket)))])] (by kernel_rfl) ⟨by exact Try.call45, by exact f_hist_tidy.ok a1 t729 e730, trivial⟩ ?_
  refine AWp.seq ?_
  obtain ⟨t733, e734, H⟩ := bind_of H
  refine reg hP hn hm [(1, .call [] [(0, 3)] [] [3] 0 (.tup [.own 0, iV .i64 t733.2]) [(0, some (.row 2 36 (t733.1.map eBucket)))])] [3, 6, 8, 9] [0, 1, 2, 3] ⟨[(3, .ptr 0 0 0), (6, .ptr 1 0 0), (8, iV .i64 t729.2), (9, iV .i64 t733.2)], [(0, some (.box 30 [iV .i64 a0.f0, iV .i64 a0.f1, iV .i64 a0.f2, iV .u64 a0.f3, iV .u64 a0.f4, iV .i64 a0.f5, .own 2, .own 3])), (1, some (.box 30 [iV .i64 0, iV .i64 0, iV .i64 0, iV .u64 0, iV .u64 0, iV .i64 0, .none0, .none0])), (2, some (.row 2 36 (t729.1.map eBucket))), (3, some (.row 2 36 (t733.1.map eBucket)))], 0⟩ [Enters Try.prog 45, Pv.Fn Try.prog 45 [.im (.row (a2.map eBucket))] [] 0 (fun r o => r = .tup [.own 0, iV .i64 t733.2] ∧ o = [(0, some (.row 2 36 (t733.1.map eBucket)))])] (by kernel_rfl) ⟨by exact Try.call45, by exact f_hist_tidy.ok a2 t733 e734, trivial⟩ ?_
  refine AWp.seq ?_
  refine AWp.seq ?_
  refine reg hP hn hm [(2, .more xMax)] [3, 6, 8] [0, 1, 2, 3] ⟨[(3, .ptr 0 0 0), (6, .ptr 1 0 0), (8, iV .i64 (if t733.2 > t729.2 then t733.2 else t729.2))], [(0, some (.box 30 [iV .i64 a0.f0, iV .i64 a0.f1, iV .i64 a0.f2, iV .u64 a0.f3, iV .u64 a0.f4, iV .i64 a0.f5, .own 2, .own 3])), (1, some (.box 30 [iV .i64 0, iV .i64 0, iV .i64 0, iV .u64 0, iV .u64 0, iV .i64 0, .none0, .none0])), (2, some (.row 2 36 (t729.1.map eBucket))), (3, some (.row 2 36 (t733.1.map eBucket)))], 0⟩ [] (by kernel_rfl) trivial ?_
  refine AWp.seq ?_
  refine reg hP hn hm [] [3, 6, 8, 27] [0, 1, 2, 3] ⟨[(3, .ptr 0 0 0), (6, .ptr 1 0 0), (8, iV .i64 (if t733.2 > t729.2 then t733.2 else t729.2)), (27, bV ((if t733.2 > t729.2 then t733.2 else t729.2) != (0 : Int)))], [(0, some (.box 30 [iV .i64 a0.f0, iV .i64 a0.f1, iV .i64 a0.f2, iV .u64 a0.f3, iV .u64 a0.f4, iV .i64 a0.f5, .own 2, .own 3])), (1, some (.box 30 [iV .i64 0, iV .i64 0, iV .i64 0, iV .u64 0, iV .u64 0, iV .i64 0, .none0, .none0])), (2, some (.row 2 36 (t729.1.map eBucket))), (3, some (.row 2 36 (t733.1.map eBucket)))], 0⟩ [] (by kernel_rfl) trivial ?_
  refine AWp.cond ((if t733.2 > t729.2 then t733.2 else t729.2) != (0 : Int)) rfl (fun c735 => ?_) (fun c735 => ?_)
  · replace H := (ifT c735).symm.trans H
    refine AWp.seq ?_
    refine reg hP hn hm [] [6, 7] [1] ⟨[(6, .ptr 1 0 0), (7, iV .i64 (if t733.2 > t729.2 then t733.2 else t729.2))], [(1, some (.box 30 [iV .i64 0, iV .i64 0, iV .i64 0, iV .u64 0, iV .u64 0, iV .i64 0, .none0, .none0]))], 0⟩ [] (by kernel_rfl) trivial ?_
    refine AWp.conv (inv := [(1, 0)]) (vk := []) (e0 := []) (t := ⟨[(6, .ptr 0 0 0), (7, iV .i64 (if t733.2 > t729.2 then t733.2 else t729.2))], [(0, some (.box 30 (aHist ((⟨0, 0, 0, 0, 0, 0, [], []⟩ : THist)))))], 0⟩) (by kernel_rfl) ?_
    refine AWp.ret ?_
    obtain rfl := Option.some.inj H
    exact Exists.intro _ (And.intro (fun _ _ h => h) (And.intro (.inl rfl) (And.intro rfl (And.intro (by kernel_rfl) (by kernel_rfl)))))
  · replace H := (ifF c735).symm.trans H
    refine AWp.skip ?_
    refine AWp.seq ?_
    refine AWp.seq ?_
    refine AWp.conv (inv := [(0, 0), (1, 1)]) (vk := [2, 3]) (e0 := []) (t := ⟨[(3, .ptr 0 0 0), (6, .ptr 1 0 0), (8, iV .i64 (if t733.2 > t729.2 then t733.2 else t729.2)), (27, bV ((if t733.2 > t729.2 then t733.2 else t729.2) != (0 : Int)))], [(0, some (.box 30 (aHist ⟨a0.f0, a0.f1, a0.f2, a0.f3, a0.f4, a0.f5, t729.1, t733.1⟩))), (1, some (.box 30 [iV .i64 0, iV .i64 0, iV .i64 0, iV .u64 0, iV .u64 0, iV .i64 0, .none0, .none0]))], 0⟩) (by kernel_rfl) ?_
    obtain ⟨t815, e816, H⟩ := bind_of H
    refine reg hP hn hm [(7, .more (xFz (.app 4 ([(⟨0, a0.f3⟩ : TBucket)].map eBucket)))), (8, .app 5 ([t729.1, t733.1, [(⟨0, a0.f3⟩ : TBucket)]].map (encRow eBucket))), (9, .call [] [] [5] [] 0 (.tup [iV .u64 t815.1, iV .i64 t815.2]) [])] [3, 6, 8] [0, 1] ⟨[(3, .ptr 0 0 0), (6, .ptr 1 0 0), (8, iV .i64 t815.2)], [(0, some (.box 30 (aHist ⟨a0.f0, a0.f1, a0.f2, a0.f3, t815.1, a0.f5, t729.1, t733.1⟩))), (1, some (.box 30 [iV .i64 0, iV .i64 0, iV .i64 0, iV .u64 0, iV .u64 0, iV .i64 0, .none0, .none0]))], 0⟩ [[(⟨0, a0.f3⟩ : TBucket)].map eBucket = [[iI .i64 0, iI .u64 a0.f3]], [t729.1, t733.1, [(⟨0, a0.f3⟩ : TBucket)]].map (encRow eBucket) = [[.row (t729.1.map eBucket)], [.row (t733.1.map eBucket)], [.row ([(⟨0, a0.f3⟩ : TBucket)].map eBucket)]], Enters Try.prog 46, Pv.Fn Try.prog 46 [.im (.row ([t729.1, t733.1, [(⟨0, a0.f3⟩ : TBucket)]].map (encRow eBucket)))] [] 0 (fun r o => r = .tup [iV .u64 t815.1, iV .i64 t815.2] ∧ o = [])] (by kernel_rfl) ⟨by exact rfl, by exact rfl, by exact Try.call46, by exact f_hist_total.ok [t729.1, t733.1, [(⟨0, a0.f3⟩ : TBucket)]] t815 e816, trivial⟩ ?_
    refine AWp.seq ?_
    refine reg hP hn hm [] [3, 6, 8, 45] [0, 1] ⟨[(3, .ptr 0 0 0), (6, .ptr 1 0 0), (8, iV .i64 t815.2), (45, bV (t815.2 != (0 : Int)))], [(0, some (.box 30 (aHist ⟨a0.f0, a0.f1, a0.f2, a0.f3, t815.1, a0.f5, t729.1, t733.1⟩))), (1, some (.box 30 [iV .i64 0, iV .i64 0, iV .i64 0, iV .u64 0, iV .u64 0, iV .i64 0, .none0, .none0]))], 0⟩ [] (by kernel_rfl) trivial ?_
    refine AWp.cond (t815.2 != (0 : Int)) rfl (fun c817 => ?_) (fun c817 => ?_)
    · replace H := (ifT c817).symm.trans H
      refine AWp.seq ?_
      refine reg hP hn hm [] [6, 7] [1] ⟨[(6, .ptr 1 0 0), (7, iV .i64 t815.2)], [(1, some (.box 30 [iV .i64 0, iV .i64 0, iV .i64 0, iV .u64 0, iV .u64 0, iV .i64 0, .none0, .none0]))], 0⟩ [] (by kernel_rfl) trivial ?_
      refine AWp.conv (inv := [(1, 0)]) (vk := []) (e0 := []) (t := ⟨[(6, .ptr 0 0 0), (7, iV .i64 t815.2)], [(0, some (.box 30 (aHist ((⟨0, 0, 0, 0, 0, 0, [], []⟩ : THist)))))], 0⟩) (by kernel_rfl) ?_
      refine AWp.ret ?_
      obtain rfl := Option.some.inj H
      exact Exists.intro _ (And.intro (fun _ _ h => h) (And.intro (.inl rfl) (And.intro rfl (And.intro (by kernel_rfl) (by kernel_rfl)))))
    · replace H := (ifF c817).symm.trans H
      refine AWp.skip ?_
      refine AWp.seq ?_
      refine AWp.seq ?_
      obtain ⟨t972, e973, H⟩ := bind_of H
      refine reg hP hn hm [(1, .call [] [] [] [] 0 (iV .i64 t972) [])] [3, 6, 10] [0, 1] ⟨[(3, .ptr 0 0 0), (6, .ptr 1 0 0), (10, iV .i64 t972)], [(0, some (.box 30 (aHist ⟨a0.f0, a0.f1, a0.f2, a0.f3, t815.1, a0.f5, t729.1, t733.1⟩))), (1, some (.box 30 [iV .i64 0, iV .i64 0, iV .i64 0, iV .u64 0, iV .u64 0, iV .i64 0, .none0, .none0]))], 0⟩ [Enters Try.prog 19, Pv.Fn Try.prog 19 [.agg (aHist ⟨a0.f0, a0.f1, a0.f2, a0.f3, t815.1, a0.f5, t729.1, t733.1⟩)] [] 0 (fun r o => r = iV .i64 t972 ∧ o = [])] (by kernel_rfl) ⟨by exact Try.call19, by exact f_hist_Check.ok (⟨a0.f0, a0.f1, a0.f2, a0.f3, t815.1, a0.f5, t729.1, t733.1⟩ : THist) t972 e973, trivial⟩ ?_
      refine AWp.seq ?_
      refine reg hP hn hm [] [3, 6, 10, 51] [0, 1] ⟨[(3, .ptr 0 0 0), (6, .ptr 1 0 0), (10, iV .i64 t972), (51, bV (t972 != (0 : Int)))], [(0, some (.box 30 (aHist ⟨a0.f0, a0.f1, a0.f2, a0.f3, t815.1, a0.f5, t729.1, t733.1⟩))), (1, some (.box 30 [iV .i64 0, iV .i64 0, iV .i64 0, iV .u64 0, iV .u64 0, iV .i64 0, .none0, .none0]))], 0⟩ [] (by kernel_rfl) trivial ?_
      refine AWp.cond (t972 != (0 : Int)) rfl (fun c974 => ?_) (fun c974 => ?_)
      · replace H := (ifT c974).symm.trans H
        refine AWp.seq ?_
        refine reg hP hn hm [] [6, 7] [1] ⟨[(6, .ptr 1 0 0), (7, iV .i64 t972)], [(1, some (.box 30 [iV .i64 0, iV .i64 0, iV .i64 0, iV .u64 0, iV .u64 0, iV .i64 0, .none0, .none0]))], 0⟩ [] (by kernel_rfl) trivial ?_
        refine AWp.conv (inv := [(1, 0)]) (vk := []) (e0 := []) (t := ⟨[(6, .ptr 0 0 0), (7, iV .i64 t972)], [(0, some (.box 30 (aHist ((⟨0, 0, 0, 0, 0, 0, [], []⟩ : THist)))))], 0⟩) (by kernel_rfl) ?_
        refine AWp.ret ?_
        obtain rfl := Option.some.inj H
        exact Exists.intro _ (And.intro (fun _ _ h => h) (And.intro (.inl rfl) (And.intro rfl (And.intro (by kernel_rfl) (by kernel_rfl)))))
      · replace H := (ifF c974).symm.trans H
        refine AWp.skip ?_
        refine AWp.seq ?_
        refine reg hP hn hm [] [6, 7] [1] ⟨[(6, .ptr 1 0 0), (7, iV .i64 0)], [(1, some (.box 30 (aHist ⟨a0.f0, a0.f1, a0.f2, a0.f3, t815.1, a0.f5, t729.1, t733.1⟩)))], 0⟩ [] (by kernel_rfl) trivial ?_
        refine AWp.conv (inv := [(1, 0)]) (vk := []) (e0 := []) (t := ⟨[(6, .ptr 0 0 0), (7, iV .i64 0)], [(0, some (.box 30 (aHist ((⟨a0.f0, a0.f1, a0.f2, a0.f3, t815.1, a0.f5, t729.1, t733.1⟩ : THist)))))], 0⟩) (by kernel_rfl) ?_
        refine AWp.ret ?_
        obtain rfl := Option.some.inj H
        exact Exists.intro _ (And.intro (fun _ _ h => h) (And.intro (.inl rfl) (And.intro rfl (And.intro (by kernel_rfl) (by kernel_rfl)))))
def f_pluviallaw05_awake.f  : Option (Bool) := (f_hist_Empty.f 0 0) >>= fun t977 => (f_hist_Make.f (t977) [(⟨3, 2⟩ : TBucket), (⟨1, 1⟩ : TBucket)] ([] : List TBucket)) >>= fun t979 => ((if (t979.2 == (0 : Int)) = true then (if (((t979.1).f4) == (3 : Int)) = true then (if ((((t979.1).f6).length : Int) == (2 : Int)) = true then ((at? ((t979.1).f6) 0) >>= fun b990 => some ((b990.f0 == (1 : Int)) && ((b990.f1 == (1 : Int)) && true))) else (some false)) else (some false)) else (some false)) : Option (Bool)) >>= fun x993 => some x993
theorem f_pluviallaw05_awake.ok  (r : Bool) (H : f_pluviallaw05_awake.f  = some r) : Pv.Fn Try.prog 16 [] [] 0 (fun x o => x = bV r ∧ o = []) := by
  unfold f_pluviallaw05_awake.f at H
  refine Fn.bodyK [] Try.func16 rfl rfl (fun Γ hP hn => ?_)
  have hm : Try.prog.follows .mixedOrders = true := by kernel_rfl
  replace hn : Γ.n = 32 := hn
  refine AWp.seq ?_
  refine reg hP hn hm [] [] [] ⟨[], [], 0⟩ [] (by kernel_rfl) trivial ?_
  refine AWp.seq ?_
  obtain ⟨t977, e978, H⟩ := bind_of H
  obtain ⟨t979, e980, H⟩ := bind_of H
  refine reg hP hn hm [(0, .call [] [] [] [] 0 (.agg (aHist (t977))) []), (3, .app 0 ([(⟨3, 2⟩ : TBucket), (⟨1, 1⟩ : TBucket)].map eBucket)), (4, .call [] [] [0] [] 0 (.tup [.agg (aHist (t979.1)), iV .i64 t979.2]) []), (8, .k 1)] [1, 2] [1] ⟨[(1, .ptr 1 0 0), (2, iV .i64 t979.2)], [(1, some (.box 30 (aHist (t979.1))))], 0⟩ [Enters Try.prog 33, Pv.Fn Try.prog 33 [iV .i64 0, iV .i64 0] [] 0 (fun r o => r = .agg (aHist (t977)) ∧ o = []), [(⟨3, 2⟩ : TBucket), (⟨1, 1⟩ : TBucket)].map eBucket = [[iI .i64 3, iI .u64 2], [iI .i64 1, iI .u64 1]], Enters Try.prog 17, Pv.Fn Try.prog 17 [.agg (aHist (t977)), .im (.row ([(⟨3, 2⟩ : TBucket), (⟨1, 1⟩ : TBucket)].map eBucket)), .im (.row (([] : List TBucket).map eBucket))] [] 0 (fun r o => r = .tup [.agg (aHist (t979.1)), iV .i64 t979.2] ∧ o = [])] (by kernel_rfl) ⟨by exact Try.call33, by exact f_hist_Empty.ok 0 0 t977 e978, by exact rfl, by exact Try.call17, by exact f_hist_Make.ok (t977) [(⟨3, 2⟩ : TBucket), (⟨1, 1⟩ : TBucket)] ([] : List TBucket) t979 e980, trivial⟩ ?_
  refine AWp.seq ?_
  obtain ⟨o994, e995, H⟩ := bind_of H
  refine AWp.mono (Q := fun e s => (match (generalizing := false) o994 with | x993 => e = .normal ∧ s = ⟨[(0, bV x993)], [], 0⟩)) (AWp.cv ?_) ?_
  · replace H := e995; clear e995
    rcases Bool.eq_false_or_eq_true (t979.2 == (0 : Int)) with c987 | c987
    · replace H := (ifT c987).symm.trans H
      rcases Bool.eq_false_or_eq_true (((t979.1).f4) == (3 : Int)) with c988 | c988
      · replace H := (ifT c988).symm.trans H
        rcases Bool.eq_false_or_eq_true ((((t979.1).f6).length : Int) == (2 : Int)) with c989 | c989
        · replace H := (ifT c989).symm.trans H
          obtain ⟨b990, p991, q992, H⟩ := at_of H
          refine reg hP hn hm [(2, .b true), (7, .b true), (10, .any (iV .i64 (((t979.1).f6).length : Int))), (13, .b true), (16, .c (eBucket b990)), (19, .more (xAgg none))] [0] [] ⟨[(0, bV ((b990.f0 == (1 : Int)) && ((b990.f1 == (1 : Int)) && true)))], [], 0⟩ [(t979.2 == (0 : Int)) = true, (((t979.1).f4) == (3 : Int)) = true, ((((t979.1).f6).map eBucket).length : Int) = (((t979.1).f6).length : Int), ((((t979.1).f6).length : Int) == (2 : Int)) = true, 0 ≤ (0 : Int), (((t979.1).f6).map eBucket)[(Int.toNat (0))]? = some (eBucket b990)] (by kernel_rfl) ⟨by exact c987, by exact c988, by rw [len_map], by exact c989, by exact p991, by exact el_map eBucket q992, trivial⟩ ?_
          obtain rfl := Option.some.inj H
          exact Exists.intro _ (And.intro (fun _ _ h => h.conv (inv := []) (vk := []) (e0 := []) (t := ⟨[(0, bV ((b990.f0 == (1 : Int)) && ((b990.f1 == (1 : Int)) && true)))], [], 0⟩) (by kernel_rfl)) (And.intro rfl rfl))
        · replace H := (ifF c989).symm.trans H
          refine reg hP hn hm [(2, .b true), (7, .b true), (10, .any (iV .i64 (((t979.1).f6).length : Int))), (13, .b false)] [0] [] ⟨[(0, bV false)], [], 0⟩ [(t979.2 == (0 : Int)) = true, (((t979.1).f4) == (3 : Int)) = true, ((((t979.1).f6).map eBucket).length : Int) = (((t979.1).f6).length : Int), ((((t979.1).f6).length : Int) == (2 : Int)) = false] (by kernel_rfl) ⟨by exact c987, by exact c988, by rw [len_map], by exact c989, trivial⟩ ?_
          obtain rfl := Option.some.inj H
          exact Exists.intro _ (And.intro (fun _ _ h => h.conv (inv := []) (vk := []) (e0 := []) (t := ⟨[(0, bV false)], [], 0⟩) (by kernel_rfl)) (And.intro rfl rfl))
      · replace H := (ifF c988).symm.trans H
        refine reg hP hn hm [(2, .b true), (7, .b false)] [0] [] ⟨[(0, bV false)], [], 0⟩ [(t979.2 == (0 : Int)) = true, (((t979.1).f4) == (3 : Int)) = false] (by kernel_rfl) ⟨by exact c987, by exact c988, trivial⟩ ?_
        obtain rfl := Option.some.inj H
        exact Exists.intro _ (And.intro (fun _ _ h => h.conv (inv := []) (vk := []) (e0 := []) (t := ⟨[(0, bV false)], [], 0⟩) (by kernel_rfl)) (And.intro rfl rfl))
    · replace H := (ifF c987).symm.trans H
      refine reg hP hn hm [(2, .b false)] [0] [] ⟨[(0, bV false)], [], 0⟩ [(t979.2 == (0 : Int)) = false] (by kernel_rfl) ⟨by exact c987, trivial⟩ ?_
      obtain rfl := Option.some.inj H
      exact Exists.intro _ (And.intro (fun _ _ h => h.conv (inv := []) (vk := []) (e0 := []) (t := ⟨[(0, bV false)], [], 0⟩) (by kernel_rfl)) (And.intro rfl rfl))
  · obtain ⟨x993, rfl⟩ : ∃ z, z = o994 := ⟨_, rfl⟩
    rintro e s ⟨rfl, rfl⟩
    refine AWp.conv (inv := []) (vk := []) (e0 := []) (t := ⟨[(0, bV x993)], [], 0⟩) (by kernel_rfl) ?_
    refine AWp.ret ?_
    obtain rfl := Option.some.inj H
    exact Exists.intro _ (And.intro (fun _ _ h => h) (And.intro (.inl rfl) (And.intro rfl (And.intro (by kernel_rfl) (by kernel_rfl)))))
def f_hist_Cells.l0 (a0 : THist) (x1400 : List (Tbound_Key × Int)) (x1401 : Int) : Option (List (Tbound_Key × Int)) := if (decide (x1401 < (a0.f6.length : Int))) = true then ((at? a0.f6 x1401) >>= fun b1406 => f_hist_Cells.l0 a0 (mput x1400 (⟨1, a0.f1, b1406.f0⟩ : Tbound_Key) b1406.f1) (IntKind.i64.wrap (x1401 + (1 : Int)))) else (some x1400)
partial_fixpoint
def f_hist_Cells.l1 (a0 : THist) (x1417 : List (Tbound_Key × Int)) (x1418 : Int) : Option (List (Tbound_Key × Int)) := if (decide (x1418 < (a0.f7.length : Int))) = true then ((at? a0.f7 x1418) >>= fun b1423 => f_hist_Cells.l1 a0 (mput x1417 (⟨(-1), a0.f1, b1423.f0⟩ : Tbound_Key) b1423.f1) (IntKind.i64.wrap (x1418 + (1 : Int)))) else (some x1417)
partial_fixpoint
def f_hist_Cells.f (a0 : THist) : Option (List (Tbound_Key × Int)) := ((if (decide (a0.f3 > (0 : Int))) = true then (some (mput ([] : List (Tbound_Key × Int)) (⟨0, 0, 0⟩ : Tbound_Key) a0.f3)) else (some ([] : List (Tbound_Key × Int)))) : Option (List (Tbound_Key × Int))) >>= fun x1392 => (f_hist_Cells.l0 a0 x1392 0) >>= fun x1409 => (f_hist_Cells.l1 a0 x1409 0) >>= fun x1426 => some x1426
theorem f_hist_Cells.ok (a0 : THist) (r : List (Tbound_Key × Int)) (H : f_hist_Cells.f a0 = some r) : Pv.Fn Try.prog 32 [.agg (aHist a0)] [] 0 (fun x o => x = .mown 0 ∧ o = [(0, some (.map (mE (fun x => Value.agg (vkbound_Key x).toArray) (iI .u64) r)))]) := by
  unfold f_hist_Cells.f at H
  refine Fn.bodyK [0] Try.func32 rfl rfl (fun Γ hP hn => ?_)
  have hm : Try.prog.follows .mixedOrders = true := by kernel_rfl
  replace hn : Γ.n = 49 := hn
  refine AWp.seq ?_
  refine reg hP hn hm [(0, .k 0)] [1] [0] ⟨[(1, .ptr 0 0 0)], [(0, some (.box 30 (aHist a0)))], 0⟩ [] (by kernel_rfl) trivial ?_
  refine AWp.seq ?_
  refine reg hP hn hm [(0, .more (xMk 1))] [1, 3] [0, 1] ⟨[(1, .ptr 0 0 0), (3, .mown 1)], [(0, some (.box 30 (aHist a0))), (1, some (.map (mE (fun x => Value.agg (vkbound_Key x).toArray) (iI .u64) ([] : List (Tbound_Key × Int)))))], 0⟩ [] (by kernel_rfl) trivial ?_
  refine AWp.seq ?_
  refine AWp.seq ?_
  refine reg hP hn hm [] [1, 3, 11] [0, 1] ⟨[(1, .ptr 0 0 0), (3, .mown 1), (11, bV (decide (a0.f3 > (0 : Int))))], [(0, some (.box 30 (aHist a0))), (1, some (.map (mE (fun x => Value.agg (vkbound_Key x).toArray) (iI .u64) ([] : List (Tbound_Key × Int)))))], 0⟩ [] (by kernel_rfl) trivial ?_
  obtain ⟨o1427, e1428, H⟩ := bind_of H
  refine AWp.mono (Q := fun e s => (match (generalizing := false) o1427 with | x1392 => e = .normal ∧ s = ⟨[(1, .ptr 2 0 0), (3, .mown 3)], [(2, some (.box 30 (aHist a0))), (3, some (.map (mE (fun x => Value.agg (vkbound_Key x).toArray) (iI .u64) x1392)))], 0⟩)) (AWp.cv ?_) ?_
  · replace H := e1428; clear e1428
    refine AWp.cond (decide (a0.f3 > (0 : Int))) rfl (fun c1391 => ?_) (fun c1391 => ?_)
    · replace H := (ifT c1391).symm.trans H
      refine reg hP hn hm [(4, .more (xPut (fun x => Value.agg (vkbound_Key x).toArray) (iI .u64) ([] : List (Tbound_Key × Int)) (⟨0, 0, 0⟩ : Tbound_Key) a0.f3))] [1, 3] [0, 1] ⟨[(1, .ptr 0 0 0), (3, .mown 1)], [(0, some (.box 30 (aHist a0))), (1, some (.map (mE (fun x => Value.agg (vkbound_Key x).toArray) (iI .u64) (mput ([] : List (Tbound_Key × Int)) (⟨0, 0, 0⟩ : Tbound_Key) a0.f3))))], 0⟩ [KeyOK Try.prog 53 (fun x => Value.agg (vkbound_Key x).toArray), mE (fun x => Value.agg (vkbound_Key x).toArray) (iI .u64) ([] : List (Tbound_Key × Int)) = mE (fun x => Value.agg (vkbound_Key x).toArray) (iI .u64) ([] : List (Tbound_Key × Int)), valA (.agg (abound_Key ⟨0, 0, 0⟩)) = some ((fun x => Value.agg (vkbound_Key x).toArray) (⟨0, 0, 0⟩ : Tbound_Key)), iI .u64 a0.f3 = (iI .u64) a0.f3] (by kernel_rfl) ⟨by exact keyok53, by exact rfl, by exact rfl, by exact rfl, trivial⟩ ?_
      obtain rfl := Option.some.inj H
      exact Exists.intro _ (And.intro (fun _ _ h => h.conv (inv := [(0, 2), (1, 3)]) (vk := []) (e0 := []) (t := ⟨[(1, .ptr 2 0 0), (3, .mown 3)], [(2, some (.box 30 (aHist a0))), (3, some (.map (mE (fun x => Value.agg (vkbound_Key x).toArray) (iI .u64) (mput ([] : List (Tbound_Key × Int)) (⟨0, 0, 0⟩ : Tbound_Key) a0.f3))))], 0⟩) (by kernel_rfl)) (And.intro rfl rfl))
    · replace H := (ifF c1391).symm.trans H
      refine AWp.skip ?_
      obtain rfl := Option.some.inj H
      exact Exists.intro _ (And.intro (fun _ _ h => h.conv (inv := [(0, 2), (1, 3)]) (vk := []) (e0 := []) (t := ⟨[(1, .ptr 2 0 0), (3, .mown 3)], [(2, some (.box 30 (aHist a0))), (3, some (.map (mE (fun x => Value.agg (vkbound_Key x).toArray) (iI .u64) ([] : List (Tbound_Key × Int)))))], 0⟩) (by kernel_rfl)) (And.intro rfl rfl))
  · obtain ⟨x1392, rfl⟩ : ∃ z, z = o1427 := ⟨_, rfl⟩
    rintro e s ⟨rfl, rfl⟩
    refine AWp.seq ?_
    refine AWp.seq ?_
    refine reg hP hn hm [(2, .any (iV .i64 (a0.f6.length : Int)))] [1, 3, 17, 18, 19] [2, 3] ⟨[(1, .ptr 2 0 0), (3, .mown 3), (17, .im (.row (a0.f6.map eBucket))), (18, iV .i64 (a0.f6.length : Int)), (19, iV .i64 0)], [(2, some (.box 30 (aHist a0))), (3, some (.map (mE (fun x => Value.agg (vkbound_Key x).toArray) (iI .u64) x1392)))], 0⟩ [((a0.f6.map eBucket).length : Int) = (a0.f6.length : Int)] (by kernel_rfl) ⟨by rw [len_map], trivial⟩ ?_
    refine AWp.block ?_
    obtain ⟨o1429, e1430, H⟩ := bind_of H
    refine AWp.loop (LWp.conv (inv := [(2, 5), (3, 6)]) (vk := []) (e0 := []) (t := ⟨[(1, .ptr 5 0 0), (3, .mown 6), (17, .im (.row (a0.f6.map eBucket))), (18, iV .i64 (a0.f6.length : Int)), (19, iV .i64 0)], [(5, some (.box 30 (aHist a0))), (6, some (.map (mE (fun x => Value.agg (vkbound_Key x).toArray) (iI .u64) x1392)))], 0⟩) (by kernel_rfl) ?_)
    refine LWp.mono (Q := fun e s => (match (generalizing := false) o1429 with | x1409 => e = .exit 0 ∧ s = ⟨[(1, .ptr 8 0 0), (3, .mown 9)], [(8, some (.box 30 (aHist a0))), (9, some (.map (mE (fun x => Value.agg (vkbound_Key x).toArray) (iI .u64) x1409)))], 0⟩)) (LWp.cv (withBody (fun body hbody => ?_))) ?_
    · refine f_hist_Cells.l0.partial_correctness a0 (motive := fun x1400 x1401 o1429 => LWp Γ body (fun e s => ∃ t, Cv Γ s t ∧ (match (generalizing := false) o1429 with | x1409 => e = .exit 0 ∧ t = ⟨[(1, .ptr 8 0 0), (3, .mown 9)], [(8, some (.box 30 (aHist a0))), (9, some (.map (mE (fun x => Value.agg (vkbound_Key x).toArray) (iI .u64) x1409)))], 0⟩)) ⟨[(1, .ptr 5 0 0), (3, .mown 6), (17, .im (.row (a0.f6.map eBucket))), (18, iV .i64 (a0.f6.length : Int)), (19, iV .i64 x1401)], [(5, some (.box 30 (aHist a0))), (6, some (.map (mE (fun x => Value.agg (vkbound_Key x).toArray) (iI .u64) x1400)))], 0⟩) ?_ _ _ _ e1430
      clear H e1430 o1429; intro self ih x1400 x1401 o1429 H
      subst hbody
      refine LWp.round ?_
      refine AWp.seq ?_
      refine reg hP hn hm [] [1, 3, 17, 18, 19, 20] [5, 6] ⟨[(1, .ptr 5 0 0), (3, .mown 6), (17, .im (.row (a0.f6.map eBucket))), (18, iV .i64 (a0.f6.length : Int)), (19, iV .i64 x1401), (20, bV (decide (x1401 < (a0.f6.length : Int))))], [(5, some (.box 30 (aHist a0))), (6, some (.map (mE (fun x => Value.agg (vkbound_Key x).toArray) (iI .u64) x1400)))], 0⟩ [] (by kernel_rfl) trivial ?_
      refine AWp.seq ?_
      refine AWp.cond (decide (x1401 < (a0.f6.length : Int))) rfl (fun c1402 => ?_) (fun c1402 => ?_)
      · replace H := (ifT c1402).symm.trans H
        refine AWp.skip ?_
        refine AWp.seq ?_
        refine AWp.block ?_
        refine AWp.seq ?_
        obtain ⟨b1406, p1407, q1408, H⟩ := at_of H
        refine reg hP hn hm [(0, .c (eBucket b1406)), (2, .k 7)] [1, 3, 5, 17, 18, 19] [5, 6, 7] ⟨[(1, .ptr 5 0 0), (3, .mown 6), (5, .ptr 7 0 0), (17, .im (.row (a0.f6.map eBucket))), (18, iV .i64 (a0.f6.length : Int)), (19, iV .i64 x1401)], [(5, some (.box 30 (aHist a0))), (6, some (.map (mE (fun x => Value.agg (vkbound_Key x).toArray) (iI .u64) x1400))), (7, some (.box 36 (aBucket b1406)))], 0⟩ [0 ≤ x1401, (a0.f6.map eBucket)[(Int.toNat (x1401))]? = some (eBucket b1406)] (by kernel_rfl) ⟨by exact p1407, by exact el_map eBucket q1408, trivial⟩ ?_
        refine reg hP hn hm [(8, .more (xPut (fun x => Value.agg (vkbound_Key x).toArray) (iI .u64) x1400 (⟨1, a0.f1, b1406.f0⟩ : Tbound_Key) b1406.f1))] [1, 3, 17, 18, 19] [5, 6] ⟨[(1, .ptr 5 0 0), (3, .mown 6), (17, .im (.row (a0.f6.map eBucket))), (18, iV .i64 (a0.f6.length : Int)), (19, iV .i64 x1401)], [(5, some (.box 30 (aHist a0))), (6, some (.map (mE (fun x => Value.agg (vkbound_Key x).toArray) (iI .u64) (mput x1400 (⟨1, a0.f1, b1406.f0⟩ : Tbound_Key) b1406.f1))))], 0⟩ [KeyOK Try.prog 53 (fun x => Value.agg (vkbound_Key x).toArray), mE (fun x => Value.agg (vkbound_Key x).toArray) (iI .u64) x1400 = mE (fun x => Value.agg (vkbound_Key x).toArray) (iI .u64) x1400, valA (.agg (abound_Key ⟨1, a0.f1, b1406.f0⟩)) = some ((fun x => Value.agg (vkbound_Key x).toArray) (⟨1, a0.f1, b1406.f0⟩ : Tbound_Key)), iI .u64 b1406.f1 = (iI .u64) b1406.f1] (by kernel_rfl) ⟨by exact keyok53, by exact rfl, by exact rfl, by exact rfl, trivial⟩ ?_
        refine reg hP hn hm [] [1, 3, 17, 18, 19] [5, 6] ⟨[(1, .ptr 5 0 0), (3, .mown 6), (17, .im (.row (a0.f6.map eBucket))), (18, iV .i64 (a0.f6.length : Int)), (19, iV .i64 (IntKind.i64.wrap (x1401 + (1 : Int))))], [(5, some (.box 30 (aHist a0))), (6, some (.map (mE (fun x => Value.agg (vkbound_Key x).toArray) (iI .u64) (mput x1400 (⟨1, a0.f1, b1406.f0⟩ : Tbound_Key) b1406.f1))))], 0⟩ [] (by kernel_rfl) trivial ?_
        exact LWp.conv (inv := [(5, 5), (6, 6)]) (vk := []) (e0 := []) (t := ⟨[(1, .ptr 5 0 0), (3, .mown 6), (17, .im (.row (a0.f6.map eBucket))), (18, iV .i64 (a0.f6.length : Int)), (19, iV .i64 (IntKind.i64.wrap (x1401 + (1 : Int))))], [(5, some (.box 30 (aHist a0))), (6, some (.map (mE (fun x => Value.agg (vkbound_Key x).toArray) (iI .u64) (mput x1400 (⟨1, a0.f1, b1406.f0⟩ : Tbound_Key) b1406.f1))))], 0⟩) (by kernel_rfl) (ih _ _ _ H)
      · replace H := (ifF c1402).symm.trans H
        refine AWp.exit ?_
        obtain rfl := Option.some.inj H
        exact Exists.intro _ (And.intro (fun _ _ h => h.conv (inv := [(5, 8), (6, 9)]) (vk := []) (e0 := []) (t := ⟨[(1, .ptr 8 0 0), (3, .mown 9)], [(8, some (.box 30 (aHist a0))), (9, some (.map (mE (fun x => Value.agg (vkbound_Key x).toArray) (iI .u64) x1400)))], 0⟩) (by kernel_rfl)) (And.intro rfl rfl))
    · obtain ⟨x1409, rfl⟩ : ∃ z, z = o1429 := ⟨_, rfl⟩
      rintro e s ⟨rfl, rfl⟩
      refine AWp.seq ?_
      refine AWp.seq ?_
      refine reg hP hn hm [(2, .any (iV .i64 (a0.f7.length : Int)))] [1, 3, 33, 34, 35] [8, 9] ⟨[(1, .ptr 8 0 0), (3, .mown 9), (33, .im (.row (a0.f7.map eBucket))), (34, iV .i64 (a0.f7.length : Int)), (35, iV .i64 0)], [(8, some (.box 30 (aHist a0))), (9, some (.map (mE (fun x => Value.agg (vkbound_Key x).toArray) (iI .u64) x1409)))], 0⟩ [((a0.f7.map eBucket).length : Int) = (a0.f7.length : Int)] (by kernel_rfl) ⟨by rw [len_map], trivial⟩ ?_
      refine AWp.block ?_
      obtain ⟨o1431, e1432, H⟩ := bind_of H
      refine AWp.loop (LWp.conv (inv := [(8, 11), (9, 12)]) (vk := []) (e0 := []) (t := ⟨[(1, .ptr 11 0 0), (3, .mown 12), (33, .im (.row (a0.f7.map eBucket))), (34, iV .i64 (a0.f7.length : Int)), (35, iV .i64 0)], [(11, some (.box 30 (aHist a0))), (12, some (.map (mE (fun x => Value.agg (vkbound_Key x).toArray) (iI .u64) x1409)))], 0⟩) (by kernel_rfl) ?_)
      refine LWp.mono (Q := fun e s => (match (generalizing := false) o1431 with | x1426 => e = .exit 2 ∧ s = ⟨[(3, .mown 14)], [(14, some (.map (mE (fun x => Value.agg (vkbound_Key x).toArray) (iI .u64) x1426)))], 0⟩)) (LWp.cv (withBody (fun body hbody => ?_))) ?_
      · refine f_hist_Cells.l1.partial_correctness a0 (motive := fun x1417 x1418 o1431 => LWp Γ body (fun e s => ∃ t, Cv Γ s t ∧ (match (generalizing := false) o1431 with | x1426 => e = .exit 2 ∧ t = ⟨[(3, .mown 14)], [(14, some (.map (mE (fun x => Value.agg (vkbound_Key x).toArray) (iI .u64) x1426)))], 0⟩)) ⟨[(1, .ptr 11 0 0), (3, .mown 12), (33, .im (.row (a0.f7.map eBucket))), (34, iV .i64 (a0.f7.length : Int)), (35, iV .i64 x1418)], [(11, some (.box 30 (aHist a0))), (12, some (.map (mE (fun x => Value.agg (vkbound_Key x).toArray) (iI .u64) x1417)))], 0⟩) ?_ _ _ _ e1432
        clear H e1432 o1431; intro self ih x1417 x1418 o1431 H
        subst hbody
        refine LWp.round ?_
        refine AWp.seq ?_
        refine reg hP hn hm [] [1, 3, 33, 34, 35, 36] [11, 12] ⟨[(1, .ptr 11 0 0), (3, .mown 12), (33, .im (.row (a0.f7.map eBucket))), (34, iV .i64 (a0.f7.length : Int)), (35, iV .i64 x1418), (36, bV (decide (x1418 < (a0.f7.length : Int))))], [(11, some (.box 30 (aHist a0))), (12, some (.map (mE (fun x => Value.agg (vkbound_Key x).toArray) (iI .u64) x1417)))], 0⟩ [] (by kernel_rfl) trivial ?_
        refine AWp.seq ?_
        refine AWp.cond (decide (x1418 < (a0.f7.length : Int))) rfl (fun c1419 => ?_) (fun c1419 => ?_)
        · replace H := (ifT c1419).symm.trans H
          refine AWp.skip ?_
          refine AWp.seq ?_
          refine AWp.block ?_
          refine AWp.seq ?_
          obtain ⟨b1423, p1424, q1425, H⟩ := at_of H
          refine reg hP hn hm [(0, .c (eBucket b1423)), (2, .k 13)] [1, 3, 7, 33, 34, 35] [11, 12, 13] ⟨[(1, .ptr 11 0 0), (3, .mown 12), (7, .ptr 13 0 0), (33, .im (.row (a0.f7.map eBucket))), (34, iV .i64 (a0.f7.length : Int)), (35, iV .i64 x1418)], [(11, some (.box 30 (aHist a0))), (12, some (.map (mE (fun x => Value.agg (vkbound_Key x).toArray) (iI .u64) x1417))), (13, some (.box 36 (aBucket b1423)))], 0⟩ [0 ≤ x1418, (a0.f7.map eBucket)[(Int.toNat (x1418))]? = some (eBucket b1423)] (by kernel_rfl) ⟨by exact p1424, by exact el_map eBucket q1425, trivial⟩ ?_
          refine reg hP hn hm [(8, .more (xPut (fun x => Value.agg (vkbound_Key x).toArray) (iI .u64) x1417 (⟨(-1), a0.f1, b1423.f0⟩ : Tbound_Key) b1423.f1))] [1, 3, 33, 34, 35] [11, 12] ⟨[(1, .ptr 11 0 0), (3, .mown 12), (33, .im (.row (a0.f7.map eBucket))), (34, iV .i64 (a0.f7.length : Int)), (35, iV .i64 x1418)], [(11, some (.box 30 (aHist a0))), (12, some (.map (mE (fun x => Value.agg (vkbound_Key x).toArray) (iI .u64) (mput x1417 (⟨(-1), a0.f1, b1423.f0⟩ : Tbound_Key) b1423.f1))))], 0⟩ [KeyOK Try.prog 53 (fun x => Value.agg (vkbound_Key x).toArray), mE (fun x => Value.agg (vkbound_Key x).toArray) (iI .u64) x1417 = mE (fun x => Value.agg (vkbound_Key x).toArray) (iI .u64) x1417, valA (.agg (abound_Key ⟨(-1), a0.f1, b1423.f0⟩)) = some ((fun x => Value.agg (vkbound_Key x).toArray) (⟨(-1), a0.f1, b1423.f0⟩ : Tbound_Key)), iI .u64 b1423.f1 = (iI .u64) b1423.f1] (by kernel_rfl) ⟨by exact keyok53, by exact rfl, by exact rfl, by exact rfl, trivial⟩ ?_
          refine reg hP hn hm [] [1, 3, 33, 34, 35] [11, 12] ⟨[(1, .ptr 11 0 0), (3, .mown 12), (33, .im (.row (a0.f7.map eBucket))), (34, iV .i64 (a0.f7.length : Int)), (35, iV .i64 (IntKind.i64.wrap (x1418 + (1 : Int))))], [(11, some (.box 30 (aHist a0))), (12, some (.map (mE (fun x => Value.agg (vkbound_Key x).toArray) (iI .u64) (mput x1417 (⟨(-1), a0.f1, b1423.f0⟩ : Tbound_Key) b1423.f1))))], 0⟩ [] (by kernel_rfl) trivial ?_
          exact LWp.conv (inv := [(11, 11), (12, 12)]) (vk := []) (e0 := []) (t := ⟨[(1, .ptr 11 0 0), (3, .mown 12), (33, .im (.row (a0.f7.map eBucket))), (34, iV .i64 (a0.f7.length : Int)), (35, iV .i64 (IntKind.i64.wrap (x1418 + (1 : Int))))], [(11, some (.box 30 (aHist a0))), (12, some (.map (mE (fun x => Value.agg (vkbound_Key x).toArray) (iI .u64) (mput x1417 (⟨(-1), a0.f1, b1423.f0⟩ : Tbound_Key) b1423.f1))))], 0⟩) (by kernel_rfl) (ih _ _ _ H)
        · replace H := (ifF c1419).symm.trans H
          refine AWp.exit ?_
          obtain rfl := Option.some.inj H
          exact Exists.intro _ (And.intro (fun _ _ h => h.conv (inv := [(12, 14)]) (vk := []) (e0 := []) (t := ⟨[(3, .mown 14)], [(14, some (.map (mE (fun x => Value.agg (vkbound_Key x).toArray) (iI .u64) x1417)))], 0⟩) (by kernel_rfl)) (And.intro rfl rfl))
      · obtain ⟨x1426, rfl⟩ : ∃ z, z = o1431 := ⟨_, rfl⟩
        rintro e s ⟨rfl, rfl⟩
        refine AWp.seq ?_
        refine reg hP hn hm [] [2] [14] ⟨[(2, .mown 14)], [(14, some (.map (mE (fun x => Value.agg (vkbound_Key x).toArray) (iI .u64) x1426)))], 0⟩ [] (by kernel_rfl) trivial ?_
        refine AWp.conv (inv := [(14, 0)]) (vk := []) (e0 := []) (t := ⟨[(2, .mown 0)], [(0, some (.map (mE (fun x => Value.agg (vkbound_Key x).toArray) (iI .u64) x1426)))], 0⟩) (by kernel_rfl) ?_
        refine AWp.ret ?_
        obtain rfl := Option.some.inj H
        exact Exists.intro _ (And.intro (fun _ _ h => h) (And.intro (.inl rfl) (And.intro rfl (And.intro (by kernel_rfl) (by kernel_rfl)))))
def f_hist_At_1.f (a0 : TBucket) (a1 : Int) : Option (Int) := (f_cmp_Compare_int.f a0.f0 a1) >>= fun t1558 => some t1558
theorem f_hist_At_1.ok (a0 : TBucket) (a1 : Int) (r : Int) (H : f_hist_At_1.f a0 a1 = some r) : Pv.Fn Try.prog 61 [.agg (aBucket a0), iV .i64 a1] [] 0 (fun x o => x = iV .i64 r ∧ o = []) := by
  unfold f_hist_At_1.f at H
  refine Fn.bodyK [] Try.func61 rfl rfl (fun Γ hP hn => ?_)
  have hm : Try.prog.follows .mixedOrders = true := by kernel_rfl
  replace hn : Γ.n = 9 := hn
  refine AWp.seq ?_
  refine reg hP hn hm [(0, .k 0)] [1, 2] [0] ⟨[(1, iV .i64 a1), (2, .ptr 0 0 0)], [(0, some (.box 36 (aBucket a0)))], 0⟩ [] (by kernel_rfl) trivial ?_
  refine AWp.seq ?_
  obtain ⟨t1558, e1559, H⟩ := bind_of H
  refine reg hP hn hm [(3, .call [] [] [] [] 0 (iV .i64 t1558) [])] [4] [] ⟨[(4, iV .i64 t1558)], [], 0⟩ [Enters Try.prog 62, Pv.Fn Try.prog 62 [iV .i64 a0.f0, iV .i64 a1] [] 0 (fun r o => r = iV .i64 t1558 ∧ o = [])] (by kernel_rfl) ⟨by exact Try.call62, by exact f_cmp_Compare_int.ok a0.f0 a1 t1558 e1559, trivial⟩ ?_
  refine AWp.conv (inv := []) (vk := []) (e0 := []) (t := ⟨[(4, iV .i64 t1558)], [], 0⟩) (by kernel_rfl) ?_
  refine AWp.ret ?_
  obtain rfl := Option.some.inj H
  exact Exists.intro _ (And.intro (fun _ _ h => h) (And.intro (.inl rfl) (And.intro rfl (And.intro (by kernel_rfl) (by kernel_rfl)))))
def f_slices_BinarySearchFunc_api_Bucket_hist_At_1.l0 (a0 : List TBucket) (a1 : Int) (x1570 : Int) (x1571 : Int) : Option (Int) := if (decide (x1570 < x1571)) = true then ((at? a0 (IntKind.i64.wrap (Int.fdiv (IntKind.u64.wrap (IntKind.i64.wrap (x1570 + x1571))) 2))) >>= fun b1578 => (f_hist_At_1.f b1578 a1) >>= fun t1581 => ((if (decide (t1581 < (0 : Int))) = true then (some (IntKind.i64.wrap ((IntKind.i64.wrap (Int.fdiv (IntKind.u64.wrap (IntKind.i64.wrap (x1570 + x1571))) 2)) + (1 : Int)), x1571)) else (some (x1570, IntKind.i64.wrap (Int.fdiv (IntKind.u64.wrap (IntKind.i64.wrap (x1570 + x1571))) 2)))) : Option (Int × Int)) >>= fun oo => match oo with | (x1584, x1585) => (f_slices_BinarySearchFunc_api_Bucket_hist_At_1.l0 a0 a1 x1584 x1585)) else (some x1570)
partial_fixpoint
def f_slices_BinarySearchFunc_api_Bucket_hist_At_1.f (a0 : List TBucket) (a1 : Int) : Option (Int × Bool) := (f_slices_BinarySearchFunc_api_Bucket_hist_At_1.l0 a0 a1 0 (a0.length : Int)) >>= fun x1586 => ((if (decide (x1586 < (a0.length : Int))) = true then ((at? a0 x1586) >>= fun b1594 => (f_hist_At_1.f b1594 a1) >>= fun t1597 => some (t1597 == (0 : Int))) else (some false)) : Option (Bool)) >>= fun x1599 => some (x1586, x1599)
theorem f_slices_BinarySearchFunc_api_Bucket_hist_At_1.ok (a0 : List TBucket) (a1 : Int) (r : Int × Bool) (H : f_slices_BinarySearchFunc_api_Bucket_hist_At_1.f a0 a1 = some r) : Pv.Fn Try.prog 60 [.im (.row (a0.map eBucket)), iV .i64 a1, .im (.sc (.func (.func 61) #[] #[]))] [] 0 (fun x o => x = .tup [iV .i64 r.1, bV r.2] ∧ o = []) := by
  unfold f_slices_BinarySearchFunc_api_Bucket_hist_At_1.f at H
  refine Fn.bodyK [] Try.func60 rfl rfl (fun Γ hP hn => ?_)
  have hm : Try.prog.follows .mixedOrders = true := by kernel_rfl
  replace hn : Γ.n = 49 := hn
  refine AWp.seq ?_
  refine reg hP hn hm [] [0, 1, 2] [] ⟨[(0, .im (.row (a0.map eBucket))), (1, iV .i64 a1), (2, .im (.sc (.func (.func 61) #[] #[])))], [], 0⟩ [] (by kernel_rfl) trivial ?_
  refine AWp.seq ?_
  refine reg hP hn hm [(1, .any (iV .i64 (a0.length : Int)))] [0, 1, 2, 8] [] ⟨[(0, .im (.row (a0.map eBucket))), (1, iV .i64 a1), (2, .im (.sc (.func (.func 61) #[] #[]))), (8, iV .i64 (a0.length : Int))], [], 0⟩ [((a0.map eBucket).length : Int) = (a0.length : Int)] (by kernel_rfl) ⟨by rw [len_map], trivial⟩ ?_
  refine AWp.seq ?_
  refine reg hP hn hm [] [0, 1, 2, 8, 9, 10] [] ⟨[(0, .im (.row (a0.map eBucket))), (1, iV .i64 a1), (2, .im (.sc (.func (.func 61) #[] #[]))), (8, iV .i64 (a0.length : Int)), (9, iV .i64 0), (10, iV .i64 (a0.length : Int))], [], 0⟩ [] (by kernel_rfl) trivial ?_
  refine AWp.seq ?_
  refine AWp.block ?_
  obtain ⟨o1600, e1601, H⟩ := bind_of H
  refine AWp.loop (LWp.conv (inv := []) (vk := []) (e0 := []) (t := ⟨[(0, .im (.row (a0.map eBucket))), (1, iV .i64 a1), (2, .im (.sc (.func (.func 61) #[] #[]))), (8, iV .i64 (a0.length : Int)), (9, iV .i64 0), (10, iV .i64 (a0.length : Int))], [], 0⟩) (by kernel_rfl) ?_)
  refine LWp.mono (Q := fun e s => (match (generalizing := false) o1600 with | x1586 => e = .exit 0 ∧ s = ⟨[(0, .im (.row (a0.map eBucket))), (1, iV .i64 a1), (2, .im (.sc (.func (.func 61) #[] #[]))), (8, iV .i64 (a0.length : Int)), (9, iV .i64 x1586)], [], 0⟩)) (LWp.cv (withBody (fun body hbody => ?_))) ?_
  · refine f_slices_BinarySearchFunc_api_Bucket_hist_At_1.l0.partial_correctness a0 a1 (motive := fun x1570 x1571 o1600 => LWp Γ body (fun e s => ∃ t, Cv Γ s t ∧ (match (generalizing := false) o1600 with | x1586 => e = .exit 0 ∧ t = ⟨[(0, .im (.row (a0.map eBucket))), (1, iV .i64 a1), (2, .im (.sc (.func (.func 61) #[] #[]))), (8, iV .i64 (a0.length : Int)), (9, iV .i64 x1586)], [], 0⟩)) ⟨[(0, .im (.row (a0.map eBucket))), (1, iV .i64 a1), (2, .im (.sc (.func (.func 61) #[] #[]))), (8, iV .i64 (a0.length : Int)), (9, iV .i64 x1570), (10, iV .i64 x1571)], [], 0⟩) ?_ _ _ _ e1601
    clear H e1601 o1600; intro self ih x1570 x1571 o1600 H
    subst hbody
    refine LWp.round ?_
    refine AWp.seq ?_
    refine AWp.seq ?_
    refine reg hP hn hm [] [0, 1, 2, 8, 9, 10, 17] [] ⟨[(0, .im (.row (a0.map eBucket))), (1, iV .i64 a1), (2, .im (.sc (.func (.func 61) #[] #[]))), (8, iV .i64 (a0.length : Int)), (9, iV .i64 x1570), (10, iV .i64 x1571), (17, bV (decide (x1570 < x1571)))], [], 0⟩ [] (by kernel_rfl) trivial ?_
    refine AWp.cond (decide (x1570 < x1571)) rfl (fun c1572 => ?_) (fun c1572 => ?_)
    · replace H := (ifT c1572).symm.trans H
      refine AWp.skip ?_
      refine AWp.block ?_
      refine AWp.seq ?_
      refine reg hP hn hm [] [0, 1, 2, 8, 9, 10, 11] [] ⟨[(0, .im (.row (a0.map eBucket))), (1, iV .i64 a1), (2, .im (.sc (.func (.func 61) #[] #[]))), (8, iV .i64 (a0.length : Int)), (9, iV .i64 x1570), (10, iV .i64 x1571), (11, iV .i64 (IntKind.i64.wrap (Int.fdiv (IntKind.u64.wrap (IntKind.i64.wrap (x1570 + x1571))) 2)))], [], 0⟩ [(0 : Int) ≤ 1] (by kernel_rfl) ⟨by decide, trivial⟩ ?_
      refine AWp.seq ?_
      obtain ⟨b1578, p1579, q1580, H⟩ := at_of H
      obtain ⟨t1581, e1582, H⟩ := bind_of H
      refine reg hP hn hm [(3, .c (eBucket b1578)), (6, .call [] [] [] [] 0 (iV .i64 t1581) [])] [0, 1, 2, 8, 9, 10, 11, 31] [] ⟨[(0, .im (.row (a0.map eBucket))), (1, iV .i64 a1), (2, .im (.sc (.func (.func 61) #[] #[]))), (8, iV .i64 (a0.length : Int)), (9, iV .i64 x1570), (10, iV .i64 x1571), (11, iV .i64 (IntKind.i64.wrap (Int.fdiv (IntKind.u64.wrap (IntKind.i64.wrap (x1570 + x1571))) 2))), (31, bV (decide (t1581 < (0 : Int))))], [], 0⟩ [0 ≤ (IntKind.i64.wrap (Int.fdiv (IntKind.u64.wrap (IntKind.i64.wrap (x1570 + x1571))) 2)), (a0.map eBucket)[(Int.toNat (IntKind.i64.wrap (Int.fdiv (IntKind.u64.wrap (IntKind.i64.wrap (x1570 + x1571))) 2)))]? = some (eBucket b1578), Enters Try.prog 61, Pv.Fn Try.prog 61 [.agg (aBucket b1578), iV .i64 a1] [] 0 (fun r o => r = iV .i64 t1581 ∧ o = [])] (by kernel_rfl) ⟨by exact p1579, by exact el_map eBucket q1580, by exact Try.call61, by exact f_hist_At_1.ok b1578 a1 t1581 e1582, trivial⟩ ?_
      obtain ⟨o1602, e1603, H⟩ := bind_of H
      refine AWp.mono (Q := fun e s => (match (generalizing := false) o1602 with | (x1584, x1585) => e = .normal ∧ s = ⟨[(0, .im (.row (a0.map eBucket))), (1, iV .i64 a1), (2, .im (.sc (.func (.func 61) #[] #[]))), (8, iV .i64 (a0.length : Int)), (9, iV .i64 x1584), (10, iV .i64 x1585)], [], 0⟩)) (AWp.cv ?_) ?_
      · replace H := e1603; clear e1603
        refine AWp.cond (decide (t1581 < (0 : Int))) rfl (fun c1583 => ?_) (fun c1583 => ?_)
        · replace H := (ifT c1583).symm.trans H
          refine reg hP hn hm [] [0, 1, 2, 8, 9, 10] [] ⟨[(0, .im (.row (a0.map eBucket))), (1, iV .i64 a1), (2, .im (.sc (.func (.func 61) #[] #[]))), (8, iV .i64 (a0.length : Int)), (9, iV .i64 (IntKind.i64.wrap ((IntKind.i64.wrap (Int.fdiv (IntKind.u64.wrap (IntKind.i64.wrap (x1570 + x1571))) 2)) + (1 : Int)))), (10, iV .i64 x1571)], [], 0⟩ [] (by kernel_rfl) trivial ?_
          obtain rfl := Option.some.inj H
          exact Exists.intro _ (And.intro (fun _ _ h => h.conv (inv := []) (vk := []) (e0 := []) (t := ⟨[(0, .im (.row (a0.map eBucket))), (1, iV .i64 a1), (2, .im (.sc (.func (.func 61) #[] #[]))), (8, iV .i64 (a0.length : Int)), (9, iV .i64 (IntKind.i64.wrap ((IntKind.i64.wrap (Int.fdiv (IntKind.u64.wrap (IntKind.i64.wrap (x1570 + x1571))) 2)) + (1 : Int)))), (10, iV .i64 x1571)], [], 0⟩) (by kernel_rfl)) (And.intro rfl rfl))
        · replace H := (ifF c1583).symm.trans H
          refine reg hP hn hm [] [0, 1, 2, 8, 9, 10] [] ⟨[(0, .im (.row (a0.map eBucket))), (1, iV .i64 a1), (2, .im (.sc (.func (.func 61) #[] #[]))), (8, iV .i64 (a0.length : Int)), (9, iV .i64 x1570), (10, iV .i64 (IntKind.i64.wrap (Int.fdiv (IntKind.u64.wrap (IntKind.i64.wrap (x1570 + x1571))) 2)))], [], 0⟩ [] (by kernel_rfl) trivial ?_
          obtain rfl := Option.some.inj H
          exact Exists.intro _ (And.intro (fun _ _ h => h.conv (inv := []) (vk := []) (e0 := []) (t := ⟨[(0, .im (.row (a0.map eBucket))), (1, iV .i64 a1), (2, .im (.sc (.func (.func 61) #[] #[]))), (8, iV .i64 (a0.length : Int)), (9, iV .i64 x1570), (10, iV .i64 (IntKind.i64.wrap (Int.fdiv (IntKind.u64.wrap (IntKind.i64.wrap (x1570 + x1571))) 2)))], [], 0⟩) (by kernel_rfl)) (And.intro rfl rfl))
      · obtain ⟨x1584, x1585⟩ := o1602
        rintro e s ⟨rfl, rfl⟩
        exact LWp.conv (inv := []) (vk := []) (e0 := []) (t := ⟨[(0, .im (.row (a0.map eBucket))), (1, iV .i64 a1), (2, .im (.sc (.func (.func 61) #[] #[]))), (8, iV .i64 (a0.length : Int)), (9, iV .i64 x1584), (10, iV .i64 x1585)], [], 0⟩) (by kernel_rfl) (ih _ _ _ H)
    · replace H := (ifF c1572).symm.trans H
      refine AWp.exit ?_
      obtain rfl := Option.some.inj H
      exact Exists.intro _ (And.intro (fun _ _ h => h.conv (inv := []) (vk := []) (e0 := []) (t := ⟨[(0, .im (.row (a0.map eBucket))), (1, iV .i64 a1), (2, .im (.sc (.func (.func 61) #[] #[]))), (8, iV .i64 (a0.length : Int)), (9, iV .i64 x1570)], [], 0⟩) (by kernel_rfl)) (And.intro rfl rfl))
  · obtain ⟨x1586, rfl⟩ : ∃ z, z = o1600 := ⟨_, rfl⟩
    rintro e s ⟨rfl, rfl⟩
    refine AWp.seq ?_
    obtain ⟨o1604, e1605, H⟩ := bind_of H
    refine AWp.mono (Q := fun e s => (match (generalizing := false) o1604 with | x1599 => e = .normal ∧ s = ⟨[(6, iV .i64 x1586), (7, bV x1599)], [], 0⟩)) (AWp.cv ?_) ?_
    · replace H := e1605; clear e1605
      rcases Bool.eq_false_or_eq_true (decide (x1586 < (a0.length : Int))) with c1593 | c1593
      · replace H := (ifT c1593).symm.trans H
        obtain ⟨b1594, p1595, q1596, H⟩ := at_of H
        obtain ⟨t1597, e1598, H⟩ := bind_of H
        refine reg hP hn hm [(4, .b true), (8, .c (eBucket b1594)), (11, .call [] [] [] [] 0 (iV .i64 t1597) [])] [6, 7] [] ⟨[(6, iV .i64 x1586), (7, bV (t1597 == (0 : Int)))], [], 0⟩ [(decide (x1586 < (a0.length : Int))) = true, 0 ≤ x1586, (a0.map eBucket)[(Int.toNat (x1586))]? = some (eBucket b1594), Enters Try.prog 61, Pv.Fn Try.prog 61 [.agg (aBucket b1594), iV .i64 a1] [] 0 (fun r o => r = iV .i64 t1597 ∧ o = [])] (by kernel_rfl) ⟨by exact c1593, by exact p1595, by exact el_map eBucket q1596, by exact Try.call61, by exact f_hist_At_1.ok b1594 a1 t1597 e1598, trivial⟩ ?_
        obtain rfl := Option.some.inj H
        exact Exists.intro _ (And.intro (fun _ _ h => h.conv (inv := []) (vk := []) (e0 := []) (t := ⟨[(6, iV .i64 x1586), (7, bV (t1597 == (0 : Int)))], [], 0⟩) (by kernel_rfl)) (And.intro rfl rfl))
      · replace H := (ifF c1593).symm.trans H
        refine reg hP hn hm [(4, .b false)] [6, 7] [] ⟨[(6, iV .i64 x1586), (7, bV false)], [], 0⟩ [(decide (x1586 < (a0.length : Int))) = false] (by kernel_rfl) ⟨by exact c1593, trivial⟩ ?_
        obtain rfl := Option.some.inj H
        exact Exists.intro _ (And.intro (fun _ _ h => h.conv (inv := []) (vk := []) (e0 := []) (t := ⟨[(6, iV .i64 x1586), (7, bV false)], [], 0⟩) (by kernel_rfl)) (And.intro rfl rfl))
    · obtain ⟨x1599, rfl⟩ : ∃ z, z = o1604 := ⟨_, rfl⟩
      rintro e s ⟨rfl, rfl⟩
      refine AWp.conv (inv := []) (vk := []) (e0 := []) (t := ⟨[(6, iV .i64 x1586), (7, bV x1599)], [], 0⟩) (by kernel_rfl) ?_
      refine AWp.ret ?_
      obtain rfl := Option.some.inj H
      exact Exists.intro _ (And.intro (fun _ _ h => h) (And.intro (.inl rfl) (And.intro rfl (And.intro (by kernel_rfl) (by kernel_rfl)))))
def f_hist_At.f (a0 : THist) (a1 : Int) (a2 : Int) : Option (Int) := if (a1 == (0 : Int)) = true then (some a0.f3) else (((if (decide (a1 < (0 : Int))) = true then (some a0.f7) else (some a0.f6)) : Option (List TBucket)) >>= fun x1551 => (f_slices_BinarySearchFunc_api_Bucket_hist_At_1.f x1551 a2) >>= fun t1608 => if (!t1608.2) = true then (some 0) else ((at? x1551 t1608.1) >>= fun b1614 => some b1614.f1))
theorem f_hist_At.ok (a0 : THist) (a1 : Int) (a2 : Int) (r : Int) (H : f_hist_At.f a0 a1 a2 = some r) : Pv.Fn Try.prog 34 [.agg (aHist a0), iV .i64 a1, iV .i64 a2] [] 0 (fun x o => x = iV .u64 r ∧ o = []) := by
  unfold f_hist_At.f at H
  refine Fn.bodyK [] Try.func34 rfl rfl (fun Γ hP hn => ?_)
  have hm : Try.prog.follows .mixedOrders = true := by kernel_rfl
  replace hn : Γ.n = 35 := hn
  refine AWp.seq ?_
  refine reg hP hn hm [(0, .k 0)] [1, 2, 3] [0] ⟨[(1, iV .i64 a1), (2, iV .i64 a2), (3, .ptr 0 0 0)], [(0, some (.box 30 (aHist a0)))], 0⟩ [] (by kernel_rfl) trivial ?_
  refine AWp.seq ?_
  refine reg hP hn hm [] [1, 2, 3, 7] [0] ⟨[(1, iV .i64 a1), (2, iV .i64 a2), (3, .ptr 0 0 0), (7, .im (.row (a0.f6.map eBucket)))], [(0, some (.box 30 (aHist a0)))], 0⟩ [] (by kernel_rfl) trivial ?_
  refine AWp.seq ?_
  refine AWp.block ?_
  refine AWp.seq ?_
  refine reg hP hn hm [] [1, 2, 3, 7, 12] [0] ⟨[(1, iV .i64 a1), (2, iV .i64 a2), (3, .ptr 0 0 0), (7, .im (.row (a0.f6.map eBucket))), (12, bV (a1 == (0 : Int)))], [(0, some (.box 30 (aHist a0)))], 0⟩ [] (by kernel_rfl) trivial ?_
  refine AWp.cond (a1 == (0 : Int)) rfl (fun c1549 => ?_) (fun c1549 => ?_)
  · replace H := (ifT c1549).symm.trans H
    refine AWp.seq ?_
    refine reg hP hn hm [] [6] [] ⟨[(6, iV .u64 a0.f3)], [], 0⟩ [] (by kernel_rfl) trivial ?_
    refine AWp.conv (inv := []) (vk := []) (e0 := []) (t := ⟨[(6, iV .u64 a0.f3)], [], 0⟩) (by kernel_rfl) ?_
    refine AWp.ret ?_
    obtain rfl := Option.some.inj H
    exact Exists.intro _ (And.intro (fun _ _ h => h) (And.intro (.inl rfl) (And.intro rfl (And.intro (by kernel_rfl) (by kernel_rfl)))))
  · replace H := (ifF c1549).symm.trans H
    refine AWp.seq ?_
    refine reg hP hn hm [] [2, 3, 7, 17] [0] ⟨[(2, iV .i64 a2), (3, .ptr 0 0 0), (7, .im (.row (a0.f6.map eBucket))), (17, bV (decide (a1 < (0 : Int))))], [(0, some (.box 30 (aHist a0)))], 0⟩ [] (by kernel_rfl) trivial ?_
    obtain ⟨o1617, e1618, H⟩ := bind_of H
    refine AWp.mono (Q := fun e s => (match (generalizing := false) o1617 with | x1551 => e = .normal ∧ s = ⟨[(2, iV .i64 a2), (7, .im (.row (x1551.map eBucket)))], [], 0⟩)) (AWp.cv ?_) ?_
    · replace H := e1618; clear e1618
      refine AWp.cond (decide (a1 < (0 : Int))) rfl (fun c1550 => ?_) (fun c1550 => ?_)
      · replace H := (ifT c1550).symm.trans H
        refine reg hP hn hm [] [2, 7] [] ⟨[(2, iV .i64 a2), (7, .im (.row (a0.f7.map eBucket)))], [], 0⟩ [] (by kernel_rfl) trivial ?_
        obtain rfl := Option.some.inj H
        exact Exists.intro _ (And.intro (fun _ _ h => h.conv (inv := []) (vk := []) (e0 := []) (t := ⟨[(2, iV .i64 a2), (7, .im (.row (a0.f7.map eBucket)))], [], 0⟩) (by kernel_rfl)) (And.intro rfl rfl))
      · replace H := (ifF c1550).symm.trans H
        refine AWp.skip ?_
        obtain rfl := Option.some.inj H
        exact Exists.intro _ (And.intro (fun _ _ h => h.conv (inv := []) (vk := []) (e0 := []) (t := ⟨[(2, iV .i64 a2), (7, .im (.row (a0.f6.map eBucket)))], [], 0⟩) (by kernel_rfl)) (And.intro rfl rfl))
    · obtain ⟨x1551, rfl⟩ : ∃ z, z = o1617 := ⟨_, rfl⟩
      rintro e s ⟨rfl, rfl⟩
      refine AWp.seq ?_
      obtain ⟨t1608, e1609, H⟩ := bind_of H
      refine reg hP hn hm [(2, .call [] [] [] [] 0 (.tup [iV .i64 t1608.1, bV t1608.2]) [])] [7, 8, 9] [] ⟨[(7, .im (.row (x1551.map eBucket))), (8, iV .i64 t1608.1), (9, bV t1608.2)], [], 0⟩ [Enters Try.prog 60, Pv.Fn Try.prog 60 [.im (.row (x1551.map eBucket)), iV .i64 a2, .im (.sc (.func (.func 61) #[] #[]))] [] 0 (fun r o => r = .tup [iV .i64 t1608.1, bV t1608.2] ∧ o = [])] (by kernel_rfl) ⟨by exact Try.call60, by exact f_slices_BinarySearchFunc_api_Bucket_hist_At_1.ok x1551 a2 t1608 e1609, trivial⟩ ?_
      refine AWp.seq ?_
      refine AWp.seq ?_
      refine reg hP hn hm [] [7, 8, 29] [] ⟨[(7, .im (.row (x1551.map eBucket))), (8, iV .i64 t1608.1), (29, bV (!t1608.2))], [], 0⟩ [] (by kernel_rfl) trivial ?_
      refine AWp.cond (!t1608.2) rfl (fun c1610 => ?_) (fun c1610 => ?_)
      · replace H := (ifT c1610).symm.trans H
        refine AWp.seq ?_
        refine reg hP hn hm [] [6] [] ⟨[(6, iV .u64 0)], [], 0⟩ [] (by kernel_rfl) trivial ?_
        refine AWp.conv (inv := []) (vk := []) (e0 := []) (t := ⟨[(6, iV .u64 0)], [], 0⟩) (by kernel_rfl) ?_
        refine AWp.ret ?_
        obtain rfl := Option.some.inj H
        exact Exists.intro _ (And.intro (fun _ _ h => h) (And.intro (.inl rfl) (And.intro rfl (And.intro (by kernel_rfl) (by kernel_rfl)))))
      · replace H := (ifF c1610).symm.trans H
        refine AWp.skip ?_
        refine AWp.seq ?_
        obtain ⟨b1614, p1615, q1616, H⟩ := at_of H
        refine reg hP hn hm [(2, .c (eBucket b1614))] [6] [] ⟨[(6, iV .u64 b1614.f1)], [], 0⟩ [0 ≤ t1608.1, (x1551.map eBucket)[(Int.toNat (t1608.1))]? = some (eBucket b1614)] (by kernel_rfl) ⟨by exact p1615, by exact el_map eBucket q1616, trivial⟩ ?_
        refine AWp.conv (inv := []) (vk := []) (e0 := []) (t := ⟨[(6, iV .u64 b1614.f1)], [], 0⟩) (by kernel_rfl) ?_
        refine AWp.ret ?_
        obtain rfl := Option.some.inj H
        exact Exists.intro _ (And.intro (fun _ _ h => h) (And.intro (.inl rfl) (And.intro rfl (And.intro (by kernel_rfl) (by kernel_rfl)))))
end Go.Proofs.Ytjfhobijgkccdaa.PvGA3
set_option linter.unusedVariables false
set_option linter.unnecessarySimpa false
set_option linter.unusedSimpArgs false
set_option maxRecDepth 10000
namespace Go.Proofs.Ytjfhobijgkccdaa.PvGA3
open Go Go.Pv
def f_pluviallaw05_HistAdds.d0 (a0 : THist) (a1 : Int) (t1767 : List (Tbound_Key × Int)) (v : Int) : Option (Bool ⊕ Int) := match v with
  | x1781 => some (.inr x1781)
def f_pluviallaw05_HistAdds.s0 (a0 : THist) (a1 : Int) (t1767 : List (Tbound_Key × Int)) (b1783 : Tbound_Key × Int) (v : Int) : Option ((Bool ⊕ Int) ⊕ (Int)) := match v with
  | x1781 => ((if (b1783.2 == (0 : Int)) = true then (some true) else ((f_hist_At.f a0 b1783.1.f0 b1783.1.f2) >>= fun t1789 => some (t1789 != b1783.2))) : Option (Bool)) >>= fun x1791 => if x1791 = true then (some (.inl (.inl false))) else (some (.inr (IntKind.u64.wrap (x1781 + b1783.2))))
def f_pluviallaw05_HistAdds.l0 (a0 : THist) (a1 : Int) (t1767 : List (Tbound_Key × Int)) : List (Tbound_Key × Int) → (Int) → Option (Bool ⊕ Int) := rloop (f_pluviallaw05_HistAdds.d0 a0 a1 t1767) (f_pluviallaw05_HistAdds.s0 a0 a1 t1767)
def f_pluviallaw05_HistAdds.l1 (a0 : THist) (a1 : Int) (x1793 : Int) (x1801 : Bool) (x1802 : Int) : Option (Bool) := if (decide (x1802 < (a0.f6.length : Int))) = true then ((at? a0.f6 x1802) >>= fun b1807 => ((if x1801 = true then (some true) else (some (b1807.f0 == a1))) : Option (Bool)) >>= fun x1812 => f_pluviallaw05_HistAdds.l1 a0 a1 x1793 x1812 (IntKind.i64.wrap (x1802 + (1 : Int)))) else (some x1801)
partial_fixpoint
noncomputable def f_pluviallaw05_HistAdds.f (a0 : THist) (a1 : Int) : Option (Bool) := (((f_pluviallaw05_Light.f a0) >>= fun t1754 => if (!t1754) = true then (some true) else ((f_hist_Check.f a0) >>= fun t1757 => some (t1757 != (0 : Int)))) : Option (Bool)) >>= fun x1759 => if x1759 = true then ((f_pluviallaw05_awake.f) >>= fun t1763 => some t1763) else ((f_hist_Cells.f a0) >>= fun t1767 => (rchk (f_pluviallaw05_HistAdds.l0 a0 a1 t1767) t1767 0) >>= fun oo => match oo with | .inl rr => (some rr) | .inr x1793 => ((f_pluviallaw05_HistAdds.l1 a0 a1 x1793 false 0) >>= fun x1813 => (((f_pluviallaw05_awake.f) >>= fun t1820 => if t1820 = true then (if (x1793 == a0.f4) = true then ((f_hist_At.f a0 1 a1) >>= fun t1824 => some ((decide (t1824 > (0 : Int))) == x1813)) else (some false)) else (some false)) : Option (Bool)) >>= fun x1826 => some x1826))
theorem f_pluviallaw05_HistAdds.ok (a0 : THist) (a1 : Int) (r : Bool) (H : f_pluviallaw05_HistAdds.f a0 a1 = some r) : Pv.Fn Try.prog 8 [.agg (aHist a0), iV .i64 a1] [] 0 (fun x o => x = bV r ∧ o = []) := by
  unfold f_pluviallaw05_HistAdds.f at H
  refine Fn.bodyK [] Try.func8 rfl rfl (fun Γ hP hn => ?_)
  have hm : Try.prog.follows .mixedOrders = true := by kernel_rfl
  replace hn : Γ.n = 73 := hn
  refine AWp.seq ?_
  refine reg hP hn hm [(0, .k 0)] [1, 2] [0] ⟨[(1, iV .i64 a1), (2, .ptr 0 0 0)], [(0, some (.box 30 (aHist a0)))], 0⟩ [] (by kernel_rfl) trivial ?_
  refine AWp.seq ?_
  refine AWp.seq ?_
  obtain ⟨o1827, e1828, H⟩ := bind_of H
  refine AWp.mono (Q := fun e s => (match (generalizing := false) o1827 with | x1759 => e = .normal ∧ s = ⟨[(1, iV .i64 a1), (2, .ptr 1 0 0), (18, bV x1759)], [(1, some (.box 30 (aHist a0)))], 0⟩)) (AWp.cv ?_) ?_
  · replace H := e1828; clear e1828
    obtain ⟨t1754, e1755, H⟩ := bind_of H
    rcases Bool.eq_false_or_eq_true (!t1754) with c1756 | c1756
    · replace H := (ifT c1756).symm.trans H
      refine reg hP hn hm [(1, .call [] [] [] [] 0 (bV t1754) []), (3, .b true)] [1, 2, 18] [0] ⟨[(1, iV .i64 a1), (2, .ptr 0 0 0), (18, bV true)], [(0, some (.box 30 (aHist a0)))], 0⟩ [Enters Try.prog 15, Pv.Fn Try.prog 15 [.agg (aHist a0)] [] 0 (fun r o => r = bV t1754 ∧ o = []), (!t1754) = true] (by kernel_rfl) ⟨by exact Try.call15, by exact f_pluviallaw05_Light.ok a0 t1754 e1755, by exact c1756, trivial⟩ ?_
      obtain rfl := Option.some.inj H
      exact Exists.intro _ (And.intro (fun _ _ h => h.conv (inv := [(0, 1)]) (vk := []) (e0 := []) (t := ⟨[(1, iV .i64 a1), (2, .ptr 1 0 0), (18, bV true)], [(1, some (.box 30 (aHist a0)))], 0⟩) (by kernel_rfl)) (And.intro rfl rfl))
    · replace H := (ifF c1756).symm.trans H
      obtain ⟨t1757, e1758, H⟩ := bind_of H
      refine reg hP hn hm [(1, .call [] [] [] [] 0 (bV t1754) []), (3, .b false), (5, .call [] [] [] [] 0 (iV .i64 t1757) [])] [1, 2, 18] [0] ⟨[(1, iV .i64 a1), (2, .ptr 0 0 0), (18, bV (t1757 != (0 : Int)))], [(0, some (.box 30 (aHist a0)))], 0⟩ [Enters Try.prog 15, Pv.Fn Try.prog 15 [.agg (aHist a0)] [] 0 (fun r o => r = bV t1754 ∧ o = []), (!t1754) = false, Enters Try.prog 19, Pv.Fn Try.prog 19 [.agg (aHist a0)] [] 0 (fun r o => r = iV .i64 t1757 ∧ o = [])] (by kernel_rfl) ⟨by exact Try.call15, by exact f_pluviallaw05_Light.ok a0 t1754 e1755, by exact c1756, by exact Try.call19, by exact f_hist_Check.ok a0 t1757 e1758, trivial⟩ ?_
      obtain rfl := Option.some.inj H
      exact Exists.intro _ (And.intro (fun _ _ h => h.conv (inv := [(0, 1)]) (vk := []) (e0 := []) (t := ⟨[(1, iV .i64 a1), (2, .ptr 1 0 0), (18, bV (t1757 != (0 : Int)))], [(1, some (.box 30 (aHist a0)))], 0⟩) (by kernel_rfl)) (And.intro rfl rfl))
  · obtain ⟨x1759, rfl⟩ : ∃ z, z = o1827 := ⟨_, rfl⟩
    rintro e s ⟨rfl, rfl⟩
    refine AWp.cond x1759 rfl (fun c1760 => ?_) (fun c1760 => ?_)
    · replace H := (ifT c1760).symm.trans H
      refine AWp.seq ?_
      obtain ⟨t1763, e1764, H⟩ := bind_of H
      refine reg hP hn hm [(0, .call [] [] [] [] 0 (bV t1763) [])] [4] [] ⟨[(4, bV t1763)], [], 0⟩ [Enters Try.prog 16, Pv.Fn Try.prog 16 [] [] 0 (fun r o => r = bV t1763 ∧ o = [])] (by kernel_rfl) ⟨by exact Try.call16, by exact f_pluviallaw05_awake.ok  t1763 e1764, trivial⟩ ?_
      refine AWp.conv (inv := []) (vk := []) (e0 := []) (t := ⟨[(4, bV t1763)], [], 0⟩) (by kernel_rfl) ?_
      refine AWp.ret ?_
      obtain rfl := Option.some.inj H
      exact Exists.intro _ (And.intro (fun _ _ h => h) (And.intro (.inl rfl) (And.intro rfl (And.intro (by kernel_rfl) (by kernel_rfl)))))
    · replace H := (ifF c1760).symm.trans H
      refine AWp.skip ?_
      refine AWp.seq ?_
      refine reg hP hn hm [] [1, 2, 5] [1] ⟨[(1, iV .i64 a1), (2, .ptr 1 0 0), (5, iV .u64 0)], [(1, some (.box 30 (aHist a0)))], 0⟩ [] (by kernel_rfl) trivial ?_
      refine AWp.seq ?_
      refine AWp.seq ?_
      obtain ⟨t1767, e1768, H⟩ := bind_of H
      refine reg hP hn hm [(1, .call [] [(0, 2)] [] [2] 0 (.mown 0) [(0, some (.map (mE (fun x => Value.agg (vkbound_Key x).toArray) (iI .u64) t1767)))]), (2, .more (xRng 3 t1767.length))] [1, 2, 5, 22] [1, 2, 3] ⟨[(1, iV .i64 a1), (2, .ptr 1 0 0), (5, iV .u64 0), (22, .ptr 3 0 0)], [(1, some (.box 30 (aHist a0))), (2, some (.map (mE (fun x => Value.agg (vkbound_Key x).toArray) (iI .u64) t1767))), (3, some (.iter (some 2) t1767.length ([] : List Nat)))], 0⟩ [Enters Try.prog 32, Pv.Fn Try.prog 32 [.agg (aHist a0)] [] 0 (fun r o => r = .mown 0 ∧ o = [(0, some (.map (mE (fun x => Value.agg (vkbound_Key x).toArray) (iI .u64) t1767)))]), t1767.length = (mE (fun x => Value.agg (vkbound_Key x).toArray) (iI .u64) t1767).length] (by kernel_rfl) ⟨by exact Try.call32, by exact f_hist_Cells.ok a0 t1767 e1768, by exact len_mE _ _ _, trivial⟩ ?_
      refine AWp.block ?_
      obtain ⟨o1829, e1830, H⟩ := bind_of H
      refine AWp.loop (LWp.conv (inv := [(1, 8), (2, 9), (3, 10)]) (vk := []) (e0 := []) (t := ⟨[(1, iV .i64 a1), (2, .ptr 8 0 0), (5, iV .u64 0), (22, .ptr 10 0 0)], [(8, some (.box 30 (aHist a0))), (9, some (.map (mE (fun x => Value.agg (vkbound_Key x).toArray) (iI .u64) t1767))), (10, some (.iter (some 9) t1767.length ([] : List Nat)))], 0⟩) (by kernel_rfl) ?_)
      refine LWp.mono (Q := fun e s => (match (generalizing := false) o1829 with | .inl rr => e = .ret ∧ s.floor = 0 ∧ resOf Try.prog Try.f8 s = some (bV rr) ∧ ([] : List (Nat × Option MObj)) = [] | .inr x1793 => e = .exit 0 ∧ s = ⟨[(1, iV .i64 a1), (2, .ptr 15 0 0), (5, iV .u64 x1793)], [(15, some (.box 30 (aHist a0)))], 0⟩)) (LWp.cv (withBody (fun body hbody => ?_))) ?_
      · refine range_loop t1767 (f_pluviallaw05_HistAdds.d0 a0 a1 t1767) (f_pluviallaw05_HistAdds.s0 a0 a1 t1767) o1829 (fun sn1769 v => match v with | (x1781) => ⟨[(1, iV .i64 a1), (2, .ptr 8 0 0), (5, iV .u64 x1781), (22, .ptr 10 0 0)], [(8, some (.box 30 (aHist a0))), (9, some (.map (mE (fun x => Value.agg (vkbound_Key x).toArray) (iI .u64) t1767))), (10, some (.iter (some 9) t1767.length sn1769))], 0⟩) (fun sn1769 v self hr0 hr1 => ?_) _ (rchk_of e1830)
        clear H e1830
        obtain ⟨x1781, rfl⟩ : ∃ z, z = v := ⟨_, rfl⟩
        subst hbody
        show AWp Γ _ _ ⟨[(1, iV .i64 a1), (2, .ptr 8 0 0), (5, iV .u64 x1781), (22, .ptr 10 0 0)], [(8, some (.box 30 (aHist a0))), (9, some (.map (mE (fun x => Value.agg (vkbound_Key x).toArray) (iI .u64) t1767))), (10, some (.iter (some 9) t1767.length sn1769))], 0⟩
        have H := hr0
        refine AWp.seq ?_
        refine AWp.next (n := t1767.length) (sn := sn1769) (es := mE (fun x => Value.agg (vkbound_Key x).toArray) (iI .u64) t1767) 23 24 10 9 hP rfl rfl rfl rfl rfl rfl (by rw [hn]; decide) (by rw [hn]; decide) (by kernel_rfl) (by kernel_rfl) (by kernel_rfl) (len_mE _ _ _) (fun hz => ?_) (fun i1782 A B hA hB hin => ?_)
        · replace H := hr0 hz; clear hr0 hr1
          unfold f_pluviallaw05_HistAdds.d0 at H
          try dsimp only at H
          refine AWp.seq ?_
          refine AWp.cond false rfl (fun h => nomatch h) (fun _ => ?_)
          refine AWp.exit ?_
          obtain rfl := Option.some.inj H
          exact Exists.intro _ (And.intro (fun _ _ h => h.conv (inv := [(8, 15)]) (vk := []) (e0 := []) (t := ⟨[(1, iV .i64 a1), (2, .ptr 15 0 0), (5, iV .u64 x1781)], [(15, some (.box 30 (aHist a0)))], 0⟩) (by kernel_rfl)) (And.intro rfl rfl))
        · have hmem : i1782 ∈ remI t1767.length sn1769 := by rw [hA]; simp
          obtain ⟨b1783, rr0, q1784, H, hxr, hwr⟩ := hr1 i1782 hmem; clear hr0 hr1
          unfold f_pluviallaw05_HistAdds.s0 at H
          try dsimp only at H
          refine AWp.seq ?_
          refine AWp.cond true rfl (fun _ => ?_) (fun h => nomatch h)
          refine AWp.skip ?_
          refine AWp.block ?_
          refine AWp.seq ?_
          refine reg hP hn hm [(0, .more (xEnt (fun x => Value.agg (vkbound_Key x).toArray) (iI .u64) t1767 i1782 b1783 (.agg (abound_Key b1783.1)))), (3, .k 11)] [1, 2, 5, 6, 7, 22] [8, 9, 10, 11] ⟨[(1, iV .i64 a1), (2, .ptr 8 0 0), (5, iV .u64 x1781), (6, .ptr 11 0 0), (7, iV .u64 b1783.2), (22, .ptr 10 0 0)], [(8, some (.box 30 (aHist a0))), (9, some (.map (mE (fun x => Value.agg (vkbound_Key x).toArray) (iI .u64) t1767))), (10, some (.iter (some 9) t1767.length (sn1769 ++ [i1782]))), (11, some (.box 53 (abound_Key b1783.1)))], 0⟩ [t1767.length = (mE (fun x => Value.agg (vkbound_Key x).toArray) (iI .u64) t1767).length, ((sn1769 ++ [i1782])).getLast? = some i1782, mE (fun x => Value.agg (vkbound_Key x).toArray) (iI .u64) t1767 = mE (fun x => Value.agg (vkbound_Key x).toArray) (iI .u64) t1767, t1767[i1782]? = some b1783, valA (.agg (abound_Key b1783.1)) = some ((fun x => Value.agg (vkbound_Key x).toArray) b1783.1)] (by kernel_rfl) ⟨by exact len_mE _ _ _, by simp, by exact rfl, by exact q1784, by exact rfl, trivial⟩ ?_
          refine AWp.seq ?_
          refine reg hP hn hm [] [1, 2, 5, 6, 7, 22] [8, 9, 10, 11] ⟨[(1, iV .i64 a1), (2, .ptr 8 0 0), (5, iV .u64 (IntKind.u64.wrap (x1781 + b1783.2))), (6, .ptr 11 0 0), (7, iV .u64 b1783.2), (22, .ptr 10 0 0)], [(8, some (.box 30 (aHist a0))), (9, some (.map (mE (fun x => Value.agg (vkbound_Key x).toArray) (iI .u64) t1767))), (10, some (.iter (some 9) t1767.length (sn1769 ++ [i1782]))), (11, some (.box 53 (abound_Key b1783.1)))], 0⟩ [] (by kernel_rfl) trivial ?_
          refine AWp.seq ?_
          obtain ⟨o1831, e1832, H⟩ := bind_of H
          refine AWp.mono (Q := fun e s => (match (generalizing := false) o1831 with | x1791 => e = .normal ∧ s = ⟨[(1, iV .i64 a1), (2, .ptr 12 0 0), (5, iV .u64 (IntKind.u64.wrap (x1781 + b1783.2))), (22, .ptr 14 0 0), (42, bV x1791)], [(12, some (.box 30 (aHist a0))), (13, some (.map (mE (fun x => Value.agg (vkbound_Key x).toArray) (iI .u64) t1767))), (14, some (.iter (some 13) t1767.length (sn1769 ++ [i1782])))], 0⟩)) (AWp.cv ?_) ?_
          · replace H := e1832; clear e1832
            rcases Bool.eq_false_or_eq_true (b1783.2 == (0 : Int)) with c1788 | c1788
            · replace H := (ifT c1788).symm.trans H
              refine reg hP hn hm [(2, .b true)] [1, 2, 5, 22, 42] [8, 9, 10] ⟨[(1, iV .i64 a1), (2, .ptr 8 0 0), (5, iV .u64 (IntKind.u64.wrap (x1781 + b1783.2))), (22, .ptr 10 0 0), (42, bV true)], [(8, some (.box 30 (aHist a0))), (9, some (.map (mE (fun x => Value.agg (vkbound_Key x).toArray) (iI .u64) t1767))), (10, some (.iter (some 9) t1767.length (sn1769 ++ [i1782])))], 0⟩ [(b1783.2 == (0 : Int)) = true] (by kernel_rfl) ⟨by exact c1788, trivial⟩ ?_
              obtain rfl := Option.some.inj H
              exact Exists.intro _ (And.intro (fun _ _ h => h.conv (inv := [(8, 12), (9, 13), (10, 14)]) (vk := []) (e0 := []) (t := ⟨[(1, iV .i64 a1), (2, .ptr 12 0 0), (5, iV .u64 (IntKind.u64.wrap (x1781 + b1783.2))), (22, .ptr 14 0 0), (42, bV true)], [(12, some (.box 30 (aHist a0))), (13, some (.map (mE (fun x => Value.agg (vkbound_Key x).toArray) (iI .u64) t1767))), (14, some (.iter (some 13) t1767.length (sn1769 ++ [i1782])))], 0⟩) (by kernel_rfl)) (And.intro rfl rfl))
            · replace H := (ifF c1788).symm.trans H
              obtain ⟨t1789, e1790, H⟩ := bind_of H
              refine reg hP hn hm [(2, .b false), (8, .call [] [] [] [] 0 (iV .u64 t1789) [])] [1, 2, 5, 22, 34, 35, 36, 37, 38, 39, 40, 41, 42] [8, 9, 10, 11] ⟨[(1, iV .i64 a1), (2, .ptr 8 0 0), (5, iV .u64 (IntKind.u64.wrap (x1781 + b1783.2))), (22, .ptr 10 0 0), (34, .agg (aHist a0)), (35, .ptr 11 0 0), (36, iV .i64 b1783.1.f0), (37, .ptr 11 0 2), (38, iV .i64 b1783.1.f2), (39, iV .u64 t1789), (40, iV .u64 b1783.2), (41, bV (t1789 != b1783.2)), (42, bV (t1789 != b1783.2))], [(8, some (.box 30 (aHist a0))), (9, some (.map (mE (fun x => Value.agg (vkbound_Key x).toArray) (iI .u64) t1767))), (10, some (.iter (some 9) t1767.length (sn1769 ++ [i1782]))), (11, some (.box 53 (abound_Key b1783.1)))], 0⟩ [(b1783.2 == (0 : Int)) = false, Enters Try.prog 34, Pv.Fn Try.prog 34 [.agg (aHist a0), iV .i64 b1783.1.f0, iV .i64 b1783.1.f2] [] 0 (fun r o => r = iV .u64 t1789 ∧ o = [])] (by kernel_rfl) ⟨by exact c1788, by exact Try.call34, by exact f_hist_At.ok a0 b1783.1.f0 b1783.1.f2 t1789 e1790, trivial⟩ ?_
              obtain rfl := Option.some.inj H
              exact Exists.intro _ (And.intro (fun _ _ h => h.conv (inv := [(8, 12), (9, 13), (10, 14)]) (vk := []) (e0 := []) (t := ⟨[(1, iV .i64 a1), (2, .ptr 12 0 0), (5, iV .u64 (IntKind.u64.wrap (x1781 + b1783.2))), (22, .ptr 14 0 0), (42, bV (t1789 != b1783.2))], [(12, some (.box 30 (aHist a0))), (13, some (.map (mE (fun x => Value.agg (vkbound_Key x).toArray) (iI .u64) t1767))), (14, some (.iter (some 13) t1767.length (sn1769 ++ [i1782])))], 0⟩) (by kernel_rfl)) (And.intro rfl rfl))
          · obtain ⟨x1791, rfl⟩ : ∃ z, z = o1831 := ⟨_, rfl⟩
            rintro e s ⟨rfl, rfl⟩
            refine AWp.cond x1791 rfl (fun c1792 => ?_) (fun c1792 => ?_)
            · replace H := (ifT c1792).symm.trans H
              refine AWp.seq ?_
              refine reg hP hn hm [] [4] [] ⟨[(4, bV false)], [], 0⟩ [] (by kernel_rfl) trivial ?_
              refine AWp.conv (inv := []) (vk := []) (e0 := []) (t := ⟨[(4, bV false)], [], 0⟩) (by kernel_rfl) ?_
              refine AWp.ret ?_
              obtain rfl := Option.some.inj H
              obtain rfl := hxr _ rfl
              exact Exists.intro _ (And.intro (fun _ _ h => h) (And.intro rfl (And.intro rfl (And.intro (by kernel_rfl) (by kernel_rfl)))))
            · replace H := (ifF c1792).symm.trans H
              refine AWp.skip ?_
              obtain rfl := Option.some.inj H
              exact LWp.conv (inv := [(12, 8), (13, 9), (14, 10)]) (vk := []) (e0 := []) (t := ⟨[(1, iV .i64 a1), (2, .ptr 8 0 0), (5, iV .u64 (IntKind.u64.wrap (x1781 + b1783.2))), (22, .ptr 10 0 0)], [(8, some (.box 30 (aHist a0))), (9, some (.map (mE (fun x => Value.agg (vkbound_Key x).toArray) (iI .u64) t1767))), (10, some (.iter (some 9) t1767.length (sn1769 ++ [i1782])))], 0⟩) (by kernel_rfl) (self i1782 (IntKind.u64.wrap (x1781 + b1783.2)) (hwr _ rfl) hmem)
      · rcases o1829 with rr | x1793
        · skip
          rintro e s ⟨rfl, hfl, hres⟩
          obtain rfl := Option.some.inj H
          exact Exists.intro _ (And.intro (fun _ _ h => h) (And.intro (.inl rfl) (And.intro hfl hres)))
        · skip
          rintro e s ⟨rfl, rfl⟩
          refine AWp.seq ?_
          refine reg hP hn hm [] [1, 2, 5, 8] [15] ⟨[(1, iV .i64 a1), (2, .ptr 15 0 0), (5, iV .u64 x1793), (8, bV false)], [(15, some (.box 30 (aHist a0)))], 0⟩ [] (by kernel_rfl) trivial ?_
          refine AWp.seq ?_
          refine AWp.seq ?_
          refine reg hP hn hm [(2, .any (iV .i64 (a0.f6.length : Int)))] [1, 2, 5, 8, 44, 45, 46] [15] ⟨[(1, iV .i64 a1), (2, .ptr 15 0 0), (5, iV .u64 x1793), (8, bV false), (44, .im (.row (a0.f6.map eBucket))), (45, iV .i64 (a0.f6.length : Int)), (46, iV .i64 0)], [(15, some (.box 30 (aHist a0)))], 0⟩ [((a0.f6.map eBucket).length : Int) = (a0.f6.length : Int)] (by kernel_rfl) ⟨by rw [len_map], trivial⟩ ?_
          refine AWp.block ?_
          obtain ⟨o1833, e1834, H⟩ := bind_of H
          refine AWp.loop (LWp.conv (inv := [(15, 17)]) (vk := []) (e0 := []) (t := ⟨[(1, iV .i64 a1), (2, .ptr 17 0 0), (5, iV .u64 x1793), (8, bV false), (44, .im (.row (a0.f6.map eBucket))), (45, iV .i64 (a0.f6.length : Int)), (46, iV .i64 0)], [(17, some (.box 30 (aHist a0)))], 0⟩) (by kernel_rfl) ?_)
          refine LWp.mono (Q := fun e s => (match (generalizing := false) o1833 with | x1813 => e = .exit 2 ∧ s = ⟨[(1, iV .i64 a1), (2, .ptr 20 0 0), (5, iV .u64 x1793), (8, bV x1813)], [(20, some (.box 30 (aHist a0)))], 0⟩)) (LWp.cv (withBody (fun body hbody => ?_))) ?_
          · refine f_pluviallaw05_HistAdds.l1.partial_correctness a0 a1 x1793 (motive := fun x1801 x1802 o1833 => LWp Γ body (fun e s => ∃ t, Cv Γ s t ∧ (match (generalizing := false) o1833 with | x1813 => e = .exit 2 ∧ t = ⟨[(1, iV .i64 a1), (2, .ptr 20 0 0), (5, iV .u64 x1793), (8, bV x1813)], [(20, some (.box 30 (aHist a0)))], 0⟩)) ⟨[(1, iV .i64 a1), (2, .ptr 17 0 0), (5, iV .u64 x1793), (8, bV x1801), (44, .im (.row (a0.f6.map eBucket))), (45, iV .i64 (a0.f6.length : Int)), (46, iV .i64 x1802)], [(17, some (.box 30 (aHist a0)))], 0⟩) ?_ _ _ _ e1834
            clear H e1834 o1833; intro self ih x1801 x1802 o1833 H
            subst hbody
            refine LWp.round ?_
            refine AWp.seq ?_
            refine reg hP hn hm [] [1, 2, 5, 8, 44, 45, 46, 47] [17] ⟨[(1, iV .i64 a1), (2, .ptr 17 0 0), (5, iV .u64 x1793), (8, bV x1801), (44, .im (.row (a0.f6.map eBucket))), (45, iV .i64 (a0.f6.length : Int)), (46, iV .i64 x1802), (47, bV (decide (x1802 < (a0.f6.length : Int))))], [(17, some (.box 30 (aHist a0)))], 0⟩ [] (by kernel_rfl) trivial ?_
            refine AWp.seq ?_
            refine AWp.cond (decide (x1802 < (a0.f6.length : Int))) rfl (fun c1803 => ?_) (fun c1803 => ?_)
            · replace H := (ifT c1803).symm.trans H
              refine AWp.skip ?_
              refine AWp.seq ?_
              refine AWp.block ?_
              refine AWp.seq ?_
              obtain ⟨b1807, p1808, q1809, H⟩ := at_of H
              refine reg hP hn hm [(0, .c (eBucket b1807)), (2, .k 18)] [1, 2, 5, 8, 10, 44, 45, 46] [17, 18] ⟨[(1, iV .i64 a1), (2, .ptr 17 0 0), (5, iV .u64 x1793), (8, bV x1801), (10, .ptr 18 0 0), (44, .im (.row (a0.f6.map eBucket))), (45, iV .i64 (a0.f6.length : Int)), (46, iV .i64 x1802)], [(17, some (.box 30 (aHist a0))), (18, some (.box 36 (aBucket b1807)))], 0⟩ [0 ≤ x1802, (a0.f6.map eBucket)[(Int.toNat (x1802))]? = some (eBucket b1807)] (by kernel_rfl) ⟨by exact p1808, by exact el_map eBucket q1809, trivial⟩ ?_
              obtain ⟨o1835, e1836, H⟩ := bind_of H
              refine AWp.mono (Q := fun e s => (match (generalizing := false) o1835 with | x1812 => e = .normal ∧ s = ⟨[(1, iV .i64 a1), (2, .ptr 19 0 0), (5, iV .u64 x1793), (8, bV x1812), (44, .im (.row (a0.f6.map eBucket))), (45, iV .i64 (a0.f6.length : Int)), (46, iV .i64 x1802)], [(19, some (.box 30 (aHist a0)))], 0⟩)) (AWp.cv ?_) ?_
              · replace H := e1836; clear e1836
                rcases Bool.eq_false_or_eq_true x1801 with c1811 | c1811
                · replace H := (ifT c1811).symm.trans H
                  refine reg hP hn hm [(1, .b true)] [1, 2, 5, 8, 44, 45, 46] [17] ⟨[(1, iV .i64 a1), (2, .ptr 17 0 0), (5, iV .u64 x1793), (8, bV true), (44, .im (.row (a0.f6.map eBucket))), (45, iV .i64 (a0.f6.length : Int)), (46, iV .i64 x1802)], [(17, some (.box 30 (aHist a0)))], 0⟩ [x1801 = true] (by kernel_rfl) ⟨by exact c1811, trivial⟩ ?_
                  obtain rfl := Option.some.inj H
                  exact Exists.intro _ (And.intro (fun _ _ h => h.conv (inv := [(17, 19)]) (vk := []) (e0 := []) (t := ⟨[(1, iV .i64 a1), (2, .ptr 19 0 0), (5, iV .u64 x1793), (8, bV true), (44, .im (.row (a0.f6.map eBucket))), (45, iV .i64 (a0.f6.length : Int)), (46, iV .i64 x1802)], [(19, some (.box 30 (aHist a0)))], 0⟩) (by kernel_rfl)) (And.intro rfl rfl))
                · replace H := (ifF c1811).symm.trans H
                  refine reg hP hn hm [(1, .b false)] [1, 2, 5, 8, 44, 45, 46, 52, 53, 54, 55] [17, 18] ⟨[(1, iV .i64 a1), (2, .ptr 17 0 0), (5, iV .u64 x1793), (8, bV (b1807.f0 == a1)), (44, .im (.row (a0.f6.map eBucket))), (45, iV .i64 (a0.f6.length : Int)), (46, iV .i64 x1802), (52, .ptr 18 0 0), (53, iV .i64 b1807.f0), (54, iV .i64 a1), (55, bV (b1807.f0 == a1))], [(17, some (.box 30 (aHist a0))), (18, some (.box 36 (aBucket b1807)))], 0⟩ [x1801 = false] (by kernel_rfl) ⟨by exact c1811, trivial⟩ ?_
                  obtain rfl := Option.some.inj H
                  exact Exists.intro _ (And.intro (fun _ _ h => h.conv (inv := [(17, 19)]) (vk := []) (e0 := []) (t := ⟨[(1, iV .i64 a1), (2, .ptr 19 0 0), (5, iV .u64 x1793), (8, bV (b1807.f0 == a1)), (44, .im (.row (a0.f6.map eBucket))), (45, iV .i64 (a0.f6.length : Int)), (46, iV .i64 x1802)], [(19, some (.box 30 (aHist a0)))], 0⟩) (by kernel_rfl)) (And.intro rfl rfl))
              · obtain ⟨x1812, rfl⟩ : ∃ z, z = o1835 := ⟨_, rfl⟩
                rintro e s ⟨rfl, rfl⟩
                refine reg hP hn hm [] [1, 2, 5, 8, 44, 45, 46] [19] ⟨[(1, iV .i64 a1), (2, .ptr 19 0 0), (5, iV .u64 x1793), (8, bV x1812), (44, .im (.row (a0.f6.map eBucket))), (45, iV .i64 (a0.f6.length : Int)), (46, iV .i64 (IntKind.i64.wrap (x1802 + (1 : Int))))], [(19, some (.box 30 (aHist a0)))], 0⟩ [] (by kernel_rfl) trivial ?_
                exact LWp.conv (inv := [(19, 17)]) (vk := []) (e0 := []) (t := ⟨[(1, iV .i64 a1), (2, .ptr 17 0 0), (5, iV .u64 x1793), (8, bV x1812), (44, .im (.row (a0.f6.map eBucket))), (45, iV .i64 (a0.f6.length : Int)), (46, iV .i64 (IntKind.i64.wrap (x1802 + (1 : Int))))], [(17, some (.box 30 (aHist a0)))], 0⟩) (by kernel_rfl) (ih _ _ _ H)
            · replace H := (ifF c1803).symm.trans H
              refine AWp.exit ?_
              obtain rfl := Option.some.inj H
              exact Exists.intro _ (And.intro (fun _ _ h => h.conv (inv := [(17, 20)]) (vk := []) (e0 := []) (t := ⟨[(1, iV .i64 a1), (2, .ptr 20 0 0), (5, iV .u64 x1793), (8, bV x1801)], [(20, some (.box 30 (aHist a0)))], 0⟩) (by kernel_rfl)) (And.intro rfl rfl))
          · obtain ⟨x1813, rfl⟩ : ∃ z, z = o1833 := ⟨_, rfl⟩
            rintro e s ⟨rfl, rfl⟩
            refine AWp.seq ?_
            obtain ⟨o1837, e1838, H⟩ := bind_of H
            refine AWp.mono (Q := fun e s => (match (generalizing := false) o1837 with | x1826 => e = .normal ∧ s = ⟨[(4, bV x1826)], [], 0⟩)) (AWp.cv ?_) ?_
            · replace H := e1838; clear e1838
              obtain ⟨t1820, e1821, H⟩ := bind_of H
              rcases Bool.eq_false_or_eq_true t1820 with c1822 | c1822
              · replace H := (ifT c1822).symm.trans H
                rcases Bool.eq_false_or_eq_true (x1793 == a0.f4) with c1823 | c1823
                · replace H := (ifT c1823).symm.trans H
                  obtain ⟨t1824, e1825, H⟩ := bind_of H
                  refine reg hP hn hm [(0, .call [] [] [] [] 0 (bV t1820) []), (1, .b true), (7, .b true), (10, .call [] [] [] [] 0 (iV .u64 t1824) [])] [4] [] ⟨[(4, bV ((decide (t1824 > (0 : Int))) == x1813))], [], 0⟩ [Enters Try.prog 16, Pv.Fn Try.prog 16 [] [] 0 (fun r o => r = bV t1820 ∧ o = []), t1820 = true, (x1793 == a0.f4) = true, Enters Try.prog 34, Pv.Fn Try.prog 34 [.agg (aHist a0), iV .i64 1, iV .i64 a1] [] 0 (fun r o => r = iV .u64 t1824 ∧ o = [])] (by kernel_rfl) ⟨by exact Try.call16, by exact f_pluviallaw05_awake.ok  t1820 e1821, by exact c1822, by exact c1823, by exact Try.call34, by exact f_hist_At.ok a0 1 a1 t1824 e1825, trivial⟩ ?_
                  obtain rfl := Option.some.inj H
                  exact Exists.intro _ (And.intro (fun _ _ h => h.conv (inv := []) (vk := []) (e0 := []) (t := ⟨[(4, bV ((decide (t1824 > (0 : Int))) == x1813))], [], 0⟩) (by kernel_rfl)) (And.intro rfl rfl))
                · replace H := (ifF c1823).symm.trans H
                  refine reg hP hn hm [(0, .call [] [] [] [] 0 (bV t1820) []), (1, .b true), (7, .b false)] [4] [] ⟨[(4, bV false)], [], 0⟩ [Enters Try.prog 16, Pv.Fn Try.prog 16 [] [] 0 (fun r o => r = bV t1820 ∧ o = []), t1820 = true, (x1793 == a0.f4) = false] (by kernel_rfl) ⟨by exact Try.call16, by exact f_pluviallaw05_awake.ok  t1820 e1821, by exact c1822, by exact c1823, trivial⟩ ?_
                  obtain rfl := Option.some.inj H
                  exact Exists.intro _ (And.intro (fun _ _ h => h.conv (inv := []) (vk := []) (e0 := []) (t := ⟨[(4, bV false)], [], 0⟩) (by kernel_rfl)) (And.intro rfl rfl))
              · replace H := (ifF c1822).symm.trans H
                refine reg hP hn hm [(0, .call [] [] [] [] 0 (bV t1820) []), (1, .b false)] [4] [] ⟨[(4, bV false)], [], 0⟩ [Enters Try.prog 16, Pv.Fn Try.prog 16 [] [] 0 (fun r o => r = bV t1820 ∧ o = []), t1820 = false] (by kernel_rfl) ⟨by exact Try.call16, by exact f_pluviallaw05_awake.ok  t1820 e1821, by exact c1822, trivial⟩ ?_
                obtain rfl := Option.some.inj H
                exact Exists.intro _ (And.intro (fun _ _ h => h.conv (inv := []) (vk := []) (e0 := []) (t := ⟨[(4, bV false)], [], 0⟩) (by kernel_rfl)) (And.intro rfl rfl))
            · obtain ⟨x1826, rfl⟩ : ∃ z, z = o1837 := ⟨_, rfl⟩
              rintro e s ⟨rfl, rfl⟩
              refine AWp.conv (inv := []) (vk := []) (e0 := []) (t := ⟨[(4, bV x1826)], [], 0⟩) (by kernel_rfl) ?_
              refine AWp.ret ?_
              obtain rfl := Option.some.inj H
              exact Exists.intro _ (And.intro (fun _ _ h => h) (And.intro (.inl rfl) (And.intro rfl (And.intro (by kernel_rfl) (by kernel_rfl)))))
end Go.Proofs.Ytjfhobijgkccdaa.PvGA3
