import Derived.Test.YtjfhobijgkccdaaProg
import Derived.Test.YtjfhobijgkccdaaPxHistSame06
set_option linter.unusedVariables false
set_option linter.unnecessarySimpa false
set_option linter.unusedSimpArgs false
set_option maxRecDepth 10000
namespace Go.Proofs.Ytjfhobijgkccdaa.PvGA3
open Go Go.Pv
def f_hist_Check.l0 (a0 : THist) (x944 : Int) : Option (Int ⊕ Unit) := if (decide (x944 < (2 : Int))) = true then ((((chk (0 ≤ x944 ∧ x944 < (2 : Int))) >>= fun _ => if (x944 == (0 : Int)) = true then (some a0.f6) else (some a0.f7)) : Option (List TBucket)) >>= fun x950 => (f_hist_buckets.f a0 x950) >>= fun t953 => if (t953 != (0 : Int)) = true then (some (.inl t953)) else (f_hist_Check.l0 a0 (IntKind.i64.wrap (x944 + (1 : Int))))) else (some (.inr ()))
partial_fixpoint
def f_hist_Check.f (a0 : THist) : Option (Int) := ((if (a0.f0 != (0 : Int)) = true then (some (a0.f0 != (1 : Int))) else (some false)) : Option (Bool)) >>= fun x820 => if x820 = true then (some 25) else ((f_bound_Right.f a0.f1) >>= fun t829 => if (!t829) = true then (some 20) else (((if (a0.f2 != (-524288)) = true then (if (decide (a0.f2 ≤ (-262144))) = true then (some true) else (some (decide (a0.f2 > (262144 : Int))))) else (some false)) : Option (Bool)) >>= fun x836 => if x836 = true then (some 31) else ((f_hist_Check.l0 a0 0) >>= fun oo => match oo with | .inl rr => (some rr) | .inr _ => ((f_hist_total.f [a0.f6, a0.f7, [(⟨0, a0.f3⟩ : TBucket)]]) >>= fun t958 => if (t958.2 != (0 : Int)) = true then (some t958.2) else (if (t958.1 != a0.f4) = true then (some 21) else (some 0))))))
theorem f_hist_Check.ok (a0 : THist) (r : Int) (H : f_hist_Check.f a0 = some r) : Pv.Fn Try.prog 19 [.agg (aHist a0)] [] 0 (fun x o => x = iV .i64 r ∧ o = []) := by
  unfold f_hist_Check.f at H
  refine Fn.bodyK [] Try.func19 rfl rfl (fun Γ hP hn => ?_)
  have hm : Try.prog.follows .mixedOrders = true := by kernel_rfl
  replace hn : Γ.n = 73 := hn
  refine AWp.seq ?_
  refine reg hP hn hm [(0, .k 0)] [1] [0] ⟨[(1, .ptr 0 0 0)], [(0, some (.box 30 (aHist a0)))], 0⟩ [] (by kernel_rfl) trivial ?_
  refine AWp.seq ?_
  refine AWp.block ?_
  refine AWp.seq ?_
  obtain ⟨o962, e963, H⟩ := bind_of H
  refine AWp.mono (Q := fun e s => (match (generalizing := false) o962 with | x820 => e = .normal ∧ s = ⟨[(1, .ptr 1 0 0), (8, bV x820)], [(1, some (.box 30 (aHist a0)))], 0⟩)) (AWp.cv ?_) ?_
  · replace H := e963; clear e963
    rcases Bool.eq_false_or_eq_true (a0.f0 != (0 : Int)) with c819 | c819
    · replace H := (ifT c819).symm.trans H
      refine reg hP hn hm [(3, .b true)] [1, 8] [0] ⟨[(1, .ptr 0 0 0), (8, bV (a0.f0 != (1 : Int)))], [(0, some (.box 30 (aHist a0)))], 0⟩ [(a0.f0 != (0 : Int)) = true] (by kernel_rfl) ⟨by exact c819, trivial⟩ ?_
      obtain rfl := Option.some.inj H
      exact Exists.intro _ (And.intro (fun _ _ h => h.conv (inv := [(0, 1)]) (vk := []) (e0 := []) (t := ⟨[(1, .ptr 1 0 0), (8, bV (a0.f0 != (1 : Int)))], [(1, some (.box 30 (aHist a0)))], 0⟩) (by kernel_rfl)) (And.intro rfl rfl))
    · replace H := (ifF c819).symm.trans H
      refine reg hP hn hm [(3, .b false)] [1, 8] [0] ⟨[(1, .ptr 0 0 0), (8, bV false)], [(0, some (.box 30 (aHist a0)))], 0⟩ [(a0.f0 != (0 : Int)) = false] (by kernel_rfl) ⟨by exact c819, trivial⟩ ?_
      obtain rfl := Option.some.inj H
      exact Exists.intro _ (And.intro (fun _ _ h => h.conv (inv := [(0, 1)]) (vk := []) (e0 := []) (t := ⟨[(1, .ptr 1 0 0), (8, bV false)], [(1, some (.box 30 (aHist a0)))], 0⟩) (by kernel_rfl)) (And.intro rfl rfl))
  · obtain ⟨x820, rfl⟩ : ∃ z, z = o962 := ⟨_, rfl⟩
    rintro e s ⟨rfl, rfl⟩
    refine AWp.cond x820 rfl (fun c821 => ?_) (fun c821 => ?_)
    · replace H := (ifT c821).symm.trans H
      refine AWp.seq ?_
      refine reg hP hn hm [] [2] [] ⟨[(2, iV .i64 25)], [], 0⟩ [] (by kernel_rfl) trivial ?_
      refine AWp.conv (inv := []) (vk := []) (e0 := []) (t := ⟨[(2, iV .i64 25)], [], 0⟩) (by kernel_rfl) ?_
      refine AWp.ret ?_
      obtain rfl := Option.some.inj H
      exact Exists.intro _ (And.intro (fun _ _ h => h) (And.intro (.inl rfl) (And.intro rfl (And.intro (by kernel_rfl) (by kernel_rfl)))))
    · replace H := (ifF c821).symm.trans H
      refine AWp.seq ?_
      obtain ⟨t829, e830, H⟩ := bind_of H
      refine reg hP hn hm [(2, .call [] [] [] [] 0 (bV t829) [])] [1, 17] [1] ⟨[(1, .ptr 1 0 0), (17, bV (!t829))], [(1, some (.box 30 (aHist a0)))], 0⟩ [Enters Try.prog 48, Pv.Fn Try.prog 48 [iV .i64 a0.f1] [] 0 (fun r o => r = bV t829 ∧ o = [])] (by kernel_rfl) ⟨by exact Try.call48, by exact f_bound_Right.ok a0.f1 t829 e830, trivial⟩ ?_
      refine AWp.cond (!t829) rfl (fun c831 => ?_) (fun c831 => ?_)
      · replace H := (ifT c831).symm.trans H
        refine AWp.seq ?_
        refine reg hP hn hm [] [2] [] ⟨[(2, iV .i64 20)], [], 0⟩ [] (by kernel_rfl) trivial ?_
        refine AWp.conv (inv := []) (vk := []) (e0 := []) (t := ⟨[(2, iV .i64 20)], [], 0⟩) (by kernel_rfl) ?_
        refine AWp.ret ?_
        obtain rfl := Option.some.inj H
        exact Exists.intro _ (And.intro (fun _ _ h => h) (And.intro (.inl rfl) (And.intro rfl (And.intro (by kernel_rfl) (by kernel_rfl)))))
      · replace H := (ifF c831).symm.trans H
        refine AWp.seq ?_
        obtain ⟨o964, e965, H⟩ := bind_of H
        refine AWp.mono (Q := fun e s => (match (generalizing := false) o964 with | x836 => e = .normal ∧ s = ⟨[(1, .ptr 2 0 0), (22, bV x836)], [(2, some (.box 30 (aHist a0)))], 0⟩)) (AWp.cv ?_) ?_
        · replace H := e965; clear e965
          rcases Bool.eq_false_or_eq_true (a0.f2 != (-524288)) with c834 | c834
          · replace H := (ifT c834).symm.trans H
            rcases Bool.eq_false_or_eq_true (decide (a0.f2 ≤ (-262144))) with c835 | c835
            · replace H := (ifT c835).symm.trans H
              refine reg hP hn hm [(3, .b true), (7, .b true)] [1, 22] [1] ⟨[(1, .ptr 1 0 0), (22, bV true)], [(1, some (.box 30 (aHist a0)))], 0⟩ [(a0.f2 != (-524288)) = true, (decide (a0.f2 ≤ (-262144))) = true] (by kernel_rfl) ⟨by exact c834, by exact c835, trivial⟩ ?_
              obtain rfl := Option.some.inj H
              exact Exists.intro _ (And.intro (fun _ _ h => h.conv (inv := [(1, 2)]) (vk := []) (e0 := []) (t := ⟨[(1, .ptr 2 0 0), (22, bV true)], [(2, some (.box 30 (aHist a0)))], 0⟩) (by kernel_rfl)) (And.intro rfl rfl))
            · replace H := (ifF c835).symm.trans H
              refine reg hP hn hm [(3, .b true), (7, .b false)] [1, 22] [1] ⟨[(1, .ptr 1 0 0), (22, bV (decide (a0.f2 > (262144 : Int))))], [(1, some (.box 30 (aHist a0)))], 0⟩ [(a0.f2 != (-524288)) = true, (decide (a0.f2 ≤ (-262144))) = false] (by kernel_rfl) ⟨by exact c834, by exact c835, trivial⟩ ?_
              obtain rfl := Option.some.inj H
              exact Exists.intro _ (And.intro (fun _ _ h => h.conv (inv := [(1, 2)]) (vk := []) (e0 := []) (t := ⟨[(1, .ptr 2 0 0), (22, bV (decide (a0.f2 > (262144 : Int))))], [(2, some (.box 30 (aHist a0)))], 0⟩) (by kernel_rfl)) (And.intro rfl rfl))
          · replace H := (ifF c834).symm.trans H
            refine reg hP hn hm [(3, .b false)] [1, 22] [1] ⟨[(1, .ptr 1 0 0), (22, bV false)], [(1, some (.box 30 (aHist a0)))], 0⟩ [(a0.f2 != (-524288)) = false] (by kernel_rfl) ⟨by exact c834, trivial⟩ ?_
            obtain rfl := Option.some.inj H
            exact Exists.intro _ (And.intro (fun _ _ h => h.conv (inv := [(1, 2)]) (vk := []) (e0 := []) (t := ⟨[(1, .ptr 2 0 0), (22, bV false)], [(2, some (.box 30 (aHist a0)))], 0⟩) (by kernel_rfl)) (And.intro rfl rfl))
        · obtain ⟨x836, rfl⟩ : ∃ z, z = o964 := ⟨_, rfl⟩
          rintro e s ⟨rfl, rfl⟩
          refine AWp.cond x836 rfl (fun c837 => ?_) (fun c837 => ?_)
          · replace H := (ifT c837).symm.trans H
            refine AWp.seq ?_
            refine reg hP hn hm [] [2] [] ⟨[(2, iV .i64 31)], [], 0⟩ [] (by kernel_rfl) trivial ?_
            refine AWp.conv (inv := []) (vk := []) (e0 := []) (t := ⟨[(2, iV .i64 31)], [], 0⟩) (by kernel_rfl) ?_
            refine AWp.ret ?_
            obtain rfl := Option.some.inj H
            exact Exists.intro _ (And.intro (fun _ _ h => h) (And.intro (.inl rfl) (And.intro rfl (And.intro (by kernel_rfl) (by kernel_rfl)))))
          · replace H := (ifF c837).symm.trans H
            refine AWp.skip ?_
            refine AWp.seq ?_
            refine AWp.seq ?_
            refine reg hP hn hm [] [1, 40, 41] [2] ⟨[(1, .ptr 2 0 0), (40, .agg [.im (.row (a0.f6.map eBucket)), .im (.row (a0.f7.map eBucket))]), (41, iV .i64 0)], [(2, some (.box 30 (aHist a0)))], 0⟩ [] (by kernel_rfl) trivial ?_
            refine AWp.block ?_
            obtain ⟨o966, e967, H⟩ := bind_of H
            refine AWp.loop (LWp.conv (inv := [(2, 3)]) (vk := []) (e0 := []) (t := ⟨[(1, .ptr 3 0 0), (40, .agg [.im (.row (a0.f6.map eBucket)), .im (.row (a0.f7.map eBucket))]), (41, iV .i64 0)], [(3, some (.box 30 (aHist a0)))], 0⟩) (by kernel_rfl) ?_)
            refine LWp.mono (Q := fun e s => (match (generalizing := false) o966 with | .inl rr => e = .ret ∧ s.floor = 0 ∧ resOf Try.prog Try.f19 s = some (iV .i64 rr) ∧ ([] : List (Nat × Option MObj)) = [] | .inr _ => e = .exit 1 ∧ s = ⟨[(1, .ptr 5 0 0)], [(5, some (.box 30 (aHist a0)))], 0⟩)) (LWp.cv (withBody (fun body hbody => ?_))) ?_
            · refine f_hist_Check.l0.partial_correctness a0 (motive := fun x944 o966 => LWp Γ body (fun e s => ∃ t, Cv Γ s t ∧ (match (generalizing := false) o966 with | .inl rr => e = .ret ∧ t.floor = 0 ∧ resOf Try.prog Try.f19 t = some (iV .i64 rr) ∧ ([] : List (Nat × Option MObj)) = [] | .inr _ => e = .exit 1 ∧ t = ⟨[(1, .ptr 5 0 0)], [(5, some (.box 30 (aHist a0)))], 0⟩)) ⟨[(1, .ptr 3 0 0), (40, .agg [.im (.row (a0.f6.map eBucket)), .im (.row (a0.f7.map eBucket))]), (41, iV .i64 x944)], [(3, some (.box 30 (aHist a0)))], 0⟩) ?_ _ _ e967
              clear H e967 o966; intro self ih x944 o966 H
              subst hbody
              refine LWp.round ?_
              refine AWp.seq ?_
              refine reg hP hn hm [] [1, 40, 41, 42] [3] ⟨[(1, .ptr 3 0 0), (40, .agg [.im (.row (a0.f6.map eBucket)), .im (.row (a0.f7.map eBucket))]), (41, iV .i64 x944), (42, bV (decide (x944 < (2 : Int))))], [(3, some (.box 30 (aHist a0)))], 0⟩ [] (by kernel_rfl) trivial ?_
              refine AWp.seq ?_
              refine AWp.cond (decide (x944 < (2 : Int))) rfl (fun c945 => ?_) (fun c945 => ?_)
              · replace H := (ifT c945).symm.trans H
                refine AWp.skip ?_
                refine AWp.seq ?_
                refine AWp.block ?_
                refine AWp.seq ?_
                obtain ⟨o968, e969, H⟩ := bind_of H
                refine AWp.mono (Q := fun e s => (match (generalizing := false) o968 with | x950 => e = .normal ∧ s = ⟨[(1, .ptr 4 0 0), (4, .im (.row (x950.map eBucket))), (40, .agg [.im (.row (a0.f6.map eBucket)), .im (.row (a0.f7.map eBucket))]), (41, iV .i64 x944)], [(4, some (.box 30 (aHist a0)))], 0⟩)) (AWp.cv ?_) ?_
                · replace H := e969; clear e969
                  obtain ⟨c948, H⟩ := chk_of H
                  rcases Bool.eq_false_or_eq_true (x944 == (0 : Int)) with c949 | c949
                  · replace H := (ifT c949).symm.trans H
                    refine reg hP hn hm [(0, .more (xIdx 0))] [1, 4, 40, 41] [3] ⟨[(1, .ptr 3 0 0), (4, .im (.row (a0.f6.map eBucket))), (40, .agg [.im (.row (a0.f6.map eBucket)), .im (.row (a0.f7.map eBucket))]), (41, iV .i64 x944)], [(3, some (.box 30 (aHist a0)))], 0⟩ [x944 = ((0 : Nat) : Int)] (by kernel_rfl) ⟨by exact (by simpa using c949), trivial⟩ ?_
                    obtain rfl := Option.some.inj H
                    exact Exists.intro _ (And.intro (fun _ _ h => h.conv (inv := [(3, 4)]) (vk := []) (e0 := []) (t := ⟨[(1, .ptr 4 0 0), (4, .im (.row (a0.f6.map eBucket))), (40, .agg [.im (.row (a0.f6.map eBucket)), .im (.row (a0.f7.map eBucket))]), (41, iV .i64 x944)], [(4, some (.box 30 (aHist a0)))], 0⟩) (by kernel_rfl)) (And.intro rfl rfl))
                  · replace H := (ifF c949).symm.trans H
                    refine reg hP hn hm [(0, .more (xIdx 1))] [1, 4, 40, 41] [3] ⟨[(1, .ptr 3 0 0), (4, .im (.row (a0.f7.map eBucket))), (40, .agg [.im (.row (a0.f6.map eBucket)), .im (.row (a0.f7.map eBucket))]), (41, iV .i64 x944)], [(3, some (.box 30 (aHist a0)))], 0⟩ [x944 = ((1 : Nat) : Int)] (by kernel_rfl) ⟨by have := c948; simp only [beq_eq_false_iff_ne] at *; omega, trivial⟩ ?_
                    obtain rfl := Option.some.inj H
                    exact Exists.intro _ (And.intro (fun _ _ h => h.conv (inv := [(3, 4)]) (vk := []) (e0 := []) (t := ⟨[(1, .ptr 4 0 0), (4, .im (.row (a0.f7.map eBucket))), (40, .agg [.im (.row (a0.f6.map eBucket)), .im (.row (a0.f7.map eBucket))]), (41, iV .i64 x944)], [(4, some (.box 30 (aHist a0)))], 0⟩) (by kernel_rfl)) (And.intro rfl rfl))
                · obtain ⟨x950, rfl⟩ : ∃ z, z = o968 := ⟨_, rfl⟩
                  rintro e s ⟨rfl, rfl⟩
                  refine AWp.seq ?_
                  obtain ⟨t953, e954, H⟩ := bind_of H
                  refine reg hP hn hm [(2, .call [] [] [] [] 0 (iV .i64 t953) [])] [1, 5, 40, 41] [4] ⟨[(1, .ptr 4 0 0), (5, iV .i64 t953), (40, .agg [.im (.row (a0.f6.map eBucket)), .im (.row (a0.f7.map eBucket))]), (41, iV .i64 x944)], [(4, some (.box 30 (aHist a0)))], 0⟩ [Enters Try.prog 49, Pv.Fn Try.prog 49 [.agg (aHist a0), .im (.row (x950.map eBucket))] [] 0 (fun r o => r = iV .i64 t953 ∧ o = [])] (by kernel_rfl) ⟨by exact Try.call49, by exact f_hist_buckets.ok a0 x950 t953 e954, trivial⟩ ?_
                  refine AWp.seq ?_
                  refine reg hP hn hm [] [1, 5, 40, 41, 48] [4] ⟨[(1, .ptr 4 0 0), (5, iV .i64 t953), (40, .agg [.im (.row (a0.f6.map eBucket)), .im (.row (a0.f7.map eBucket))]), (41, iV .i64 x944), (48, bV (t953 != (0 : Int)))], [(4, some (.box 30 (aHist a0)))], 0⟩ [] (by kernel_rfl) trivial ?_
                  refine AWp.cond (t953 != (0 : Int)) rfl (fun c955 => ?_) (fun c955 => ?_)
                  · replace H := (ifT c955).symm.trans H
                    refine AWp.seq ?_
                    refine reg hP hn hm [] [2] [] ⟨[(2, iV .i64 t953)], [], 0⟩ [] (by kernel_rfl) trivial ?_
                    refine AWp.conv (inv := []) (vk := []) (e0 := []) (t := ⟨[(2, iV .i64 t953)], [], 0⟩) (by kernel_rfl) ?_
                    refine AWp.ret ?_
                    obtain rfl := Option.some.inj H
                    exact Exists.intro _ (And.intro (fun _ _ h => h) (And.intro rfl (And.intro rfl (And.intro (by kernel_rfl) (by kernel_rfl)))))
                  · replace H := (ifF c955).symm.trans H
                    refine AWp.skip ?_
                    refine reg hP hn hm [] [1, 40, 41] [4] ⟨[(1, .ptr 4 0 0), (40, .agg [.im (.row (a0.f6.map eBucket)), .im (.row (a0.f7.map eBucket))]), (41, iV .i64 (IntKind.i64.wrap (x944 + (1 : Int))))], [(4, some (.box 30 (aHist a0)))], 0⟩ [] (by kernel_rfl) trivial ?_
                    exact LWp.conv (inv := [(4, 3)]) (vk := []) (e0 := []) (t := ⟨[(1, .ptr 3 0 0), (40, .agg [.im (.row (a0.f6.map eBucket)), .im (.row (a0.f7.map eBucket))]), (41, iV .i64 (IntKind.i64.wrap (x944 + (1 : Int))))], [(3, some (.box 30 (aHist a0)))], 0⟩) (by kernel_rfl) (ih _ _ H)
              · replace H := (ifF c945).symm.trans H
                refine AWp.exit ?_
                obtain rfl := Option.some.inj H
                exact Exists.intro _ (And.intro (fun _ _ h => h.conv (inv := [(3, 5)]) (vk := []) (e0 := []) (t := ⟨[(1, .ptr 5 0 0)], [(5, some (.box 30 (aHist a0)))], 0⟩) (by kernel_rfl)) (And.intro rfl rfl))
            · rcases o966 with rr | _
              · skip
                rintro e s ⟨rfl, hfl, hres⟩
                obtain rfl := Option.some.inj H
                exact Exists.intro _ (And.intro (fun _ _ h => h) (And.intro (.inl rfl) (And.intro hfl hres)))
              · skip
                rintro e s ⟨rfl, rfl⟩
                refine AWp.seq ?_
                obtain ⟨t958, e959, H⟩ := bind_of H
                refine reg hP hn hm [(7, .more (xFz (.app 6 ([(⟨0, a0.f3⟩ : TBucket)].map eBucket)))), (8, .app 7 ([a0.f6, a0.f7, [(⟨0, a0.f3⟩ : TBucket)]].map (encRow eBucket))), (9, .call [] [] [7] [] 0 (.tup [iV .u64 t958.1, iV .i64 t958.2]) [])] [1, 6, 7] [5] ⟨[(1, .ptr 5 0 0), (6, iV .u64 t958.1), (7, iV .i64 t958.2)], [(5, some (.box 30 (aHist a0)))], 0⟩ [[(⟨0, a0.f3⟩ : TBucket)].map eBucket = [[iI .i64 0, iI .u64 a0.f3]], [a0.f6, a0.f7, [(⟨0, a0.f3⟩ : TBucket)]].map (encRow eBucket) = [[.row (a0.f6.map eBucket)], [.row (a0.f7.map eBucket)], [.row ([(⟨0, a0.f3⟩ : TBucket)].map eBucket)]], Enters Try.prog 46, Pv.Fn Try.prog 46 [.im (.row ([a0.f6, a0.f7, [(⟨0, a0.f3⟩ : TBucket)]].map (encRow eBucket)))] [] 0 (fun r o => r = .tup [iV .u64 t958.1, iV .i64 t958.2] ∧ o = [])] (by kernel_rfl) ⟨by exact rfl, by exact rfl, by exact Try.call46, by exact f_hist_total.ok [a0.f6, a0.f7, [(⟨0, a0.f3⟩ : TBucket)]] t958 e959, trivial⟩ ?_
                refine AWp.seq ?_
                refine AWp.block ?_
                refine AWp.seq ?_
                refine reg hP hn hm [] [1, 6, 7, 64] [5] ⟨[(1, .ptr 5 0 0), (6, iV .u64 t958.1), (7, iV .i64 t958.2), (64, bV (t958.2 != (0 : Int)))], [(5, some (.box 30 (aHist a0)))], 0⟩ [] (by kernel_rfl) trivial ?_
                refine AWp.cond (t958.2 != (0 : Int)) rfl (fun c960 => ?_) (fun c960 => ?_)
                · replace H := (ifT c960).symm.trans H
                  refine AWp.seq ?_
                  refine reg hP hn hm [] [2] [] ⟨[(2, iV .i64 t958.2)], [], 0⟩ [] (by kernel_rfl) trivial ?_
                  refine AWp.conv (inv := []) (vk := []) (e0 := []) (t := ⟨[(2, iV .i64 t958.2)], [], 0⟩) (by kernel_rfl) ?_
                  refine AWp.ret ?_
                  obtain rfl := Option.some.inj H
                  exact Exists.intro _ (And.intro (fun _ _ h => h) (And.intro (.inl rfl) (And.intro rfl (And.intro (by kernel_rfl) (by kernel_rfl)))))
                · replace H := (ifF c960).symm.trans H
                  refine AWp.seq ?_
                  refine reg hP hn hm [] [68] [] ⟨[(68, bV (t958.1 != a0.f4))], [], 0⟩ [] (by kernel_rfl) trivial ?_
                  refine AWp.cond (t958.1 != a0.f4) rfl (fun c961 => ?_) (fun c961 => ?_)
                  · replace H := (ifT c961).symm.trans H
                    refine AWp.seq ?_
                    refine reg hP hn hm [] [2] [] ⟨[(2, iV .i64 21)], [], 0⟩ [] (by kernel_rfl) trivial ?_
                    refine AWp.conv (inv := []) (vk := []) (e0 := []) (t := ⟨[(2, iV .i64 21)], [], 0⟩) (by kernel_rfl) ?_
                    refine AWp.ret ?_
                    obtain rfl := Option.some.inj H
                    exact Exists.intro _ (And.intro (fun _ _ h => h) (And.intro (.inl rfl) (And.intro rfl (And.intro (by kernel_rfl) (by kernel_rfl)))))
                  · replace H := (ifF c961).symm.trans H
                    refine AWp.skip ?_
                    refine AWp.seq ?_
                    refine reg hP hn hm [] [2] [] ⟨[(2, iV .i64 0)], [], 0⟩ [] (by kernel_rfl) trivial ?_
                    refine AWp.conv (inv := []) (vk := []) (e0 := []) (t := ⟨[(2, iV .i64 0)], [], 0⟩) (by kernel_rfl) ?_
                    refine AWp.ret ?_
                    obtain rfl := Option.some.inj H
                    exact Exists.intro _ (And.intro (fun _ _ h => h) (And.intro (.inl rfl) (And.intro rfl (And.intro (by kernel_rfl) (by kernel_rfl)))))
def f_hist_Make.f (a0 : THist) (a1 : List TBucket) (a2 : List TBucket) : Option (THist × Int) := (f_hist_tidy.f a1) >>= fun t729 => (f_hist_tidy.f a2) >>= fun t733 => if ((if t733.2 > t729.2 then t733.2 else t729.2) != (0 : Int)) = true then (some ((⟨0, 0, 0, 0, 0, 0, [], []⟩ : THist), (if t733.2 > t729.2 then t733.2 else t729.2))) else ((f_hist_total.f [t729.1, t733.1, [(⟨0, a0.f3⟩ : TBucket)]]) >>= fun t815 => if (t815.2 != (0 : Int)) = true then (some ((⟨0, 0, 0, 0, 0, 0, [], []⟩ : THist), t815.2)) else ((f_hist_Check.f (⟨a0.f0, a0.f1, a0.f2, a0.f3, t815.1, a0.f5, t729.1, t733.1⟩ : THist)) >>= fun t972 => if (t972 != (0 : Int)) = true then (some ((⟨0, 0, 0, 0, 0, 0, [], []⟩ : THist), t972)) else (some ((⟨a0.f0, a0.f1, a0.f2, a0.f3, t815.1, a0.f5, t729.1, t733.1⟩ : THist), 0))))
theorem f_hist_Make.ok (a0 : THist) (a1 : List TBucket) (a2 : List TBucket) (r : THist × Int) (H : f_hist_Make.f a0 a1 a2 = some r) : Pv.Fn Try.prog 17 [.agg (aHist a0), .im (.row (a1.map eBucket)), .im (.row (a2.map eBucket))] [] 0 (fun x o => x = .tup [.agg (aHist (r.1)), iV .i64 r.2] ∧ o = []) := by
  unfold f_hist_Make.f at H
  refine Fn.bodyK [] Try.func17 rfl rfl (fun Γ hP hn => ?_)
  have hm : Try.prog.follows .mixedOrders = true := by kernel_rfl
  replace hn : Γ.n = 55 := hn
  refine AWp.seq ?_
  refine reg hP hn hm [(0, .k 0), (1, .k 1)] [1, 2, 3, 6] [0, 1] ⟨[(1, .im (.row (a1.map eBucket))), (2, .im (.row (a2.map eBucket))), (3, .ptr 0 0 0), (6, .ptr 1 0 0)], [(0, some (.box 30 (aHist a0))), (1, some (.box 30 [iV .i64 0, iV .i64 0, iV .i64 0, iV .u64 0, iV .u64 0, iV .i64 0, .none0, .none0]))], 0⟩ [] (by kernel_rfl) trivial ?_
  refine AWp.seq ?_
  refine reg hP hn hm [] [1, 2, 3, 6] [0, 1] ⟨[(1, .im (.row (a1.map eBucket))), (2, .im (.row (a2.map eBucket))), (3, .ptr 0 0 0), (6, .ptr 1 0 0)], [(0, some (.box 30 (aHist a0))), (1, some (.box 30 [iV .i64 0, iV .i64 0, iV .i64 0, iV .u64 0, iV .u64 0, iV .i64 0, .none0, .none0]))], 0⟩ [] (by kernel_rfl) trivial ?_
  refine AWp.seq ?_
  obtain ⟨t729, e730, H⟩ := bind_of H
  refine reg hP hn hm [(1, .call [] [(0, 2)] [] [2] 0 (.tup [.own 0, iV .i64 t729.2]) [(0, some (.row 2 36 (t729.1.map eBucket)))])] [2, 3, 6, 8] [0, 1, 2] ⟨[(2, .im (.row (a2.map eBucket))), (3, .ptr 0 0 0), (6, .ptr 1 0 0), (8, iV .i64 t729.2)], [(0, some (.box 30 [iV .i64 a0.f0, iV .i64 a0.f1, iV .i64 a0.f2, iV .u64 a0.f3, iV .u64 a0.f4, iV .i64 a0.f5, .own 2, .im (.row (a0.f7.map eBucket))])), (1, some (.box 30 [iV .i64 0, iV .i64 0, iV .i64 0, iV .u64 0, iV .u64 0, iV .i64 0, .none0, .none0])), (2, some (.row 2 36 (t729.1.map eBucket)))], 0⟩ [Enters Try.prog 45, Pv.Fn Try.prog 45 [.im (.row (a1.map eBucket))] [] 0 (fun r o => r = .tup [.own 0, iV .i64 t729.2] ∧ o = [(0, some (.row 2 36 (t729.1.map eBucket)))])] (by kernel_rfl) ⟨by exact Try.call45, by exact f_hist_tidy.ok a1 t729 e730, trivial⟩ ?_
  refine AWp.seq ?_
  obtain ⟨t733, e734, H⟩ := bind_of H
  refine reg hP hn hm [(1, .call [] [(0, 3)] [] [3] 0 (.tup [.own 0, iV .i64 t733.2]) [(0, some (.row 2 36 (t733.1.map eBucket)))])] [3, 6, 8, 9] [0, 1, 2, 3] ⟨[(3, .ptr 0 0 0), (6, .ptr 1 0 0), (8, iV .i64 t729.2), (9, iV .i64 t733.2)], [(0, some (.box 30 [iV .i64 a0.f0, iV .i64 a0.f1, iV .i64 a0.f2, iV .u64 a0.f3, iV .u64 a0.f4, iV .i64 a0.f5, .own 2, .own 3])), (1, some (.box 30 [iV .i64 0, iV .i64 0, iV .i64 0, iV .u64 0, iV .u64 0, iV .i64 0, .none0, .none0])), (2, some (.row 2 36 (t729.1.map eBucket))), (3, some (.row 2 36 (t733.1.map eBucket)))], 0⟩ [Enters Try.prog 45, Pv.Fn Try.prog 45 [.im (.row (a2.map eBucket))] [] 0 (fun r o => r = .tup [.own 0, iV .i64 t733.2] ∧ o = [(0, some (.row 2 36 (t733.1.map eBucket)))])] (by kernel_rfl) ⟨by exact Try.call45, by exact f_hist_tidy.ok a2 t733 e734, trivial⟩ ?_
  refine AWp.seq ?_
  refine AWp.seq ?_
  refine reg hP hn hm [(2, .more xMax)] [3, 6, 8] [0, 1, 2, 3] ⟨[(3, .ptr 0 0 0), (6, .ptr 1 0 0), (8, iV .i64 (if t733.2 > t729.2 then t733.2 else t729.2))], [(0, some (.box 30 [iV .i64 a0.f0, iV .i64 a0.f1, iV .i64 a0.f2, iV .u64 a0.f3, iV .u64 a0.f4, iV .i64 a0.f5, .own 2, .own 3])), (1, some (.box 30 [iV .i64 0, iV .i64 0, iV .i64 0, iV .u64 0, iV .u64 0, iV .i64 0, .none0, .none0])), (2, some (.row 2 36 (t729.1.map eBucket))), (3, some (.row 2 36 (t733.1.map eBucket)))], 0⟩ [] (by kernel_rfl) trivial ?_
  refine AWp.seq ?_
  refine reg hP hn hm [] [3, 6, 8, 27] [0, 1, 2, 3] ⟨[(3, .ptr 0 0 0), (6, .ptr 1 0 0), (8, iV .i64 (if t733.2 > t729.2 then t733.2 else t729.2)), (27, bV ((if t733.2 > t729.2 then t733.2 else t729.2) != (0 : Int)))], [(0, some (.box 30 [iV .i64 a0.f0, iV .i64 a0.f1, iV .i64 a0.f2, iV .u64 a0.f3, iV .u64 a0.f4, iV .i64 a0.f5, .own 2, .own 3])), (1, some (.box 30 [iV .i64 0, iV .i64 0, iV .i64 0, iV .u64 0, iV .u64 0, iV .i64 0, .none0, .none0])), (2, some (.row 2 36 (t729.1.map eBucket))), (3, some (.row 2 36 (t733.1.map eBucket)))], 0⟩ [] (by kernel_rfl) trivial ?_
  refine AWp.cond ((if t733.2 > t729.2 then t733.2 else t729.2) != (0 : Int)) rfl (fun c735 => ?_) (fun c735 => ?_)
  · replace H := (ifT c735).symm.trans H
    refine AWp.seq ?_
    refine reg hP hn hm [] [6, 7] [1] ⟨[(6, .ptr 1 0 0), (7, iV .i64 (if t733.2 > t729.2 then t733.2 else t729.2))], [(1, some (.box 30 [iV .i64 0, iV .i64 0, iV .i64 0, iV .u64 0, iV .u64 0, iV .i64 0, .none0, .none0]))], 0⟩ [] (by kernel_rfl) trivial ?_
    refine AWp.conv (inv := [(1, 0)]) (vk := []) (e0 := []) (t := ⟨[(6, .ptr 0 0 0), (7, iV .i64 (if t733.2 > t729.2 then t733.2 else t729.2))], [(0, some (.box 30 (aHist ((⟨0, 0, 0, 0, 0, 0, [], []⟩ : THist)))))], 0⟩) (by kernel_rfl) ?_
    refine AWp.ret ?_
    obtain rfl := Option.some.inj H
    exact Exists.intro _ (And.intro (fun _ _ h => h) (And.intro (.inl rfl) (And.intro rfl (And.intro (by kernel_rfl) (by kernel_rfl)))))
  · replace H := (ifF c735).symm.trans H
    refine AWp.skip ?_
    refine AWp.seq ?_
    refine AWp.seq ?_
    refine AWp.conv (inv := [(0, 0), (1, 1)]) (vk := [2, 3]) (e0 := []) (t := ⟨[(3, .ptr 0 0 0), (6, .ptr 1 0 0), (8, iV .i64 (if t733.2 > t729.2 then t733.2 else t729.2)), (27, bV ((if t733.2 > t729.2 then t733.2 else t729.2) != (0 : Int)))], [(0, some (.box 30 (aHist ⟨a0.f0, a0.f1, a0.f2, a0.f3, a0.f4, a0.f5, t729.1, t733.1⟩))), (1, some (.box 30 [iV .i64 0, iV .i64 0, iV .i64 0, iV .u64 0, iV .u64 0, iV .i64 0, .none0, .none0]))], 0⟩) (by kernel_rfl) ?_
    obtain ⟨t815, e816, H⟩ := bind_of H
    refine reg hP hn hm [(7, .more (xFz (.app 4 ([(⟨0, a0.f3⟩ : TBucket)].map eBucket)))), (8, .app 5 ([t729.1, t733.1, [(⟨0, a0.f3⟩ : TBucket)]].map (encRow eBucket))), (9, .call [] [] [5] [] 0 (.tup [iV .u64 t815.1, iV .i64 t815.2]) [])] [3, 6, 8] [0, 1] ⟨[(3, .ptr 0 0 0), (6, .ptr 1 0 0), (8, iV .i64 t815.2)], [(0, some (.box 30 (aHist ⟨a0.f0, a0.f1, a0.f2, a0.f3, t815.1, a0.f5, t729.1, t733.1⟩))), (1, some (.box 30 [iV .i64 0, iV .i64 0, iV .i64 0, iV .u64 0, iV .u64 0, iV .i64 0, .none0, .none0]))], 0⟩ [[(⟨0, a0.f3⟩ : TBucket)].map eBucket = [[iI .i64 0, iI .u64 a0.f3]], [t729.1, t733.1, [(⟨0, a0.f3⟩ : TBucket)]].map (encRow eBucket) = [[.row (t729.1.map eBucket)], [.row (t733.1.map eBucket)], [.row ([(⟨0, a0.f3⟩ : TBucket)].map eBucket)]], Enters Try.prog 46, Pv.Fn Try.prog 46 [.im (.row ([t729.1, t733.1, [(⟨0, a0.f3⟩ : TBucket)]].map (encRow eBucket)))] [] 0 (fun r o => r = .tup [iV .u64 t815.1, iV .i64 t815.2] ∧ o = [])] (by kernel_rfl) ⟨by exact rfl, by exact rfl, by exact Try.call46, by exact f_hist_total.ok [t729.1, t733.1, [(⟨0, a0.f3⟩ : TBucket)]] t815 e816, trivial⟩ ?_
    refine AWp.seq ?_
    refine reg hP hn hm [] [3, 6, 8, 45] [0, 1] ⟨[(3, .ptr 0 0 0), (6, .ptr 1 0 0), (8, iV .i64 t815.2), (45, bV (t815.2 != (0 : Int)))], [(0, some (.box 30 (aHist ⟨a0.f0, a0.f1, a0.f2, a0.f3, t815.1, a0.f5, t729.1, t733.1⟩))), (1, some (.box 30 [iV .i64 0, iV .i64 0, iV .i64 0, iV .u64 0, iV .u64 0, iV .i64 0, .none0, .none0]))], 0⟩ [] (by kernel_rfl) trivial ?_
    refine AWp.cond (t815.2 != (0 : Int)) rfl (fun c817 => ?_) (fun c817 => ?_)
    · replace H := (ifT c817).symm.trans H
      refine AWp.seq ?_
      refine reg hP hn hm [] [6, 7] [1] ⟨[(6, .ptr 1 0 0), (7, iV .i64 t815.2)], [(1, some (.box 30 [iV .i64 0, iV .i64 0, iV .i64 0, iV .u64 0, iV .u64 0, iV .i64 0, .none0, .none0]))], 0⟩ [] (by kernel_rfl) trivial ?_
      refine AWp.conv (inv := [(1, 0)]) (vk := []) (e0 := []) (t := ⟨[(6, .ptr 0 0 0), (7, iV .i64 t815.2)], [(0, some (.box 30 (aHist ((⟨0, 0, 0, 0, 0, 0, [], []⟩ : THist)))))], 0⟩) (by kernel_rfl) ?_
      refine AWp.ret ?_
      obtain rfl := Option.some.inj H
      exact Exists.intro _ (And.intro (fun _ _ h => h) (And.intro (.inl rfl) (And.intro rfl (And.intro (by kernel_rfl) (by kernel_rfl)))))
    · replace H := (ifF c817).symm.trans H
      refine AWp.skip ?_
      refine AWp.seq ?_
      refine AWp.seq ?_
      obtain ⟨t972, e973, H⟩ := bind_of H
      refine reg hP hn hm [(1, .call [] [] [] [] 0 (iV .i64 t972) [])] [3, 6, 10] [0, 1] ⟨[(3, .ptr 0 0 0), (6, .ptr 1 0 0), (10, iV .i64 t972)], [(0, some (.box 30 (aHist ⟨a0.f0, a0.f1, a0.f2, a0.f3, t815.1, a0.f5, t729.1, t733.1⟩))), (1, some (.box 30 [iV .i64 0, iV .i64 0, iV .i64 0, iV .u64 0, iV .u64 0, iV .i64 0, .none0, .none0]))], 0⟩ [Enters Try.prog 19, Pv.Fn Try.prog 19 [.agg (aHist ⟨a0.f0, a0.f1, a0.f2, a0.f3, t815.1, a0.f5, t729.1, t733.1⟩)] [] 0 (fun r o => r = iV .i64 t972 ∧ o = [])] (by kernel_rfl) ⟨by exact Try.call19, by exact f_hist_Check.ok (⟨a0.f0, a0.f1, a0.f2, a0.f3, t815.1, a0.f5, t729.1, t733.1⟩ : THist) t972 e973, trivial⟩ ?_
      refine AWp.seq ?_
      refine reg hP hn hm [] [3, 6, 10, 51] [0, 1] ⟨[(3, .ptr 0 0 0), (6, .ptr 1 0 0), (10, iV .i64 t972), (51, bV (t972 != (0 : Int)))], [(0, some (.box 30 (aHist ⟨a0.f0, a0.f1, a0.f2, a0.f3, t815.1, a0.f5, t729.1, t733.1⟩))), (1, some (.box 30 [iV .i64 0, iV .i64 0, iV .i64 0, iV .u64 0, iV .u64 0, iV .i64 0, .none0, .none0]))], 0⟩ [] (by kernel_rfl) trivial ?_
      refine AWp.cond (t972 != (0 : Int)) rfl (fun c974 => ?_) (fun c974 => ?_)
      · replace H := (ifT c974).symm.trans H
        refine AWp.seq ?_
        refine reg hP hn hm [] [6, 7] [1] ⟨[(6, .ptr 1 0 0), (7, iV .i64 t972)], [(1, some (.box 30 [iV .i64 0, iV .i64 0, iV .i64 0, iV .u64 0, iV .u64 0, iV .i64 0, .none0, .none0]))], 0⟩ [] (by kernel_rfl) trivial ?_
        refine AWp.conv (inv := [(1, 0)]) (vk := []) (e0 := []) (t := ⟨[(6, .ptr 0 0 0), (7, iV .i64 t972)], [(0, some (.box 30 (aHist ((⟨0, 0, 0, 0, 0, 0, [], []⟩ : THist)))))], 0⟩) (by kernel_rfl) ?_
        refine AWp.ret ?_
        obtain rfl := Option.some.inj H
        exact Exists.intro _ (And.intro (fun _ _ h => h) (And.intro (.inl rfl) (And.intro rfl (And.intro (by kernel_rfl) (by kernel_rfl)))))
      · replace H := (ifF c974).symm.trans H
        refine AWp.skip ?_
        refine AWp.seq ?_
        refine reg hP hn hm [] [6, 7] [1] ⟨[(6, .ptr 1 0 0), (7, iV .i64 0)], [(1, some (.box 30 (aHist ⟨a0.f0, a0.f1, a0.f2, a0.f3, t815.1, a0.f5, t729.1, t733.1⟩)))], 0⟩ [] (by kernel_rfl) trivial ?_
        refine AWp.conv (inv := [(1, 0)]) (vk := []) (e0 := []) (t := ⟨[(6, .ptr 0 0 0), (7, iV .i64 0)], [(0, some (.box 30 (aHist ((⟨a0.f0, a0.f1, a0.f2, a0.f3, t815.1, a0.f5, t729.1, t733.1⟩ : THist)))))], 0⟩) (by kernel_rfl) ?_
        refine AWp.ret ?_
        obtain rfl := Option.some.inj H
        exact Exists.intro _ (And.intro (fun _ _ h => h) (And.intro (.inl rfl) (And.intro rfl (And.intro (by kernel_rfl) (by kernel_rfl)))))
def f_pluviallaw05_awake.f  : Option (Bool) := (f_hist_Empty.f 0 0) >>= fun t977 => (f_hist_Make.f (t977) [(⟨3, 2⟩ : TBucket), (⟨1, 1⟩ : TBucket)] ([] : List TBucket)) >>= fun t979 => ((if (t979.2 == (0 : Int)) = true then (if (((t979.1).f4) == (3 : Int)) = true then (if ((((t979.1).f6).length : Int) == (2 : Int)) = true then ((at? ((t979.1).f6) 0) >>= fun b990 => some ((b990.f0 == (1 : Int)) && ((b990.f1 == (1 : Int)) && true))) else (some false)) else (some false)) else (some false)) : Option (Bool)) >>= fun x993 => some x993
theorem f_pluviallaw05_awake.ok  (r : Bool) (H : f_pluviallaw05_awake.f  = some r) : Pv.Fn Try.prog 16 [] [] 0 (fun x o => x = bV r ∧ o = []) := by
  unfold f_pluviallaw05_awake.f at H
  refine Fn.bodyK [] Try.func16 rfl rfl (fun Γ hP hn => ?_)
  have hm : Try.prog.follows .mixedOrders = true := by kernel_rfl
  replace hn : Γ.n = 32 := hn
  refine AWp.seq ?_
  refine reg hP hn hm [] [] [] ⟨[], [], 0⟩ [] (by kernel_rfl) trivial ?_
  refine AWp.seq ?_
  obtain ⟨t977, e978, H⟩ := bind_of H
  obtain ⟨t979, e980, H⟩ := bind_of H
  refine reg hP hn hm [(0, .call [] [] [] [] 0 (.agg (aHist (t977))) []), (3, .app 0 ([(⟨3, 2⟩ : TBucket), (⟨1, 1⟩ : TBucket)].map eBucket)), (4, .call [] [] [0] [] 0 (.tup [.agg (aHist (t979.1)), iV .i64 t979.2]) []), (8, .k 1)] [1, 2] [1] ⟨[(1, .ptr 1 0 0), (2, iV .i64 t979.2)], [(1, some (.box 30 (aHist (t979.1))))], 0⟩ [Enters Try.prog 33, Pv.Fn Try.prog 33 [iV .i64 0, iV .i64 0] [] 0 (fun r o => r = .agg (aHist (t977)) ∧ o = []), [(⟨3, 2⟩ : TBucket), (⟨1, 1⟩ : TBucket)].map eBucket = [[iI .i64 3, iI .u64 2], [iI .i64 1, iI .u64 1]], Enters Try.prog 17, Pv.Fn Try.prog 17 [.agg (aHist (t977)), .im (.row ([(⟨3, 2⟩ : TBucket), (⟨1, 1⟩ : TBucket)].map eBucket)), .im (.row (([] : List TBucket).map eBucket))] [] 0 (fun r o => r = .tup [.agg (aHist (t979.1)), iV .i64 t979.2] ∧ o = [])] (by kernel_rfl) ⟨by exact Try.call33, by exact f_hist_Empty.ok 0 0 t977 e978, by exact rfl, by exact Try.call17, by exact f_hist_Make.ok (t977) [(⟨3, 2⟩ : TBucket), (⟨1, 1⟩ : TBucket)] ([] : List TBucket) t979 e980, trivial⟩ ?_
  refine AWp.seq ?_
  obtain ⟨o994, e995, H⟩ := bind_of H
  refine AWp.mono (Q := fun e s => (match (generalizing := false) o994 with | x993 => e = .normal ∧ s = ⟨[(0, bV x993)], [], 0⟩)) (AWp.cv ?_) ?_
  · replace H := e995; clear e995
    rcases Bool.eq_false_or_eq_true (t979.2 == (0 : Int)) with c987 | c987
    · replace H := (ifT c987).symm.trans H
      rcases Bool.eq_false_or_eq_true (((t979.1).f4) == (3 : Int)) with c988 | c988
      · replace H := (ifT c988).symm.trans H
        rcases Bool.eq_false_or_eq_true ((((t979.1).f6).length : Int) == (2 : Int)) with c989 | c989
        · replace H := (ifT c989).symm.trans H
          obtain ⟨b990, p991, q992, H⟩ := at_of H
          refine reg hP hn hm [(2, .b true), (7, .b true), (10, .any (iV .i64 (((t979.1).f6).length : Int))), (13, .b true), (16, .c (eBucket b990)), (19, .more (xAgg none))] [0] [] ⟨[(0, bV ((b990.f0 == (1 : Int)) && ((b990.f1 == (1 : Int)) && true)))], [], 0⟩ [(t979.2 == (0 : Int)) = true, (((t979.1).f4) == (3 : Int)) = true, ((((t979.1).f6).map eBucket).length : Int) = (((t979.1).f6).length : Int), ((((t979.1).f6).length : Int) == (2 : Int)) = true, 0 ≤ (0 : Int), (((t979.1).f6).map eBucket)[(Int.toNat (0))]? = some (eBucket b990)] (by kernel_rfl) ⟨by exact c987, by exact c988, by rw [len_map], by exact c989, by exact p991, by exact el_map eBucket q992, trivial⟩ ?_
          obtain rfl := Option.some.inj H
          exact Exists.intro _ (And.intro (fun _ _ h => h.conv (inv := []) (vk := []) (e0 := []) (t := ⟨[(0, bV ((b990.f0 == (1 : Int)) && ((b990.f1 == (1 : Int)) && true)))], [], 0⟩) (by kernel_rfl)) (And.intro rfl rfl))
        · replace H := (ifF c989).symm.trans H
          refine reg hP hn hm [(2, .b true), (7, .b true), (10, .any (iV .i64 (((t979.1).f6).length : Int))), (13, .b false)] [0] [] ⟨[(0, bV false)], [], 0⟩ [(t979.2 == (0 : Int)) = true, (((t979.1).f4) == (3 : Int)) = true, ((((t979.1).f6).map eBucket).length : Int) = (((t979.1).f6).length : Int), ((((t979.1).f6).length : Int) == (2 : Int)) = false] (by kernel_rfl) ⟨by exact c987, by exact c988, by rw [len_map], by exact c989, trivial⟩ ?_
          obtain rfl := Option.some.inj H
          exact Exists.intro _ (And.intro (fun _ _ h => h.conv (inv := []) (vk := []) (e0 := []) (t := ⟨[(0, bV false)], [], 0⟩) (by kernel_rfl)) (And.intro rfl rfl))
      · replace H := (ifF c988).symm.trans H
        refine reg hP hn hm [(2, .b true), (7, .b false)] [0] [] ⟨[(0, bV false)], [], 0⟩ [(t979.2 == (0 : Int)) = true, (((t979.1).f4) == (3 : Int)) = false] (by kernel_rfl) ⟨by exact c987, by exact c988, trivial⟩ ?_
        obtain rfl := Option.some.inj H
        exact Exists.intro _ (And.intro (fun _ _ h => h.conv (inv := []) (vk := []) (e0 := []) (t := ⟨[(0, bV false)], [], 0⟩) (by kernel_rfl)) (And.intro rfl rfl))
    · replace H := (ifF c987).symm.trans H
      refine reg hP hn hm [(2, .b false)] [0] [] ⟨[(0, bV false)], [], 0⟩ [(t979.2 == (0 : Int)) = false] (by kernel_rfl) ⟨by exact c987, trivial⟩ ?_
      obtain rfl := Option.some.inj H
      exact Exists.intro _ (And.intro (fun _ _ h => h.conv (inv := []) (vk := []) (e0 := []) (t := ⟨[(0, bV false)], [], 0⟩) (by kernel_rfl)) (And.intro rfl rfl))
  · obtain ⟨x993, rfl⟩ : ∃ z, z = o994 := ⟨_, rfl⟩
    rintro e s ⟨rfl, rfl⟩
    refine AWp.conv (inv := []) (vk := []) (e0 := []) (t := ⟨[(0, bV x993)], [], 0⟩) (by kernel_rfl) ?_
    refine AWp.ret ?_
    obtain rfl := Option.some.inj H
    exact Exists.intro _ (And.intro (fun _ _ h => h) (And.intro (.inl rfl) (And.intro rfl (And.intro (by kernel_rfl) (by kernel_rfl)))))
def f_slices_Equal_api_Bucket.l0 (a0 : List TBucket) (a1 : List TBucket) (x1021 : Int) : Option (Bool ⊕ Unit) := if (decide (x1021 < (a0.length : Int))) = true then ((at? a0 x1021) >>= fun b1029 => (at? a1 x1021) >>= fun b1032 => if (!((b1029.f0 == b1032.f0) && ((b1029.f1 == b1032.f1) && true))) = true then (some (.inl false)) else (f_slices_Equal_api_Bucket.l0 a0 a1 (IntKind.i64.wrap (x1021 + (1 : Int))))) else (some (.inr ()))
partial_fixpoint
def f_slices_Equal_api_Bucket.f (a0 : List TBucket) (a1 : List TBucket) : Option (Bool) := if ((a0.length : Int) != (a1.length : Int)) = true then (some false) else ((f_slices_Equal_api_Bucket.l0 a0 a1 0) >>= fun oo => match oo with | .inl rr => (some rr) | .inr _ => (some true))
theorem f_slices_Equal_api_Bucket.ok (a0 : List TBucket) (a1 : List TBucket) (r : Bool) (H : f_slices_Equal_api_Bucket.f a0 a1 = some r) : Pv.Fn Try.prog 47 [.im (.row (a0.map eBucket)), .im (.row (a1.map eBucket))] [] 0 (fun x o => x = bV r ∧ o = []) := by
  unfold f_slices_Equal_api_Bucket.f at H
  refine Fn.bodyK [] Try.func47 rfl rfl (fun Γ hP hn => ?_)
  have hm : Try.prog.follows .mixedOrders = true := by kernel_rfl
  replace hn : Γ.n = 26 := hn
  refine AWp.seq ?_
  refine reg hP hn hm [] [0, 1] [] ⟨[(0, .im (.row (a0.map eBucket))), (1, .im (.row (a1.map eBucket)))], [], 0⟩ [] (by kernel_rfl) trivial ?_
  refine AWp.seq ?_
  refine AWp.seq ?_
  refine reg hP hn hm [(1, .any (iV .i64 (a0.length : Int))), (3, .any (iV .i64 (a1.length : Int)))] [0, 1, 10] [] ⟨[(0, .im (.row (a0.map eBucket))), (1, .im (.row (a1.map eBucket))), (10, bV ((a0.length : Int) != (a1.length : Int)))], [], 0⟩ [((a0.map eBucket).length : Int) = (a0.length : Int), ((a1.map eBucket).length : Int) = (a1.length : Int)] (by kernel_rfl) ⟨by rw [len_map], by rw [len_map], trivial⟩ ?_
  refine AWp.cond ((a0.length : Int) != (a1.length : Int)) rfl (fun c1006 => ?_) (fun c1006 => ?_)
  · replace H := (ifT c1006).symm.trans H
    refine AWp.seq ?_
    refine reg hP hn hm [] [4] [] ⟨[(4, bV false)], [], 0⟩ [] (by kernel_rfl) trivial ?_
    refine AWp.conv (inv := []) (vk := []) (e0 := []) (t := ⟨[(4, bV false)], [], 0⟩) (by kernel_rfl) ?_
    refine AWp.ret ?_
    obtain rfl := Option.some.inj H
    exact Exists.intro _ (And.intro (fun _ _ h => h) (And.intro (.inl rfl) (And.intro rfl (And.intro (by kernel_rfl) (by kernel_rfl)))))
  · replace H := (ifF c1006).symm.trans H
    refine AWp.skip ?_
    refine AWp.seq ?_
    refine AWp.seq ?_
    refine reg hP hn hm [(1, .any (iV .i64 (a0.length : Int)))] [0, 1, 12, 13] [] ⟨[(0, .im (.row (a0.map eBucket))), (1, .im (.row (a1.map eBucket))), (12, iV .i64 (a0.length : Int)), (13, iV .i64 0)], [], 0⟩ [((a0.map eBucket).length : Int) = (a0.length : Int)] (by kernel_rfl) ⟨by rw [len_map], trivial⟩ ?_
    refine AWp.block ?_
    obtain ⟨o1036, e1037, H⟩ := bind_of H
    refine AWp.loop (LWp.conv (inv := []) (vk := []) (e0 := []) (t := ⟨[(0, .im (.row (a0.map eBucket))), (1, .im (.row (a1.map eBucket))), (12, iV .i64 (a0.length : Int)), (13, iV .i64 0)], [], 0⟩) (by kernel_rfl) ?_)
    refine LWp.mono (Q := fun e s => (match (generalizing := false) o1036 with | .inl rr => e = .ret ∧ s.floor = 0 ∧ resOf Try.prog Try.f47 s = some (bV rr) ∧ ([] : List (Nat × Option MObj)) = [] | .inr _ => e = .exit 0 ∧ s = ⟨[], [], 0⟩)) (LWp.cv (withBody (fun body hbody => ?_))) ?_
    · refine f_slices_Equal_api_Bucket.l0.partial_correctness a0 a1 (motive := fun x1021 o1036 => LWp Γ body (fun e s => ∃ t, Cv Γ s t ∧ (match (generalizing := false) o1036 with | .inl rr => e = .ret ∧ t.floor = 0 ∧ resOf Try.prog Try.f47 t = some (bV rr) ∧ ([] : List (Nat × Option MObj)) = [] | .inr _ => e = .exit 0 ∧ t = ⟨[], [], 0⟩)) ⟨[(0, .im (.row (a0.map eBucket))), (1, .im (.row (a1.map eBucket))), (12, iV .i64 (a0.length : Int)), (13, iV .i64 x1021)], [], 0⟩) ?_ _ _ e1037
      clear H e1037 o1036; intro self ih x1021 o1036 H
      subst hbody
      refine LWp.round ?_
      refine AWp.seq ?_
      refine reg hP hn hm [] [0, 1, 12, 13, 14] [] ⟨[(0, .im (.row (a0.map eBucket))), (1, .im (.row (a1.map eBucket))), (12, iV .i64 (a0.length : Int)), (13, iV .i64 x1021), (14, bV (decide (x1021 < (a0.length : Int))))], [], 0⟩ [] (by kernel_rfl) trivial ?_
      refine AWp.seq ?_
      refine AWp.cond (decide (x1021 < (a0.length : Int))) rfl (fun c1022 => ?_) (fun c1022 => ?_)
      · replace H := (ifT c1022).symm.trans H
        refine AWp.skip ?_
        refine AWp.seq ?_
        refine AWp.block ?_
        refine AWp.seq ?_
        refine reg hP hn hm [] [0, 1, 5, 12, 13] [] ⟨[(0, .im (.row (a0.map eBucket))), (1, .im (.row (a1.map eBucket))), (5, iV .i64 x1021), (12, iV .i64 (a0.length : Int)), (13, iV .i64 x1021)], [], 0⟩ [] (by kernel_rfl) trivial ?_
        refine AWp.seq ?_
        obtain ⟨b1029, p1030, q1031, H⟩ := at_of H
        obtain ⟨b1032, p1033, q1034, H⟩ := at_of H
        refine reg hP hn hm [(2, .c (eBucket b1029)), (6, .c (eBucket b1032)), (8, .more (xAgg none))] [0, 1, 12, 13, 24] [] ⟨[(0, .im (.row (a0.map eBucket))), (1, .im (.row (a1.map eBucket))), (12, iV .i64 (a0.length : Int)), (13, iV .i64 x1021), (24, bV (!((b1029.f0 == b1032.f0) && ((b1029.f1 == b1032.f1) && true))))], [], 0⟩ [0 ≤ x1021, (a0.map eBucket)[(Int.toNat (x1021))]? = some (eBucket b1029), 0 ≤ x1021, (a1.map eBucket)[(Int.toNat (x1021))]? = some (eBucket b1032)] (by kernel_rfl) ⟨by exact p1030, by exact el_map eBucket q1031, by exact p1033, by exact el_map eBucket q1034, trivial⟩ ?_
        refine AWp.cond (!((b1029.f0 == b1032.f0) && ((b1029.f1 == b1032.f1) && true))) rfl (fun c1035 => ?_) (fun c1035 => ?_)
        · replace H := (ifT c1035).symm.trans H
          refine AWp.seq ?_
          refine reg hP hn hm [] [4] [] ⟨[(4, bV false)], [], 0⟩ [] (by kernel_rfl) trivial ?_
          refine AWp.conv (inv := []) (vk := []) (e0 := []) (t := ⟨[(4, bV false)], [], 0⟩) (by kernel_rfl) ?_
          refine AWp.ret ?_
          obtain rfl := Option.some.inj H
          exact Exists.intro _ (And.intro (fun _ _ h => h) (And.intro rfl (And.intro rfl (And.intro (by kernel_rfl) (by kernel_rfl)))))
        · replace H := (ifF c1035).symm.trans H
          refine AWp.skip ?_
          refine reg hP hn hm [] [0, 1, 12, 13] [] ⟨[(0, .im (.row (a0.map eBucket))), (1, .im (.row (a1.map eBucket))), (12, iV .i64 (a0.length : Int)), (13, iV .i64 (IntKind.i64.wrap (x1021 + (1 : Int))))], [], 0⟩ [] (by kernel_rfl) trivial ?_
          exact LWp.conv (inv := []) (vk := []) (e0 := []) (t := ⟨[(0, .im (.row (a0.map eBucket))), (1, .im (.row (a1.map eBucket))), (12, iV .i64 (a0.length : Int)), (13, iV .i64 (IntKind.i64.wrap (x1021 + (1 : Int))))], [], 0⟩) (by kernel_rfl) (ih _ _ H)
      · replace H := (ifF c1022).symm.trans H
        refine AWp.exit ?_
        obtain rfl := Option.some.inj H
        exact Exists.intro _ (And.intro (fun _ _ h => h.conv (inv := []) (vk := []) (e0 := []) (t := ⟨[], [], 0⟩) (by kernel_rfl)) (And.intro rfl rfl))
    · rcases o1036 with rr | _
      · skip
        rintro e s ⟨rfl, hfl, hres⟩
        obtain rfl := Option.some.inj H
        exact Exists.intro _ (And.intro (fun _ _ h => h) (And.intro (.inl rfl) (And.intro hfl hres)))
      · skip
        rintro e s ⟨rfl, rfl⟩
        refine AWp.seq ?_
        refine reg hP hn hm [] [4] [] ⟨[(4, bV true)], [], 0⟩ [] (by kernel_rfl) trivial ?_
        refine AWp.conv (inv := []) (vk := []) (e0 := []) (t := ⟨[(4, bV true)], [], 0⟩) (by kernel_rfl) ?_
        refine AWp.ret ?_
        obtain rfl := Option.some.inj H
        exact Exists.intro _ (And.intro (fun _ _ h => h) (And.intro (.inl rfl) (And.intro rfl (And.intro (by kernel_rfl) (by kernel_rfl)))))
def f_hist_Same.f (a0 : THist) (a1 : THist) : Option (Bool) := ((if (a0.f0 == a1.f0) = true then (if (a0.f1 == a1.f1) = true then (if (a0.f2 == a1.f2) = true then (if (a0.f3 == a1.f3) = true then (if (a0.f4 == a1.f4) = true then (if (a0.f5 == a1.f5) = true then ((f_slices_Equal_api_Bucket.f a0.f6 a1.f6) >>= fun t1049 => if t1049 = true then ((f_slices_Equal_api_Bucket.f a0.f7 a1.f7) >>= fun t1052 => some t1052) else (some false)) else (some false)) else (some false)) else (some false)) else (some false)) else (some false)) else (some false)) : Option (Bool)) >>= fun x1054 => some x1054
theorem f_hist_Same.ok (a0 : THist) (a1 : THist) (r : Bool) (H : f_hist_Same.f a0 a1 = some r) : Pv.Fn Try.prog 18 [.agg (aHist a0), .agg (aHist a1)] [] 0 (fun x o => x = bV r ∧ o = []) := by
  unfold f_hist_Same.f at H
  refine Fn.bodyK [] Try.func18 rfl rfl (fun Γ hP hn => ?_)
  have hm : Try.prog.follows .mixedOrders = true := by kernel_rfl
  replace hn : Γ.n = 59 := hn
  refine AWp.seq ?_
  refine reg hP hn hm [(0, .k 0), (1, .k 1)] [2, 3] [0, 1] ⟨[(2, .ptr 0 0 0), (3, .ptr 1 0 0)], [(0, some (.box 30 (aHist a0))), (1, some (.box 30 (aHist a1)))], 0⟩ [] (by kernel_rfl) trivial ?_
  refine AWp.seq ?_
  obtain ⟨o1055, e1056, H⟩ := bind_of H
  refine AWp.mono (Q := fun e s => (match (generalizing := false) o1055 with | x1054 => e = .normal ∧ s = ⟨[(4, bV x1054)], [], 0⟩)) (AWp.cv ?_) ?_
  · replace H := e1056; clear e1056
    rcases Bool.eq_false_or_eq_true (a0.f0 == a1.f0) with c1043 | c1043
    · replace H := (ifT c1043).symm.trans H
      rcases Bool.eq_false_or_eq_true (a0.f1 == a1.f1) with c1044 | c1044
      · replace H := (ifT c1044).symm.trans H
        rcases Bool.eq_false_or_eq_true (a0.f2 == a1.f2) with c1045 | c1045
        · replace H := (ifT c1045).symm.trans H
          rcases Bool.eq_false_or_eq_true (a0.f3 == a1.f3) with c1046 | c1046
          · replace H := (ifT c1046).symm.trans H
            rcases Bool.eq_false_or_eq_true (a0.f4 == a1.f4) with c1047 | c1047
            · replace H := (ifT c1047).symm.trans H
              rcases Bool.eq_false_or_eq_true (a0.f5 == a1.f5) with c1048 | c1048
              · replace H := (ifT c1048).symm.trans H
                obtain ⟨t1049, e1050, H⟩ := bind_of H
                rcases Bool.eq_false_or_eq_true t1049 with c1051 | c1051
                · replace H := (ifT c1051).symm.trans H
                  obtain ⟨t1052, e1053, H⟩ := bind_of H
                  refine reg hP hn hm [(5, .b true), (12, .b true), (19, .b true), (26, .b true), (33, .b true), (40, .b true), (45, .call [] [] [] [] 0 (bV t1049) []), (47, .b true), (52, .call [] [] [] [] 0 (bV t1052) [])] [4] [] ⟨[(4, bV t1052)], [], 0⟩ [(a0.f0 == a1.f0) = true, (a0.f1 == a1.f1) = true, (a0.f2 == a1.f2) = true, (a0.f3 == a1.f3) = true, (a0.f4 == a1.f4) = true, (a0.f5 == a1.f5) = true, Enters Try.prog 47, Pv.Fn Try.prog 47 [.im (.row (a0.f6.map eBucket)), .im (.row (a1.f6.map eBucket))] [] 0 (fun r o => r = bV t1049 ∧ o = []), t1049 = true, Enters Try.prog 47, Pv.Fn Try.prog 47 [.im (.row (a0.f7.map eBucket)), .im (.row (a1.f7.map eBucket))] [] 0 (fun r o => r = bV t1052 ∧ o = [])] (by kernel_rfl) ⟨by exact c1043, by exact c1044, by exact c1045, by exact c1046, by exact c1047, by exact c1048, by exact Try.call47, by exact f_slices_Equal_api_Bucket.ok a0.f6 a1.f6 t1049 e1050, by exact c1051, by exact Try.call47, by exact f_slices_Equal_api_Bucket.ok a0.f7 a1.f7 t1052 e1053, trivial⟩ ?_
                  obtain rfl := Option.some.inj H
                  exact Exists.intro _ (And.intro (fun _ _ h => h.conv (inv := []) (vk := []) (e0 := []) (t := ⟨[(4, bV t1052)], [], 0⟩) (by kernel_rfl)) (And.intro rfl rfl))
                · replace H := (ifF c1051).symm.trans H
                  refine reg hP hn hm [(5, .b true), (12, .b true), (19, .b true), (26, .b true), (33, .b true), (40, .b true), (45, .call [] [] [] [] 0 (bV t1049) []), (47, .b false)] [4] [] ⟨[(4, bV false)], [], 0⟩ [(a0.f0 == a1.f0) = true, (a0.f1 == a1.f1) = true, (a0.f2 == a1.f2) = true, (a0.f3 == a1.f3) = true, (a0.f4 == a1.f4) = true, (a0.f5 == a1.f5) = true, Enters Try.prog 47, Pv.Fn Try.prog 47 [.im (.row (a0.f6.map eBucket)), .im (.row (a1.f6.map eBucket))] [] 0 (fun r o => r = bV t1049 ∧ o = []), t1049 = false] (by kernel_rfl) ⟨by exact c1043, by exact c1044, by exact c1045, by exact c1046, by exact c1047, by exact c1048, by exact Try.call47, by exact f_slices_Equal_api_Bucket.ok a0.f6 a1.f6 t1049 e1050, by exact c1051, trivial⟩ ?_
                  obtain rfl := Option.some.inj H
                  exact Exists.intro _ (And.intro (fun _ _ h => h.conv (inv := []) (vk := []) (e0 := []) (t := ⟨[(4, bV false)], [], 0⟩) (by kernel_rfl)) (And.intro rfl rfl))
              · replace H := (ifF c1048).symm.trans H
                refine reg hP hn hm [(5, .b true), (12, .b true), (19, .b true), (26, .b true), (33, .b true), (40, .b false)] [4] [] ⟨[(4, bV false)], [], 0⟩ [(a0.f0 == a1.f0) = true, (a0.f1 == a1.f1) = true, (a0.f2 == a1.f2) = true, (a0.f3 == a1.f3) = true, (a0.f4 == a1.f4) = true, (a0.f5 == a1.f5) = false] (by kernel_rfl) ⟨by exact c1043, by exact c1044, by exact c1045, by exact c1046, by exact c1047, by exact c1048, trivial⟩ ?_
                obtain rfl := Option.some.inj H
                exact Exists.intro _ (And.intro (fun _ _ h => h.conv (inv := []) (vk := []) (e0 := []) (t := ⟨[(4, bV false)], [], 0⟩) (by kernel_rfl)) (And.intro rfl rfl))
            · replace H := (ifF c1047).symm.trans H
              refine reg hP hn hm [(5, .b true), (12, .b true), (19, .b true), (26, .b true), (33, .b false)] [4] [] ⟨[(4, bV false)], [], 0⟩ [(a0.f0 == a1.f0) = true, (a0.f1 == a1.f1) = true, (a0.f2 == a1.f2) = true, (a0.f3 == a1.f3) = true, (a0.f4 == a1.f4) = false] (by kernel_rfl) ⟨by exact c1043, by exact c1044, by exact c1045, by exact c1046, by exact c1047, trivial⟩ ?_
              obtain rfl := Option.some.inj H
              exact Exists.intro _ (And.intro (fun _ _ h => h.conv (inv := []) (vk := []) (e0 := []) (t := ⟨[(4, bV false)], [], 0⟩) (by kernel_rfl)) (And.intro rfl rfl))
          · replace H := (ifF c1046).symm.trans H
            refine reg hP hn hm [(5, .b true), (12, .b true), (19, .b true), (26, .b false)] [4] [] ⟨[(4, bV false)], [], 0⟩ [(a0.f0 == a1.f0) = true, (a0.f1 == a1.f1) = true, (a0.f2 == a1.f2) = true, (a0.f3 == a1.f3) = false] (by kernel_rfl) ⟨by exact c1043, by exact c1044, by exact c1045, by exact c1046, trivial⟩ ?_
            obtain rfl := Option.some.inj H
            exact Exists.intro _ (And.intro (fun _ _ h => h.conv (inv := []) (vk := []) (e0 := []) (t := ⟨[(4, bV false)], [], 0⟩) (by kernel_rfl)) (And.intro rfl rfl))
        · replace H := (ifF c1045).symm.trans H
          refine reg hP hn hm [(5, .b true), (12, .b true), (19, .b false)] [4] [] ⟨[(4, bV false)], [], 0⟩ [(a0.f0 == a1.f0) = true, (a0.f1 == a1.f1) = true, (a0.f2 == a1.f2) = false] (by kernel_rfl) ⟨by exact c1043, by exact c1044, by exact c1045, trivial⟩ ?_
          obtain rfl := Option.some.inj H
          exact Exists.intro _ (And.intro (fun _ _ h => h.conv (inv := []) (vk := []) (e0 := []) (t := ⟨[(4, bV false)], [], 0⟩) (by kernel_rfl)) (And.intro rfl rfl))
      · replace H := (ifF c1044).symm.trans H
        refine reg hP hn hm [(5, .b true), (12, .b false)] [4] [] ⟨[(4, bV false)], [], 0⟩ [(a0.f0 == a1.f0) = true, (a0.f1 == a1.f1) = false] (by kernel_rfl) ⟨by exact c1043, by exact c1044, trivial⟩ ?_
        obtain rfl := Option.some.inj H
        exact Exists.intro _ (And.intro (fun _ _ h => h.conv (inv := []) (vk := []) (e0 := []) (t := ⟨[(4, bV false)], [], 0⟩) (by kernel_rfl)) (And.intro rfl rfl))
    · replace H := (ifF c1043).symm.trans H
      refine reg hP hn hm [(5, .b false)] [4] [] ⟨[(4, bV false)], [], 0⟩ [(a0.f0 == a1.f0) = false] (by kernel_rfl) ⟨by exact c1043, trivial⟩ ?_
      obtain rfl := Option.some.inj H
      exact Exists.intro _ (And.intro (fun _ _ h => h.conv (inv := []) (vk := []) (e0 := []) (t := ⟨[(4, bV false)], [], 0⟩) (by kernel_rfl)) (And.intro rfl rfl))
  · obtain ⟨x1054, rfl⟩ : ∃ z, z = o1055 := ⟨_, rfl⟩
    rintro e s ⟨rfl, rfl⟩
    refine AWp.conv (inv := []) (vk := []) (e0 := []) (t := ⟨[(4, bV x1054)], [], 0⟩) (by kernel_rfl) ?_
    refine AWp.ret ?_
    obtain rfl := Option.some.inj H
    exact Exists.intro _ (And.intro (fun _ _ h => h) (And.intro (.inl rfl) (And.intro rfl (And.intro (by kernel_rfl) (by kernel_rfl)))))
def f_pluvialref05_same.l0 (a0 : List TBucket) (a1 : List TBucket) (x1080 : Int) : Option (Bool ⊕ Unit) := if (decide (x1080 < (a0.length : Int))) = true then ((at? a0 x1080) >>= fun b1088 => (at? a1 x1080) >>= fun b1091 => if (!((b1088.f0 == b1091.f0) && ((b1088.f1 == b1091.f1) && true))) = true then (some (.inl false)) else (f_pluvialref05_same.l0 a0 a1 (IntKind.i64.wrap (x1080 + (1 : Int))))) else (some (.inr ()))
partial_fixpoint
def f_pluvialref05_same.f (a0 : List TBucket) (a1 : List TBucket) : Option (Bool) := if ((a0.length : Int) != (a1.length : Int)) = true then (some false) else ((f_pluvialref05_same.l0 a0 a1 0) >>= fun oo => match oo with | .inl rr => (some rr) | .inr _ => (some true))
theorem f_pluvialref05_same.ok (a0 : List TBucket) (a1 : List TBucket) (r : Bool) (H : f_pluvialref05_same.f a0 a1 = some r) : Pv.Fn Try.prog 54 [.im (.row (a0.map eBucket)), .im (.row (a1.map eBucket))] [] 0 (fun x o => x = bV r ∧ o = []) := by
  unfold f_pluvialref05_same.f at H
  refine Fn.bodyK [] Try.func54 rfl rfl (fun Γ hP hn => ?_)
  have hm : Try.prog.follows .mixedOrders = true := by kernel_rfl
  replace hn : Γ.n = 26 := hn
  refine AWp.seq ?_
  refine reg hP hn hm [] [0, 1] [] ⟨[(0, .im (.row (a0.map eBucket))), (1, .im (.row (a1.map eBucket)))], [], 0⟩ [] (by kernel_rfl) trivial ?_
  refine AWp.seq ?_
  refine AWp.seq ?_
  refine reg hP hn hm [(1, .any (iV .i64 (a0.length : Int))), (3, .any (iV .i64 (a1.length : Int)))] [0, 1, 10] [] ⟨[(0, .im (.row (a0.map eBucket))), (1, .im (.row (a1.map eBucket))), (10, bV ((a0.length : Int) != (a1.length : Int)))], [], 0⟩ [((a0.map eBucket).length : Int) = (a0.length : Int), ((a1.map eBucket).length : Int) = (a1.length : Int)] (by kernel_rfl) ⟨by rw [len_map], by rw [len_map], trivial⟩ ?_
  refine AWp.cond ((a0.length : Int) != (a1.length : Int)) rfl (fun c1065 => ?_) (fun c1065 => ?_)
  · replace H := (ifT c1065).symm.trans H
    refine AWp.seq ?_
    refine reg hP hn hm [] [4] [] ⟨[(4, bV false)], [], 0⟩ [] (by kernel_rfl) trivial ?_
    refine AWp.conv (inv := []) (vk := []) (e0 := []) (t := ⟨[(4, bV false)], [], 0⟩) (by kernel_rfl) ?_
    refine AWp.ret ?_
    obtain rfl := Option.some.inj H
    exact Exists.intro _ (And.intro (fun _ _ h => h) (And.intro (.inl rfl) (And.intro rfl (And.intro (by kernel_rfl) (by kernel_rfl)))))
  · replace H := (ifF c1065).symm.trans H
    refine AWp.skip ?_
    refine AWp.seq ?_
    refine AWp.seq ?_
    refine reg hP hn hm [] [0, 1, 5] [] ⟨[(0, .im (.row (a0.map eBucket))), (1, .im (.row (a1.map eBucket))), (5, iV .i64 0)], [], 0⟩ [] (by kernel_rfl) trivial ?_
    refine AWp.block ?_
    obtain ⟨o1095, e1096, H⟩ := bind_of H
    refine AWp.loop (LWp.conv (inv := []) (vk := []) (e0 := []) (t := ⟨[(0, .im (.row (a0.map eBucket))), (1, .im (.row (a1.map eBucket))), (5, iV .i64 0)], [], 0⟩) (by kernel_rfl) ?_)
    refine LWp.mono (Q := fun e s => (match (generalizing := false) o1095 with | .inl rr => e = .ret ∧ s.floor = 0 ∧ resOf Try.prog Try.f54 s = some (bV rr) ∧ ([] : List (Nat × Option MObj)) = [] | .inr _ => e = .exit 0 ∧ s = ⟨[], [], 0⟩)) (LWp.cv (withBody (fun body hbody => ?_))) ?_
    · refine f_pluvialref05_same.l0.partial_correctness a0 a1 (motive := fun x1080 o1095 => LWp Γ body (fun e s => ∃ t, Cv Γ s t ∧ (match (generalizing := false) o1095 with | .inl rr => e = .ret ∧ t.floor = 0 ∧ resOf Try.prog Try.f54 t = some (bV rr) ∧ ([] : List (Nat × Option MObj)) = [] | .inr _ => e = .exit 0 ∧ t = ⟨[], [], 0⟩)) ⟨[(0, .im (.row (a0.map eBucket))), (1, .im (.row (a1.map eBucket))), (5, iV .i64 x1080)], [], 0⟩) ?_ _ _ e1096
      clear H e1096 o1095; intro self ih x1080 o1095 H
      subst hbody
      refine LWp.round ?_
      refine AWp.seq ?_
      refine AWp.seq ?_
      refine reg hP hn hm [(2, .any (iV .i64 (a0.length : Int)))] [0, 1, 5, 14] [] ⟨[(0, .im (.row (a0.map eBucket))), (1, .im (.row (a1.map eBucket))), (5, iV .i64 x1080), (14, bV (decide (x1080 < (a0.length : Int))))], [], 0⟩ [((a0.map eBucket).length : Int) = (a0.length : Int)] (by kernel_rfl) ⟨by rw [len_map], trivial⟩ ?_
      refine AWp.cond (decide (x1080 < (a0.length : Int))) rfl (fun c1081 => ?_) (fun c1081 => ?_)
      · replace H := (ifT c1081).symm.trans H
        refine AWp.skip ?_
        refine AWp.seq ?_
        refine AWp.block ?_
        refine AWp.seq ?_
        obtain ⟨b1088, p1089, q1090, H⟩ := at_of H
        obtain ⟨b1091, p1092, q1093, H⟩ := at_of H
        refine reg hP hn hm [(2, .c (eBucket b1088)), (6, .c (eBucket b1091)), (8, .more (xAgg none))] [0, 1, 5, 25] [] ⟨[(0, .im (.row (a0.map eBucket))), (1, .im (.row (a1.map eBucket))), (5, iV .i64 x1080), (25, bV (!((b1088.f0 == b1091.f0) && ((b1088.f1 == b1091.f1) && true))))], [], 0⟩ [0 ≤ x1080, (a0.map eBucket)[(Int.toNat (x1080))]? = some (eBucket b1088), 0 ≤ x1080, (a1.map eBucket)[(Int.toNat (x1080))]? = some (eBucket b1091)] (by kernel_rfl) ⟨by exact p1089, by exact el_map eBucket q1090, by exact p1092, by exact el_map eBucket q1093, trivial⟩ ?_
        refine AWp.cond (!((b1088.f0 == b1091.f0) && ((b1088.f1 == b1091.f1) && true))) rfl (fun c1094 => ?_) (fun c1094 => ?_)
        · replace H := (ifT c1094).symm.trans H
          refine AWp.seq ?_
          refine reg hP hn hm [] [4] [] ⟨[(4, bV false)], [], 0⟩ [] (by kernel_rfl) trivial ?_
          refine AWp.conv (inv := []) (vk := []) (e0 := []) (t := ⟨[(4, bV false)], [], 0⟩) (by kernel_rfl) ?_
          refine AWp.ret ?_
          obtain rfl := Option.some.inj H
          exact Exists.intro _ (And.intro (fun _ _ h => h) (And.intro rfl (And.intro rfl (And.intro (by kernel_rfl) (by kernel_rfl)))))
        · replace H := (ifF c1094).symm.trans H
          refine AWp.skip ?_
          refine reg hP hn hm [] [0, 1, 5] [] ⟨[(0, .im (.row (a0.map eBucket))), (1, .im (.row (a1.map eBucket))), (5, iV .i64 (IntKind.i64.wrap (x1080 + (1 : Int))))], [], 0⟩ [] (by kernel_rfl) trivial ?_
          exact LWp.conv (inv := []) (vk := []) (e0 := []) (t := ⟨[(0, .im (.row (a0.map eBucket))), (1, .im (.row (a1.map eBucket))), (5, iV .i64 (IntKind.i64.wrap (x1080 + (1 : Int))))], [], 0⟩) (by kernel_rfl) (ih _ _ H)
      · replace H := (ifF c1081).symm.trans H
        refine AWp.exit ?_
        obtain rfl := Option.some.inj H
        exact Exists.intro _ (And.intro (fun _ _ h => h.conv (inv := []) (vk := []) (e0 := []) (t := ⟨[], [], 0⟩) (by kernel_rfl)) (And.intro rfl rfl))
    · rcases o1095 with rr | _
      · skip
        rintro e s ⟨rfl, hfl, hres⟩
        obtain rfl := Option.some.inj H
        exact Exists.intro _ (And.intro (fun _ _ h => h) (And.intro (.inl rfl) (And.intro hfl hres)))
      · skip
        rintro e s ⟨rfl, rfl⟩
        refine AWp.seq ?_
        refine reg hP hn hm [] [4] [] ⟨[(4, bV true)], [], 0⟩ [] (by kernel_rfl) trivial ?_
        refine AWp.conv (inv := []) (vk := []) (e0 := []) (t := ⟨[(4, bV true)], [], 0⟩) (by kernel_rfl) ?_
        refine AWp.ret ?_
        obtain rfl := Option.some.inj H
        exact Exists.intro _ (And.intro (fun _ _ h => h) (And.intro (.inl rfl) (And.intro rfl (And.intro (by kernel_rfl) (by kernel_rfl)))))
def f_pluvialref05_Same.f (a0 : THist) (a1 : THist) : Option (Bool) := ((if (a0.f0 == a1.f0) = true then (if (a0.f1 == a1.f1) = true then (if (a0.f2 == a1.f2) = true then (if (a0.f3 == a1.f3) = true then (if (a0.f4 == a1.f4) = true then (if (a0.f5 == a1.f5) = true then ((f_pluvialref05_same.f a0.f6 a1.f6) >>= fun t1108 => if t1108 = true then ((f_pluvialref05_same.f a0.f7 a1.f7) >>= fun t1111 => some t1111) else (some false)) else (some false)) else (some false)) else (some false)) else (some false)) else (some false)) else (some false)) : Option (Bool)) >>= fun x1113 => some x1113
theorem f_pluvialref05_Same.ok (a0 : THist) (a1 : THist) (r : Bool) (H : f_pluvialref05_Same.f a0 a1 = some r) : Pv.Fn Try.prog 29 [.agg (aHist a0), .agg (aHist a1)] [] 0 (fun x o => x = bV r ∧ o = []) := by
  unfold f_pluvialref05_Same.f at H
  refine Fn.bodyK [] Try.func29 rfl rfl (fun Γ hP hn => ?_)
  have hm : Try.prog.follows .mixedOrders = true := by kernel_rfl
  replace hn : Γ.n = 59 := hn
  refine AWp.seq ?_
  refine reg hP hn hm [(0, .k 0), (1, .k 1)] [2, 3] [0, 1] ⟨[(2, .ptr 0 0 0), (3, .ptr 1 0 0)], [(0, some (.box 30 (aHist a0))), (1, some (.box 30 (aHist a1)))], 0⟩ [] (by kernel_rfl) trivial ?_
  refine AWp.seq ?_
  obtain ⟨o1114, e1115, H⟩ := bind_of H
  refine AWp.mono (Q := fun e s => (match (generalizing := false) o1114 with | x1113 => e = .normal ∧ s = ⟨[(4, bV x1113)], [], 0⟩)) (AWp.cv ?_) ?_
  · replace H := e1115; clear e1115
    rcases Bool.eq_false_or_eq_true (a0.f0 == a1.f0) with c1102 | c1102
    · replace H := (ifT c1102).symm.trans H
      rcases Bool.eq_false_or_eq_true (a0.f1 == a1.f1) with c1103 | c1103
      · replace H := (ifT c1103).symm.trans H
        rcases Bool.eq_false_or_eq_true (a0.f2 == a1.f2) with c1104 | c1104
        · replace H := (ifT c1104).symm.trans H
          rcases Bool.eq_false_or_eq_true (a0.f3 == a1.f3) with c1105 | c1105
          · replace H := (ifT c1105).symm.trans H
            rcases Bool.eq_false_or_eq_true (a0.f4 == a1.f4) with c1106 | c1106
            · replace H := (ifT c1106).symm.trans H
              rcases Bool.eq_false_or_eq_true (a0.f5 == a1.f5) with c1107 | c1107
              · replace H := (ifT c1107).symm.trans H
                obtain ⟨t1108, e1109, H⟩ := bind_of H
                rcases Bool.eq_false_or_eq_true t1108 with c1110 | c1110
                · replace H := (ifT c1110).symm.trans H
                  obtain ⟨t1111, e1112, H⟩ := bind_of H
                  refine reg hP hn hm [(5, .b true), (12, .b true), (19, .b true), (26, .b true), (33, .b true), (40, .b true), (45, .call [] [] [] [] 0 (bV t1108) []), (47, .b true), (52, .call [] [] [] [] 0 (bV t1111) [])] [4] [] ⟨[(4, bV t1111)], [], 0⟩ [(a0.f0 == a1.f0) = true, (a0.f1 == a1.f1) = true, (a0.f2 == a1.f2) = true, (a0.f3 == a1.f3) = true, (a0.f4 == a1.f4) = true, (a0.f5 == a1.f5) = true, Enters Try.prog 54, Pv.Fn Try.prog 54 [.im (.row (a0.f6.map eBucket)), .im (.row (a1.f6.map eBucket))] [] 0 (fun r o => r = bV t1108 ∧ o = []), t1108 = true, Enters Try.prog 54, Pv.Fn Try.prog 54 [.im (.row (a0.f7.map eBucket)), .im (.row (a1.f7.map eBucket))] [] 0 (fun r o => r = bV t1111 ∧ o = [])] (by kernel_rfl) ⟨by exact c1102, by exact c1103, by exact c1104, by exact c1105, by exact c1106, by exact c1107, by exact Try.call54, by exact f_pluvialref05_same.ok a0.f6 a1.f6 t1108 e1109, by exact c1110, by exact Try.call54, by exact f_pluvialref05_same.ok a0.f7 a1.f7 t1111 e1112, trivial⟩ ?_
                  obtain rfl := Option.some.inj H
                  exact Exists.intro _ (And.intro (fun _ _ h => h.conv (inv := []) (vk := []) (e0 := []) (t := ⟨[(4, bV t1111)], [], 0⟩) (by kernel_rfl)) (And.intro rfl rfl))
                · replace H := (ifF c1110).symm.trans H
                  refine reg hP hn hm [(5, .b true), (12, .b true), (19, .b true), (26, .b true), (33, .b true), (40, .b true), (45, .call [] [] [] [] 0 (bV t1108) []), (47, .b false)] [4] [] ⟨[(4, bV false)], [], 0⟩ [(a0.f0 == a1.f0) = true, (a0.f1 == a1.f1) = true, (a0.f2 == a1.f2) = true, (a0.f3 == a1.f3) = true, (a0.f4 == a1.f4) = true, (a0.f5 == a1.f5) = true, Enters Try.prog 54, Pv.Fn Try.prog 54 [.im (.row (a0.f6.map eBucket)), .im (.row (a1.f6.map eBucket))] [] 0 (fun r o => r = bV t1108 ∧ o = []), t1108 = false] (by kernel_rfl) ⟨by exact c1102, by exact c1103, by exact c1104, by exact c1105, by exact c1106, by exact c1107, by exact Try.call54, by exact f_pluvialref05_same.ok a0.f6 a1.f6 t1108 e1109, by exact c1110, trivial⟩ ?_
                  obtain rfl := Option.some.inj H
                  exact Exists.intro _ (And.intro (fun _ _ h => h.conv (inv := []) (vk := []) (e0 := []) (t := ⟨[(4, bV false)], [], 0⟩) (by kernel_rfl)) (And.intro rfl rfl))
              · replace H := (ifF c1107).symm.trans H
                refine reg hP hn hm [(5, .b true), (12, .b true), (19, .b true), (26, .b true), (33, .b true), (40, .b false)] [4] [] ⟨[(4, bV false)], [], 0⟩ [(a0.f0 == a1.f0) = true, (a0.f1 == a1.f1) = true, (a0.f2 == a1.f2) = true, (a0.f3 == a1.f3) = true, (a0.f4 == a1.f4) = true, (a0.f5 == a1.f5) = false] (by kernel_rfl) ⟨by exact c1102, by exact c1103, by exact c1104, by exact c1105, by exact c1106, by exact c1107, trivial⟩ ?_
                obtain rfl := Option.some.inj H
                exact Exists.intro _ (And.intro (fun _ _ h => h.conv (inv := []) (vk := []) (e0 := []) (t := ⟨[(4, bV false)], [], 0⟩) (by kernel_rfl)) (And.intro rfl rfl))
            · replace H := (ifF c1106).symm.trans H
              refine reg hP hn hm [(5, .b true), (12, .b true), (19, .b true), (26, .b true), (33, .b false)] [4] [] ⟨[(4, bV false)], [], 0⟩ [(a0.f0 == a1.f0) = true, (a0.f1 == a1.f1) = true, (a0.f2 == a1.f2) = true, (a0.f3 == a1.f3) = true, (a0.f4 == a1.f4) = false] (by kernel_rfl) ⟨by exact c1102, by exact c1103, by exact c1104, by exact c1105, by exact c1106, trivial⟩ ?_
              obtain rfl := Option.some.inj H
              exact Exists.intro _ (And.intro (fun _ _ h => h.conv (inv := []) (vk := []) (e0 := []) (t := ⟨[(4, bV false)], [], 0⟩) (by kernel_rfl)) (And.intro rfl rfl))
          · replace H := (ifF c1105).symm.trans H
            refine reg hP hn hm [(5, .b true), (12, .b true), (19, .b true), (26, .b false)] [4] [] ⟨[(4, bV false)], [], 0⟩ [(a0.f0 == a1.f0) = true, (a0.f1 == a1.f1) = true, (a0.f2 == a1.f2) = true, (a0.f3 == a1.f3) = false] (by kernel_rfl) ⟨by exact c1102, by exact c1103, by exact c1104, by exact c1105, trivial⟩ ?_
            obtain rfl := Option.some.inj H
            exact Exists.intro _ (And.intro (fun _ _ h => h.conv (inv := []) (vk := []) (e0 := []) (t := ⟨[(4, bV false)], [], 0⟩) (by kernel_rfl)) (And.intro rfl rfl))
        · replace H := (ifF c1104).symm.trans H
          refine reg hP hn hm [(5, .b true), (12, .b true), (19, .b false)] [4] [] ⟨[(4, bV false)], [], 0⟩ [(a0.f0 == a1.f0) = true, (a0.f1 == a1.f1) = true, (a0.f2 == a1.f2) = false] (by kernel_rfl) ⟨by exact c1102, by exact c1103, by exact c1104, trivial⟩ ?_
          obtain rfl := Option.some.inj H
          exact Exists.intro _ (And.intro (fun _ _ h => h.conv (inv := []) (vk := []) (e0 := []) (t := ⟨[(4, bV false)], [], 0⟩) (by kernel_rfl)) (And.intro rfl rfl))
      · replace H := (ifF c1103).symm.trans H
        refine reg hP hn hm [(5, .b true), (12, .b false)] [4] [] ⟨[(4, bV false)], [], 0⟩ [(a0.f0 == a1.f0) = true, (a0.f1 == a1.f1) = false] (by kernel_rfl) ⟨by exact c1102, by exact c1103, trivial⟩ ?_
        obtain rfl := Option.some.inj H
        exact Exists.intro _ (And.intro (fun _ _ h => h.conv (inv := []) (vk := []) (e0 := []) (t := ⟨[(4, bV false)], [], 0⟩) (by kernel_rfl)) (And.intro rfl rfl))
    · replace H := (ifF c1102).symm.trans H
      refine reg hP hn hm [(5, .b false)] [4] [] ⟨[(4, bV false)], [], 0⟩ [(a0.f0 == a1.f0) = false] (by kernel_rfl) ⟨by exact c1102, trivial⟩ ?_
      obtain rfl := Option.some.inj H
      exact Exists.intro _ (And.intro (fun _ _ h => h.conv (inv := []) (vk := []) (e0 := []) (t := ⟨[(4, bV false)], [], 0⟩) (by kernel_rfl)) (And.intro rfl rfl))
  · obtain ⟨x1113, rfl⟩ : ∃ z, z = o1114 := ⟨_, rfl⟩
    rintro e s ⟨rfl, rfl⟩
    refine AWp.conv (inv := []) (vk := []) (e0 := []) (t := ⟨[(4, bV x1113)], [], 0⟩) (by kernel_rfl) ?_
    refine AWp.ret ?_
    obtain rfl := Option.some.inj H
    exact Exists.intro _ (And.intro (fun _ _ h => h) (And.intro (.inl rfl) (And.intro rfl (And.intro (by kernel_rfl) (by kernel_rfl)))))
def f_hist_Clone.f (a0 : THist) : Option (THist) := (f_slices_Clone_api_Bucket.f a0.f6) >>= fun t1134 => (f_slices_Clone_api_Bucket.f a0.f7) >>= fun t1136 => some (⟨a0.f0, a0.f1, a0.f2, a0.f3, a0.f4, a0.f5, t1134, t1136⟩ : THist)
theorem f_hist_Clone.ok (a0 : THist) (r : THist) (H : f_hist_Clone.f a0 = some r) : Pv.Fn Try.prog 30 [.agg (aHist a0)] [] 0 (fun x o => x = .agg [iV .i64 ((r).f0), iV .i64 ((r).f1), iV .i64 ((r).f2), iV .u64 ((r).f3), iV .u64 ((r).f4), iV .i64 ((r).f5), .own 0, .own 1] ∧ o = [(0, some (.row 2 36 (((r).f6).map eBucket))), (1, some (.row 2 36 (((r).f7).map eBucket)))]) := by
  unfold f_hist_Clone.f at H
  refine Fn.bodyK [0, 1] Try.func30 rfl rfl (fun Γ hP hn => ?_)
  have hm : Try.prog.follows .mixedOrders = true := by kernel_rfl
  replace hn : Γ.n = 12 := hn
  refine AWp.seq ?_
  refine reg hP hn hm [(0, .k 0), (1, .k 1)] [1, 2] [0, 1] ⟨[(1, .ptr 0 0 0), (2, .ptr 1 0 0)], [(0, some (.box 30 (aHist a0))), (1, some (.box 30 [iV .i64 0, iV .i64 0, iV .i64 0, iV .u64 0, iV .u64 0, iV .i64 0, .none0, .none0]))], 0⟩ [] (by kernel_rfl) trivial ?_
  refine AWp.seq ?_
  obtain ⟨t1134, e1135, H⟩ := bind_of H
  obtain ⟨t1136, e1137, H⟩ := bind_of H
  refine reg hP hn hm [(2, .call [] [(0, 2)] [] [2] 0 (.own 0) [(0, some (.row 2 36 (t1134.map eBucket)))]), (5, .call [] [(0, 3)] [] [3] 0 (.own 0) [(0, some (.row 2 36 (t1136.map eBucket)))])] [1, 2] [0, 1, 2, 3] ⟨[(1, .ptr 0 0 0), (2, .ptr 1 0 0)], [(0, some (.box 30 [iV .i64 a0.f0, iV .i64 a0.f1, iV .i64 a0.f2, iV .u64 a0.f3, iV .u64 a0.f4, iV .i64 a0.f5, .own 2, .own 3])), (1, some (.box 30 [iV .i64 0, iV .i64 0, iV .i64 0, iV .u64 0, iV .u64 0, iV .i64 0, .none0, .none0])), (2, some (.row 2 36 (t1134.map eBucket))), (3, some (.row 2 36 (t1136.map eBucket)))], 0⟩ [Enters Try.prog 55, Pv.Fn Try.prog 55 [.im (.row (a0.f6.map eBucket))] [] 0 (fun r o => r = .own 0 ∧ o = [(0, some (.row 2 36 (t1134.map eBucket)))]), Enters Try.prog 55, Pv.Fn Try.prog 55 [.im (.row (a0.f7.map eBucket))] [] 0 (fun r o => r = .own 0 ∧ o = [(0, some (.row 2 36 (t1136.map eBucket)))])] (by kernel_rfl) ⟨by exact Try.call55, by exact f_slices_Clone_api_Bucket.ok a0.f6 t1134 e1135, by exact Try.call55, by exact f_slices_Clone_api_Bucket.ok a0.f7 t1136 e1137, trivial⟩ ?_
  refine AWp.seq ?_
  refine reg hP hn hm [] [2] [1, 2, 3] ⟨[(2, .ptr 1 0 0)], [(1, some (.box 30 [iV .i64 a0.f0, iV .i64 a0.f1, iV .i64 a0.f2, iV .u64 a0.f3, iV .u64 a0.f4, iV .i64 a0.f5, .own 2, .own 3])), (2, some (.row 2 36 (t1134.map eBucket))), (3, some (.row 2 36 (t1136.map eBucket)))], 0⟩ [] (by kernel_rfl) trivial ?_
  refine AWp.conv (inv := [(1, 2), (2, 0), (3, 1)]) (vk := []) (e0 := []) (t := ⟨[(2, .ptr 2 0 0)], [(0, some (.row 2 36 ((((⟨a0.f0, a0.f1, a0.f2, a0.f3, a0.f4, a0.f5, t1134, t1136⟩ : THist)).f6).map eBucket))), (1, some (.row 2 36 ((((⟨a0.f0, a0.f1, a0.f2, a0.f3, a0.f4, a0.f5, t1134, t1136⟩ : THist)).f7).map eBucket))), (2, some (.box 30 [iV .i64 (((⟨a0.f0, a0.f1, a0.f2, a0.f3, a0.f4, a0.f5, t1134, t1136⟩ : THist)).f0), iV .i64 (((⟨a0.f0, a0.f1, a0.f2, a0.f3, a0.f4, a0.f5, t1134, t1136⟩ : THist)).f1), iV .i64 (((⟨a0.f0, a0.f1, a0.f2, a0.f3, a0.f4, a0.f5, t1134, t1136⟩ : THist)).f2), iV .u64 (((⟨a0.f0, a0.f1, a0.f2, a0.f3, a0.f4, a0.f5, t1134, t1136⟩ : THist)).f3), iV .u64 (((⟨a0.f0, a0.f1, a0.f2, a0.f3, a0.f4, a0.f5, t1134, t1136⟩ : THist)).f4), iV .i64 (((⟨a0.f0, a0.f1, a0.f2, a0.f3, a0.f4, a0.f5, t1134, t1136⟩ : THist)).f5), .own 0, .own 1]))], 0⟩) (by kernel_rfl) ?_
  refine AWp.ret ?_
  obtain rfl := Option.some.inj H
  exact Exists.intro _ (And.intro (fun _ _ h => h) (And.intro (.inl rfl) (And.intro rfl (And.intro (by kernel_rfl) (by kernel_rfl)))))
def f_pluvialref04_Right.f (a0 : Int) : Option (Bool) := ((if (decide (a0 ≥ (-4))) = true then (some (decide (a0 ≤ (8 : Int)))) else (some false)) : Option (Bool)) >>= fun x1169 => some x1169
theorem f_pluvialref04_Right.ok (a0 : Int) (r : Bool) (H : f_pluvialref04_Right.f a0 = some r) : Pv.Fn Try.prog 56 [iV .i64 a0] [] 0 (fun x o => x = bV r ∧ o = []) := by
  unfold f_pluvialref04_Right.f at H
  refine Fn.bodyK [] Try.func56 rfl rfl (fun Γ hP hn => ?_)
  have hm : Try.prog.follows .mixedOrders = true := by kernel_rfl
  replace hn : Γ.n = 9 := hn
  refine AWp.seq ?_
  refine reg hP hn hm [] [0] [] ⟨[(0, iV .i64 a0)], [], 0⟩ [] (by kernel_rfl) trivial ?_
  refine AWp.seq ?_
  obtain ⟨o1170, e1171, H⟩ := bind_of H
  refine AWp.mono (Q := fun e s => (match (generalizing := false) o1170 with | x1169 => e = .normal ∧ s = ⟨[(2, bV x1169)], [], 0⟩)) (AWp.cv ?_) ?_
  · replace H := e1171; clear e1171
    rcases Bool.eq_false_or_eq_true (decide (a0 ≥ (-4))) with c1168 | c1168
    · replace H := (ifT c1168).symm.trans H
      refine reg hP hn hm [(2, .b true)] [2] [] ⟨[(2, bV (decide (a0 ≤ (8 : Int))))], [], 0⟩ [(decide (a0 ≥ (-4))) = true] (by kernel_rfl) ⟨by exact c1168, trivial⟩ ?_
      obtain rfl := Option.some.inj H
      exact Exists.intro _ (And.intro (fun _ _ h => h.conv (inv := []) (vk := []) (e0 := []) (t := ⟨[(2, bV (decide (a0 ≤ (8 : Int))))], [], 0⟩) (by kernel_rfl)) (And.intro rfl rfl))
    · replace H := (ifF c1168).symm.trans H
      refine reg hP hn hm [(2, .b false)] [2] [] ⟨[(2, bV false)], [], 0⟩ [(decide (a0 ≥ (-4))) = false] (by kernel_rfl) ⟨by exact c1168, trivial⟩ ?_
      obtain rfl := Option.some.inj H
      exact Exists.intro _ (And.intro (fun _ _ h => h.conv (inv := []) (vk := []) (e0 := []) (t := ⟨[(2, bV false)], [], 0⟩) (by kernel_rfl)) (And.intro rfl rfl))
  · obtain ⟨x1169, rfl⟩ : ∃ z, z = o1170 := ⟨_, rfl⟩
    rintro e s ⟨rfl, rfl⟩
    refine AWp.conv (inv := []) (vk := []) (e0 := []) (t := ⟨[(2, bV x1169)], [], 0⟩) (by kernel_rfl) ?_
    refine AWp.ret ?_
    obtain rfl := Option.some.inj H
    exact Exists.intro _ (And.intro (fun _ _ h => h) (And.intro (.inl rfl) (And.intro rfl (And.intro (by kernel_rfl) (by kernel_rfl)))))
def f_pluvialref04_step.l0 (x1199 : Int) (x1200 : Int) : Option (Int) := if (decide (x1200 < (8 : Int))) = true then (f_pluvialref04_step.l0  (IntKind.i64.wrap (x1199 * (2 : Int))) (IntKind.i64.wrap (x1200 + (1 : Int)))) else (some x1199)
partial_fixpoint
def f_pluvialref04_step.f (a0 : Int) : Option (Int) := (f_pluvialref04_step.l0  1 a0) >>= fun x1202 => some x1202
theorem f_pluvialref04_step.ok (a0 : Int) (r : Int) (H : f_pluvialref04_step.f a0 = some r) : Pv.Fn Try.prog 85 [iV .i64 a0] [] 0 (fun x o => x = iV .i64 r ∧ o = []) := by
  unfold f_pluvialref04_step.f at H
  refine Fn.bodyK [] Try.func85 rfl rfl (fun Γ hP hn => ?_)
  have hm : Try.prog.follows .mixedOrders = true := by kernel_rfl
  replace hn : Γ.n = 13 := hn
  refine AWp.seq ?_
  refine reg hP hn hm [] [0] [] ⟨[(0, iV .i64 a0)], [], 0⟩ [] (by kernel_rfl) trivial ?_
  refine AWp.seq ?_
  refine reg hP hn hm [] [0, 3] [] ⟨[(0, iV .i64 a0), (3, iV .i64 1)], [], 0⟩ [] (by kernel_rfl) trivial ?_
  refine AWp.seq ?_
  refine AWp.seq ?_
  refine reg hP hn hm [] [3, 4] [] ⟨[(3, iV .i64 1), (4, iV .i64 a0)], [], 0⟩ [] (by kernel_rfl) trivial ?_
  refine AWp.block ?_
  obtain ⟨o1203, e1204, H⟩ := bind_of H
  refine AWp.loop (LWp.conv (inv := []) (vk := []) (e0 := []) (t := ⟨[(3, iV .i64 1), (4, iV .i64 a0)], [], 0⟩) (by kernel_rfl) ?_)
  refine LWp.mono (Q := fun e s => (match (generalizing := false) o1203 with | x1202 => e = .exit 0 ∧ s = ⟨[(3, iV .i64 x1202)], [], 0⟩)) (LWp.cv (withBody (fun body hbody => ?_))) ?_
  · refine f_pluvialref04_step.l0.partial_correctness  (motive := fun x1199 x1200 o1203 => LWp Γ body (fun e s => ∃ t, Cv Γ s t ∧ (match (generalizing := false) o1203 with | x1202 => e = .exit 0 ∧ t = ⟨[(3, iV .i64 x1202)], [], 0⟩)) ⟨[(3, iV .i64 x1199), (4, iV .i64 x1200)], [], 0⟩) ?_ _ _ _ e1204
    clear H e1204 o1203; intro self ih x1199 x1200 o1203 H
    subst hbody
    refine LWp.round ?_
    refine AWp.seq ?_
    refine AWp.seq ?_
    refine reg hP hn hm [] [3, 4, 7] [] ⟨[(3, iV .i64 x1199), (4, iV .i64 x1200), (7, bV (decide (x1200 < (8 : Int))))], [], 0⟩ [] (by kernel_rfl) trivial ?_
    refine AWp.cond (decide (x1200 < (8 : Int))) rfl (fun c1201 => ?_) (fun c1201 => ?_)
    · replace H := (ifT c1201).symm.trans H
      refine AWp.skip ?_
      refine AWp.seq ?_
      refine AWp.block ?_
      refine reg hP hn hm [] [3, 4] [] ⟨[(3, iV .i64 (IntKind.i64.wrap (x1199 * (2 : Int)))), (4, iV .i64 x1200)], [], 0⟩ [] (by kernel_rfl) trivial ?_
      refine reg hP hn hm [] [3, 4] [] ⟨[(3, iV .i64 (IntKind.i64.wrap (x1199 * (2 : Int)))), (4, iV .i64 (IntKind.i64.wrap (x1200 + (1 : Int))))], [], 0⟩ [] (by kernel_rfl) trivial ?_
      exact LWp.conv (inv := []) (vk := []) (e0 := []) (t := ⟨[(3, iV .i64 (IntKind.i64.wrap (x1199 * (2 : Int)))), (4, iV .i64 (IntKind.i64.wrap (x1200 + (1 : Int))))], [], 0⟩) (by kernel_rfl) (ih _ _ _ H)
    · replace H := (ifF c1201).symm.trans H
      refine AWp.exit ?_
      obtain rfl := Option.some.inj H
      exact Exists.intro _ (And.intro (fun _ _ h => h.conv (inv := []) (vk := []) (e0 := []) (t := ⟨[(3, iV .i64 x1199)], [], 0⟩) (by kernel_rfl)) (And.intro rfl rfl))
  · obtain ⟨x1202, rfl⟩ : ∃ z, z = o1203 := ⟨_, rfl⟩
    rintro e s ⟨rfl, rfl⟩
    refine AWp.seq ?_
    refine reg hP hn hm [] [2] [] ⟨[(2, iV .i64 x1202)], [], 0⟩ [] (by kernel_rfl) trivial ?_
    refine AWp.conv (inv := []) (vk := []) (e0 := []) (t := ⟨[(2, iV .i64 x1202)], [], 0⟩) (by kernel_rfl) ?_
    refine AWp.ret ?_
    obtain rfl := Option.some.inj H
    exact Exists.intro _ (And.intro (fun _ _ h => h) (And.intro (.inl rfl) (And.intro rfl (And.intro (by kernel_rfl) (by kernel_rfl)))))
def f_pluvialref04_Units.f (a0 : Int) (a1 : Int) : Option (Int) := (f_pluvialref04_Right.f a0) >>= fun t1195 => if (!t1195) = true then (some 0) else ((f_pluvialref04_step.f a0) >>= fun t1207 => some (IntKind.i64.wrap (a1 * t1207)))
theorem f_pluvialref04_Units.ok (a0 : Int) (a1 : Int) (r : Int) (H : f_pluvialref04_Units.f a0 a1 = some r) : Pv.Fn Try.prog 58 [iV .i64 a0, iV .i64 a1] [] 0 (fun x o => x = iV .i64 r ∧ o = []) := by
  unfold f_pluvialref04_Units.f at H
  refine Fn.bodyK [] Try.func58 rfl rfl (fun Γ hP hn => ?_)
  have hm : Try.prog.follows .mixedOrders = true := by kernel_rfl
  replace hn : Γ.n = 12 := hn
  refine AWp.seq ?_
  refine reg hP hn hm [] [0, 1] [] ⟨[(0, iV .i64 a0), (1, iV .i64 a1)], [], 0⟩ [] (by kernel_rfl) trivial ?_
  refine AWp.seq ?_
  refine AWp.seq ?_
  obtain ⟨t1195, e1196, H⟩ := bind_of H
  refine reg hP hn hm [(1, .call [] [] [] [] 0 (bV t1195) [])] [0, 1, 7] [] ⟨[(0, iV .i64 a0), (1, iV .i64 a1), (7, bV (!t1195))], [], 0⟩ [Enters Try.prog 56, Pv.Fn Try.prog 56 [iV .i64 a0] [] 0 (fun r o => r = bV t1195 ∧ o = [])] (by kernel_rfl) ⟨by exact Try.call56, by exact f_pluvialref04_Right.ok a0 t1195 e1196, trivial⟩ ?_
  refine AWp.cond (!t1195) rfl (fun c1197 => ?_) (fun c1197 => ?_)
  · replace H := (ifT c1197).symm.trans H
    refine AWp.seq ?_
    refine reg hP hn hm [] [4] [] ⟨[(4, iV .i64 0)], [], 0⟩ [] (by kernel_rfl) trivial ?_
    refine AWp.conv (inv := []) (vk := []) (e0 := []) (t := ⟨[(4, iV .i64 0)], [], 0⟩) (by kernel_rfl) ?_
    refine AWp.ret ?_
    obtain rfl := Option.some.inj H
    exact Exists.intro _ (And.intro (fun _ _ h => h) (And.intro (.inl rfl) (And.intro rfl (And.intro (by kernel_rfl) (by kernel_rfl)))))
  · replace H := (ifF c1197).symm.trans H
    refine AWp.skip ?_
    refine AWp.seq ?_
    obtain ⟨t1207, e1208, H⟩ := bind_of H
    refine reg hP hn hm [(2, .call [] [] [] [] 0 (iV .i64 t1207) [])] [4] [] ⟨[(4, iV .i64 (IntKind.i64.wrap (a1 * t1207)))], [], 0⟩ [Enters Try.prog 85, Pv.Fn Try.prog 85 [iV .i64 a0] [] 0 (fun r o => r = iV .i64 t1207 ∧ o = [])] (by kernel_rfl) ⟨by exact Try.call85, by exact f_pluvialref04_step.ok a0 t1207 e1208, trivial⟩ ?_
    refine AWp.conv (inv := []) (vk := []) (e0 := []) (t := ⟨[(4, iV .i64 (IntKind.i64.wrap (a1 * t1207)))], [], 0⟩) (by kernel_rfl) ?_
    refine AWp.ret ?_
    obtain rfl := Option.some.inj H
    exact Exists.intro _ (And.intro (fun _ _ h => h) (And.intro (.inl rfl) (And.intro rfl (And.intro (by kernel_rfl) (by kernel_rfl)))))
def f_pluvialref04_In.f (a0 : Int) (a1 : Int) : Option (Bool) := (((f_pluvialref04_Right.f a0) >>= fun t1214 => if t1214 = true then (if (decide (a1 > (-262144))) = true then (if (decide (a1 ≤ (262144 : Int))) = true then ((f_pluvialref04_Units.f a0 a1) >>= fun t1219 => if (decide (t1219 > (-262144))) = true then ((f_pluvialref04_Units.f a0 a1) >>= fun t1222 => some (decide (t1222 ≤ (262144 : Int)))) else (some false)) else (some false)) else (some false)) else (some false)) : Option (Bool)) >>= fun x1224 => some x1224
theorem f_pluvialref04_In.ok (a0 : Int) (a1 : Int) (r : Bool) (H : f_pluvialref04_In.f a0 a1 = some r) : Pv.Fn Try.prog 57 [iV .i64 a0, iV .i64 a1] [] 0 (fun x o => x = bV r ∧ o = []) := by
  unfold f_pluvialref04_In.f at H
  refine Fn.bodyK [] Try.func57 rfl rfl (fun Γ hP hn => ?_)
  have hm : Try.prog.follows .mixedOrders = true := by kernel_rfl
  replace hn : Γ.n = 27 := hn
  refine AWp.seq ?_
  refine reg hP hn hm [] [0, 1] [] ⟨[(0, iV .i64 a0), (1, iV .i64 a1)], [], 0⟩ [] (by kernel_rfl) trivial ?_
  refine AWp.seq ?_
  obtain ⟨o1225, e1226, H⟩ := bind_of H
  refine AWp.mono (Q := fun e s => (match (generalizing := false) o1225 with | x1224 => e = .normal ∧ s = ⟨[(4, bV x1224)], [], 0⟩)) (AWp.cv ?_) ?_
  · replace H := e1226; clear e1226
    obtain ⟨t1214, e1215, H⟩ := bind_of H
    rcases Bool.eq_false_or_eq_true t1214 with c1216 | c1216
    · replace H := (ifT c1216).symm.trans H
      rcases Bool.eq_false_or_eq_true (decide (a1 > (-262144))) with c1217 | c1217
      · replace H := (ifT c1217).symm.trans H
        rcases Bool.eq_false_or_eq_true (decide (a1 ≤ (262144 : Int))) with c1218 | c1218
        · replace H := (ifT c1218).symm.trans H
          obtain ⟨t1219, e1220, H⟩ := bind_of H
          rcases Bool.eq_false_or_eq_true (decide (t1219 > (-262144))) with c1221 | c1221
          · replace H := (ifT c1221).symm.trans H
            obtain ⟨t1222, e1223, H⟩ := bind_of H
            refine reg hP hn hm [(1, .call [] [] [] [] 0 (bV t1214) []), (2, .b true), (6, .b true), (10, .b true), (13, .call [] [] [] [] 0 (iV .i64 t1219) []), (16, .b true), (19, .call [] [] [] [] 0 (iV .i64 t1222) [])] [4] [] ⟨[(4, bV (decide (t1222 ≤ (262144 : Int))))], [], 0⟩ [Enters Try.prog 56, Pv.Fn Try.prog 56 [iV .i64 a0] [] 0 (fun r o => r = bV t1214 ∧ o = []), t1214 = true, (decide (a1 > (-262144))) = true, (decide (a1 ≤ (262144 : Int))) = true, Enters Try.prog 58, Pv.Fn Try.prog 58 [iV .i64 a0, iV .i64 a1] [] 0 (fun r o => r = iV .i64 t1219 ∧ o = []), (decide (t1219 > (-262144))) = true, Enters Try.prog 58, Pv.Fn Try.prog 58 [iV .i64 a0, iV .i64 a1] [] 0 (fun r o => r = iV .i64 t1222 ∧ o = [])] (by kernel_rfl) ⟨by exact Try.call56, by exact f_pluvialref04_Right.ok a0 t1214 e1215, by exact c1216, by exact c1217, by exact c1218, by exact Try.call58, by exact f_pluvialref04_Units.ok a0 a1 t1219 e1220, by exact c1221, by exact Try.call58, by exact f_pluvialref04_Units.ok a0 a1 t1222 e1223, trivial⟩ ?_
            obtain rfl := Option.some.inj H
            exact Exists.intro _ (And.intro (fun _ _ h => h.conv (inv := []) (vk := []) (e0 := []) (t := ⟨[(4, bV (decide (t1222 ≤ (262144 : Int))))], [], 0⟩) (by kernel_rfl)) (And.intro rfl rfl))
          · replace H := (ifF c1221).symm.trans H
            refine reg hP hn hm [(1, .call [] [] [] [] 0 (bV t1214) []), (2, .b true), (6, .b true), (10, .b true), (13, .call [] [] [] [] 0 (iV .i64 t1219) []), (16, .b false)] [4] [] ⟨[(4, bV false)], [], 0⟩ [Enters Try.prog 56, Pv.Fn Try.prog 56 [iV .i64 a0] [] 0 (fun r o => r = bV t1214 ∧ o = []), t1214 = true, (decide (a1 > (-262144))) = true, (decide (a1 ≤ (262144 : Int))) = true, Enters Try.prog 58, Pv.Fn Try.prog 58 [iV .i64 a0, iV .i64 a1] [] 0 (fun r o => r = iV .i64 t1219 ∧ o = []), (decide (t1219 > (-262144))) = false] (by kernel_rfl) ⟨by exact Try.call56, by exact f_pluvialref04_Right.ok a0 t1214 e1215, by exact c1216, by exact c1217, by exact c1218, by exact Try.call58, by exact f_pluvialref04_Units.ok a0 a1 t1219 e1220, by exact c1221, trivial⟩ ?_
            obtain rfl := Option.some.inj H
            exact Exists.intro _ (And.intro (fun _ _ h => h.conv (inv := []) (vk := []) (e0 := []) (t := ⟨[(4, bV false)], [], 0⟩) (by kernel_rfl)) (And.intro rfl rfl))
        · replace H := (ifF c1218).symm.trans H
          refine reg hP hn hm [(1, .call [] [] [] [] 0 (bV t1214) []), (2, .b true), (6, .b true), (10, .b false)] [4] [] ⟨[(4, bV false)], [], 0⟩ [Enters Try.prog 56, Pv.Fn Try.prog 56 [iV .i64 a0] [] 0 (fun r o => r = bV t1214 ∧ o = []), t1214 = true, (decide (a1 > (-262144))) = true, (decide (a1 ≤ (262144 : Int))) = false] (by kernel_rfl) ⟨by exact Try.call56, by exact f_pluvialref04_Right.ok a0 t1214 e1215, by exact c1216, by exact c1217, by exact c1218, trivial⟩ ?_
          obtain rfl := Option.some.inj H
          exact Exists.intro _ (And.intro (fun _ _ h => h.conv (inv := []) (vk := []) (e0 := []) (t := ⟨[(4, bV false)], [], 0⟩) (by kernel_rfl)) (And.intro rfl rfl))
      · replace H := (ifF c1217).symm.trans H
        refine reg hP hn hm [(1, .call [] [] [] [] 0 (bV t1214) []), (2, .b true), (6, .b false)] [4] [] ⟨[(4, bV false)], [], 0⟩ [Enters Try.prog 56, Pv.Fn Try.prog 56 [iV .i64 a0] [] 0 (fun r o => r = bV t1214 ∧ o = []), t1214 = true, (decide (a1 > (-262144))) = false] (by kernel_rfl) ⟨by exact Try.call56, by exact f_pluvialref04_Right.ok a0 t1214 e1215, by exact c1216, by exact c1217, trivial⟩ ?_
        obtain rfl := Option.some.inj H
        exact Exists.intro _ (And.intro (fun _ _ h => h.conv (inv := []) (vk := []) (e0 := []) (t := ⟨[(4, bV false)], [], 0⟩) (by kernel_rfl)) (And.intro rfl rfl))
    · replace H := (ifF c1216).symm.trans H
      refine reg hP hn hm [(1, .call [] [] [] [] 0 (bV t1214) []), (2, .b false)] [4] [] ⟨[(4, bV false)], [], 0⟩ [Enters Try.prog 56, Pv.Fn Try.prog 56 [iV .i64 a0] [] 0 (fun r o => r = bV t1214 ∧ o = []), t1214 = false] (by kernel_rfl) ⟨by exact Try.call56, by exact f_pluvialref04_Right.ok a0 t1214 e1215, by exact c1216, trivial⟩ ?_
      obtain rfl := Option.some.inj H
      exact Exists.intro _ (And.intro (fun _ _ h => h.conv (inv := []) (vk := []) (e0 := []) (t := ⟨[(4, bV false)], [], 0⟩) (by kernel_rfl)) (And.intro rfl rfl))
  · obtain ⟨x1224, rfl⟩ : ∃ z, z = o1225 := ⟨_, rfl⟩
    rintro e s ⟨rfl, rfl⟩
    refine AWp.conv (inv := []) (vk := []) (e0 := []) (t := ⟨[(4, bV x1224)], [], 0⟩) (by kernel_rfl) ?_
    refine AWp.ret ?_
    obtain rfl := Option.some.inj H
    exact Exists.intro _ (And.intro (fun _ _ h => h) (And.intro (.inl rfl) (And.intro rfl (And.intro (by kernel_rfl) (by kernel_rfl)))))
def f_pluvialref01_Add.l0 (a0 : List Int) (x1344 : Int) (x1345 : Int) : Option ((Int × Int) ⊕ Int) := if (decide (x1345 < (a0.length : Int))) = true then ((at? a0 x1345) >>= fun b1350 => if (decide (b1350 > (IntKind.u64.wrap ((18446744073709551615 : Int) - x1344)))) = true then (some (.inl (0, 5))) else (f_pluvialref01_Add.l0 a0 (IntKind.u64.wrap (x1344 + b1350)) (IntKind.i64.wrap (x1345 + (1 : Int))))) else (some (.inr x1344))
partial_fixpoint
def f_pluvialref01_Add.f (a0 : List Int) : Option (Int × Int) := (f_pluvialref01_Add.l0 a0 0 0) >>= fun oo => match oo with | .inl rr => (some rr) | .inr x1354 => (some (x1354, 0))
theorem f_pluvialref01_Add.ok (a0 : List Int) (r : Int × Int) (H : f_pluvialref01_Add.f a0 = some r) : Pv.Fn Try.prog 59 [.im (.row (a0.map (encInt .u64)))] [] 0 (fun x o => x = .tup [iV .u64 r.1, iV .i64 r.2] ∧ o = []) := by
  unfold f_pluvialref01_Add.f at H
  refine Fn.bodyK [] Try.func59 rfl rfl (fun Γ hP hn => ?_)
  have hm : Try.prog.follows .mixedOrders = true := by kernel_rfl
  replace hn : Γ.n = 26 := hn
  refine AWp.seq ?_
  refine reg hP hn hm [] [0] [] ⟨[(0, .im (.row (a0.map (encInt .u64))))], [], 0⟩ [] (by kernel_rfl) trivial ?_
  refine AWp.seq ?_
  refine reg hP hn hm [] [0, 4] [] ⟨[(0, .im (.row (a0.map (encInt .u64)))), (4, iV .u64 0)], [], 0⟩ [] (by kernel_rfl) trivial ?_
  refine AWp.seq ?_
  refine AWp.seq ?_
  refine reg hP hn hm [] [0, 4, 5] [] ⟨[(0, .im (.row (a0.map (encInt .u64)))), (4, iV .u64 0), (5, iV .i64 0)], [], 0⟩ [] (by kernel_rfl) trivial ?_
  refine AWp.block ?_
  obtain ⟨o1355, e1356, H⟩ := bind_of H
  refine AWp.loop (LWp.conv (inv := []) (vk := []) (e0 := []) (t := ⟨[(0, .im (.row (a0.map (encInt .u64)))), (4, iV .u64 0), (5, iV .i64 0)], [], 0⟩) (by kernel_rfl) ?_)
  refine LWp.mono (Q := fun e s => (match (generalizing := false) o1355 with | .inl rr => e = .ret ∧ s.floor = 0 ∧ resOf Try.prog Try.f59 s = some (.tup [iV .u64 rr.1, iV .i64 rr.2]) ∧ ([] : List (Nat × Option MObj)) = [] | .inr x1354 => e = .exit 0 ∧ s = ⟨[(4, iV .u64 x1354)], [], 0⟩)) (LWp.cv (withBody (fun body hbody => ?_))) ?_
  · refine f_pluvialref01_Add.l0.partial_correctness a0 (motive := fun x1344 x1345 o1355 => LWp Γ body (fun e s => ∃ t, Cv Γ s t ∧ (match (generalizing := false) o1355 with | .inl rr => e = .ret ∧ t.floor = 0 ∧ resOf Try.prog Try.f59 t = some (.tup [iV .u64 rr.1, iV .i64 rr.2]) ∧ ([] : List (Nat × Option MObj)) = [] | .inr x1354 => e = .exit 0 ∧ t = ⟨[(4, iV .u64 x1354)], [], 0⟩)) ⟨[(0, .im (.row (a0.map (encInt .u64)))), (4, iV .u64 x1344), (5, iV .i64 x1345)], [], 0⟩) ?_ _ _ _ e1356
    clear H e1356 o1355; intro self ih x1344 x1345 o1355 H
    subst hbody
    refine LWp.round ?_
    refine AWp.seq ?_
    refine AWp.seq ?_
    refine reg hP hn hm [(2, .any (iV .i64 (a0.length : Int)))] [0, 4, 5, 9] [] ⟨[(0, .im (.row (a0.map (encInt .u64)))), (4, iV .u64 x1344), (5, iV .i64 x1345), (9, bV (decide (x1345 < (a0.length : Int))))], [], 0⟩ [((a0.map (encInt .u64)).length : Int) = (a0.length : Int)] (by kernel_rfl) ⟨by rw [len_map], trivial⟩ ?_
    refine AWp.cond (decide (x1345 < (a0.length : Int))) rfl (fun c1346 => ?_) (fun c1346 => ?_)
    · replace H := (ifT c1346).symm.trans H
      refine AWp.skip ?_
      refine AWp.seq ?_
      refine AWp.block ?_
      refine AWp.seq ?_
      refine AWp.seq ?_
      obtain ⟨b1350, p1351, q1352, H⟩ := at_of H
      refine reg hP hn hm [(2, .c ((encInt .u64) b1350))] [0, 4, 5, 18] [] ⟨[(0, .im (.row (a0.map (encInt .u64)))), (4, iV .u64 x1344), (5, iV .i64 x1345), (18, bV (decide (b1350 > (IntKind.u64.wrap ((18446744073709551615 : Int) - x1344)))))], [], 0⟩ [0 ≤ x1345, (a0.map (encInt .u64))[(Int.toNat (x1345))]? = some ((encInt .u64) b1350)] (by kernel_rfl) ⟨by exact p1351, by exact el_map (encInt .u64) q1352, trivial⟩ ?_
      refine AWp.cond (decide (b1350 > (IntKind.u64.wrap ((18446744073709551615 : Int) - x1344)))) rfl (fun c1353 => ?_) (fun c1353 => ?_)
      · replace H := (ifT c1353).symm.trans H
        refine AWp.seq ?_
        refine reg hP hn hm [] [2, 3] [] ⟨[(2, iV .u64 0), (3, iV .i64 5)], [], 0⟩ [] (by kernel_rfl) trivial ?_
        refine AWp.conv (inv := []) (vk := []) (e0 := []) (t := ⟨[(2, iV .u64 0), (3, iV .i64 5)], [], 0⟩) (by kernel_rfl) ?_
        refine AWp.ret ?_
        obtain rfl := Option.some.inj H
        exact Exists.intro _ (And.intro (fun _ _ h => h) (And.intro rfl (And.intro rfl (And.intro (by kernel_rfl) (by kernel_rfl)))))
      · replace H := (ifF c1353).symm.trans H
        refine AWp.skip ?_
        refine reg hP hn hm [(3, .c ((encInt .u64) b1350))] [0, 4, 5] [] ⟨[(0, .im (.row (a0.map (encInt .u64)))), (4, iV .u64 (IntKind.u64.wrap (x1344 + b1350))), (5, iV .i64 x1345)], [], 0⟩ [0 ≤ x1345, (a0.map (encInt .u64))[(Int.toNat (x1345))]? = some ((encInt .u64) b1350)] (by kernel_rfl) ⟨by exact p1351, by exact el_map (encInt .u64) q1352, trivial⟩ ?_
        refine reg hP hn hm [] [0, 4, 5] [] ⟨[(0, .im (.row (a0.map (encInt .u64)))), (4, iV .u64 (IntKind.u64.wrap (x1344 + b1350))), (5, iV .i64 (IntKind.i64.wrap (x1345 + (1 : Int))))], [], 0⟩ [] (by kernel_rfl) trivial ?_
        exact LWp.conv (inv := []) (vk := []) (e0 := []) (t := ⟨[(0, .im (.row (a0.map (encInt .u64)))), (4, iV .u64 (IntKind.u64.wrap (x1344 + b1350))), (5, iV .i64 (IntKind.i64.wrap (x1345 + (1 : Int))))], [], 0⟩) (by kernel_rfl) (ih _ _ _ H)
    · replace H := (ifF c1346).symm.trans H
      refine AWp.exit ?_
      obtain rfl := Option.some.inj H
      exact Exists.intro _ (And.intro (fun _ _ h => h.conv (inv := []) (vk := []) (e0 := []) (t := ⟨[(4, iV .u64 x1344)], [], 0⟩) (by kernel_rfl)) (And.intro rfl rfl))
  · rcases o1355 with rr | x1354
    · skip
      rintro e s ⟨rfl, hfl, hres⟩
      obtain rfl := Option.some.inj H
      exact Exists.intro _ (And.intro (fun _ _ h => h) (And.intro (.inl rfl) (And.intro hfl hres)))
    · skip
      rintro e s ⟨rfl, rfl⟩
      refine AWp.seq ?_
      refine reg hP hn hm [] [2, 3] [] ⟨[(2, iV .u64 x1354), (3, iV .i64 0)], [], 0⟩ [] (by kernel_rfl) trivial ?_
      refine AWp.conv (inv := []) (vk := []) (e0 := []) (t := ⟨[(2, iV .u64 x1354), (3, iV .i64 0)], [], 0⟩) (by kernel_rfl) ?_
      refine AWp.ret ?_
      obtain rfl := Option.some.inj H
      exact Exists.intro _ (And.intro (fun _ _ h => h) (And.intro (.inl rfl) (And.intro rfl (And.intro (by kernel_rfl) (by kernel_rfl)))))
def f_pluvialref05_Check.l1 (a0 : THist) (x1277 : Int) (x1280 : List TBucket) (x1302 : List Int) (x1303 : Int) : Option (Int ⊕ (List Int)) := if (decide (x1303 < (x1280.length : Int))) = true then ((at? x1280 x1303) >>= fun b1310 => (f_pluvialref04_In.f a0.f1 b1310.f0) >>= fun t1313 => if (!t1313) = true then (some (.inl 4)) else (((if (decide (x1303 > (0 : Int))) = true then ((at? x1280 (IntKind.i64.wrap (x1303 - (1 : Int)))) >>= fun b1321 => some (decide (b1310.f0 ≤ b1321.f0))) else (some false)) : Option (Bool)) >>= fun x1324 => if x1324 = true then (some (.inl 32)) else (if (b1310.f1 == (0 : Int)) = true then (some (.inl 21)) else ((f_pluvialref04_Units.f a0.f1 (IntKind.i64.wrap (b1310.f0 - (1 : Int)))) >>= fun t1329 => if (decide (t1329 < a0.f2)) = true then (some (.inl 31)) else ((chk ((x1302.length + [b1310.f1].length) * 8 ≤ 140737488355328)) >>= fun _ => f_pluvialref05_Check.l1 a0 x1277 x1280 (x1302 ++ [b1310.f1]) (IntKind.i64.wrap (x1303 + (1 : Int)))))))) else (some (.inr x1302))
partial_fixpoint
def f_pluvialref05_Check.l0 (a0 : THist) (x1276 : List Int) (x1277 : Int) : Option (Int ⊕ (List Int)) := if (decide (x1277 < (2 : Int))) = true then (((if (x1277 == (1 : Int)) = true then (some a0.f7) else (some a0.f6)) : Option (List TBucket)) >>= fun x1280 => if (decide ((x1280.length : Int) > (512 : Int))) = true then (some (.inl 9)) else ((f_pluvialref05_Check.l1 a0 x1277 x1280 x1276 0) >>= fun oo => match oo with | .inl rr => (some (.inl rr)) | .inr x1334 => (f_pluvialref05_Check.l0 a0 x1334 (IntKind.i64.wrap (x1277 + (1 : Int)))))) else (some (.inr x1276))
partial_fixpoint
def f_pluvialref05_Check.f (a0 : THist) : Option (Int) := ((if (a0.f0 != (0 : Int)) = true then (some (a0.f0 != (1 : Int))) else (some false)) : Option (Bool)) >>= fun x1165 => if x1165 = true then (some 25) else ((f_pluvialref04_Right.f a0.f1) >>= fun t1174 => if (!t1174) = true then (some 20) else (((if (a0.f2 != (-524288)) = true then (if (decide (a0.f2 ≤ (-262144))) = true then (some true) else (some (decide (a0.f2 > (262144 : Int))))) else (some false)) : Option (Bool)) >>= fun x1181 => if x1181 = true then (some 31) else ((f_pluvialref05_Check.l0 a0 [a0.f3] 0) >>= fun oo => match oo with | .inl rr => (some rr) | .inr x1335 => ((f_pluvialref01_Add.f x1335) >>= fun t1359 => if (t1359.2 != (0 : Int)) = true then (some 5) else (if (t1359.1 != a0.f4) = true then (some 21) else (some 0))))))
theorem f_pluvialref05_Check.ok (a0 : THist) (r : Int) (H : f_pluvialref05_Check.f a0 = some r) : Pv.Fn Try.prog 31 [.agg (aHist a0)] [] 0 (fun x o => x = iV .i64 r ∧ o = []) := by
  unfold f_pluvialref05_Check.f at H
  refine Fn.bodyK [] Try.func31 rfl rfl (fun Γ hP hn => ?_)
  have hm : Try.prog.follows .mixedOrders = true := by kernel_rfl
  replace hn : Γ.n = 118 := hn
  refine AWp.seq ?_
  refine reg hP hn hm [(0, .k 0)] [1] [0] ⟨[(1, .ptr 0 0 0)], [(0, some (.box 30 (aHist a0)))], 0⟩ [] (by kernel_rfl) trivial ?_
  refine AWp.seq ?_
  refine AWp.seq ?_
  obtain ⟨o1363, e1364, H⟩ := bind_of H
  refine AWp.mono (Q := fun e s => (match (generalizing := false) o1363 with | x1165 => e = .normal ∧ s = ⟨[(1, .ptr 1 0 0), (16, bV x1165)], [(1, some (.box 30 (aHist a0)))], 0⟩)) (AWp.cv ?_) ?_
  · replace H := e1364; clear e1364
    rcases Bool.eq_false_or_eq_true (a0.f0 != (0 : Int)) with c1164 | c1164
    · replace H := (ifT c1164).symm.trans H
      refine reg hP hn hm [(3, .b true)] [1, 16] [0] ⟨[(1, .ptr 0 0 0), (16, bV (a0.f0 != (1 : Int)))], [(0, some (.box 30 (aHist a0)))], 0⟩ [(a0.f0 != (0 : Int)) = true] (by kernel_rfl) ⟨by exact c1164, trivial⟩ ?_
      obtain rfl := Option.some.inj H
      exact Exists.intro _ (And.intro (fun _ _ h => h.conv (inv := [(0, 1)]) (vk := []) (e0 := []) (t := ⟨[(1, .ptr 1 0 0), (16, bV (a0.f0 != (1 : Int)))], [(1, some (.box 30 (aHist a0)))], 0⟩) (by kernel_rfl)) (And.intro rfl rfl))
    · replace H := (ifF c1164).symm.trans H
      refine reg hP hn hm [(3, .b false)] [1, 16] [0] ⟨[(1, .ptr 0 0 0), (16, bV false)], [(0, some (.box 30 (aHist a0)))], 0⟩ [(a0.f0 != (0 : Int)) = false] (by kernel_rfl) ⟨by exact c1164, trivial⟩ ?_
      obtain rfl := Option.some.inj H
      exact Exists.intro _ (And.intro (fun _ _ h => h.conv (inv := [(0, 1)]) (vk := []) (e0 := []) (t := ⟨[(1, .ptr 1 0 0), (16, bV false)], [(1, some (.box 30 (aHist a0)))], 0⟩) (by kernel_rfl)) (And.intro rfl rfl))
  · obtain ⟨x1165, rfl⟩ : ∃ z, z = o1363 := ⟨_, rfl⟩
    rintro e s ⟨rfl, rfl⟩
    refine AWp.cond x1165 rfl (fun c1166 => ?_) (fun c1166 => ?_)
    · replace H := (ifT c1166).symm.trans H
      refine AWp.seq ?_
      refine reg hP hn hm [] [2] [] ⟨[(2, iV .i64 25)], [], 0⟩ [] (by kernel_rfl) trivial ?_
      refine AWp.conv (inv := []) (vk := []) (e0 := []) (t := ⟨[(2, iV .i64 25)], [], 0⟩) (by kernel_rfl) ?_
      refine AWp.ret ?_
      obtain rfl := Option.some.inj H
      exact Exists.intro _ (And.intro (fun _ _ h => h) (And.intro (.inl rfl) (And.intro rfl (And.intro (by kernel_rfl) (by kernel_rfl)))))
    · replace H := (ifF c1166).symm.trans H
      refine AWp.skip ?_
      refine AWp.seq ?_
      refine AWp.seq ?_
      obtain ⟨t1174, e1175, H⟩ := bind_of H
      refine reg hP hn hm [(2, .call [] [] [] [] 0 (bV t1174) [])] [1, 20] [1] ⟨[(1, .ptr 1 0 0), (20, bV (!t1174))], [(1, some (.box 30 (aHist a0)))], 0⟩ [Enters Try.prog 56, Pv.Fn Try.prog 56 [iV .i64 a0.f1] [] 0 (fun r o => r = bV t1174 ∧ o = [])] (by kernel_rfl) ⟨by exact Try.call56, by exact f_pluvialref04_Right.ok a0.f1 t1174 e1175, trivial⟩ ?_
      refine AWp.cond (!t1174) rfl (fun c1176 => ?_) (fun c1176 => ?_)
      · replace H := (ifT c1176).symm.trans H
        refine AWp.seq ?_
        refine reg hP hn hm [] [2] [] ⟨[(2, iV .i64 20)], [], 0⟩ [] (by kernel_rfl) trivial ?_
        refine AWp.conv (inv := []) (vk := []) (e0 := []) (t := ⟨[(2, iV .i64 20)], [], 0⟩) (by kernel_rfl) ?_
        refine AWp.ret ?_
        obtain rfl := Option.some.inj H
        exact Exists.intro _ (And.intro (fun _ _ h => h) (And.intro (.inl rfl) (And.intro rfl (And.intro (by kernel_rfl) (by kernel_rfl)))))
      · replace H := (ifF c1176).symm.trans H
        refine AWp.skip ?_
        refine AWp.seq ?_
        refine AWp.seq ?_
        obtain ⟨o1365, e1366, H⟩ := bind_of H
        refine AWp.mono (Q := fun e s => (match (generalizing := false) o1365 with | x1181 => e = .normal ∧ s = ⟨[(1, .ptr 2 0 0), (33, bV x1181)], [(2, some (.box 30 (aHist a0)))], 0⟩)) (AWp.cv ?_) ?_
        · replace H := e1366; clear e1366
          rcases Bool.eq_false_or_eq_true (a0.f2 != (-524288)) with c1179 | c1179
          · replace H := (ifT c1179).symm.trans H
            rcases Bool.eq_false_or_eq_true (decide (a0.f2 ≤ (-262144))) with c1180 | c1180
            · replace H := (ifT c1180).symm.trans H
              refine reg hP hn hm [(3, .b true), (7, .b true)] [1, 33] [1] ⟨[(1, .ptr 1 0 0), (33, bV true)], [(1, some (.box 30 (aHist a0)))], 0⟩ [(a0.f2 != (-524288)) = true, (decide (a0.f2 ≤ (-262144))) = true] (by kernel_rfl) ⟨by exact c1179, by exact c1180, trivial⟩ ?_
              obtain rfl := Option.some.inj H
              exact Exists.intro _ (And.intro (fun _ _ h => h.conv (inv := [(1, 2)]) (vk := []) (e0 := []) (t := ⟨[(1, .ptr 2 0 0), (33, bV true)], [(2, some (.box 30 (aHist a0)))], 0⟩) (by kernel_rfl)) (And.intro rfl rfl))
            · replace H := (ifF c1180).symm.trans H
              refine reg hP hn hm [(3, .b true), (7, .b false)] [1, 33] [1] ⟨[(1, .ptr 1 0 0), (33, bV (decide (a0.f2 > (262144 : Int))))], [(1, some (.box 30 (aHist a0)))], 0⟩ [(a0.f2 != (-524288)) = true, (decide (a0.f2 ≤ (-262144))) = false] (by kernel_rfl) ⟨by exact c1179, by exact c1180, trivial⟩ ?_
              obtain rfl := Option.some.inj H
              exact Exists.intro _ (And.intro (fun _ _ h => h.conv (inv := [(1, 2)]) (vk := []) (e0 := []) (t := ⟨[(1, .ptr 2 0 0), (33, bV (decide (a0.f2 > (262144 : Int))))], [(2, some (.box 30 (aHist a0)))], 0⟩) (by kernel_rfl)) (And.intro rfl rfl))
          · replace H := (ifF c1179).symm.trans H
            refine reg hP hn hm [(3, .b false)] [1, 33] [1] ⟨[(1, .ptr 1 0 0), (33, bV false)], [(1, some (.box 30 (aHist a0)))], 0⟩ [(a0.f2 != (-524288)) = false] (by kernel_rfl) ⟨by exact c1179, trivial⟩ ?_
            obtain rfl := Option.some.inj H
            exact Exists.intro _ (And.intro (fun _ _ h => h.conv (inv := [(1, 2)]) (vk := []) (e0 := []) (t := ⟨[(1, .ptr 2 0 0), (33, bV false)], [(2, some (.box 30 (aHist a0)))], 0⟩) (by kernel_rfl)) (And.intro rfl rfl))
        · obtain ⟨x1181, rfl⟩ : ∃ z, z = o1365 := ⟨_, rfl⟩
          rintro e s ⟨rfl, rfl⟩
          refine AWp.cond x1181 rfl (fun c1182 => ?_) (fun c1182 => ?_)
          · replace H := (ifT c1182).symm.trans H
            refine AWp.seq ?_
            refine reg hP hn hm [] [2] [] ⟨[(2, iV .i64 31)], [], 0⟩ [] (by kernel_rfl) trivial ?_
            refine AWp.conv (inv := []) (vk := []) (e0 := []) (t := ⟨[(2, iV .i64 31)], [], 0⟩) (by kernel_rfl) ?_
            refine AWp.ret ?_
            obtain rfl := Option.some.inj H
            exact Exists.intro _ (And.intro (fun _ _ h => h) (And.intro (.inl rfl) (And.intro rfl (And.intro (by kernel_rfl) (by kernel_rfl)))))
          · replace H := (ifF c1182).symm.trans H
            refine AWp.skip ?_
            refine AWp.seq ?_
            refine reg hP hn hm [(2, .app 3 ([a0.f3].map (encInt .u64)))] [1, 3] [2, 3] ⟨[(1, .ptr 2 0 0), (3, .own 3)], [(2, some (.box 30 (aHist a0))), (3, some (.row 1 27 ([a0.f3].map (encInt .u64))))], 0⟩ [[a0.f3].map (encInt .u64) = [[iI .u64 a0.f3]]] (by kernel_rfl) ⟨by exact rfl, trivial⟩ ?_
            refine AWp.seq ?_
            refine AWp.seq ?_
            refine reg hP hn hm [] [1, 3, 4] [2, 3] ⟨[(1, .ptr 2 0 0), (3, .own 3), (4, iV .i64 0)], [(2, some (.box 30 (aHist a0))), (3, some (.row 1 27 ([a0.f3].map (encInt .u64))))], 0⟩ [] (by kernel_rfl) trivial ?_
            refine AWp.block ?_
            obtain ⟨o1367, e1368, H⟩ := bind_of H
            refine AWp.loop (LWp.conv (inv := [(2, 14), (3, 15)]) (vk := []) (e0 := []) (t := ⟨[(1, .ptr 14 0 0), (3, .own 15), (4, iV .i64 0)], [(14, some (.box 30 (aHist a0))), (15, some (.row 1 27 ([a0.f3].map (encInt .u64))))], 0⟩) (by kernel_rfl) ?_)
            refine LWp.mono (Q := fun e s => (match (generalizing := false) o1367 with | .inl rr => e = .ret ∧ s.floor = 0 ∧ resOf Try.prog Try.f31 s = some (iV .i64 rr) ∧ ([] : List (Nat × Option MObj)) = [] | .inr x1335 => e = .exit 0 ∧ s = ⟨[(1, .ptr 28 0 0), (3, .own 29)], [(28, some (.box 30 (aHist a0))), (29, some (.row 1 27 (x1335.map (encInt .u64))))], 0⟩)) (LWp.cv (withBody (fun body hbody => ?_))) ?_
            · refine f_pluvialref05_Check.l0.partial_correctness a0 (motive := fun x1276 x1277 o1367 => LWp Γ body (fun e s => ∃ t, Cv Γ s t ∧ (match (generalizing := false) o1367 with | .inl rr => e = .ret ∧ t.floor = 0 ∧ resOf Try.prog Try.f31 t = some (iV .i64 rr) ∧ ([] : List (Nat × Option MObj)) = [] | .inr x1335 => e = .exit 0 ∧ t = ⟨[(1, .ptr 28 0 0), (3, .own 29)], [(28, some (.box 30 (aHist a0))), (29, some (.row 1 27 (x1335.map (encInt .u64))))], 0⟩)) ⟨[(1, .ptr 14 0 0), (3, .own 15), (4, iV .i64 x1277)], [(14, some (.box 30 (aHist a0))), (15, some (.row 1 27 (x1276.map (encInt .u64))))], 0⟩) ?_ _ _ _ e1368
              clear H e1368 o1367; intro self ih x1276 x1277 o1367 H
              subst hbody
              refine LWp.round ?_
              refine AWp.seq ?_
              refine AWp.seq ?_
              refine reg hP hn hm [] [1, 3, 4, 38] [14, 15] ⟨[(1, .ptr 14 0 0), (3, .own 15), (4, iV .i64 x1277), (38, bV (decide (x1277 < (2 : Int))))], [(14, some (.box 30 (aHist a0))), (15, some (.row 1 27 (x1276.map (encInt .u64))))], 0⟩ [] (by kernel_rfl) trivial ?_
              refine AWp.cond (decide (x1277 < (2 : Int))) rfl (fun c1278 => ?_) (fun c1278 => ?_)
              · replace H := (ifT c1278).symm.trans H
                refine AWp.skip ?_
                refine AWp.seq ?_
                refine AWp.block ?_
                refine AWp.seq ?_
                refine reg hP hn hm [] [1, 3, 4, 5] [14, 15] ⟨[(1, .ptr 14 0 0), (3, .own 15), (4, iV .i64 x1277), (5, .im (.row (a0.f6.map eBucket)))], [(14, some (.box 30 (aHist a0))), (15, some (.row 1 27 (x1276.map (encInt .u64))))], 0⟩ [] (by kernel_rfl) trivial ?_
                refine AWp.seq ?_
                refine AWp.seq ?_
                refine reg hP hn hm [] [1, 3, 4, 5, 44] [14, 15] ⟨[(1, .ptr 14 0 0), (3, .own 15), (4, iV .i64 x1277), (5, .im (.row (a0.f6.map eBucket))), (44, bV (x1277 == (1 : Int)))], [(14, some (.box 30 (aHist a0))), (15, some (.row 1 27 (x1276.map (encInt .u64))))], 0⟩ [] (by kernel_rfl) trivial ?_
                obtain ⟨o1369, e1370, H⟩ := bind_of H
                refine AWp.mono (Q := fun e s => (match (generalizing := false) o1369 with | x1280 => e = .normal ∧ s = ⟨[(1, .ptr 16 0 0), (3, .own 17), (4, iV .i64 x1277), (5, .im (.row (x1280.map eBucket)))], [(16, some (.box 30 (aHist a0))), (17, some (.row 1 27 (x1276.map (encInt .u64))))], 0⟩)) (AWp.cv ?_) ?_
                · replace H := e1370; clear e1370
                  refine AWp.cond (x1277 == (1 : Int)) rfl (fun c1279 => ?_) (fun c1279 => ?_)
                  · replace H := (ifT c1279).symm.trans H
                    refine reg hP hn hm [] [1, 3, 4, 5] [14, 15] ⟨[(1, .ptr 14 0 0), (3, .own 15), (4, iV .i64 x1277), (5, .im (.row (a0.f7.map eBucket)))], [(14, some (.box 30 (aHist a0))), (15, some (.row 1 27 (x1276.map (encInt .u64))))], 0⟩ [] (by kernel_rfl) trivial ?_
                    obtain rfl := Option.some.inj H
                    exact Exists.intro _ (And.intro (fun _ _ h => h.conv (inv := [(14, 16), (15, 17)]) (vk := []) (e0 := []) (t := ⟨[(1, .ptr 16 0 0), (3, .own 17), (4, iV .i64 x1277), (5, .im (.row (a0.f7.map eBucket)))], [(16, some (.box 30 (aHist a0))), (17, some (.row 1 27 (x1276.map (encInt .u64))))], 0⟩) (by kernel_rfl)) (And.intro rfl rfl))
                  · replace H := (ifF c1279).symm.trans H
                    refine AWp.skip ?_
                    obtain rfl := Option.some.inj H
                    exact Exists.intro _ (And.intro (fun _ _ h => h.conv (inv := [(14, 16), (15, 17)]) (vk := []) (e0 := []) (t := ⟨[(1, .ptr 16 0 0), (3, .own 17), (4, iV .i64 x1277), (5, .im (.row (a0.f6.map eBucket)))], [(16, some (.box 30 (aHist a0))), (17, some (.row 1 27 (x1276.map (encInt .u64))))], 0⟩) (by kernel_rfl)) (And.intro rfl rfl))
                · obtain ⟨x1280, rfl⟩ : ∃ z, z = o1369 := ⟨_, rfl⟩
                  rintro e s ⟨rfl, rfl⟩
                  refine AWp.seq ?_
                  refine AWp.seq ?_
                  refine reg hP hn hm [(1, .any (iV .i64 (x1280.length : Int)))] [1, 3, 4, 5, 49] [16, 17] ⟨[(1, .ptr 16 0 0), (3, .own 17), (4, iV .i64 x1277), (5, .im (.row (x1280.map eBucket))), (49, bV (decide ((x1280.length : Int) > (512 : Int))))], [(16, some (.box 30 (aHist a0))), (17, some (.row 1 27 (x1276.map (encInt .u64))))], 0⟩ [((x1280.map eBucket).length : Int) = (x1280.length : Int)] (by kernel_rfl) ⟨by rw [len_map], trivial⟩ ?_
                  refine AWp.cond (decide ((x1280.length : Int) > (512 : Int))) rfl (fun c1281 => ?_) (fun c1281 => ?_)
                  · replace H := (ifT c1281).symm.trans H
                    refine AWp.seq ?_
                    refine reg hP hn hm [] [2] [] ⟨[(2, iV .i64 9)], [], 0⟩ [] (by kernel_rfl) trivial ?_
                    refine AWp.conv (inv := []) (vk := []) (e0 := []) (t := ⟨[(2, iV .i64 9)], [], 0⟩) (by kernel_rfl) ?_
                    refine AWp.ret ?_
                    obtain rfl := Option.some.inj H
                    exact Exists.intro _ (And.intro (fun _ _ h => h) (And.intro rfl (And.intro rfl (And.intro (by kernel_rfl) (by kernel_rfl)))))
                  · replace H := (ifF c1281).symm.trans H
                    refine AWp.skip ?_
                    refine AWp.seq ?_
                    refine reg hP hn hm [] [1, 3, 4, 5, 6] [16, 17] ⟨[(1, .ptr 16 0 0), (3, .own 17), (4, iV .i64 x1277), (5, .im (.row (x1280.map eBucket))), (6, iV .i64 0)], [(16, some (.box 30 (aHist a0))), (17, some (.row 1 27 (x1276.map (encInt .u64))))], 0⟩ [] (by kernel_rfl) trivial ?_
                    refine AWp.block ?_
                    obtain ⟨o1371, e1372, H⟩ := bind_of H
                    refine AWp.loop (LWp.conv (inv := [(16, 20), (17, 21)]) (vk := []) (e0 := []) (t := ⟨[(1, .ptr 20 0 0), (3, .own 21), (4, iV .i64 x1277), (5, .im (.row (x1280.map eBucket))), (6, iV .i64 0)], [(20, some (.box 30 (aHist a0))), (21, some (.row 1 27 (x1276.map (encInt .u64))))], 0⟩) (by kernel_rfl) ?_)
                    refine LWp.mono (Q := fun e s => (match (generalizing := false) o1371 with | .inl rr => e = .ret ∧ s.floor = 0 ∧ resOf Try.prog Try.f31 s = some (iV .i64 rr) ∧ ([] : List (Nat × Option MObj)) = [] | .inr x1334 => e = .exit 2 ∧ s = ⟨[(1, .ptr 26 0 0), (3, .own 27), (4, iV .i64 x1277)], [(26, some (.box 30 (aHist a0))), (27, some (.row 1 27 (x1334.map (encInt .u64))))], 0⟩)) (LWp.cv (withBody (fun body hbody => ?_))) ?_
                    · refine f_pluvialref05_Check.l1.partial_correctness a0 x1277 x1280 (motive := fun x1302 x1303 o1371 => LWp Γ body (fun e s => ∃ t, Cv Γ s t ∧ (match (generalizing := false) o1371 with | .inl rr => e = .ret ∧ t.floor = 0 ∧ resOf Try.prog Try.f31 t = some (iV .i64 rr) ∧ ([] : List (Nat × Option MObj)) = [] | .inr x1334 => e = .exit 2 ∧ t = ⟨[(1, .ptr 26 0 0), (3, .own 27), (4, iV .i64 x1277)], [(26, some (.box 30 (aHist a0))), (27, some (.row 1 27 (x1334.map (encInt .u64))))], 0⟩)) ⟨[(1, .ptr 20 0 0), (3, .own 21), (4, iV .i64 x1277), (5, .im (.row (x1280.map eBucket))), (6, iV .i64 x1303)], [(20, some (.box 30 (aHist a0))), (21, some (.row 1 27 (x1302.map (encInt .u64))))], 0⟩) ?_ _ _ _ e1372
                      clear H e1372 o1371; intro self ih x1302 x1303 o1371 H
                      subst hbody
                      refine LWp.round ?_
                      refine AWp.seq ?_
                      refine AWp.seq ?_
                      refine reg hP hn hm [(2, .any (iV .i64 (x1280.length : Int)))] [1, 3, 4, 5, 6, 53] [20, 21] ⟨[(1, .ptr 20 0 0), (3, .own 21), (4, iV .i64 x1277), (5, .im (.row (x1280.map eBucket))), (6, iV .i64 x1303), (53, bV (decide (x1303 < (x1280.length : Int))))], [(20, some (.box 30 (aHist a0))), (21, some (.row 1 27 (x1302.map (encInt .u64))))], 0⟩ [((x1280.map eBucket).length : Int) = (x1280.length : Int)] (by kernel_rfl) ⟨by rw [len_map], trivial⟩ ?_
                      refine AWp.cond (decide (x1303 < (x1280.length : Int))) rfl (fun c1304 => ?_) (fun c1304 => ?_)
                      · replace H := (ifT c1304).symm.trans H
                        refine AWp.skip ?_
                        refine AWp.seq ?_
                        refine AWp.block ?_
                        refine AWp.seq ?_
                        refine AWp.seq ?_
                        obtain ⟨b1310, p1311, q1312, H⟩ := at_of H
                        obtain ⟨t1313, e1314, H⟩ := bind_of H
                        refine reg hP hn hm [(4, .c (eBucket b1310)), (7, .call [] [] [] [] 0 (bV t1313) [])] [1, 3, 4, 5, 6, 64] [20, 21] ⟨[(1, .ptr 20 0 0), (3, .own 21), (4, iV .i64 x1277), (5, .im (.row (x1280.map eBucket))), (6, iV .i64 x1303), (64, bV (!t1313))], [(20, some (.box 30 (aHist a0))), (21, some (.row 1 27 (x1302.map (encInt .u64))))], 0⟩ [0 ≤ x1303, (x1280.map eBucket)[(Int.toNat (x1303))]? = some (eBucket b1310), Enters Try.prog 57, Pv.Fn Try.prog 57 [iV .i64 a0.f1, iV .i64 b1310.f0] [] 0 (fun r o => r = bV t1313 ∧ o = [])] (by kernel_rfl) ⟨by exact p1311, by exact el_map eBucket q1312, by exact Try.call57, by exact f_pluvialref04_In.ok a0.f1 b1310.f0 t1313 e1314, trivial⟩ ?_
                        refine AWp.cond (!t1313) rfl (fun c1315 => ?_) (fun c1315 => ?_)
                        · replace H := (ifT c1315).symm.trans H
                          refine AWp.seq ?_
                          refine reg hP hn hm [] [2] [] ⟨[(2, iV .i64 4)], [], 0⟩ [] (by kernel_rfl) trivial ?_
                          refine AWp.conv (inv := []) (vk := []) (e0 := []) (t := ⟨[(2, iV .i64 4)], [], 0⟩) (by kernel_rfl) ?_
                          refine AWp.ret ?_
                          obtain rfl := Option.some.inj H
                          exact Exists.intro _ (And.intro (fun _ _ h => h) (And.intro rfl (And.intro rfl (And.intro (by kernel_rfl) (by kernel_rfl)))))
                        · replace H := (ifF c1315).symm.trans H
                          refine AWp.skip ?_
                          refine AWp.seq ?_
                          refine AWp.seq ?_
                          obtain ⟨o1373, e1374, H⟩ := bind_of H
                          refine AWp.mono (Q := fun e s => (match (generalizing := false) o1373 with | x1324 => e = .normal ∧ s = ⟨[(1, .ptr 22 0 0), (3, .own 23), (4, iV .i64 x1277), (5, .im (.row (x1280.map eBucket))), (6, iV .i64 x1303), (80, bV x1324)], [(22, some (.box 30 (aHist a0))), (23, some (.row 1 27 (x1302.map (encInt .u64))))], 0⟩)) (AWp.cv ?_) ?_
                          · replace H := e1374; clear e1374
                            rcases Bool.eq_false_or_eq_true (decide (x1303 > (0 : Int))) with c1320 | c1320
                            · replace H := (ifT c1320).symm.trans H
                              obtain ⟨b1321, p1322, q1323, H⟩ := at_of H
                              refine reg hP hn hm [(2, .b true), (5, .c (eBucket b1310)), (11, .c (eBucket b1321))] [1, 3, 4, 5, 6, 68, 69, 70, 71, 72, 73, 74, 75, 76, 77, 78, 79, 80] [20, 21] ⟨[(1, .ptr 20 0 0), (3, .own 21), (4, iV .i64 x1277), (5, .im (.row (x1280.map eBucket))), (6, iV .i64 x1303), (68, .im (.row (x1280.map eBucket))), (69, iV .i64 x1303), (70, .ip [iI .i64 b1310.f0, iI .u64 b1310.f1]), (71, .ip [iI .i64 b1310.f0, iI .u64 b1310.f1]), (72, iV .i64 b1310.f0), (73, .im (.row (x1280.map eBucket))), (74, iV .i64 x1303), (75, iV .i64 (IntKind.i64.wrap (x1303 - (1 : Int)))), (76, .ip [iI .i64 b1321.f0, iI .u64 b1321.f1]), (77, .ip [iI .i64 b1321.f0, iI .u64 b1321.f1]), (78, iV .i64 b1321.f0), (79, bV (decide (b1310.f0 ≤ b1321.f0))), (80, bV (decide (b1310.f0 ≤ b1321.f0)))], [(20, some (.box 30 (aHist a0))), (21, some (.row 1 27 (x1302.map (encInt .u64))))], 0⟩ [(decide (x1303 > (0 : Int))) = true, 0 ≤ x1303, (x1280.map eBucket)[(Int.toNat (x1303))]? = some (eBucket b1310), 0 ≤ (IntKind.i64.wrap (x1303 - (1 : Int))), (x1280.map eBucket)[(Int.toNat (IntKind.i64.wrap (x1303 - (1 : Int))))]? = some (eBucket b1321)] (by kernel_rfl) ⟨by exact c1320, by exact p1311, by exact el_map eBucket q1312, by exact p1322, by exact el_map eBucket q1323, trivial⟩ ?_
                              obtain rfl := Option.some.inj H
                              exact Exists.intro _ (And.intro (fun _ _ h => h.conv (inv := [(20, 22), (21, 23)]) (vk := []) (e0 := []) (t := ⟨[(1, .ptr 22 0 0), (3, .own 23), (4, iV .i64 x1277), (5, .im (.row (x1280.map eBucket))), (6, iV .i64 x1303), (80, bV (decide (b1310.f0 ≤ b1321.f0)))], [(22, some (.box 30 (aHist a0))), (23, some (.row 1 27 (x1302.map (encInt .u64))))], 0⟩) (by kernel_rfl)) (And.intro rfl rfl))
                            · replace H := (ifF c1320).symm.trans H
                              refine reg hP hn hm [(2, .b false)] [1, 3, 4, 5, 6, 80] [20, 21] ⟨[(1, .ptr 20 0 0), (3, .own 21), (4, iV .i64 x1277), (5, .im (.row (x1280.map eBucket))), (6, iV .i64 x1303), (80, bV false)], [(20, some (.box 30 (aHist a0))), (21, some (.row 1 27 (x1302.map (encInt .u64))))], 0⟩ [(decide (x1303 > (0 : Int))) = false] (by kernel_rfl) ⟨by exact c1320, trivial⟩ ?_
                              obtain rfl := Option.some.inj H
                              exact Exists.intro _ (And.intro (fun _ _ h => h.conv (inv := [(20, 22), (21, 23)]) (vk := []) (e0 := []) (t := ⟨[(1, .ptr 22 0 0), (3, .own 23), (4, iV .i64 x1277), (5, .im (.row (x1280.map eBucket))), (6, iV .i64 x1303), (80, bV false)], [(22, some (.box 30 (aHist a0))), (23, some (.row 1 27 (x1302.map (encInt .u64))))], 0⟩) (by kernel_rfl)) (And.intro rfl rfl))
                          · obtain ⟨x1324, rfl⟩ : ∃ z, z = o1373 := ⟨_, rfl⟩
                            rintro e s ⟨rfl, rfl⟩
                            refine AWp.cond x1324 rfl (fun c1325 => ?_) (fun c1325 => ?_)
                            · replace H := (ifT c1325).symm.trans H
                              refine AWp.seq ?_
                              refine reg hP hn hm [] [2] [] ⟨[(2, iV .i64 32)], [], 0⟩ [] (by kernel_rfl) trivial ?_
                              refine AWp.conv (inv := []) (vk := []) (e0 := []) (t := ⟨[(2, iV .i64 32)], [], 0⟩) (by kernel_rfl) ?_
                              refine AWp.ret ?_
                              obtain rfl := Option.some.inj H
                              exact Exists.intro _ (And.intro (fun _ _ h => h) (And.intro rfl (And.intro rfl (And.intro (by kernel_rfl) (by kernel_rfl)))))
                            · replace H := (ifF c1325).symm.trans H
                              refine AWp.skip ?_
                              refine AWp.seq ?_
                              refine AWp.seq ?_
                              refine reg hP hn hm [(2, .c (eBucket b1310))] [1, 3, 4, 5, 6, 86] [22, 23] ⟨[(1, .ptr 22 0 0), (3, .own 23), (4, iV .i64 x1277), (5, .im (.row (x1280.map eBucket))), (6, iV .i64 x1303), (86, bV (b1310.f1 == (0 : Int)))], [(22, some (.box 30 (aHist a0))), (23, some (.row 1 27 (x1302.map (encInt .u64))))], 0⟩ [0 ≤ x1303, (x1280.map eBucket)[(Int.toNat (x1303))]? = some (eBucket b1310)] (by kernel_rfl) ⟨by exact p1311, by exact el_map eBucket q1312, trivial⟩ ?_
                              refine AWp.cond (b1310.f1 == (0 : Int)) rfl (fun c1326 => ?_) (fun c1326 => ?_)
                              · replace H := (ifT c1326).symm.trans H
                                refine AWp.seq ?_
                                refine reg hP hn hm [] [2] [] ⟨[(2, iV .i64 21)], [], 0⟩ [] (by kernel_rfl) trivial ?_
                                refine AWp.conv (inv := []) (vk := []) (e0 := []) (t := ⟨[(2, iV .i64 21)], [], 0⟩) (by kernel_rfl) ?_
                                refine AWp.ret ?_
                                obtain rfl := Option.some.inj H
                                exact Exists.intro _ (And.intro (fun _ _ h => h) (And.intro rfl (And.intro rfl (And.intro (by kernel_rfl) (by kernel_rfl)))))
                              · replace H := (ifF c1326).symm.trans H
                                refine AWp.skip ?_
                                refine AWp.seq ?_
                                refine AWp.seq ?_
                                obtain ⟨t1329, e1330, H⟩ := bind_of H
                                refine reg hP hn hm [(4, .c (eBucket b1310)), (8, .call [] [] [] [] 0 (iV .i64 t1329) [])] [1, 3, 4, 5, 6, 98] [22, 23] ⟨[(1, .ptr 22 0 0), (3, .own 23), (4, iV .i64 x1277), (5, .im (.row (x1280.map eBucket))), (6, iV .i64 x1303), (98, bV (decide (t1329 < a0.f2)))], [(22, some (.box 30 (aHist a0))), (23, some (.row 1 27 (x1302.map (encInt .u64))))], 0⟩ [0 ≤ x1303, (x1280.map eBucket)[(Int.toNat (x1303))]? = some (eBucket b1310), Enters Try.prog 58, Pv.Fn Try.prog 58 [iV .i64 a0.f1, iV .i64 (IntKind.i64.wrap (b1310.f0 - (1 : Int)))] [] 0 (fun r o => r = iV .i64 t1329 ∧ o = [])] (by kernel_rfl) ⟨by exact p1311, by exact el_map eBucket q1312, by exact Try.call58, by exact f_pluvialref04_Units.ok a0.f1 (IntKind.i64.wrap (b1310.f0 - (1 : Int))) t1329 e1330, trivial⟩ ?_
                                refine AWp.cond (decide (t1329 < a0.f2)) rfl (fun c1331 => ?_) (fun c1331 => ?_)
                                · replace H := (ifT c1331).symm.trans H
                                  refine AWp.seq ?_
                                  refine reg hP hn hm [] [2] [] ⟨[(2, iV .i64 31)], [], 0⟩ [] (by kernel_rfl) trivial ?_
                                  refine AWp.conv (inv := []) (vk := []) (e0 := []) (t := ⟨[(2, iV .i64 31)], [], 0⟩) (by kernel_rfl) ?_
                                  refine AWp.ret ?_
                                  obtain rfl := Option.some.inj H
                                  exact Exists.intro _ (And.intro (fun _ _ h => h) (And.intro rfl (And.intro rfl (And.intro (by kernel_rfl) (by kernel_rfl)))))
                                · replace H := (ifF c1331).symm.trans H
                                  refine AWp.skip ?_
                                  obtain ⟨c1333, H⟩ := chk_of H
                                  refine reg hP hn hm [(3, .c (eBucket b1310)), (6, .app 24 ([b1310.f1].map (encInt .u64))), (7, .app 25 ((x1302 ++ [b1310.f1]).map (encInt .u64)))] [1, 3, 4, 5, 6] [22, 25] ⟨[(1, .ptr 22 0 0), (3, .own 25), (4, iV .i64 x1277), (5, .im (.row (x1280.map eBucket))), (6, iV .i64 x1303)], [(22, some (.box 30 (aHist a0))), (25, some (.row 1 27 ((x1302 ++ [b1310.f1]).map (encInt .u64))))], 0⟩ [0 ≤ x1303, (x1280.map eBucket)[(Int.toNat (x1303))]? = some (eBucket b1310), [b1310.f1].map (encInt .u64) = [[iI .u64 b1310.f1]], (x1302 ++ [b1310.f1]).map (encInt .u64) = (x1302.map (encInt .u64)) ++ ([b1310.f1].map (encInt .u64)), ∀ c ∈ ([b1310.f1].map (encInt .u64)), c.length = 1, ∀ c ∈ ([b1310.f1].map (encInt .u64)), leaves (c.map .im) = true, ((x1302.map (encInt .u64)).length + ([b1310.f1].map (encInt .u64)).length) * 8 ≤ 140737488355328] (by kernel_rfl) ⟨by exact p1311, by exact el_map eBucket q1312, by exact rfl, by simp, by exact all_len _ _ _ (fun _ => rfl), by exact all_leaf _ _ (fun _ => rfl), by simpa using c1333, trivial⟩ ?_
                                  refine reg hP hn hm [] [1, 3, 4, 5, 6] [22, 25] ⟨[(1, .ptr 22 0 0), (3, .own 25), (4, iV .i64 x1277), (5, .im (.row (x1280.map eBucket))), (6, iV .i64 (IntKind.i64.wrap (x1303 + (1 : Int))))], [(22, some (.box 30 (aHist a0))), (25, some (.row 1 27 ((x1302 ++ [b1310.f1]).map (encInt .u64))))], 0⟩ [] (by kernel_rfl) trivial ?_
                                  exact LWp.conv (inv := [(22, 20), (25, 21)]) (vk := []) (e0 := []) (t := ⟨[(1, .ptr 20 0 0), (3, .own 21), (4, iV .i64 x1277), (5, .im (.row (x1280.map eBucket))), (6, iV .i64 (IntKind.i64.wrap (x1303 + (1 : Int))))], [(20, some (.box 30 (aHist a0))), (21, some (.row 1 27 ((x1302 ++ [b1310.f1]).map (encInt .u64))))], 0⟩) (by kernel_rfl) (ih _ _ _ H)
                      · replace H := (ifF c1304).symm.trans H
                        refine AWp.exit ?_
                        obtain rfl := Option.some.inj H
                        exact Exists.intro _ (And.intro (fun _ _ h => h.conv (inv := [(20, 26), (21, 27)]) (vk := []) (e0 := []) (t := ⟨[(1, .ptr 26 0 0), (3, .own 27), (4, iV .i64 x1277)], [(26, some (.box 30 (aHist a0))), (27, some (.row 1 27 (x1302.map (encInt .u64))))], 0⟩) (by kernel_rfl)) (And.intro rfl rfl))
                    · rcases o1371 with rr | x1334
                      · skip
                        rintro e s ⟨rfl, hfl, hres⟩
                        obtain rfl := Option.some.inj H
                        exact Exists.intro _ (And.intro (fun _ _ h => h) (And.intro rfl (And.intro hfl hres)))
                      · skip
                        rintro e s ⟨rfl, rfl⟩
                        refine reg hP hn hm [] [1, 3, 4] [26, 27] ⟨[(1, .ptr 26 0 0), (3, .own 27), (4, iV .i64 (IntKind.i64.wrap (x1277 + (1 : Int))))], [(26, some (.box 30 (aHist a0))), (27, some (.row 1 27 (x1334.map (encInt .u64))))], 0⟩ [] (by kernel_rfl) trivial ?_
                        exact LWp.conv (inv := [(26, 14), (27, 15)]) (vk := []) (e0 := []) (t := ⟨[(1, .ptr 14 0 0), (3, .own 15), (4, iV .i64 (IntKind.i64.wrap (x1277 + (1 : Int))))], [(14, some (.box 30 (aHist a0))), (15, some (.row 1 27 (x1334.map (encInt .u64))))], 0⟩) (by kernel_rfl) (ih _ _ _ H)
              · replace H := (ifF c1278).symm.trans H
                refine AWp.exit ?_
                obtain rfl := Option.some.inj H
                exact Exists.intro _ (And.intro (fun _ _ h => h.conv (inv := [(14, 28), (15, 29)]) (vk := []) (e0 := []) (t := ⟨[(1, .ptr 28 0 0), (3, .own 29)], [(28, some (.box 30 (aHist a0))), (29, some (.row 1 27 (x1276.map (encInt .u64))))], 0⟩) (by kernel_rfl)) (And.intro rfl rfl))
            · rcases o1367 with rr | x1335
              · skip
                rintro e s ⟨rfl, hfl, hres⟩
                obtain rfl := Option.some.inj H
                exact Exists.intro _ (And.intro (fun _ _ h => h) (And.intro (.inl rfl) (And.intro hfl hres)))
              · skip
                rintro e s ⟨rfl, rfl⟩
                refine AWp.seq ?_
                obtain ⟨t1359, e1360, H⟩ := bind_of H
                refine reg hP hn hm [(1, .call [] [] [29] [] 0 (.tup [iV .u64 t1359.1, iV .i64 t1359.2]) [])] [1, 7, 8] [28] ⟨[(1, .ptr 28 0 0), (7, iV .u64 t1359.1), (8, iV .i64 t1359.2)], [(28, some (.box 30 (aHist a0)))], 0⟩ [Enters Try.prog 59, Pv.Fn Try.prog 59 [.im (.row (x1335.map (encInt .u64)))] [] 0 (fun r o => r = .tup [iV .u64 t1359.1, iV .i64 t1359.2] ∧ o = [])] (by kernel_rfl) ⟨by exact Try.call59, by exact f_pluvialref01_Add.ok x1335 t1359 e1360, trivial⟩ ?_
                refine AWp.seq ?_
                refine AWp.seq ?_
                refine reg hP hn hm [] [1, 7, 113] [28] ⟨[(1, .ptr 28 0 0), (7, iV .u64 t1359.1), (113, bV (t1359.2 != (0 : Int)))], [(28, some (.box 30 (aHist a0)))], 0⟩ [] (by kernel_rfl) trivial ?_
                refine AWp.cond (t1359.2 != (0 : Int)) rfl (fun c1361 => ?_) (fun c1361 => ?_)
                · replace H := (ifT c1361).symm.trans H
                  refine AWp.seq ?_
                  refine reg hP hn hm [] [2] [] ⟨[(2, iV .i64 5)], [], 0⟩ [] (by kernel_rfl) trivial ?_
                  refine AWp.conv (inv := []) (vk := []) (e0 := []) (t := ⟨[(2, iV .i64 5)], [], 0⟩) (by kernel_rfl) ?_
                  refine AWp.ret ?_
                  obtain rfl := Option.some.inj H
                  exact Exists.intro _ (And.intro (fun _ _ h => h) (And.intro (.inl rfl) (And.intro rfl (And.intro (by kernel_rfl) (by kernel_rfl)))))
                · replace H := (ifF c1361).symm.trans H
                  refine AWp.skip ?_
                  refine AWp.seq ?_
                  refine AWp.seq ?_
                  refine reg hP hn hm [] [117] [] ⟨[(117, bV (t1359.1 != a0.f4))], [], 0⟩ [] (by kernel_rfl) trivial ?_
                  refine AWp.cond (t1359.1 != a0.f4) rfl (fun c1362 => ?_) (fun c1362 => ?_)
                  · replace H := (ifT c1362).symm.trans H
                    refine AWp.seq ?_
                    refine reg hP hn hm [] [2] [] ⟨[(2, iV .i64 21)], [], 0⟩ [] (by kernel_rfl) trivial ?_
                    refine AWp.conv (inv := []) (vk := []) (e0 := []) (t := ⟨[(2, iV .i64 21)], [], 0⟩) (by kernel_rfl) ?_
                    refine AWp.ret ?_
                    obtain rfl := Option.some.inj H
                    exact Exists.intro _ (And.intro (fun _ _ h => h) (And.intro (.inl rfl) (And.intro rfl (And.intro (by kernel_rfl) (by kernel_rfl)))))
                  · replace H := (ifF c1362).symm.trans H
                    refine AWp.skip ?_
                    refine AWp.seq ?_
                    refine reg hP hn hm [] [2] [] ⟨[(2, iV .i64 0)], [], 0⟩ [] (by kernel_rfl) trivial ?_
                    refine AWp.conv (inv := []) (vk := []) (e0 := []) (t := ⟨[(2, iV .i64 0)], [], 0⟩) (by kernel_rfl) ?_
                    refine AWp.ret ?_
                    obtain rfl := Option.some.inj H
                    exact Exists.intro _ (And.intro (fun _ _ h => h) (And.intro (.inl rfl) (And.intro rfl (And.intro (by kernel_rfl) (by kernel_rfl)))))
def f_hist_Cells.l0 (a0 : THist) (x1400 : List (Tbound_Key × Int)) (x1401 : Int) : Option (List (Tbound_Key × Int)) := if (decide (x1401 < (a0.f6.length : Int))) = true then ((at? a0.f6 x1401) >>= fun b1406 => f_hist_Cells.l0 a0 (mput x1400 (⟨1, a0.f1, b1406.f0⟩ : Tbound_Key) b1406.f1) (IntKind.i64.wrap (x1401 + (1 : Int)))) else (some x1400)
partial_fixpoint
def f_hist_Cells.l1 (a0 : THist) (x1417 : List (Tbound_Key × Int)) (x1418 : Int) : Option (List (Tbound_Key × Int)) := if (decide (x1418 < (a0.f7.length : Int))) = true then ((at? a0.f7 x1418) >>= fun b1423 => f_hist_Cells.l1 a0 (mput x1417 (⟨(-1), a0.f1, b1423.f0⟩ : Tbound_Key) b1423.f1) (IntKind.i64.wrap (x1418 + (1 : Int)))) else (some x1417)
partial_fixpoint
def f_hist_Cells.f (a0 : THist) : Option (List (Tbound_Key × Int)) := ((if (decide (a0.f3 > (0 : Int))) = true then (some (mput ([] : List (Tbound_Key × Int)) (⟨0, 0, 0⟩ : Tbound_Key) a0.f3)) else (some ([] : List (Tbound_Key × Int)))) : Option (List (Tbound_Key × Int))) >>= fun x1392 => (f_hist_Cells.l0 a0 x1392 0) >>= fun x1409 => (f_hist_Cells.l1 a0 x1409 0) >>= fun x1426 => some x1426
theorem f_hist_Cells.ok (a0 : THist) (r : List (Tbound_Key × Int)) (H : f_hist_Cells.f a0 = some r) : Pv.Fn Try.prog 32 [.agg (aHist a0)] [] 0 (fun x o => x = .mown 0 ∧ o = [(0, some (.map (mE (fun x => Value.agg (vkbound_Key x).toArray) (iI .u64) r)))]) := by
  unfold f_hist_Cells.f at H
  refine Fn.bodyK [0] Try.func32 rfl rfl (fun Γ hP hn => ?_)
  have hm : Try.prog.follows .mixedOrders = true := by kernel_rfl
  replace hn : Γ.n = 49 := hn
  refine AWp.seq ?_
  refine reg hP hn hm [(0, .k 0)] [1] [0] ⟨[(1, .ptr 0 0 0)], [(0, some (.box 30 (aHist a0)))], 0⟩ [] (by kernel_rfl) trivial ?_
  refine AWp.seq ?_
  refine reg hP hn hm [(0, .more (xMk 1))] [1, 3] [0, 1] ⟨[(1, .ptr 0 0 0), (3, .mown 1)], [(0, some (.box 30 (aHist a0))), (1, some (.map (mE (fun x => Value.agg (vkbound_Key x).toArray) (iI .u64) ([] : List (Tbound_Key × Int)))))], 0⟩ [] (by kernel_rfl) trivial ?_
  refine AWp.seq ?_
  refine AWp.seq ?_
  refine reg hP hn hm [] [1, 3, 11] [0, 1] ⟨[(1, .ptr 0 0 0), (3, .mown 1), (11, bV (decide (a0.f3 > (0 : Int))))], [(0, some (.box 30 (aHist a0))), (1, some (.map (mE (fun x => Value.agg (vkbound_Key x).toArray) (iI .u64) ([] : List (Tbound_Key × Int)))))], 0⟩ [] (by kernel_rfl) trivial ?_
  obtain ⟨o1427, e1428, H⟩ := bind_of H
  refine AWp.mono (Q := fun e s => (match (generalizing := false) o1427 with | x1392 => e = .normal ∧ s = ⟨[(1, .ptr 2 0 0), (3, .mown 3)], [(2, some (.box 30 (aHist a0))), (3, some (.map (mE (fun x => Value.agg (vkbound_Key x).toArray) (iI .u64) x1392)))], 0⟩)) (AWp.cv ?_) ?_
  · replace H := e1428; clear e1428
    refine AWp.cond (decide (a0.f3 > (0 : Int))) rfl (fun c1391 => ?_) (fun c1391 => ?_)
    · replace H := (ifT c1391).symm.trans H
      refine reg hP hn hm [(4, .more (xPut (fun x => Value.agg (vkbound_Key x).toArray) (iI .u64) ([] : List (Tbound_Key × Int)) (⟨0, 0, 0⟩ : Tbound_Key) a0.f3))] [1, 3] [0, 1] ⟨[(1, .ptr 0 0 0), (3, .mown 1)], [(0, some (.box 30 (aHist a0))), (1, some (.map (mE (fun x => Value.agg (vkbound_Key x).toArray) (iI .u64) (mput ([] : List (Tbound_Key × Int)) (⟨0, 0, 0⟩ : Tbound_Key) a0.f3))))], 0⟩ [KeyOK Try.prog 53 (fun x => Value.agg (vkbound_Key x).toArray), mE (fun x => Value.agg (vkbound_Key x).toArray) (iI .u64) ([] : List (Tbound_Key × Int)) = mE (fun x => Value.agg (vkbound_Key x).toArray) (iI .u64) ([] : List (Tbound_Key × Int)), valA (.agg (abound_Key ⟨0, 0, 0⟩)) = some ((fun x => Value.agg (vkbound_Key x).toArray) (⟨0, 0, 0⟩ : Tbound_Key)), iI .u64 a0.f3 = (iI .u64) a0.f3] (by kernel_rfl) ⟨by exact keyok53, by exact rfl, by exact rfl, by exact rfl, trivial⟩ ?_
      obtain rfl := Option.some.inj H
      exact Exists.intro _ (And.intro (fun _ _ h => h.conv (inv := [(0, 2), (1, 3)]) (vk := []) (e0 := []) (t := ⟨[(1, .ptr 2 0 0), (3, .mown 3)], [(2, some (.box 30 (aHist a0))), (3, some (.map (mE (fun x => Value.agg (vkbound_Key x).toArray) (iI .u64) (mput ([] : List (Tbound_Key × Int)) (⟨0, 0, 0⟩ : Tbound_Key) a0.f3))))], 0⟩) (by kernel_rfl)) (And.intro rfl rfl))
    · replace H := (ifF c1391).symm.trans H
      refine AWp.skip ?_
      obtain rfl := Option.some.inj H
      exact Exists.intro _ (And.intro (fun _ _ h => h.conv (inv := [(0, 2), (1, 3)]) (vk := []) (e0 := []) (t := ⟨[(1, .ptr 2 0 0), (3, .mown 3)], [(2, some (.box 30 (aHist a0))), (3, some (.map (mE (fun x => Value.agg (vkbound_Key x).toArray) (iI .u64) ([] : List (Tbound_Key × Int)))))], 0⟩) (by kernel_rfl)) (And.intro rfl rfl))
  · obtain ⟨x1392, rfl⟩ : ∃ z, z = o1427 := ⟨_, rfl⟩
    rintro e s ⟨rfl, rfl⟩
    refine AWp.seq ?_
    refine AWp.seq ?_
    refine reg hP hn hm [(2, .any (iV .i64 (a0.f6.length : Int)))] [1, 3, 17, 18, 19] [2, 3] ⟨[(1, .ptr 2 0 0), (3, .mown 3), (17, .im (.row (a0.f6.map eBucket))), (18, iV .i64 (a0.f6.length : Int)), (19, iV .i64 0)], [(2, some (.box 30 (aHist a0))), (3, some (.map (mE (fun x => Value.agg (vkbound_Key x).toArray) (iI .u64) x1392)))], 0⟩ [((a0.f6.map eBucket).length : Int) = (a0.f6.length : Int)] (by kernel_rfl) ⟨by rw [len_map], trivial⟩ ?_
    refine AWp.block ?_
    obtain ⟨o1429, e1430, H⟩ := bind_of H
    refine AWp.loop (LWp.conv (inv := [(2, 5), (3, 6)]) (vk := []) (e0 := []) (t := ⟨[(1, .ptr 5 0 0), (3, .mown 6), (17, .im (.row (a0.f6.map eBucket))), (18, iV .i64 (a0.f6.length : Int)), (19, iV .i64 0)], [(5, some (.box 30 (aHist a0))), (6, some (.map (mE (fun x => Value.agg (vkbound_Key x).toArray) (iI .u64) x1392)))], 0⟩) (by kernel_rfl) ?_)
    refine LWp.mono (Q := fun e s => (match (generalizing := false) o1429 with | x1409 => e = .exit 0 ∧ s = ⟨[(1, .ptr 8 0 0), (3, .mown 9)], [(8, some (.box 30 (aHist a0))), (9, some (.map (mE (fun x => Value.agg (vkbound_Key x).toArray) (iI .u64) x1409)))], 0⟩)) (LWp.cv (withBody (fun body hbody => ?_))) ?_
    · refine f_hist_Cells.l0.partial_correctness a0 (motive := fun x1400 x1401 o1429 => LWp Γ body (fun e s => ∃ t, Cv Γ s t ∧ (match (generalizing := false) o1429 with | x1409 => e = .exit 0 ∧ t = ⟨[(1, .ptr 8 0 0), (3, .mown 9)], [(8, some (.box 30 (aHist a0))), (9, some (.map (mE (fun x => Value.agg (vkbound_Key x).toArray) (iI .u64) x1409)))], 0⟩)) ⟨[(1, .ptr 5 0 0), (3, .mown 6), (17, .im (.row (a0.f6.map eBucket))), (18, iV .i64 (a0.f6.length : Int)), (19, iV .i64 x1401)], [(5, some (.box 30 (aHist a0))), (6, some (.map (mE (fun x => Value.agg (vkbound_Key x).toArray) (iI .u64) x1400)))], 0⟩) ?_ _ _ _ e1430
      clear H e1430 o1429; intro self ih x1400 x1401 o1429 H
      subst hbody
      refine LWp.round ?_
      refine AWp.seq ?_
      refine reg hP hn hm [] [1, 3, 17, 18, 19, 20] [5, 6] ⟨[(1, .ptr 5 0 0), (3, .mown 6), (17, .im (.row (a0.f6.map eBucket))), (18, iV .i64 (a0.f6.length : Int)), (19, iV .i64 x1401), (20, bV (decide (x1401 < (a0.f6.length : Int))))], [(5, some (.box 30 (aHist a0))), (6, some (.map (mE (fun x => Value.agg (vkbound_Key x).toArray) (iI .u64) x1400)))], 0⟩ [] (by kernel_rfl) trivial ?_
      refine AWp.seq ?_
      refine AWp.cond (decide (x1401 < (a0.f6.length : Int))) rfl (fun c1402 => ?_) (fun c1402 => ?_)
      · replace H := (ifT c1402).symm.trans H
        refine AWp.skip ?_
        refine AWp.seq ?_
        refine AWp.block ?_
        refine AWp.seq ?_
        obtain ⟨b1406, p1407, q1408, H⟩ := at_of H
        refine reg hP hn hm [(0, .c (eBucket b1406)), (2, .k 7)] [1, 3, 5, 17, 18, 19] [5, 6, 7] ⟨[(1, .ptr 5 0 0), (3, .mown 6), (5, .ptr 7 0 0), (17, .im (.row (a0.f6.map eBucket))), (18, iV .i64 (a0.f6.length : Int)), (19, iV .i64 x1401)], [(5, some (.box 30 (aHist a0))), (6, some (.map (mE (fun x => Value.agg (vkbound_Key x).toArray) (iI .u64) x1400))), (7, some (.box 36 (aBucket b1406)))], 0⟩ [0 ≤ x1401, (a0.f6.map eBucket)[(Int.toNat (x1401))]? = some (eBucket b1406)] (by kernel_rfl) ⟨by exact p1407, by exact el_map eBucket q1408, trivial⟩ ?_
        refine reg hP hn hm [(8, .more (xPut (fun x => Value.agg (vkbound_Key x).toArray) (iI .u64) x1400 (⟨1, a0.f1, b1406.f0⟩ : Tbound_Key) b1406.f1))] [1, 3, 17, 18, 19] [5, 6] ⟨[(1, .ptr 5 0 0), (3, .mown 6), (17, .im (.row (a0.f6.map eBucket))), (18, iV .i64 (a0.f6.length : Int)), (19, iV .i64 x1401)], [(5, some (.box 30 (aHist a0))), (6, some (.map (mE (fun x => Value.agg (vkbound_Key x).toArray) (iI .u64) (mput x1400 (⟨1, a0.f1, b1406.f0⟩ : Tbound_Key) b1406.f1))))], 0⟩ [KeyOK Try.prog 53 (fun x => Value.agg (vkbound_Key x).toArray), mE (fun x => Value.agg (vkbound_Key x).toArray) (iI .u64) x1400 = mE (fun x => Value.agg (vkbound_Key x).toArray) (iI .u64) x1400, valA (.agg (abound_Key ⟨1, a0.f1, b1406.f0⟩)) = some ((fun x => Value.agg (vkbound_Key x).toArray) (⟨1, a0.f1, b1406.f0⟩ : Tbound_Key)), iI .u64 b1406.f1 = (iI .u64) b1406.f1] (by kernel_rfl) ⟨by exact keyok53, by exact rfl, by exact rfl, by exact rfl, trivial⟩ ?_
        refine reg hP hn hm [] [1, 3, 17, 18, 19] [5, 6] ⟨[(1, .ptr 5 0 0), (3, .mown 6), (17, .im (.row (a0.f6.map eBucket))), (18, iV .i64 (a0.f6.length : Int)), (19, iV .i64 (IntKind.i64.wrap (x1401 + (1 : Int))))], [(5, some (.box 30 (aHist a0))), (6, some (.map (mE (fun x => Value.agg (vkbound_Key x).toArray) (iI .u64) (mput x1400 (⟨1, a0.f1, b1406.f0⟩ : Tbound_Key) b1406.f1))))], 0⟩ [] (by kernel_rfl) trivial ?_
        exact LWp.conv (inv := [(5, 5), (6, 6)]) (vk := []) (e0 := []) (t := ⟨[(1, .ptr 5 0 0), (3, .mown 6), (17, .im (.row (a0.f6.map eBucket))), (18, iV .i64 (a0.f6.length : Int)), (19, iV .i64 (IntKind.i64.wrap (x1401 + (1 : Int))))], [(5, some (.box 30 (aHist a0))), (6, some (.map (mE (fun x => Value.agg (vkbound_Key x).toArray) (iI .u64) (mput x1400 (⟨1, a0.f1, b1406.f0⟩ : Tbound_Key) b1406.f1))))], 0⟩) (by kernel_rfl) (ih _ _ _ H)
      · replace H := (ifF c1402).symm.trans H
        refine AWp.exit ?_
        obtain rfl := Option.some.inj H
        exact Exists.intro _ (And.intro (fun _ _ h => h.conv (inv := [(5, 8), (6, 9)]) (vk := []) (e0 := []) (t := ⟨[(1, .ptr 8 0 0), (3, .mown 9)], [(8, some (.box 30 (aHist a0))), (9, some (.map (mE (fun x => Value.agg (vkbound_Key x).toArray) (iI .u64) x1400)))], 0⟩) (by kernel_rfl)) (And.intro rfl rfl))
    · obtain ⟨x1409, rfl⟩ : ∃ z, z = o1429 := ⟨_, rfl⟩
      rintro e s ⟨rfl, rfl⟩
      refine AWp.seq ?_
      refine AWp.seq ?_
      refine reg hP hn hm [(2, .any (iV .i64 (a0.f7.length : Int)))] [1, 3, 33, 34, 35] [8, 9] ⟨[(1, .ptr 8 0 0), (3, .mown 9), (33, .im (.row (a0.f7.map eBucket))), (34, iV .i64 (a0.f7.length : Int)), (35, iV .i64 0)], [(8, some (.box 30 (aHist a0))), (9, some (.map (mE (fun x => Value.agg (vkbound_Key x).toArray) (iI .u64) x1409)))], 0⟩ [((a0.f7.map eBucket).length : Int) = (a0.f7.length : Int)] (by kernel_rfl) ⟨by rw [len_map], trivial⟩ ?_
      refine AWp.block ?_
      obtain ⟨o1431, e1432, H⟩ := bind_of H
      refine AWp.loop (LWp.conv (inv := [(8, 11), (9, 12)]) (vk := []) (e0 := []) (t := ⟨[(1, .ptr 11 0 0), (3, .mown 12), (33, .im (.row (a0.f7.map eBucket))), (34, iV .i64 (a0.f7.length : Int)), (35, iV .i64 0)], [(11, some (.box 30 (aHist a0))), (12, some (.map (mE (fun x => Value.agg (vkbound_Key x).toArray) (iI .u64) x1409)))], 0⟩) (by kernel_rfl) ?_)
      refine LWp.mono (Q := fun e s => (match (generalizing := false) o1431 with | x1426 => e = .exit 2 ∧ s = ⟨[(3, .mown 14)], [(14, some (.map (mE (fun x => Value.agg (vkbound_Key x).toArray) (iI .u64) x1426)))], 0⟩)) (LWp.cv (withBody (fun body hbody => ?_))) ?_
      · refine f_hist_Cells.l1.partial_correctness a0 (motive := fun x1417 x1418 o1431 => LWp Γ body (fun e s => ∃ t, Cv Γ s t ∧ (match (generalizing := false) o1431 with | x1426 => e = .exit 2 ∧ t = ⟨[(3, .mown 14)], [(14, some (.map (mE (fun x => Value.agg (vkbound_Key x).toArray) (iI .u64) x1426)))], 0⟩)) ⟨[(1, .ptr 11 0 0), (3, .mown 12), (33, .im (.row (a0.f7.map eBucket))), (34, iV .i64 (a0.f7.length : Int)), (35, iV .i64 x1418)], [(11, some (.box 30 (aHist a0))), (12, some (.map (mE (fun x => Value.agg (vkbound_Key x).toArray) (iI .u64) x1417)))], 0⟩) ?_ _ _ _ e1432
        clear H e1432 o1431; intro self ih x1417 x1418 o1431 H
        subst hbody
        refine LWp.round ?_
        refine AWp.seq ?_
        refine reg hP hn hm [] [1, 3, 33, 34, 35, 36] [11, 12] ⟨[(1, .ptr 11 0 0), (3, .mown 12), (33, .im (.row (a0.f7.map eBucket))), (34, iV .i64 (a0.f7.length : Int)), (35, iV .i64 x1418), (36, bV (decide (x1418 < (a0.f7.length : Int))))], [(11, some (.box 30 (aHist a0))), (12, some (.map (mE (fun x => Value.agg (vkbound_Key x).toArray) (iI .u64) x1417)))], 0⟩ [] (by kernel_rfl) trivial ?_
        refine AWp.seq ?_
        refine AWp.cond (decide (x1418 < (a0.f7.length : Int))) rfl (fun c1419 => ?_) (fun c1419 => ?_)
        · replace H := (ifT c1419).symm.trans H
          refine AWp.skip ?_
          refine AWp.seq ?_
          refine AWp.block ?_
          refine AWp.seq ?_
          obtain ⟨b1423, p1424, q1425, H⟩ := at_of H
          refine reg hP hn hm [(0, .c (eBucket b1423)), (2, .k 13)] [1, 3, 7, 33, 34, 35] [11, 12, 13] ⟨[(1, .ptr 11 0 0), (3, .mown 12), (7, .ptr 13 0 0), (33, .im (.row (a0.f7.map eBucket))), (34, iV .i64 (a0.f7.length : Int)), (35, iV .i64 x1418)], [(11, some (.box 30 (aHist a0))), (12, some (.map (mE (fun x => Value.agg (vkbound_Key x).toArray) (iI .u64) x1417))), (13, some (.box 36 (aBucket b1423)))], 0⟩ [0 ≤ x1418, (a0.f7.map eBucket)[(Int.toNat (x1418))]? = some (eBucket b1423)] (by kernel_rfl) ⟨by exact p1424, by exact el_map eBucket q1425, trivial⟩ ?_
          refine reg hP hn hm [(8, .more (xPut (fun x => Value.agg (vkbound_Key x).toArray) (iI .u64) x1417 (⟨(-1), a0.f1, b1423.f0⟩ : Tbound_Key) b1423.f1))] [1, 3, 33, 34, 35] [11, 12] ⟨[(1, .ptr 11 0 0), (3, .mown 12), (33, .im (.row (a0.f7.map eBucket))), (34, iV .i64 (a0.f7.length : Int)), (35, iV .i64 x1418)], [(11, some (.box 30 (aHist a0))), (12, some (.map (mE (fun x => Value.agg (vkbound_Key x).toArray) (iI .u64) (mput x1417 (⟨(-1), a0.f1, b1423.f0⟩ : Tbound_Key) b1423.f1))))], 0⟩ [KeyOK Try.prog 53 (fun x => Value.agg (vkbound_Key x).toArray), mE (fun x => Value.agg (vkbound_Key x).toArray) (iI .u64) x1417 = mE (fun x => Value.agg (vkbound_Key x).toArray) (iI .u64) x1417, valA (.agg (abound_Key ⟨(-1), a0.f1, b1423.f0⟩)) = some ((fun x => Value.agg (vkbound_Key x).toArray) (⟨(-1), a0.f1, b1423.f0⟩ : Tbound_Key)), iI .u64 b1423.f1 = (iI .u64) b1423.f1] (by kernel_rfl) ⟨by exact keyok53, by exact rfl, by exact rfl, by exact rfl, trivial⟩ ?_
          refine reg hP hn hm [] [1, 3, 33, 34, 35] [11, 12] ⟨[(1, .ptr 11 0 0), (3, .mown 12), (33, .im (.row (a0.f7.map eBucket))), (34, iV .i64 (a0.f7.length : Int)), (35, iV .i64 (IntKind.i64.wrap (x1418 + (1 : Int))))], [(11, some (.box 30 (aHist a0))), (12, some (.map (mE (fun x => Value.agg (vkbound_Key x).toArray) (iI .u64) (mput x1417 (⟨(-1), a0.f1, b1423.f0⟩ : Tbound_Key) b1423.f1))))], 0⟩ [] (by kernel_rfl) trivial ?_
          exact LWp.conv (inv := [(11, 11), (12, 12)]) (vk := []) (e0 := []) (t := ⟨[(1, .ptr 11 0 0), (3, .mown 12), (33, .im (.row (a0.f7.map eBucket))), (34, iV .i64 (a0.f7.length : Int)), (35, iV .i64 (IntKind.i64.wrap (x1418 + (1 : Int))))], [(11, some (.box 30 (aHist a0))), (12, some (.map (mE (fun x => Value.agg (vkbound_Key x).toArray) (iI .u64) (mput x1417 (⟨(-1), a0.f1, b1423.f0⟩ : Tbound_Key) b1423.f1))))], 0⟩) (by kernel_rfl) (ih _ _ _ H)
        · replace H := (ifF c1419).symm.trans H
          refine AWp.exit ?_
          obtain rfl := Option.some.inj H
          exact Exists.intro _ (And.intro (fun _ _ h => h.conv (inv := [(12, 14)]) (vk := []) (e0 := []) (t := ⟨[(3, .mown 14)], [(14, some (.map (mE (fun x => Value.agg (vkbound_Key x).toArray) (iI .u64) x1417)))], 0⟩) (by kernel_rfl)) (And.intro rfl rfl))
      · obtain ⟨x1426, rfl⟩ : ∃ z, z = o1431 := ⟨_, rfl⟩
        rintro e s ⟨rfl, rfl⟩
        refine AWp.seq ?_
        refine reg hP hn hm [] [2] [14] ⟨[(2, .mown 14)], [(14, some (.map (mE (fun x => Value.agg (vkbound_Key x).toArray) (iI .u64) x1426)))], 0⟩ [] (by kernel_rfl) trivial ?_
        refine AWp.conv (inv := [(14, 0)]) (vk := []) (e0 := []) (t := ⟨[(2, .mown 0)], [(0, some (.map (mE (fun x => Value.agg (vkbound_Key x).toArray) (iI .u64) x1426)))], 0⟩) (by kernel_rfl) ?_
        refine AWp.ret ?_
        obtain rfl := Option.some.inj H
        exact Exists.intro _ (And.intro (fun _ _ h => h) (And.intro (.inl rfl) (And.intro rfl (And.intro (by kernel_rfl) (by kernel_rfl)))))
def f_pluviallaw05_HistSame.d0 (a0 : THist) (a1 : THist) (t1437 : List (Tbound_Key × Int)) (t1439 : List (Tbound_Key × Int)) (v : Bool) : Option (Bool) := match v with
  | x1459 => some x1459
def f_pluviallaw05_HistSame.s0 (a0 : THist) (a1 : THist) (t1437 : List (Tbound_Key × Int)) (t1439 : List (Tbound_Key × Int)) (b1461 : Tbound_Key × Int) (v : Bool) : Option ((Bool) ⊕ (Bool)) := match v with
  | x1459 => ((if x1459 = true then (if (mget t1439 b1461.1).isSome = true then (some (((mget t1439 b1461.1).getD 0) == b1461.2)) else (some false)) else (some false)) : Option (Bool)) >>= fun x1467 => some (.inr x1467)
def f_pluviallaw05_HistSame.l0 (a0 : THist) (a1 : THist) (t1437 : List (Tbound_Key × Int)) (t1439 : List (Tbound_Key × Int)) : List (Tbound_Key × Int) → (Bool) → Option (Bool) := rloop (f_pluviallaw05_HistSame.d0 a0 a1 t1437 t1439) (f_pluviallaw05_HistSame.s0 a0 a1 t1437 t1439)
noncomputable def f_pluviallaw05_HistSame.f (a0 : THist) (a1 : THist) : Option (Bool) := (((f_pluviallaw05_Light.f a0) >>= fun t11 => if (!t11) = true then (some true) else ((f_pluviallaw05_Light.f a1) >>= fun t14 => some (!t14))) : Option (Bool)) >>= fun x16 => if x16 = true then ((f_pluviallaw05_awake.f) >>= fun t998 => some t998) else ((((f_hist_Same.f a0 a1) >>= fun t1121 => (f_pluvialref05_Same.f a0 a1) >>= fun t1123 => if (!(t1121 == t1123)) = true then (some true) else ((f_hist_Same.f a0 a0) >>= fun t1126 => some (!t1126))) : Option (Bool)) >>= fun x1128 => if x1128 = true then (some false) else ((f_hist_Clone.f a0) >>= fun t1140 => ((if (decide ((((t1140).f6).length : Int) > (0 : Int))) = true then ((at? a0.f6 0) >>= fun b1146 => (at? ((t1140).f6) 0) >>= fun b1152 => ((if (!((b1146.f0 == b1146.f0) && ((b1146.f1 == b1146.f1) && true))) = true then (some true) else ((f_hist_Same.f a0 (⟨(t1140).f0, (t1140).f1, (t1140).f2, (t1140).f3, (t1140).f4, (t1140).f5, ((t1140).f6).set (Int.toNat (0)) (⟨b1152.f0, IntKind.u64.wrap (b1152.f1 + (1 : Int))⟩ : TBucket), (t1140).f7⟩ : THist)) >>= fun t1159 => some t1159)) : Option (Bool)) >>= fun x1161 => if x1161 = true then (some (.inl false)) else (some (.inr ()))) else (some (.inr ()))) : Option (Bool ⊕ Unit)) >>= fun oo => match oo with | .inl rr => (some rr) | .inr _ => ((((f_pluvialref05_Check.f a0) >>= fun t1380 => if (t1380 != (0 : Int)) = true then (some true) else ((f_pluvialref05_Check.f a1) >>= fun t1383 => some (t1383 != (0 : Int)))) : Option (Bool)) >>= fun x1385 => if x1385 = true then ((f_pluviallaw05_awake.f) >>= fun t1389 => some t1389) else ((f_hist_Cells.f a0) >>= fun t1437 => (f_hist_Cells.f a1) >>= fun t1439 => ((if ((t1437.length : Int) == (t1439.length : Int)) = true then (if (a0.f0 == a1.f0) = true then (if (a0.f1 == a1.f1) = true then (if (a0.f2 == a1.f2) = true then (some (a0.f5 == a1.f5)) else (some false)) else (some false)) else (some false)) else (some false)) : Option (Bool)) >>= fun x1449 => (rchk (f_pluviallaw05_HistSame.l0 a0 a1 t1437 t1439) t1437 x1449) >>= fun x1468 => (f_hist_Empty.f a0.f0 a0.f1) >>= fun t1471 => (((f_pluviallaw05_awake.f) >>= fun t1484 => if t1484 = true then ((f_hist_Same.f a0 a1) >>= fun t1487 => if (x1468 == t1487) = true then ((f_hist_Check.f (t1471)) >>= fun t1490 => if (t1490 == (0 : Int)) = true then ((f_hist_Cells.f (t1471)) >>= fun t1493 => some ((t1493.length : Int) == (0 : Int))) else (some false)) else (some false)) else (some false)) : Option (Bool)) >>= fun x1495 => some x1495))))
theorem f_pluviallaw05_HistSame.ok (a0 : THist) (a1 : THist) (r : Bool) (H : f_pluviallaw05_HistSame.f a0 a1 = some r) : Pv.Fn Try.prog 6 [.agg (aHist a0), .agg (aHist a1)] [] 0 (fun x o => x = bV r ∧ o = []) := by
  unfold f_pluviallaw05_HistSame.f at H
  refine Fn.bodyK [] Try.func6 rfl rfl (fun Γ hP hn => ?_)
  have hm : Try.prog.follows .mixedOrders = true := by kernel_rfl
  replace hn : Γ.n = 158 := hn
  refine AWp.seq ?_
  refine reg hP hn hm [(0, .k 0), (1, .k 1)] [2, 3] [0, 1] ⟨[(2, .ptr 0 0 0), (3, .ptr 1 0 0)], [(0, some (.box 30 (aHist a0))), (1, some (.box 30 (aHist a1)))], 0⟩ [] (by kernel_rfl) trivial ?_
  refine AWp.seq ?_
  refine AWp.seq ?_
  obtain ⟨o1496, e1497, H⟩ := bind_of H
  refine AWp.mono (Q := fun e s => (match (generalizing := false) o1496 with | x16 => e = .normal ∧ s = ⟨[(2, .ptr 2 0 0), (3, .ptr 3 0 0), (22, bV x16)], [(2, some (.box 30 (aHist a0))), (3, some (.box 30 (aHist a1)))], 0⟩)) (AWp.cv ?_) ?_
  · replace H := e1497; clear e1497
    obtain ⟨t11, e12, H⟩ := bind_of H
    rcases Bool.eq_false_or_eq_true (!t11) with c13 | c13
    · replace H := (ifT c13).symm.trans H
      refine reg hP hn hm [(1, .call [] [] [] [] 0 (bV t11) []), (3, .b true)] [2, 3, 22] [0, 1] ⟨[(2, .ptr 0 0 0), (3, .ptr 1 0 0), (22, bV true)], [(0, some (.box 30 (aHist a0))), (1, some (.box 30 (aHist a1)))], 0⟩ [Enters Try.prog 15, Pv.Fn Try.prog 15 [.agg (aHist a0)] [] 0 (fun r o => r = bV t11 ∧ o = []), (!t11) = true] (by kernel_rfl) ⟨by exact Try.call15, by exact f_pluviallaw05_Light.ok a0 t11 e12, by exact c13, trivial⟩ ?_
      obtain rfl := Option.some.inj H
      exact Exists.intro _ (And.intro (fun _ _ h => h.conv (inv := [(0, 2), (1, 3)]) (vk := []) (e0 := []) (t := ⟨[(2, .ptr 2 0 0), (3, .ptr 3 0 0), (22, bV true)], [(2, some (.box 30 (aHist a0))), (3, some (.box 30 (aHist a1)))], 0⟩) (by kernel_rfl)) (And.intro rfl rfl))
    · replace H := (ifF c13).symm.trans H
      obtain ⟨t14, e15, H⟩ := bind_of H
      refine reg hP hn hm [(1, .call [] [] [] [] 0 (bV t11) []), (3, .b false), (5, .call [] [] [] [] 0 (bV t14) [])] [2, 3, 22] [0, 1] ⟨[(2, .ptr 0 0 0), (3, .ptr 1 0 0), (22, bV (!t14))], [(0, some (.box 30 (aHist a0))), (1, some (.box 30 (aHist a1)))], 0⟩ [Enters Try.prog 15, Pv.Fn Try.prog 15 [.agg (aHist a0)] [] 0 (fun r o => r = bV t11 ∧ o = []), (!t11) = false, Enters Try.prog 15, Pv.Fn Try.prog 15 [.agg (aHist a1)] [] 0 (fun r o => r = bV t14 ∧ o = [])] (by kernel_rfl) ⟨by exact Try.call15, by exact f_pluviallaw05_Light.ok a0 t11 e12, by exact c13, by exact Try.call15, by exact f_pluviallaw05_Light.ok a1 t14 e15, trivial⟩ ?_
      obtain rfl := Option.some.inj H
      exact Exists.intro _ (And.intro (fun _ _ h => h.conv (inv := [(0, 2), (1, 3)]) (vk := []) (e0 := []) (t := ⟨[(2, .ptr 2 0 0), (3, .ptr 3 0 0), (22, bV (!t14))], [(2, some (.box 30 (aHist a0))), (3, some (.box 30 (aHist a1)))], 0⟩) (by kernel_rfl)) (And.intro rfl rfl))
  · obtain ⟨x16, rfl⟩ : ∃ z, z = o1496 := ⟨_, rfl⟩
    rintro e s ⟨rfl, rfl⟩
    refine AWp.cond x16 rfl (fun c17 => ?_) (fun c17 => ?_)
    · replace H := (ifT c17).symm.trans H
      refine AWp.seq ?_
      obtain ⟨t998, e999, H⟩ := bind_of H
      refine reg hP hn hm [(0, .call [] [] [] [] 0 (bV t998) [])] [4] [] ⟨[(4, bV t998)], [], 0⟩ [Enters Try.prog 16, Pv.Fn Try.prog 16 [] [] 0 (fun r o => r = bV t998 ∧ o = [])] (by kernel_rfl) ⟨by exact Try.call16, by exact f_pluviallaw05_awake.ok  t998 e999, trivial⟩ ?_
      refine AWp.conv (inv := []) (vk := []) (e0 := []) (t := ⟨[(4, bV t998)], [], 0⟩) (by kernel_rfl) ?_
      refine AWp.ret ?_
      obtain rfl := Option.some.inj H
      exact Exists.intro _ (And.intro (fun _ _ h => h) (And.intro (.inl rfl) (And.intro rfl (And.intro (by kernel_rfl) (by kernel_rfl)))))
    · replace H := (ifF c17).symm.trans H
      refine AWp.skip ?_
      refine AWp.seq ?_
      refine AWp.seq ?_
      obtain ⟨o1498, e1499, H⟩ := bind_of H
      refine AWp.mono (Q := fun e s => (match (generalizing := false) o1498 with | x1128 => e = .normal ∧ s = ⟨[(2, .ptr 4 0 0), (3, .ptr 5 0 0), (36, bV x1128)], [(4, some (.box 30 (aHist a0))), (5, some (.box 30 (aHist a1)))], 0⟩)) (AWp.cv ?_) ?_
      · replace H := e1499; clear e1499
        obtain ⟨t1121, e1122, H⟩ := bind_of H
        obtain ⟨t1123, e1124, H⟩ := bind_of H
        rcases Bool.eq_false_or_eq_true (!(t1121 == t1123)) with c1125 | c1125
        · replace H := (ifT c1125).symm.trans H
          refine reg hP hn hm [(2, .call [] [] [] [] 0 (bV t1121) []), (5, .call [] [] [] [] 0 (bV t1123) []), (7, .b true)] [2, 3, 36] [2, 3] ⟨[(2, .ptr 2 0 0), (3, .ptr 3 0 0), (36, bV true)], [(2, some (.box 30 (aHist a0))), (3, some (.box 30 (aHist a1)))], 0⟩ [Enters Try.prog 18, Pv.Fn Try.prog 18 [.agg (aHist a0), .agg (aHist a1)] [] 0 (fun r o => r = bV t1121 ∧ o = []), Enters Try.prog 29, Pv.Fn Try.prog 29 [.agg (aHist a0), .agg (aHist a1)] [] 0 (fun r o => r = bV t1123 ∧ o = []), (!(t1121 == t1123)) = true] (by kernel_rfl) ⟨by exact Try.call18, by exact f_hist_Same.ok a0 a1 t1121 e1122, by exact Try.call29, by exact f_pluvialref05_Same.ok a0 a1 t1123 e1124, by exact c1125, trivial⟩ ?_
          obtain rfl := Option.some.inj H
          exact Exists.intro _ (And.intro (fun _ _ h => h.conv (inv := [(2, 4), (3, 5)]) (vk := []) (e0 := []) (t := ⟨[(2, .ptr 4 0 0), (3, .ptr 5 0 0), (36, bV true)], [(4, some (.box 30 (aHist a0))), (5, some (.box 30 (aHist a1)))], 0⟩) (by kernel_rfl)) (And.intro rfl rfl))
        · replace H := (ifF c1125).symm.trans H
          obtain ⟨t1126, e1127, H⟩ := bind_of H
          refine reg hP hn hm [(2, .call [] [] [] [] 0 (bV t1121) []), (5, .call [] [] [] [] 0 (bV t1123) []), (7, .b false), (10, .call [] [] [] [] 0 (bV t1126) [])] [2, 3, 36] [2, 3] ⟨[(2, .ptr 2 0 0), (3, .ptr 3 0 0), (36, bV (!t1126))], [(2, some (.box 30 (aHist a0))), (3, some (.box 30 (aHist a1)))], 0⟩ [Enters Try.prog 18, Pv.Fn Try.prog 18 [.agg (aHist a0), .agg (aHist a1)] [] 0 (fun r o => r = bV t1121 ∧ o = []), Enters Try.prog 29, Pv.Fn Try.prog 29 [.agg (aHist a0), .agg (aHist a1)] [] 0 (fun r o => r = bV t1123 ∧ o = []), (!(t1121 == t1123)) = false, Enters Try.prog 18, Pv.Fn Try.prog 18 [.agg (aHist a0), .agg (aHist a0)] [] 0 (fun r o => r = bV t1126 ∧ o = [])] (by kernel_rfl) ⟨by exact Try.call18, by exact f_hist_Same.ok a0 a1 t1121 e1122, by exact Try.call29, by exact f_pluvialref05_Same.ok a0 a1 t1123 e1124, by exact c1125, by exact Try.call18, by exact f_hist_Same.ok a0 a0 t1126 e1127, trivial⟩ ?_
          obtain rfl := Option.some.inj H
          exact Exists.intro _ (And.intro (fun _ _ h => h.conv (inv := [(2, 4), (3, 5)]) (vk := []) (e0 := []) (t := ⟨[(2, .ptr 4 0 0), (3, .ptr 5 0 0), (36, bV (!t1126))], [(4, some (.box 30 (aHist a0))), (5, some (.box 30 (aHist a1)))], 0⟩) (by kernel_rfl)) (And.intro rfl rfl))
      · obtain ⟨x1128, rfl⟩ : ∃ z, z = o1498 := ⟨_, rfl⟩
        rintro e s ⟨rfl, rfl⟩
        refine AWp.cond x1128 rfl (fun c1129 => ?_) (fun c1129 => ?_)
        · replace H := (ifT c1129).symm.trans H
          refine AWp.seq ?_
          refine reg hP hn hm [] [4] [] ⟨[(4, bV false)], [], 0⟩ [] (by kernel_rfl) trivial ?_
          refine AWp.conv (inv := []) (vk := []) (e0 := []) (t := ⟨[(4, bV false)], [], 0⟩) (by kernel_rfl) ?_
          refine AWp.ret ?_
          obtain rfl := Option.some.inj H
          exact Exists.intro _ (And.intro (fun _ _ h => h) (And.intro (.inl rfl) (And.intro rfl (And.intro (by kernel_rfl) (by kernel_rfl)))))
        · replace H := (ifF c1129).symm.trans H
          refine AWp.skip ?_
          refine AWp.seq ?_
          obtain ⟨t1140, e1141, H⟩ := bind_of H
          refine reg hP hn hm [(1, .call [] [(0, 6), (1, 7)] [] [6, 7] 0 (.agg [iV .i64 ((t1140).f0), iV .i64 ((t1140).f1), iV .i64 ((t1140).f2), iV .u64 ((t1140).f3), iV .u64 ((t1140).f4), iV .i64 ((t1140).f5), .own 0, .own 1]) [(0, some (.row 2 36 (((t1140).f6).map eBucket))), (1, some (.row 2 36 (((t1140).f7).map eBucket)))]), (2, .k 8)] [2, 3, 5] [4, 5, 6, 7, 8] ⟨[(2, .ptr 4 0 0), (3, .ptr 5 0 0), (5, .ptr 8 0 0)], [(4, some (.box 30 (aHist a0))), (5, some (.box 30 (aHist a1))), (6, some (.row 2 36 (((t1140).f6).map eBucket))), (7, some (.row 2 36 (((t1140).f7).map eBucket))), (8, some (.box 30 [iV .i64 ((t1140).f0), iV .i64 ((t1140).f1), iV .i64 ((t1140).f2), iV .u64 ((t1140).f3), iV .u64 ((t1140).f4), iV .i64 ((t1140).f5), .own 6, .own 7]))], 0⟩ [Enters Try.prog 30, Pv.Fn Try.prog 30 [.agg (aHist a0)] [] 0 (fun r o => r = .agg [iV .i64 ((t1140).f0), iV .i64 ((t1140).f1), iV .i64 ((t1140).f2), iV .u64 ((t1140).f3), iV .u64 ((t1140).f4), iV .i64 ((t1140).f5), .own 0, .own 1] ∧ o = [(0, some (.row 2 36 (((t1140).f6).map eBucket))), (1, some (.row 2 36 (((t1140).f7).map eBucket)))])] (by kernel_rfl) ⟨by exact Try.call30, by exact f_hist_Clone.ok a0 t1140 e1141, trivial⟩ ?_
          refine AWp.seq ?_
          refine AWp.seq ?_
          refine reg hP hn hm [(2, .any (iV .i64 (((t1140).f6).length : Int)))] [2, 3, 5, 42] [4, 5, 6, 7, 8] ⟨[(2, .ptr 4 0 0), (3, .ptr 5 0 0), (5, .ptr 8 0 0), (42, bV (decide ((((t1140).f6).length : Int) > (0 : Int))))], [(4, some (.box 30 (aHist a0))), (5, some (.box 30 (aHist a1))), (6, some (.row 2 36 (((t1140).f6).map eBucket))), (7, some (.row 2 36 (((t1140).f7).map eBucket))), (8, some (.box 30 [iV .i64 ((t1140).f0), iV .i64 ((t1140).f1), iV .i64 ((t1140).f2), iV .u64 ((t1140).f3), iV .u64 ((t1140).f4), iV .i64 ((t1140).f5), .own 6, .own 7]))], 0⟩ [((((t1140).f6).map eBucket).length : Int) = (((t1140).f6).length : Int)] (by kernel_rfl) ⟨by rw [len_map], trivial⟩ ?_
          obtain ⟨o1500, e1501, H⟩ := bind_of H
          refine AWp.mono (Q := fun e s => (match (generalizing := false) o1500 with | .inl rr => e = .ret ∧ s.floor = 0 ∧ resOf Try.prog Try.f6 s = some (bV rr) ∧ ([] : List (Nat × Option MObj)) = [] | .inr _ => e = .normal ∧ s = ⟨[(2, .ptr 12 0 0), (3, .ptr 13 0 0)], [(12, some (.box 30 (aHist a0))), (13, some (.box 30 (aHist a1)))], 0⟩)) (AWp.cv ?_) ?_
          · replace H := e1501; clear e1501
            refine AWp.cond (decide ((((t1140).f6).length : Int) > (0 : Int))) rfl (fun c1142 => ?_) (fun c1142 => ?_)
            · replace H := (ifT c1142).symm.trans H
              refine AWp.seq ?_
              obtain ⟨b1146, p1147, q1148, H⟩ := at_of H
              refine reg hP hn hm [(2, .c (eBucket b1146)), (4, .k 9)] [2, 3, 5, 6] [4, 5, 6, 7, 8, 9] ⟨[(2, .ptr 4 0 0), (3, .ptr 5 0 0), (5, .ptr 8 0 0), (6, .ptr 9 0 0)], [(4, some (.box 30 (aHist a0))), (5, some (.box 30 (aHist a1))), (6, some (.row 2 36 (((t1140).f6).map eBucket))), (7, some (.row 2 36 (((t1140).f7).map eBucket))), (8, some (.box 30 [iV .i64 ((t1140).f0), iV .i64 ((t1140).f1), iV .i64 ((t1140).f2), iV .u64 ((t1140).f3), iV .u64 ((t1140).f4), iV .i64 ((t1140).f5), .own 6, .own 7])), (9, some (.box 36 (aBucket b1146)))], 0⟩ [0 ≤ (0 : Int), (a0.f6.map eBucket)[(Int.toNat (0))]? = some (eBucket b1146)] (by kernel_rfl) ⟨by exact p1147, by exact el_map eBucket q1148, trivial⟩ ?_
              refine AWp.seq ?_
              obtain ⟨b1152, p1153, q1154, H⟩ := at_of H
              refine reg hP hn hm [(4, .c (eBucket b1152)), (8, .put (eBucket b1152) ((((t1140).f6).set (Int.toNat (0)) (⟨b1152.f0, IntKind.u64.wrap (b1152.f1 + (1 : Int))⟩ : TBucket)).map eBucket))] [2, 3, 5, 6] [4, 5, 6, 7, 8, 9] ⟨[(2, .ptr 4 0 0), (3, .ptr 5 0 0), (5, .ptr 8 0 0), (6, .ptr 9 0 0)], [(4, some (.box 30 (aHist a0))), (5, some (.box 30 (aHist a1))), (6, some (.row 2 36 ((((t1140).f6).set (Int.toNat (0)) (⟨b1152.f0, IntKind.u64.wrap (b1152.f1 + (1 : Int))⟩ : TBucket)).map eBucket))), (7, some (.row 2 36 (((t1140).f7).map eBucket))), (8, some (.box 30 [iV .i64 ((t1140).f0), iV .i64 ((t1140).f1), iV .i64 ((t1140).f2), iV .u64 ((t1140).f3), iV .u64 ((t1140).f4), iV .i64 ((t1140).f5), .own 6, .own 7])), (9, some (.box 36 (aBucket b1146)))], 0⟩ [0 ≤ (0 : Int), 0 < (((((t1140).f6).map eBucket).length : Nat) : Int), (((t1140).f6).map eBucket)[(Int.toNat (0))]? = some (eBucket b1152), 0 ≤ (0 : Int), 0 < (((((t1140).f6).map eBucket).length : Nat) : Int), (((t1140).f6).map eBucket)[(Int.toNat (0))]? = some (eBucket b1152), (((t1140).f6).set (Int.toNat (0)) (⟨b1152.f0, IntKind.u64.wrap (b1152.f1 + (1 : Int))⟩ : TBucket)).map eBucket = (((t1140).f6).map eBucket).set (Int.toNat (0)) (splice (eBucket b1152) 1 [iI .u64 (IntKind.u64.wrap (b1152.f1 + (1 : Int)))])] (by kernel_rfl) ⟨by exact p1153, by exact el_lt eBucket p1153 q1154, by exact el_map eBucket q1154, by exact p1153, by exact el_lt eBucket p1153 q1154, by exact el_map eBucket q1154, by exact set1 _ _ _ _, trivial⟩ ?_
              refine AWp.seq ?_
              obtain ⟨o1502, e1503, H⟩ := bind_of H
              refine AWp.mono (Q := fun e s => (match (generalizing := false) o1502 with | x1161 => e = .normal ∧ s = ⟨[(2, .ptr 10 0 0), (3, .ptr 11 0 0), (65, bV x1161)], [(10, some (.box 30 (aHist a0))), (11, some (.box 30 (aHist a1)))], 0⟩)) (AWp.cv ?_) ?_
              · replace H := e1503; clear e1503
                rcases Bool.eq_false_or_eq_true (!((b1146.f0 == b1146.f0) && ((b1146.f1 == b1146.f1) && true))) with c1158 | c1158
                · replace H := (ifT c1158).symm.trans H
                  refine reg hP hn hm [(2, .c (eBucket b1146)), (5, .more (xAgg none)), (6, .b true)] [2, 3, 65] [4, 5] ⟨[(2, .ptr 4 0 0), (3, .ptr 5 0 0), (65, bV true)], [(4, some (.box 30 (aHist a0))), (5, some (.box 30 (aHist a1)))], 0⟩ [0 ≤ (0 : Int), (a0.f6.map eBucket)[(Int.toNat (0))]? = some (eBucket b1146), (!((b1146.f0 == b1146.f0) && ((b1146.f1 == b1146.f1) && true))) = true] (by kernel_rfl) ⟨by exact p1147, by exact el_map eBucket q1148, by exact c1158, trivial⟩ ?_
                  obtain rfl := Option.some.inj H
                  exact Exists.intro _ (And.intro (fun _ _ h => h.conv (inv := [(4, 10), (5, 11)]) (vk := []) (e0 := []) (t := ⟨[(2, .ptr 10 0 0), (3, .ptr 11 0 0), (65, bV true)], [(10, some (.box 30 (aHist a0))), (11, some (.box 30 (aHist a1)))], 0⟩) (by kernel_rfl)) (And.intro rfl rfl))
                · replace H := (ifF c1158).symm.trans H
                  obtain ⟨t1159, e1160, H⟩ := bind_of H
                  refine reg hP hn hm [(2, .c (eBucket b1146)), (5, .more (xAgg none)), (6, .b false), (9, .call [] [] [6, 7] [] 0 (bV t1159) [])] [2, 3, 65] [4, 5] ⟨[(2, .ptr 4 0 0), (3, .ptr 5 0 0), (65, bV t1159)], [(4, some (.box 30 (aHist a0))), (5, some (.box 30 (aHist a1)))], 0⟩ [0 ≤ (0 : Int), (a0.f6.map eBucket)[(Int.toNat (0))]? = some (eBucket b1146), (!((b1146.f0 == b1146.f0) && ((b1146.f1 == b1146.f1) && true))) = false, Enters Try.prog 18, Pv.Fn Try.prog 18 [.agg (aHist a0), .agg (aHist ⟨(t1140).f0, (t1140).f1, (t1140).f2, (t1140).f3, (t1140).f4, (t1140).f5, ((t1140).f6).set (Int.toNat (0)) (⟨b1152.f0, IntKind.u64.wrap (b1152.f1 + (1 : Int))⟩ : TBucket), (t1140).f7⟩)] [] 0 (fun r o => r = bV t1159 ∧ o = [])] (by kernel_rfl) ⟨by exact p1147, by exact el_map eBucket q1148, by exact c1158, by exact Try.call18, by exact f_hist_Same.ok a0 (⟨(t1140).f0, (t1140).f1, (t1140).f2, (t1140).f3, (t1140).f4, (t1140).f5, ((t1140).f6).set (Int.toNat (0)) (⟨b1152.f0, IntKind.u64.wrap (b1152.f1 + (1 : Int))⟩ : TBucket), (t1140).f7⟩ : THist) t1159 e1160, trivial⟩ ?_
                  obtain rfl := Option.some.inj H
                  exact Exists.intro _ (And.intro (fun _ _ h => h.conv (inv := [(4, 10), (5, 11)]) (vk := []) (e0 := []) (t := ⟨[(2, .ptr 10 0 0), (3, .ptr 11 0 0), (65, bV t1159)], [(10, some (.box 30 (aHist a0))), (11, some (.box 30 (aHist a1)))], 0⟩) (by kernel_rfl)) (And.intro rfl rfl))
              · obtain ⟨x1161, rfl⟩ : ∃ z, z = o1502 := ⟨_, rfl⟩
                rintro e s ⟨rfl, rfl⟩
                refine AWp.cond x1161 rfl (fun c1162 => ?_) (fun c1162 => ?_)
                · replace H := (ifT c1162).symm.trans H
                  refine AWp.seq ?_
                  refine reg hP hn hm [] [4] [] ⟨[(4, bV false)], [], 0⟩ [] (by kernel_rfl) trivial ?_
                  refine AWp.conv (inv := []) (vk := []) (e0 := []) (t := ⟨[(4, bV false)], [], 0⟩) (by kernel_rfl) ?_
                  refine AWp.ret ?_
                  obtain rfl := Option.some.inj H
                  exact Exists.intro _ (And.intro (fun _ _ h => h) (And.intro rfl (And.intro rfl (And.intro (by kernel_rfl) (by kernel_rfl)))))
                · replace H := (ifF c1162).symm.trans H
                  refine AWp.skip ?_
                  obtain rfl := Option.some.inj H
                  exact Exists.intro _ (And.intro (fun _ _ h => h.conv (inv := [(10, 12), (11, 13)]) (vk := []) (e0 := []) (t := ⟨[(2, .ptr 12 0 0), (3, .ptr 13 0 0)], [(12, some (.box 30 (aHist a0))), (13, some (.box 30 (aHist a1)))], 0⟩) (by kernel_rfl)) (And.intro rfl rfl))
            · replace H := (ifF c1142).symm.trans H
              refine AWp.skip ?_
              obtain rfl := Option.some.inj H
              exact Exists.intro _ (And.intro (fun _ _ h => h.conv (inv := [(4, 12), (5, 13)]) (vk := []) (e0 := []) (t := ⟨[(2, .ptr 12 0 0), (3, .ptr 13 0 0)], [(12, some (.box 30 (aHist a0))), (13, some (.box 30 (aHist a1)))], 0⟩) (by kernel_rfl)) (And.intro rfl rfl))
          · rcases o1500 with rr | _
            · skip
              rintro e s ⟨rfl, hfl, hres⟩
              obtain rfl := Option.some.inj H
              exact Exists.intro _ (And.intro (fun _ _ h => h) (And.intro (.inl rfl) (And.intro hfl hres)))
            · skip
              rintro e s ⟨rfl, rfl⟩
              refine AWp.seq ?_
              refine AWp.seq ?_
              obtain ⟨o1504, e1505, H⟩ := bind_of H
              refine AWp.mono (Q := fun e s => (match (generalizing := false) o1504 with | x1385 => e = .normal ∧ s = ⟨[(2, .ptr 14 0 0), (3, .ptr 15 0 0), (73, bV x1385)], [(14, some (.box 30 (aHist a0))), (15, some (.box 30 (aHist a1)))], 0⟩)) (AWp.cv ?_) ?_
              · replace H := e1505; clear e1505
                obtain ⟨t1380, e1381, H⟩ := bind_of H
                rcases Bool.eq_false_or_eq_true (t1380 != (0 : Int)) with c1382 | c1382
                · replace H := (ifT c1382).symm.trans H
                  refine reg hP hn hm [(1, .call [] [] [] [] 0 (iV .i64 t1380) []), (3, .b true)] [2, 3, 73] [12, 13] ⟨[(2, .ptr 12 0 0), (3, .ptr 13 0 0), (73, bV true)], [(12, some (.box 30 (aHist a0))), (13, some (.box 30 (aHist a1)))], 0⟩ [Enters Try.prog 31, Pv.Fn Try.prog 31 [.agg (aHist a0)] [] 0 (fun r o => r = iV .i64 t1380 ∧ o = []), (t1380 != (0 : Int)) = true] (by kernel_rfl) ⟨by exact Try.call31, by exact f_pluvialref05_Check.ok a0 t1380 e1381, by exact c1382, trivial⟩ ?_
                  obtain rfl := Option.some.inj H
                  exact Exists.intro _ (And.intro (fun _ _ h => h.conv (inv := [(12, 14), (13, 15)]) (vk := []) (e0 := []) (t := ⟨[(2, .ptr 14 0 0), (3, .ptr 15 0 0), (73, bV true)], [(14, some (.box 30 (aHist a0))), (15, some (.box 30 (aHist a1)))], 0⟩) (by kernel_rfl)) (And.intro rfl rfl))
                · replace H := (ifF c1382).symm.trans H
                  obtain ⟨t1383, e1384, H⟩ := bind_of H
                  refine reg hP hn hm [(1, .call [] [] [] [] 0 (iV .i64 t1380) []), (3, .b false), (5, .call [] [] [] [] 0 (iV .i64 t1383) [])] [2, 3, 73] [12, 13] ⟨[(2, .ptr 12 0 0), (3, .ptr 13 0 0), (73, bV (t1383 != (0 : Int)))], [(12, some (.box 30 (aHist a0))), (13, some (.box 30 (aHist a1)))], 0⟩ [Enters Try.prog 31, Pv.Fn Try.prog 31 [.agg (aHist a0)] [] 0 (fun r o => r = iV .i64 t1380 ∧ o = []), (t1380 != (0 : Int)) = false, Enters Try.prog 31, Pv.Fn Try.prog 31 [.agg (aHist a1)] [] 0 (fun r o => r = iV .i64 t1383 ∧ o = [])] (by kernel_rfl) ⟨by exact Try.call31, by exact f_pluvialref05_Check.ok a0 t1380 e1381, by exact c1382, by exact Try.call31, by exact f_pluvialref05_Check.ok a1 t1383 e1384, trivial⟩ ?_
                  obtain rfl := Option.some.inj H
                  exact Exists.intro _ (And.intro (fun _ _ h => h.conv (inv := [(12, 14), (13, 15)]) (vk := []) (e0 := []) (t := ⟨[(2, .ptr 14 0 0), (3, .ptr 15 0 0), (73, bV (t1383 != (0 : Int)))], [(14, some (.box 30 (aHist a0))), (15, some (.box 30 (aHist a1)))], 0⟩) (by kernel_rfl)) (And.intro rfl rfl))
              · obtain ⟨x1385, rfl⟩ : ∃ z, z = o1504 := ⟨_, rfl⟩
                rintro e s ⟨rfl, rfl⟩
                refine AWp.cond x1385 rfl (fun c1386 => ?_) (fun c1386 => ?_)
                · replace H := (ifT c1386).symm.trans H
                  refine AWp.seq ?_
                  obtain ⟨t1389, e1390, H⟩ := bind_of H
                  refine reg hP hn hm [(0, .call [] [] [] [] 0 (bV t1389) [])] [4] [] ⟨[(4, bV t1389)], [], 0⟩ [Enters Try.prog 16, Pv.Fn Try.prog 16 [] [] 0 (fun r o => r = bV t1389 ∧ o = [])] (by kernel_rfl) ⟨by exact Try.call16, by exact f_pluviallaw05_awake.ok  t1389 e1390, trivial⟩ ?_
                  refine AWp.conv (inv := []) (vk := []) (e0 := []) (t := ⟨[(4, bV t1389)], [], 0⟩) (by kernel_rfl) ?_
                  refine AWp.ret ?_
                  obtain rfl := Option.some.inj H
                  exact Exists.intro _ (And.intro (fun _ _ h => h) (And.intro (.inl rfl) (And.intro rfl (And.intro (by kernel_rfl) (by kernel_rfl)))))
                · replace H := (ifF c1386).symm.trans H
                  refine AWp.skip ?_
                  refine AWp.seq ?_
                  obtain ⟨t1437, e1438, H⟩ := bind_of H
                  obtain ⟨t1439, e1440, H⟩ := bind_of H
                  refine reg hP hn hm [(1, .call [] [(0, 16)] [] [16] 0 (.mown 0) [(0, some (.map (mE (fun x => Value.agg (vkbound_Key x).toArray) (iI .u64) t1437)))]), (3, .call [] [(0, 17)] [] [17] 0 (.mown 0) [(0, some (.map (mE (fun x => Value.agg (vkbound_Key x).toArray) (iI .u64) t1439)))])] [2, 3, 7, 8] [14, 15, 16, 17] ⟨[(2, .ptr 14 0 0), (3, .ptr 15 0 0), (7, .mown 16), (8, .mown 17)], [(14, some (.box 30 (aHist a0))), (15, some (.box 30 (aHist a1))), (16, some (.map (mE (fun x => Value.agg (vkbound_Key x).toArray) (iI .u64) t1437))), (17, some (.map (mE (fun x => Value.agg (vkbound_Key x).toArray) (iI .u64) t1439)))], 0⟩ [Enters Try.prog 32, Pv.Fn Try.prog 32 [.agg (aHist a0)] [] 0 (fun r o => r = .mown 0 ∧ o = [(0, some (.map (mE (fun x => Value.agg (vkbound_Key x).toArray) (iI .u64) t1437)))]), Enters Try.prog 32, Pv.Fn Try.prog 32 [.agg (aHist a1)] [] 0 (fun r o => r = .mown 0 ∧ o = [(0, some (.map (mE (fun x => Value.agg (vkbound_Key x).toArray) (iI .u64) t1439)))])] (by kernel_rfl) ⟨by exact Try.call32, by exact f_hist_Cells.ok a0 t1437 e1438, by exact Try.call32, by exact f_hist_Cells.ok a1 t1439 e1440, trivial⟩ ?_
                  refine AWp.seq ?_
                  obtain ⟨o1506, e1507, H⟩ := bind_of H
                  refine AWp.mono (Q := fun e s => (match (generalizing := false) o1506 with | x1449 => e = .normal ∧ s = ⟨[(2, .ptr 18 0 0), (3, .ptr 19 0 0), (7, .mown 20), (8, .mown 21), (9, bV x1449)], [(18, some (.box 30 (aHist a0))), (19, some (.box 30 (aHist a1))), (20, some (.map (mE (fun x => Value.agg (vkbound_Key x).toArray) (iI .u64) t1437))), (21, some (.map (mE (fun x => Value.agg (vkbound_Key x).toArray) (iI .u64) t1439)))], 0⟩)) (AWp.cv ?_) ?_
                  · replace H := e1507; clear e1507
                    rcases Bool.eq_false_or_eq_true ((t1437.length : Int) == (t1439.length : Int)) with c1445 | c1445
                    · replace H := (ifT c1445).symm.trans H
                      rcases Bool.eq_false_or_eq_true (a0.f0 == a1.f0) with c1446 | c1446
                      · replace H := (ifT c1446).symm.trans H
                        rcases Bool.eq_false_or_eq_true (a0.f1 == a1.f1) with c1447 | c1447
                        · replace H := (ifT c1447).symm.trans H
                          rcases Bool.eq_false_or_eq_true (a0.f2 == a1.f2) with c1448 | c1448
                          · replace H := (ifT c1448).symm.trans H
                            refine reg hP hn hm [(1, .more (xMlen (t1437.length : Int))), (3, .more (xMlen (t1439.length : Int))), (5, .b true), (12, .b true), (19, .b true), (26, .b true)] [2, 3, 7, 8, 9] [14, 15, 16, 17] ⟨[(2, .ptr 14 0 0), (3, .ptr 15 0 0), (7, .mown 16), (8, .mown 17), (9, bV (a0.f5 == a1.f5))], [(14, some (.box 30 (aHist a0))), (15, some (.box 30 (aHist a1))), (16, some (.map (mE (fun x => Value.agg (vkbound_Key x).toArray) (iI .u64) t1437))), (17, some (.map (mE (fun x => Value.agg (vkbound_Key x).toArray) (iI .u64) t1439)))], 0⟩ [(t1437.length : Int) = ((mE (fun x => Value.agg (vkbound_Key x).toArray) (iI .u64) t1437).length : Int), (t1439.length : Int) = ((mE (fun x => Value.agg (vkbound_Key x).toArray) (iI .u64) t1439).length : Int), ((t1437.length : Int) == (t1439.length : Int)) = true, (a0.f0 == a1.f0) = true, (a0.f1 == a1.f1) = true, (a0.f2 == a1.f2) = true] (by kernel_rfl) ⟨by exact len_mE' _ _ _, by exact len_mE' _ _ _, by exact c1445, by exact c1446, by exact c1447, by exact c1448, trivial⟩ ?_
                            obtain rfl := Option.some.inj H
                            exact Exists.intro _ (And.intro (fun _ _ h => h.conv (inv := [(14, 18), (15, 19), (16, 20), (17, 21)]) (vk := []) (e0 := []) (t := ⟨[(2, .ptr 18 0 0), (3, .ptr 19 0 0), (7, .mown 20), (8, .mown 21), (9, bV (a0.f5 == a1.f5))], [(18, some (.box 30 (aHist a0))), (19, some (.box 30 (aHist a1))), (20, some (.map (mE (fun x => Value.agg (vkbound_Key x).toArray) (iI .u64) t1437))), (21, some (.map (mE (fun x => Value.agg (vkbound_Key x).toArray) (iI .u64) t1439)))], 0⟩) (by kernel_rfl)) (And.intro rfl rfl))
                          · replace H := (ifF c1448).symm.trans H
                            refine reg hP hn hm [(1, .more (xMlen (t1437.length : Int))), (3, .more (xMlen (t1439.length : Int))), (5, .b true), (12, .b true), (19, .b true), (26, .b false)] [2, 3, 7, 8, 9] [14, 15, 16, 17] ⟨[(2, .ptr 14 0 0), (3, .ptr 15 0 0), (7, .mown 16), (8, .mown 17), (9, bV false)], [(14, some (.box 30 (aHist a0))), (15, some (.box 30 (aHist a1))), (16, some (.map (mE (fun x => Value.agg (vkbound_Key x).toArray) (iI .u64) t1437))), (17, some (.map (mE (fun x => Value.agg (vkbound_Key x).toArray) (iI .u64) t1439)))], 0⟩ [(t1437.length : Int) = ((mE (fun x => Value.agg (vkbound_Key x).toArray) (iI .u64) t1437).length : Int), (t1439.length : Int) = ((mE (fun x => Value.agg (vkbound_Key x).toArray) (iI .u64) t1439).length : Int), ((t1437.length : Int) == (t1439.length : Int)) = true, (a0.f0 == a1.f0) = true, (a0.f1 == a1.f1) = true, (a0.f2 == a1.f2) = false] (by kernel_rfl) ⟨by exact len_mE' _ _ _, by exact len_mE' _ _ _, by exact c1445, by exact c1446, by exact c1447, by exact c1448, trivial⟩ ?_
                            obtain rfl := Option.some.inj H
                            exact Exists.intro _ (And.intro (fun _ _ h => h.conv (inv := [(14, 18), (15, 19), (16, 20), (17, 21)]) (vk := []) (e0 := []) (t := ⟨[(2, .ptr 18 0 0), (3, .ptr 19 0 0), (7, .mown 20), (8, .mown 21), (9, bV false)], [(18, some (.box 30 (aHist a0))), (19, some (.box 30 (aHist a1))), (20, some (.map (mE (fun x => Value.agg (vkbound_Key x).toArray) (iI .u64) t1437))), (21, some (.map (mE (fun x => Value.agg (vkbound_Key x).toArray) (iI .u64) t1439)))], 0⟩) (by kernel_rfl)) (And.intro rfl rfl))
                        · replace H := (ifF c1447).symm.trans H
                          refine reg hP hn hm [(1, .more (xMlen (t1437.length : Int))), (3, .more (xMlen (t1439.length : Int))), (5, .b true), (12, .b true), (19, .b false)] [2, 3, 7, 8, 9] [14, 15, 16, 17] ⟨[(2, .ptr 14 0 0), (3, .ptr 15 0 0), (7, .mown 16), (8, .mown 17), (9, bV false)], [(14, some (.box 30 (aHist a0))), (15, some (.box 30 (aHist a1))), (16, some (.map (mE (fun x => Value.agg (vkbound_Key x).toArray) (iI .u64) t1437))), (17, some (.map (mE (fun x => Value.agg (vkbound_Key x).toArray) (iI .u64) t1439)))], 0⟩ [(t1437.length : Int) = ((mE (fun x => Value.agg (vkbound_Key x).toArray) (iI .u64) t1437).length : Int), (t1439.length : Int) = ((mE (fun x => Value.agg (vkbound_Key x).toArray) (iI .u64) t1439).length : Int), ((t1437.length : Int) == (t1439.length : Int)) = true, (a0.f0 == a1.f0) = true, (a0.f1 == a1.f1) = false] (by kernel_rfl) ⟨by exact len_mE' _ _ _, by exact len_mE' _ _ _, by exact c1445, by exact c1446, by exact c1447, trivial⟩ ?_
                          obtain rfl := Option.some.inj H
                          exact Exists.intro _ (And.intro (fun _ _ h => h.conv (inv := [(14, 18), (15, 19), (16, 20), (17, 21)]) (vk := []) (e0 := []) (t := ⟨[(2, .ptr 18 0 0), (3, .ptr 19 0 0), (7, .mown 20), (8, .mown 21), (9, bV false)], [(18, some (.box 30 (aHist a0))), (19, some (.box 30 (aHist a1))), (20, some (.map (mE (fun x => Value.agg (vkbound_Key x).toArray) (iI .u64) t1437))), (21, some (.map (mE (fun x => Value.agg (vkbound_Key x).toArray) (iI .u64) t1439)))], 0⟩) (by kernel_rfl)) (And.intro rfl rfl))
                      · replace H := (ifF c1446).symm.trans H
                        refine reg hP hn hm [(1, .more (xMlen (t1437.length : Int))), (3, .more (xMlen (t1439.length : Int))), (5, .b true), (12, .b false)] [2, 3, 7, 8, 9] [14, 15, 16, 17] ⟨[(2, .ptr 14 0 0), (3, .ptr 15 0 0), (7, .mown 16), (8, .mown 17), (9, bV false)], [(14, some (.box 30 (aHist a0))), (15, some (.box 30 (aHist a1))), (16, some (.map (mE (fun x => Value.agg (vkbound_Key x).toArray) (iI .u64) t1437))), (17, some (.map (mE (fun x => Value.agg (vkbound_Key x).toArray) (iI .u64) t1439)))], 0⟩ [(t1437.length : Int) = ((mE (fun x => Value.agg (vkbound_Key x).toArray) (iI .u64) t1437).length : Int), (t1439.length : Int) = ((mE (fun x => Value.agg (vkbound_Key x).toArray) (iI .u64) t1439).length : Int), ((t1437.length : Int) == (t1439.length : Int)) = true, (a0.f0 == a1.f0) = false] (by kernel_rfl) ⟨by exact len_mE' _ _ _, by exact len_mE' _ _ _, by exact c1445, by exact c1446, trivial⟩ ?_
                        obtain rfl := Option.some.inj H
                        exact Exists.intro _ (And.intro (fun _ _ h => h.conv (inv := [(14, 18), (15, 19), (16, 20), (17, 21)]) (vk := []) (e0 := []) (t := ⟨[(2, .ptr 18 0 0), (3, .ptr 19 0 0), (7, .mown 20), (8, .mown 21), (9, bV false)], [(18, some (.box 30 (aHist a0))), (19, some (.box 30 (aHist a1))), (20, some (.map (mE (fun x => Value.agg (vkbound_Key x).toArray) (iI .u64) t1437))), (21, some (.map (mE (fun x => Value.agg (vkbound_Key x).toArray) (iI .u64) t1439)))], 0⟩) (by kernel_rfl)) (And.intro rfl rfl))
                    · replace H := (ifF c1445).symm.trans H
                      refine reg hP hn hm [(1, .more (xMlen (t1437.length : Int))), (3, .more (xMlen (t1439.length : Int))), (5, .b false)] [2, 3, 7, 8, 9] [14, 15, 16, 17] ⟨[(2, .ptr 14 0 0), (3, .ptr 15 0 0), (7, .mown 16), (8, .mown 17), (9, bV false)], [(14, some (.box 30 (aHist a0))), (15, some (.box 30 (aHist a1))), (16, some (.map (mE (fun x => Value.agg (vkbound_Key x).toArray) (iI .u64) t1437))), (17, some (.map (mE (fun x => Value.agg (vkbound_Key x).toArray) (iI .u64) t1439)))], 0⟩ [(t1437.length : Int) = ((mE (fun x => Value.agg (vkbound_Key x).toArray) (iI .u64) t1437).length : Int), (t1439.length : Int) = ((mE (fun x => Value.agg (vkbound_Key x).toArray) (iI .u64) t1439).length : Int), ((t1437.length : Int) == (t1439.length : Int)) = false] (by kernel_rfl) ⟨by exact len_mE' _ _ _, by exact len_mE' _ _ _, by exact c1445, trivial⟩ ?_
                      obtain rfl := Option.some.inj H
                      exact Exists.intro _ (And.intro (fun _ _ h => h.conv (inv := [(14, 18), (15, 19), (16, 20), (17, 21)]) (vk := []) (e0 := []) (t := ⟨[(2, .ptr 18 0 0), (3, .ptr 19 0 0), (7, .mown 20), (8, .mown 21), (9, bV false)], [(18, some (.box 30 (aHist a0))), (19, some (.box 30 (aHist a1))), (20, some (.map (mE (fun x => Value.agg (vkbound_Key x).toArray) (iI .u64) t1437))), (21, some (.map (mE (fun x => Value.agg (vkbound_Key x).toArray) (iI .u64) t1439)))], 0⟩) (by kernel_rfl)) (And.intro rfl rfl))
                  · obtain ⟨x1449, rfl⟩ : ∃ z, z = o1506 := ⟨_, rfl⟩
                    rintro e s ⟨rfl, rfl⟩
                    refine AWp.seq ?_
                    refine AWp.seq ?_
                    refine reg hP hn hm [(1, .more (xRng 22 t1437.length))] [2, 3, 8, 9, 113] [18, 19, 20, 21, 22] ⟨[(2, .ptr 18 0 0), (3, .ptr 19 0 0), (8, .mown 21), (9, bV x1449), (113, .ptr 22 0 0)], [(18, some (.box 30 (aHist a0))), (19, some (.box 30 (aHist a1))), (20, some (.map (mE (fun x => Value.agg (vkbound_Key x).toArray) (iI .u64) t1437))), (21, some (.map (mE (fun x => Value.agg (vkbound_Key x).toArray) (iI .u64) t1439))), (22, some (.iter (some 20) t1437.length ([] : List Nat)))], 0⟩ [t1437.length = (mE (fun x => Value.agg (vkbound_Key x).toArray) (iI .u64) t1437).length] (by kernel_rfl) ⟨by exact len_mE _ _ _, trivial⟩ ?_
                    refine AWp.block ?_
                    obtain ⟨o1508, e1509, H⟩ := bind_of H
                    refine AWp.loop (LWp.conv (inv := [(18, 29), (19, 30), (20, 32), (21, 31), (22, 33)]) (vk := []) (e0 := []) (t := ⟨[(2, .ptr 29 0 0), (3, .ptr 30 0 0), (8, .mown 31), (9, bV x1449), (113, .ptr 33 0 0)], [(29, some (.box 30 (aHist a0))), (30, some (.box 30 (aHist a1))), (31, some (.map (mE (fun x => Value.agg (vkbound_Key x).toArray) (iI .u64) t1439))), (32, some (.map (mE (fun x => Value.agg (vkbound_Key x).toArray) (iI .u64) t1437))), (33, some (.iter (some 32) t1437.length ([] : List Nat)))], 0⟩) (by kernel_rfl) ?_)
                    refine LWp.mono (Q := fun e s => (match (generalizing := false) o1508 with | x1468 => e = .exit 0 ∧ s = ⟨[(2, .ptr 40 0 0), (3, .ptr 41 0 0), (9, bV x1468)], [(40, some (.box 30 (aHist a0))), (41, some (.box 30 (aHist a1)))], 0⟩)) (LWp.cv (withBody (fun body hbody => ?_))) ?_
                    · refine range_loop t1437 (f_pluviallaw05_HistSame.d0 a0 a1 t1437 t1439) (f_pluviallaw05_HistSame.s0 a0 a1 t1437 t1439) o1508 (fun sn1450 v => match v with | (x1459) => ⟨[(2, .ptr 29 0 0), (3, .ptr 30 0 0), (8, .mown 31), (9, bV x1459), (113, .ptr 33 0 0)], [(29, some (.box 30 (aHist a0))), (30, some (.box 30 (aHist a1))), (31, some (.map (mE (fun x => Value.agg (vkbound_Key x).toArray) (iI .u64) t1439))), (32, some (.map (mE (fun x => Value.agg (vkbound_Key x).toArray) (iI .u64) t1437))), (33, some (.iter (some 32) t1437.length sn1450))], 0⟩) (fun sn1450 v self hr0 hr1 => ?_) _ (rchk_of e1509)
                      clear H e1509
                      obtain ⟨x1459, rfl⟩ : ∃ z, z = v := ⟨_, rfl⟩
                      subst hbody
                      show AWp Γ _ _ ⟨[(2, .ptr 29 0 0), (3, .ptr 30 0 0), (8, .mown 31), (9, bV x1459), (113, .ptr 33 0 0)], [(29, some (.box 30 (aHist a0))), (30, some (.box 30 (aHist a1))), (31, some (.map (mE (fun x => Value.agg (vkbound_Key x).toArray) (iI .u64) t1439))), (32, some (.map (mE (fun x => Value.agg (vkbound_Key x).toArray) (iI .u64) t1437))), (33, some (.iter (some 32) t1437.length sn1450))], 0⟩
                      have H := hr0
                      refine AWp.seq ?_
                      refine AWp.next (n := t1437.length) (sn := sn1450) (es := mE (fun x => Value.agg (vkbound_Key x).toArray) (iI .u64) t1437) 114 115 33 32 hP rfl rfl rfl rfl rfl rfl (by rw [hn]; decide) (by rw [hn]; decide) (by kernel_rfl) (by kernel_rfl) (by kernel_rfl) (len_mE _ _ _) (fun hz => ?_) (fun i1460 A B hA hB hin => ?_)
                      · replace H := hr0 hz; clear hr0 hr1
                        unfold f_pluviallaw05_HistSame.d0 at H
                        try dsimp only at H
                        refine AWp.seq ?_
                        refine AWp.cond false rfl (fun h => nomatch h) (fun _ => ?_)
                        refine AWp.exit ?_
                        obtain rfl := Option.some.inj H
                        exact Exists.intro _ (And.intro (fun _ _ h => h.conv (inv := [(29, 40), (30, 41)]) (vk := []) (e0 := []) (t := ⟨[(2, .ptr 40 0 0), (3, .ptr 41 0 0), (9, bV x1459)], [(40, some (.box 30 (aHist a0))), (41, some (.box 30 (aHist a1)))], 0⟩) (by kernel_rfl)) (And.intro rfl rfl))
                      · have hmem : i1460 ∈ remI t1437.length sn1450 := by rw [hA]; simp
                        obtain ⟨b1461, rr0, q1462, H, hxr, hwr⟩ := hr1 i1460 hmem; clear hr0 hr1
                        unfold f_pluviallaw05_HistSame.s0 at H
                        try dsimp only at H
                        refine AWp.seq ?_
                        refine AWp.cond true rfl (fun _ => ?_) (fun h => nomatch h)
                        refine AWp.skip ?_
                        refine AWp.block ?_
                        refine AWp.seq ?_
                        refine reg hP hn hm [(0, .more (xEnt (fun x => Value.agg (vkbound_Key x).toArray) (iI .u64) t1437 i1460 b1461 (.agg (abound_Key b1461.1)))), (3, .k 34)] [2, 3, 8, 9, 10, 11, 113] [29, 30, 31, 32, 33, 34] ⟨[(2, .ptr 29 0 0), (3, .ptr 30 0 0), (8, .mown 31), (9, bV x1459), (10, .ptr 34 0 0), (11, iV .u64 b1461.2), (113, .ptr 33 0 0)], [(29, some (.box 30 (aHist a0))), (30, some (.box 30 (aHist a1))), (31, some (.map (mE (fun x => Value.agg (vkbound_Key x).toArray) (iI .u64) t1439))), (32, some (.map (mE (fun x => Value.agg (vkbound_Key x).toArray) (iI .u64) t1437))), (33, some (.iter (some 32) t1437.length (sn1450 ++ [i1460]))), (34, some (.box 53 (abound_Key b1461.1)))], 0⟩ [t1437.length = (mE (fun x => Value.agg (vkbound_Key x).toArray) (iI .u64) t1437).length, ((sn1450 ++ [i1460])).getLast? = some i1460, mE (fun x => Value.agg (vkbound_Key x).toArray) (iI .u64) t1437 = mE (fun x => Value.agg (vkbound_Key x).toArray) (iI .u64) t1437, t1437[i1460]? = some b1461, valA (.agg (abound_Key b1461.1)) = some ((fun x => Value.agg (vkbound_Key x).toArray) b1461.1)] (by kernel_rfl) ⟨by exact len_mE _ _ _, by simp, by exact rfl, by exact q1462, by exact rfl, trivial⟩ ?_
                        refine AWp.seq ?_
                        refine reg hP hn hm [(2, .more (xLook (fun x => Value.agg (vkbound_Key x).toArray) (iI .u64) t1439 b1461.1 0))] [2, 3, 8, 9, 11, 12, 13, 113] [29, 30, 31, 32, 33] ⟨[(2, .ptr 29 0 0), (3, .ptr 30 0 0), (8, .mown 31), (9, bV x1459), (11, iV .u64 b1461.2), (12, iV .u64 ((mget t1439 b1461.1).getD 0)), (13, bV ((mget t1439 b1461.1).isSome)), (113, .ptr 33 0 0)], [(29, some (.box 30 (aHist a0))), (30, some (.box 30 (aHist a1))), (31, some (.map (mE (fun x => Value.agg (vkbound_Key x).toArray) (iI .u64) t1439))), (32, some (.map (mE (fun x => Value.agg (vkbound_Key x).toArray) (iI .u64) t1437))), (33, some (.iter (some 32) t1437.length (sn1450 ++ [i1460])))], 0⟩ [KeyOK Try.prog 53 (fun x => Value.agg (vkbound_Key x).toArray), mE (fun x => Value.agg (vkbound_Key x).toArray) (iI .u64) t1439 = mE (fun x => Value.agg (vkbound_Key x).toArray) (iI .u64) t1439, valA (.agg (abound_Key b1461.1)) = some ((fun x => Value.agg (vkbound_Key x).toArray) b1461.1), iI .u64 0 = (iI .u64) 0] (by kernel_rfl) ⟨by exact keyok53, by exact rfl, by exact rfl, by exact rfl, trivial⟩ ?_
                        obtain ⟨o1510, e1511, H⟩ := bind_of H
                        refine AWp.mono (Q := fun e s => (match (generalizing := false) o1510 with | x1467 => e = .normal ∧ s = ⟨[(2, .ptr 35 0 0), (3, .ptr 36 0 0), (8, .mown 37), (9, bV x1467), (113, .ptr 39 0 0)], [(35, some (.box 30 (aHist a0))), (36, some (.box 30 (aHist a1))), (37, some (.map (mE (fun x => Value.agg (vkbound_Key x).toArray) (iI .u64) t1439))), (38, some (.map (mE (fun x => Value.agg (vkbound_Key x).toArray) (iI .u64) t1437))), (39, some (.iter (some 38) t1437.length (sn1450 ++ [i1460])))], 0⟩)) (AWp.cv ?_) ?_
                        · replace H := e1511; clear e1511
                          rcases Bool.eq_false_or_eq_true x1459 with c1465 | c1465
                          · replace H := (ifT c1465).symm.trans H
                            rcases Bool.eq_false_or_eq_true ((mget t1439 b1461.1).isSome) with c1466 | c1466
                            · replace H := (ifT c1466).symm.trans H
                              refine reg hP hn hm [(1, .b true), (4, .b true)] [2, 3, 8, 9, 113, 127, 130, 131, 132] [29, 30, 31, 32, 33] ⟨[(2, .ptr 29 0 0), (3, .ptr 30 0 0), (8, .mown 31), (9, bV (((mget t1439 b1461.1).getD 0) == b1461.2)), (113, .ptr 33 0 0), (127, bV ((mget t1439 b1461.1).isSome)), (130, iV .u64 ((mget t1439 b1461.1).getD 0)), (131, iV .u64 b1461.2), (132, bV (((mget t1439 b1461.1).getD 0) == b1461.2))], [(29, some (.box 30 (aHist a0))), (30, some (.box 30 (aHist a1))), (31, some (.map (mE (fun x => Value.agg (vkbound_Key x).toArray) (iI .u64) t1439))), (32, some (.map (mE (fun x => Value.agg (vkbound_Key x).toArray) (iI .u64) t1437))), (33, some (.iter (some 32) t1437.length (sn1450 ++ [i1460])))], 0⟩ [x1459 = true, ((mget t1439 b1461.1).isSome) = true] (by kernel_rfl) ⟨by exact c1465, by exact c1466, trivial⟩ ?_
                              obtain rfl := Option.some.inj H
                              exact Exists.intro _ (And.intro (fun _ _ h => h.conv (inv := [(29, 35), (30, 36), (31, 37), (32, 38), (33, 39)]) (vk := []) (e0 := []) (t := ⟨[(2, .ptr 35 0 0), (3, .ptr 36 0 0), (8, .mown 37), (9, bV (((mget t1439 b1461.1).getD 0) == b1461.2)), (113, .ptr 39 0 0)], [(35, some (.box 30 (aHist a0))), (36, some (.box 30 (aHist a1))), (37, some (.map (mE (fun x => Value.agg (vkbound_Key x).toArray) (iI .u64) t1439))), (38, some (.map (mE (fun x => Value.agg (vkbound_Key x).toArray) (iI .u64) t1437))), (39, some (.iter (some 38) t1437.length (sn1450 ++ [i1460])))], 0⟩) (by kernel_rfl)) (And.intro rfl rfl))
                            · replace H := (ifF c1466).symm.trans H
                              refine reg hP hn hm [(1, .b true), (4, .b false)] [2, 3, 8, 9, 113, 127] [29, 30, 31, 32, 33] ⟨[(2, .ptr 29 0 0), (3, .ptr 30 0 0), (8, .mown 31), (9, bV false), (113, .ptr 33 0 0), (127, bV ((mget t1439 b1461.1).isSome))], [(29, some (.box 30 (aHist a0))), (30, some (.box 30 (aHist a1))), (31, some (.map (mE (fun x => Value.agg (vkbound_Key x).toArray) (iI .u64) t1439))), (32, some (.map (mE (fun x => Value.agg (vkbound_Key x).toArray) (iI .u64) t1437))), (33, some (.iter (some 32) t1437.length (sn1450 ++ [i1460])))], 0⟩ [x1459 = true, ((mget t1439 b1461.1).isSome) = false] (by kernel_rfl) ⟨by exact c1465, by exact c1466, trivial⟩ ?_
                              obtain rfl := Option.some.inj H
                              exact Exists.intro _ (And.intro (fun _ _ h => h.conv (inv := [(29, 35), (30, 36), (31, 37), (32, 38), (33, 39)]) (vk := []) (e0 := []) (t := ⟨[(2, .ptr 35 0 0), (3, .ptr 36 0 0), (8, .mown 37), (9, bV false), (113, .ptr 39 0 0)], [(35, some (.box 30 (aHist a0))), (36, some (.box 30 (aHist a1))), (37, some (.map (mE (fun x => Value.agg (vkbound_Key x).toArray) (iI .u64) t1439))), (38, some (.map (mE (fun x => Value.agg (vkbound_Key x).toArray) (iI .u64) t1437))), (39, some (.iter (some 38) t1437.length (sn1450 ++ [i1460])))], 0⟩) (by kernel_rfl)) (And.intro rfl rfl))
                          · replace H := (ifF c1465).symm.trans H
                            refine reg hP hn hm [(1, .b false)] [2, 3, 8, 9, 113] [29, 30, 31, 32, 33] ⟨[(2, .ptr 29 0 0), (3, .ptr 30 0 0), (8, .mown 31), (9, bV false), (113, .ptr 33 0 0)], [(29, some (.box 30 (aHist a0))), (30, some (.box 30 (aHist a1))), (31, some (.map (mE (fun x => Value.agg (vkbound_Key x).toArray) (iI .u64) t1439))), (32, some (.map (mE (fun x => Value.agg (vkbound_Key x).toArray) (iI .u64) t1437))), (33, some (.iter (some 32) t1437.length (sn1450 ++ [i1460])))], 0⟩ [x1459 = false] (by kernel_rfl) ⟨by exact c1465, trivial⟩ ?_
                            obtain rfl := Option.some.inj H
                            exact Exists.intro _ (And.intro (fun _ _ h => h.conv (inv := [(29, 35), (30, 36), (31, 37), (32, 38), (33, 39)]) (vk := []) (e0 := []) (t := ⟨[(2, .ptr 35 0 0), (3, .ptr 36 0 0), (8, .mown 37), (9, bV false), (113, .ptr 39 0 0)], [(35, some (.box 30 (aHist a0))), (36, some (.box 30 (aHist a1))), (37, some (.map (mE (fun x => Value.agg (vkbound_Key x).toArray) (iI .u64) t1439))), (38, some (.map (mE (fun x => Value.agg (vkbound_Key x).toArray) (iI .u64) t1437))), (39, some (.iter (some 38) t1437.length (sn1450 ++ [i1460])))], 0⟩) (by kernel_rfl)) (And.intro rfl rfl))
                        · obtain ⟨x1467, rfl⟩ : ∃ z, z = o1510 := ⟨_, rfl⟩
                          rintro e s ⟨rfl, rfl⟩
                          obtain rfl := Option.some.inj H
                          exact LWp.conv (inv := [(35, 29), (36, 30), (37, 31), (38, 32), (39, 33)]) (vk := []) (e0 := []) (t := ⟨[(2, .ptr 29 0 0), (3, .ptr 30 0 0), (8, .mown 31), (9, bV x1467), (113, .ptr 33 0 0)], [(29, some (.box 30 (aHist a0))), (30, some (.box 30 (aHist a1))), (31, some (.map (mE (fun x => Value.agg (vkbound_Key x).toArray) (iI .u64) t1439))), (32, some (.map (mE (fun x => Value.agg (vkbound_Key x).toArray) (iI .u64) t1437))), (33, some (.iter (some 32) t1437.length (sn1450 ++ [i1460])))], 0⟩) (by kernel_rfl) (self i1460 x1467 (hwr _ rfl) hmem)
                    · obtain ⟨x1468, rfl⟩ : ∃ z, z = o1508 := ⟨_, rfl⟩
                      rintro e s ⟨rfl, rfl⟩
                      refine AWp.seq ?_
                      obtain ⟨t1471, e1472, H⟩ := bind_of H
                      refine reg hP hn hm [(4, .call [] [] [] [] 0 (.agg (aHist (t1471))) []), (5, .k 42)] [2, 3, 9, 14] [40, 41, 42] ⟨[(2, .ptr 40 0 0), (3, .ptr 41 0 0), (9, bV x1468), (14, .ptr 42 0 0)], [(40, some (.box 30 (aHist a0))), (41, some (.box 30 (aHist a1))), (42, some (.box 30 (aHist (t1471))))], 0⟩ [Enters Try.prog 33, Pv.Fn Try.prog 33 [iV .i64 a0.f0, iV .i64 a0.f1] [] 0 (fun r o => r = .agg (aHist (t1471)) ∧ o = [])] (by kernel_rfl) ⟨by exact Try.call33, by exact f_hist_Empty.ok a0.f0 a0.f1 t1471 e1472, trivial⟩ ?_
                      refine AWp.seq ?_
                      obtain ⟨o1512, e1513, H⟩ := bind_of H
                      refine AWp.mono (Q := fun e s => (match (generalizing := false) o1512 with | x1495 => e = .normal ∧ s = ⟨[(4, bV x1495)], [], 0⟩)) (AWp.cv ?_) ?_
                      · replace H := e1513; clear e1513
                        obtain ⟨t1484, e1485, H⟩ := bind_of H
                        rcases Bool.eq_false_or_eq_true t1484 with c1486 | c1486
                        · replace H := (ifT c1486).symm.trans H
                          obtain ⟨t1487, e1488, H⟩ := bind_of H
                          rcases Bool.eq_false_or_eq_true (x1468 == t1487) with c1489 | c1489
                          · replace H := (ifT c1489).symm.trans H
                            obtain ⟨t1490, e1491, H⟩ := bind_of H
                            rcases Bool.eq_false_or_eq_true (t1490 == (0 : Int)) with c1492 | c1492
                            · replace H := (ifT c1492).symm.trans H
                              obtain ⟨t1493, e1494, H⟩ := bind_of H
                              refine reg hP hn hm [(0, .call [] [] [] [] 0 (bV t1484) []), (1, .b true), (5, .call [] [] [] [] 0 (bV t1487) []), (8, .b true), (10, .call [] [] [] [] 0 (iV .i64 t1490) []), (13, .b true), (15, .call [] [(0, 43)] [] [43] 0 (.mown 0) [(0, some (.map (mE (fun x => Value.agg (vkbound_Key x).toArray) (iI .u64) t1493)))]), (16, .more (xMlen (t1493.length : Int)))] [4] [] ⟨[(4, bV ((t1493.length : Int) == (0 : Int)))], [], 0⟩ [Enters Try.prog 16, Pv.Fn Try.prog 16 [] [] 0 (fun r o => r = bV t1484 ∧ o = []), t1484 = true, Enters Try.prog 18, Pv.Fn Try.prog 18 [.agg (aHist a0), .agg (aHist a1)] [] 0 (fun r o => r = bV t1487 ∧ o = []), (x1468 == t1487) = true, Enters Try.prog 19, Pv.Fn Try.prog 19 [.agg (aHist (t1471))] [] 0 (fun r o => r = iV .i64 t1490 ∧ o = []), (t1490 == (0 : Int)) = true, Enters Try.prog 32, Pv.Fn Try.prog 32 [.agg (aHist (t1471))] [] 0 (fun r o => r = .mown 0 ∧ o = [(0, some (.map (mE (fun x => Value.agg (vkbound_Key x).toArray) (iI .u64) t1493)))]), (t1493.length : Int) = ((mE (fun x => Value.agg (vkbound_Key x).toArray) (iI .u64) t1493).length : Int)] (by kernel_rfl) ⟨by exact Try.call16, by exact f_pluviallaw05_awake.ok  t1484 e1485, by exact c1486, by exact Try.call18, by exact f_hist_Same.ok a0 a1 t1487 e1488, by exact c1489, by exact Try.call19, by exact f_hist_Check.ok (t1471) t1490 e1491, by exact c1492, by exact Try.call32, by exact f_hist_Cells.ok (t1471) t1493 e1494, by exact len_mE' _ _ _, trivial⟩ ?_
                              obtain rfl := Option.some.inj H
                              exact Exists.intro _ (And.intro (fun _ _ h => h.conv (inv := []) (vk := []) (e0 := []) (t := ⟨[(4, bV ((t1493.length : Int) == (0 : Int)))], [], 0⟩) (by kernel_rfl)) (And.intro rfl rfl))
                            · replace H := (ifF c1492).symm.trans H
                              refine reg hP hn hm [(0, .call [] [] [] [] 0 (bV t1484) []), (1, .b true), (5, .call [] [] [] [] 0 (bV t1487) []), (8, .b true), (10, .call [] [] [] [] 0 (iV .i64 t1490) []), (13, .b false)] [4] [] ⟨[(4, bV false)], [], 0⟩ [Enters Try.prog 16, Pv.Fn Try.prog 16 [] [] 0 (fun r o => r = bV t1484 ∧ o = []), t1484 = true, Enters Try.prog 18, Pv.Fn Try.prog 18 [.agg (aHist a0), .agg (aHist a1)] [] 0 (fun r o => r = bV t1487 ∧ o = []), (x1468 == t1487) = true, Enters Try.prog 19, Pv.Fn Try.prog 19 [.agg (aHist (t1471))] [] 0 (fun r o => r = iV .i64 t1490 ∧ o = []), (t1490 == (0 : Int)) = false] (by kernel_rfl) ⟨by exact Try.call16, by exact f_pluviallaw05_awake.ok  t1484 e1485, by exact c1486, by exact Try.call18, by exact f_hist_Same.ok a0 a1 t1487 e1488, by exact c1489, by exact Try.call19, by exact f_hist_Check.ok (t1471) t1490 e1491, by exact c1492, trivial⟩ ?_
                              obtain rfl := Option.some.inj H
                              exact Exists.intro _ (And.intro (fun _ _ h => h.conv (inv := []) (vk := []) (e0 := []) (t := ⟨[(4, bV false)], [], 0⟩) (by kernel_rfl)) (And.intro rfl rfl))
                          · replace H := (ifF c1489).symm.trans H
                            refine reg hP hn hm [(0, .call [] [] [] [] 0 (bV t1484) []), (1, .b true), (5, .call [] [] [] [] 0 (bV t1487) []), (8, .b false)] [4] [] ⟨[(4, bV false)], [], 0⟩ [Enters Try.prog 16, Pv.Fn Try.prog 16 [] [] 0 (fun r o => r = bV t1484 ∧ o = []), t1484 = true, Enters Try.prog 18, Pv.Fn Try.prog 18 [.agg (aHist a0), .agg (aHist a1)] [] 0 (fun r o => r = bV t1487 ∧ o = []), (x1468 == t1487) = false] (by kernel_rfl) ⟨by exact Try.call16, by exact f_pluviallaw05_awake.ok  t1484 e1485, by exact c1486, by exact Try.call18, by exact f_hist_Same.ok a0 a1 t1487 e1488, by exact c1489, trivial⟩ ?_
                            obtain rfl := Option.some.inj H
                            exact Exists.intro _ (And.intro (fun _ _ h => h.conv (inv := []) (vk := []) (e0 := []) (t := ⟨[(4, bV false)], [], 0⟩) (by kernel_rfl)) (And.intro rfl rfl))
                        · replace H := (ifF c1486).symm.trans H
                          refine reg hP hn hm [(0, .call [] [] [] [] 0 (bV t1484) []), (1, .b false)] [4] [] ⟨[(4, bV false)], [], 0⟩ [Enters Try.prog 16, Pv.Fn Try.prog 16 [] [] 0 (fun r o => r = bV t1484 ∧ o = []), t1484 = false] (by kernel_rfl) ⟨by exact Try.call16, by exact f_pluviallaw05_awake.ok  t1484 e1485, by exact c1486, trivial⟩ ?_
                          obtain rfl := Option.some.inj H
                          exact Exists.intro _ (And.intro (fun _ _ h => h.conv (inv := []) (vk := []) (e0 := []) (t := ⟨[(4, bV false)], [], 0⟩) (by kernel_rfl)) (And.intro rfl rfl))
                      · obtain ⟨x1495, rfl⟩ : ∃ z, z = o1512 := ⟨_, rfl⟩
                        rintro e s ⟨rfl, rfl⟩
                        refine AWp.conv (inv := []) (vk := []) (e0 := []) (t := ⟨[(4, bV x1495)], [], 0⟩) (by kernel_rfl) ?_
                        refine AWp.ret ?_
                        obtain rfl := Option.some.inj H
                        exact Exists.intro _ (And.intro (fun _ _ h => h) (And.intro (.inl rfl) (And.intro rfl (And.intro (by kernel_rfl) (by kernel_rfl)))))
end Go.Proofs.Ytjfhobijgkccdaa.PvGA3
