import Derived.Test.YtjfhobijgkccdaaProg
import Derived.Test.YtjfhobijgkccdaaPxHistCells06
set_option linter.unusedVariables false
set_option linter.unnecessarySimpa false
set_option linter.unusedSimpArgs false
set_option maxRecDepth 10000
namespace Go.Proofs.Ytjfhobijgkccdaa.PvGA3
open Go Go.Pv
def f_hist_Check.l0 (a0 : THist) (x944 : Int) : Option (Int ⊕ Unit) := if (decide (x944 < (2 : Int))) = true then ((((chk (0 ≤ x944 ∧ x944 < (2 : Int))) >>= fun _ => if (x944 == (0 : Int)) = true then (some a0.f6) else (some a0.f7)) : Option (List TBucket)) >>= fun x950 => (f_hist_buckets.f a0 x950) >>= fun t953 => if (t953 != (0 : Int)) = true then (some (.inl t953)) else (f_hist_Check.l0 a0 (IntKind.i64.wrap (x944 + (1 : Int))))) else (some (.inr ()))
partial_fixpoint
def f_hist_Check.f (a0 : THist) : Option (Int) := ((if (a0.f0 != (0 : Int)) = true then (some (a0.f0 != (1 : Int))) else (some false)) : Option (Bool)) >>= fun x820 => if x820 = true then (some 25) else ((f_bound_Right.f a0.f1) >>= fun t829 => if (!t829) = true then (some 20) else (((if (a0.f2 != (-524288)) = true then (if (decide (a0.f2 ≤ (-262144))) = true then (some true) else (some (decide (a0.f2 > (262144 : Int))))) else (some false)) : Option (Bool)) >>= fun x836 => if x836 = true then (some 31) else ((f_hist_Check.l0 a0 0) >>= fun oo => match oo with | .inl rr => (some rr) | .inr _ => ((f_hist_total.f [a0.f6, a0.f7, [(⟨0, a0.f3⟩ : TBucket)]]) >>= fun t958 => if (t958.2 != (0 : Int)) = true then (some t958.2) else (if (t958.1 != a0.f4) = true then (some 21) else (some 0))))))
theorem f_hist_Check.ok (a0 : THist) (r : Int) (H : f_hist_Check.f a0 = some r) : Pv.Fn Try.prog 19 [.agg (aHist a0)] [] 0 (fun x o => x = iV .i64 r ∧ o = []) := by
  unfold f_hist_Check.f at H
  refine Fn.bodyK [] Try.func19 rfl rfl (fun Γ hP hn => ?_)
  have hm : Try.prog.follows .mixedOrders = true := by kernel_rfl
  replace hn : Γ.n = 73 := hn
  refine AWp.seq ?_
  refine reg hP hn hm [(0, .k 0)] [1] [0] ⟨[(1, .ptr 0 0 0)], [(0, some (.box 30 (aHist a0)))], 0⟩ [] (by kernel_rfl) trivial ?_
  refine AWp.seq ?_
  refine AWp.block ?_
  refine AWp.seq ?_
  obtain ⟨o962, e963, H⟩ := bind_of H
  refine AWp.mono (Q := fun e s => (match (generalizing := false) o962 with | x820 => e = .normal ∧ s = ⟨[(1, .ptr 1 0 0), (8, bV x820)], [(1, some (.box 30 (aHist a0)))], 0⟩)) (AWp.cv ?_) ?_
  · replace H := e963; clear e963
    rcases Bool.eq_false_or_eq_true (a0.f0 != (0 : Int)) with c819 | c819
    · replace H := (ifT c819).symm.trans H
      refine reg hP hn hm [(3, .b true)] [1, 8] [0] ⟨[(1, .ptr 0 0 0), (8, bV (a0.f0 != (1 : Int)))], [(0, some (.box 30 (aHist a0)))], 0⟩ [(a0.f0 != (0 : Int)) = true] (by kernel_rfl) ⟨by exact c819, trivial⟩ ?_
      obtain rfl := Option.some.inj H
      exact Exists.intro _ (And.intro (fun _ _ h => h.conv (inv := [(0, 1)]) (vk := []) (e0 := []) (t := ⟨[(1, .ptr 1 0 0), (8, bV (a0.f0 != (1 : Int)))], [(1, some (.box 30 (aHist a0)))], 0⟩) (by kernel_rfl)) (And.intro rfl rfl))
    · replace H := (ifF c819).symm.trans H
      refine reg hP hn hm [(3, .b false)] [1, 8] [0] ⟨[(1, .ptr 0 0 0), (8, bV false)], [(0, some (.box 30 (aHist a0)))], 0⟩ [(a0.f0 != (0 : Int)) = false] (by kernel_rfl) ⟨by exact c819, trivial⟩ ?_
      obtain rfl := Option.some.inj H
      exact Exists.intro _ (And.intro (fun _ _ h => h.conv (inv := [(0, 1)]) (vk := []) (e0 := []) (t := ⟨[(1, .ptr 1 0 0), (8, bV false)], [(1, some (.box 30 (aHist a0)))], 0⟩) (by kernel_rfl)) (And.intro rfl rfl))
  · obtain ⟨x820, rfl⟩ : ∃ z, z = o962 := ⟨_, rfl⟩
    rintro e s ⟨rfl, rfl⟩
    refine AWp.cond x820 rfl (fun c821 => ?_) (fun c821 => ?_)
    · replace H := (ifT c821).symm.trans H
      refine AWp.seq ?_
      refine reg hP hn hm [] [2] [] ⟨[(2, iV .i64 25)], [], 0⟩ [] (by kernel_rfl) trivial ?_
      refine AWp.conv (inv := []) (vk := []) (e0 := []) (t := ⟨[(2, iV .i64 25)], [], 0⟩) (by kernel_rfl) ?_
      refine AWp.ret ?_
      obtain rfl := Option.some.inj H
      exact Exists.intro _ (And.intro (fun _ _ h => h) (And.intro (.inl rfl) (And.intro rfl (And.intro (by kernel_rfl) (by kernel_rfl)))))
    · replace H := (ifF c821).symm.trans H
      refine AWp.seq ?_
      obtain ⟨t829, e830, H⟩ := bind_of H
      refine reg hP hn hm [(2, .call [] [] [] [] 0 (bV t829) [])] [1, 17] [1] ⟨[(1, .ptr 1 0 0), (17, bV (!t829))], [(1, some (.box 30 (aHist a0)))], 0⟩ [Enters Try.prog 48, Pv.Fn Try.prog 48 [iV .i64 a0.f1] [] 0 (fun r o => r = bV t829 ∧ o = [])] (by kernel_rfl) ⟨by exact Try.call48, by exact f_bound_Right.ok a0.f1 t829 e830, trivial⟩ ?_
      refine AWp.cond (!t829) rfl (fun c831 => ?_) (fun c831 => ?_)
      · replace H := (ifT c831).symm.trans H
        refine AWp.seq ?_
        refine reg hP hn hm [] [2] [] ⟨[(2, iV .i64 20)], [], 0⟩ [] (by kernel_rfl) trivial ?_
        refine AWp.conv (inv := []) (vk := []) (e0 := []) (t := ⟨[(2, iV .i64 20)], [], 0⟩) (by kernel_rfl) ?_
        refine AWp.ret ?_
        obtain rfl := Option.some.inj H
        exact Exists.intro _ (And.intro (fun _ _ h => h) (And.intro (.inl rfl) (And.intro rfl (And.intro (by kernel_rfl) (by kernel_rfl)))))
      · replace H := (ifF c831).symm.trans H
        refine AWp.seq ?_
        obtain ⟨o964, e965, H⟩ := bind_of H
        refine AWp.mono (Q := fun e s => (match (generalizing := false) o964 with | x836 => e = .normal ∧ s = ⟨[(1, .ptr 2 0 0), (22, bV x836)], [(2, some (.box 30 (aHist a0)))], 0⟩)) (AWp.cv ?_) ?_
        · replace H := e965; clear e965
          rcases Bool.eq_false_or_eq_true (a0.f2 != (-524288)) with c834 | c834
          · replace H := (ifT c834).symm.trans H
            rcases Bool.eq_false_or_eq_true (decide (a0.f2 ≤ (-262144))) with c835 | c835
            · replace H := (ifT c835).symm.trans H
              refine reg hP hn hm [(3, .b true), (7, .b true)] [1, 22] [1] ⟨[(1, .ptr 1 0 0), (22, bV true)], [(1, some (.box 30 (aHist a0)))], 0⟩ [(a0.f2 != (-524288)) = true, (decide (a0.f2 ≤ (-262144))) = true] (by kernel_rfl) ⟨by exact c834, by exact c835, trivial⟩ ?_
              obtain rfl := Option.some.inj H
              exact Exists.intro _ (And.intro (fun _ _ h => h.conv (inv := [(1, 2)]) (vk := []) (e0 := []) (t := ⟨[(1, .ptr 2 0 0), (22, bV true)], [(2, some (.box 30 (aHist a0)))], 0⟩) (by kernel_rfl)) (And.intro rfl rfl))
            · replace H := (ifF c835).symm.trans H
              refine reg hP hn hm [(3, .b true), (7, .b false)] [1, 22] [1] ⟨[(1, .ptr 1 0 0), (22, bV (decide (a0.f2 > (262144 : Int))))], [(1, some (.box 30 (aHist a0)))], 0⟩ [(a0.f2 != (-524288)) = true, (decide (a0.f2 ≤ (-262144))) = false] (by kernel_rfl) ⟨by exact c834, by exact c835, trivial⟩ ?_
              obtain rfl := Option.some.inj H
              exact Exists.intro _ (And.intro (fun _ _ h => h.conv (inv := [(1, 2)]) (vk := []) (e0 := []) (t := ⟨[(1, .ptr 2 0 0), (22, bV (decide (a0.f2 > (262144 : Int))))], [(2, some (.box 30 (aHist a0)))], 0⟩) (by kernel_rfl)) (And.intro rfl rfl))
          · replace H := (ifF c834).symm.trans H
            refine reg hP hn hm [(3, .b false)] [1, 22] [1] ⟨[(1, .ptr 1 0 0), (22, bV false)], [(1, some (.box 30 (aHist a0)))], 0⟩ [(a0.f2 != (-524288)) = false] (by kernel_rfl) ⟨by exact c834, trivial⟩ ?_
            obtain rfl := Option.some.inj H
            exact Exists.intro _ (And.intro (fun _ _ h => h.conv (inv := [(1, 2)]) (vk := []) (e0 := []) (t := ⟨[(1, .ptr 2 0 0), (22, bV false)], [(2, some (.box 30 (aHist a0)))], 0⟩) (by kernel_rfl)) (And.intro rfl rfl))
        · obtain ⟨x836, rfl⟩ : ∃ z, z = o964 := ⟨_, rfl⟩
          rintro e s ⟨rfl, rfl⟩
          refine AWp.cond x836 rfl (fun c837 => ?_) (fun c837 => ?_)
          · replace H := (ifT c837).symm.trans H
            refine AWp.seq ?_
            refine reg hP hn hm [] [2] [] ⟨[(2, iV .i64 31)], [], 0⟩ [] (by kernel_rfl) trivial ?_
            refine AWp.conv (inv := []) (vk := []) (e0 := []) (t := ⟨[(2, iV .i64 31)], [], 0⟩) (by kernel_rfl) ?_
            refine AWp.ret ?_
            obtain rfl := Option.some.inj H
            exact Exists.intro _ (And.intro (fun _ _ h => h) (And.intro (.inl rfl) (And.intro rfl (And.intro (by kernel_rfl) (by kernel_rfl)))))
          · replace H := (ifF c837).symm.trans H
            refine AWp.skip ?_
            refine AWp.seq ?_
            refine AWp.seq ?_
            refine reg hP hn hm [] [1, 40, 41] [2] ⟨[(1, .ptr 2 0 0), (40, .agg [.im (.row (a0.f6.map eBucket)), .im (.row (a0.f7.map eBucket))]), (41, iV .i64 0)], [(2, some (.box 30 (aHist a0)))], 0⟩ [] (by kernel_rfl) trivial ?_
            refine AWp.block ?_
            obtain ⟨o966, e967, H⟩ := bind_of H
            refine AWp.loop (LWp.conv (inv := [(2, 3)]) (vk := []) (e0 := []) (t := ⟨[(1, .ptr 3 0 0), (40, .agg [.im (.row (a0.f6.map eBucket)), .im (.row (a0.f7.map eBucket))]), (41, iV .i64 0)], [(3, some (.box 30 (aHist a0)))], 0⟩) (by kernel_rfl) ?_)
            refine LWp.mono (Q := fun e s => (match (generalizing := false) o966 with | .inl rr => e = .ret ∧ s.floor = 0 ∧ resOf Try.prog Try.f19 s = some (iV .i64 rr) ∧ ([] : List (Nat × Option MObj)) = [] | .inr _ => e = .exit 1 ∧ s = ⟨[(1, .ptr 5 0 0)], [(5, some (.box 30 (aHist a0)))], 0⟩)) (LWp.cv (withBody (fun body hbody => ?_))) ?_
            · refine f_hist_Check.l0.partial_correctness a0 (motive := fun x944 o966 => LWp Γ body (fun e s => ∃ t, Cv Γ s t ∧ (match (generalizing := false) o966 with | .inl rr => e = .ret ∧ t.floor = 0 ∧ resOf Try.prog Try.f19 t = some (iV .i64 rr) ∧ ([] : List (Nat × Option MObj)) = [] | .inr _ => e = .exit 1 ∧ t = ⟨[(1, .ptr 5 0 0)], [(5, some (.box 30 (aHist a0)))], 0⟩)) ⟨[(1, .ptr 3 0 0), (40, .agg [.im (.row (a0.f6.map eBucket)), .im (.row (a0.f7.map eBucket))]), (41, iV .i64 x944)], [(3, some (.box 30 (aHist a0)))], 0⟩) ?_ _ _ e967
              clear H e967 o966; intro self ih x944 o966 H
              subst hbody
              refine LWp.round ?_
              refine AWp.seq ?_
              refine reg hP hn hm [] [1, 40, 41, 42] [3] ⟨[(1, .ptr 3 0 0), (40, .agg [.im (.row (a0.f6.map eBucket)), .im (.row (a0.f7.map eBucket))]), (41, iV .i64 x944), (42, bV (decide (x944 < (2 : Int))))], [(3, some (.box 30 (aHist a0)))], 0⟩ [] (by kernel_rfl) trivial ?_
              refine AWp.seq ?_
              refine AWp.cond (decide (x944 < (2 : Int))) rfl (fun c945 => ?_) (fun c945 => ?_)
              · replace H := (ifT c945).symm.trans H
                refine AWp.skip ?_
                refine AWp.seq ?_
                refine AWp.block ?_
                refine AWp.seq ?_
                obtain ⟨o968, e969, H⟩ := bind_of H
                refine AWp.mono (Q := fun e s => (match (generalizing := false) o968 with | x950 => e = .normal ∧ s = ⟨[(1, .ptr 4 0 0), (4, .im (.row (x950.map eBucket))), (40, .agg [.im (.row (a0.f6.map eBucket)), .im (.row (a0.f7.map eBucket))]), (41, iV .i64 x944)], [(4, some (.box 30 (aHist a0)))], 0⟩)) (AWp.cv ?_) ?_
                · replace H := e969; clear e969
                  obtain ⟨c948, H⟩ := chk_of H
                  rcases Bool.eq_false_or_eq_true (x944 == (0 : Int)) with c949 | c949
                  · replace H := (ifT c949).symm.trans H
                    refine reg hP hn hm [(0, .more (xIdx 0))] [1, 4, 40, 41] [3] ⟨[(1, .ptr 3 0 0), (4, .im (.row (a0.f6.map eBucket))), (40, .agg [.im (.row (a0.f6.map eBucket)), .im (.row (a0.f7.map eBucket))]), (41, iV .i64 x944)], [(3, some (.box 30 (aHist a0)))], 0⟩ [x944 = ((0 : Nat) : Int)] (by kernel_rfl) ⟨by exact (by simpa using c949), trivial⟩ ?_
                    obtain rfl := Option.some.inj H
                    exact Exists.intro _ (And.intro (fun _ _ h => h.conv (inv := [(3, 4)]) (vk := []) (e0 := []) (t := ⟨[(1, .ptr 4 0 0), (4, .im (.row (a0.f6.map eBucket))), (40, .agg [.im (.row (a0.f6.map eBucket)), .im (.row (a0.f7.map eBucket))]), (41, iV .i64 x944)], [(4, some (.box 30 (aHist a0)))], 0⟩) (by kernel_rfl)) (And.intro rfl rfl))
                  · replace H := (ifF c949).symm.trans H
                    refine reg hP hn hm [(0, .more (xIdx 1))] [1, 4, 40, 41] [3] ⟨[(1, .ptr 3 0 0), (4, .im (.row (a0.f7.map eBucket))), (40, .agg [.im (.row (a0.f6.map eBucket)), .im (.row (a0.f7.map eBucket))]), (41, iV .i64 x944)], [(3, some (.box 30 (aHist a0)))], 0⟩ [x944 = ((1 : Nat) : Int)] (by kernel_rfl) ⟨by have := c948; simp only [beq_eq_false_iff_ne] at *; omega, trivial⟩ ?_
                    obtain rfl := Option.some.inj H
                    exact Exists.intro _ (And.intro (fun _ _ h => h.conv (inv := [(3, 4)]) (vk := []) (e0 := []) (t := ⟨[(1, .ptr 4 0 0), (4, .im (.row (a0.f7.map eBucket))), (40, .agg [.im (.row (a0.f6.map eBucket)), .im (.row (a0.f7.map eBucket))]), (41, iV .i64 x944)], [(4, some (.box 30 (aHist a0)))], 0⟩) (by kernel_rfl)) (And.intro rfl rfl))
                · obtain ⟨x950, rfl⟩ : ∃ z, z = o968 := ⟨_, rfl⟩
                  rintro e s ⟨rfl, rfl⟩
                  refine AWp.seq ?_
                  obtain ⟨t953, e954, H⟩ := bind_of H
                  refine reg hP hn hm [(2, .call [] [] [] [] 0 (iV .i64 t953) [])] [1, 5, 40, 41] [4] ⟨[(1, .ptr 4 0 0), (5, iV .i64 t953), (40, .agg [.im (.row (a0.f6.map eBucket)), .im (.row (a0.f7.map eBucket))]), (41, iV .i64 x944)], [(4, some (.box 30 (aHist a0)))], 0⟩ [Enters Try.prog 49, Pv.Fn Try.prog 49 [.agg (aHist a0), .im (.row (x950.map eBucket))] [] 0 (fun r o => r = iV .i64 t953 ∧ o = [])] (by kernel_rfl) ⟨by exact Try.call49, by exact f_hist_buckets.ok a0 x950 t953 e954, trivial⟩ ?_
                  refine AWp.seq ?_
                  refine reg hP hn hm [] [1, 5, 40, 41, 48] [4] ⟨[(1, .ptr 4 0 0), (5, iV .i64 t953), (40, .agg [.im (.row (a0.f6.map eBucket)), .im (.row (a0.f7.map eBucket))]), (41, iV .i64 x944), (48, bV (t953 != (0 : Int)))], [(4, some (.box 30 (aHist a0)))], 0⟩ [] (by kernel_rfl) trivial ?_
                  refine AWp.cond (t953 != (0 : Int)) rfl (fun c955 => ?_) (fun c955 => ?_)
                  · replace H := (ifT c955).symm.trans H
                    refine AWp.seq ?_
                    refine reg hP hn hm [] [2] [] ⟨[(2, iV .i64 t953)], [], 0⟩ [] (by kernel_rfl) trivial ?_
                    refine AWp.conv (inv := []) (vk := []) (e0 := []) (t := ⟨[(2, iV .i64 t953)], [], 0⟩) (by kernel_rfl) ?_
                    refine AWp.ret ?_
                    obtain rfl := Option.some.inj H
                    exact Exists.intro _ (And.intro (fun _ _ h => h) (And.intro rfl (And.intro rfl (And.intro (by kernel_rfl) (by kernel_rfl)))))
                  · replace H := (ifF c955).symm.trans H
                    refine AWp.skip ?_
                    refine reg hP hn hm [] [1, 40, 41] [4] ⟨[(1, .ptr 4 0 0), (40, .agg [.im (.row (a0.f6.map eBucket)), .im (.row (a0.f7.map eBucket))]), (41, iV .i64 (IntKind.i64.wrap (x944 + (1 : Int))))], [(4, some (.box 30 (aHist a0)))], 0⟩ [] (by kernel_rfl) trivial ?_
                    exact LWp.conv (inv := [(4, 3)]) (vk := []) (e0 := []) (t := ⟨[(1, .ptr 3 0 0), (40, .agg [.im (.row (a0.f6.map eBucket)), .im (.row (a0.f7.map eBucket))]), (41, iV .i64 (IntKind.i64.wrap (x944 + (1 : Int))))], [(3, some (.box 30 (aHist a0)))], 0⟩) (by kernel_rfl) (ih _ _ H)
              · replace H := (ifF c945).symm.trans H
                refine AWp.exit ?_
                obtain rfl := Option.some.inj H
                exact Exists.intro _ (And.intro (fun _ _ h => h.conv (inv := [(3, 5)]) (vk := []) (e0 := []) (t := ⟨[(1, .ptr 5 0 0)], [(5, some (.box 30 (aHist a0)))], 0⟩) (by kernel_rfl)) (And.intro rfl rfl))
            · rcases o966 with rr | _
              · skip
                rintro e s ⟨rfl, hfl, hres⟩
                obtain rfl := Option.some.inj H
                exact Exists.intro _ (And.intro (fun _ _ h => h) (And.intro (.inl rfl) (And.intro hfl hres)))
              · skip
                rintro e s ⟨rfl, rfl⟩
                refine AWp.seq ?_
                obtain ⟨t958, e959, H⟩ := bind_of H
                refine reg hP hn hm [(7, .more (xFz (.app 6 ([(⟨0, a0.f3⟩ : TBucket)].map eBucket)))), (8, .app 7 ([a0.f6, a0.f7, [(⟨0, a0.f3⟩ : TBucket)]].map (encRow eBucket))), (9, .call [] [] [7] [] 0 (.tup [iV .u64 t958.1, iV .i64 t958.2]) [])] [1, 6, 7] [5] ⟨[(1, .ptr 5 0 0), (6, iV .u64 t958.1), (7, iV .i64 t958.2)], [(5, some (.box 30 (aHist a0)))], 0⟩ [[(⟨0, a0.f3⟩ : TBucket)].map eBucket = [[iI .i64 0, iI .u64 a0.f3]], [a0.f6, a0.f7, [(⟨0, a0.f3⟩ : TBucket)]].map (encRow eBucket) = [[.row (a0.f6.map eBucket)], [.row (a0.f7.map eBucket)], [.row ([(⟨0, a0.f3⟩ : TBucket)].map eBucket)]], Enters Try.prog 46, Pv.Fn Try.prog 46 [.im (.row ([a0.f6, a0.f7, [(⟨0, a0.f3⟩ : TBucket)]].map (encRow eBucket)))] [] 0 (fun r o => r = .tup [iV .u64 t958.1, iV .i64 t958.2] ∧ o = [])] (by kernel_rfl) ⟨by exact rfl, by exact rfl, by exact Try.call46, by exact f_hist_total.ok [a0.f6, a0.f7, [(⟨0, a0.f3⟩ : TBucket)]] t958 e959, trivial⟩ ?_
                refine AWp.seq ?_
                refine AWp.block ?_
                refine AWp.seq ?_
                refine reg hP hn hm [] [1, 6, 7, 64] [5] ⟨[(1, .ptr 5 0 0), (6, iV .u64 t958.1), (7, iV .i64 t958.2), (64, bV (t958.2 != (0 : Int)))], [(5, some (.box 30 (aHist a0)))], 0⟩ [] (by kernel_rfl) trivial ?_
                refine AWp.cond (t958.2 != (0 : Int)) rfl (fun c960 => ?_) (fun c960 => ?_)
                · replace H := (ifT c960).symm.trans H
                  refine AWp.seq ?_
                  refine reg hP hn hm [] [2] [] ⟨[(2, iV .i64 t958.2)], [], 0⟩ [] (by kernel_rfl) trivial ?_
                  refine AWp.conv (inv := []) (vk := []) (e0 := []) (t := ⟨[(2, iV .i64 t958.2)], [], 0⟩) (by kernel_rfl) ?_
                  refine AWp.ret ?_
                  obtain rfl := Option.some.inj H
                  exact Exists.intro _ (And.intro (fun _ _ h => h) (And.intro (.inl rfl) (And.intro rfl (And.intro (by kernel_rfl) (by kernel_rfl)))))
                · replace H := (ifF c960).symm.trans H
                  refine AWp.seq ?_
                  refine reg hP hn hm [] [68] [] ⟨[(68, bV (t958.1 != a0.f4))], [], 0⟩ [] (by kernel_rfl) trivial ?_
                  refine AWp.cond (t958.1 != a0.f4) rfl (fun c961 => ?_) (fun c961 => ?_)
                  · replace H := (ifT c961).symm.trans H
                    refine AWp.seq ?_
                    refine reg hP hn hm [] [2] [] ⟨[(2, iV .i64 21)], [], 0⟩ [] (by kernel_rfl) trivial ?_
                    refine AWp.conv (inv := []) (vk := []) (e0 := []) (t := ⟨[(2, iV .i64 21)], [], 0⟩) (by kernel_rfl) ?_
                    refine AWp.ret ?_
                    obtain rfl := Option.some.inj H
                    exact Exists.intro _ (And.intro (fun _ _ h => h) (And.intro (.inl rfl) (And.intro rfl (And.intro (by kernel_rfl) (by kernel_rfl)))))
                  · replace H := (ifF c961).symm.trans H
                    refine AWp.skip ?_
                    refine AWp.seq ?_
                    refine reg hP hn hm [] [2] [] ⟨[(2, iV .i64 0)], [], 0⟩ [] (by kernel_rfl) trivial ?_
                    refine AWp.conv (inv := []) (vk := []) (e0 := []) (t := ⟨[(2, iV .i64 0)], [], 0⟩) (by kernel_rfl) ?_
                    refine AWp.ret ?_
                    obtain rfl := Option.some.inj H
                    exact Exists.intro _ (And.intro (fun _ _ h => h) (And.intro (.inl rfl) (And.intro rfl (And.intro (by kernel_rfl) (by kernel_rfl)))))
def f_hist_Make.f (a0 : THist) (a1 : List TBucket) (a2 : List TBucket) : Option (THist × Int) := (f_hist_tidy.f a1) >>= fun t729 => (f_hist_tidy.f a2) >>= fun t733 => if ((if t733.2 > t729.2 then t733.2 else t729.2) != (0 : Int)) = true then (some ((⟨0, 0, 0, 0, 0, 0, [], []⟩ : THist), (if t733.2 > t729.2 then t733.2 else t729.2))) else ((f_hist_total.f [t729.1, t733.1, [(⟨0, a0.f3⟩ : TBucket)]]) >>= fun t815 => if (t815.2 != (0 : Int)) = true then (some ((⟨0, 0, 0, 0, 0, 0, [], []⟩ : THist), t815.2)) else ((f_hist_Check.f (⟨a0.f0, a0.f1, a0.f2, a0.f3, t815.1, a0.f5, t729.1, t733.1⟩ : THist)) >>= fun t972 => if (t972 != (0 : Int)) = true then (some ((⟨0, 0, 0, 0, 0, 0, [], []⟩ : THist), t972)) else (some ((⟨a0.f0, a0.f1, a0.f2, a0.f3, t815.1, a0.f5, t729.1, t733.1⟩ : THist), 0))))
theorem f_hist_Make.ok (a0 : THist) (a1 : List TBucket) (a2 : List TBucket) (r : THist × Int) (H : f_hist_Make.f a0 a1 a2 = some r) : Pv.Fn Try.prog 17 [.agg (aHist a0), .im (.row (a1.map eBucket)), .im (.row (a2.map eBucket))] [] 0 (fun x o => x = .tup [.agg (aHist (r.1)), iV .i64 r.2] ∧ o = []) := by
  unfold f_hist_Make.f at H
  refine Fn.bodyK [] Try.func17 rfl rfl (fun Γ hP hn => ?_)
  have hm : Try.prog.follows .mixedOrders = true := by kernel_rfl
  replace hn : Γ.n = 55 := hn
  refine AWp.seq ?_
  refine reg hP hn hm [(0, .k 0), (1, .k 1)] [1, 2, 3, 6] [0, 1] ⟨[(1, .im (.row (a1.map eBucket))), (2, .im (.row (a2.map eBucket))), (3, .ptr 0 0 0), (6, .ptr 1 0 0)], [(0, some (.box 30 (aHist a0))), (1, some (.box 30 [iV .i64 0, iV .i64 0, iV .i64 0, iV .u64 0, iV .u64 0, iV .i64 0, .none0, .none0]))], 0⟩ [] (by kernel_rfl) trivial ?_
  refine AWp.seq ?_
  refine reg hP hn hm [] [1, 2, 3, 6] [0, 1] ⟨[(1, .im (.row (a1.map eBucket))), (2, .im (.row (a2.map eBucket))), (3, .ptr 0 0 0), (6, .ptr 1 0 0)], [(0, some (.box 30 (aHist a0))), (1, some (.box 30 [iV .i64 0, iV .i64 0, iV .i64 0, iV .u64 0, iV .u64 0, iV .i64 0, .none0, .none0]))], 0⟩ [] (by kernel_rfl) trivial ?_
  refine AWp.seq ?_
  obtain ⟨t729, e730, H⟩ := bind_of H
  refine reg hP hn hm [(1, .call [] [(0, 2)] [] [2] 0 (.tup [.own 0, iV .i64 t729.2]) [(0, some (.row 2 36 (t729.1.map eBucket)))])] [2, 3, 6, 8] [0, 1, 2] ⟨[(2, .im (.row (a2.map eBucket))), (3, .ptr 0 0 0), (6, .ptr 1 0 0), (8, iV .i64 t729.2)], [(0, some (.box 30 [iV .i64 a0.f0, iV .i64 a0.f1, iV .i64 a0.f2, iV .u64 a0.f3, iV .u64 a0.f4, iV .i64 a0.f5, .own 2, .im (.row (a0.f7.map eBucket))])), (1, some (.box 30 [iV .i64 0, iV .i64 0, iV .i64 0, iV .u64 0, iV .u64 0, iV .i64 0, .none0, .none0])), (2, some (.row 2 36 (t729.1.map eBucket)))], 0⟩ [Enters Try.prog 45, Pv.Fn Try.prog 45 [.im (.row (a1.map eBucket))] [] 0 (fun r o => r = .tup [.own 0, iV .i64 t729.2] ∧ o = [(0, some (.row 2 36 (t729.1.map eBucket)))])] (by kernel_rfl) ⟨by exact Try.call45, by exact f_hist_tidy.ok a1 t729 e730, trivial⟩ ?_
  refine AWp.seq ?_
  obtain ⟨t733, e734, H⟩ := bind_of H
  refine reg hP hn hm [(1, .call [] [(0, 3)] [] [3] 0 (.tup [.own 0, iV .i64 t733.2]) [(0, some (.row 2 36 (t733.1.map eBucket)))])] [3, 6, 8, 9] [0, 1, 2, 3] ⟨[(3, .ptr 0 0 0), (6, .ptr 1 0 0), (8, iV .i64 t729.2), (9, iV .i64 t733.2)], [(0, some (.box 30 [iV .i64 a0.f0, iV .i64 a0.f1, iV .i64 a0.f2, iV .u64 a0.f3, iV .u64 a0.f4, iV .i64 a0.f5, .own 2, .own 3])), (1, some (.box 30 [iV .i64 0, iV .i64 0, iV .i64 0, iV .u64 0, iV .u64 0, iV .i64 0, .none0, .none0])), (2, some (.row 2 36 (t729.1.map eBucket))), (3, some (.row 2 36 (t733.1.map eBucket)))], 0⟩ [Enters Try.prog 45, Pv.Fn Try.prog 45 [.im (.row (a2.map eBucket))] [] 0 (fun r o => r = .tup [.own 0, iV .i64 t733.2] ∧ o = [(0, some (.row 2 36 (t733.1.map eBucket)))])] (by kernel_rfl) ⟨by exact Try.call45, by exact f_hist_tidy.ok a2 t733 e734, trivial⟩ ?_
  refine AWp.seq ?_
  refine AWp.seq ?_
  refine reg hP hn hm [(2, .more xMax)] [3, 6, 8] [0, 1, 2, 3] ⟨[(3, .ptr 0 0 0), (6, .ptr 1 0 0), (8, iV .i64 (if t733.2 > t729.2 then t733.2 else t729.2))], [(0, some (.box 30 [iV .i64 a0.f0, iV .i64 a0.f1, iV .i64 a0.f2, iV .u64 a0.f3, iV .u64 a0.f4, iV .i64 a0.f5, .own 2, .own 3])), (1, some (.box 30 [iV .i64 0, iV .i64 0, iV .i64 0, iV .u64 0, iV .u64 0, iV .i64 0, .none0, .none0])), (2, some (.row 2 36 (t729.1.map eBucket))), (3, some (.row 2 36 (t733.1.map eBucket)))], 0⟩ [] (by kernel_rfl) trivial ?_
  refine AWp.seq ?_
  refine reg hP hn hm [] [3, 6, 8, 27] [0, 1, 2, 3] ⟨[(3, .ptr 0 0 0), (6, .ptr 1 0 0), (8, iV .i64 (if t733.2 > t729.2 then t733.2 else t729.2)), (27, bV ((if t733.2 > t729.2 then t733.2 else t729.2) != (0 : Int)))], [(0, some (.box 30 [iV .i64 a0.f0, iV .i64 a0.f1, iV .i64 a0.f2, iV .u64 a0.f3, iV .u64 a0.f4, iV .i64 a0.f5, .own 2, .own 3])), (1, some (.box 30 [iV .i64 0, iV .i64 0, iV .i64 0, iV .u64 0, iV .u64 0, iV .i64 0, .none0, .none0])), (2, some (.row 2 36 (t729.1.map eBucket))), (3, some (.row 2 36 (t733.1.map eBucket)))], 0⟩ [] (by kernel_rfl) trivial ?_
  refine AWp.cond ((if t733.2 > t729.2 then t733.2 else t729.2) != (0 : Int)) rfl (fun c735 => ?_) (fun c735 => ?_)
  · replace H := (ifT c735).symm.trans H
    refine AWp.seq ?_
    refine reg hP hn hm [] [6, 7] [1] ⟨[(6, .ptr 1 0 0), (7, iV .i64 (if t733.2 > t729.2 then t733.2 else t729.2))], [(1, some (.box 30 [iV .i64 0, iV .i64 0, iV .i64 0, iV .u64 0, iV .u64 0, iV .i64 0, .none0, .none0]))], 0⟩ [] (by kernel_rfl) trivial ?_
    refine AWp.conv (inv := [(1, 0)]) (vk := []) (e0 := []) (t := ⟨[(6, .ptr 0 0 0), (7, iV .i64 (if t733.2 > t729.2 then t733.2 else t729.2))], [(0, some (.box 30 (aHist ((⟨0, 0, 0, 0, 0, 0, [], []⟩ : THist)))))], 0⟩) (by kernel_rfl) ?_
    refine AWp.ret ?_
    obtain rfl := Option.some.inj H
    exact Exists.intro _ (And.intro (fun _ _ h => h) (And.intro (.inl rfl) (And.intro rfl (And.intro (by kernel_rfl) (by kernel_rfl)))))
  · replace H := (ifF c735).symm.trans H
    refine AWp.skip ?_
    refine AWp.seq ?_
    refine AWp.seq ?_
    refine AWp.conv (inv := [(0, 0), (1, 1)]) (vk := [2, 3]) (e0 := []) (t := ⟨[(3, .ptr 0 0 0), (6, .ptr 1 0 0), (8, iV .i64 (if t733.2 > t729.2 then t733.2 else t729.2)), (27, bV ((if t733.2 > t729.2 then t733.2 else t729.2) != (0 : Int)))], [(0, some (.box 30 (aHist ⟨a0.f0, a0.f1, a0.f2, a0.f3, a0.f4, a0.f5, t729.1, t733.1⟩))), (1, some (.box 30 [iV .i64 0, iV .i64 0, iV .i64 0, iV .u64 0, iV .u64 0, iV .i64 0, .none0, .none0]))], 0⟩) (by kernel_rfl) ?_
    obtain ⟨t815, e816, H⟩ := bind_of H
    refine reg hP hn hm [(7, .more (xFz (.app 4 ([(⟨0, a0.f3⟩ : TBucket)].map eBucket)))), (8, .app 5 ([t729.1, t733.1, [(⟨0, a0.f3⟩ : TBucket)]].map (encRow eBucket))), (9, .call [] [] [5] [] 0 (.tup [iV .u64 t815.1, iV .i64 t815.2]) [])] [3, 6, 8] [0, 1] ⟨[(3, .ptr 0 0 0), (6, .ptr 1 0 0), (8, iV .i64 t815.2)], [(0, some (.box 30 (aHist ⟨a0.f0, a0.f1, a0.f2, a0.f3, t815.1, a0.f5, t729.1, t733.1⟩))), (1, some (.box 30 [iV .i64 0, iV .i64 0, iV .i64 0, iV .u64 0, iV .u64 0, iV .i64 0, .none0, .none0]))], 0⟩ [[(⟨0, a0.f3⟩ : TBucket)].map eBucket = [[iI .i64 0, iI .u64 a0.f3]], [t729.1, t733.1, [(⟨0, a0.f3⟩ : TBucket)]].map (encRow eBucket) = [[.row (t729.1.map eBucket)], [.row (t733.1.map eBucket)], [.row ([(⟨0, a0.f3⟩ : TBucket)].map eBucket)]], Enters Try.prog 46, Pv.Fn Try.prog 46 [.im (.row ([t729.1, t733.1, [(⟨0, a0.f3⟩ : TBucket)]].map (encRow eBucket)))] [] 0 (fun r o => r = .tup [iV .u64 t815.1, iV .i64 t815.2] ∧ o = [])] (by kernel_rfl) ⟨by exact rfl, by exact rfl, by exact Try.call46, by exact f_hist_total.ok [t729.1, t733.1, [(⟨0, a0.f3⟩ : TBucket)]] t815 e816, trivial⟩ ?_
    refine AWp.seq ?_
    refine reg hP hn hm [] [3, 6, 8, 45] [0, 1] ⟨[(3, .ptr 0 0 0), (6, .ptr 1 0 0), (8, iV .i64 t815.2), (45, bV (t815.2 != (0 : Int)))], [(0, some (.box 30 (aHist ⟨a0.f0, a0.f1, a0.f2, a0.f3, t815.1, a0.f5, t729.1, t733.1⟩))), (1, some (.box 30 [iV .i64 0, iV .i64 0, iV .i64 0, iV .u64 0, iV .u64 0, iV .i64 0, .none0, .none0]))], 0⟩ [] (by kernel_rfl) trivial ?_
    refine AWp.cond (t815.2 != (0 : Int)) rfl (fun c817 => ?_) (fun c817 => ?_)
    · replace H := (ifT c817).symm.trans H
      refine AWp.seq ?_
      refine reg hP hn hm [] [6, 7] [1] ⟨[(6, .ptr 1 0 0), (7, iV .i64 t815.2)], [(1, some (.box 30 [iV .i64 0, iV .i64 0, iV .i64 0, iV .u64 0, iV .u64 0, iV .i64 0, .none0, .none0]))], 0⟩ [] (by kernel_rfl) trivial ?_
      refine AWp.conv (inv := [(1, 0)]) (vk := []) (e0 := []) (t := ⟨[(6, .ptr 0 0 0), (7, iV .i64 t815.2)], [(0, some (.box 30 (aHist ((⟨0, 0, 0, 0, 0, 0, [], []⟩ : THist)))))], 0⟩) (by kernel_rfl) ?_
      refine AWp.ret ?_
      obtain rfl := Option.some.inj H
      exact Exists.intro _ (And.intro (fun _ _ h => h) (And.intro (.inl rfl) (And.intro rfl (And.intro (by kernel_rfl) (by kernel_rfl)))))
    · replace H := (ifF c817).symm.trans H
      refine AWp.skip ?_
      refine AWp.seq ?_
      refine AWp.seq ?_
      obtain ⟨t972, e973, H⟩ := bind_of H
      refine reg hP hn hm [(1, .call [] [] [] [] 0 (iV .i64 t972) [])] [3, 6, 10] [0, 1] ⟨[(3, .ptr 0 0 0), (6, .ptr 1 0 0), (10, iV .i64 t972)], [(0, some (.box 30 (aHist ⟨a0.f0, a0.f1, a0.f2, a0.f3, t815.1, a0.f5, t729.1, t733.1⟩))), (1, some (.box 30 [iV .i64 0, iV .i64 0, iV .i64 0, iV .u64 0, iV .u64 0, iV .i64 0, .none0, .none0]))], 0⟩ [Enters Try.prog 19, Pv.Fn Try.prog 19 [.agg (aHist ⟨a0.f0, a0.f1, a0.f2, a0.f3, t815.1, a0.f5, t729.1, t733.1⟩)] [] 0 (fun r o => r = iV .i64 t972 ∧ o = [])] (by kernel_rfl) ⟨by exact Try.call19, by exact f_hist_Check.ok (⟨a0.f0, a0.f1, a0.f2, a0.f3, t815.1, a0.f5, t729.1, t733.1⟩ : THist) t972 e973, trivial⟩ ?_
      refine AWp.seq ?_
      refine reg hP hn hm [] [3, 6, 10, 51] [0, 1] ⟨[(3, .ptr 0 0 0), (6, .ptr 1 0 0), (10, iV .i64 t972), (51, bV (t972 != (0 : Int)))], [(0, some (.box 30 (aHist ⟨a0.f0, a0.f1, a0.f2, a0.f3, t815.1, a0.f5, t729.1, t733.1⟩))), (1, some (.box 30 [iV .i64 0, iV .i64 0, iV .i64 0, iV .u64 0, iV .u64 0, iV .i64 0, .none0, .none0]))], 0⟩ [] (by kernel_rfl) trivial ?_
      refine AWp.cond (t972 != (0 : Int)) rfl (fun c974 => ?_) (fun c974 => ?_)
      · replace H := (ifT c974).symm.trans H
        refine AWp.seq ?_
        refine reg hP hn hm [] [6, 7] [1] ⟨[(6, .ptr 1 0 0), (7, iV .i64 t972)], [(1, some (.box 30 [iV .i64 0, iV .i64 0, iV .i64 0, iV .u64 0, iV .u64 0, iV .i64 0, .none0, .none0]))], 0⟩ [] (by kernel_rfl) trivial ?_
        refine AWp.conv (inv := [(1, 0)]) (vk := []) (e0 := []) (t := ⟨[(6, .ptr 0 0 0), (7, iV .i64 t972)], [(0, some (.box 30 (aHist ((⟨0, 0, 0, 0, 0, 0, [], []⟩ : THist)))))], 0⟩) (by kernel_rfl) ?_
        refine AWp.ret ?_
        obtain rfl := Option.some.inj H
        exact Exists.intro _ (And.intro (fun _ _ h => h) (And.intro (.inl rfl) (And.intro rfl (And.intro (by kernel_rfl) (by kernel_rfl)))))
      · replace H := (ifF c974).symm.trans H
        refine AWp.skip ?_
        refine AWp.seq ?_
        refine reg hP hn hm [] [6, 7] [1] ⟨[(6, .ptr 1 0 0), (7, iV .i64 0)], [(1, some (.box 30 (aHist ⟨a0.f0, a0.f1, a0.f2, a0.f3, t815.1, a0.f5, t729.1, t733.1⟩)))], 0⟩ [] (by kernel_rfl) trivial ?_
        refine AWp.conv (inv := [(1, 0)]) (vk := []) (e0 := []) (t := ⟨[(6, .ptr 0 0 0), (7, iV .i64 0)], [(0, some (.box 30 (aHist ((⟨a0.f0, a0.f1, a0.f2, a0.f3, t815.1, a0.f5, t729.1, t733.1⟩ : THist)))))], 0⟩) (by kernel_rfl) ?_
        refine AWp.ret ?_
        obtain rfl := Option.some.inj H
        exact Exists.intro _ (And.intro (fun _ _ h => h) (And.intro (.inl rfl) (And.intro rfl (And.intro (by kernel_rfl) (by kernel_rfl)))))
def f_pluviallaw05_awake.f  : Option (Bool) := (f_hist_Empty.f 0 0) >>= fun t977 => (f_hist_Make.f (t977) [(⟨3, 2⟩ : TBucket), (⟨1, 1⟩ : TBucket)] ([] : List TBucket)) >>= fun t979 => ((if (t979.2 == (0 : Int)) = true then (if (((t979.1).f4) == (3 : Int)) = true then (if ((((t979.1).f6).length : Int) == (2 : Int)) = true then ((at? ((t979.1).f6) 0) >>= fun b990 => some ((b990.f0 == (1 : Int)) && ((b990.f1 == (1 : Int)) && true))) else (some false)) else (some false)) else (some false)) : Option (Bool)) >>= fun x993 => some x993
theorem f_pluviallaw05_awake.ok  (r : Bool) (H : f_pluviallaw05_awake.f  = some r) : Pv.Fn Try.prog 16 [] [] 0 (fun x o => x = bV r ∧ o = []) := by
  unfold f_pluviallaw05_awake.f at H
  refine Fn.bodyK [] Try.func16 rfl rfl (fun Γ hP hn => ?_)
  have hm : Try.prog.follows .mixedOrders = true := by kernel_rfl
  replace hn : Γ.n = 32 := hn
  refine AWp.seq ?_
  refine reg hP hn hm [] [] [] ⟨[], [], 0⟩ [] (by kernel_rfl) trivial ?_
  refine AWp.seq ?_
  obtain ⟨t977, e978, H⟩ := bind_of H
  obtain ⟨t979, e980, H⟩ := bind_of H
  refine reg hP hn hm [(0, .call [] [] [] [] 0 (.agg (aHist (t977))) []), (3, .app 0 ([(⟨3, 2⟩ : TBucket), (⟨1, 1⟩ : TBucket)].map eBucket)), (4, .call [] [] [0] [] 0 (.tup [.agg (aHist (t979.1)), iV .i64 t979.2]) []), (8, .k 1)] [1, 2] [1] ⟨[(1, .ptr 1 0 0), (2, iV .i64 t979.2)], [(1, some (.box 30 (aHist (t979.1))))], 0⟩ [Enters Try.prog 33, Pv.Fn Try.prog 33 [iV .i64 0, iV .i64 0] [] 0 (fun r o => r = .agg (aHist (t977)) ∧ o = []), [(⟨3, 2⟩ : TBucket), (⟨1, 1⟩ : TBucket)].map eBucket = [[iI .i64 3, iI .u64 2], [iI .i64 1, iI .u64 1]], Enters Try.prog 17, Pv.Fn Try.prog 17 [.agg (aHist (t977)), .im (.row ([(⟨3, 2⟩ : TBucket), (⟨1, 1⟩ : TBucket)].map eBucket)), .im (.row (([] : List TBucket).map eBucket))] [] 0 (fun r o => r = .tup [.agg (aHist (t979.1)), iV .i64 t979.2] ∧ o = [])] (by kernel_rfl) ⟨by exact Try.call33, by exact f_hist_Empty.ok 0 0 t977 e978, by exact rfl, by exact Try.call17, by exact f_hist_Make.ok (t977) [(⟨3, 2⟩ : TBucket), (⟨1, 1⟩ : TBucket)] ([] : List TBucket) t979 e980, trivial⟩ ?_
  refine AWp.seq ?_
  obtain ⟨o994, e995, H⟩ := bind_of H
  refine AWp.mono (Q := fun e s => (match (generalizing := false) o994 with | x993 => e = .normal ∧ s = ⟨[(0, bV x993)], [], 0⟩)) (AWp.cv ?_) ?_
  · replace H := e995; clear e995
    rcases Bool.eq_false_or_eq_true (t979.2 == (0 : Int)) with c987 | c987
    · replace H := (ifT c987).symm.trans H
      rcases Bool.eq_false_or_eq_true (((t979.1).f4) == (3 : Int)) with c988 | c988
      · replace H := (ifT c988).symm.trans H
        rcases Bool.eq_false_or_eq_true ((((t979.1).f6).length : Int) == (2 : Int)) with c989 | c989
        · replace H := (ifT c989).symm.trans H
          obtain ⟨b990, p991, q992, H⟩ := at_of H
          refine reg hP hn hm [(2, .b true), (7, .b true), (10, .any (iV .i64 (((t979.1).f6).length : Int))), (13, .b true), (16, .c (eBucket b990)), (19, .more (xAgg none))] [0] [] ⟨[(0, bV ((b990.f0 == (1 : Int)) && ((b990.f1 == (1 : Int)) && true)))], [], 0⟩ [(t979.2 == (0 : Int)) = true, (((t979.1).f4) == (3 : Int)) = true, ((((t979.1).f6).map eBucket).length : Int) = (((t979.1).f6).length : Int), ((((t979.1).f6).length : Int) == (2 : Int)) = true, 0 ≤ (0 : Int), (((t979.1).f6).map eBucket)[(Int.toNat (0))]? = some (eBucket b990)] (by kernel_rfl) ⟨by exact c987, by exact c988, by rw [len_map], by exact c989, by exact p991, by exact el_map eBucket q992, trivial⟩ ?_
          obtain rfl := Option.some.inj H
          exact Exists.intro _ (And.intro (fun _ _ h => h.conv (inv := []) (vk := []) (e0 := []) (t := ⟨[(0, bV ((b990.f0 == (1 : Int)) && ((b990.f1 == (1 : Int)) && true)))], [], 0⟩) (by kernel_rfl)) (And.intro rfl rfl))
        · replace H := (ifF c989).symm.trans H
          refine reg hP hn hm [(2, .b true), (7, .b true), (10, .any (iV .i64 (((t979.1).f6).length : Int))), (13, .b false)] [0] [] ⟨[(0, bV false)], [], 0⟩ [(t979.2 == (0 : Int)) = true, (((t979.1).f4) == (3 : Int)) = true, ((((t979.1).f6).map eBucket).length : Int) = (((t979.1).f6).length : Int), ((((t979.1).f6).length : Int) == (2 : Int)) = false] (by kernel_rfl) ⟨by exact c987, by exact c988, by rw [len_map], by exact c989, trivial⟩ ?_
          obtain rfl := Option.some.inj H
          exact Exists.intro _ (And.intro (fun _ _ h => h.conv (inv := []) (vk := []) (e0 := []) (t := ⟨[(0, bV false)], [], 0⟩) (by kernel_rfl)) (And.intro rfl rfl))
      · replace H := (ifF c988).symm.trans H
        refine reg hP hn hm [(2, .b true), (7, .b false)] [0] [] ⟨[(0, bV false)], [], 0⟩ [(t979.2 == (0 : Int)) = true, (((t979.1).f4) == (3 : Int)) = false] (by kernel_rfl) ⟨by exact c987, by exact c988, trivial⟩ ?_
        obtain rfl := Option.some.inj H
        exact Exists.intro _ (And.intro (fun _ _ h => h.conv (inv := []) (vk := []) (e0 := []) (t := ⟨[(0, bV false)], [], 0⟩) (by kernel_rfl)) (And.intro rfl rfl))
    · replace H := (ifF c987).symm.trans H
      refine reg hP hn hm [(2, .b false)] [0] [] ⟨[(0, bV false)], [], 0⟩ [(t979.2 == (0 : Int)) = false] (by kernel_rfl) ⟨by exact c987, trivial⟩ ?_
      obtain rfl := Option.some.inj H
      exact Exists.intro _ (And.intro (fun _ _ h => h.conv (inv := []) (vk := []) (e0 := []) (t := ⟨[(0, bV false)], [], 0⟩) (by kernel_rfl)) (And.intro rfl rfl))
  · obtain ⟨x993, rfl⟩ : ∃ z, z = o994 := ⟨_, rfl⟩
    rintro e s ⟨rfl, rfl⟩
    refine AWp.conv (inv := []) (vk := []) (e0 := []) (t := ⟨[(0, bV x993)], [], 0⟩) (by kernel_rfl) ?_
    refine AWp.ret ?_
    obtain rfl := Option.some.inj H
    exact Exists.intro _ (And.intro (fun _ _ h => h) (And.intro (.inl rfl) (And.intro rfl (And.intro (by kernel_rfl) (by kernel_rfl)))))
def f_pluvialref04_Right.f (a0 : Int) : Option (Bool) := ((if (decide (a0 ≥ (-4))) = true then (some (decide (a0 ≤ (8 : Int)))) else (some false)) : Option (Bool)) >>= fun x1169 => some x1169
theorem f_pluvialref04_Right.ok (a0 : Int) (r : Bool) (H : f_pluvialref04_Right.f a0 = some r) : Pv.Fn Try.prog 56 [iV .i64 a0] [] 0 (fun x o => x = bV r ∧ o = []) := by
  unfold f_pluvialref04_Right.f at H
  refine Fn.bodyK [] Try.func56 rfl rfl (fun Γ hP hn => ?_)
  have hm : Try.prog.follows .mixedOrders = true := by kernel_rfl
  replace hn : Γ.n = 9 := hn
  refine AWp.seq ?_
  refine reg hP hn hm [] [0] [] ⟨[(0, iV .i64 a0)], [], 0⟩ [] (by kernel_rfl) trivial ?_
  refine AWp.seq ?_
  obtain ⟨o1170, e1171, H⟩ := bind_of H
  refine AWp.mono (Q := fun e s => (match (generalizing := false) o1170 with | x1169 => e = .normal ∧ s = ⟨[(2, bV x1169)], [], 0⟩)) (AWp.cv ?_) ?_
  · replace H := e1171; clear e1171
    rcases Bool.eq_false_or_eq_true (decide (a0 ≥ (-4))) with c1168 | c1168
    · replace H := (ifT c1168).symm.trans H
      refine reg hP hn hm [(2, .b true)] [2] [] ⟨[(2, bV (decide (a0 ≤ (8 : Int))))], [], 0⟩ [(decide (a0 ≥ (-4))) = true] (by kernel_rfl) ⟨by exact c1168, trivial⟩ ?_
      obtain rfl := Option.some.inj H
      exact Exists.intro _ (And.intro (fun _ _ h => h.conv (inv := []) (vk := []) (e0 := []) (t := ⟨[(2, bV (decide (a0 ≤ (8 : Int))))], [], 0⟩) (by kernel_rfl)) (And.intro rfl rfl))
    · replace H := (ifF c1168).symm.trans H
      refine reg hP hn hm [(2, .b false)] [2] [] ⟨[(2, bV false)], [], 0⟩ [(decide (a0 ≥ (-4))) = false] (by kernel_rfl) ⟨by exact c1168, trivial⟩ ?_
      obtain rfl := Option.some.inj H
      exact Exists.intro _ (And.intro (fun _ _ h => h.conv (inv := []) (vk := []) (e0 := []) (t := ⟨[(2, bV false)], [], 0⟩) (by kernel_rfl)) (And.intro rfl rfl))
  · obtain ⟨x1169, rfl⟩ : ∃ z, z = o1170 := ⟨_, rfl⟩
    rintro e s ⟨rfl, rfl⟩
    refine AWp.conv (inv := []) (vk := []) (e0 := []) (t := ⟨[(2, bV x1169)], [], 0⟩) (by kernel_rfl) ?_
    refine AWp.ret ?_
    obtain rfl := Option.some.inj H
    exact Exists.intro _ (And.intro (fun _ _ h => h) (And.intro (.inl rfl) (And.intro rfl (And.intro (by kernel_rfl) (by kernel_rfl)))))
def f_pluvialref04_step.l0 (x1199 : Int) (x1200 : Int) : Option (Int) := if (decide (x1200 < (8 : Int))) = true then (f_pluvialref04_step.l0  (IntKind.i64.wrap (x1199 * (2 : Int))) (IntKind.i64.wrap (x1200 + (1 : Int)))) else (some x1199)
partial_fixpoint
def f_pluvialref04_step.f (a0 : Int) : Option (Int) := (f_pluvialref04_step.l0  1 a0) >>= fun x1202 => some x1202
theorem f_pluvialref04_step.ok (a0 : Int) (r : Int) (H : f_pluvialref04_step.f a0 = some r) : Pv.Fn Try.prog 85 [iV .i64 a0] [] 0 (fun x o => x = iV .i64 r ∧ o = []) := by
  unfold f_pluvialref04_step.f at H
  refine Fn.bodyK [] Try.func85 rfl rfl (fun Γ hP hn => ?_)
  have hm : Try.prog.follows .mixedOrders = true := by kernel_rfl
  replace hn : Γ.n = 13 := hn
  refine AWp.seq ?_
  refine reg hP hn hm [] [0] [] ⟨[(0, iV .i64 a0)], [], 0⟩ [] (by kernel_rfl) trivial ?_
  refine AWp.seq ?_
  refine reg hP hn hm [] [0, 3] [] ⟨[(0, iV .i64 a0), (3, iV .i64 1)], [], 0⟩ [] (by kernel_rfl) trivial ?_
  refine AWp.seq ?_
  refine AWp.seq ?_
  refine reg hP hn hm [] [3, 4] [] ⟨[(3, iV .i64 1), (4, iV .i64 a0)], [], 0⟩ [] (by kernel_rfl) trivial ?_
  refine AWp.block ?_
  obtain ⟨o1203, e1204, H⟩ := bind_of H
  refine AWp.loop (LWp.conv (inv := []) (vk := []) (e0 := []) (t := ⟨[(3, iV .i64 1), (4, iV .i64 a0)], [], 0⟩) (by kernel_rfl) ?_)
  refine LWp.mono (Q := fun e s => (match (generalizing := false) o1203 with | x1202 => e = .exit 0 ∧ s = ⟨[(3, iV .i64 x1202)], [], 0⟩)) (LWp.cv (withBody (fun body hbody => ?_))) ?_
  · refine f_pluvialref04_step.l0.partial_correctness  (motive := fun x1199 x1200 o1203 => LWp Γ body (fun e s => ∃ t, Cv Γ s t ∧ (match (generalizing := false) o1203 with | x1202 => e = .exit 0 ∧ t = ⟨[(3, iV .i64 x1202)], [], 0⟩)) ⟨[(3, iV .i64 x1199), (4, iV .i64 x1200)], [], 0⟩) ?_ _ _ _ e1204
    clear H e1204 o1203; intro self ih x1199 x1200 o1203 H
    subst hbody
    refine LWp.round ?_
    refine AWp.seq ?_
    refine AWp.seq ?_
    refine reg hP hn hm [] [3, 4, 7] [] ⟨[(3, iV .i64 x1199), (4, iV .i64 x1200), (7, bV (decide (x1200 < (8 : Int))))], [], 0⟩ [] (by kernel_rfl) trivial ?_
    refine AWp.cond (decide (x1200 < (8 : Int))) rfl (fun c1201 => ?_) (fun c1201 => ?_)
    · replace H := (ifT c1201).symm.trans H
      refine AWp.skip ?_
      refine AWp.seq ?_
      refine AWp.block ?_
      refine reg hP hn hm [] [3, 4] [] ⟨[(3, iV .i64 (IntKind.i64.wrap (x1199 * (2 : Int)))), (4, iV .i64 x1200)], [], 0⟩ [] (by kernel_rfl) trivial ?_
      refine reg hP hn hm [] [3, 4] [] ⟨[(3, iV .i64 (IntKind.i64.wrap (x1199 * (2 : Int)))), (4, iV .i64 (IntKind.i64.wrap (x1200 + (1 : Int))))], [], 0⟩ [] (by kernel_rfl) trivial ?_
      exact LWp.conv (inv := []) (vk := []) (e0 := []) (t := ⟨[(3, iV .i64 (IntKind.i64.wrap (x1199 * (2 : Int)))), (4, iV .i64 (IntKind.i64.wrap (x1200 + (1 : Int))))], [], 0⟩) (by kernel_rfl) (ih _ _ _ H)
    · replace H := (ifF c1201).symm.trans H
      refine AWp.exit ?_
      obtain rfl := Option.some.inj H
      exact Exists.intro _ (And.intro (fun _ _ h => h.conv (inv := []) (vk := []) (e0 := []) (t := ⟨[(3, iV .i64 x1199)], [], 0⟩) (by kernel_rfl)) (And.intro rfl rfl))
  · obtain ⟨x1202, rfl⟩ : ∃ z, z = o1203 := ⟨_, rfl⟩
    rintro e s ⟨rfl, rfl⟩
    refine AWp.seq ?_
    refine reg hP hn hm [] [2] [] ⟨[(2, iV .i64 x1202)], [], 0⟩ [] (by kernel_rfl) trivial ?_
    refine AWp.conv (inv := []) (vk := []) (e0 := []) (t := ⟨[(2, iV .i64 x1202)], [], 0⟩) (by kernel_rfl) ?_
    refine AWp.ret ?_
    obtain rfl := Option.some.inj H
    exact Exists.intro _ (And.intro (fun _ _ h => h) (And.intro (.inl rfl) (And.intro rfl (And.intro (by kernel_rfl) (by kernel_rfl)))))
def f_pluvialref04_Units.f (a0 : Int) (a1 : Int) : Option (Int) := (f_pluvialref04_Right.f a0) >>= fun t1195 => if (!t1195) = true then (some 0) else ((f_pluvialref04_step.f a0) >>= fun t1207 => some (IntKind.i64.wrap (a1 * t1207)))
theorem f_pluvialref04_Units.ok (a0 : Int) (a1 : Int) (r : Int) (H : f_pluvialref04_Units.f a0 a1 = some r) : Pv.Fn Try.prog 58 [iV .i64 a0, iV .i64 a1] [] 0 (fun x o => x = iV .i64 r ∧ o = []) := by
  unfold f_pluvialref04_Units.f at H
  refine Fn.bodyK [] Try.func58 rfl rfl (fun Γ hP hn => ?_)
  have hm : Try.prog.follows .mixedOrders = true := by kernel_rfl
  replace hn : Γ.n = 12 := hn
  refine AWp.seq ?_
  refine reg hP hn hm [] [0, 1] [] ⟨[(0, iV .i64 a0), (1, iV .i64 a1)], [], 0⟩ [] (by kernel_rfl) trivial ?_
  refine AWp.seq ?_
  refine AWp.seq ?_
  obtain ⟨t1195, e1196, H⟩ := bind_of H
  refine reg hP hn hm [(1, .call [] [] [] [] 0 (bV t1195) [])] [0, 1, 7] [] ⟨[(0, iV .i64 a0), (1, iV .i64 a1), (7, bV (!t1195))], [], 0⟩ [Enters Try.prog 56, Pv.Fn Try.prog 56 [iV .i64 a0] [] 0 (fun r o => r = bV t1195 ∧ o = [])] (by kernel_rfl) ⟨by exact Try.call56, by exact f_pluvialref04_Right.ok a0 t1195 e1196, trivial⟩ ?_
  refine AWp.cond (!t1195) rfl (fun c1197 => ?_) (fun c1197 => ?_)
  · replace H := (ifT c1197).symm.trans H
    refine AWp.seq ?_
    refine reg hP hn hm [] [4] [] ⟨[(4, iV .i64 0)], [], 0⟩ [] (by kernel_rfl) trivial ?_
    refine AWp.conv (inv := []) (vk := []) (e0 := []) (t := ⟨[(4, iV .i64 0)], [], 0⟩) (by kernel_rfl) ?_
    refine AWp.ret ?_
    obtain rfl := Option.some.inj H
    exact Exists.intro _ (And.intro (fun _ _ h => h) (And.intro (.inl rfl) (And.intro rfl (And.intro (by kernel_rfl) (by kernel_rfl)))))
  · replace H := (ifF c1197).symm.trans H
    refine AWp.skip ?_
    refine AWp.seq ?_
    obtain ⟨t1207, e1208, H⟩ := bind_of H
    refine reg hP hn hm [(2, .call [] [] [] [] 0 (iV .i64 t1207) [])] [4] [] ⟨[(4, iV .i64 (IntKind.i64.wrap (a1 * t1207)))], [], 0⟩ [Enters Try.prog 85, Pv.Fn Try.prog 85 [iV .i64 a0] [] 0 (fun r o => r = iV .i64 t1207 ∧ o = [])] (by kernel_rfl) ⟨by exact Try.call85, by exact f_pluvialref04_step.ok a0 t1207 e1208, trivial⟩ ?_
    refine AWp.conv (inv := []) (vk := []) (e0 := []) (t := ⟨[(4, iV .i64 (IntKind.i64.wrap (a1 * t1207)))], [], 0⟩) (by kernel_rfl) ?_
    refine AWp.ret ?_
    obtain rfl := Option.some.inj H
    exact Exists.intro _ (And.intro (fun _ _ h => h) (And.intro (.inl rfl) (And.intro rfl (And.intro (by kernel_rfl) (by kernel_rfl)))))
def f_pluvialref04_In.f (a0 : Int) (a1 : Int) : Option (Bool) := (((f_pluvialref04_Right.f a0) >>= fun t1214 => if t1214 = true then (if (decide (a1 > (-262144))) = true then (if (decide (a1 ≤ (262144 : Int))) = true then ((f_pluvialref04_Units.f a0 a1) >>= fun t1219 => if (decide (t1219 > (-262144))) = true then ((f_pluvialref04_Units.f a0 a1) >>= fun t1222 => some (decide (t1222 ≤ (262144 : Int)))) else (some false)) else (some false)) else (some false)) else (some false)) : Option (Bool)) >>= fun x1224 => some x1224
theorem f_pluvialref04_In.ok (a0 : Int) (a1 : Int) (r : Bool) (H : f_pluvialref04_In.f a0 a1 = some r) : Pv.Fn Try.prog 57 [iV .i64 a0, iV .i64 a1] [] 0 (fun x o => x = bV r ∧ o = []) := by
  unfold f_pluvialref04_In.f at H
  refine Fn.bodyK [] Try.func57 rfl rfl (fun Γ hP hn => ?_)
  have hm : Try.prog.follows .mixedOrders = true := by kernel_rfl
  replace hn : Γ.n = 27 := hn
  refine AWp.seq ?_
  refine reg hP hn hm [] [0, 1] [] ⟨[(0, iV .i64 a0), (1, iV .i64 a1)], [], 0⟩ [] (by kernel_rfl) trivial ?_
  refine AWp.seq ?_
  obtain ⟨o1225, e1226, H⟩ := bind_of H
  refine AWp.mono (Q := fun e s => (match (generalizing := false) o1225 with | x1224 => e = .normal ∧ s = ⟨[(4, bV x1224)], [], 0⟩)) (AWp.cv ?_) ?_
  · replace H := e1226; clear e1226
    obtain ⟨t1214, e1215, H⟩ := bind_of H
    rcases Bool.eq_false_or_eq_true t1214 with c1216 | c1216
    · replace H := (ifT c1216).symm.trans H
      rcases Bool.eq_false_or_eq_true (decide (a1 > (-262144))) with c1217 | c1217
      · replace H := (ifT c1217).symm.trans H
        rcases Bool.eq_false_or_eq_true (decide (a1 ≤ (262144 : Int))) with c1218 | c1218
        · replace H := (ifT c1218).symm.trans H
          obtain ⟨t1219, e1220, H⟩ := bind_of H
          rcases Bool.eq_false_or_eq_true (decide (t1219 > (-262144))) with c1221 | c1221
          · replace H := (ifT c1221).symm.trans H
            obtain ⟨t1222, e1223, H⟩ := bind_of H
            refine reg hP hn hm [(1, .call [] [] [] [] 0 (bV t1214) []), (2, .b true), (6, .b true), (10, .b true), (13, .call [] [] [] [] 0 (iV .i64 t1219) []), (16, .b true), (19, .call [] [] [] [] 0 (iV .i64 t1222) [])] [4] [] ⟨[(4, bV (decide (t1222 ≤ (262144 : Int))))], [], 0⟩ [Enters Try.prog 56, Pv.Fn Try.prog 56 [iV .i64 a0] [] 0 (fun r o => r = bV t1214 ∧ o = []), t1214 = true, (decide (a1 > (-262144))) = true, (decide (a1 ≤ (262144 : Int))) = true, Enters Try.prog 58, Pv.Fn Try.prog 58 [iV .i64 a0, iV .i64 a1] [] 0 (fun r o => r = iV .i64 t1219 ∧ o = []), (decide (t1219 > (-262144))) = true, Enters Try.prog 58, Pv.Fn Try.prog 58 [iV .i64 a0, iV .i64 a1] [] 0 (fun r o => r = iV .i64 t1222 ∧ o = [])] (by kernel_rfl) ⟨by exact Try.call56, by exact f_pluvialref04_Right.ok a0 t1214 e1215, by exact c1216, by exact c1217, by exact c1218, by exact Try.call58, by exact f_pluvialref04_Units.ok a0 a1 t1219 e1220, by exact c1221, by exact Try.call58, by exact f_pluvialref04_Units.ok a0 a1 t1222 e1223, trivial⟩ ?_
            obtain rfl := Option.some.inj H
            exact Exists.intro _ (And.intro (fun _ _ h => h.conv (inv := []) (vk := []) (e0 := []) (t := ⟨[(4, bV (decide (t1222 ≤ (262144 : Int))))], [], 0⟩) (by kernel_rfl)) (And.intro rfl rfl))
          · replace H := (ifF c1221).symm.trans H
            refine reg hP hn hm [(1, .call [] [] [] [] 0 (bV t1214) []), (2, .b true), (6, .b true), (10, .b true), (13, .call [] [] [] [] 0 (iV .i64 t1219) []), (16, .b false)] [4] [] ⟨[(4, bV false)], [], 0⟩ [Enters Try.prog 56, Pv.Fn Try.prog 56 [iV .i64 a0] [] 0 (fun r o => r = bV t1214 ∧ o = []), t1214 = true, (decide (a1 > (-262144))) = true, (decide (a1 ≤ (262144 : Int))) = true, Enters Try.prog 58, Pv.Fn Try.prog 58 [iV .i64 a0, iV .i64 a1] [] 0 (fun r o => r = iV .i64 t1219 ∧ o = []), (decide (t1219 > (-262144))) = false] (by kernel_rfl) ⟨by exact Try.call56, by exact f_pluvialref04_Right.ok a0 t1214 e1215, by exact c1216, by exact c1217, by exact c1218, by exact Try.call58, by exact f_pluvialref04_Units.ok a0 a1 t1219 e1220, by exact c1221, trivial⟩ ?_
            obtain rfl := Option.some.inj H
            exact Exists.intro _ (And.intro (fun _ _ h => h.conv (inv := []) (vk := []) (e0 := []) (t := ⟨[(4, bV false)], [], 0⟩) (by kernel_rfl)) (And.intro rfl rfl))
        · replace H := (ifF c1218).symm.trans H
          refine reg hP hn hm [(1, .call [] [] [] [] 0 (bV t1214) []), (2, .b true), (6, .b true), (10, .b false)] [4] [] ⟨[(4, bV false)], [], 0⟩ [Enters Try.prog 56, Pv.Fn Try.prog 56 [iV .i64 a0] [] 0 (fun r o => r = bV t1214 ∧ o = []), t1214 = true, (decide (a1 > (-262144))) = true, (decide (a1 ≤ (262144 : Int))) = false] (by kernel_rfl) ⟨by exact Try.call56, by exact f_pluvialref04_Right.ok a0 t1214 e1215, by exact c1216, by exact c1217, by exact c1218, trivial⟩ ?_
          obtain rfl := Option.some.inj H
          exact Exists.intro _ (And.intro (fun _ _ h => h.conv (inv := []) (vk := []) (e0 := []) (t := ⟨[(4, bV false)], [], 0⟩) (by kernel_rfl)) (And.intro rfl rfl))
      · replace H := (ifF c1217).symm.trans H
        refine reg hP hn hm [(1, .call [] [] [] [] 0 (bV t1214) []), (2, .b true), (6, .b false)] [4] [] ⟨[(4, bV false)], [], 0⟩ [Enters Try.prog 56, Pv.Fn Try.prog 56 [iV .i64 a0] [] 0 (fun r o => r = bV t1214 ∧ o = []), t1214 = true, (decide (a1 > (-262144))) = false] (by kernel_rfl) ⟨by exact Try.call56, by exact f_pluvialref04_Right.ok a0 t1214 e1215, by exact c1216, by exact c1217, trivial⟩ ?_
        obtain rfl := Option.some.inj H
        exact Exists.intro _ (And.intro (fun _ _ h => h.conv (inv := []) (vk := []) (e0 := []) (t := ⟨[(4, bV false)], [], 0⟩) (by kernel_rfl)) (And.intro rfl rfl))
    · replace H := (ifF c1216).symm.trans H
      refine reg hP hn hm [(1, .call [] [] [] [] 0 (bV t1214) []), (2, .b false)] [4] [] ⟨[(4, bV false)], [], 0⟩ [Enters Try.prog 56, Pv.Fn Try.prog 56 [iV .i64 a0] [] 0 (fun r o => r = bV t1214 ∧ o = []), t1214 = false] (by kernel_rfl) ⟨by exact Try.call56, by exact f_pluvialref04_Right.ok a0 t1214 e1215, by exact c1216, trivial⟩ ?_
      obtain rfl := Option.some.inj H
      exact Exists.intro _ (And.intro (fun _ _ h => h.conv (inv := []) (vk := []) (e0 := []) (t := ⟨[(4, bV false)], [], 0⟩) (by kernel_rfl)) (And.intro rfl rfl))
  · obtain ⟨x1224, rfl⟩ : ∃ z, z = o1225 := ⟨_, rfl⟩
    rintro e s ⟨rfl, rfl⟩
    refine AWp.conv (inv := []) (vk := []) (e0 := []) (t := ⟨[(4, bV x1224)], [], 0⟩) (by kernel_rfl) ?_
    refine AWp.ret ?_
    obtain rfl := Option.some.inj H
    exact Exists.intro _ (And.intro (fun _ _ h => h) (And.intro (.inl rfl) (And.intro rfl (And.intro (by kernel_rfl) (by kernel_rfl)))))
def f_pluvialref01_Add.l0 (a0 : List Int) (x1344 : Int) (x1345 : Int) : Option ((Int × Int) ⊕ Int) := if (decide (x1345 < (a0.length : Int))) = true then ((at? a0 x1345) >>= fun b1350 => if (decide (b1350 > (IntKind.u64.wrap ((18446744073709551615 : Int) - x1344)))) = true then (some (.inl (0, 5))) else (f_pluvialref01_Add.l0 a0 (IntKind.u64.wrap (x1344 + b1350)) (IntKind.i64.wrap (x1345 + (1 : Int))))) else (some (.inr x1344))
partial_fixpoint
def f_pluvialref01_Add.f (a0 : List Int) : Option (Int × Int) := (f_pluvialref01_Add.l0 a0 0 0) >>= fun oo => match oo with | .inl rr => (some rr) | .inr x1354 => (some (x1354, 0))
theorem f_pluvialref01_Add.ok (a0 : List Int) (r : Int × Int) (H : f_pluvialref01_Add.f a0 = some r) : Pv.Fn Try.prog 59 [.im (.row (a0.map (encInt .u64)))] [] 0 (fun x o => x = .tup [iV .u64 r.1, iV .i64 r.2] ∧ o = []) := by
  unfold f_pluvialref01_Add.f at H
  refine Fn.bodyK [] Try.func59 rfl rfl (fun Γ hP hn => ?_)
  have hm : Try.prog.follows .mixedOrders = true := by kernel_rfl
  replace hn : Γ.n = 26 := hn
  refine AWp.seq ?_
  refine reg hP hn hm [] [0] [] ⟨[(0, .im (.row (a0.map (encInt .u64))))], [], 0⟩ [] (by kernel_rfl) trivial ?_
  refine AWp.seq ?_
  refine reg hP hn hm [] [0, 4] [] ⟨[(0, .im (.row (a0.map (encInt .u64)))), (4, iV .u64 0)], [], 0⟩ [] (by kernel_rfl) trivial ?_
  refine AWp.seq ?_
  refine AWp.seq ?_
  refine reg hP hn hm [] [0, 4, 5] [] ⟨[(0, .im (.row (a0.map (encInt .u64)))), (4, iV .u64 0), (5, iV .i64 0)], [], 0⟩ [] (by kernel_rfl) trivial ?_
  refine AWp.block ?_
  obtain ⟨o1355, e1356, H⟩ := bind_of H
  refine AWp.loop (LWp.conv (inv := []) (vk := []) (e0 := []) (t := ⟨[(0, .im (.row (a0.map (encInt .u64)))), (4, iV .u64 0), (5, iV .i64 0)], [], 0⟩) (by kernel_rfl) ?_)
  refine LWp.mono (Q := fun e s => (match (generalizing := false) o1355 with | .inl rr => e = .ret ∧ s.floor = 0 ∧ resOf Try.prog Try.f59 s = some (.tup [iV .u64 rr.1, iV .i64 rr.2]) ∧ ([] : List (Nat × Option MObj)) = [] | .inr x1354 => e = .exit 0 ∧ s = ⟨[(4, iV .u64 x1354)], [], 0⟩)) (LWp.cv (withBody (fun body hbody => ?_))) ?_
  · refine f_pluvialref01_Add.l0.partial_correctness a0 (motive := fun x1344 x1345 o1355 => LWp Γ body (fun e s => ∃ t, Cv Γ s t ∧ (match (generalizing := false) o1355 with | .inl rr => e = .ret ∧ t.floor = 0 ∧ resOf Try.prog Try.f59 t = some (.tup [iV .u64 rr.1, iV .i64 rr.2]) ∧ ([] : List (Nat × Option MObj)) = [] | .inr x1354 => e = .exit 0 ∧ t = ⟨[(4, iV .u64 x1354)], [], 0⟩)) ⟨[(0, .im (.row (a0.map (encInt .u64)))), (4, iV .u64 x1344), (5, iV .i64 x1345)], [], 0⟩) ?_ _ _ _ e1356
    clear H e1356 o1355; intro self ih x1344 x1345 o1355 H
    subst hbody
    refine LWp.round ?_
    refine AWp.seq ?_
    refine AWp.seq ?_
    refine reg hP hn hm [(2, .any (iV .i64 (a0.length : Int)))] [0, 4, 5, 9] [] ⟨[(0, .im (.row (a0.map (encInt .u64)))), (4, iV .u64 x1344), (5, iV .i64 x1345), (9, bV (decide (x1345 < (a0.length : Int))))], [], 0⟩ [((a0.map (encInt .u64)).length : Int) = (a0.length : Int)] (by kernel_rfl) ⟨by rw [len_map], trivial⟩ ?_
    refine AWp.cond (decide (x1345 < (a0.length : Int))) rfl (fun c1346 => ?_) (fun c1346 => ?_)
    · replace H := (ifT c1346).symm.trans H
      refine AWp.skip ?_
      refine AWp.seq ?_
      refine AWp.block ?_
      refine AWp.seq ?_
      refine AWp.seq ?_
      obtain ⟨b1350, p1351, q1352, H⟩ := at_of H
      refine reg hP hn hm [(2, .c ((encInt .u64) b1350))] [0, 4, 5, 18] [] ⟨[(0, .im (.row (a0.map (encInt .u64)))), (4, iV .u64 x1344), (5, iV .i64 x1345), (18, bV (decide (b1350 > (IntKind.u64.wrap ((18446744073709551615 : Int) - x1344)))))], [], 0⟩ [0 ≤ x1345, (a0.map (encInt .u64))[(Int.toNat (x1345))]? = some ((encInt .u64) b1350)] (by kernel_rfl) ⟨by exact p1351, by exact el_map (encInt .u64) q1352, trivial⟩ ?_
      refine AWp.cond (decide (b1350 > (IntKind.u64.wrap ((18446744073709551615 : Int) - x1344)))) rfl (fun c1353 => ?_) (fun c1353 => ?_)
      · replace H := (ifT c1353).symm.trans H
        refine AWp.seq ?_
        refine reg hP hn hm [] [2, 3] [] ⟨[(2, iV .u64 0), (3, iV .i64 5)], [], 0⟩ [] (by kernel_rfl) trivial ?_
        refine AWp.conv (inv := []) (vk := []) (e0 := []) (t := ⟨[(2, iV .u64 0), (3, iV .i64 5)], [], 0⟩) (by kernel_rfl) ?_
        refine AWp.ret ?_
        obtain rfl := Option.some.inj H
        exact Exists.intro _ (And.intro (fun _ _ h => h) (And.intro rfl (And.intro rfl (And.intro (by kernel_rfl) (by kernel_rfl)))))
      · replace H := (ifF c1353).symm.trans H
        refine AWp.skip ?_
        refine reg hP hn hm [(3, .c ((encInt .u64) b1350))] [0, 4, 5] [] ⟨[(0, .im (.row (a0.map (encInt .u64)))), (4, iV .u64 (IntKind.u64.wrap (x1344 + b1350))), (5, iV .i64 x1345)], [], 0⟩ [0 ≤ x1345, (a0.map (encInt .u64))[(Int.toNat (x1345))]? = some ((encInt .u64) b1350)] (by kernel_rfl) ⟨by exact p1351, by exact el_map (encInt .u64) q1352, trivial⟩ ?_
        refine reg hP hn hm [] [0, 4, 5] [] ⟨[(0, .im (.row (a0.map (encInt .u64)))), (4, iV .u64 (IntKind.u64.wrap (x1344 + b1350))), (5, iV .i64 (IntKind.i64.wrap (x1345 + (1 : Int))))], [], 0⟩ [] (by kernel_rfl) trivial ?_
        exact LWp.conv (inv := []) (vk := []) (e0 := []) (t := ⟨[(0, .im (.row (a0.map (encInt .u64)))), (4, iV .u64 (IntKind.u64.wrap (x1344 + b1350))), (5, iV .i64 (IntKind.i64.wrap (x1345 + (1 : Int))))], [], 0⟩) (by kernel_rfl) (ih _ _ _ H)
    · replace H := (ifF c1346).symm.trans H
      refine AWp.exit ?_
      obtain rfl := Option.some.inj H
      exact Exists.intro _ (And.intro (fun _ _ h => h.conv (inv := []) (vk := []) (e0 := []) (t := ⟨[(4, iV .u64 x1344)], [], 0⟩) (by kernel_rfl)) (And.intro rfl rfl))
  · rcases o1355 with rr | x1354
    · skip
      rintro e s ⟨rfl, hfl, hres⟩
      obtain rfl := Option.some.inj H
      exact Exists.intro _ (And.intro (fun _ _ h => h) (And.intro (.inl rfl) (And.intro hfl hres)))
    · skip
      rintro e s ⟨rfl, rfl⟩
      refine AWp.seq ?_
      refine reg hP hn hm [] [2, 3] [] ⟨[(2, iV .u64 x1354), (3, iV .i64 0)], [], 0⟩ [] (by kernel_rfl) trivial ?_
      refine AWp.conv (inv := []) (vk := []) (e0 := []) (t := ⟨[(2, iV .u64 x1354), (3, iV .i64 0)], [], 0⟩) (by kernel_rfl) ?_
      refine AWp.ret ?_
      obtain rfl := Option.some.inj H
      exact Exists.intro _ (And.intro (fun _ _ h => h) (And.intro (.inl rfl) (And.intro rfl (And.intro (by kernel_rfl) (by kernel_rfl)))))
def f_pluvialref05_Check.l1 (a0 : THist) (x1277 : Int) (x1280 : List TBucket) (x1302 : List Int) (x1303 : Int) : Option (Int ⊕ (List Int)) := if (decide (x1303 < (x1280.length : Int))) = true then ((at? x1280 x1303) >>= fun b1310 => (f_pluvialref04_In.f a0.f1 b1310.f0) >>= fun t1313 => if (!t1313) = true then (some (.inl 4)) else (((if (decide (x1303 > (0 : Int))) = true then ((at? x1280 (IntKind.i64.wrap (x1303 - (1 : Int)))) >>= fun b1321 => some (decide (b1310.f0 ≤ b1321.f0))) else (some false)) : Option (Bool)) >>= fun x1324 => if x1324 = true then (some (.inl 32)) else (if (b1310.f1 == (0 : Int)) = true then (some (.inl 21)) else ((f_pluvialref04_Units.f a0.f1 (IntKind.i64.wrap (b1310.f0 - (1 : Int)))) >>= fun t1329 => if (decide (t1329 < a0.f2)) = true then (some (.inl 31)) else ((chk ((x1302.length + [b1310.f1].length) * 8 ≤ 140737488355328)) >>= fun _ => f_pluvialref05_Check.l1 a0 x1277 x1280 (x1302 ++ [b1310.f1]) (IntKind.i64.wrap (x1303 + (1 : Int)))))))) else (some (.inr x1302))
partial_fixpoint
def f_pluvialref05_Check.l0 (a0 : THist) (x1276 : List Int) (x1277 : Int) : Option (Int ⊕ (List Int)) := if (decide (x1277 < (2 : Int))) = true then (((if (x1277 == (1 : Int)) = true then (some a0.f7) else (some a0.f6)) : Option (List TBucket)) >>= fun x1280 => if (decide ((x1280.length : Int) > (512 : Int))) = true then (some (.inl 9)) else ((f_pluvialref05_Check.l1 a0 x1277 x1280 x1276 0) >>= fun oo => match oo with | .inl rr => (some (.inl rr)) | .inr x1334 => (f_pluvialref05_Check.l0 a0 x1334 (IntKind.i64.wrap (x1277 + (1 : Int)))))) else (some (.inr x1276))
partial_fixpoint
def f_pluvialref05_Check.f (a0 : THist) : Option (Int) := ((if (a0.f0 != (0 : Int)) = true then (some (a0.f0 != (1 : Int))) else (some false)) : Option (Bool)) >>= fun x1165 => if x1165 = true then (some 25) else ((f_pluvialref04_Right.f a0.f1) >>= fun t1174 => if (!t1174) = true then (some 20) else (((if (a0.f2 != (-524288)) = true then (if (decide (a0.f2 ≤ (-262144))) = true then (some true) else (some (decide (a0.f2 > (262144 : Int))))) else (some false)) : Option (Bool)) >>= fun x1181 => if x1181 = true then (some 31) else ((f_pluvialref05_Check.l0 a0 [a0.f3] 0) >>= fun oo => match oo with | .inl rr => (some rr) | .inr x1335 => ((f_pluvialref01_Add.f x1335) >>= fun t1359 => if (t1359.2 != (0 : Int)) = true then (some 5) else (if (t1359.1 != a0.f4) = true then (some 21) else (some 0))))))
theorem f_pluvialref05_Check.ok (a0 : THist) (r : Int) (H : f_pluvialref05_Check.f a0 = some r) : Pv.Fn Try.prog 31 [.agg (aHist a0)] [] 0 (fun x o => x = iV .i64 r ∧ o = []) := by
  unfold f_pluvialref05_Check.f at H
  refine Fn.bodyK [] Try.func31 rfl rfl (fun Γ hP hn => ?_)
  have hm : Try.prog.follows .mixedOrders = true := by kernel_rfl
  replace hn : Γ.n = 118 := hn
  refine AWp.seq ?_
  refine reg hP hn hm [(0, .k 0)] [1] [0] ⟨[(1, .ptr 0 0 0)], [(0, some (.box 30 (aHist a0)))], 0⟩ [] (by kernel_rfl) trivial ?_
  refine AWp.seq ?_
  refine AWp.seq ?_
  obtain ⟨o1363, e1364, H⟩ := bind_of H
  refine AWp.mono (Q := fun e s => (match (generalizing := false) o1363 with | x1165 => e = .normal ∧ s = ⟨[(1, .ptr 1 0 0), (16, bV x1165)], [(1, some (.box 30 (aHist a0)))], 0⟩)) (AWp.cv ?_) ?_
  · replace H := e1364; clear e1364
    rcases Bool.eq_false_or_eq_true (a0.f0 != (0 : Int)) with c1164 | c1164
    · replace H := (ifT c1164).symm.trans H
      refine reg hP hn hm [(3, .b true)] [1, 16] [0] ⟨[(1, .ptr 0 0 0), (16, bV (a0.f0 != (1 : Int)))], [(0, some (.box 30 (aHist a0)))], 0⟩ [(a0.f0 != (0 : Int)) = true] (by kernel_rfl) ⟨by exact c1164, trivial⟩ ?_
      obtain rfl := Option.some.inj H
      exact Exists.intro _ (And.intro (fun _ _ h => h.conv (inv := [(0, 1)]) (vk := []) (e0 := []) (t := ⟨[(1, .ptr 1 0 0), (16, bV (a0.f0 != (1 : Int)))], [(1, some (.box 30 (aHist a0)))], 0⟩) (by kernel_rfl)) (And.intro rfl rfl))
    · replace H := (ifF c1164).symm.trans H
      refine reg hP hn hm [(3, .b false)] [1, 16] [0] ⟨[(1, .ptr 0 0 0), (16, bV false)], [(0, some (.box 30 (aHist a0)))], 0⟩ [(a0.f0 != (0 : Int)) = false] (by kernel_rfl) ⟨by exact c1164, trivial⟩ ?_
      obtain rfl := Option.some.inj H
      exact Exists.intro _ (And.intro (fun _ _ h => h.conv (inv := [(0, 1)]) (vk := []) (e0 := []) (t := ⟨[(1, .ptr 1 0 0), (16, bV false)], [(1, some (.box 30 (aHist a0)))], 0⟩) (by kernel_rfl)) (And.intro rfl rfl))
  · obtain ⟨x1165, rfl⟩ : ∃ z, z = o1363 := ⟨_, rfl⟩
    rintro e s ⟨rfl, rfl⟩
    refine AWp.cond x1165 rfl (fun c1166 => ?_) (fun c1166 => ?_)
    · replace H := (ifT c1166).symm.trans H
      refine AWp.seq ?_
      refine reg hP hn hm [] [2] [] ⟨[(2, iV .i64 25)], [], 0⟩ [] (by kernel_rfl) trivial ?_
      refine AWp.conv (inv := []) (vk := []) (e0 := []) (t := ⟨[(2, iV .i64 25)], [], 0⟩) (by kernel_rfl) ?_
      refine AWp.ret ?_
      obtain rfl := Option.some.inj H
      exact Exists.intro _ (And.intro (fun _ _ h => h) (And.intro (.inl rfl) (And.intro rfl (And.intro (by kernel_rfl) (by kernel_rfl)))))
    · replace H := (ifF c1166).symm.trans H
      refine AWp.skip ?_
      refine AWp.seq ?_
      refine AWp.seq ?_
      obtain ⟨t1174, e1175, H⟩ := bind_of H
      refine reg hP hn hm [(2, .call [] [] [] [] 0 (bV t1174) [])] [1, 20] [1] ⟨[(1, .ptr 1 0 0), (20, bV (!t1174))], [(1, some (.box 30 (aHist a0)))], 0⟩ [Enters Try.prog 56, Pv.Fn Try.prog 56 [iV .i64 a0.f1] [] 0 (fun r o => r = bV t1174 ∧ o = [])] (by kernel_rfl) ⟨by exact Try.call56, by exact f_pluvialref04_Right.ok a0.f1 t1174 e1175, trivial⟩ ?_
      refine AWp.cond (!t1174) rfl (fun c1176 => ?_) (fun c1176 => ?_)
      · replace H := (ifT c1176).symm.trans H
        refine AWp.seq ?_
        refine reg hP hn hm [] [2] [] ⟨[(2, iV .i64 20)], [], 0⟩ [] (by kernel_rfl) trivial ?_
        refine AWp.conv (inv := []) (vk := []) (e0 := []) (t := ⟨[(2, iV .i64 20)], [], 0⟩) (by kernel_rfl) ?_
        refine AWp.ret ?_
        obtain rfl := Option.some.inj H
        exact Exists.intro _ (And.intro (fun _ _ h => h) (And.intro (.inl rfl) (And.intro rfl (And.intro (by kernel_rfl) (by kernel_rfl)))))
      · replace H := (ifF c1176).symm.trans H
        refine AWp.skip ?_
        refine AWp.seq ?_
        refine AWp.seq ?_
        obtain ⟨o1365, e1366, H⟩ := bind_of H
        refine AWp.mono (Q := fun e s => (match (generalizing := false) o1365 with | x1181 => e = .normal ∧ s = ⟨[(1, .ptr 2 0 0), (33, bV x1181)], [(2, some (.box 30 (aHist a0)))], 0⟩)) (AWp.cv ?_) ?_
        · replace H := e1366; clear e1366
          rcases Bool.eq_false_or_eq_true (a0.f2 != (-524288)) with c1179 | c1179
          · replace H := (ifT c1179).symm.trans H
            rcases Bool.eq_false_or_eq_true (decide (a0.f2 ≤ (-262144))) with c1180 | c1180
            · replace H := (ifT c1180).symm.trans H
              refine reg hP hn hm [(3, .b true), (7, .b true)] [1, 33] [1] ⟨[(1, .ptr 1 0 0), (33, bV true)], [(1, some (.box 30 (aHist a0)))], 0⟩ [(a0.f2 != (-524288)) = true, (decide (a0.f2 ≤ (-262144))) = true] (by kernel_rfl) ⟨by exact c1179, by exact c1180, trivial⟩ ?_
              obtain rfl := Option.some.inj H
              exact Exists.intro _ (And.intro (fun _ _ h => h.conv (inv := [(1, 2)]) (vk := []) (e0 := []) (t := ⟨[(1, .ptr 2 0 0), (33, bV true)], [(2, some (.box 30 (aHist a0)))], 0⟩) (by kernel_rfl)) (And.intro rfl rfl))
            · replace H := (ifF c1180).symm.trans H
              refine reg hP hn hm [(3, .b true), (7, .b false)] [1, 33] [1] ⟨[(1, .ptr 1 0 0), (33, bV (decide (a0.f2 > (262144 : Int))))], [(1, some (.box 30 (aHist a0)))], 0⟩ [(a0.f2 != (-524288)) = true, (decide (a0.f2 ≤ (-262144))) = false] (by kernel_rfl) ⟨by exact c1179, by exact c1180, trivial⟩ ?_
              obtain rfl := Option.some.inj H
              exact Exists.intro _ (And.intro (fun _ _ h => h.conv (inv := [(1, 2)]) (vk := []) (e0 := []) (t := ⟨[(1, .ptr 2 0 0), (33, bV (decide (a0.f2 > (262144 : Int))))], [(2, some (.box 30 (aHist a0)))], 0⟩) (by kernel_rfl)) (And.intro rfl rfl))
          · replace H := (ifF c1179).symm.trans H
            refine reg hP hn hm [(3, .b false)] [1, 33] [1] ⟨[(1, .ptr 1 0 0), (33, bV false)], [(1, some (.box 30 (aHist a0)))], 0⟩ [(a0.f2 != (-524288)) = false] (by kernel_rfl) ⟨by exact c1179, trivial⟩ ?_
            obtain rfl := Option.some.inj H
            exact Exists.intro _ (And.intro (fun _ _ h => h.conv (inv := [(1, 2)]) (vk := []) (e0 := []) (t := ⟨[(1, .ptr 2 0 0), (33, bV false)], [(2, some (.box 30 (aHist a0)))], 0⟩) (by kernel_rfl)) (And.intro rfl rfl))
        · obtain ⟨x1181, rfl⟩ : ∃ z, z = o1365 := ⟨_, rfl⟩
          rintro e s ⟨rfl, rfl⟩
          refine AWp.cond x1181 rfl (fun c1182 => ?_) (fun c1182 => ?_)
          · replace H := (ifT c1182).symm.trans H
            refine AWp.seq ?_
            refine reg hP hn hm [] [2] [] ⟨[(2, iV .i64 31)], [], 0⟩ [] (by kernel_rfl) trivial ?_
            refine AWp.conv (inv := []) (vk := []) (e0 := []) (t := ⟨[(2, iV .i64 31)], [], 0⟩) (by kernel_rfl) ?_
            refine AWp.ret ?_
            obtain rfl := Option.some.inj H
            exact Exists.intro _ (And.intro (fun _ _ h => h) (And.intro (.inl rfl) (And.intro rfl (And.intro (by kernel_rfl) (by kernel_rfl)))))
          · replace H := (ifF c1182).symm.trans H
            refine AWp.skip ?_
            refine AWp.seq ?_
            refine reg hP hn hm [(2, .app 3 ([a0.f3].map (encInt .u64)))] [1, 3] [2, 3] ⟨[(1, .ptr 2 0 0), (3, .own 3)], [(2, some (.box 30 (aHist a0))), (3, some (.row 1 27 ([a0.f3].map (encInt .u64))))], 0⟩ [[a0.f3].map (encInt .u64) = [[iI .u64 a0.f3]]] (by kernel_rfl) ⟨by exact rfl, trivial⟩ ?_
            refine AWp.seq ?_
            refine AWp.seq ?_
            refine reg hP hn hm [] [1, 3, 4] [2, 3] ⟨[(1, .ptr 2 0 0), (3, .own 3), (4, iV .i64 0)], [(2, some (.box 30 (aHist a0))), (3, some (.row 1 27 ([a0.f3].map (encInt .u64))))], 0⟩ [] (by kernel_rfl) trivial ?_
            refine AWp.block ?_
            obtain ⟨o1367, e1368, H⟩ := bind_of H
            refine AWp.loop (LWp.conv (inv := [(2, 14), (3, 15)]) (vk := []) (e0 := []) (t := ⟨[(1, .ptr 14 0 0), (3, .own 15), (4, iV .i64 0)], [(14, some (.box 30 (aHist a0))), (15, some (.row 1 27 ([a0.f3].map (encInt .u64))))], 0⟩) (by kernel_rfl) ?_)
            refine LWp.mono (Q := fun e s => (match (generalizing := false) o1367 with | .inl rr => e = .ret ∧ s.floor = 0 ∧ resOf Try.prog Try.f31 s = some (iV .i64 rr) ∧ ([] : List (Nat × Option MObj)) = [] | .inr x1335 => e = .exit 0 ∧ s = ⟨[(1, .ptr 28 0 0), (3, .own 29)], [(28, some (.box 30 (aHist a0))), (29, some (.row 1 27 (x1335.map (encInt .u64))))], 0⟩)) (LWp.cv (withBody (fun body hbody => ?_))) ?_
            · refine f_pluvialref05_Check.l0.partial_correctness a0 (motive := fun x1276 x1277 o1367 => LWp Γ body (fun e s => ∃ t, Cv Γ s t ∧ (match (generalizing := false) o1367 with | .inl rr => e = .ret ∧ t.floor = 0 ∧ resOf Try.prog Try.f31 t = some (iV .i64 rr) ∧ ([] : List (Nat × Option MObj)) = [] | .inr x1335 => e = .exit 0 ∧ t = ⟨[(1, .ptr 28 0 0), (3, .own 29)], [(28, some (.box 30 (aHist a0))), (29, some (.row 1 27 (x1335.map (encInt .u64))))], 0⟩)) ⟨[(1, .ptr 14 0 0), (3, .own 15), (4, iV .i64 x1277)], [(14, some (.box 30 (aHist a0))), (15, some (.row 1 27 (x1276.map (encInt .u64))))], 0⟩) ?_ _ _ _ e1368
              clear H e1368 o1367; intro self ih x1276 x1277 o1367 H
              subst hbody
              refine LWp.round ?_
              refine AWp.seq ?_
              refine AWp.seq ?_
              refine reg hP hn hm [] [1, 3, 4, 38] [14, 15] ⟨[(1, .ptr 14 0 0), (3, .own 15), (4, iV .i64 x1277), (38, bV (decide (x1277 < (2 : Int))))], [(14, some (.box 30 (aHist a0))), (15, some (.row 1 27 (x1276.map (encInt .u64))))], 0⟩ [] (by kernel_rfl) trivial ?_
              refine AWp.cond (decide (x1277 < (2 : Int))) rfl (fun c1278 => ?_) (fun c1278 => ?_)
              · replace H := (ifT c1278).symm.trans H
                refine AWp.skip ?_
                refine AWp.seq ?_
                refine AWp.block ?_
                refine AWp.seq ?_
                refine reg hP hn hm [] [1, 3, 4, 5] [14, 15] ⟨[(1, .ptr 14 0 0), (3, .own 15), (4, iV .i64 x1277), (5, .im (.row (a0.f6.map eBucket)))], [(14, some (.box 30 (aHist a0))), (15, some (.row 1 27 (x1276.map (encInt .u64))))], 0⟩ [] (by kernel_rfl) trivial ?_
                refine AWp.seq ?_
                refine AWp.seq ?_
                refine reg hP hn hm [] [1, 3, 4, 5, 44] [14, 15] ⟨[(1, .ptr 14 0 0), (3, .own 15), (4, iV .i64 x1277), (5, .im (.row (a0.f6.map eBucket))), (44, bV (x1277 == (1 : Int)))], [(14, some (.box 30 (aHist a0))), (15, some (.row 1 27 (x1276.map (encInt .u64))))], 0⟩ [] (by kernel_rfl) trivial ?_
                obtain ⟨o1369, e1370, H⟩ := bind_of H
                refine AWp.mono (Q := fun e s => (match (generalizing := false) o1369 with | x1280 => e = .normal ∧ s = ⟨[(1, .ptr 16 0 0), (3, .own 17), (4, iV .i64 x1277), (5, .im (.row (x1280.map eBucket)))], [(16, some (.box 30 (aHist a0))), (17, some (.row 1 27 (x1276.map (encInt .u64))))], 0⟩)) (AWp.cv ?_) ?_
                · replace H := e1370; clear e1370
                  refine AWp.cond (x1277 == (1 : Int)) rfl (fun c1279 => ?_) (fun c1279 => ?_)
                  · replace H := (ifT c1279).symm.trans H
                    refine reg hP hn hm [] [1, 3, 4, 5] [14, 15] ⟨[(1, .ptr 14 0 0), (3, .own 15), (4, iV .i64 x1277), (5, .im (.row (a0.f7.map eBucket)))], [(14, some (.box 30 (aHist a0))), (15, some (.row 1 27 (x1276.map (encInt .u64))))], 0⟩ [] (by kernel_rfl) trivial ?_
                    obtain rfl := Option.some.inj H
                    exact Exists.intro _ (And.intro (fun _ _ h => h.conv (inv := [(14, 16), (15, 17)]) (vk := []) (e0 := []) (t := ⟨[(1, .ptr 16 0 0), (3, .own 17), (4, iV .i64 x1277), (5, .im (.row (a0.f7.map eBucket)))], [(16, some (.box 30 (aHist a0))), (17, some (.row 1 27 (x1276.map (encInt .u64))))], 0⟩) (by kernel_rfl)) (And.intro rfl rfl))
                  · replace H := (ifF c1279).symm.trans H
                    refine AWp.skip ?_
                    obtain rfl := Option.some.inj H
                    exact Exists.intro _ (And.intro (fun _ _ h => h.conv (inv := [(14, 16), (15, 17)]) (vk := []) (e0 := []) (t := ⟨[(1, .ptr 16 0 0), (3, .own 17), (4, iV .i64 x1277), (5, .im (.row (a0.f6.map eBucket)))], [(16, some (.box 30 (aHist a0))), (17, some (.row 1 27 (x1276.map (encInt .u64))))], 0⟩) (by kernel_rfl)) (And.intro rfl rfl))
                · obtain ⟨x1280, rfl⟩ : ∃ z, z = o1369 := ⟨_, rfl⟩
                  rintro e s ⟨rfl, rfl⟩
                  refine AWp.seq ?_
                  refine AWp.seq ?_
                  refine reg hP hn hm [(1, .any (iV .i64 (x1280.length : Int)))] [1, 3, 4, 5, 49] [16, 17] ⟨[(1, .ptr 16 0 0), (3, .own 17), (4, iV .i64 x1277), (5, .im (.row (x1280.map eBucket))), (49, bV (decide ((x1280.length : Int) > (512 : Int))))], [(16, some (.box 30 (aHist a0))), (17, some (.row 1 27 (x1276.map (encInt .u64))))], 0⟩ [((x1280.map eBucket).length : Int) = (x1280.length : Int)] (by kernel_rfl) ⟨by rw [len_map], trivial⟩ ?_
                  refine AWp.cond (decide ((x1280.length : Int) > (512 : Int))) rfl (fun c1281 => ?_) (fun c1281 => ?_)
                  · replace H := (ifT c1281).symm.trans H
                    refine AWp.seq ?_
                    refine reg hP hn hm [] [2] [] ⟨[(2, iV .i64 9)], [], 0⟩ [] (by kernel_rfl) trivial ?_
                    refine AWp.conv (inv := []) (vk := []) (e0 := []) (t := ⟨[(2, iV .i64 9)], [], 0⟩) (by kernel_rfl) ?_
                    refine AWp.ret ?_
                    obtain rfl := Option.some.inj H
                    exact Exists.intro _ (And.intro (fun _ _ h => h) (And.intro rfl (And.intro rfl (And.intro (by kernel_rfl) (by kernel_rfl)))))
                  · replace H := (ifF c1281).symm.trans H
                    refine AWp.skip ?_
                    refine AWp.seq ?_
                    refine reg hP hn hm [] [1, 3, 4, 5, 6] [16, 17] ⟨[(1, .ptr 16 0 0), (3, .own 17), (4, iV .i64 x1277), (5, .im (.row (x1280.map eBucket))), (6, iV .i64 0)], [(16, some (.box 30 (aHist a0))), (17, some (.row 1 27 (x1276.map (encInt .u64))))], 0⟩ [] (by kernel_rfl) trivial ?_
                    refine AWp.block ?_
                    obtain ⟨o1371, e1372, H⟩ := bind_of H
                    refine AWp.loop (LWp.conv (inv := [(16, 20), (17, 21)]) (vk := []) (e0 := []) (t := ⟨[(1, .ptr 20 0 0), (3, .own 21), (4, iV .i64 x1277), (5, .im (.row (x1280.map eBucket))), (6, iV .i64 0)], [(20, some (.box 30 (aHist a0))), (21, some (.row 1 27 (x1276.map (encInt .u64))))], 0⟩) (by kernel_rfl) ?_)
                    refine LWp.mono (Q := fun e s => (match (generalizing := false) o1371 with | .inl rr => e = .ret ∧ s.floor = 0 ∧ resOf Try.prog Try.f31 s = some (iV .i64 rr) ∧ ([] : List (Nat × Option MObj)) = [] | .inr x1334 => e = .exit 2 ∧ s = ⟨[(1, .ptr 26 0 0), (3, .own 27), (4, iV .i64 x1277)], [(26, some (.box 30 (aHist a0))), (27, some (.row 1 27 (x1334.map (encInt .u64))))], 0⟩)) (LWp.cv (withBody (fun body hbody => ?_))) ?_
                    · refine f_pluvialref05_Check.l1.partial_correctness a0 x1277 x1280 (motive := fun x1302 x1303 o1371 => LWp Γ body (fun e s => ∃ t, Cv Γ s t ∧ (match (generalizing := false) o1371 with | .inl rr => e = .ret ∧ t.floor = 0 ∧ resOf Try.prog Try.f31 t = some (iV .i64 rr) ∧ ([] : List (Nat × Option MObj)) = [] | .inr x1334 => e = .exit 2 ∧ t = ⟨[(1, .ptr 26 0 0), (3, .own 27), (4, iV .i64 x1277)], [(26, some (.box 30 (aHist a0))), (27, some (.row 1 27 (x1334.map (encInt .u64))))], 0⟩)) ⟨[(1, .ptr 20 0 0), (3, .own 21), (4, iV .i64 x1277), (5, .im (.row (x1280.map eBucket))), (6, iV .i64 x1303)], [(20, some (.box 30 (aHist a0))), (21, some (.row 1 27 (x1302.map (encInt .u64))))], 0⟩) ?_ _ _ _ e1372
                      clear H e1372 o1371; intro self ih x1302 x1303 o1371 H
                      subst hbody
                      refine LWp.round ?_
                      refine AWp.seq ?_
                      refine AWp.seq ?_
                      refine reg hP hn hm [(2, .any (iV .i64 (x1280.length : Int)))] [1, 3, 4, 5, 6, 53] [20, 21] ⟨[(1, .ptr 20 0 0), (3, .own 21), (4, iV .i64 x1277), (5, .im (.row (x1280.map eBucket))), (6, iV .i64 x1303), (53, bV (decide (x1303 < (x1280.length : Int))))], [(20, some (.box 30 (aHist a0))), (21, some (.row 1 27 (x1302.map (encInt .u64))))], 0⟩ [((x1280.map eBucket).length : Int) = (x1280.length : Int)] (by kernel_rfl) ⟨by rw [len_map], trivial⟩ ?_
                      refine AWp.cond (decide (x1303 < (x1280.length : Int))) rfl (fun c1304 => ?_) (fun c1304 => ?_)
                      · replace H := (ifT c1304).symm.trans H
                        refine AWp.skip ?_
                        refine AWp.seq ?_
                        refine AWp.block ?_
                        refine AWp.seq ?_
                        refine AWp.seq ?_
                        obtain ⟨b1310, p1311, q1312, H⟩ := at_of H
                        obtain ⟨t1313, e1314, H⟩ := bind_of H
                        refine reg hP hn hm [(4, .c (eBucket b1310)), (7, .call [] [] [] [] 0 (bV t1313) [])] [1, 3, 4, 5, 6, 64] [20, 21] ⟨[(1, .ptr 20 0 0), (3, .own 21), (4, iV .i64 x1277), (5, .im (.row (x1280.map eBucket))), (6, iV .i64 x1303), (64, bV (!t1313))], [(20, some (.box 30 (aHist a0))), (21, some (.row 1 27 (x1302.map (encInt .u64))))], 0⟩ [0 ≤ x1303, (x1280.map eBucket)[(Int.toNat (x1303))]? = some (eBucket b1310), Enters Try.prog 57, Pv.Fn Try.prog 57 [iV .i64 a0.f1, iV .i64 b1310.f0] [] 0 (fun r o => r = bV t1313 ∧ o = [])] (by kernel_rfl) ⟨by exact p1311, by exact el_map eBucket q1312, by exact Try.call57, by exact f_pluvialref04_In.ok a0.f1 b1310.f0 t1313 e1314, trivial⟩ ?_
                        refine AWp.cond (!t1313) rfl (fun c1315 => ?_) (fun c1315 => ?_)
                        · replace H := (ifT c1315).symm.trans H
                          refine AWp.seq ?_
                          refine reg hP hn hm [] [2] [] ⟨[(2, iV .i64 4)], [], 0⟩ [] (by kernel_rfl) trivial ?_
                          refine AWp.conv (inv := []) (vk := []) (e0 := []) (t := ⟨[(2, iV .i64 4)], [], 0⟩) (by kernel_rfl) ?_
                          refine AWp.ret ?_
                          obtain rfl := Option.some.inj H
                          exact Exists.intro _ (And.intro (fun _ _ h => h) (And.intro rfl (And.intro rfl (And.intro (by kernel_rfl) (by kernel_rfl)))))
                        · replace H := (ifF c1315).symm.trans H
                          refine AWp.skip ?_
                          refine AWp.seq ?_
                          refine AWp.seq ?_
                          obtain ⟨o1373, e1374, H⟩ := bind_of H
                          refine AWp.mono (Q := fun e s => (match (generalizing := false) o1373 with | x1324 => e = .normal ∧ s = ⟨[(1, .ptr 22 0 0), (3, .own 23), (4, iV .i64 x1277), (5, .im (.row (x1280.map eBucket))), (6, iV .i64 x1303), (80, bV x1324)], [(22, some (.box 30 (aHist a0))), (23, some (.row 1 27 (x1302.map (encInt .u64))))], 0⟩)) (AWp.cv ?_) ?_
                          · replace H := e1374; clear e1374
                            rcases Bool.eq_false_or_eq_true (decide (x1303 > (0 : Int))) with c1320 | c1320
                            · replace H := (ifT c1320).symm.trans H
                              obtain ⟨b1321, p1322, q1323, H⟩ := at_of H
                              refine reg hP hn hm [(2, .b true), (5, .c (eBucket b1310)), (11, .c (eBucket b1321))] [1, 3, 4, 5, 6, 68, 69, 70, 71, 72, 73, 74, 75, 76, 77, 78, 79, 80] [20, 21] ⟨[(1, .ptr 20 0 0), (3, .own 21), (4, iV .i64 x1277), (5, .im (.row (x1280.map eBucket))), (6, iV .i64 x1303), (68, .im (.row (x1280.map eBucket))), (69, iV .i64 x1303), (70, .ip [iI .i64 b1310.f0, iI .u64 b1310.f1]), (71, .ip [iI .i64 b1310.f0, iI .u64 b1310.f1]), (72, iV .i64 b1310.f0), (73, .im (.row (x1280.map eBucket))), (74, iV .i64 x1303), (75, iV .i64 (IntKind.i64.wrap (x1303 - (1 : Int)))), (76, .ip [iI .i64 b1321.f0, iI .u64 b1321.f1]), (77, .ip [iI .i64 b1321.f0, iI .u64 b1321.f1]), (78, iV .i64 b1321.f0), (79, bV (decide (b1310.f0 ≤ b1321.f0))), (80, bV (decide (b1310.f0 ≤ b1321.f0)))], [(20, some (.box 30 (aHist a0))), (21, some (.row 1 27 (x1302.map (encInt .u64))))], 0⟩ [(decide (x1303 > (0 : Int))) = true, 0 ≤ x1303, (x1280.map eBucket)[(Int.toNat (x1303))]? = some (eBucket b1310), 0 ≤ (IntKind.i64.wrap (x1303 - (1 : Int))), (x1280.map eBucket)[(Int.toNat (IntKind.i64.wrap (x1303 - (1 : Int))))]? = some (eBucket b1321)] (by kernel_rfl) ⟨by exact c1320, by exact p1311, by exact el_map eBucket q1312, by exact p1322, by exact el_map eBucket q1323, trivial⟩ ?_
                              obtain rfl := Option.some.inj H
                              exact Exists.intro _ (And.intro (fun _ _ h => h.conv (inv := [(20, 22), (21, 23)]) (vk := []) (e0 := []) (t := ⟨[(1, .ptr 22 0 0), (3, .own 23), (4, iV .i64 x1277), (5, .im (.row (x1280.map eBucket))), (6, iV .i64 x1303), (80, bV (decide (b1310.f0 ≤ b1321.f0)))], [(22, some (.box 30 (aHist a0))), (23, some (.row 1 27 (x1302.map (encInt .u64))))], 0⟩) (by kernel_rfl)) (And.intro rfl rfl))
                            · replace H := (ifF c1320).symm.trans H
                              refine reg hP hn hm [(2, .b false)] [1, 3, 4, 5, 6, 80] [20, 21] ⟨[(1, .ptr 20 0 0), (3, .own 21), (4, iV .i64 x1277), (5, .im (.row (x1280.map eBucket))), (6, iV .i64 x1303), (80, bV false)], [(20, some (.box 30 (aHist a0))), (21, some (.row 1 27 (x1302.map (encInt .u64))))], 0⟩ [(decide (x1303 > (0 : Int))) = false] (by kernel_rfl) ⟨by exact c1320, trivial⟩ ?_
                              obtain rfl := Option.some.inj H
                              exact Exists.intro _ (And.intro (fun _ _ h => h.conv (inv := [(20, 22), (21, 23)]) (vk := []) (e0 := []) (t := ⟨[(1, .ptr 22 0 0), (3, .own 23), (4, iV .i64 x1277), (5, .im (.row (x1280.map eBucket))), (6, iV .i64 x1303), (80, bV false)], [(22, some (.box 30 (aHist a0))), (23, some (.row 1 27 (x1302.map (encInt .u64))))], 0⟩) (by kernel_rfl)) (And.intro rfl rfl))
                          · obtain ⟨x1324, rfl⟩ : ∃ z, z = o1373 := ⟨_, rfl⟩
                            rintro e s ⟨rfl, rfl⟩
                            refine AWp.cond x1324 rfl (fun c1325 => ?_) (fun c1325 => ?_)
                            · replace H := (ifT c1325).symm.trans H
                              refine AWp.seq ?_
                              refine reg hP hn hm [] [2] [] ⟨[(2, iV .i64 32)], [], 0⟩ [] (by kernel_rfl) trivial ?_
                              refine AWp.conv (inv := []) (vk := []) (e0 := []) (t := ⟨[(2, iV .i64 32)], [], 0⟩) (by kernel_rfl) ?_
                              refine AWp.ret ?_
                              obtain rfl := Option.some.inj H
                              exact Exists.intro _ (And.intro (fun _ _ h => h) (And.intro rfl (And.intro rfl (And.intro (by kernel_rfl) (by kernel_rfl)))))
                            · replace H := (ifF c1325).symm.trans H
                              refine AWp.skip ?_
                              refine AWp.seq ?_
                              refine AWp.seq ?_
                              refine reg hP hn hm [(2, .c (eBucket b1310))] [1, 3, 4, 5, 6, 86] [22, 23] ⟨[(1, .ptr 22 0 0), (3, .own 23), (4, iV .i64 x1277), (5, .im (.row (x1280.map eBucket))), (6, iV .i64 x1303), (86, bV (b1310.f1 == (0 : Int)))], [(22, some (.box 30 (aHist a0))), (23, some (.row 1 27 (x1302.map (encInt .u64))))], 0⟩ [0 ≤ x1303, (x1280.map eBucket)[(Int.toNat (x1303))]? = some (eBucket b1310)] (by kernel_rfl) ⟨by exact p1311, by exact el_map eBucket q1312, trivial⟩ ?_
                              refine AWp.cond (b1310.f1 == (0 : Int)) rfl (fun c1326 => ?_) (fun c1326 => ?_)
                              · replace H := (ifT c1326).symm.trans H
                                refine AWp.seq ?_
                                refine reg hP hn hm [] [2] [] ⟨[(2, iV .i64 21)], [], 0⟩ [] (by kernel_rfl) trivial ?_
                                refine AWp.conv (inv := []) (vk := []) (e0 := []) (t := ⟨[(2, iV .i64 21)], [], 0⟩) (by kernel_rfl) ?_
                                refine AWp.ret ?_
                                obtain rfl := Option.some.inj H
                                exact Exists.intro _ (And.intro (fun _ _ h => h) (And.intro rfl (And.intro rfl (And.intro (by kernel_rfl) (by kernel_rfl)))))
                              · replace H := (ifF c1326).symm.trans H
                                refine AWp.skip ?_
                                refine AWp.seq ?_
                                refine AWp.seq ?_
                                obtain ⟨t1329, e1330, H⟩ := bind_of H
                                refine reg hP hn hm [(4, .c (eBucket b1310)), (8, .call [] [] [] [] 0 (iV .i64 t1329) [])] [1, 3, 4, 5, 6, 98] [22, 23] ⟨[(1, .ptr 22 0 0), (3, .own 23), (4, iV .i64 x1277), (5, .im (.row (x1280.map eBucket))), (6, iV .i64 x1303), (98, bV (decide (t1329 < a0.f2)))], [(22, some (.box 30 (aHist a0))), (23, some (.row 1 27 (x1302.map (encInt .u64))))], 0⟩ [0 ≤ x1303, (x1280.map eBucket)[(Int.toNat (x1303))]? = some (eBucket b1310), Enters Try.prog 58, Pv.Fn Try.prog 58 [iV .i64 a0.f1, iV .i64 (IntKind.i64.wrap (b1310.f0 - (1 : Int)))] [] 0 (fun r o => r = iV .i64 t1329 ∧ o = [])] (by kernel_rfl) ⟨by exact p1311, by exact el_map eBucket q1312, by exact Try.call58, by exact f_pluvialref04_Units.ok a0.f1 (IntKind.i64.wrap (b1310.f0 - (1 : Int))) t1329 e1330, trivial⟩ ?_
                                refine AWp.cond (decide (t1329 < a0.f2)) rfl (fun c1331 => ?_) (fun c1331 => ?_)
                                · replace H := (ifT c1331).symm.trans H
                                  refine AWp.seq ?_
                                  refine reg hP hn hm [] [2] [] ⟨[(2, iV .i64 31)], [], 0⟩ [] (by kernel_rfl) trivial ?_
                                  refine AWp.conv (inv := []) (vk := []) (e0 := []) (t := ⟨[(2, iV .i64 31)], [], 0⟩) (by kernel_rfl) ?_
                                  refine AWp.ret ?_
                                  obtain rfl := Option.some.inj H
                                  exact Exists.intro _ (And.intro (fun _ _ h => h) (And.intro rfl (And.intro rfl (And.intro (by kernel_rfl) (by kernel_rfl)))))
                                · replace H := (ifF c1331).symm.trans H
                                  refine AWp.skip ?_
                                  obtain ⟨c1333, H⟩ := chk_of H
                                  refine reg hP hn hm [(3, .c (eBucket b1310)), (6, .app 24 ([b1310.f1].map (encInt .u64))), (7, .app 25 ((x1302 ++ [b1310.f1]).map (encInt .u64)))] [1, 3, 4, 5, 6] [22, 25] ⟨[(1, .ptr 22 0 0), (3, .own 25), (4, iV .i64 x1277), (5, .im (.row (x1280.map eBucket))), (6, iV .i64 x1303)], [(22, some (.box 30 (aHist a0))), (25, some (.row 1 27 ((x1302 ++ [b1310.f1]).map (encInt .u64))))], 0⟩ [0 ≤ x1303, (x1280.map eBucket)[(Int.toNat (x1303))]? = some (eBucket b1310), [b1310.f1].map (encInt .u64) = [[iI .u64 b1310.f1]], (x1302 ++ [b1310.f1]).map (encInt .u64) = (x1302.map (encInt .u64)) ++ ([b1310.f1].map (encInt .u64)), ∀ c ∈ ([b1310.f1].map (encInt .u64)), c.length = 1, ∀ c ∈ ([b1310.f1].map (encInt .u64)), leaves (c.map .im) = true, ((x1302.map (encInt .u64)).length + ([b1310.f1].map (encInt .u64)).length) * 8 ≤ 140737488355328] (by kernel_rfl) ⟨by exact p1311, by exact el_map eBucket q1312, by exact rfl, by simp, by exact all_len _ _ _ (fun _ => rfl), by exact all_leaf _ _ (fun _ => rfl), by simpa using c1333, trivial⟩ ?_
                                  refine reg hP hn hm [] [1, 3, 4, 5, 6] [22, 25] ⟨[(1, .ptr 22 0 0), (3, .own 25), (4, iV .i64 x1277), (5, .im (.row (x1280.map eBucket))), (6, iV .i64 (IntKind.i64.wrap (x1303 + (1 : Int))))], [(22, some (.box 30 (aHist a0))), (25, some (.row 1 27 ((x1302 ++ [b1310.f1]).map (encInt .u64))))], 0⟩ [] (by kernel_rfl) trivial ?_
                                  exact LWp.conv (inv := [(22, 20), (25, 21)]) (vk := []) (e0 := []) (t := ⟨[(1, .ptr 20 0 0), (3, .own 21), (4, iV .i64 x1277), (5, .im (.row (x1280.map eBucket))), (6, iV .i64 (IntKind.i64.wrap (x1303 + (1 : Int))))], [(20, some (.box 30 (aHist a0))), (21, some (.row 1 27 ((x1302 ++ [b1310.f1]).map (encInt .u64))))], 0⟩) (by kernel_rfl) (ih _ _ _ H)
                      · replace H := (ifF c1304).symm.trans H
                        refine AWp.exit ?_
                        obtain rfl := Option.some.inj H
                        exact Exists.intro _ (And.intro (fun _ _ h => h.conv (inv := [(20, 26), (21, 27)]) (vk := []) (e0 := []) (t := ⟨[(1, .ptr 26 0 0), (3, .own 27), (4, iV .i64 x1277)], [(26, some (.box 30 (aHist a0))), (27, some (.row 1 27 (x1302.map (encInt .u64))))], 0⟩) (by kernel_rfl)) (And.intro rfl rfl))
                    · rcases o1371 with rr | x1334
                      · skip
                        rintro e s ⟨rfl, hfl, hres⟩
                        obtain rfl := Option.some.inj H
                        exact Exists.intro _ (And.intro (fun _ _ h => h) (And.intro rfl (And.intro hfl hres)))
                      · skip
                        rintro e s ⟨rfl, rfl⟩
                        refine reg hP hn hm [] [1, 3, 4] [26, 27] ⟨[(1, .ptr 26 0 0), (3, .own 27), (4, iV .i64 (IntKind.i64.wrap (x1277 + (1 : Int))))], [(26, some (.box 30 (aHist a0))), (27, some (.row 1 27 (x1334.map (encInt .u64))))], 0⟩ [] (by kernel_rfl) trivial ?_
                        exact LWp.conv (inv := [(26, 14), (27, 15)]) (vk := []) (e0 := []) (t := ⟨[(1, .ptr 14 0 0), (3, .own 15), (4, iV .i64 (IntKind.i64.wrap (x1277 + (1 : Int))))], [(14, some (.box 30 (aHist a0))), (15, some (.row 1 27 (x1334.map (encInt .u64))))], 0⟩) (by kernel_rfl) (ih _ _ _ H)
              · replace H := (ifF c1278).symm.trans H
                refine AWp.exit ?_
                obtain rfl := Option.some.inj H
                exact Exists.intro _ (And.intro (fun _ _ h => h.conv (inv := [(14, 28), (15, 29)]) (vk := []) (e0 := []) (t := ⟨[(1, .ptr 28 0 0), (3, .own 29)], [(28, some (.box 30 (aHist a0))), (29, some (.row 1 27 (x1276.map (encInt .u64))))], 0⟩) (by kernel_rfl)) (And.intro rfl rfl))
            · rcases o1367 with rr | x1335
              · skip
                rintro e s ⟨rfl, hfl, hres⟩
                obtain rfl := Option.some.inj H
                exact Exists.intro _ (And.intro (fun _ _ h => h) (And.intro (.inl rfl) (And.intro hfl hres)))
              · skip
                rintro e s ⟨rfl, rfl⟩
                refine AWp.seq ?_
                obtain ⟨t1359, e1360, H⟩ := bind_of H
                refine reg hP hn hm [(1, .call [] [] [29] [] 0 (.tup [iV .u64 t1359.1, iV .i64 t1359.2]) [])] [1, 7, 8] [28] ⟨[(1, .ptr 28 0 0), (7, iV .u64 t1359.1), (8, iV .i64 t1359.2)], [(28, some (.box 30 (aHist a0)))], 0⟩ [Enters Try.prog 59, Pv.Fn Try.prog 59 [.im (.row (x1335.map (encInt .u64)))] [] 0 (fun r o => r = .tup [iV .u64 t1359.1, iV .i64 t1359.2] ∧ o = [])] (by kernel_rfl) ⟨by exact Try.call59, by exact f_pluvialref01_Add.ok x1335 t1359 e1360, trivial⟩ ?_
                refine AWp.seq ?_
                refine AWp.seq ?_
                refine reg hP hn hm [] [1, 7, 113] [28] ⟨[(1, .ptr 28 0 0), (7, iV .u64 t1359.1), (113, bV (t1359.2 != (0 : Int)))], [(28, some (.box 30 (aHist a0)))], 0⟩ [] (by kernel_rfl) trivial ?_
                refine AWp.cond (t1359.2 != (0 : Int)) rfl (fun c1361 => ?_) (fun c1361 => ?_)
                · replace H := (ifT c1361).symm.trans H
                  refine AWp.seq ?_
                  refine reg hP hn hm [] [2] [] ⟨[(2, iV .i64 5)], [], 0⟩ [] (by kernel_rfl) trivial ?_
                  refine AWp.conv (inv := []) (vk := []) (e0 := []) (t := ⟨[(2, iV .i64 5)], [], 0⟩) (by kernel_rfl) ?_
                  refine AWp.ret ?_
                  obtain rfl := Option.some.inj H
                  exact Exists.intro _ (And.intro (fun _ _ h => h) (And.intro (.inl rfl) (And.intro rfl (And.intro (by kernel_rfl) (by kernel_rfl)))))
                · replace H := (ifF c1361).symm.trans H
                  refine AWp.skip ?_
                  refine AWp.seq ?_
                  refine AWp.seq ?_
                  refine reg hP hn hm [] [117] [] ⟨[(117, bV (t1359.1 != a0.f4))], [], 0⟩ [] (by kernel_rfl) trivial ?_
                  refine AWp.cond (t1359.1 != a0.f4) rfl (fun c1362 => ?_) (fun c1362 => ?_)
                  · replace H := (ifT c1362).symm.trans H
                    refine AWp.seq ?_
                    refine reg hP hn hm [] [2] [] ⟨[(2, iV .i64 21)], [], 0⟩ [] (by kernel_rfl) trivial ?_
                    refine AWp.conv (inv := []) (vk := []) (e0 := []) (t := ⟨[(2, iV .i64 21)], [], 0⟩) (by kernel_rfl) ?_
                    refine AWp.ret ?_
                    obtain rfl := Option.some.inj H
                    exact Exists.intro _ (And.intro (fun _ _ h => h) (And.intro (.inl rfl) (And.intro rfl (And.intro (by kernel_rfl) (by kernel_rfl)))))
                  · replace H := (ifF c1362).symm.trans H
                    refine AWp.skip ?_
                    refine AWp.seq ?_
                    refine reg hP hn hm [] [2] [] ⟨[(2, iV .i64 0)], [], 0⟩ [] (by kernel_rfl) trivial ?_
                    refine AWp.conv (inv := []) (vk := []) (e0 := []) (t := ⟨[(2, iV .i64 0)], [], 0⟩) (by kernel_rfl) ?_
                    refine AWp.ret ?_
                    obtain rfl := Option.some.inj H
                    exact Exists.intro _ (And.intro (fun _ _ h => h) (And.intro (.inl rfl) (And.intro rfl (And.intro (by kernel_rfl) (by kernel_rfl)))))
def f_hist_Cells.l0 (a0 : THist) (x1400 : List (Tbound_Key × Int)) (x1401 : Int) : Option (List (Tbound_Key × Int)) := if (decide (x1401 < (a0.f6.length : Int))) = true then ((at? a0.f6 x1401) >>= fun b1406 => f_hist_Cells.l0 a0 (mput x1400 (⟨1, a0.f1, b1406.f0⟩ : Tbound_Key) b1406.f1) (IntKind.i64.wrap (x1401 + (1 : Int)))) else (some x1400)
partial_fixpoint
def f_hist_Cells.l1 (a0 : THist) (x1417 : List (Tbound_Key × Int)) (x1418 : Int) : Option (List (Tbound_Key × Int)) := if (decide (x1418 < (a0.f7.length : Int))) = true then ((at? a0.f7 x1418) >>= fun b1423 => f_hist_Cells.l1 a0 (mput x1417 (⟨(-1), a0.f1, b1423.f0⟩ : Tbound_Key) b1423.f1) (IntKind.i64.wrap (x1418 + (1 : Int)))) else (some x1417)
partial_fixpoint
def f_hist_Cells.f (a0 : THist) : Option (List (Tbound_Key × Int)) := ((if (decide (a0.f3 > (0 : Int))) = true then (some (mput ([] : List (Tbound_Key × Int)) (⟨0, 0, 0⟩ : Tbound_Key) a0.f3)) else (some ([] : List (Tbound_Key × Int)))) : Option (List (Tbound_Key × Int))) >>= fun x1392 => (f_hist_Cells.l0 a0 x1392 0) >>= fun x1409 => (f_hist_Cells.l1 a0 x1409 0) >>= fun x1426 => some x1426
theorem f_hist_Cells.ok (a0 : THist) (r : List (Tbound_Key × Int)) (H : f_hist_Cells.f a0 = some r) : Pv.Fn Try.prog 32 [.agg (aHist a0)] [] 0 (fun x o => x = .mown 0 ∧ o = [(0, some (.map (mE (fun x => Value.agg (vkbound_Key x).toArray) (iI .u64) r)))]) := by
  unfold f_hist_Cells.f at H
  refine Fn.bodyK [0] Try.func32 rfl rfl (fun Γ hP hn => ?_)
  have hm : Try.prog.follows .mixedOrders = true := by kernel_rfl
  replace hn : Γ.n = 49 := hn
  refine AWp.seq ?_
  refine reg hP hn hm [(0, .k 0)] [1] [0] ⟨[(1, .ptr 0 0 0)], [(0, some (.box 30 (aHist a0)))], 0⟩ [] (by kernel_rfl) trivial ?_
  refine AWp.seq ?_
  refine reg hP hn hm [(0, .more (xMk 1))] [1, 3] [0, 1] ⟨[(1, .ptr 0 0 0), (3, .mown 1)], [(0, some (.box 30 (aHist a0))), (1, some (.map (mE (fun x => Value.agg (vkbound_Key x).toArray) (iI .u64) ([] : List (Tbound_Key × Int)))))], 0⟩ [] (by kernel_rfl) trivial ?_
  refine AWp.seq ?_
  refine AWp.seq ?_
  refine reg hP hn hm [] [1, 3, 11] [0, 1] ⟨[(1, .ptr 0 0 0), (3, .mown 1), (11, bV (decide (a0.f3 > (0 : Int))))], [(0, some (.box 30 (aHist a0))), (1, some (.map (mE (fun x => Value.agg (vkbound_Key x).toArray) (iI .u64) ([] : List (Tbound_Key × Int)))))], 0⟩ [] (by kernel_rfl) trivial ?_
  obtain ⟨o1427, e1428, H⟩ := bind_of H
  refine AWp.mono (Q := fun e s => (match (generalizing := false) o1427 with | x1392 => e = .normal ∧ s = ⟨[(1, .ptr 2 0 0), (3, .mown 3)], [(2, some (.box 30 (aHist a0))), (3, some (.map (mE (fun x => Value.agg (vkbound_Key x).toArray) (iI .u64) x1392)))], 0⟩)) (AWp.cv ?_) ?_
  · replace H := e1428; clear e1428
    refine AWp.cond (decide (a0.f3 > (0 : Int))) rfl (fun c1391 => ?_) (fun c1391 => ?_)
    · replace H := (ifT c1391).symm.trans H
      refine reg hP hn hm [(4, .more (xPut (fun x => Value.agg (vkbound_Key x).toArray) (iI .u64) ([] : List (Tbound_Key × Int)) (⟨0, 0, 0⟩ : Tbound_Key) a0.f3))] [1, 3] [0, 1] ⟨[(1, .ptr 0 0 0), (3, .mown 1)], [(0, some (.box 30 (aHist a0))), (1, some (.map (mE (fun x => Value.agg (vkbound_Key x).toArray) (iI .u64) (mput ([] : List (Tbound_Key × Int)) (⟨0, 0, 0⟩ : Tbound_Key) a0.f3))))], 0⟩ [KeyOK Try.prog 53 (fun x => Value.agg (vkbound_Key x).toArray), mE (fun x => Value.agg (vkbound_Key x).toArray) (iI .u64) ([] : List (Tbound_Key × Int)) = mE (fun x => Value.agg (vkbound_Key x).toArray) (iI .u64) ([] : List (Tbound_Key × Int)), valA (.agg (abound_Key ⟨0, 0, 0⟩)) = some ((fun x => Value.agg (vkbound_Key x).toArray) (⟨0, 0, 0⟩ : Tbound_Key)), iI .u64 a0.f3 = (iI .u64) a0.f3] (by kernel_rfl) ⟨by exact keyok53, by exact rfl, by exact rfl, by exact rfl, trivial⟩ ?_
      obtain rfl := Option.some.inj H
      exact Exists.intro _ (And.intro (fun _ _ h => h.conv (inv := [(0, 2), (1, 3)]) (vk := []) (e0 := []) (t := ⟨[(1, .ptr 2 0 0), (3, .mown 3)], [(2, some (.box 30 (aHist a0))), (3, some (.map (mE (fun x => Value.agg (vkbound_Key x).toArray) (iI .u64) (mput ([] : List (Tbound_Key × Int)) (⟨0, 0, 0⟩ : Tbound_Key) a0.f3))))], 0⟩) (by kernel_rfl)) (And.intro rfl rfl))
    · replace H := (ifF c1391).symm.trans H
      refine AWp.skip ?_
      obtain rfl := Option.some.inj H
      exact Exists.intro _ (And.intro (fun _ _ h => h.conv (inv := [(0, 2), (1, 3)]) (vk := []) (e0 := []) (t := ⟨[(1, .ptr 2 0 0), (3, .mown 3)], [(2, some (.box 30 (aHist a0))), (3, some (.map (mE (fun x => Value.agg (vkbound_Key x).toArray) (iI .u64) ([] : List (Tbound_Key × Int)))))], 0⟩) (by kernel_rfl)) (And.intro rfl rfl))
  · obtain ⟨x1392, rfl⟩ : ∃ z, z = o1427 := ⟨_, rfl⟩
    rintro e s ⟨rfl, rfl⟩
    refine AWp.seq ?_
    refine AWp.seq ?_
    refine reg hP hn hm [(2, .any (iV .i64 (a0.f6.length : Int)))] [1, 3, 17, 18, 19] [2, 3] ⟨[(1, .ptr 2 0 0), (3, .mown 3), (17, .im (.row (a0.f6.map eBucket))), (18, iV .i64 (a0.f6.length : Int)), (19, iV .i64 0)], [(2, some (.box 30 (aHist a0))), (3, some (.map (mE (fun x => Value.agg (vkbound_Key x).toArray) (iI .u64) x1392)))], 0⟩ [((a0.f6.map eBucket).length : Int) = (a0.f6.length : Int)] (by kernel_rfl) ⟨by rw [len_map], trivial⟩ ?_
    refine AWp.block ?_
    obtain ⟨o1429, e1430, H⟩ := bind_of H
    refine AWp.loop (LWp.conv (inv := [(2, 5), (3, 6)]) (vk := []) (e0 := []) (t := ⟨[(1, .ptr 5 0 0), (3, .mown 6), (17, .im (.row (a0.f6.map eBucket))), (18, iV .i64 (a0.f6.length : Int)), (19, iV .i64 0)], [(5, some (.box 30 (aHist a0))), (6, some (.map (mE (fun x => Value.agg (vkbound_Key x).toArray) (iI .u64) x1392)))], 0⟩) (by kernel_rfl) ?_)
    refine LWp.mono (Q := fun e s => (match (generalizing := false) o1429 with | x1409 => e = .exit 0 ∧ s = ⟨[(1, .ptr 8 0 0), (3, .mown 9)], [(8, some (.box 30 (aHist a0))), (9, some (.map (mE (fun x => Value.agg (vkbound_Key x).toArray) (iI .u64) x1409)))], 0⟩)) (LWp.cv (withBody (fun body hbody => ?_))) ?_
    · refine f_hist_Cells.l0.partial_correctness a0 (motive := fun x1400 x1401 o1429 => LWp Γ body (fun e s => ∃ t, Cv Γ s t ∧ (match (generalizing := false) o1429 with | x1409 => e = .exit 0 ∧ t = ⟨[(1, .ptr 8 0 0), (3, .mown 9)], [(8, some (.box 30 (aHist a0))), (9, some (.map (mE (fun x => Value.agg (vkbound_Key x).toArray) (iI .u64) x1409)))], 0⟩)) ⟨[(1, .ptr 5 0 0), (3, .mown 6), (17, .im (.row (a0.f6.map eBucket))), (18, iV .i64 (a0.f6.length : Int)), (19, iV .i64 x1401)], [(5, some (.box 30 (aHist a0))), (6, some (.map (mE (fun x => Value.agg (vkbound_Key x).toArray) (iI .u64) x1400)))], 0⟩) ?_ _ _ _ e1430
      clear H e1430 o1429; intro self ih x1400 x1401 o1429 H
      subst hbody
      refine LWp.round ?_
      refine AWp.seq ?_
      refine reg hP hn hm [] [1, 3, 17, 18, 19, 20] [5, 6] ⟨[(1, .ptr 5 0 0), (3, .mown 6), (17, .im (.row (a0.f6.map eBucket))), (18, iV .i64 (a0.f6.length : Int)), (19, iV .i64 x1401), (20, bV (decide (x1401 < (a0.f6.length : Int))))], [(5, some (.box 30 (aHist a0))), (6, some (.map (mE (fun x => Value.agg (vkbound_Key x).toArray) (iI .u64) x1400)))], 0⟩ [] (by kernel_rfl) trivial ?_
      refine AWp.seq ?_
      refine AWp.cond (decide (x1401 < (a0.f6.length : Int))) rfl (fun c1402 => ?_) (fun c1402 => ?_)
      · replace H := (ifT c1402).symm.trans H
        refine AWp.skip ?_
        refine AWp.seq ?_
        refine AWp.block ?_
        refine AWp.seq ?_
        obtain ⟨b1406, p1407, q1408, H⟩ := at_of H
        refine reg hP hn hm [(0, .c (eBucket b1406)), (2, .k 7)] [1, 3, 5, 17, 18, 19] [5, 6, 7] ⟨[(1, .ptr 5 0 0), (3, .mown 6), (5, .ptr 7 0 0), (17, .im (.row (a0.f6.map eBucket))), (18, iV .i64 (a0.f6.length : Int)), (19, iV .i64 x1401)], [(5, some (.box 30 (aHist a0))), (6, some (.map (mE (fun x => Value.agg (vkbound_Key x).toArray) (iI .u64) x1400))), (7, some (.box 36 (aBucket b1406)))], 0⟩ [0 ≤ x1401, (a0.f6.map eBucket)[(Int.toNat (x1401))]? = some (eBucket b1406)] (by kernel_rfl) ⟨by exact p1407, by exact el_map eBucket q1408, trivial⟩ ?_
        refine reg hP hn hm [(8, .more (xPut (fun x => Value.agg (vkbound_Key x).toArray) (iI .u64) x1400 (⟨1, a0.f1, b1406.f0⟩ : Tbound_Key) b1406.f1))] [1, 3, 17, 18, 19] [5, 6] ⟨[(1, .ptr 5 0 0), (3, .mown 6), (17, .im (.row (a0.f6.map eBucket))), (18, iV .i64 (a0.f6.length : Int)), (19, iV .i64 x1401)], [(5, some (.box 30 (aHist a0))), (6, some (.map (mE (fun x => Value.agg (vkbound_Key x).toArray) (iI .u64) (mput x1400 (⟨1, a0.f1, b1406.f0⟩ : Tbound_Key) b1406.f1))))], 0⟩ [KeyOK Try.prog 53 (fun x => Value.agg (vkbound_Key x).toArray), mE (fun x => Value.agg (vkbound_Key x).toArray) (iI .u64) x1400 = mE (fun x => Value.agg (vkbound_Key x).toArray) (iI .u64) x1400, valA (.agg (abound_Key ⟨1, a0.f1, b1406.f0⟩)) = some ((fun x => Value.agg (vkbound_Key x).toArray) (⟨1, a0.f1, b1406.f0⟩ : Tbound_Key)), iI .u64 b1406.f1 = (iI .u64) b1406.f1] (by kernel_rfl) ⟨by exact keyok53, by exact rfl, by exact rfl, by exact rfl, trivial⟩ ?_
        refine reg hP hn hm [] [1, 3, 17, 18, 19] [5, 6] ⟨[(1, .ptr 5 0 0), (3, .mown 6), (17, .im (.row (a0.f6.map eBucket))), (18, iV .i64 (a0.f6.length : Int)), (19, iV .i64 (IntKind.i64.wrap (x1401 + (1 : Int))))], [(5, some (.box 30 (aHist a0))), (6, some (.map (mE (fun x => Value.agg (vkbound_Key x).toArray) (iI .u64) (mput x1400 (⟨1, a0.f1, b1406.f0⟩ : Tbound_Key) b1406.f1))))], 0⟩ [] (by kernel_rfl) trivial ?_
        exact LWp.conv (inv := [(5, 5), (6, 6)]) (vk := []) (e0 := []) (t := ⟨[(1, .ptr 5 0 0), (3, .mown 6), (17, .im (.row (a0.f6.map eBucket))), (18, iV .i64 (a0.f6.length : Int)), (19, iV .i64 (IntKind.i64.wrap (x1401 + (1 : Int))))], [(5, some (.box 30 (aHist a0))), (6, some (.map (mE (fun x => Value.agg (vkbound_Key x).toArray) (iI .u64) (mput x1400 (⟨1, a0.f1, b1406.f0⟩ : Tbound_Key) b1406.f1))))], 0⟩) (by kernel_rfl) (ih _ _ _ H)
      · replace H := (ifF c1402).symm.trans H
        refine AWp.exit ?_
        obtain rfl := Option.some.inj H
        exact Exists.intro _ (And.intro (fun _ _ h => h.conv (inv := [(5, 8), (6, 9)]) (vk := []) (e0 := []) (t := ⟨[(1, .ptr 8 0 0), (3, .mown 9)], [(8, some (.box 30 (aHist a0))), (9, some (.map (mE (fun x => Value.agg (vkbound_Key x).toArray) (iI .u64) x1400)))], 0⟩) (by kernel_rfl)) (And.intro rfl rfl))
    · obtain ⟨x1409, rfl⟩ : ∃ z, z = o1429 := ⟨_, rfl⟩
      rintro e s ⟨rfl, rfl⟩
      refine AWp.seq ?_
      refine AWp.seq ?_
      refine reg hP hn hm [(2, .any (iV .i64 (a0.f7.length : Int)))] [1, 3, 33, 34, 35] [8, 9] ⟨[(1, .ptr 8 0 0), (3, .mown 9), (33, .im (.row (a0.f7.map eBucket))), (34, iV .i64 (a0.f7.length : Int)), (35, iV .i64 0)], [(8, some (.box 30 (aHist a0))), (9, some (.map (mE (fun x => Value.agg (vkbound_Key x).toArray) (iI .u64) x1409)))], 0⟩ [((a0.f7.map eBucket).length : Int) = (a0.f7.length : Int)] (by kernel_rfl) ⟨by rw [len_map], trivial⟩ ?_
      refine AWp.block ?_
      obtain ⟨o1431, e1432, H⟩ := bind_of H
      refine AWp.loop (LWp.conv (inv := [(8, 11), (9, 12)]) (vk := []) (e0 := []) (t := ⟨[(1, .ptr 11 0 0), (3, .mown 12), (33, .im (.row (a0.f7.map eBucket))), (34, iV .i64 (a0.f7.length : Int)), (35, iV .i64 0)], [(11, some (.box 30 (aHist a0))), (12, some (.map (mE (fun x => Value.agg (vkbound_Key x).toArray) (iI .u64) x1409)))], 0⟩) (by kernel_rfl) ?_)
      refine LWp.mono (Q := fun e s => (match (generalizing := false) o1431 with | x1426 => e = .exit 2 ∧ s = ⟨[(3, .mown 14)], [(14, some (.map (mE (fun x => Value.agg (vkbound_Key x).toArray) (iI .u64) x1426)))], 0⟩)) (LWp.cv (withBody (fun body hbody => ?_))) ?_
      · refine f_hist_Cells.l1.partial_correctness a0 (motive := fun x1417 x1418 o1431 => LWp Γ body (fun e s => ∃ t, Cv Γ s t ∧ (match (generalizing := false) o1431 with | x1426 => e = .exit 2 ∧ t = ⟨[(3, .mown 14)], [(14, some (.map (mE (fun x => Value.agg (vkbound_Key x).toArray) (iI .u64) x1426)))], 0⟩)) ⟨[(1, .ptr 11 0 0), (3, .mown 12), (33, .im (.row (a0.f7.map eBucket))), (34, iV .i64 (a0.f7.length : Int)), (35, iV .i64 x1418)], [(11, some (.box 30 (aHist a0))), (12, some (.map (mE (fun x => Value.agg (vkbound_Key x).toArray) (iI .u64) x1417)))], 0⟩) ?_ _ _ _ e1432
        clear H e1432 o1431; intro self ih x1417 x1418 o1431 H
        subst hbody
        refine LWp.round ?_
        refine AWp.seq ?_
        refine reg hP hn hm [] [1, 3, 33, 34, 35, 36] [11, 12] ⟨[(1, .ptr 11 0 0), (3, .mown 12), (33, .im (.row (a0.f7.map eBucket))), (34, iV .i64 (a0.f7.length : Int)), (35, iV .i64 x1418), (36, bV (decide (x1418 < (a0.f7.length : Int))))], [(11, some (.box 30 (aHist a0))), (12, some (.map (mE (fun x => Value.agg (vkbound_Key x).toArray) (iI .u64) x1417)))], 0⟩ [] (by kernel_rfl) trivial ?_
        refine AWp.seq ?_
        refine AWp.cond (decide (x1418 < (a0.f7.length : Int))) rfl (fun c1419 => ?_) (fun c1419 => ?_)
        · replace H := (ifT c1419).symm.trans H
          refine AWp.skip ?_
          refine AWp.seq ?_
          refine AWp.block ?_
          refine AWp.seq ?_
          obtain ⟨b1423, p1424, q1425, H⟩ := at_of H
          refine reg hP hn hm [(0, .c (eBucket b1423)), (2, .k 13)] [1, 3, 7, 33, 34, 35] [11, 12, 13] ⟨[(1, .ptr 11 0 0), (3, .mown 12), (7, .ptr 13 0 0), (33, .im (.row (a0.f7.map eBucket))), (34, iV .i64 (a0.f7.length : Int)), (35, iV .i64 x1418)], [(11, some (.box 30 (aHist a0))), (12, some (.map (mE (fun x => Value.agg (vkbound_Key x).toArray) (iI .u64) x1417))), (13, some (.box 36 (aBucket b1423)))], 0⟩ [0 ≤ x1418, (a0.f7.map eBucket)[(Int.toNat (x1418))]? = some (eBucket b1423)] (by kernel_rfl) ⟨by exact p1424, by exact el_map eBucket q1425, trivial⟩ ?_
          refine reg hP hn hm [(8, .more (xPut (fun x => Value.agg (vkbound_Key x).toArray) (iI .u64) x1417 (⟨(-1), a0.f1, b1423.f0⟩ : Tbound_Key) b1423.f1))] [1, 3, 33, 34, 35] [11, 12] ⟨[(1, .ptr 11 0 0), (3, .mown 12), (33, .im (.row (a0.f7.map eBucket))), (34, iV .i64 (a0.f7.length : Int)), (35, iV .i64 x1418)], [(11, some (.box 30 (aHist a0))), (12, some (.map (mE (fun x => Value.agg (vkbound_Key x).toArray) (iI .u64) (mput x1417 (⟨(-1), a0.f1, b1423.f0⟩ : Tbound_Key) b1423.f1))))], 0⟩ [KeyOK Try.prog 53 (fun x => Value.agg (vkbound_Key x).toArray), mE (fun x => Value.agg (vkbound_Key x).toArray) (iI .u64) x1417 = mE (fun x => Value.agg (vkbound_Key x).toArray) (iI .u64) x1417, valA (.agg (abound_Key ⟨(-1), a0.f1, b1423.f0⟩)) = some ((fun x => Value.agg (vkbound_Key x).toArray) (⟨(-1), a0.f1, b1423.f0⟩ : Tbound_Key)), iI .u64 b1423.f1 = (iI .u64) b1423.f1] (by kernel_rfl) ⟨by exact keyok53, by exact rfl, by exact rfl, by exact rfl, trivial⟩ ?_
          refine reg hP hn hm [] [1, 3, 33, 34, 35] [11, 12] ⟨[(1, .ptr 11 0 0), (3, .mown 12), (33, .im (.row (a0.f7.map eBucket))), (34, iV .i64 (a0.f7.length : Int)), (35, iV .i64 (IntKind.i64.wrap (x1418 + (1 : Int))))], [(11, some (.box 30 (aHist a0))), (12, some (.map (mE (fun x => Value.agg (vkbound_Key x).toArray) (iI .u64) (mput x1417 (⟨(-1), a0.f1, b1423.f0⟩ : Tbound_Key) b1423.f1))))], 0⟩ [] (by kernel_rfl) trivial ?_
          exact LWp.conv (inv := [(11, 11), (12, 12)]) (vk := []) (e0 := []) (t := ⟨[(1, .ptr 11 0 0), (3, .mown 12), (33, .im (.row (a0.f7.map eBucket))), (34, iV .i64 (a0.f7.length : Int)), (35, iV .i64 (IntKind.i64.wrap (x1418 + (1 : Int))))], [(11, some (.box 30 (aHist a0))), (12, some (.map (mE (fun x => Value.agg (vkbound_Key x).toArray) (iI .u64) (mput x1417 (⟨(-1), a0.f1, b1423.f0⟩ : Tbound_Key) b1423.f1))))], 0⟩) (by kernel_rfl) (ih _ _ _ H)
        · replace H := (ifF c1419).symm.trans H
          refine AWp.exit ?_
          obtain rfl := Option.some.inj H
          exact Exists.intro _ (And.intro (fun _ _ h => h.conv (inv := [(12, 14)]) (vk := []) (e0 := []) (t := ⟨[(3, .mown 14)], [(14, some (.map (mE (fun x => Value.agg (vkbound_Key x).toArray) (iI .u64) x1417)))], 0⟩) (by kernel_rfl)) (And.intro rfl rfl))
      · obtain ⟨x1426, rfl⟩ : ∃ z, z = o1431 := ⟨_, rfl⟩
        rintro e s ⟨rfl, rfl⟩
        refine AWp.seq ?_
        refine reg hP hn hm [] [2] [14] ⟨[(2, .mown 14)], [(14, some (.map (mE (fun x => Value.agg (vkbound_Key x).toArray) (iI .u64) x1426)))], 0⟩ [] (by kernel_rfl) trivial ?_
        refine AWp.conv (inv := [(14, 0)]) (vk := []) (e0 := []) (t := ⟨[(2, .mown 0)], [(0, some (.map (mE (fun x => Value.agg (vkbound_Key x).toArray) (iI .u64) x1426)))], 0⟩) (by kernel_rfl) ?_
        refine AWp.ret ?_
        obtain rfl := Option.some.inj H
        exact Exists.intro _ (And.intro (fun _ _ h => h) (And.intro (.inl rfl) (And.intro rfl (And.intro (by kernel_rfl) (by kernel_rfl)))))
def f_hist_At_1.f (a0 : TBucket) (a1 : Int) : Option (Int) := (f_cmp_Compare_int.f a0.f0 a1) >>= fun t1558 => some t1558
theorem f_hist_At_1.ok (a0 : TBucket) (a1 : Int) (r : Int) (H : f_hist_At_1.f a0 a1 = some r) : Pv.Fn Try.prog 61 [.agg (aBucket a0), iV .i64 a1] [] 0 (fun x o => x = iV .i64 r ∧ o = []) := by
  unfold f_hist_At_1.f at H
  refine Fn.bodyK [] Try.func61 rfl rfl (fun Γ hP hn => ?_)
  have hm : Try.prog.follows .mixedOrders = true := by kernel_rfl
  replace hn : Γ.n = 9 := hn
  refine AWp.seq ?_
  refine reg hP hn hm [(0, .k 0)] [1, 2] [0] ⟨[(1, iV .i64 a1), (2, .ptr 0 0 0)], [(0, some (.box 36 (aBucket a0)))], 0⟩ [] (by kernel_rfl) trivial ?_
  refine AWp.seq ?_
  obtain ⟨t1558, e1559, H⟩ := bind_of H
  refine reg hP hn hm [(3, .call [] [] [] [] 0 (iV .i64 t1558) [])] [4] [] ⟨[(4, iV .i64 t1558)], [], 0⟩ [Enters Try.prog 62, Pv.Fn Try.prog 62 [iV .i64 a0.f0, iV .i64 a1] [] 0 (fun r o => r = iV .i64 t1558 ∧ o = [])] (by kernel_rfl) ⟨by exact Try.call62, by exact f_cmp_Compare_int.ok a0.f0 a1 t1558 e1559, trivial⟩ ?_
  refine AWp.conv (inv := []) (vk := []) (e0 := []) (t := ⟨[(4, iV .i64 t1558)], [], 0⟩) (by kernel_rfl) ?_
  refine AWp.ret ?_
  obtain rfl := Option.some.inj H
  exact Exists.intro _ (And.intro (fun _ _ h => h) (And.intro (.inl rfl) (And.intro rfl (And.intro (by kernel_rfl) (by kernel_rfl)))))
def f_slices_BinarySearchFunc_api_Bucket_hist_At_1.l0 (a0 : List TBucket) (a1 : Int) (x1570 : Int) (x1571 : Int) : Option (Int) := if (decide (x1570 < x1571)) = true then ((at? a0 (IntKind.i64.wrap (Int.fdiv (IntKind.u64.wrap (IntKind.i64.wrap (x1570 + x1571))) 2))) >>= fun b1578 => (f_hist_At_1.f b1578 a1) >>= fun t1581 => ((if (decide (t1581 < (0 : Int))) = true then (some (IntKind.i64.wrap ((IntKind.i64.wrap (Int.fdiv (IntKind.u64.wrap (IntKind.i64.wrap (x1570 + x1571))) 2)) + (1 : Int)), x1571)) else (some (x1570, IntKind.i64.wrap (Int.fdiv (IntKind.u64.wrap (IntKind.i64.wrap (x1570 + x1571))) 2)))) : Option (Int × Int)) >>= fun oo => match oo with | (x1584, x1585) => (f_slices_BinarySearchFunc_api_Bucket_hist_At_1.l0 a0 a1 x1584 x1585)) else (some x1570)
partial_fixpoint
def f_slices_BinarySearchFunc_api_Bucket_hist_At_1.f (a0 : List TBucket) (a1 : Int) : Option (Int × Bool) := (f_slices_BinarySearchFunc_api_Bucket_hist_At_1.l0 a0 a1 0 (a0.length : Int)) >>= fun x1586 => ((if (decide (x1586 < (a0.length : Int))) = true then ((at? a0 x1586) >>= fun b1594 => (f_hist_At_1.f b1594 a1) >>= fun t1597 => some (t1597 == (0 : Int))) else (some false)) : Option (Bool)) >>= fun x1599 => some (x1586, x1599)
theorem f_slices_BinarySearchFunc_api_Bucket_hist_At_1.ok (a0 : List TBucket) (a1 : Int) (r : Int × Bool) (H : f_slices_BinarySearchFunc_api_Bucket_hist_At_1.f a0 a1 = some r) : Pv.Fn Try.prog 60 [.im (.row (a0.map eBucket)), iV .i64 a1, .im (.sc (.func (.func 61) #[] #[]))] [] 0 (fun x o => x = .tup [iV .i64 r.1, bV r.2] ∧ o = []) := by
  unfold f_slices_BinarySearchFunc_api_Bucket_hist_At_1.f at H
  refine Fn.bodyK [] Try.func60 rfl rfl (fun Γ hP hn => ?_)
  have hm : Try.prog.follows .mixedOrders = true := by kernel_rfl
  replace hn : Γ.n = 49 := hn
  refine AWp.seq ?_
  refine reg hP hn hm [] [0, 1, 2] [] ⟨[(0, .im (.row (a0.map eBucket))), (1, iV .i64 a1), (2, .im (.sc (.func (.func 61) #[] #[])))], [], 0⟩ [] (by kernel_rfl) trivial ?_
  refine AWp.seq ?_
  refine reg hP hn hm [(1, .any (iV .i64 (a0.length : Int)))] [0, 1, 2, 8] [] ⟨[(0, .im (.row (a0.map eBucket))), (1, iV .i64 a1), (2, .im (.sc (.func (.func 61) #[] #[]))), (8, iV .i64 (a0.length : Int))], [], 0⟩ [((a0.map eBucket).length : Int) = (a0.length : Int)] (by kernel_rfl) ⟨by rw [len_map], trivial⟩ ?_
  refine AWp.seq ?_
  refine reg hP hn hm [] [0, 1, 2, 8, 9, 10] [] ⟨[(0, .im (.row (a0.map eBucket))), (1, iV .i64 a1), (2, .im (.sc (.func (.func 61) #[] #[]))), (8, iV .i64 (a0.length : Int)), (9, iV .i64 0), (10, iV .i64 (a0.length : Int))], [], 0⟩ [] (by kernel_rfl) trivial ?_
  refine AWp.seq ?_
  refine AWp.block ?_
  obtain ⟨o1600, e1601, H⟩ := bind_of H
  refine AWp.loop (LWp.conv (inv := []) (vk := []) (e0 := []) (t := ⟨[(0, .im (.row (a0.map eBucket))), (1, iV .i64 a1), (2, .im (.sc (.func (.func 61) #[] #[]))), (8, iV .i64 (a0.length : Int)), (9, iV .i64 0), (10, iV .i64 (a0.length : Int))], [], 0⟩) (by kernel_rfl) ?_)
  refine LWp.mono (Q := fun e s => (match (generalizing := false) o1600 with | x1586 => e = .exit 0 ∧ s = ⟨[(0, .im (.row (a0.map eBucket))), (1, iV .i64 a1), (2, .im (.sc (.func (.func 61) #[] #[]))), (8, iV .i64 (a0.length : Int)), (9, iV .i64 x1586)], [], 0⟩)) (LWp.cv (withBody (fun body hbody => ?_))) ?_
  · refine f_slices_BinarySearchFunc_api_Bucket_hist_At_1.l0.partial_correctness a0 a1 (motive := fun x1570 x1571 o1600 => LWp Γ body (fun e s => ∃ t, Cv Γ s t ∧ (match (generalizing := false) o1600 with | x1586 => e = .exit 0 ∧ t = ⟨[(0, .im (.row (a0.map eBucket))), (1, iV .i64 a1), (2, .im (.sc (.func (.func 61) #[] #[]))), (8, iV .i64 (a0.length : Int)), (9, iV .i64 x1586)], [], 0⟩)) ⟨[(0, .im (.row (a0.map eBucket))), (1, iV .i64 a1), (2, .im (.sc (.func (.func 61) #[] #[]))), (8, iV .i64 (a0.length : Int)), (9, iV .i64 x1570), (10, iV .i64 x1571)], [], 0⟩) ?_ _ _ _ e1601
    clear H e1601 o1600; intro self ih x1570 x1571 o1600 H
    subst hbody
    refine LWp.round ?_
    refine AWp.seq ?_
    refine AWp.seq ?_
    refine reg hP hn hm [] [0, 1, 2, 8, 9, 10, 17] [] ⟨[(0, .im (.row (a0.map eBucket))), (1, iV .i64 a1), (2, .im (.sc (.func (.func 61) #[] #[]))), (8, iV .i64 (a0.length : Int)), (9, iV .i64 x1570), (10, iV .i64 x1571), (17, bV (decide (x1570 < x1571)))], [], 0⟩ [] (by kernel_rfl) trivial ?_
    refine AWp.cond (decide (x1570 < x1571)) rfl (fun c1572 => ?_) (fun c1572 => ?_)
    · replace H := (ifT c1572).symm.trans H
      refine AWp.skip ?_
      refine AWp.block ?_
      refine AWp.seq ?_
      refine reg hP hn hm [] [0, 1, 2, 8, 9, 10, 11] [] ⟨[(0, .im (.row (a0.map eBucket))), (1, iV .i64 a1), (2, .im (.sc (.func (.func 61) #[] #[]))), (8, iV .i64 (a0.length : Int)), (9, iV .i64 x1570), (10, iV .i64 x1571), (11, iV .i64 (IntKind.i64.wrap (Int.fdiv (IntKind.u64.wrap (IntKind.i64.wrap (x1570 + x1571))) 2)))], [], 0⟩ [(0 : Int) ≤ 1] (by kernel_rfl) ⟨by decide, trivial⟩ ?_
      refine AWp.seq ?_
      obtain ⟨b1578, p1579, q1580, H⟩ := at_of H
      obtain ⟨t1581, e1582, H⟩ := bind_of H
      refine reg hP hn hm [(3, .c (eBucket b1578)), (6, .call [] [] [] [] 0 (iV .i64 t1581) [])] [0, 1, 2, 8, 9, 10, 11, 31] [] ⟨[(0, .im (.row (a0.map eBucket))), (1, iV .i64 a1), (2, .im (.sc (.func (.func 61) #[] #[]))), (8, iV .i64 (a0.length : Int)), (9, iV .i64 x1570), (10, iV .i64 x1571), (11, iV .i64 (IntKind.i64.wrap (Int.fdiv (IntKind.u64.wrap (IntKind.i64.wrap (x1570 + x1571))) 2))), (31, bV (decide (t1581 < (0 : Int))))], [], 0⟩ [0 ≤ (IntKind.i64.wrap (Int.fdiv (IntKind.u64.wrap (IntKind.i64.wrap (x1570 + x1571))) 2)), (a0.map eBucket)[(Int.toNat (IntKind.i64.wrap (Int.fdiv (IntKind.u64.wrap (IntKind.i64.wrap (x1570 + x1571))) 2)))]? = some (eBucket b1578), Enters Try.prog 61, Pv.Fn Try.prog 61 [.agg (aBucket b1578), iV .i64 a1] [] 0 (fun r o => r = iV .i64 t1581 ∧ o = [])] (by kernel_rfl) ⟨by exact p1579, by exact el_map eBucket q1580, by exact Try.call61, by exact f_hist_At_1.ok b1578 a1 t1581 e1582, trivial⟩ ?_
      obtain ⟨o1602, e1603, H⟩ := bind_of H
      refine AWp.mono (Q := fun e s => (match (generalizing := false) o1602 with | (x1584, x1585) => e = .normal ∧ s = ⟨[(0, .im (.row (a0.map eBucket))), (1, iV .i64 a1), (2, .im (.sc (.func (.func 61) #[] #[]))), (8, iV .i64 (a0.length : Int)), (9, iV .i64 x1584), (10, iV .i64 x1585)], [], 0⟩)) (AWp.cv ?_) ?_
      · replace H := e1603; clear e1603
        refine AWp.cond (decide (t1581 < (0 : Int))) rfl (fun c1583 => ?_) (fun c1583 => ?_)
        · replace H := (ifT c1583).symm.trans H
          refine reg hP hn hm [] [0, 1, 2, 8, 9, 10] [] ⟨[(0, .im (.row (a0.map eBucket))), (1, iV .i64 a1), (2, .im (.sc (.func (.func 61) #[] #[]))), (8, iV .i64 (a0.length : Int)), (9, iV .i64 (IntKind.i64.wrap ((IntKind.i64.wrap (Int.fdiv (IntKind.u64.wrap (IntKind.i64.wrap (x1570 + x1571))) 2)) + (1 : Int)))), (10, iV .i64 x1571)], [], 0⟩ [] (by kernel_rfl) trivial ?_
          obtain rfl := Option.some.inj H
          exact Exists.intro _ (And.intro (fun _ _ h => h.conv (inv := []) (vk := []) (e0 := []) (t := ⟨[(0, .im (.row (a0.map eBucket))), (1, iV .i64 a1), (2, .im (.sc (.func (.func 61) #[] #[]))), (8, iV .i64 (a0.length : Int)), (9, iV .i64 (IntKind.i64.wrap ((IntKind.i64.wrap (Int.fdiv (IntKind.u64.wrap (IntKind.i64.wrap (x1570 + x1571))) 2)) + (1 : Int)))), (10, iV .i64 x1571)], [], 0⟩) (by kernel_rfl)) (And.intro rfl rfl))
        · replace H := (ifF c1583).symm.trans H
          refine reg hP hn hm [] [0, 1, 2, 8, 9, 10] [] ⟨[(0, .im (.row (a0.map eBucket))), (1, iV .i64 a1), (2, .im (.sc (.func (.func 61) #[] #[]))), (8, iV .i64 (a0.length : Int)), (9, iV .i64 x1570), (10, iV .i64 (IntKind.i64.wrap (Int.fdiv (IntKind.u64.wrap (IntKind.i64.wrap (x1570 + x1571))) 2)))], [], 0⟩ [] (by kernel_rfl) trivial ?_
          obtain rfl := Option.some.inj H
          exact Exists.intro _ (And.intro (fun _ _ h => h.conv (inv := []) (vk := []) (e0 := []) (t := ⟨[(0, .im (.row (a0.map eBucket))), (1, iV .i64 a1), (2, .im (.sc (.func (.func 61) #[] #[]))), (8, iV .i64 (a0.length : Int)), (9, iV .i64 x1570), (10, iV .i64 (IntKind.i64.wrap (Int.fdiv (IntKind.u64.wrap (IntKind.i64.wrap (x1570 + x1571))) 2)))], [], 0⟩) (by kernel_rfl)) (And.intro rfl rfl))
      · obtain ⟨x1584, x1585⟩ := o1602
        rintro e s ⟨rfl, rfl⟩
        exact LWp.conv (inv := []) (vk := []) (e0 := []) (t := ⟨[(0, .im (.row (a0.map eBucket))), (1, iV .i64 a1), (2, .im (.sc (.func (.func 61) #[] #[]))), (8, iV .i64 (a0.length : Int)), (9, iV .i64 x1584), (10, iV .i64 x1585)], [], 0⟩) (by kernel_rfl) (ih _ _ _ H)
    · replace H := (ifF c1572).symm.trans H
      refine AWp.exit ?_
      obtain rfl := Option.some.inj H
      exact Exists.intro _ (And.intro (fun _ _ h => h.conv (inv := []) (vk := []) (e0 := []) (t := ⟨[(0, .im (.row (a0.map eBucket))), (1, iV .i64 a1), (2, .im (.sc (.func (.func 61) #[] #[]))), (8, iV .i64 (a0.length : Int)), (9, iV .i64 x1570)], [], 0⟩) (by kernel_rfl)) (And.intro rfl rfl))
  · obtain ⟨x1586, rfl⟩ : ∃ z, z = o1600 := ⟨_, rfl⟩
    rintro e s ⟨rfl, rfl⟩
    refine AWp.seq ?_
    obtain ⟨o1604, e1605, H⟩ := bind_of H
    refine AWp.mono (Q := fun e s => (match (generalizing := false) o1604 with | x1599 => e = .normal ∧ s = ⟨[(6, iV .i64 x1586), (7, bV x1599)], [], 0⟩)) (AWp.cv ?_) ?_
    · replace H := e1605; clear e1605
      rcases Bool.eq_false_or_eq_true (decide (x1586 < (a0.length : Int))) with c1593 | c1593
      · replace H := (ifT c1593).symm.trans H
        obtain ⟨b1594, p1595, q1596, H⟩ := at_of H
        obtain ⟨t1597, e1598, H⟩ := bind_of H
        refine reg hP hn hm [(4, .b true), (8, .c (eBucket b1594)), (11, .call [] [] [] [] 0 (iV .i64 t1597) [])] [6, 7] [] ⟨[(6, iV .i64 x1586), (7, bV (t1597 == (0 : Int)))], [], 0⟩ [(decide (x1586 < (a0.length : Int))) = true, 0 ≤ x1586, (a0.map eBucket)[(Int.toNat (x1586))]? = some (eBucket b1594), Enters Try.prog 61, Pv.Fn Try.prog 61 [.agg (aBucket b1594), iV .i64 a1] [] 0 (fun r o => r = iV .i64 t1597 ∧ o = [])] (by kernel_rfl) ⟨by exact c1593, by exact p1595, by exact el_map eBucket q1596, by exact Try.call61, by exact f_hist_At_1.ok b1594 a1 t1597 e1598, trivial⟩ ?_
        obtain rfl := Option.some.inj H
        exact Exists.intro _ (And.intro (fun _ _ h => h.conv (inv := []) (vk := []) (e0 := []) (t := ⟨[(6, iV .i64 x1586), (7, bV (t1597 == (0 : Int)))], [], 0⟩) (by kernel_rfl)) (And.intro rfl rfl))
      · replace H := (ifF c1593).symm.trans H
        refine reg hP hn hm [(4, .b false)] [6, 7] [] ⟨[(6, iV .i64 x1586), (7, bV false)], [], 0⟩ [(decide (x1586 < (a0.length : Int))) = false] (by kernel_rfl) ⟨by exact c1593, trivial⟩ ?_
        obtain rfl := Option.some.inj H
        exact Exists.intro _ (And.intro (fun _ _ h => h.conv (inv := []) (vk := []) (e0 := []) (t := ⟨[(6, iV .i64 x1586), (7, bV false)], [], 0⟩) (by kernel_rfl)) (And.intro rfl rfl))
    · obtain ⟨x1599, rfl⟩ : ∃ z, z = o1604 := ⟨_, rfl⟩
      rintro e s ⟨rfl, rfl⟩
      refine AWp.conv (inv := []) (vk := []) (e0 := []) (t := ⟨[(6, iV .i64 x1586), (7, bV x1599)], [], 0⟩) (by kernel_rfl) ?_
      refine AWp.ret ?_
      obtain rfl := Option.some.inj H
      exact Exists.intro _ (And.intro (fun _ _ h => h) (And.intro (.inl rfl) (And.intro rfl (And.intro (by kernel_rfl) (by kernel_rfl)))))
def f_hist_At.f (a0 : THist) (a1 : Int) (a2 : Int) : Option (Int) := if (a1 == (0 : Int)) = true then (some a0.f3) else (((if (decide (a1 < (0 : Int))) = true then (some a0.f7) else (some a0.f6)) : Option (List TBucket)) >>= fun x1551 => (f_slices_BinarySearchFunc_api_Bucket_hist_At_1.f x1551 a2) >>= fun t1608 => if (!t1608.2) = true then (some 0) else ((at? x1551 t1608.1) >>= fun b1614 => some b1614.f1))
theorem f_hist_At.ok (a0 : THist) (a1 : Int) (a2 : Int) (r : Int) (H : f_hist_At.f a0 a1 a2 = some r) : Pv.Fn Try.prog 34 [.agg (aHist a0), iV .i64 a1, iV .i64 a2] [] 0 (fun x o => x = iV .u64 r ∧ o = []) := by
  unfold f_hist_At.f at H
  refine Fn.bodyK [] Try.func34 rfl rfl (fun Γ hP hn => ?_)
  have hm : Try.prog.follows .mixedOrders = true := by kernel_rfl
  replace hn : Γ.n = 35 := hn
  refine AWp.seq ?_
  refine reg hP hn hm [(0, .k 0)] [1, 2, 3] [0] ⟨[(1, iV .i64 a1), (2, iV .i64 a2), (3, .ptr 0 0 0)], [(0, some (.box 30 (aHist a0)))], 0⟩ [] (by kernel_rfl) trivial ?_
  refine AWp.seq ?_
  refine reg hP hn hm [] [1, 2, 3, 7] [0] ⟨[(1, iV .i64 a1), (2, iV .i64 a2), (3, .ptr 0 0 0), (7, .im (.row (a0.f6.map eBucket)))], [(0, some (.box 30 (aHist a0)))], 0⟩ [] (by kernel_rfl) trivial ?_
  refine AWp.seq ?_
  refine AWp.block ?_
  refine AWp.seq ?_
  refine reg hP hn hm [] [1, 2, 3, 7, 12] [0] ⟨[(1, iV .i64 a1), (2, iV .i64 a2), (3, .ptr 0 0 0), (7, .im (.row (a0.f6.map eBucket))), (12, bV (a1 == (0 : Int)))], [(0, some (.box 30 (aHist a0)))], 0⟩ [] (by kernel_rfl) trivial ?_
  refine AWp.cond (a1 == (0 : Int)) rfl (fun c1549 => ?_) (fun c1549 => ?_)
  · replace H := (ifT c1549).symm.trans H
    refine AWp.seq ?_
    refine reg hP hn hm [] [6] [] ⟨[(6, iV .u64 a0.f3)], [], 0⟩ [] (by kernel_rfl) trivial ?_
    refine AWp.conv (inv := []) (vk := []) (e0 := []) (t := ⟨[(6, iV .u64 a0.f3)], [], 0⟩) (by kernel_rfl) ?_
    refine AWp.ret ?_
    obtain rfl := Option.some.inj H
    exact Exists.intro _ (And.intro (fun _ _ h => h) (And.intro (.inl rfl) (And.intro rfl (And.intro (by kernel_rfl) (by kernel_rfl)))))
  · replace H := (ifF c1549).symm.trans H
    refine AWp.seq ?_
    refine reg hP hn hm [] [2, 3, 7, 17] [0] ⟨[(2, iV .i64 a2), (3, .ptr 0 0 0), (7, .im (.row (a0.f6.map eBucket))), (17, bV (decide (a1 < (0 : Int))))], [(0, some (.box 30 (aHist a0)))], 0⟩ [] (by kernel_rfl) trivial ?_
    obtain ⟨o1617, e1618, H⟩ := bind_of H
    refine AWp.mono (Q := fun e s => (match (generalizing := false) o1617 with | x1551 => e = .normal ∧ s = ⟨[(2, iV .i64 a2), (7, .im (.row (x1551.map eBucket)))], [], 0⟩)) (AWp.cv ?_) ?_
    · replace H := e1618; clear e1618
      refine AWp.cond (decide (a1 < (0 : Int))) rfl (fun c1550 => ?_) (fun c1550 => ?_)
      · replace H := (ifT c1550).symm.trans H
        refine reg hP hn hm [] [2, 7] [] ⟨[(2, iV .i64 a2), (7, .im (.row (a0.f7.map eBucket)))], [], 0⟩ [] (by kernel_rfl) trivial ?_
        obtain rfl := Option.some.inj H
        exact Exists.intro _ (And.intro (fun _ _ h => h.conv (inv := []) (vk := []) (e0 := []) (t := ⟨[(2, iV .i64 a2), (7, .im (.row (a0.f7.map eBucket)))], [], 0⟩) (by kernel_rfl)) (And.intro rfl rfl))
      · replace H := (ifF c1550).symm.trans H
        refine AWp.skip ?_
        obtain rfl := Option.some.inj H
        exact Exists.intro _ (And.intro (fun _ _ h => h.conv (inv := []) (vk := []) (e0 := []) (t := ⟨[(2, iV .i64 a2), (7, .im (.row (a0.f6.map eBucket)))], [], 0⟩) (by kernel_rfl)) (And.intro rfl rfl))
    · obtain ⟨x1551, rfl⟩ : ∃ z, z = o1617 := ⟨_, rfl⟩
      rintro e s ⟨rfl, rfl⟩
      refine AWp.seq ?_
      obtain ⟨t1608, e1609, H⟩ := bind_of H
      refine reg hP hn hm [(2, .call [] [] [] [] 0 (.tup [iV .i64 t1608.1, bV t1608.2]) [])] [7, 8, 9] [] ⟨[(7, .im (.row (x1551.map eBucket))), (8, iV .i64 t1608.1), (9, bV t1608.2)], [], 0⟩ [Enters Try.prog 60, Pv.Fn Try.prog 60 [.im (.row (x1551.map eBucket)), iV .i64 a2, .im (.sc (.func (.func 61) #[] #[]))] [] 0 (fun r o => r = .tup [iV .i64 t1608.1, bV t1608.2] ∧ o = [])] (by kernel_rfl) ⟨by exact Try.call60, by exact f_slices_BinarySearchFunc_api_Bucket_hist_At_1.ok x1551 a2 t1608 e1609, trivial⟩ ?_
      refine AWp.seq ?_
      refine AWp.seq ?_
      refine reg hP hn hm [] [7, 8, 29] [] ⟨[(7, .im (.row (x1551.map eBucket))), (8, iV .i64 t1608.1), (29, bV (!t1608.2))], [], 0⟩ [] (by kernel_rfl) trivial ?_
      refine AWp.cond (!t1608.2) rfl (fun c1610 => ?_) (fun c1610 => ?_)
      · replace H := (ifT c1610).symm.trans H
        refine AWp.seq ?_
        refine reg hP hn hm [] [6] [] ⟨[(6, iV .u64 0)], [], 0⟩ [] (by kernel_rfl) trivial ?_
        refine AWp.conv (inv := []) (vk := []) (e0 := []) (t := ⟨[(6, iV .u64 0)], [], 0⟩) (by kernel_rfl) ?_
        refine AWp.ret ?_
        obtain rfl := Option.some.inj H
        exact Exists.intro _ (And.intro (fun _ _ h => h) (And.intro (.inl rfl) (And.intro rfl (And.intro (by kernel_rfl) (by kernel_rfl)))))
      · replace H := (ifF c1610).symm.trans H
        refine AWp.skip ?_
        refine AWp.seq ?_
        obtain ⟨b1614, p1615, q1616, H⟩ := at_of H
        refine reg hP hn hm [(2, .c (eBucket b1614))] [6] [] ⟨[(6, iV .u64 b1614.f1)], [], 0⟩ [0 ≤ t1608.1, (x1551.map eBucket)[(Int.toNat (t1608.1))]? = some (eBucket b1614)] (by kernel_rfl) ⟨by exact p1615, by exact el_map eBucket q1616, trivial⟩ ?_
        refine AWp.conv (inv := []) (vk := []) (e0 := []) (t := ⟨[(6, iV .u64 b1614.f1)], [], 0⟩) (by kernel_rfl) ?_
        refine AWp.ret ?_
        obtain rfl := Option.some.inj H
        exact Exists.intro _ (And.intro (fun _ _ h => h) (And.intro (.inl rfl) (And.intro rfl (And.intro (by kernel_rfl) (by kernel_rfl)))))
end Go.Proofs.Ytjfhobijgkccdaa.PvGA3
set_option linter.unusedVariables false
set_option linter.unnecessarySimpa false
set_option linter.unusedSimpArgs false
set_option maxRecDepth 10000
namespace Go.Proofs.Ytjfhobijgkccdaa.PvGA3
open Go Go.Pv
def f_pluviallaw05_HistCells.l1 (a0 : THist) (a1 : Int) (a2 : Int) (b1663 : Int × (List TBucket)) (t1532 : List (Tbound_Key × Int)) (x1687 : Int) (x1688 : Int) (x1689 : Int) : Option (Bool ⊕ (Int × Int)) := if (decide (x1689 < (b1663.2.length : Int))) = true then ((at? b1663.2 x1689) >>= fun b1694 => ((if (((mget t1532 (⟨b1663.1, a0.f1, b1694.f0⟩ : Tbound_Key)).getD 0) != b1694.f1) = true then (some true) else ((f_hist_At.f a0 b1663.1 b1694.f0) >>= fun t1701 => some (t1701 != b1694.f1))) : Option (Bool)) >>= fun x1703 => if x1703 = true then (some (.inl false)) else (((if ((decide (a1 > (0 : Int))) == (decide (b1663.1 > (0 : Int)))) = true then (if (a1 != (0 : Int)) = true then (some (b1694.f0 == a2)) else (some false)) else (some false)) : Option (Bool)) >>= fun x1709 => ((if x1709 = true then (some b1694.f1) else (some x1687)) : Option (Int)) >>= fun x1711 => f_pluviallaw05_HistCells.l1 a0 a1 a2 b1663 t1532 x1711 (IntKind.i64.wrap (x1688 + (1 : Int))) (IntKind.i64.wrap (x1689 + (1 : Int))))) else (some (.inr (x1687, x1688)))
partial_fixpoint
def f_pluviallaw05_HistCells.d0 (a0 : THist) (a1 : Int) (a2 : Int) (t1532 : List (Tbound_Key × Int)) (v : Int × Int) : Option (Bool ⊕ (Int × Int)) := match v with
  | (x1660, x1661) => some (.inr (x1660, x1661))
def f_pluviallaw05_HistCells.s0 (a0 : THist) (a1 : Int) (a2 : Int) (t1532 : List (Tbound_Key × Int)) (b1663 : Int × (List TBucket)) (v : Int × Int) : Option ((Bool ⊕ (Int × Int)) ⊕ (Int × Int)) := match v with
  | (x1660, x1661) => (f_pluviallaw05_HistCells.l1 a0 a1 a2 b1663 t1532 x1660 x1661 0) >>= fun oo => match oo with | .inl rr => (some (.inl (.inl rr))) | .inr (x1712, x1713) => (some (.inr (x1712, x1713)))
def f_pluviallaw05_HistCells.l0 (a0 : THist) (a1 : Int) (a2 : Int) (t1532 : List (Tbound_Key × Int)) : List (Int × (List TBucket)) → (Int × Int) → Option (Bool ⊕ (Int × Int)) := rloop (f_pluviallaw05_HistCells.d0 a0 a1 a2 t1532) (f_pluviallaw05_HistCells.s0 a0 a1 a2 t1532)
noncomputable def f_pluviallaw05_HistCells.f (a0 : THist) (a1 : Int) (a2 : Int) : Option (Bool) := (((f_pluviallaw05_Light.f a0) >>= fun t1519 => if (!t1519) = true then (some true) else ((f_pluvialref05_Check.f a0) >>= fun t1522 => some (t1522 != (0 : Int)))) : Option (Bool)) >>= fun x1524 => if x1524 = true then ((f_pluviallaw05_awake.f) >>= fun t1528 => some t1528) else ((f_hist_Cells.f a0) >>= fun t1532 => ((if (decide (a0.f3 > (0 : Int))) = true then (if (((mget t1532 (⟨0, 0, 0⟩ : Tbound_Key)).getD 0) != a0.f3) = true then (some (.inl false)) else (some (.inr 1))) else (some (.inr 0))) : Option (Bool ⊕ Int)) >>= fun oo => match oo with | .inl rr => (some rr) | .inr x1536 => ((rchk (f_pluviallaw05_HistCells.l0 a0 a1 a2 t1532) (mput (mput ([] : List (Int × (List TBucket))) 1 a0.f6) (-1) a0.f7) (0, x1536)) >>= fun oo => match oo with | .inl rr => (some rr) | .inr (x1714, x1715) => (((if (a1 == (0 : Int)) = true then (some a0.f3) else (some x1714)) : Option (Int)) >>= fun x1717 => (((f_pluviallaw05_awake.f) >>= fun t1724 => if t1724 = true then (if ((t1532.length : Int) == x1715) = true then ((f_hist_At.f a0 a1 a2) >>= fun t1728 => some (t1728 == x1717)) else (some false)) else (some false)) : Option (Bool)) >>= fun x1730 => some x1730)))
theorem f_pluviallaw05_HistCells.ok (a0 : THist) (a1 : Int) (a2 : Int) (r : Bool) (H : f_pluviallaw05_HistCells.f a0 a1 a2 = some r) : Pv.Fn Try.prog 7 [.agg (aHist a0), iV .i64 a1, iV .i64 a2] [] 0 (fun x o => x = bV r ∧ o = []) := by
  unfold f_pluviallaw05_HistCells.f at H
  refine Fn.bodyK [] Try.func7 rfl rfl (fun Γ hP hn => ?_)
  have hm : Try.prog.follows .mixedOrders = true := by kernel_rfl
  replace hn : Γ.n = 114 := hn
  refine AWp.seq ?_
  refine reg hP hn hm [(0, .k 0)] [1, 2, 3] [0] ⟨[(1, iV .i64 a1), (2, iV .i64 a2), (3, .ptr 0 0 0)], [(0, some (.box 30 (aHist a0)))], 0⟩ [] (by kernel_rfl) trivial ?_
  refine AWp.seq ?_
  refine AWp.seq ?_
  obtain ⟨o1731, e1732, H⟩ := bind_of H
  refine AWp.mono (Q := fun e s => (match (generalizing := false) o1731 with | x1524 => e = .normal ∧ s = ⟨[(1, iV .i64 a1), (2, iV .i64 a2), (3, .ptr 1 0 0), (21, bV x1524)], [(1, some (.box 30 (aHist a0)))], 0⟩)) (AWp.cv ?_) ?_
  · replace H := e1732; clear e1732
    obtain ⟨t1519, e1520, H⟩ := bind_of H
    rcases Bool.eq_false_or_eq_true (!t1519) with c1521 | c1521
    · replace H := (ifT c1521).symm.trans H
      refine reg hP hn hm [(1, .call [] [] [] [] 0 (bV t1519) []), (3, .b true)] [1, 2, 3, 21] [0] ⟨[(1, iV .i64 a1), (2, iV .i64 a2), (3, .ptr 0 0 0), (21, bV true)], [(0, some (.box 30 (aHist a0)))], 0⟩ [Enters Try.prog 15, Pv.Fn Try.prog 15 [.agg (aHist a0)] [] 0 (fun r o => r = bV t1519 ∧ o = []), (!t1519) = true] (by kernel_rfl) ⟨by exact Try.call15, by exact f_pluviallaw05_Light.ok a0 t1519 e1520, by exact c1521, trivial⟩ ?_
      obtain rfl := Option.some.inj H
      exact Exists.intro _ (And.intro (fun _ _ h => h.conv (inv := [(0, 1)]) (vk := []) (e0 := []) (t := ⟨[(1, iV .i64 a1), (2, iV .i64 a2), (3, .ptr 1 0 0), (21, bV true)], [(1, some (.box 30 (aHist a0)))], 0⟩) (by kernel_rfl)) (And.intro rfl rfl))
    · replace H := (ifF c1521).symm.trans H
      obtain ⟨t1522, e1523, H⟩ := bind_of H
      refine reg hP hn hm [(1, .call [] [] [] [] 0 (bV t1519) []), (3, .b false), (5, .call [] [] [] [] 0 (iV .i64 t1522) [])] [1, 2, 3, 21] [0] ⟨[(1, iV .i64 a1), (2, iV .i64 a2), (3, .ptr 0 0 0), (21, bV (t1522 != (0 : Int)))], [(0, some (.box 30 (aHist a0)))], 0⟩ [Enters Try.prog 15, Pv.Fn Try.prog 15 [.agg (aHist a0)] [] 0 (fun r o => r = bV t1519 ∧ o = []), (!t1519) = false, Enters Try.prog 31, Pv.Fn Try.prog 31 [.agg (aHist a0)] [] 0 (fun r o => r = iV .i64 t1522 ∧ o = [])] (by kernel_rfl) ⟨by exact Try.call15, by exact f_pluviallaw05_Light.ok a0 t1519 e1520, by exact c1521, by exact Try.call31, by exact f_pluvialref05_Check.ok a0 t1522 e1523, trivial⟩ ?_
      obtain rfl := Option.some.inj H
      exact Exists.intro _ (And.intro (fun _ _ h => h.conv (inv := [(0, 1)]) (vk := []) (e0 := []) (t := ⟨[(1, iV .i64 a1), (2, iV .i64 a2), (3, .ptr 1 0 0), (21, bV (t1522 != (0 : Int)))], [(1, some (.box 30 (aHist a0)))], 0⟩) (by kernel_rfl)) (And.intro rfl rfl))
  · obtain ⟨x1524, rfl⟩ : ∃ z, z = o1731 := ⟨_, rfl⟩
    rintro e s ⟨rfl, rfl⟩
    refine AWp.cond x1524 rfl (fun c1525 => ?_) (fun c1525 => ?_)
    · replace H := (ifT c1525).symm.trans H
      refine AWp.seq ?_
      obtain ⟨t1528, e1529, H⟩ := bind_of H
      refine reg hP hn hm [(0, .call [] [] [] [] 0 (bV t1528) [])] [6] [] ⟨[(6, bV t1528)], [], 0⟩ [Enters Try.prog 16, Pv.Fn Try.prog 16 [] [] 0 (fun r o => r = bV t1528 ∧ o = [])] (by kernel_rfl) ⟨by exact Try.call16, by exact f_pluviallaw05_awake.ok  t1528 e1529, trivial⟩ ?_
      refine AWp.conv (inv := []) (vk := []) (e0 := []) (t := ⟨[(6, bV t1528)], [], 0⟩) (by kernel_rfl) ?_
      refine AWp.ret ?_
      obtain rfl := Option.some.inj H
      exact Exists.intro _ (And.intro (fun _ _ h => h) (And.intro (.inl rfl) (And.intro rfl (And.intro (by kernel_rfl) (by kernel_rfl)))))
    · replace H := (ifF c1525).symm.trans H
      refine AWp.skip ?_
      refine AWp.seq ?_
      refine reg hP hn hm [] [1, 2, 3, 7] [1] ⟨[(1, iV .i64 a1), (2, iV .i64 a2), (3, .ptr 1 0 0), (7, iV .u64 0)], [(1, some (.box 30 (aHist a0)))], 0⟩ [] (by kernel_rfl) trivial ?_
      refine AWp.seq ?_
      refine reg hP hn hm [] [1, 2, 3, 7, 8] [1] ⟨[(1, iV .i64 a1), (2, iV .i64 a2), (3, .ptr 1 0 0), (7, iV .u64 0), (8, iV .i64 0)], [(1, some (.box 30 (aHist a0)))], 0⟩ [] (by kernel_rfl) trivial ?_
      refine AWp.seq ?_
      obtain ⟨t1532, e1533, H⟩ := bind_of H
      refine reg hP hn hm [(1, .call [] [(0, 2)] [] [2] 0 (.mown 0) [(0, some (.map (mE (fun x => Value.agg (vkbound_Key x).toArray) (iI .u64) t1532)))])] [1, 2, 3, 7, 8, 9] [1, 2] ⟨[(1, iV .i64 a1), (2, iV .i64 a2), (3, .ptr 1 0 0), (7, iV .u64 0), (8, iV .i64 0), (9, .mown 2)], [(1, some (.box 30 (aHist a0))), (2, some (.map (mE (fun x => Value.agg (vkbound_Key x).toArray) (iI .u64) t1532)))], 0⟩ [Enters Try.prog 32, Pv.Fn Try.prog 32 [.agg (aHist a0)] [] 0 (fun r o => r = .mown 0 ∧ o = [(0, some (.map (mE (fun x => Value.agg (vkbound_Key x).toArray) (iI .u64) t1532)))])] (by kernel_rfl) ⟨by exact Try.call32, by exact f_hist_Cells.ok a0 t1532 e1533, trivial⟩ ?_
      refine AWp.seq ?_
      refine AWp.seq ?_
      refine reg hP hn hm [] [1, 2, 3, 7, 8, 9, 27] [1, 2] ⟨[(1, iV .i64 a1), (2, iV .i64 a2), (3, .ptr 1 0 0), (7, iV .u64 0), (8, iV .i64 0), (9, .mown 2), (27, bV (decide (a0.f3 > (0 : Int))))], [(1, some (.box 30 (aHist a0))), (2, some (.map (mE (fun x => Value.agg (vkbound_Key x).toArray) (iI .u64) t1532)))], 0⟩ [] (by kernel_rfl) trivial ?_
      obtain ⟨o1733, e1734, H⟩ := bind_of H
      refine AWp.mono (Q := fun e s => (match (generalizing := false) o1733 with | .inl rr => e = .ret ∧ s.floor = 0 ∧ resOf Try.prog Try.f7 s = some (bV rr) ∧ ([] : List (Nat × Option MObj)) = [] | .inr x1536 => e = .normal ∧ s = ⟨[(1, iV .i64 a1), (2, iV .i64 a2), (3, .ptr 3 0 0), (7, iV .u64 0), (8, iV .i64 x1536), (9, .mown 4)], [(3, some (.box 30 (aHist a0))), (4, some (.map (mE (fun x => Value.agg (vkbound_Key x).toArray) (iI .u64) t1532)))], 0⟩)) (AWp.cv ?_) ?_
      · replace H := e1734; clear e1734
        refine AWp.cond (decide (a0.f3 > (0 : Int))) rfl (fun c1534 => ?_) (fun c1534 => ?_)
        · replace H := (ifT c1534).symm.trans H
          refine AWp.seq ?_
          refine reg hP hn hm [] [1, 2, 3, 7, 8, 9] [1, 2] ⟨[(1, iV .i64 a1), (2, iV .i64 a2), (3, .ptr 1 0 0), (7, iV .u64 0), (8, iV .i64 1), (9, .mown 2)], [(1, some (.box 30 (aHist a0))), (2, some (.map (mE (fun x => Value.agg (vkbound_Key x).toArray) (iI .u64) t1532)))], 0⟩ [] (by kernel_rfl) trivial ?_
          refine AWp.seq ?_
          refine reg hP hn hm [(2, .more (xLook (fun x => Value.agg (vkbound_Key x).toArray) (iI .u64) t1532 (⟨0, 0, 0⟩ : Tbound_Key) 0))] [1, 2, 3, 7, 8, 9, 35] [1, 2] ⟨[(1, iV .i64 a1), (2, iV .i64 a2), (3, .ptr 1 0 0), (7, iV .u64 0), (8, iV .i64 1), (9, .mown 2), (35, bV (((mget t1532 (⟨0, 0, 0⟩ : Tbound_Key)).getD 0) != a0.f3))], [(1, some (.box 30 (aHist a0))), (2, some (.map (mE (fun x => Value.agg (vkbound_Key x).toArray) (iI .u64) t1532)))], 0⟩ [KeyOK Try.prog 53 (fun x => Value.agg (vkbound_Key x).toArray), mE (fun x => Value.agg (vkbound_Key x).toArray) (iI .u64) t1532 = mE (fun x => Value.agg (vkbound_Key x).toArray) (iI .u64) t1532, valA (.agg (abound_Key ⟨0, 0, 0⟩)) = some ((fun x => Value.agg (vkbound_Key x).toArray) (⟨0, 0, 0⟩ : Tbound_Key)), iI .u64 0 = (iI .u64) 0] (by kernel_rfl) ⟨by exact keyok53, by exact rfl, by exact rfl, by exact rfl, trivial⟩ ?_
          refine AWp.cond (((mget t1532 (⟨0, 0, 0⟩ : Tbound_Key)).getD 0) != a0.f3) rfl (fun c1535 => ?_) (fun c1535 => ?_)
          · replace H := (ifT c1535).symm.trans H
            refine AWp.seq ?_
            refine reg hP hn hm [] [6] [] ⟨[(6, bV false)], [], 0⟩ [] (by kernel_rfl) trivial ?_
            refine AWp.conv (inv := []) (vk := []) (e0 := []) (t := ⟨[(6, bV false)], [], 0⟩) (by kernel_rfl) ?_
            refine AWp.ret ?_
            obtain rfl := Option.some.inj H
            exact Exists.intro _ (And.intro (fun _ _ h => h) (And.intro rfl (And.intro rfl (And.intro (by kernel_rfl) (by kernel_rfl)))))
          · replace H := (ifF c1535).symm.trans H
            refine AWp.skip ?_
            obtain rfl := Option.some.inj H
            exact Exists.intro _ (And.intro (fun _ _ h => h.conv (inv := [(1, 3), (2, 4)]) (vk := []) (e0 := []) (t := ⟨[(1, iV .i64 a1), (2, iV .i64 a2), (3, .ptr 3 0 0), (7, iV .u64 0), (8, iV .i64 1), (9, .mown 4)], [(3, some (.box 30 (aHist a0))), (4, some (.map (mE (fun x => Value.agg (vkbound_Key x).toArray) (iI .u64) t1532)))], 0⟩) (by kernel_rfl)) (And.intro rfl rfl))
        · replace H := (ifF c1534).symm.trans H
          refine AWp.skip ?_
          obtain rfl := Option.some.inj H
          exact Exists.intro _ (And.intro (fun _ _ h => h.conv (inv := [(1, 3), (2, 4)]) (vk := []) (e0 := []) (t := ⟨[(1, iV .i64 a1), (2, iV .i64 a2), (3, .ptr 3 0 0), (7, iV .u64 0), (8, iV .i64 0), (9, .mown 4)], [(3, some (.box 30 (aHist a0))), (4, some (.map (mE (fun x => Value.agg (vkbound_Key x).toArray) (iI .u64) t1532)))], 0⟩) (by kernel_rfl)) (And.intro rfl rfl))
      · rcases o1733 with rr | x1536
        · skip
          rintro e s ⟨rfl, hfl, hres⟩
          obtain rfl := Option.some.inj H
          exact Exists.intro _ (And.intro (fun _ _ h => h) (And.intro (.inl rfl) (And.intro hfl hres)))
        · skip
          rintro e s ⟨rfl, rfl⟩
          refine AWp.seq ?_
          refine AWp.seq ?_
          refine reg hP hn hm [(0, .more (xMk 5)), (3, .more (xPut (vkI .i64) (iRow eBucket) ([] : List (Int × (List TBucket))) 1 a0.f6)), (6, .more (xPut (vkI .i64) (iRow eBucket) (mput ([] : List (Int × (List TBucket))) 1 a0.f6) (-1) a0.f7)), (8, .more (xRng 6 ((mput (mput ([] : List (Int × (List TBucket))) 1 a0.f6) (-1) a0.f7).length)))] [1, 2, 3, 7, 8, 9, 42] [3, 4, 5, 6] ⟨[(1, iV .i64 a1), (2, iV .i64 a2), (3, .ptr 3 0 0), (7, iV .u64 0), (8, iV .i64 x1536), (9, .mown 4), (42, .ptr 6 0 0)], [(3, some (.box 30 (aHist a0))), (4, some (.map (mE (fun x => Value.agg (vkbound_Key x).toArray) (iI .u64) t1532))), (5, some (.map (mE (vkI .i64) (iRow eBucket) (mput (mput ([] : List (Int × (List TBucket))) 1 a0.f6) (-1) a0.f7)))), (6, some (.iter (some 5) ((mput (mput ([] : List (Int × (List TBucket))) 1 a0.f6) (-1) a0.f7).length) ([] : List Nat)))], 0⟩ [KeyOK Try.prog 3 (vkI .i64), mE (vkI .i64) (iRow eBucket) ([] : List (Int × (List TBucket))) = mE (vkI .i64) (iRow eBucket) ([] : List (Int × (List TBucket))), valA (iV .i64 1) = some ((vkI .i64) 1), .row (a0.f6.map eBucket) = (iRow eBucket) a0.f6, KeyOK Try.prog 3 (vkI .i64), mE (vkI .i64) (iRow eBucket) (mput ([] : List (Int × (List TBucket))) 1 a0.f6) = mE (vkI .i64) (iRow eBucket) (mput ([] : List (Int × (List TBucket))) 1 a0.f6), valA (iV .i64 (-1)) = some ((vkI .i64) (-1)), .row (a0.f7.map eBucket) = (iRow eBucket) a0.f7, (mput (mput ([] : List (Int × (List TBucket))) 1 a0.f6) (-1) a0.f7).length = (mE (vkI .i64) (iRow eBucket) (mput (mput ([] : List (Int × (List TBucket))) 1 a0.f6) (-1) a0.f7)).length] (by kernel_rfl) ⟨by exact (key_int (by kernel_rfl)), by exact rfl, by exact rfl, by exact rfl, by exact (key_int (by kernel_rfl)), by exact rfl, by exact rfl, by exact rfl, by exact len_mE _ _ _, trivial⟩ ?_
          refine AWp.block ?_
          obtain ⟨o1735, e1736, H⟩ := bind_of H
          refine AWp.loop (LWp.conv (inv := [(3, 45), (4, 46), (5, 47), (6, 48)]) (vk := []) (e0 := []) (t := ⟨[(1, iV .i64 a1), (2, iV .i64 a2), (3, .ptr 45 0 0), (7, iV .u64 0), (8, iV .i64 x1536), (9, .mown 46), (42, .ptr 48 0 0)], [(45, some (.box 30 (aHist a0))), (46, some (.map (mE (fun x => Value.agg (vkbound_Key x).toArray) (iI .u64) t1532))), (47, some (.map (mE (vkI .i64) (iRow eBucket) (mput (mput ([] : List (Int × (List TBucket))) 1 a0.f6) (-1) a0.f7)))), (48, some (.iter (some 47) ((mput (mput ([] : List (Int × (List TBucket))) 1 a0.f6) (-1) a0.f7).length) ([] : List Nat)))], 0⟩) (by kernel_rfl) ?_)
          refine LWp.mono (Q := fun e s => (match (generalizing := false) o1735 with | .inl rr => e = .ret ∧ s.floor = 0 ∧ resOf Try.prog Try.f7 s = some (bV rr) ∧ ([] : List (Nat × Option MObj)) = [] | .inr (x1714, x1715) => e = .exit 0 ∧ s = ⟨[(1, iV .i64 a1), (2, iV .i64 a2), (3, .ptr 87 0 0), (7, iV .u64 x1714), (8, iV .i64 x1715), (9, .mown 88)], [(87, some (.box 30 (aHist a0))), (88, some (.map (mE (fun x => Value.agg (vkbound_Key x).toArray) (iI .u64) t1532)))], 0⟩)) (LWp.cv (withBody (fun body hbody => ?_))) ?_
          · refine range_loop (mput (mput ([] : List (Int × (List TBucket))) 1 a0.f6) (-1) a0.f7) (f_pluviallaw05_HistCells.d0 a0 a1 a2 t1532) (f_pluviallaw05_HistCells.s0 a0 a1 a2 t1532) o1735 (fun sn1537 v => match v with | (x1660, x1661) => ⟨[(1, iV .i64 a1), (2, iV .i64 a2), (3, .ptr 45 0 0), (7, iV .u64 x1660), (8, iV .i64 x1661), (9, .mown 46), (42, .ptr 48 0 0)], [(45, some (.box 30 (aHist a0))), (46, some (.map (mE (fun x => Value.agg (vkbound_Key x).toArray) (iI .u64) t1532))), (47, some (.map (mE (vkI .i64) (iRow eBucket) (mput (mput ([] : List (Int × (List TBucket))) 1 a0.f6) (-1) a0.f7)))), (48, some (.iter (some 47) ((mput (mput ([] : List (Int × (List TBucket))) 1 a0.f6) (-1) a0.f7).length) sn1537))], 0⟩) (fun sn1537 v self hr0 hr1 => ?_) _ (rchk_of e1736)
            clear H e1736
            obtain ⟨x1660, x1661⟩ := v
            subst hbody
            show AWp Γ _ _ ⟨[(1, iV .i64 a1), (2, iV .i64 a2), (3, .ptr 45 0 0), (7, iV .u64 x1660), (8, iV .i64 x1661), (9, .mown 46), (42, .ptr 48 0 0)], [(45, some (.box 30 (aHist a0))), (46, some (.map (mE (fun x => Value.agg (vkbound_Key x).toArray) (iI .u64) t1532))), (47, some (.map (mE (vkI .i64) (iRow eBucket) (mput (mput ([] : List (Int × (List TBucket))) 1 a0.f6) (-1) a0.f7)))), (48, some (.iter (some 47) ((mput (mput ([] : List (Int × (List TBucket))) 1 a0.f6) (-1) a0.f7).length) sn1537))], 0⟩
            have H := hr0
            refine AWp.seq ?_
            refine AWp.next (n := (mput (mput ([] : List (Int × (List TBucket))) 1 a0.f6) (-1) a0.f7).length) (sn := sn1537) (es := mE (vkI .i64) (iRow eBucket) (mput (mput ([] : List (Int × (List TBucket))) 1 a0.f6) (-1) a0.f7)) 43 44 48 47 hP rfl rfl rfl rfl rfl rfl (by rw [hn]; decide) (by rw [hn]; decide) (by kernel_rfl) (by kernel_rfl) (by kernel_rfl) (len_mE _ _ _) (fun hz => ?_) (fun i1662 A B hA hB hin => ?_)
            · replace H := hr0 hz; clear hr0 hr1
              unfold f_pluviallaw05_HistCells.d0 at H
              try dsimp only at H
              refine AWp.seq ?_
              refine AWp.cond false rfl (fun h => nomatch h) (fun _ => ?_)
              refine AWp.exit ?_
              obtain rfl := Option.some.inj H
              exact Exists.intro _ (And.intro (fun _ _ h => h.conv (inv := [(45, 87), (46, 88)]) (vk := []) (e0 := []) (t := ⟨[(1, iV .i64 a1), (2, iV .i64 a2), (3, .ptr 87 0 0), (7, iV .u64 x1660), (8, iV .i64 x1661), (9, .mown 88)], [(87, some (.box 30 (aHist a0))), (88, some (.map (mE (fun x => Value.agg (vkbound_Key x).toArray) (iI .u64) t1532)))], 0⟩) (by kernel_rfl)) (And.intro rfl rfl))
            · have hmem : i1662 ∈ remI ((mput (mput ([] : List (Int × (List TBucket))) 1 a0.f6) (-1) a0.f7).length) sn1537 := by rw [hA]; simp
              obtain ⟨b1663, rr0, q1664, H, hxr, hwr⟩ := hr1 i1662 hmem; clear hr0 hr1
              unfold f_pluviallaw05_HistCells.s0 at H
              try dsimp only at H
              refine AWp.seq ?_
              refine AWp.cond true rfl (fun _ => ?_) (fun h => nomatch h)
              refine AWp.skip ?_
              refine AWp.block ?_
              refine AWp.seq ?_
              refine reg hP hn hm [(0, .more (xEnt (vkI .i64) (iRow eBucket) (mput (mput ([] : List (Int × (List TBucket))) 1 a0.f6) (-1) a0.f7) i1662 b1663 (iV .i64 b1663.1)))] [1, 2, 3, 7, 8, 9, 10, 11, 42] [45, 46, 47, 48] ⟨[(1, iV .i64 a1), (2, iV .i64 a2), (3, .ptr 45 0 0), (7, iV .u64 x1660), (8, iV .i64 x1661), (9, .mown 46), (10, iV .i64 b1663.1), (11, .im (.row (b1663.2.map eBucket))), (42, .ptr 48 0 0)], [(45, some (.box 30 (aHist a0))), (46, some (.map (mE (fun x => Value.agg (vkbound_Key x).toArray) (iI .u64) t1532))), (47, some (.map (mE (vkI .i64) (iRow eBucket) (mput (mput ([] : List (Int × (List TBucket))) 1 a0.f6) (-1) a0.f7)))), (48, some (.iter (some 47) ((mput (mput ([] : List (Int × (List TBucket))) 1 a0.f6) (-1) a0.f7).length) (sn1537 ++ [i1662])))], 0⟩ [(mput (mput ([] : List (Int × (List TBucket))) 1 a0.f6) (-1) a0.f7).length = (mE (vkI .i64) (iRow eBucket) (mput (mput ([] : List (Int × (List TBucket))) 1 a0.f6) (-1) a0.f7)).length, ((sn1537 ++ [i1662])).getLast? = some i1662, mE (vkI .i64) (iRow eBucket) (mput (mput ([] : List (Int × (List TBucket))) 1 a0.f6) (-1) a0.f7) = mE (vkI .i64) (iRow eBucket) (mput (mput ([] : List (Int × (List TBucket))) 1 a0.f6) (-1) a0.f7), (mput (mput ([] : List (Int × (List TBucket))) 1 a0.f6) (-1) a0.f7)[i1662]? = some b1663, valA (iV .i64 b1663.1) = some ((vkI .i64) b1663.1)] (by kernel_rfl) ⟨by exact len_mE _ _ _, by simp, by exact rfl, by exact q1664, by exact rfl, trivial⟩ ?_
              refine AWp.seq ?_
              refine reg hP hn hm [(1, .any (iV .i64 (b1663.2.length : Int)))] [1, 2, 3, 7, 8, 9, 10, 42, 48, 49, 50] [45, 46, 47, 48] ⟨[(1, iV .i64 a1), (2, iV .i64 a2), (3, .ptr 45 0 0), (7, iV .u64 x1660), (8, iV .i64 x1661), (9, .mown 46), (10, iV .i64 b1663.1), (42, .ptr 48 0 0), (48, .im (.row (b1663.2.map eBucket))), (49, iV .i64 (b1663.2.length : Int)), (50, iV .i64 0)], [(45, some (.box 30 (aHist a0))), (46, some (.map (mE (fun x => Value.agg (vkbound_Key x).toArray) (iI .u64) t1532))), (47, some (.map (mE (vkI .i64) (iRow eBucket) (mput (mput ([] : List (Int × (List TBucket))) 1 a0.f6) (-1) a0.f7)))), (48, some (.iter (some 47) ((mput (mput ([] : List (Int × (List TBucket))) 1 a0.f6) (-1) a0.f7).length) (sn1537 ++ [i1662])))], 0⟩ [((b1663.2.map eBucket).length : Int) = (b1663.2.length : Int)] (by kernel_rfl) ⟨by rw [len_map], trivial⟩ ?_
              refine AWp.block ?_
              obtain ⟨o1737, e1738, H⟩ := bind_of H
              refine AWp.loop (LWp.conv (inv := [(45, 64), (46, 65), (47, 66), (48, 67)]) (vk := []) (e0 := []) (t := ⟨[(1, iV .i64 a1), (2, iV .i64 a2), (3, .ptr 64 0 0), (7, iV .u64 x1660), (8, iV .i64 x1661), (9, .mown 65), (10, iV .i64 b1663.1), (42, .ptr 67 0 0), (48, .im (.row (b1663.2.map eBucket))), (49, iV .i64 (b1663.2.length : Int)), (50, iV .i64 0)], [(64, some (.box 30 (aHist a0))), (65, some (.map (mE (fun x => Value.agg (vkbound_Key x).toArray) (iI .u64) t1532))), (66, some (.map (mE (vkI .i64) (iRow eBucket) (mput (mput ([] : List (Int × (List TBucket))) 1 a0.f6) (-1) a0.f7)))), (67, some (.iter (some 66) ((mput (mput ([] : List (Int × (List TBucket))) 1 a0.f6) (-1) a0.f7).length) (sn1537 ++ [i1662])))], 0⟩) (by kernel_rfl) ?_)
              refine LWp.mono (Q := fun e s => (match (generalizing := false) o1737 with | .inl rr => e = .ret ∧ s.floor = 0 ∧ resOf Try.prog Try.f7 s = some (bV rr) ∧ ([] : List (Nat × Option MObj)) = [] | .inr (x1712, x1713) => e = .exit 2 ∧ s = ⟨[(1, iV .i64 a1), (2, iV .i64 a2), (3, .ptr 83 0 0), (7, iV .u64 x1712), (8, iV .i64 x1713), (9, .mown 84), (42, .ptr 86 0 0)], [(83, some (.box 30 (aHist a0))), (84, some (.map (mE (fun x => Value.agg (vkbound_Key x).toArray) (iI .u64) t1532))), (85, some (.map (mE (vkI .i64) (iRow eBucket) (mput (mput ([] : List (Int × (List TBucket))) 1 a0.f6) (-1) a0.f7)))), (86, some (.iter (some 85) ((mput (mput ([] : List (Int × (List TBucket))) 1 a0.f6) (-1) a0.f7).length) (sn1537 ++ [i1662])))], 0⟩)) (LWp.cv (withBody (fun body hbody => ?_))) ?_
              · refine f_pluviallaw05_HistCells.l1.partial_correctness a0 a1 a2 b1663 t1532 (motive := fun x1687 x1688 x1689 o1737 => LWp Γ body (fun e s => ∃ t, Cv Γ s t ∧ (match (generalizing := false) o1737 with | .inl rr => e = .ret ∧ t.floor = 0 ∧ resOf Try.prog Try.f7 t = some (bV rr) ∧ ([] : List (Nat × Option MObj)) = [] | .inr (x1712, x1713) => e = .exit 2 ∧ t = ⟨[(1, iV .i64 a1), (2, iV .i64 a2), (3, .ptr 83 0 0), (7, iV .u64 x1712), (8, iV .i64 x1713), (9, .mown 84), (42, .ptr 86 0 0)], [(83, some (.box 30 (aHist a0))), (84, some (.map (mE (fun x => Value.agg (vkbound_Key x).toArray) (iI .u64) t1532))), (85, some (.map (mE (vkI .i64) (iRow eBucket) (mput (mput ([] : List (Int × (List TBucket))) 1 a0.f6) (-1) a0.f7)))), (86, some (.iter (some 85) ((mput (mput ([] : List (Int × (List TBucket))) 1 a0.f6) (-1) a0.f7).length) (sn1537 ++ [i1662])))], 0⟩)) ⟨[(1, iV .i64 a1), (2, iV .i64 a2), (3, .ptr 64 0 0), (7, iV .u64 x1687), (8, iV .i64 x1688), (9, .mown 65), (10, iV .i64 b1663.1), (42, .ptr 67 0 0), (48, .im (.row (b1663.2.map eBucket))), (49, iV .i64 (b1663.2.length : Int)), (50, iV .i64 x1689)], [(64, some (.box 30 (aHist a0))), (65, some (.map (mE (fun x => Value.agg (vkbound_Key x).toArray) (iI .u64) t1532))), (66, some (.map (mE (vkI .i64) (iRow eBucket) (mput (mput ([] : List (Int × (List TBucket))) 1 a0.f6) (-1) a0.f7)))), (67, some (.iter (some 66) ((mput (mput ([] : List (Int × (List TBucket))) 1 a0.f6) (-1) a0.f7).length) (sn1537 ++ [i1662])))], 0⟩) ?_ _ _ _ _ e1738
                clear H e1738 o1737; intro self ih x1687 x1688 x1689 o1737 H
                subst hbody
                refine LWp.round ?_
                refine AWp.seq ?_
                refine reg hP hn hm [] [1, 2, 3, 7, 8, 9, 10, 42, 48, 49, 50, 51] [64, 65, 66, 67] ⟨[(1, iV .i64 a1), (2, iV .i64 a2), (3, .ptr 64 0 0), (7, iV .u64 x1687), (8, iV .i64 x1688), (9, .mown 65), (10, iV .i64 b1663.1), (42, .ptr 67 0 0), (48, .im (.row (b1663.2.map eBucket))), (49, iV .i64 (b1663.2.length : Int)), (50, iV .i64 x1689), (51, bV (decide (x1689 < (b1663.2.length : Int))))], [(64, some (.box 30 (aHist a0))), (65, some (.map (mE (fun x => Value.agg (vkbound_Key x).toArray) (iI .u64) t1532))), (66, some (.map (mE (vkI .i64) (iRow eBucket) (mput (mput ([] : List (Int × (List TBucket))) 1 a0.f6) (-1) a0.f7)))), (67, some (.iter (some 66) ((mput (mput ([] : List (Int × (List TBucket))) 1 a0.f6) (-1) a0.f7).length) (sn1537 ++ [i1662])))], 0⟩ [] (by kernel_rfl) trivial ?_
                refine AWp.seq ?_
                refine AWp.cond (decide (x1689 < (b1663.2.length : Int))) rfl (fun c1690 => ?_) (fun c1690 => ?_)
                · replace H := (ifT c1690).symm.trans H
                  refine AWp.skip ?_
                  refine AWp.seq ?_
                  refine AWp.block ?_
                  refine AWp.seq ?_
                  obtain ⟨b1694, p1695, q1696, H⟩ := at_of H
                  refine reg hP hn hm [(0, .c (eBucket b1694)), (2, .k 68)] [1, 2, 3, 7, 8, 9, 10, 13, 42, 48, 49, 50] [64, 65, 66, 67, 68] ⟨[(1, iV .i64 a1), (2, iV .i64 a2), (3, .ptr 64 0 0), (7, iV .u64 x1687), (8, iV .i64 x1688), (9, .mown 65), (10, iV .i64 b1663.1), (13, .ptr 68 0 0), (42, .ptr 67 0 0), (48, .im (.row (b1663.2.map eBucket))), (49, iV .i64 (b1663.2.length : Int)), (50, iV .i64 x1689)], [(64, some (.box 30 (aHist a0))), (65, some (.map (mE (fun x => Value.agg (vkbound_Key x).toArray) (iI .u64) t1532))), (66, some (.map (mE (vkI .i64) (iRow eBucket) (mput (mput ([] : List (Int × (List TBucket))) 1 a0.f6) (-1) a0.f7)))), (67, some (.iter (some 66) ((mput (mput ([] : List (Int × (List TBucket))) 1 a0.f6) (-1) a0.f7).length) (sn1537 ++ [i1662]))), (68, some (.box 36 (aBucket b1694)))], 0⟩ [0 ≤ x1689, (b1663.2.map eBucket)[(Int.toNat (x1689))]? = some (eBucket b1694)] (by kernel_rfl) ⟨by exact p1695, by exact el_map eBucket q1696, trivial⟩ ?_
                  refine AWp.seq ?_
                  refine reg hP hn hm [] [1, 2, 3, 7, 8, 9, 10, 13, 42, 48, 49, 50] [64, 65, 66, 67, 68] ⟨[(1, iV .i64 a1), (2, iV .i64 a2), (3, .ptr 64 0 0), (7, iV .u64 x1687), (8, iV .i64 (IntKind.i64.wrap (x1688 + (1 : Int)))), (9, .mown 65), (10, iV .i64 b1663.1), (13, .ptr 68 0 0), (42, .ptr 67 0 0), (48, .im (.row (b1663.2.map eBucket))), (49, iV .i64 (b1663.2.length : Int)), (50, iV .i64 x1689)], [(64, some (.box 30 (aHist a0))), (65, some (.map (mE (fun x => Value.agg (vkbound_Key x).toArray) (iI .u64) t1532))), (66, some (.map (mE (vkI .i64) (iRow eBucket) (mput (mput ([] : List (Int × (List TBucket))) 1 a0.f6) (-1) a0.f7)))), (67, some (.iter (some 66) ((mput (mput ([] : List (Int × (List TBucket))) 1 a0.f6) (-1) a0.f7).length) (sn1537 ++ [i1662]))), (68, some (.box 36 (aBucket b1694)))], 0⟩ [] (by kernel_rfl) trivial ?_
                  refine AWp.seq ?_
                  refine AWp.seq ?_
                  obtain ⟨o1739, e1740, H⟩ := bind_of H
                  refine AWp.mono (Q := fun e s => (match (generalizing := false) o1739 with | x1703 => e = .normal ∧ s = ⟨[(1, iV .i64 a1), (2, iV .i64 a2), (3, .ptr 69 0 0), (7, iV .u64 x1687), (8, iV .i64 (IntKind.i64.wrap (x1688 + (1 : Int)))), (9, .mown 70), (10, iV .i64 b1663.1), (13, .ptr 71 0 0), (42, .ptr 73 0 0), (48, .im (.row (b1663.2.map eBucket))), (49, iV .i64 (b1663.2.length : Int)), (50, iV .i64 x1689), (76, bV x1703)], [(69, some (.box 30 (aHist a0))), (70, some (.map (mE (fun x => Value.agg (vkbound_Key x).toArray) (iI .u64) t1532))), (71, some (.box 36 (aBucket b1694))), (72, some (.map (mE (vkI .i64) (iRow eBucket) (mput (mput ([] : List (Int × (List TBucket))) 1 a0.f6) (-1) a0.f7)))), (73, some (.iter (some 72) ((mput (mput ([] : List (Int × (List TBucket))) 1 a0.f6) (-1) a0.f7).length) (sn1537 ++ [i1662])))], 0⟩)) (AWp.cv ?_) ?_
                  · replace H := e1740; clear e1740
                    rcases Bool.eq_false_or_eq_true (((mget t1532 (⟨b1663.1, a0.f1, b1694.f0⟩ : Tbound_Key)).getD 0) != b1694.f1) with c1700 | c1700
                    · replace H := (ifT c1700).symm.trans H
                      refine reg hP hn hm [(7, .more (xLook (fun x => Value.agg (vkbound_Key x).toArray) (iI .u64) t1532 (⟨b1663.1, a0.f1, b1694.f0⟩ : Tbound_Key) 0)), (11, .b true)] [1, 2, 3, 7, 8, 9, 10, 13, 42, 48, 49, 50, 76] [64, 65, 66, 67, 68] ⟨[(1, iV .i64 a1), (2, iV .i64 a2), (3, .ptr 64 0 0), (7, iV .u64 x1687), (8, iV .i64 (IntKind.i64.wrap (x1688 + (1 : Int)))), (9, .mown 65), (10, iV .i64 b1663.1), (13, .ptr 68 0 0), (42, .ptr 67 0 0), (48, .im (.row (b1663.2.map eBucket))), (49, iV .i64 (b1663.2.length : Int)), (50, iV .i64 x1689), (76, bV true)], [(64, some (.box 30 (aHist a0))), (65, some (.map (mE (fun x => Value.agg (vkbound_Key x).toArray) (iI .u64) t1532))), (66, some (.map (mE (vkI .i64) (iRow eBucket) (mput (mput ([] : List (Int × (List TBucket))) 1 a0.f6) (-1) a0.f7)))), (67, some (.iter (some 66) ((mput (mput ([] : List (Int × (List TBucket))) 1 a0.f6) (-1) a0.f7).length) (sn1537 ++ [i1662]))), (68, some (.box 36 (aBucket b1694)))], 0⟩ [KeyOK Try.prog 53 (fun x => Value.agg (vkbound_Key x).toArray), mE (fun x => Value.agg (vkbound_Key x).toArray) (iI .u64) t1532 = mE (fun x => Value.agg (vkbound_Key x).toArray) (iI .u64) t1532, valA (.agg (abound_Key ⟨b1663.1, a0.f1, b1694.f0⟩)) = some ((fun x => Value.agg (vkbound_Key x).toArray) (⟨b1663.1, a0.f1, b1694.f0⟩ : Tbound_Key)), iI .u64 0 = (iI .u64) 0, (((mget t1532 (⟨b1663.1, a0.f1, b1694.f0⟩ : Tbound_Key)).getD 0) != b1694.f1) = true] (by kernel_rfl) ⟨by exact keyok53, by exact rfl, by exact rfl, by exact rfl, by exact c1700, trivial⟩ ?_
                      obtain rfl := Option.some.inj H
                      exact Exists.intro _ (And.intro (fun _ _ h => h.conv (inv := [(64, 69), (65, 70), (68, 71), (66, 72), (67, 73)]) (vk := []) (e0 := []) (t := ⟨[(1, iV .i64 a1), (2, iV .i64 a2), (3, .ptr 69 0 0), (7, iV .u64 x1687), (8, iV .i64 (IntKind.i64.wrap (x1688 + (1 : Int)))), (9, .mown 70), (10, iV .i64 b1663.1), (13, .ptr 71 0 0), (42, .ptr 73 0 0), (48, .im (.row (b1663.2.map eBucket))), (49, iV .i64 (b1663.2.length : Int)), (50, iV .i64 x1689), (76, bV true)], [(69, some (.box 30 (aHist a0))), (70, some (.map (mE (fun x => Value.agg (vkbound_Key x).toArray) (iI .u64) t1532))), (71, some (.box 36 (aBucket b1694))), (72, some (.map (mE (vkI .i64) (iRow eBucket) (mput (mput ([] : List (Int × (List TBucket))) 1 a0.f6) (-1) a0.f7)))), (73, some (.iter (some 72) ((mput (mput ([] : List (Int × (List TBucket))) 1 a0.f6) (-1) a0.f7).length) (sn1537 ++ [i1662])))], 0⟩) (by kernel_rfl)) (And.intro rfl rfl))
                    · replace H := (ifF c1700).symm.trans H
                      obtain ⟨t1701, e1702, H⟩ := bind_of H
                      refine reg hP hn hm [(7, .more (xLook (fun x => Value.agg (vkbound_Key x).toArray) (iI .u64) t1532 (⟨b1663.1, a0.f1, b1694.f0⟩ : Tbound_Key) 0)), (11, .b false), (16, .call [] [] [] [] 0 (iV .u64 t1701) [])] [1, 2, 3, 7, 8, 9, 10, 13, 42, 48, 49, 50, 68, 69, 70, 71, 72, 73, 74, 75, 76] [64, 65, 66, 67, 68] ⟨[(1, iV .i64 a1), (2, iV .i64 a2), (3, .ptr 64 0 0), (7, iV .u64 x1687), (8, iV .i64 (IntKind.i64.wrap (x1688 + (1 : Int)))), (9, .mown 65), (10, iV .i64 b1663.1), (13, .ptr 68 0 0), (42, .ptr 67 0 0), (48, .im (.row (b1663.2.map eBucket))), (49, iV .i64 (b1663.2.length : Int)), (50, iV .i64 x1689), (68, .agg (aHist a0)), (69, iV .i64 b1663.1), (70, .ptr 68 0 0), (71, iV .i64 b1694.f0), (72, iV .u64 t1701), (73, .ptr 68 0 1), (74, iV .u64 b1694.f1), (75, bV (t1701 != b1694.f1)), (76, bV (t1701 != b1694.f1))], [(64, some (.box 30 (aHist a0))), (65, some (.map (mE (fun x => Value.agg (vkbound_Key x).toArray) (iI .u64) t1532))), (66, some (.map (mE (vkI .i64) (iRow eBucket) (mput (mput ([] : List (Int × (List TBucket))) 1 a0.f6) (-1) a0.f7)))), (67, some (.iter (some 66) ((mput (mput ([] : List (Int × (List TBucket))) 1 a0.f6) (-1) a0.f7).length) (sn1537 ++ [i1662]))), (68, some (.box 36 (aBucket b1694)))], 0⟩ [KeyOK Try.prog 53 (fun x => Value.agg (vkbound_Key x).toArray), mE (fun x => Value.agg (vkbound_Key x).toArray) (iI .u64) t1532 = mE (fun x => Value.agg (vkbound_Key x).toArray) (iI .u64) t1532, valA (.agg (abound_Key ⟨b1663.1, a0.f1, b1694.f0⟩)) = some ((fun x => Value.agg (vkbound_Key x).toArray) (⟨b1663.1, a0.f1, b1694.f0⟩ : Tbound_Key)), iI .u64 0 = (iI .u64) 0, (((mget t1532 (⟨b1663.1, a0.f1, b1694.f0⟩ : Tbound_Key)).getD 0) != b1694.f1) = false, Enters Try.prog 34, Pv.Fn Try.prog 34 [.agg (aHist a0), iV .i64 b1663.1, iV .i64 b1694.f0] [] 0 (fun r o => r = iV .u64 t1701 ∧ o = [])] (by kernel_rfl) ⟨by exact keyok53, by exact rfl, by exact rfl, by exact rfl, by exact c1700, by exact Try.call34, by exact f_hist_At.ok a0 b1663.1 b1694.f0 t1701 e1702, trivial⟩ ?_
                      obtain rfl := Option.some.inj H
                      exact Exists.intro _ (And.intro (fun _ _ h => h.conv (inv := [(64, 69), (65, 70), (68, 71), (66, 72), (67, 73)]) (vk := []) (e0 := []) (t := ⟨[(1, iV .i64 a1), (2, iV .i64 a2), (3, .ptr 69 0 0), (7, iV .u64 x1687), (8, iV .i64 (IntKind.i64.wrap (x1688 + (1 : Int)))), (9, .mown 70), (10, iV .i64 b1663.1), (13, .ptr 71 0 0), (42, .ptr 73 0 0), (48, .im (.row (b1663.2.map eBucket))), (49, iV .i64 (b1663.2.length : Int)), (50, iV .i64 x1689), (76, bV (t1701 != b1694.f1))], [(69, some (.box 30 (aHist a0))), (70, some (.map (mE (fun x => Value.agg (vkbound_Key x).toArray) (iI .u64) t1532))), (71, some (.box 36 (aBucket b1694))), (72, some (.map (mE (vkI .i64) (iRow eBucket) (mput (mput ([] : List (Int × (List TBucket))) 1 a0.f6) (-1) a0.f7)))), (73, some (.iter (some 72) ((mput (mput ([] : List (Int × (List TBucket))) 1 a0.f6) (-1) a0.f7).length) (sn1537 ++ [i1662])))], 0⟩) (by kernel_rfl)) (And.intro rfl rfl))
                  · obtain ⟨x1703, rfl⟩ : ∃ z, z = o1739 := ⟨_, rfl⟩
                    rintro e s ⟨rfl, rfl⟩
                    refine AWp.cond x1703 rfl (fun c1704 => ?_) (fun c1704 => ?_)
                    · replace H := (ifT c1704).symm.trans H
                      refine AWp.seq ?_
                      refine reg hP hn hm [] [6] [] ⟨[(6, bV false)], [], 0⟩ [] (by kernel_rfl) trivial ?_
                      refine AWp.conv (inv := []) (vk := []) (e0 := []) (t := ⟨[(6, bV false)], [], 0⟩) (by kernel_rfl) ?_
                      refine AWp.ret ?_
                      obtain rfl := Option.some.inj H
                      exact Exists.intro _ (And.intro (fun _ _ h => h) (And.intro rfl (And.intro rfl (And.intro (by kernel_rfl) (by kernel_rfl)))))
                    · replace H := (ifF c1704).symm.trans H
                      refine AWp.skip ?_
                      refine AWp.seq ?_
                      obtain ⟨o1741, e1742, H⟩ := bind_of H
                      refine AWp.mono (Q := fun e s => (match (generalizing := false) o1741 with | x1709 => e = .normal ∧ s = ⟨[(1, iV .i64 a1), (2, iV .i64 a2), (3, .ptr 74 0 0), (7, iV .u64 x1687), (8, iV .i64 (IntKind.i64.wrap (x1688 + (1 : Int)))), (9, .mown 75), (10, iV .i64 b1663.1), (13, .ptr 76 0 0), (42, .ptr 78 0 0), (48, .im (.row (b1663.2.map eBucket))), (49, iV .i64 (b1663.2.length : Int)), (50, iV .i64 x1689), (91, bV x1709)], [(74, some (.box 30 (aHist a0))), (75, some (.map (mE (fun x => Value.agg (vkbound_Key x).toArray) (iI .u64) t1532))), (76, some (.box 36 (aBucket b1694))), (77, some (.map (mE (vkI .i64) (iRow eBucket) (mput (mput ([] : List (Int × (List TBucket))) 1 a0.f6) (-1) a0.f7)))), (78, some (.iter (some 77) ((mput (mput ([] : List (Int × (List TBucket))) 1 a0.f6) (-1) a0.f7).length) (sn1537 ++ [i1662])))], 0⟩)) (AWp.cv ?_) ?_
                      · replace H := e1742; clear e1742
                        rcases Bool.eq_false_or_eq_true ((decide (a1 > (0 : Int))) == (decide (b1663.1 > (0 : Int)))) with c1707 | c1707
                        · replace H := (ifT c1707).symm.trans H
                          rcases Bool.eq_false_or_eq_true (a1 != (0 : Int)) with c1708 | c1708
                          · replace H := (ifT c1708).symm.trans H
                            refine reg hP hn hm [(5, .b true), (9, .b true)] [1, 2, 3, 7, 8, 9, 10, 13, 42, 48, 49, 50, 83, 84, 87, 88, 89, 90, 91] [69, 70, 71, 72, 73] ⟨[(1, iV .i64 a1), (2, iV .i64 a2), (3, .ptr 69 0 0), (7, iV .u64 x1687), (8, iV .i64 (IntKind.i64.wrap (x1688 + (1 : Int)))), (9, .mown 70), (10, iV .i64 b1663.1), (13, .ptr 71 0 0), (42, .ptr 73 0 0), (48, .im (.row (b1663.2.map eBucket))), (49, iV .i64 (b1663.2.length : Int)), (50, iV .i64 x1689), (83, iV .i64 a1), (84, bV (a1 != (0 : Int))), (87, .ptr 71 0 0), (88, iV .i64 b1694.f0), (89, iV .i64 a2), (90, bV (b1694.f0 == a2)), (91, bV (b1694.f0 == a2))], [(69, some (.box 30 (aHist a0))), (70, some (.map (mE (fun x => Value.agg (vkbound_Key x).toArray) (iI .u64) t1532))), (71, some (.box 36 (aBucket b1694))), (72, some (.map (mE (vkI .i64) (iRow eBucket) (mput (mput ([] : List (Int × (List TBucket))) 1 a0.f6) (-1) a0.f7)))), (73, some (.iter (some 72) ((mput (mput ([] : List (Int × (List TBucket))) 1 a0.f6) (-1) a0.f7).length) (sn1537 ++ [i1662])))], 0⟩ [((decide (a1 > (0 : Int))) == (decide (b1663.1 > (0 : Int)))) = true, (a1 != (0 : Int)) = true] (by kernel_rfl) ⟨by exact c1707, by exact c1708, trivial⟩ ?_
                            obtain rfl := Option.some.inj H
                            exact Exists.intro _ (And.intro (fun _ _ h => h.conv (inv := [(69, 74), (70, 75), (71, 76), (72, 77), (73, 78)]) (vk := []) (e0 := []) (t := ⟨[(1, iV .i64 a1), (2, iV .i64 a2), (3, .ptr 74 0 0), (7, iV .u64 x1687), (8, iV .i64 (IntKind.i64.wrap (x1688 + (1 : Int)))), (9, .mown 75), (10, iV .i64 b1663.1), (13, .ptr 76 0 0), (42, .ptr 78 0 0), (48, .im (.row (b1663.2.map eBucket))), (49, iV .i64 (b1663.2.length : Int)), (50, iV .i64 x1689), (91, bV (b1694.f0 == a2))], [(74, some (.box 30 (aHist a0))), (75, some (.map (mE (fun x => Value.agg (vkbound_Key x).toArray) (iI .u64) t1532))), (76, some (.box 36 (aBucket b1694))), (77, some (.map (mE (vkI .i64) (iRow eBucket) (mput (mput ([] : List (Int × (List TBucket))) 1 a0.f6) (-1) a0.f7)))), (78, some (.iter (some 77) ((mput (mput ([] : List (Int × (List TBucket))) 1 a0.f6) (-1) a0.f7).length) (sn1537 ++ [i1662])))], 0⟩) (by kernel_rfl)) (And.intro rfl rfl))
                          · replace H := (ifF c1708).symm.trans H
                            refine reg hP hn hm [(5, .b true), (9, .b false)] [1, 2, 3, 7, 8, 9, 10, 13, 42, 48, 49, 50, 83, 84, 91] [69, 70, 71, 72, 73] ⟨[(1, iV .i64 a1), (2, iV .i64 a2), (3, .ptr 69 0 0), (7, iV .u64 x1687), (8, iV .i64 (IntKind.i64.wrap (x1688 + (1 : Int)))), (9, .mown 70), (10, iV .i64 b1663.1), (13, .ptr 71 0 0), (42, .ptr 73 0 0), (48, .im (.row (b1663.2.map eBucket))), (49, iV .i64 (b1663.2.length : Int)), (50, iV .i64 x1689), (83, iV .i64 a1), (84, bV (a1 != (0 : Int))), (91, bV false)], [(69, some (.box 30 (aHist a0))), (70, some (.map (mE (fun x => Value.agg (vkbound_Key x).toArray) (iI .u64) t1532))), (71, some (.box 36 (aBucket b1694))), (72, some (.map (mE (vkI .i64) (iRow eBucket) (mput (mput ([] : List (Int × (List TBucket))) 1 a0.f6) (-1) a0.f7)))), (73, some (.iter (some 72) ((mput (mput ([] : List (Int × (List TBucket))) 1 a0.f6) (-1) a0.f7).length) (sn1537 ++ [i1662])))], 0⟩ [((decide (a1 > (0 : Int))) == (decide (b1663.1 > (0 : Int)))) = true, (a1 != (0 : Int)) = false] (by kernel_rfl) ⟨by exact c1707, by exact c1708, trivial⟩ ?_
                            obtain rfl := Option.some.inj H
                            exact Exists.intro _ (And.intro (fun _ _ h => h.conv (inv := [(69, 74), (70, 75), (71, 76), (72, 77), (73, 78)]) (vk := []) (e0 := []) (t := ⟨[(1, iV .i64 a1), (2, iV .i64 a2), (3, .ptr 74 0 0), (7, iV .u64 x1687), (8, iV .i64 (IntKind.i64.wrap (x1688 + (1 : Int)))), (9, .mown 75), (10, iV .i64 b1663.1), (13, .ptr 76 0 0), (42, .ptr 78 0 0), (48, .im (.row (b1663.2.map eBucket))), (49, iV .i64 (b1663.2.length : Int)), (50, iV .i64 x1689), (91, bV false)], [(74, some (.box 30 (aHist a0))), (75, some (.map (mE (fun x => Value.agg (vkbound_Key x).toArray) (iI .u64) t1532))), (76, some (.box 36 (aBucket b1694))), (77, some (.map (mE (vkI .i64) (iRow eBucket) (mput (mput ([] : List (Int × (List TBucket))) 1 a0.f6) (-1) a0.f7)))), (78, some (.iter (some 77) ((mput (mput ([] : List (Int × (List TBucket))) 1 a0.f6) (-1) a0.f7).length) (sn1537 ++ [i1662])))], 0⟩) (by kernel_rfl)) (And.intro rfl rfl))
                        · replace H := (ifF c1707).symm.trans H
                          refine reg hP hn hm [(5, .b false)] [1, 2, 3, 7, 8, 9, 10, 13, 42, 48, 49, 50, 91] [69, 70, 71, 72, 73] ⟨[(1, iV .i64 a1), (2, iV .i64 a2), (3, .ptr 69 0 0), (7, iV .u64 x1687), (8, iV .i64 (IntKind.i64.wrap (x1688 + (1 : Int)))), (9, .mown 70), (10, iV .i64 b1663.1), (13, .ptr 71 0 0), (42, .ptr 73 0 0), (48, .im (.row (b1663.2.map eBucket))), (49, iV .i64 (b1663.2.length : Int)), (50, iV .i64 x1689), (91, bV false)], [(69, some (.box 30 (aHist a0))), (70, some (.map (mE (fun x => Value.agg (vkbound_Key x).toArray) (iI .u64) t1532))), (71, some (.box 36 (aBucket b1694))), (72, some (.map (mE (vkI .i64) (iRow eBucket) (mput (mput ([] : List (Int × (List TBucket))) 1 a0.f6) (-1) a0.f7)))), (73, some (.iter (some 72) ((mput (mput ([] : List (Int × (List TBucket))) 1 a0.f6) (-1) a0.f7).length) (sn1537 ++ [i1662])))], 0⟩ [((decide (a1 > (0 : Int))) == (decide (b1663.1 > (0 : Int)))) = false] (by kernel_rfl) ⟨by exact c1707, trivial⟩ ?_
                          obtain rfl := Option.some.inj H
                          exact Exists.intro _ (And.intro (fun _ _ h => h.conv (inv := [(69, 74), (70, 75), (71, 76), (72, 77), (73, 78)]) (vk := []) (e0 := []) (t := ⟨[(1, iV .i64 a1), (2, iV .i64 a2), (3, .ptr 74 0 0), (7, iV .u64 x1687), (8, iV .i64 (IntKind.i64.wrap (x1688 + (1 : Int)))), (9, .mown 75), (10, iV .i64 b1663.1), (13, .ptr 76 0 0), (42, .ptr 78 0 0), (48, .im (.row (b1663.2.map eBucket))), (49, iV .i64 (b1663.2.length : Int)), (50, iV .i64 x1689), (91, bV false)], [(74, some (.box 30 (aHist a0))), (75, some (.map (mE (fun x => Value.agg (vkbound_Key x).toArray) (iI .u64) t1532))), (76, some (.box 36 (aBucket b1694))), (77, some (.map (mE (vkI .i64) (iRow eBucket) (mput (mput ([] : List (Int × (List TBucket))) 1 a0.f6) (-1) a0.f7)))), (78, some (.iter (some 77) ((mput (mput ([] : List (Int × (List TBucket))) 1 a0.f6) (-1) a0.f7).length) (sn1537 ++ [i1662])))], 0⟩) (by kernel_rfl)) (And.intro rfl rfl))
                      · obtain ⟨x1709, rfl⟩ : ∃ z, z = o1741 := ⟨_, rfl⟩
                        rintro e s ⟨rfl, rfl⟩
                        obtain ⟨o1743, e1744, H⟩ := bind_of H
                        refine AWp.mono (Q := fun e s => (match (generalizing := false) o1743 with | x1711 => e = .normal ∧ s = ⟨[(1, iV .i64 a1), (2, iV .i64 a2), (3, .ptr 79 0 0), (7, iV .u64 x1711), (8, iV .i64 (IntKind.i64.wrap (x1688 + (1 : Int)))), (9, .mown 80), (10, iV .i64 b1663.1), (42, .ptr 82 0 0), (48, .im (.row (b1663.2.map eBucket))), (49, iV .i64 (b1663.2.length : Int)), (50, iV .i64 x1689)], [(79, some (.box 30 (aHist a0))), (80, some (.map (mE (fun x => Value.agg (vkbound_Key x).toArray) (iI .u64) t1532))), (81, some (.map (mE (vkI .i64) (iRow eBucket) (mput (mput ([] : List (Int × (List TBucket))) 1 a0.f6) (-1) a0.f7)))), (82, some (.iter (some 81) ((mput (mput ([] : List (Int × (List TBucket))) 1 a0.f6) (-1) a0.f7).length) (sn1537 ++ [i1662])))], 0⟩)) (AWp.cv ?_) ?_
                        · replace H := e1744; clear e1744
                          refine AWp.cond x1709 rfl (fun c1710 => ?_) (fun c1710 => ?_)
                          · replace H := (ifT c1710).symm.trans H
                            refine reg hP hn hm [] [1, 2, 3, 7, 8, 9, 10, 42, 48, 49, 50] [74, 75, 77, 78] ⟨[(1, iV .i64 a1), (2, iV .i64 a2), (3, .ptr 74 0 0), (7, iV .u64 b1694.f1), (8, iV .i64 (IntKind.i64.wrap (x1688 + (1 : Int)))), (9, .mown 75), (10, iV .i64 b1663.1), (42, .ptr 78 0 0), (48, .im (.row (b1663.2.map eBucket))), (49, iV .i64 (b1663.2.length : Int)), (50, iV .i64 x1689)], [(74, some (.box 30 (aHist a0))), (75, some (.map (mE (fun x => Value.agg (vkbound_Key x).toArray) (iI .u64) t1532))), (77, some (.map (mE (vkI .i64) (iRow eBucket) (mput (mput ([] : List (Int × (List TBucket))) 1 a0.f6) (-1) a0.f7)))), (78, some (.iter (some 77) ((mput (mput ([] : List (Int × (List TBucket))) 1 a0.f6) (-1) a0.f7).length) (sn1537 ++ [i1662])))], 0⟩ [] (by kernel_rfl) trivial ?_
                            obtain rfl := Option.some.inj H
                            exact Exists.intro _ (And.intro (fun _ _ h => h.conv (inv := [(74, 79), (75, 80), (77, 81), (78, 82)]) (vk := []) (e0 := []) (t := ⟨[(1, iV .i64 a1), (2, iV .i64 a2), (3, .ptr 79 0 0), (7, iV .u64 b1694.f1), (8, iV .i64 (IntKind.i64.wrap (x1688 + (1 : Int)))), (9, .mown 80), (10, iV .i64 b1663.1), (42, .ptr 82 0 0), (48, .im (.row (b1663.2.map eBucket))), (49, iV .i64 (b1663.2.length : Int)), (50, iV .i64 x1689)], [(79, some (.box 30 (aHist a0))), (80, some (.map (mE (fun x => Value.agg (vkbound_Key x).toArray) (iI .u64) t1532))), (81, some (.map (mE (vkI .i64) (iRow eBucket) (mput (mput ([] : List (Int × (List TBucket))) 1 a0.f6) (-1) a0.f7)))), (82, some (.iter (some 81) ((mput (mput ([] : List (Int × (List TBucket))) 1 a0.f6) (-1) a0.f7).length) (sn1537 ++ [i1662])))], 0⟩) (by kernel_rfl)) (And.intro rfl rfl))
                          · replace H := (ifF c1710).symm.trans H
                            refine AWp.skip ?_
                            obtain rfl := Option.some.inj H
                            exact Exists.intro _ (And.intro (fun _ _ h => h.conv (inv := [(74, 79), (75, 80), (77, 81), (78, 82)]) (vk := []) (e0 := []) (t := ⟨[(1, iV .i64 a1), (2, iV .i64 a2), (3, .ptr 79 0 0), (7, iV .u64 x1687), (8, iV .i64 (IntKind.i64.wrap (x1688 + (1 : Int)))), (9, .mown 80), (10, iV .i64 b1663.1), (42, .ptr 82 0 0), (48, .im (.row (b1663.2.map eBucket))), (49, iV .i64 (b1663.2.length : Int)), (50, iV .i64 x1689)], [(79, some (.box 30 (aHist a0))), (80, some (.map (mE (fun x => Value.agg (vkbound_Key x).toArray) (iI .u64) t1532))), (81, some (.map (mE (vkI .i64) (iRow eBucket) (mput (mput ([] : List (Int × (List TBucket))) 1 a0.f6) (-1) a0.f7)))), (82, some (.iter (some 81) ((mput (mput ([] : List (Int × (List TBucket))) 1 a0.f6) (-1) a0.f7).length) (sn1537 ++ [i1662])))], 0⟩) (by kernel_rfl)) (And.intro rfl rfl))
                        · obtain ⟨x1711, rfl⟩ : ∃ z, z = o1743 := ⟨_, rfl⟩
                          rintro e s ⟨rfl, rfl⟩
                          refine reg hP hn hm [] [1, 2, 3, 7, 8, 9, 10, 42, 48, 49, 50] [79, 80, 81, 82] ⟨[(1, iV .i64 a1), (2, iV .i64 a2), (3, .ptr 79 0 0), (7, iV .u64 x1711), (8, iV .i64 (IntKind.i64.wrap (x1688 + (1 : Int)))), (9, .mown 80), (10, iV .i64 b1663.1), (42, .ptr 82 0 0), (48, .im (.row (b1663.2.map eBucket))), (49, iV .i64 (b1663.2.length : Int)), (50, iV .i64 (IntKind.i64.wrap (x1689 + (1 : Int))))], [(79, some (.box 30 (aHist a0))), (80, some (.map (mE (fun x => Value.agg (vkbound_Key x).toArray) (iI .u64) t1532))), (81, some (.map (mE (vkI .i64) (iRow eBucket) (mput (mput ([] : List (Int × (List TBucket))) 1 a0.f6) (-1) a0.f7)))), (82, some (.iter (some 81) ((mput (mput ([] : List (Int × (List TBucket))) 1 a0.f6) (-1) a0.f7).length) (sn1537 ++ [i1662])))], 0⟩ [] (by kernel_rfl) trivial ?_
                          exact LWp.conv (inv := [(79, 64), (80, 65), (81, 66), (82, 67)]) (vk := []) (e0 := []) (t := ⟨[(1, iV .i64 a1), (2, iV .i64 a2), (3, .ptr 64 0 0), (7, iV .u64 x1711), (8, iV .i64 (IntKind.i64.wrap (x1688 + (1 : Int)))), (9, .mown 65), (10, iV .i64 b1663.1), (42, .ptr 67 0 0), (48, .im (.row (b1663.2.map eBucket))), (49, iV .i64 (b1663.2.length : Int)), (50, iV .i64 (IntKind.i64.wrap (x1689 + (1 : Int))))], [(64, some (.box 30 (aHist a0))), (65, some (.map (mE (fun x => Value.agg (vkbound_Key x).toArray) (iI .u64) t1532))), (66, some (.map (mE (vkI .i64) (iRow eBucket) (mput (mput ([] : List (Int × (List TBucket))) 1 a0.f6) (-1) a0.f7)))), (67, some (.iter (some 66) ((mput (mput ([] : List (Int × (List TBucket))) 1 a0.f6) (-1) a0.f7).length) (sn1537 ++ [i1662])))], 0⟩) (by kernel_rfl) (ih _ _ _ _ H)
                · replace H := (ifF c1690).symm.trans H
                  refine AWp.exit ?_
                  obtain rfl := Option.some.inj H
                  exact Exists.intro _ (And.intro (fun _ _ h => h.conv (inv := [(64, 83), (65, 84), (66, 85), (67, 86)]) (vk := []) (e0 := []) (t := ⟨[(1, iV .i64 a1), (2, iV .i64 a2), (3, .ptr 83 0 0), (7, iV .u64 x1687), (8, iV .i64 x1688), (9, .mown 84), (42, .ptr 86 0 0)], [(83, some (.box 30 (aHist a0))), (84, some (.map (mE (fun x => Value.agg (vkbound_Key x).toArray) (iI .u64) t1532))), (85, some (.map (mE (vkI .i64) (iRow eBucket) (mput (mput ([] : List (Int × (List TBucket))) 1 a0.f6) (-1) a0.f7)))), (86, some (.iter (some 85) ((mput (mput ([] : List (Int × (List TBucket))) 1 a0.f6) (-1) a0.f7).length) (sn1537 ++ [i1662])))], 0⟩) (by kernel_rfl)) (And.intro rfl rfl))
              · rcases o1737 with rr | ⟨x1712, x1713⟩
                · skip
                  rintro e s ⟨rfl, hfl, hres⟩
                  obtain rfl := Option.some.inj H
                  obtain rfl := hxr _ rfl
                  exact Exists.intro _ (And.intro (fun _ _ h => h) (And.intro rfl (And.intro hfl hres)))
                · skip
                  rintro e s ⟨rfl, rfl⟩
                  obtain rfl := Option.some.inj H
                  exact LWp.conv (inv := [(83, 45), (84, 46), (85, 47), (86, 48)]) (vk := []) (e0 := []) (t := ⟨[(1, iV .i64 a1), (2, iV .i64 a2), (3, .ptr 45 0 0), (7, iV .u64 x1712), (8, iV .i64 x1713), (9, .mown 46), (42, .ptr 48 0 0)], [(45, some (.box 30 (aHist a0))), (46, some (.map (mE (fun x => Value.agg (vkbound_Key x).toArray) (iI .u64) t1532))), (47, some (.map (mE (vkI .i64) (iRow eBucket) (mput (mput ([] : List (Int × (List TBucket))) 1 a0.f6) (-1) a0.f7)))), (48, some (.iter (some 47) ((mput (mput ([] : List (Int × (List TBucket))) 1 a0.f6) (-1) a0.f7).length) (sn1537 ++ [i1662])))], 0⟩) (by kernel_rfl) (self i1662 (x1712, x1713) (hwr _ rfl) hmem)
          · rcases o1735 with rr | ⟨x1714, x1715⟩
            · skip
              rintro e s ⟨rfl, hfl, hres⟩
              obtain rfl := Option.some.inj H
              exact Exists.intro _ (And.intro (fun _ _ h => h) (And.intro (.inl rfl) (And.intro hfl hres)))
            · skip
              rintro e s ⟨rfl, rfl⟩
              refine AWp.seq ?_
              refine AWp.seq ?_
              refine reg hP hn hm [] [1, 2, 3, 7, 8, 9, 96] [87, 88] ⟨[(1, iV .i64 a1), (2, iV .i64 a2), (3, .ptr 87 0 0), (7, iV .u64 x1714), (8, iV .i64 x1715), (9, .mown 88), (96, bV (a1 == (0 : Int)))], [(87, some (.box 30 (aHist a0))), (88, some (.map (mE (fun x => Value.agg (vkbound_Key x).toArray) (iI .u64) t1532)))], 0⟩ [] (by kernel_rfl) trivial ?_
              obtain ⟨o1745, e1746, H⟩ := bind_of H
              refine AWp.mono (Q := fun e s => (match (generalizing := false) o1745 with | x1717 => e = .normal ∧ s = ⟨[(1, iV .i64 a1), (2, iV .i64 a2), (3, .ptr 89 0 0), (7, iV .u64 x1717), (8, iV .i64 x1715), (9, .mown 90)], [(89, some (.box 30 (aHist a0))), (90, some (.map (mE (fun x => Value.agg (vkbound_Key x).toArray) (iI .u64) t1532)))], 0⟩)) (AWp.cv ?_) ?_
              · replace H := e1746; clear e1746
                refine AWp.cond (a1 == (0 : Int)) rfl (fun c1716 => ?_) (fun c1716 => ?_)
                · replace H := (ifT c1716).symm.trans H
                  refine reg hP hn hm [] [1, 2, 3, 7, 8, 9] [87, 88] ⟨[(1, iV .i64 a1), (2, iV .i64 a2), (3, .ptr 87 0 0), (7, iV .u64 a0.f3), (8, iV .i64 x1715), (9, .mown 88)], [(87, some (.box 30 (aHist a0))), (88, some (.map (mE (fun x => Value.agg (vkbound_Key x).toArray) (iI .u64) t1532)))], 0⟩ [] (by kernel_rfl) trivial ?_
                  obtain rfl := Option.some.inj H
                  exact Exists.intro _ (And.intro (fun _ _ h => h.conv (inv := [(87, 89), (88, 90)]) (vk := []) (e0 := []) (t := ⟨[(1, iV .i64 a1), (2, iV .i64 a2), (3, .ptr 89 0 0), (7, iV .u64 a0.f3), (8, iV .i64 x1715), (9, .mown 90)], [(89, some (.box 30 (aHist a0))), (90, some (.map (mE (fun x => Value.agg (vkbound_Key x).toArray) (iI .u64) t1532)))], 0⟩) (by kernel_rfl)) (And.intro rfl rfl))
                · replace H := (ifF c1716).symm.trans H
                  refine AWp.skip ?_
                  obtain rfl := Option.some.inj H
                  exact Exists.intro _ (And.intro (fun _ _ h => h.conv (inv := [(87, 89), (88, 90)]) (vk := []) (e0 := []) (t := ⟨[(1, iV .i64 a1), (2, iV .i64 a2), (3, .ptr 89 0 0), (7, iV .u64 x1714), (8, iV .i64 x1715), (9, .mown 90)], [(89, some (.box 30 (aHist a0))), (90, some (.map (mE (fun x => Value.agg (vkbound_Key x).toArray) (iI .u64) t1532)))], 0⟩) (by kernel_rfl)) (And.intro rfl rfl))
              · obtain ⟨x1717, rfl⟩ : ∃ z, z = o1745 := ⟨_, rfl⟩
                rintro e s ⟨rfl, rfl⟩
                refine AWp.seq ?_
                obtain ⟨o1747, e1748, H⟩ := bind_of H
                refine AWp.mono (Q := fun e s => (match (generalizing := false) o1747 with | x1730 => e = .normal ∧ s = ⟨[(6, bV x1730)], [], 0⟩)) (AWp.cv ?_) ?_
                · replace H := e1748; clear e1748
                  obtain ⟨t1724, e1725, H⟩ := bind_of H
                  rcases Bool.eq_false_or_eq_true t1724 with c1726 | c1726
                  · replace H := (ifT c1726).symm.trans H
                    rcases Bool.eq_false_or_eq_true ((t1532.length : Int) == x1715) with c1727 | c1727
                    · replace H := (ifT c1727).symm.trans H
                      obtain ⟨t1728, e1729, H⟩ := bind_of H
                      refine reg hP hn hm [(0, .call [] [] [] [] 0 (bV t1724) []), (1, .b true), (3, .more (xMlen (t1532.length : Int))), (7, .b true), (11, .call [] [] [] [] 0 (iV .u64 t1728) [])] [6] [] ⟨[(6, bV (t1728 == x1717))], [], 0⟩ [Enters Try.prog 16, Pv.Fn Try.prog 16 [] [] 0 (fun r o => r = bV t1724 ∧ o = []), t1724 = true, (t1532.length : Int) = ((mE (fun x => Value.agg (vkbound_Key x).toArray) (iI .u64) t1532).length : Int), ((t1532.length : Int) == x1715) = true, Enters Try.prog 34, Pv.Fn Try.prog 34 [.agg (aHist a0), iV .i64 a1, iV .i64 a2] [] 0 (fun r o => r = iV .u64 t1728 ∧ o = [])] (by kernel_rfl) ⟨by exact Try.call16, by exact f_pluviallaw05_awake.ok  t1724 e1725, by exact c1726, by exact len_mE' _ _ _, by exact c1727, by exact Try.call34, by exact f_hist_At.ok a0 a1 a2 t1728 e1729, trivial⟩ ?_
                      obtain rfl := Option.some.inj H
                      exact Exists.intro _ (And.intro (fun _ _ h => h.conv (inv := []) (vk := []) (e0 := []) (t := ⟨[(6, bV (t1728 == x1717))], [], 0⟩) (by kernel_rfl)) (And.intro rfl rfl))
                    · replace H := (ifF c1727).symm.trans H
                      refine reg hP hn hm [(0, .call [] [] [] [] 0 (bV t1724) []), (1, .b true), (3, .more (xMlen (t1532.length : Int))), (7, .b false)] [6] [] ⟨[(6, bV false)], [], 0⟩ [Enters Try.prog 16, Pv.Fn Try.prog 16 [] [] 0 (fun r o => r = bV t1724 ∧ o = []), t1724 = true, (t1532.length : Int) = ((mE (fun x => Value.agg (vkbound_Key x).toArray) (iI .u64) t1532).length : Int), ((t1532.length : Int) == x1715) = false] (by kernel_rfl) ⟨by exact Try.call16, by exact f_pluviallaw05_awake.ok  t1724 e1725, by exact c1726, by exact len_mE' _ _ _, by exact c1727, trivial⟩ ?_
                      obtain rfl := Option.some.inj H
                      exact Exists.intro _ (And.intro (fun _ _ h => h.conv (inv := []) (vk := []) (e0 := []) (t := ⟨[(6, bV false)], [], 0⟩) (by kernel_rfl)) (And.intro rfl rfl))
                  · replace H := (ifF c1726).symm.trans H
                    refine reg hP hn hm [(0, .call [] [] [] [] 0 (bV t1724) []), (1, .b false)] [6] [] ⟨[(6, bV false)], [], 0⟩ [Enters Try.prog 16, Pv.Fn Try.prog 16 [] [] 0 (fun r o => r = bV t1724 ∧ o = []), t1724 = false] (by kernel_rfl) ⟨by exact Try.call16, by exact f_pluviallaw05_awake.ok  t1724 e1725, by exact c1726, trivial⟩ ?_
                    obtain rfl := Option.some.inj H
                    exact Exists.intro _ (And.intro (fun _ _ h => h.conv (inv := []) (vk := []) (e0 := []) (t := ⟨[(6, bV false)], [], 0⟩) (by kernel_rfl)) (And.intro rfl rfl))
                · obtain ⟨x1730, rfl⟩ : ∃ z, z = o1747 := ⟨_, rfl⟩
                  rintro e s ⟨rfl, rfl⟩
                  refine AWp.conv (inv := []) (vk := []) (e0 := []) (t := ⟨[(6, bV x1730)], [], 0⟩) (by kernel_rfl) ?_
                  refine AWp.ret ?_
                  obtain rfl := Option.some.inj H
                  exact Exists.intro _ (And.intro (fun _ _ h => h) (And.intro (.inl rfl) (And.intro rfl (And.intro (by kernel_rfl) (by kernel_rfl)))))
end Go.Proofs.Ytjfhobijgkccdaa.PvGA3
