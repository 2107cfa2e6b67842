import Derived.Test.YtfkppdcfgmgllaaProg
import Derived.Test.YtfkppdcfgmgllaaPxPlanEnds04
set_option linter.unusedVariables false
set_option linter.unnecessarySimpa false
set_option linter.unusedSimpArgs false
set_option maxRecDepth 10000
namespace Go.Proofs.Ytfkppdcfgmgllaa.PvGD1
open Go Go.Pv
structure Tpluvialref17_Item where
  f0 : Int
  f1 : Int
  f2 : Int
  f3 : Int
  deriving DecidableEq, Inhabited
abbrev epluvialref17_Item (x : Tpluvialref17_Item) : List Im := [iI .i64 x.f0, iI .i64 x.f1, iI .i64 x.f2, iI .i64 x.f3]
abbrev apluvialref17_Item (x : Tpluvialref17_Item) : List AVal := [iV .i64 x.f0, iV .i64 x.f1, iV .i64 x.f2, iV .i64 x.f3]
structure Rpluvialref17_Item (x : Tpluvialref17_Item) : Prop where
  r0 : I64 x.f0
  r1 : I64 x.f1
  r2 : I64 x.f2
  r3 : I64 x.f3
structure Tblock_Meta where
  f0 : Int
  f1 : Int
  f2 : Int
  deriving DecidableEq, Inhabited
structure Rblock_Meta (x : Tblock_Meta) : Prop where
  r0 : I64 x.f0
  r1 : I64 x.f1
  r2 : I64 x.f2
structure Tplan_Item where
  f0 : Int
  f1 : Tblock_Meta
  deriving DecidableEq, Inhabited
abbrev eplan_Item (x : Tplan_Item) : List Im := [iI .i64 x.f0, iI .i64 x.f1.f0, iI .i64 x.f1.f1, iI .i64 x.f1.f2]
structure Rplan_Item (x : Tplan_Item) : Prop where
  r0 : I64 x.f0
  r1 : Rblock_Meta x.f1
structure Tplan_Step where
  f0 : List Int
  f1 : Int
  deriving DecidableEq, Inhabited
abbrev aplan_Step (x : Tplan_Step) : List AVal := [.im (.row (x.f0.map (encInt .i64))), iV .i64 x.f1]
structure Rplan_Step (x : Tplan_Step) : Prop where
  r0 : x.f0.length ≤ maxLen ∧ ∀ y ∈ x.f0, I64 y
  r1 : I64 x.f1
def f_pluvialref16_Width.l0 (a0 : Int) (x19 : Int) (x20 : Int) : Option (Int) := ((if (decide (x20 < a0)) = true then (some (decide (x20 < (4 : Int)))) else (some false)) : Option (Bool)) >>= fun x23 => if x23 = true then (f_pluvialref16_Width.l0 a0 (IntKind.i64.wrap (x19 * (4 : Int))) (IntKind.i64.wrap (x20 + (1 : Int)))) else (some x19)
partial_fixpoint
def f_pluvialref16_Width.f (a0 : Int) : Option (Int) := (f_pluvialref16_Width.l0 a0 64 0) >>= fun x25 => some x25
theorem f_pluvialref16_Width.ok (a0 : Int) (r : Int) (H : f_pluvialref16_Width.f a0 = some r) : Pv.Fn Try.prog 19 [iV .i64 a0] [] 0 (fun x o => x = iV .i64 r ∧ o = []) := by
  unfold f_pluvialref16_Width.f at H
  refine Fn.bodyK [] Try.func19 rfl rfl (fun Γ hP hn => ?_)
  have hm : Try.prog.follows .mixedOrders = true := by kernel_rfl
  replace hn : Γ.n = 17 := hn
  refine AWp.seq ?_
  refine reg hP hn hm [] [0] [] ⟨[(0, iV .i64 a0)], [], 0⟩ [] (by kernel_rfl) trivial ?_
  refine AWp.seq ?_
  refine reg hP hn hm [] [0, 3] [] ⟨[(0, iV .i64 a0), (3, iV .i64 64)], [], 0⟩ [] (by kernel_rfl) trivial ?_
  refine AWp.seq ?_
  refine AWp.seq ?_
  refine reg hP hn hm [] [0, 3, 4] [] ⟨[(0, iV .i64 a0), (3, iV .i64 64), (4, iV .i64 0)], [], 0⟩ [] (by kernel_rfl) trivial ?_
  refine AWp.block ?_
  obtain ⟨o26, e27, H⟩ := bind_of H
  refine AWp.loop (LWp.conv (inv := []) (vk := []) (e0 := []) (t := ⟨[(0, iV .i64 a0), (3, iV .i64 64), (4, iV .i64 0)], [], 0⟩) (by kernel_rfl) ?_)
  refine LWp.mono (Q := fun e s => (match (generalizing := false) o26 with | x25 => e = .exit 0 ∧ s = ⟨[(3, iV .i64 x25)], [], 0⟩)) (LWp.cv (withBody (fun body hbody => ?_))) ?_
  · refine f_pluvialref16_Width.l0.partial_correctness a0 (motive := fun x19 x20 o26 => LWp Γ body (fun e s => ∃ t, Cv Γ s t ∧ (match (generalizing := false) o26 with | x25 => e = .exit 0 ∧ t = ⟨[(3, iV .i64 x25)], [], 0⟩)) ⟨[(0, iV .i64 a0), (3, iV .i64 x19), (4, iV .i64 x20)], [], 0⟩) ?_ _ _ _ e27
    clear H e27 o26; intro self ih x19 x20 o26 H
    subst hbody
    refine LWp.round ?_
    refine AWp.seq ?_
    refine AWp.seq ?_
    obtain ⟨o28, e29, H⟩ := bind_of H
    refine AWp.mono (Q := fun e s => (match (generalizing := false) o28 with | x23 => e = .normal ∧ s = ⟨[(0, iV .i64 a0), (3, iV .i64 x19), (4, iV .i64 x20), (11, bV x23)], [], 0⟩)) (AWp.cv ?_) ?_
    · replace H := e29; clear e29
      rcases Bool.eq_false_or_eq_true (decide (x20 < a0)) with c22 | c22
      · replace H := (ifT c22).symm.trans H
        refine reg hP hn hm [(3, .b true)] [0, 3, 4, 9, 10, 11] [] ⟨[(0, iV .i64 a0), (3, iV .i64 x19), (4, iV .i64 x20), (9, iV .i64 x20), (10, bV (decide (x20 < (4 : Int)))), (11, bV (decide (x20 < (4 : Int))))], [], 0⟩ [(decide (x20 < a0)) = true] (by kernel_rfl) ⟨by exact c22, trivial⟩ ?_
        obtain rfl := Option.some.inj H
        exact Exists.intro _ (And.intro (fun _ _ h => h.conv (inv := []) (vk := []) (e0 := []) (t := ⟨[(0, iV .i64 a0), (3, iV .i64 x19), (4, iV .i64 x20), (11, bV (decide (x20 < (4 : Int))))], [], 0⟩) (by kernel_rfl)) (And.intro rfl rfl))
      · replace H := (ifF c22).symm.trans H
        refine reg hP hn hm [(3, .b false)] [0, 3, 4, 11] [] ⟨[(0, iV .i64 a0), (3, iV .i64 x19), (4, iV .i64 x20), (11, bV false)], [], 0⟩ [(decide (x20 < a0)) = false] (by kernel_rfl) ⟨by exact c22, trivial⟩ ?_
        obtain rfl := Option.some.inj H
        exact Exists.intro _ (And.intro (fun _ _ h => h.conv (inv := []) (vk := []) (e0 := []) (t := ⟨[(0, iV .i64 a0), (3, iV .i64 x19), (4, iV .i64 x20), (11, bV false)], [], 0⟩) (by kernel_rfl)) (And.intro rfl rfl))
    · obtain ⟨x23, rfl⟩ : ∃ z, z = o28 := ⟨_, rfl⟩
      rintro e s ⟨rfl, rfl⟩
      refine AWp.cond x23 rfl (fun c24 => ?_) (fun c24 => ?_)
      · replace H := (ifT c24).symm.trans H
        refine AWp.skip ?_
        refine AWp.seq ?_
        refine AWp.block ?_
        refine reg hP hn hm [] [0, 3, 4] [] ⟨[(0, iV .i64 a0), (3, iV .i64 (IntKind.i64.wrap (x19 * (4 : Int)))), (4, iV .i64 x20)], [], 0⟩ [] (by kernel_rfl) trivial ?_
        refine reg hP hn hm [] [0, 3, 4] [] ⟨[(0, iV .i64 a0), (3, iV .i64 (IntKind.i64.wrap (x19 * (4 : Int)))), (4, iV .i64 (IntKind.i64.wrap (x20 + (1 : Int))))], [], 0⟩ [] (by kernel_rfl) trivial ?_
        exact LWp.conv (inv := []) (vk := []) (e0 := []) (t := ⟨[(0, iV .i64 a0), (3, iV .i64 (IntKind.i64.wrap (x19 * (4 : Int)))), (4, iV .i64 (IntKind.i64.wrap (x20 + (1 : Int))))], [], 0⟩) (by kernel_rfl) (ih _ _ _ H)
      · replace H := (ifF c24).symm.trans H
        refine AWp.exit ?_
        obtain rfl := Option.some.inj H
        exact Exists.intro _ (And.intro (fun _ _ h => h.conv (inv := []) (vk := []) (e0 := []) (t := ⟨[(3, iV .i64 x19)], [], 0⟩) (by kernel_rfl)) (And.intro rfl rfl))
  · obtain ⟨x25, rfl⟩ : ∃ z, z = o26 := ⟨_, rfl⟩
    rintro e s ⟨rfl, rfl⟩
    refine AWp.seq ?_
    refine reg hP hn hm [] [2] [] ⟨[(2, iV .i64 x25)], [], 0⟩ [] (by kernel_rfl) trivial ?_
    refine AWp.conv (inv := []) (vk := []) (e0 := []) (t := ⟨[(2, iV .i64 x25)], [], 0⟩) (by kernel_rfl) ?_
    refine AWp.ret ?_
    obtain rfl := Option.some.inj H
    exact Exists.intro _ (And.intro (fun _ _ h => h) (And.intro (.inl rfl) (And.intro rfl (And.intro (by kernel_rfl) (by kernel_rfl)))))
def f_pluvialref17_Right.l1 (a0 : List Tpluvialref17_Item) (x48 : Int) (x64 : Int) : Option (Bool ⊕ Unit) := if (decide (x64 < x48)) = true then ((at? a0 x64) >>= fun b72 => (at? a0 x48) >>= fun b75 => if (b72.f0 == b75.f0) = true then (some (.inl false)) else (f_pluvialref17_Right.l1 a0 x48 (IntKind.i64.wrap (x64 + (1 : Int))))) else (some (.inr ()))
partial_fixpoint
def f_pluvialref17_Right.l0 (a0 : List Tpluvialref17_Item) (x48 : Int) : Option (Bool ⊕ Unit) := if (decide (x48 < (a0.length : Int))) = true then ((f_pluvialref17_Right.l1 a0 x48 0) >>= fun oo => match oo with | .inl rr => (some (.inl rr)) | .inr _ => ((at? a0 x48) >>= fun b82 => ((if (decide (b82.f1 < (0 : Int))) = true then (some true) else (if (decide (b82.f1 > (4 : Int))) = true then (some true) else (if (decide (b82.f2 < (0 : Int))) = true then (some true) else (if (decide (b82.f2 > (1099511627776 : Int))) = true then (some true) else ((f_pluvialref16_Width.f b82.f1) >>= fun t99 => (chk (t99 ≠ 0)) >>= fun _ => if ((Int.tmod b82.f2 t99) != (0 : Int)) = true then (some true) else ((f_pluvialref16_Width.f b82.f1) >>= fun t103 => some (b82.f3 != (IntKind.i64.wrap (b82.f2 + t103))))))))) : Option (Bool)) >>= fun x105 => if x105 = true then (some (.inl false)) else (f_pluvialref17_Right.l0 a0 (IntKind.i64.wrap (x48 + (1 : Int)))))) else (some (.inr ()))
partial_fixpoint
def f_pluvialref17_Right.f (a0 : List Tpluvialref17_Item) : Option (Bool) := (f_pluvialref17_Right.l0 a0 0) >>= fun oo => match oo with | .inl rr => (some rr) | .inr _ => (some true)
theorem f_pluvialref17_Right.ok (a0 : List Tpluvialref17_Item) (r : Bool) (H : f_pluvialref17_Right.f a0 = some r) : Pv.Fn Try.prog 12 [.im (.row (a0.map epluvialref17_Item))] [] 0 (fun x o => x = bV r ∧ o = []) := by
  unfold f_pluvialref17_Right.f at H
  refine Fn.bodyK [] Try.func12 rfl rfl (fun Γ hP hn => ?_)
  have hm : Try.prog.follows .mixedOrders = true := by kernel_rfl
  replace hn : Γ.n = 70 := hn
  refine AWp.seq ?_
  refine reg hP hn hm [] [0] [] ⟨[(0, .im (.row (a0.map epluvialref17_Item)))], [], 0⟩ [] (by kernel_rfl) trivial ?_
  refine AWp.seq ?_
  refine AWp.seq ?_
  refine reg hP hn hm [] [0, 3] [] ⟨[(0, .im (.row (a0.map epluvialref17_Item))), (3, iV .i64 0)], [], 0⟩ [] (by kernel_rfl) trivial ?_
  refine AWp.block ?_
  obtain ⟨o107, e108, H⟩ := bind_of H
  refine AWp.loop (LWp.conv (inv := []) (vk := []) (e0 := []) (t := ⟨[(0, .im (.row (a0.map epluvialref17_Item))), (3, iV .i64 0)], [], 0⟩) (by kernel_rfl) ?_)
  refine LWp.mono (Q := fun e s => (match (generalizing := false) o107 with | .inl rr => e = .ret ∧ s.floor = 0 ∧ resOf Try.prog Try.f12 s = some (bV rr) ∧ ([] : List (Nat × Option MObj)) = [] | .inr _ => e = .exit 0 ∧ s = ⟨[], [], 0⟩)) (LWp.cv (withBody (fun body hbody => ?_))) ?_
  · refine f_pluvialref17_Right.l0.partial_correctness a0 (motive := fun x48 o107 => LWp Γ body (fun e s => ∃ t, Cv Γ s t ∧ (match (generalizing := false) o107 with | .inl rr => e = .ret ∧ t.floor = 0 ∧ resOf Try.prog Try.f12 t = some (bV rr) ∧ ([] : List (Nat × Option MObj)) = [] | .inr _ => e = .exit 0 ∧ t = ⟨[], [], 0⟩)) ⟨[(0, .im (.row (a0.map epluvialref17_Item))), (3, iV .i64 x48)], [], 0⟩) ?_ _ _ e108
    clear H e108 o107; intro self ih x48 o107 H
    subst hbody
    refine LWp.round ?_
    refine AWp.seq ?_
    refine AWp.seq ?_
    refine reg hP hn hm [(2, .any (iV .i64 (a0.length : Int)))] [0, 3, 9] [] ⟨[(0, .im (.row (a0.map epluvialref17_Item))), (3, iV .i64 x48), (9, bV (decide (x48 < (a0.length : Int))))], [], 0⟩ [((a0.map epluvialref17_Item).length : Int) = (a0.length : Int)] (by kernel_rfl) ⟨by rw [len_map], trivial⟩ ?_
    refine AWp.cond (decide (x48 < (a0.length : Int))) rfl (fun c49 => ?_) (fun c49 => ?_)
    · replace H := (ifT c49).symm.trans H
      refine AWp.skip ?_
      refine AWp.seq ?_
      refine AWp.block ?_
      refine AWp.seq ?_
      refine AWp.seq ?_
      refine reg hP hn hm [] [0, 3, 4] [] ⟨[(0, .im (.row (a0.map epluvialref17_Item))), (3, iV .i64 x48), (4, iV .i64 0)], [], 0⟩ [] (by kernel_rfl) trivial ?_
      refine AWp.block ?_
      obtain ⟨o109, e110, H⟩ := bind_of H
      refine AWp.loop (LWp.conv (inv := []) (vk := []) (e0 := []) (t := ⟨[(0, .im (.row (a0.map epluvialref17_Item))), (3, iV .i64 x48), (4, iV .i64 0)], [], 0⟩) (by kernel_rfl) ?_)
      refine LWp.mono (Q := fun e s => (match (generalizing := false) o109 with | .inl rr => e = .ret ∧ s.floor = 0 ∧ resOf Try.prog Try.f12 s = some (bV rr) ∧ ([] : List (Nat × Option MObj)) = [] | .inr _ => e = .exit 2 ∧ s = ⟨[(0, .im (.row (a0.map epluvialref17_Item))), (3, iV .i64 x48)], [], 0⟩)) (LWp.cv (withBody (fun body hbody => ?_))) ?_
      · refine f_pluvialref17_Right.l1.partial_correctness a0 x48 (motive := fun x64 o109 => LWp Γ body (fun e s => ∃ t, Cv Γ s t ∧ (match (generalizing := false) o109 with | .inl rr => e = .ret ∧ t.floor = 0 ∧ resOf Try.prog Try.f12 t = some (bV rr) ∧ ([] : List (Nat × Option MObj)) = [] | .inr _ => e = .exit 2 ∧ t = ⟨[(0, .im (.row (a0.map epluvialref17_Item))), (3, iV .i64 x48)], [], 0⟩)) ⟨[(0, .im (.row (a0.map epluvialref17_Item))), (3, iV .i64 x48), (4, iV .i64 x64)], [], 0⟩) ?_ _ _ e110
        clear H e110 o109; intro self ih x64 o109 H
        subst hbody
        refine LWp.round ?_
        refine AWp.seq ?_
        refine AWp.seq ?_
        refine reg hP hn hm [] [0, 3, 4, 14] [] ⟨[(0, .im (.row (a0.map epluvialref17_Item))), (3, iV .i64 x48), (4, iV .i64 x64), (14, bV (decide (x64 < x48)))], [], 0⟩ [] (by kernel_rfl) trivial ?_
        refine AWp.cond (decide (x64 < x48)) rfl (fun c65 => ?_) (fun c65 => ?_)
        · replace H := (ifT c65).symm.trans H
          refine AWp.skip ?_
          refine AWp.seq ?_
          refine AWp.block ?_
          refine AWp.seq ?_
          obtain ⟨b72, p73, q74, H⟩ := at_of H
          obtain ⟨b75, p76, q77, H⟩ := at_of H
          refine reg hP hn hm [(2, .c (epluvialref17_Item b72)), (7, .c (epluvialref17_Item b75))] [0, 3, 4, 27] [] ⟨[(0, .im (.row (a0.map epluvialref17_Item))), (3, iV .i64 x48), (4, iV .i64 x64), (27, bV (b72.f0 == b75.f0))], [], 0⟩ [0 ≤ x64, (a0.map epluvialref17_Item)[(Int.toNat (x64))]? = some (epluvialref17_Item b72), 0 ≤ x48, (a0.map epluvialref17_Item)[(Int.toNat (x48))]? = some (epluvialref17_Item b75)] (by kernel_rfl) ⟨by exact p73, by exact el_map epluvialref17_Item q74, by exact p76, by exact el_map epluvialref17_Item q77, trivial⟩ ?_
          refine AWp.cond (b72.f0 == b75.f0) rfl (fun c78 => ?_) (fun c78 => ?_)
          · replace H := (ifT c78).symm.trans H
            refine AWp.seq ?_
            refine reg hP hn hm [] [2] [] ⟨[(2, bV false)], [], 0⟩ [] (by kernel_rfl) trivial ?_
            refine AWp.conv (inv := []) (vk := []) (e0 := []) (t := ⟨[(2, bV false)], [], 0⟩) (by kernel_rfl) ?_
            refine AWp.ret ?_
            obtain rfl := Option.some.inj H
            exact Exists.intro _ (And.intro (fun _ _ h => h) (And.intro rfl (And.intro rfl (And.intro (by kernel_rfl) (by kernel_rfl)))))
          · replace H := (ifF c78).symm.trans H
            refine AWp.skip ?_
            refine reg hP hn hm [] [0, 3, 4] [] ⟨[(0, .im (.row (a0.map epluvialref17_Item))), (3, iV .i64 x48), (4, iV .i64 (IntKind.i64.wrap (x64 + (1 : Int))))], [], 0⟩ [] (by kernel_rfl) trivial ?_
            exact LWp.conv (inv := []) (vk := []) (e0 := []) (t := ⟨[(0, .im (.row (a0.map epluvialref17_Item))), (3, iV .i64 x48), (4, iV .i64 (IntKind.i64.wrap (x64 + (1 : Int))))], [], 0⟩) (by kernel_rfl) (ih _ _ H)
        · replace H := (ifF c65).symm.trans H
          refine AWp.exit ?_
          obtain rfl := Option.some.inj H
          exact Exists.intro _ (And.intro (fun _ _ h => h.conv (inv := []) (vk := []) (e0 := []) (t := ⟨[(0, .im (.row (a0.map epluvialref17_Item))), (3, iV .i64 x48)], [], 0⟩) (by kernel_rfl)) (And.intro rfl rfl))
      · rcases o109 with rr | _
        · skip
          rintro e s ⟨rfl, hfl, hres⟩
          obtain rfl := Option.some.inj H
          exact Exists.intro _ (And.intro (fun _ _ h => h) (And.intro rfl (And.intro hfl hres)))
        · skip
          rintro e s ⟨rfl, rfl⟩
          refine AWp.seq ?_
          obtain ⟨b82, p83, q84, H⟩ := at_of H
          refine reg hP hn hm [(2, .c (epluvialref17_Item b82)), (4, .k 1)] [0, 3, 5] [1] ⟨[(0, .im (.row (a0.map epluvialref17_Item))), (3, iV .i64 x48), (5, .ptr 1 0 0)], [(1, some (.box 31 (apluvialref17_Item b82)))], 0⟩ [0 ≤ x48, (a0.map epluvialref17_Item)[(Int.toNat (x48))]? = some (epluvialref17_Item b82)] (by kernel_rfl) ⟨by exact p83, by exact el_map epluvialref17_Item q84, trivial⟩ ?_
          refine AWp.seq ?_
          obtain ⟨o111, e112, H⟩ := bind_of H
          refine AWp.mono (Q := fun e s => (match (generalizing := false) o111 with | x105 => e = .normal ∧ s = ⟨[(0, .im (.row (a0.map epluvialref17_Item))), (3, iV .i64 x48), (69, bV x105)], [], 0⟩)) (AWp.cv ?_) ?_
          · replace H := e112; clear e112
            rcases Bool.eq_false_or_eq_true (decide (b82.f1 < (0 : Int))) with c95 | c95
            · replace H := (ifT c95).symm.trans H
              refine reg hP hn hm [(3, .b true)] [0, 3, 69] [] ⟨[(0, .im (.row (a0.map epluvialref17_Item))), (3, iV .i64 x48), (69, bV true)], [], 0⟩ [(decide (b82.f1 < (0 : Int))) = true] (by kernel_rfl) ⟨by exact c95, trivial⟩ ?_
              obtain rfl := Option.some.inj H
              exact Exists.intro _ (And.intro (fun _ _ h => h.conv (inv := []) (vk := []) (e0 := []) (t := ⟨[(0, .im (.row (a0.map epluvialref17_Item))), (3, iV .i64 x48), (69, bV true)], [], 0⟩) (by kernel_rfl)) (And.intro rfl rfl))
            · replace H := (ifF c95).symm.trans H
              rcases Bool.eq_false_or_eq_true (decide (b82.f1 > (4 : Int))) with c96 | c96
              · replace H := (ifT c96).symm.trans H
                refine reg hP hn hm [(3, .b false), (8, .b true)] [0, 3, 36, 37, 38, 69] [1] ⟨[(0, .im (.row (a0.map epluvialref17_Item))), (3, iV .i64 x48), (36, .ptr 1 0 1), (37, iV .i64 b82.f1), (38, bV (decide (b82.f1 > (4 : Int)))), (69, bV true)], [(1, some (.box 31 (apluvialref17_Item b82)))], 0⟩ [(decide (b82.f1 < (0 : Int))) = false, (decide (b82.f1 > (4 : Int))) = true] (by kernel_rfl) ⟨by exact c95, by exact c96, trivial⟩ ?_
                obtain rfl := Option.some.inj H
                exact Exists.intro _ (And.intro (fun _ _ h => h.conv (inv := []) (vk := []) (e0 := []) (t := ⟨[(0, .im (.row (a0.map epluvialref17_Item))), (3, iV .i64 x48), (69, bV true)], [], 0⟩) (by kernel_rfl)) (And.intro rfl rfl))
              · replace H := (ifF c96).symm.trans H
                rcases Bool.eq_false_or_eq_true (decide (b82.f2 < (0 : Int))) with c97 | c97
                · replace H := (ifT c97).symm.trans H
                  refine reg hP hn hm [(3, .b false), (8, .b false), (13, .b true)] [0, 3, 36, 37, 38, 41, 42, 43, 69] [1] ⟨[(0, .im (.row (a0.map epluvialref17_Item))), (3, iV .i64 x48), (36, .ptr 1 0 1), (37, iV .i64 b82.f1), (38, bV (decide (b82.f1 > (4 : Int)))), (41, .ptr 1 0 2), (42, iV .i64 b82.f2), (43, bV (decide (b82.f2 < (0 : Int)))), (69, bV true)], [(1, some (.box 31 (apluvialref17_Item b82)))], 0⟩ [(decide (b82.f1 < (0 : Int))) = false, (decide (b82.f1 > (4 : Int))) = false, (decide (b82.f2 < (0 : Int))) = true] (by kernel_rfl) ⟨by exact c95, by exact c96, by exact c97, trivial⟩ ?_
                  obtain rfl := Option.some.inj H
                  exact Exists.intro _ (And.intro (fun _ _ h => h.conv (inv := []) (vk := []) (e0 := []) (t := ⟨[(0, .im (.row (a0.map epluvialref17_Item))), (3, iV .i64 x48), (69, bV true)], [], 0⟩) (by kernel_rfl)) (And.intro rfl rfl))
                · replace H := (ifF c97).symm.trans H
                  rcases Bool.eq_false_or_eq_true (decide (b82.f2 > (1099511627776 : Int))) with c98 | c98
                  · replace H := (ifT c98).symm.trans H
                    refine reg hP hn hm [(3, .b false), (8, .b false), (13, .b false), (18, .b true)] [0, 3, 36, 37, 38, 41, 42, 43, 46, 47, 48, 69] [1] ⟨[(0, .im (.row (a0.map epluvialref17_Item))), (3, iV .i64 x48), (36, .ptr 1 0 1), (37, iV .i64 b82.f1), (38, bV (decide (b82.f1 > (4 : Int)))), (41, .ptr 1 0 2), (42, iV .i64 b82.f2), (43, bV (decide (b82.f2 < (0 : Int)))), (46, .ptr 1 0 2), (47, iV .i64 b82.f2), (48, bV (decide (b82.f2 > (1099511627776 : Int)))), (69, bV true)], [(1, some (.box 31 (apluvialref17_Item b82)))], 0⟩ [(decide (b82.f1 < (0 : Int))) = false, (decide (b82.f1 > (4 : Int))) = false, (decide (b82.f2 < (0 : Int))) = false, (decide (b82.f2 > (1099511627776 : Int))) = true] (by kernel_rfl) ⟨by exact c95, by exact c96, by exact c97, by exact c98, trivial⟩ ?_
                    obtain rfl := Option.some.inj H
                    exact Exists.intro _ (And.intro (fun _ _ h => h.conv (inv := []) (vk := []) (e0 := []) (t := ⟨[(0, .im (.row (a0.map epluvialref17_Item))), (3, iV .i64 x48), (69, bV true)], [], 0⟩) (by kernel_rfl)) (And.intro rfl rfl))
                  · replace H := (ifF c98).symm.trans H
                    obtain ⟨t99, e100, H⟩ := bind_of H
                    obtain ⟨c101, H⟩ := chk_of H
                    rcases Bool.eq_false_or_eq_true ((Int.tmod b82.f2 t99) != (0 : Int)) with c102 | c102
                    · replace H := (ifT c102).symm.trans H
                      refine reg hP hn hm [(3, .b false), (8, .b false), (13, .b false), (18, .b false), (23, .call [] [] [] [] 0 (iV .i64 t99) []), (27, .b true)] [0, 3, 36, 37, 38, 41, 42, 43, 46, 47, 48, 51, 52, 53, 54, 55, 56, 57, 69] [1] ⟨[(0, .im (.row (a0.map epluvialref17_Item))), (3, iV .i64 x48), (36, .ptr 1 0 1), (37, iV .i64 b82.f1), (38, bV (decide (b82.f1 > (4 : Int)))), (41, .ptr 1 0 2), (42, iV .i64 b82.f2), (43, bV (decide (b82.f2 < (0 : Int)))), (46, .ptr 1 0 2), (47, iV .i64 b82.f2), (48, bV (decide (b82.f2 > (1099511627776 : Int)))), (51, .ptr 1 0 2), (52, iV .i64 b82.f2), (53, .ptr 1 0 1), (54, iV .i64 b82.f1), (55, iV .i64 t99), (56, iV .i64 (Int.tmod b82.f2 t99)), (57, bV ((Int.tmod b82.f2 t99) != (0 : Int))), (69, bV true)], [(1, some (.box 31 (apluvialref17_Item b82)))], 0⟩ [(decide (b82.f1 < (0 : Int))) = false, (decide (b82.f1 > (4 : Int))) = false, (decide (b82.f2 < (0 : Int))) = false, (decide (b82.f2 > (1099511627776 : Int))) = false, Enters Try.prog 19, Pv.Fn Try.prog 19 [iV .i64 b82.f1] [] 0 (fun r o => r = iV .i64 t99 ∧ o = []), t99 ≠ 0, ((Int.tmod b82.f2 t99) != (0 : Int)) = true] (by kernel_rfl) ⟨by exact c95, by exact c96, by exact c97, by exact c98, by exact Try.call19, by exact f_pluvialref16_Width.ok b82.f1 t99 e100, by exact c101, by exact c102, trivial⟩ ?_
                      obtain rfl := Option.some.inj H
                      exact Exists.intro _ (And.intro (fun _ _ h => h.conv (inv := []) (vk := []) (e0 := []) (t := ⟨[(0, .im (.row (a0.map epluvialref17_Item))), (3, iV .i64 x48), (69, bV true)], [], 0⟩) (by kernel_rfl)) (And.intro rfl rfl))
                    · replace H := (ifF c102).symm.trans H
                      obtain ⟨t103, e104, H⟩ := bind_of H
                      refine reg hP hn hm [(3, .b false), (8, .b false), (13, .b false), (18, .b false), (23, .call [] [] [] [] 0 (iV .i64 t99) []), (27, .b false), (34, .call [] [] [] [] 0 (iV .i64 t103) [])] [0, 3, 36, 37, 38, 41, 42, 43, 46, 47, 48, 51, 52, 53, 54, 55, 56, 57, 60, 61, 62, 63, 64, 65, 66, 67, 68, 69] [1] ⟨[(0, .im (.row (a0.map epluvialref17_Item))), (3, iV .i64 x48), (36, .ptr 1 0 1), (37, iV .i64 b82.f1), (38, bV (decide (b82.f1 > (4 : Int)))), (41, .ptr 1 0 2), (42, iV .i64 b82.f2), (43, bV (decide (b82.f2 < (0 : Int)))), (46, .ptr 1 0 2), (47, iV .i64 b82.f2), (48, bV (decide (b82.f2 > (1099511627776 : Int)))), (51, .ptr 1 0 2), (52, iV .i64 b82.f2), (53, .ptr 1 0 1), (54, iV .i64 b82.f1), (55, iV .i64 t99), (56, iV .i64 (Int.tmod b82.f2 t99)), (57, bV ((Int.tmod b82.f2 t99) != (0 : Int))), (60, .ptr 1 0 3), (61, iV .i64 b82.f3), (62, .ptr 1 0 2), (63, iV .i64 b82.f2), (64, .ptr 1 0 1), (65, iV .i64 b82.f1), (66, iV .i64 t103), (67, iV .i64 (IntKind.i64.wrap (b82.f2 + t103))), (68, bV (b82.f3 != (IntKind.i64.wrap (b82.f2 + t103)))), (69, bV (b82.f3 != (IntKind.i64.wrap (b82.f2 + t103))))], [(1, some (.box 31 (apluvialref17_Item b82)))], 0⟩ [(decide (b82.f1 < (0 : Int))) = false, (decide (b82.f1 > (4 : Int))) = false, (decide (b82.f2 < (0 : Int))) = false, (decide (b82.f2 > (1099511627776 : Int))) = false, Enters Try.prog 19, Pv.Fn Try.prog 19 [iV .i64 b82.f1] [] 0 (fun r o => r = iV .i64 t99 ∧ o = []), t99 ≠ 0, ((Int.tmod b82.f2 t99) != (0 : Int)) = false, Enters Try.prog 19, Pv.Fn Try.prog 19 [iV .i64 b82.f1] [] 0 (fun r o => r = iV .i64 t103 ∧ o = [])] (by kernel_rfl) ⟨by exact c95, by exact c96, by exact c97, by exact c98, by exact Try.call19, by exact f_pluvialref16_Width.ok b82.f1 t99 e100, by exact c101, by exact c102, by exact Try.call19, by exact f_pluvialref16_Width.ok b82.f1 t103 e104, trivial⟩ ?_
                      obtain rfl := Option.some.inj H
                      exact Exists.intro _ (And.intro (fun _ _ h => h.conv (inv := []) (vk := []) (e0 := []) (t := ⟨[(0, .im (.row (a0.map epluvialref17_Item))), (3, iV .i64 x48), (69, bV (b82.f3 != (IntKind.i64.wrap (b82.f2 + t103))))], [], 0⟩) (by kernel_rfl)) (And.intro rfl rfl))
          · obtain ⟨x105, rfl⟩ : ∃ z, z = o111 := ⟨_, rfl⟩
            rintro e s ⟨rfl, rfl⟩
            refine AWp.cond x105 rfl (fun c106 => ?_) (fun c106 => ?_)
            · replace H := (ifT c106).symm.trans H
              refine AWp.seq ?_
              refine reg hP hn hm [] [2] [] ⟨[(2, bV false)], [], 0⟩ [] (by kernel_rfl) trivial ?_
              refine AWp.conv (inv := []) (vk := []) (e0 := []) (t := ⟨[(2, bV false)], [], 0⟩) (by kernel_rfl) ?_
              refine AWp.ret ?_
              obtain rfl := Option.some.inj H
              exact Exists.intro _ (And.intro (fun _ _ h => h) (And.intro rfl (And.intro rfl (And.intro (by kernel_rfl) (by kernel_rfl)))))
            · replace H := (ifF c106).symm.trans H
              refine AWp.skip ?_
              refine reg hP hn hm [] [0, 3] [] ⟨[(0, .im (.row (a0.map epluvialref17_Item))), (3, iV .i64 (IntKind.i64.wrap (x48 + (1 : Int))))], [], 0⟩ [] (by kernel_rfl) trivial ?_
              exact LWp.conv (inv := []) (vk := []) (e0 := []) (t := ⟨[(0, .im (.row (a0.map epluvialref17_Item))), (3, iV .i64 (IntKind.i64.wrap (x48 + (1 : Int))))], [], 0⟩) (by kernel_rfl) (ih _ _ H)
    · replace H := (ifF c49).symm.trans H
      refine AWp.exit ?_
      obtain rfl := Option.some.inj H
      exact Exists.intro _ (And.intro (fun _ _ h => h.conv (inv := []) (vk := []) (e0 := []) (t := ⟨[], [], 0⟩) (by kernel_rfl)) (And.intro rfl rfl))
  · rcases o107 with rr | _
    · skip
      rintro e s ⟨rfl, hfl, hres⟩
      obtain rfl := Option.some.inj H
      exact Exists.intro _ (And.intro (fun _ _ h => h) (And.intro (.inl rfl) (And.intro hfl hres)))
    · skip
      rintro e s ⟨rfl, rfl⟩
      refine AWp.seq ?_
      refine reg hP hn hm [] [2] [] ⟨[(2, bV true)], [], 0⟩ [] (by kernel_rfl) trivial ?_
      refine AWp.conv (inv := []) (vk := []) (e0 := []) (t := ⟨[(2, bV true)], [], 0⟩) (by kernel_rfl) ?_
      refine AWp.ret ?_
      obtain rfl := Option.some.inj H
      exact Exists.intro _ (And.intro (fun _ _ h => h) (And.intro (.inl rfl) (And.intro rfl (And.intro (by kernel_rfl) (by kernel_rfl)))))
def f_pluviallaw17_To.l0 (a0 : List Tpluvialref17_Item) (x130 : List Tplan_Item) (x131 : Int) : Option (List Tplan_Item) := if (decide (x131 < (a0.length : Int))) = true then ((at? a0 x131) >>= fun b136 => (chk ((x130.length + [(⟨b136.f0, (⟨b136.f2, b136.f3, b136.f1⟩ : Tblock_Meta)⟩ : Tplan_Item)].length) * 32 ≤ 140737488355328)) >>= fun _ => f_pluviallaw17_To.l0 a0 (x130 ++ [(⟨b136.f0, (⟨b136.f2, b136.f3, b136.f1⟩ : Tblock_Meta)⟩ : Tplan_Item)]) (IntKind.i64.wrap (x131 + (1 : Int)))) else (some x130)
partial_fixpoint
def f_pluviallaw17_To.f (a0 : List Tpluvialref17_Item) : Option (List Tplan_Item) := (f_pluviallaw17_To.l0 a0 [] 0) >>= fun x141 => some x141
theorem f_pluviallaw17_To.ok (a0 : List Tpluvialref17_Item) (r : List Tplan_Item) (H : f_pluviallaw17_To.f a0 = some r) : Pv.Fn Try.prog 15 [.im (.row (a0.map epluvialref17_Item))] [] 0 (fun x o => x = .own 0 ∧ o = [(0, some (.row 4 89 (r.map eplan_Item)))]) := by
  unfold f_pluviallaw17_To.f at H
  refine Fn.bodyK [0] Try.func15 rfl rfl (fun Γ hP hn => ?_)
  have hm : Try.prog.follows .mixedOrders = true := by kernel_rfl
  replace hn : Γ.n = 27 := hn
  refine AWp.seq ?_
  refine reg hP hn hm [] [0] [] ⟨[(0, .im (.row (a0.map epluvialref17_Item)))], [], 0⟩ [] (by kernel_rfl) trivial ?_
  refine AWp.seq ?_
  refine reg hP hn hm [] [0, 3] [] ⟨[(0, .im (.row (a0.map epluvialref17_Item))), (3, .none0)], [], 0⟩ [] (by kernel_rfl) trivial ?_
  refine AWp.seq ?_
  refine AWp.seq ?_
  refine reg hP hn hm [(1, .any (iV .i64 (a0.length : Int)))] [3, 6, 7, 8] [] ⟨[(3, .none0), (6, .im (.row (a0.map epluvialref17_Item))), (7, iV .i64 (a0.length : Int)), (8, iV .i64 0)], [], 0⟩ [((a0.map epluvialref17_Item).length : Int) = (a0.length : Int)] (by kernel_rfl) ⟨by rw [len_map], trivial⟩ ?_
  refine AWp.block ?_
  obtain ⟨o142, e143, H⟩ := bind_of H
  refine AWp.loop (LWp.conv (inv := []) (vk := []) (e0 := [3]) (t := ⟨[(3, .own 3), (6, .im (.row (a0.map epluvialref17_Item))), (7, iV .i64 (a0.length : Int)), (8, iV .i64 0)], [(3, some (.row 4 89 ([].map eplan_Item)))], 0⟩) (by kernel_rfl) ?_)
  refine LWp.mono (Q := fun e s => (match (generalizing := false) o142 with | x141 => e = .exit 0 ∧ s = ⟨[(3, .own 7)], [(7, some (.row 4 89 (x141.map eplan_Item)))], 0⟩)) (LWp.cv (withBody (fun body hbody => ?_))) ?_
  · refine f_pluviallaw17_To.l0.partial_correctness a0 (motive := fun x130 x131 o142 => LWp Γ body (fun e s => ∃ t, Cv Γ s t ∧ (match (generalizing := false) o142 with | x141 => e = .exit 0 ∧ t = ⟨[(3, .own 7)], [(7, some (.row 4 89 (x141.map eplan_Item)))], 0⟩)) ⟨[(3, .own 3), (6, .im (.row (a0.map epluvialref17_Item))), (7, iV .i64 (a0.length : Int)), (8, iV .i64 x131)], [(3, some (.row 4 89 (x130.map eplan_Item)))], 0⟩) ?_ _ _ _ e143
    clear H e143 o142; intro self ih x130 x131 o142 H
    subst hbody
    refine LWp.round ?_
    refine AWp.seq ?_
    refine reg hP hn hm [] [3, 6, 7, 8, 9] [3] ⟨[(3, .own 3), (6, .im (.row (a0.map epluvialref17_Item))), (7, iV .i64 (a0.length : Int)), (8, iV .i64 x131), (9, bV (decide (x131 < (a0.length : Int))))], [(3, some (.row 4 89 (x130.map eplan_Item)))], 0⟩ [] (by kernel_rfl) trivial ?_
    refine AWp.seq ?_
    refine AWp.cond (decide (x131 < (a0.length : Int))) rfl (fun c132 => ?_) (fun c132 => ?_)
    · replace H := (ifT c132).symm.trans H
      refine AWp.skip ?_
      refine AWp.seq ?_
      refine AWp.block ?_
      refine AWp.seq ?_
      obtain ⟨b136, p137, q138, H⟩ := at_of H
      refine reg hP hn hm [(0, .c (epluvialref17_Item b136)), (2, .k 4)] [3, 5, 6, 7, 8] [3, 4] ⟨[(3, .own 3), (5, .ptr 4 0 0), (6, .im (.row (a0.map epluvialref17_Item))), (7, iV .i64 (a0.length : Int)), (8, iV .i64 x131)], [(3, some (.row 4 89 (x130.map eplan_Item))), (4, some (.box 31 (apluvialref17_Item b136)))], 0⟩ [0 ≤ x131, (a0.map epluvialref17_Item)[(Int.toNat (x131))]? = some (epluvialref17_Item b136)] (by kernel_rfl) ⟨by exact p137, by exact el_map epluvialref17_Item q138, trivial⟩ ?_
      obtain ⟨c140, H⟩ := chk_of H
      refine reg hP hn hm [(11, .app 5 ([(⟨b136.f0, (⟨b136.f2, b136.f3, b136.f1⟩ : Tblock_Meta)⟩ : Tplan_Item)].map eplan_Item)), (12, .app 6 ((x130 ++ [(⟨b136.f0, (⟨b136.f2, b136.f3, b136.f1⟩ : Tblock_Meta)⟩ : Tplan_Item)]).map eplan_Item))] [3, 6, 7, 8] [6] ⟨[(3, .own 6), (6, .im (.row (a0.map epluvialref17_Item))), (7, iV .i64 (a0.length : Int)), (8, iV .i64 x131)], [(6, some (.row 4 89 ((x130 ++ [(⟨b136.f0, (⟨b136.f2, b136.f3, b136.f1⟩ : Tblock_Meta)⟩ : Tplan_Item)]).map eplan_Item)))], 0⟩ [[(⟨b136.f0, (⟨b136.f2, b136.f3, b136.f1⟩ : Tblock_Meta)⟩ : Tplan_Item)].map eplan_Item = [[iI .i64 b136.f0, iI .i64 b136.f2, iI .i64 b136.f3, iI .i64 b136.f1]], (x130 ++ [(⟨b136.f0, (⟨b136.f2, b136.f3, b136.f1⟩ : Tblock_Meta)⟩ : Tplan_Item)]).map eplan_Item = (x130.map eplan_Item) ++ ([(⟨b136.f0, (⟨b136.f2, b136.f3, b136.f1⟩ : Tblock_Meta)⟩ : Tplan_Item)].map eplan_Item), ∀ c ∈ ([(⟨b136.f0, (⟨b136.f2, b136.f3, b136.f1⟩ : Tblock_Meta)⟩ : Tplan_Item)].map eplan_Item), c.length = 4, ∀ c ∈ ([(⟨b136.f0, (⟨b136.f2, b136.f3, b136.f1⟩ : Tblock_Meta)⟩ : Tplan_Item)].map eplan_Item), leaves (c.map .im) = true, ((x130.map eplan_Item).length + ([(⟨b136.f0, (⟨b136.f2, b136.f3, b136.f1⟩ : Tblock_Meta)⟩ : Tplan_Item)].map eplan_Item).length) * 32 ≤ 140737488355328] (by kernel_rfl) ⟨by exact rfl, by simp, by exact all_len _ _ _ (fun _ => rfl), by exact all_leaf _ _ (fun _ => rfl), by simpa using c140, trivial⟩ ?_
      refine reg hP hn hm [] [3, 6, 7, 8] [6] ⟨[(3, .own 6), (6, .im (.row (a0.map epluvialref17_Item))), (7, iV .i64 (a0.length : Int)), (8, iV .i64 (IntKind.i64.wrap (x131 + (1 : Int))))], [(6, some (.row 4 89 ((x130 ++ [(⟨b136.f0, (⟨b136.f2, b136.f3, b136.f1⟩ : Tblock_Meta)⟩ : Tplan_Item)]).map eplan_Item)))], 0⟩ [] (by kernel_rfl) trivial ?_
      exact LWp.conv (inv := [(6, 3)]) (vk := []) (e0 := []) (t := ⟨[(3, .own 3), (6, .im (.row (a0.map epluvialref17_Item))), (7, iV .i64 (a0.length : Int)), (8, iV .i64 (IntKind.i64.wrap (x131 + (1 : Int))))], [(3, some (.row 4 89 ((x130 ++ [(⟨b136.f0, (⟨b136.f2, b136.f3, b136.f1⟩ : Tblock_Meta)⟩ : Tplan_Item)]).map eplan_Item)))], 0⟩) (by kernel_rfl) (ih _ _ _ H)
    · replace H := (ifF c132).symm.trans H
      refine AWp.exit ?_
      obtain rfl := Option.some.inj H
      exact Exists.intro _ (And.intro (fun _ _ h => h.conv (inv := [(3, 7)]) (vk := []) (e0 := []) (t := ⟨[(3, .own 7)], [(7, some (.row 4 89 (x130.map eplan_Item)))], 0⟩) (by kernel_rfl)) (And.intro rfl rfl))
  · obtain ⟨x141, rfl⟩ : ∃ z, z = o142 := ⟨_, rfl⟩
    rintro e s ⟨rfl, rfl⟩
    refine AWp.seq ?_
    refine reg hP hn hm [] [2] [7] ⟨[(2, .own 7)], [(7, some (.row 4 89 (x141.map eplan_Item)))], 0⟩ [] (by kernel_rfl) trivial ?_
    refine AWp.conv (inv := [(7, 0)]) (vk := []) (e0 := []) (t := ⟨[(2, .own 0)], [(0, some (.row 4 89 (x141.map eplan_Item)))], 0⟩) (by kernel_rfl) ?_
    refine AWp.ret ?_
    obtain rfl := Option.some.inj H
    exact Exists.intro _ (And.intro (fun _ _ h => h) (And.intro (.inl rfl) (And.intro rfl (And.intro (by kernel_rfl) (by kernel_rfl)))))
def f_slices_Clone_plan_Item.f (a0 : List Tplan_Item) : Option (List Tplan_Item) := (chk ((([] : List Tplan_Item).length + a0.length) * 32 ≤ 140737488355328)) >>= fun _ => some a0
theorem f_slices_Clone_plan_Item.ok (a0 r : List Tplan_Item) (H : f_slices_Clone_plan_Item.f a0 = some r) : Pv.Fn Try.prog 48 [.im (.row (a0.map eplan_Item))] [] 0 (fun x o => x = .own 0 ∧ o = [(0, some (.row 4 89 (r.map eplan_Item)))]) := by
  unfold f_slices_Clone_plan_Item.f at H
  obtain ⟨c1, H⟩ := chk_of H
  obtain rfl := Option.some.inj H
  refine Fn.bodyK [0] Try.func48 rfl rfl (fun Γ hP hn => ?_)
  have hm : Try.prog.follows .mixedOrders = true := by kernel_rfl
  replace hn : Γ.n = 8 := hn
  refine AWp.seq ?_
  refine reg hP hn hm [] [0, 2] [] ⟨[(0, .im (.row (a0.map eplan_Item))), (2, .none0)], [], 0⟩ [] (by kernel_rfl) trivial ?_
  refine AWp.seq ?_
  cases a0 with
  | nil =>
    refine AWp.nilSplit 0 rfl (fun b m => ?_)
    refine AWp.seq ?_
    cases b with
    | none =>
      refine reg hP hn hm [(1, .more xNil)] [2, 4] [] ⟨[(2, .none0), (4, bV true)], [], 0⟩ [] (by kernel_rfl) trivial ?_
      refine AWp.cond true rfl (fun _ => ?_) (fun h => nomatch h)
      refine AWp.seq ?_
      refine reg hP hn hm [] [2] [] ⟨[(2, .none0)], [], 0⟩ [] (by kernel_rfl) trivial ?_
      refine AWp.conv (inv := []) (vk := []) (e0 := [0]) (t := ⟨[(2, .own 0)], [(0, some (.row 4 89 []))], 0⟩) (by kernel_rfl) ?_
      refine AWp.ret ?_
      exact Exists.intro _ (And.intro (fun _ _ h => h) (And.intro (.inl rfl) (And.intro rfl (And.intro (by kernel_rfl) (by kernel_rfl)))))
    | some b =>
      refine reg hP hn hm [(1, .more xNil)] [0, 2, 4] [] ⟨[(0, .im (.sc (.slice (some b) 0 m))), (2, .none0), (4, bV false)], [], 0⟩ [] (by kernel_rfl) trivial ?_
      refine AWp.cond false rfl (fun h => nomatch h) (fun _ => ?_)
      refine AWp.skip ?_
      refine AWp.unsplit 0 rfl ?_
      refine AWp.seq ?_
      refine reg hP hn hm [(0, .app 0 ([] : List (List Im))), (2, .app 1 (([] : List Tplan_Item).map eplan_Item))] [2] [1] ⟨[(2, .own 1)], [(1, some (.row 4 89 (([] : List Tplan_Item).map eplan_Item)))], 0⟩ [([] : List (List Im)) = [], ([] : List Tplan_Item).map eplan_Item = ([] : List (List Im)) ++ ([] : List Tplan_Item).map eplan_Item, ∀ c ∈ ([] : List Tplan_Item).map eplan_Item, c.length = 4, ∀ c ∈ ([] : List Tplan_Item).map eplan_Item, leaves (c.map .im) = true, (([] : List (List Im)).length + (([] : List Tplan_Item).map eplan_Item).length) * 32 ≤ 140737488355328] (by kernel_rfl) ⟨rfl, by simp, by exact all_len _ _ _ (fun _ => rfl), by exact all_leaf _ _ (fun _ => rfl), by simpa using c1, trivial⟩ ?_
      refine AWp.conv (inv := [(1, 0)]) (vk := []) (e0 := []) (t := ⟨[(2, .own 0)], [(0, some (.row 4 89 (([] : List Tplan_Item).map eplan_Item)))], 0⟩) (by kernel_rfl) ?_
      refine AWp.ret ?_
      exact Exists.intro _ (And.intro (fun _ _ h => h) (And.intro (.inl rfl) (And.intro rfl (And.intro (by kernel_rfl) (by kernel_rfl)))))
  | cons y l =>
    refine AWp.seq ?_
    refine reg hP hn hm [(1, .more xNil)] [0, 2, 4] [] ⟨[(0, .im (.row ((y :: l).map eplan_Item))), (2, .none0), (4, bV false)], [], 0⟩ [] (by kernel_rfl) trivial ?_
    refine AWp.cond false rfl (fun h => nomatch h) (fun _ => ?_)
    refine AWp.skip ?_
    refine AWp.seq ?_
    refine reg hP hn hm [(0, .app 0 ([] : List (List Im))), (2, .app 1 ((y :: l).map eplan_Item))] [2] [1] ⟨[(2, .own 1)], [(1, some (.row 4 89 ((y :: l).map eplan_Item)))], 0⟩ [([] : List (List Im)) = [], (y :: l).map eplan_Item = ([] : List (List Im)) ++ (y :: l).map eplan_Item, ∀ c ∈ (y :: l).map eplan_Item, c.length = 4, ∀ c ∈ (y :: l).map eplan_Item, leaves (c.map .im) = true, (([] : List (List Im)).length + ((y :: l).map eplan_Item).length) * 32 ≤ 140737488355328] (by kernel_rfl) ⟨rfl, by simp, by exact all_len _ _ _ (fun _ => rfl), by exact all_leaf _ _ (fun _ => rfl), by simpa using c1, trivial⟩ ?_
    refine AWp.conv (inv := [(1, 0)]) (vk := []) (e0 := []) (t := ⟨[(2, .own 0)], [(0, some (.row 4 89 ((y :: l).map eplan_Item)))], 0⟩) (by kernel_rfl) ?_
    refine AWp.ret ?_
    exact Exists.intro _ (And.intro (fun _ _ h => h) (And.intro (.inl rfl) (And.intro rfl (And.intro (by kernel_rfl) (by kernel_rfl)))))
def f_bits_Len64.f (a0 : Int) : Option (Int) := ((if (decide (a0 ≥ (4294967296 : Int))) = true then (some (Int.fdiv a0 4294967296, 32)) else (some (a0, 0))) : Option (Int × Int)) >>= fun oo => match oo with | (x151, x152) => (((if (decide (x151 ≥ (65536 : Int))) = true then (some (Int.fdiv x151 65536, IntKind.i64.wrap (x152 + (16 : Int)))) else (some (x151, x152))) : Option (Int × Int)) >>= fun oo => match oo with | (x154, x155) => (((if (decide (x154 ≥ (256 : Int))) = true then (some (Int.fdiv x154 256, IntKind.i64.wrap (x155 + (8 : Int)))) else (some (x154, x155))) : Option (Int × Int)) >>= fun oo => match oo with | (x157, x158) => ((chk (0 ≤ (IntKind.u8.wrap (x157)) ∧ (IntKind.u8.wrap (x157)) < ((⟨#[0, 1, 2, 2, 3, 3, 3, 3, 4, 4, 4, 4, 4, 4, 4, 4, 5, 5, 5, 5, 5, 5, 5, 5, 5, 5, 5, 5, 5, 5, 5, 5, 6, 6, 6, 6, 6, 6, 6, 6, 6, 6, 6, 6, 6, 6, 6, 6, 6, 6, 6, 6, 6, 6, 6, 6, 6, 6, 6, 6, 6, 6, 6, 6, 7, 7, 7, 7, 7, 7, 7, 7, 7, 7, 7, 7, 7, 7, 7, 7, 7, 7, 7, 7, 7, 7, 7, 7, 7, 7, 7, 7, 7, 7, 7, 7, 7, 7, 7, 7, 7, 7, 7, 7, 7, 7, 7, 7, 7, 7, 7, 7, 7, 7, 7, 7, 7, 7, 7, 7, 7, 7, 7, 7, 7, 7, 7, 7, 8, 8, 8, 8, 8, 8, 8, 8, 8, 8, 8, 8, 8, 8, 8, 8, 8, 8, 8, 8, 8, 8, 8, 8, 8, 8, 8, 8, 8, 8, 8, 8, 8, 8, 8, 8, 8, 8, 8, 8, 8, 8, 8, 8, 8, 8, 8, 8, 8, 8, 8, 8, 8, 8, 8, 8, 8, 8, 8, 8, 8, 8, 8, 8, 8, 8, 8, 8, 8, 8, 8, 8, 8, 8, 8, 8, 8, 8, 8, 8, 8, 8, 8, 8, 8, 8, 8, 8, 8, 8, 8, 8, 8, 8, 8, 8, 8, 8, 8, 8, 8, 8, 8, 8, 8, 8, 8, 8, 8, 8, 8, 8, 8, 8, 8, 8, 8, 8, 8, 8, 8, 8, 8, 8, 8, 8, 8, 8]⟩ : ByteArray).size : Int))) >>= fun _ => some (IntKind.i64.wrap (x158 + (IntKind.i64.wrap (bt (⟨#[0, 1, 2, 2, 3, 3, 3, 3, 4, 4, 4, 4, 4, 4, 4, 4, 5, 5, 5, 5, 5, 5, 5, 5, 5, 5, 5, 5, 5, 5, 5, 5, 6, 6, 6, 6, 6, 6, 6, 6, 6, 6, 6, 6, 6, 6, 6, 6, 6, 6, 6, 6, 6, 6, 6, 6, 6, 6, 6, 6, 6, 6, 6, 6, 7, 7, 7, 7, 7, 7, 7, 7, 7, 7, 7, 7, 7, 7, 7, 7, 7, 7, 7, 7, 7, 7, 7, 7, 7, 7, 7, 7, 7, 7, 7, 7, 7, 7, 7, 7, 7, 7, 7, 7, 7, 7, 7, 7, 7, 7, 7, 7, 7, 7, 7, 7, 7, 7, 7, 7, 7, 7, 7, 7, 7, 7, 7, 7, 8, 8, 8, 8, 8, 8, 8, 8, 8, 8, 8, 8, 8, 8, 8, 8, 8, 8, 8, 8, 8, 8, 8, 8, 8, 8, 8, 8, 8, 8, 8, 8, 8, 8, 8, 8, 8, 8, 8, 8, 8, 8, 8, 8, 8, 8, 8, 8, 8, 8, 8, 8, 8, 8, 8, 8, 8, 8, 8, 8, 8, 8, 8, 8, 8, 8, 8, 8, 8, 8, 8, 8, 8, 8, 8, 8, 8, 8, 8, 8, 8, 8, 8, 8, 8, 8, 8, 8, 8, 8, 8, 8, 8, 8, 8, 8, 8, 8, 8, 8, 8, 8, 8, 8, 8, 8, 8, 8, 8, 8, 8, 8, 8, 8, 8, 8, 8, 8, 8, 8, 8, 8, 8, 8, 8, 8, 8, 8]⟩ : ByteArray) (IntKind.u8.wrap (x157)))))))))
theorem f_bits_Len64.ok (a0 : Int) (r : Int) (H : f_bits_Len64.f a0 = some r) : Pv.Fn Try.prog 77 [iV .u64 a0] [] 0 (fun x o => x = iV .i64 r ∧ o = []) := by
  unfold f_bits_Len64.f at H
  refine Fn.bodyK [] Try.func77 rfl rfl (fun Γ hP hn => ?_)
  have hm : Try.prog.follows .mixedOrders = true := by kernel_rfl
  replace hn : Γ.n = 25 := hn
  refine AWp.seq ?_
  refine reg hP hn hm [] [0, 2] [] ⟨[(0, iV .u64 a0), (2, iV .i64 0)], [], 0⟩ [] (by kernel_rfl) trivial ?_
  refine AWp.seq ?_
  refine AWp.seq ?_
  refine reg hP hn hm [] [0, 2, 4] [] ⟨[(0, iV .u64 a0), (2, iV .i64 0), (4, bV (decide (a0 ≥ (4294967296 : Int))))], [], 0⟩ [] (by kernel_rfl) trivial ?_
  obtain ⟨o161, e162, H⟩ := bind_of H
  refine AWp.mono (Q := fun e s => (match (generalizing := false) o161 with | (x151, x152) => e = .normal ∧ s = ⟨[(0, iV .u64 x151), (2, iV .i64 x152)], [], 0⟩)) (AWp.cv ?_) ?_
  · replace H := e162; clear e162
    refine AWp.cond (decide (a0 ≥ (4294967296 : Int))) rfl (fun c150 => ?_) (fun c150 => ?_)
    · replace H := (ifT c150).symm.trans H
      refine AWp.seq ?_
      refine reg hP hn hm [] [0] [] ⟨[(0, iV .u64 (Int.fdiv a0 4294967296))], [], 0⟩ [(0 : Int) ≤ 32] (by kernel_rfl) ⟨by decide, trivial⟩ ?_
      refine reg hP hn hm [] [0, 2] [] ⟨[(0, iV .u64 (Int.fdiv a0 4294967296)), (2, iV .i64 32)], [], 0⟩ [] (by kernel_rfl) trivial ?_
      obtain rfl := Option.some.inj H
      exact Exists.intro _ (And.intro (fun _ _ h => h.conv (inv := []) (vk := []) (e0 := []) (t := ⟨[(0, iV .u64 (Int.fdiv a0 4294967296)), (2, iV .i64 32)], [], 0⟩) (by kernel_rfl)) (And.intro rfl rfl))
    · replace H := (ifF c150).symm.trans H
      refine AWp.skip ?_
      obtain rfl := Option.some.inj H
      exact Exists.intro _ (And.intro (fun _ _ h => h.conv (inv := []) (vk := []) (e0 := []) (t := ⟨[(0, iV .u64 a0), (2, iV .i64 0)], [], 0⟩) (by kernel_rfl)) (And.intro rfl rfl))
  · obtain ⟨x151, x152⟩ := o161
    rintro e s ⟨rfl, rfl⟩
    refine AWp.seq ?_
    refine AWp.seq ?_
    refine reg hP hn hm [] [0, 2, 8] [] ⟨[(0, iV .u64 x151), (2, iV .i64 x152), (8, bV (decide (x151 ≥ (65536 : Int))))], [], 0⟩ [] (by kernel_rfl) trivial ?_
    obtain ⟨o163, e164, H⟩ := bind_of H
    refine AWp.mono (Q := fun e s => (match (generalizing := false) o163 with | (x154, x155) => e = .normal ∧ s = ⟨[(0, iV .u64 x154), (2, iV .i64 x155)], [], 0⟩)) (AWp.cv ?_) ?_
    · replace H := e164; clear e164
      refine AWp.cond (decide (x151 ≥ (65536 : Int))) rfl (fun c153 => ?_) (fun c153 => ?_)
      · replace H := (ifT c153).symm.trans H
        refine AWp.seq ?_
        refine reg hP hn hm [] [0, 2] [] ⟨[(0, iV .u64 (Int.fdiv x151 65536)), (2, iV .i64 x152)], [], 0⟩ [(0 : Int) ≤ 16] (by kernel_rfl) ⟨by decide, trivial⟩ ?_
        refine reg hP hn hm [] [0, 2] [] ⟨[(0, iV .u64 (Int.fdiv x151 65536)), (2, iV .i64 (IntKind.i64.wrap (x152 + (16 : Int))))], [], 0⟩ [] (by kernel_rfl) trivial ?_
        obtain rfl := Option.some.inj H
        exact Exists.intro _ (And.intro (fun _ _ h => h.conv (inv := []) (vk := []) (e0 := []) (t := ⟨[(0, iV .u64 (Int.fdiv x151 65536)), (2, iV .i64 (IntKind.i64.wrap (x152 + (16 : Int))))], [], 0⟩) (by kernel_rfl)) (And.intro rfl rfl))
      · replace H := (ifF c153).symm.trans H
        refine AWp.skip ?_
        obtain rfl := Option.some.inj H
        exact Exists.intro _ (And.intro (fun _ _ h => h.conv (inv := []) (vk := []) (e0 := []) (t := ⟨[(0, iV .u64 x151), (2, iV .i64 x152)], [], 0⟩) (by kernel_rfl)) (And.intro rfl rfl))
    · obtain ⟨x154, x155⟩ := o163
      rintro e s ⟨rfl, rfl⟩
      refine AWp.seq ?_
      refine AWp.seq ?_
      refine reg hP hn hm [] [0, 2, 14] [] ⟨[(0, iV .u64 x154), (2, iV .i64 x155), (14, bV (decide (x154 ≥ (256 : Int))))], [], 0⟩ [] (by kernel_rfl) trivial ?_
      obtain ⟨o165, e166, H⟩ := bind_of H
      refine AWp.mono (Q := fun e s => (match (generalizing := false) o165 with | (x157, x158) => e = .normal ∧ s = ⟨[(0, iV .u64 x157), (2, iV .i64 x158)], [], 0⟩)) (AWp.cv ?_) ?_
      · replace H := e166; clear e166
        refine AWp.cond (decide (x154 ≥ (256 : Int))) rfl (fun c156 => ?_) (fun c156 => ?_)
        · replace H := (ifT c156).symm.trans H
          refine AWp.seq ?_
          refine reg hP hn hm [] [0, 2] [] ⟨[(0, iV .u64 (Int.fdiv x154 256)), (2, iV .i64 x155)], [], 0⟩ [(0 : Int) ≤ 8] (by kernel_rfl) ⟨by decide, trivial⟩ ?_
          refine reg hP hn hm [] [0, 2] [] ⟨[(0, iV .u64 (Int.fdiv x154 256)), (2, iV .i64 (IntKind.i64.wrap (x155 + (8 : Int))))], [], 0⟩ [] (by kernel_rfl) trivial ?_
          obtain rfl := Option.some.inj H
          exact Exists.intro _ (And.intro (fun _ _ h => h.conv (inv := []) (vk := []) (e0 := []) (t := ⟨[(0, iV .u64 (Int.fdiv x154 256)), (2, iV .i64 (IntKind.i64.wrap (x155 + (8 : Int))))], [], 0⟩) (by kernel_rfl)) (And.intro rfl rfl))
        · replace H := (ifF c156).symm.trans H
          refine AWp.skip ?_
          obtain rfl := Option.some.inj H
          exact Exists.intro _ (And.intro (fun _ _ h => h.conv (inv := []) (vk := []) (e0 := []) (t := ⟨[(0, iV .u64 x154), (2, iV .i64 x155)], [], 0⟩) (by kernel_rfl)) (And.intro rfl rfl))
      · obtain ⟨x157, x158⟩ := o165
        rintro e s ⟨rfl, rfl⟩
        refine AWp.seq ?_
        obtain ⟨c160, H⟩ := chk_of H
        refine reg hP hn hm [] [2] [] ⟨[(2, iV .i64 (IntKind.i64.wrap (x158 + (IntKind.i64.wrap (bt (⟨#[0, 1, 2, 2, 3, 3, 3, 3, 4, 4, 4, 4, 4, 4, 4, 4, 5, 5, 5, 5, 5, 5, 5, 5, 5, 5, 5, 5, 5, 5, 5, 5, 6, 6, 6, 6, 6, 6, 6, 6, 6, 6, 6, 6, 6, 6, 6, 6, 6, 6, 6, 6, 6, 6, 6, 6, 6, 6, 6, 6, 6, 6, 6, 6, 7, 7, 7, 7, 7, 7, 7, 7, 7, 7, 7, 7, 7, 7, 7, 7, 7, 7, 7, 7, 7, 7, 7, 7, 7, 7, 7, 7, 7, 7, 7, 7, 7, 7, 7, 7, 7, 7, 7, 7, 7, 7, 7, 7, 7, 7, 7, 7, 7, 7, 7, 7, 7, 7, 7, 7, 7, 7, 7, 7, 7, 7, 7, 7, 8, 8, 8, 8, 8, 8, 8, 8, 8, 8, 8, 8, 8, 8, 8, 8, 8, 8, 8, 8, 8, 8, 8, 8, 8, 8, 8, 8, 8, 8, 8, 8, 8, 8, 8, 8, 8, 8, 8, 8, 8, 8, 8, 8, 8, 8, 8, 8, 8, 8, 8, 8, 8, 8, 8, 8, 8, 8, 8, 8, 8, 8, 8, 8, 8, 8, 8, 8, 8, 8, 8, 8, 8, 8, 8, 8, 8, 8, 8, 8, 8, 8, 8, 8, 8, 8, 8, 8, 8, 8, 8, 8, 8, 8, 8, 8, 8, 8, 8, 8, 8, 8, 8, 8, 8, 8, 8, 8, 8, 8, 8, 8, 8, 8, 8, 8, 8, 8, 8, 8, 8, 8, 8, 8, 8, 8, 8, 8]⟩ : ByteArray) (IntKind.u8.wrap (x157)))))))], [], 0⟩ [0 ≤ (IntKind.u8.wrap (x157)), (IntKind.u8.wrap (x157)) < ((⟨#[0, 1, 2, 2, 3, 3, 3, 3, 4, 4, 4, 4, 4, 4, 4, 4, 5, 5, 5, 5, 5, 5, 5, 5, 5, 5, 5, 5, 5, 5, 5, 5, 6, 6, 6, 6, 6, 6, 6, 6, 6, 6, 6, 6, 6, 6, 6, 6, 6, 6, 6, 6, 6, 6, 6, 6, 6, 6, 6, 6, 6, 6, 6, 6, 7, 7, 7, 7, 7, 7, 7, 7, 7, 7, 7, 7, 7, 7, 7, 7, 7, 7, 7, 7, 7, 7, 7, 7, 7, 7, 7, 7, 7, 7, 7, 7, 7, 7, 7, 7, 7, 7, 7, 7, 7, 7, 7, 7, 7, 7, 7, 7, 7, 7, 7, 7, 7, 7, 7, 7, 7, 7, 7, 7, 7, 7, 7, 7, 8, 8, 8, 8, 8, 8, 8, 8, 8, 8, 8, 8, 8, 8, 8, 8, 8, 8, 8, 8, 8, 8, 8, 8, 8, 8, 8, 8, 8, 8, 8, 8, 8, 8, 8, 8, 8, 8, 8, 8, 8, 8, 8, 8, 8, 8, 8, 8, 8, 8, 8, 8, 8, 8, 8, 8, 8, 8, 8, 8, 8, 8, 8, 8, 8, 8, 8, 8, 8, 8, 8, 8, 8, 8, 8, 8, 8, 8, 8, 8, 8, 8, 8, 8, 8, 8, 8, 8, 8, 8, 8, 8, 8, 8, 8, 8, 8, 8, 8, 8, 8, 8, 8, 8, 8, 8, 8, 8, 8, 8, 8, 8, 8, 8, 8, 8, 8, 8, 8, 8, 8, 8, 8, 8, 8, 8, 8, 8]⟩ : ByteArray).size : Int)] (by kernel_rfl) ⟨by exact c160.1, by exact c160.2, trivial⟩ ?_
        refine AWp.conv (inv := []) (vk := []) (e0 := []) (t := ⟨[(2, iV .i64 (IntKind.i64.wrap (x158 + (IntKind.i64.wrap (bt (⟨#[0, 1, 2, 2, 3, 3, 3, 3, 4, 4, 4, 4, 4, 4, 4, 4, 5, 5, 5, 5, 5, 5, 5, 5, 5, 5, 5, 5, 5, 5, 5, 5, 6, 6, 6, 6, 6, 6, 6, 6, 6, 6, 6, 6, 6, 6, 6, 6, 6, 6, 6, 6, 6, 6, 6, 6, 6, 6, 6, 6, 6, 6, 6, 6, 7, 7, 7, 7, 7, 7, 7, 7, 7, 7, 7, 7, 7, 7, 7, 7, 7, 7, 7, 7, 7, 7, 7, 7, 7, 7, 7, 7, 7, 7, 7, 7, 7, 7, 7, 7, 7, 7, 7, 7, 7, 7, 7, 7, 7, 7, 7, 7, 7, 7, 7, 7, 7, 7, 7, 7, 7, 7, 7, 7, 7, 7, 7, 7, 8, 8, 8, 8, 8, 8, 8, 8, 8, 8, 8, 8, 8, 8, 8, 8, 8, 8, 8, 8, 8, 8, 8, 8, 8, 8, 8, 8, 8, 8, 8, 8, 8, 8, 8, 8, 8, 8, 8, 8, 8, 8, 8, 8, 8, 8, 8, 8, 8, 8, 8, 8, 8, 8, 8, 8, 8, 8, 8, 8, 8, 8, 8, 8, 8, 8, 8, 8, 8, 8, 8, 8, 8, 8, 8, 8, 8, 8, 8, 8, 8, 8, 8, 8, 8, 8, 8, 8, 8, 8, 8, 8, 8, 8, 8, 8, 8, 8, 8, 8, 8, 8, 8, 8, 8, 8, 8, 8, 8, 8, 8, 8, 8, 8, 8, 8, 8, 8, 8, 8, 8, 8, 8, 8, 8, 8, 8, 8]⟩ : ByteArray) (IntKind.u8.wrap (x157)))))))], [], 0⟩) (by kernel_rfl) ?_
        refine AWp.ret ?_
        obtain rfl := Option.some.inj H
        exact Exists.intro _ (And.intro (fun _ _ h => h) (And.intro (.inl rfl) (And.intro rfl (And.intro (by kernel_rfl) (by kernel_rfl)))))
def f_bits_Len.f (a0 : Int) : Option (Int) := (f_bits_Len64.f a0) >>= fun t169 => some t169
theorem f_bits_Len.ok (a0 : Int) (r : Int) (H : f_bits_Len.f a0 = some r) : Pv.Fn Try.prog 47 [iV .u64 a0] [] 0 (fun x o => x = iV .i64 r ∧ o = []) := by
  unfold f_bits_Len.f at H
  refine Fn.bodyK [] Try.func47 rfl rfl (fun Γ hP hn => ?_)
  have hm : Try.prog.follows .mixedOrders = true := by kernel_rfl
  replace hn : Γ.n = 8 := hn
  refine AWp.seq ?_
  refine reg hP hn hm [] [0] [] ⟨[(0, iV .u64 a0)], [], 0⟩ [] (by kernel_rfl) trivial ?_
  refine AWp.seq ?_
  refine AWp.cond false rfl (fun h => nomatch h) (fun _ => ?_)
  refine AWp.skip ?_
  refine AWp.seq ?_
  obtain ⟨t169, e170, H⟩ := bind_of H
  refine reg hP hn hm [(1, .call [] [] [] [] 0 (iV .i64 t169) [])] [2] [] ⟨[(2, iV .i64 t169)], [], 0⟩ [Enters Try.prog 77, Pv.Fn Try.prog 77 [iV .u64 a0] [] 0 (fun r o => r = iV .i64 t169 ∧ o = [])] (by kernel_rfl) ⟨by exact Try.call77, by exact f_bits_Len64.ok a0 t169 e170, trivial⟩ ?_
  refine AWp.conv (inv := []) (vk := []) (e0 := []) (t := ⟨[(2, iV .i64 t169)], [], 0⟩) (by kernel_rfl) ?_
  refine AWp.ret ?_
  obtain rfl := Option.some.inj H
  exact Exists.intro _ (And.intro (fun _ _ h => h) (And.intro (.inl rfl) (And.intro rfl (And.intro (by kernel_rfl) (by kernel_rfl)))))
def f_cmp_isNaN_int64.f (a0 : Int) : Option (Unit) := some ()
theorem f_cmp_isNaN_int64.ok (a0 : Int) (r : Unit) (H : f_cmp_isNaN_int64.f a0 = some r) : Pv.Fn Try.prog 79 [iV .i64 a0] [] 0 (fun x o => x = bV (a0 != a0) ∧ o = []) := by
  unfold f_cmp_isNaN_int64.f at H
  refine Fn.bodyK [] Try.func79 rfl rfl (fun Γ hP hn => ?_)
  have hm : Try.prog.follows .mixedOrders = true := by kernel_rfl
  replace hn : Γ.n = 6 := hn
  refine AWp.seq ?_
  refine reg hP hn hm [] [0] [] ⟨[(0, iV .i64 a0)], [], 0⟩ [] (by kernel_rfl) trivial ?_
  refine AWp.seq ?_
  refine reg hP hn hm [] [2] [] ⟨[(2, bV (a0 != a0))], [], 0⟩ [] (by kernel_rfl) trivial ?_
  refine AWp.conv (inv := []) (vk := []) (e0 := []) (t := ⟨[(2, bV (a0 != a0))], [], 0⟩) (by kernel_rfl) ?_
  refine AWp.ret ?_
  obtain rfl := Option.some.inj H
  exact Exists.intro _ (And.intro (fun _ _ h => h) (And.intro (.inl rfl) (And.intro rfl (And.intro (by kernel_rfl) (by kernel_rfl)))))
def f_cmp_Compare_int64.f (a0 : Int) (a1 : Int) : Option (Int) := (f_cmp_isNaN_int64.f a0) >>= fun t184 => (f_cmp_isNaN_int64.f a1) >>= fun t188 => if (a0 != a0) = true then (if (a1 != a1) = true then (some 0) else (some (-1))) else (if (a1 != a1) = true then (some 1) else (if (decide (a0 < a1)) = true then (some (-1)) else (if (decide (a0 > a1)) = true then (some 1) else (some 0))))
theorem f_cmp_Compare_int64.ok (a0 : Int) (a1 : Int) (r : Int) (H : f_cmp_Compare_int64.f a0 a1 = some r) : Pv.Fn Try.prog 52 [iV .i64 a0, iV .i64 a1] [] 0 (fun x o => x = iV .i64 r ∧ o = []) := by
  unfold f_cmp_Compare_int64.f at H
  refine Fn.bodyK [] Try.func52 rfl rfl (fun Γ hP hn => ?_)
  have hm : Try.prog.follows .mixedOrders = true := by kernel_rfl
  replace hn : Γ.n = 20 := hn
  refine AWp.seq ?_
  refine reg hP hn hm [] [0, 1] [] ⟨[(0, iV .i64 a0), (1, iV .i64 a1)], [], 0⟩ [] (by kernel_rfl) trivial ?_
  refine AWp.seq ?_
  obtain ⟨t184, e185, H⟩ := bind_of H
  refine reg hP hn hm [(1, .call [] [] [] [] 0 (bV (a0 != a0)) [])] [0, 1, 5] [] ⟨[(0, iV .i64 a0), (1, iV .i64 a1), (5, bV (a0 != a0))], [], 0⟩ [Enters Try.prog 79, Pv.Fn Try.prog 79 [iV .i64 a0] [] 0 (fun r o => r = bV (a0 != a0) ∧ o = [])] (by kernel_rfl) ⟨by exact Try.call79, by exact f_cmp_isNaN_int64.ok a0 t184 e185, trivial⟩ ?_
  refine AWp.seq ?_
  obtain ⟨t188, e189, H⟩ := bind_of H
  refine reg hP hn hm [(1, .call [] [] [] [] 0 (bV (a1 != a1)) [])] [0, 1, 5, 6] [] ⟨[(0, iV .i64 a0), (1, iV .i64 a1), (5, bV (a0 != a0)), (6, bV (a1 != a1))], [], 0⟩ [Enters Try.prog 79, Pv.Fn Try.prog 79 [iV .i64 a1] [] 0 (fun r o => r = bV (a1 != a1) ∧ o = [])] (by kernel_rfl) ⟨by exact Try.call79, by exact f_cmp_isNaN_int64.ok a1 t188 e189, trivial⟩ ?_
  refine AWp.seq ?_
  refine AWp.seq ?_
  refine reg hP hn hm [] [0, 1, 6, 11] [] ⟨[(0, iV .i64 a0), (1, iV .i64 a1), (6, bV (a1 != a1)), (11, bV (a0 != a0))], [], 0⟩ [] (by kernel_rfl) trivial ?_
  refine AWp.cond (a0 != a0) rfl (fun c190 => ?_) (fun c190 => ?_)
  · replace H := (ifT c190).symm.trans H
    refine AWp.seq ?_
    refine AWp.seq ?_
    refine reg hP hn hm [] [12] [] ⟨[(12, bV (a1 != a1))], [], 0⟩ [] (by kernel_rfl) trivial ?_
    refine AWp.cond (a1 != a1) rfl (fun c191 => ?_) (fun c191 => ?_)
    · replace H := (ifT c191).symm.trans H
      refine AWp.seq ?_
      refine reg hP hn hm [] [4] [] ⟨[(4, iV .i64 0)], [], 0⟩ [] (by kernel_rfl) trivial ?_
      refine AWp.conv (inv := []) (vk := []) (e0 := []) (t := ⟨[(4, iV .i64 0)], [], 0⟩) (by kernel_rfl) ?_
      refine AWp.ret ?_
      obtain rfl := Option.some.inj H
      exact Exists.intro _ (And.intro (fun _ _ h => h) (And.intro (.inl rfl) (And.intro rfl (And.intro (by kernel_rfl) (by kernel_rfl)))))
    · replace H := (ifF c191).symm.trans H
      refine AWp.skip ?_
      refine AWp.seq ?_
      refine reg hP hn hm [] [4] [] ⟨[(4, iV .i64 (-1))], [], 0⟩ [] (by kernel_rfl) trivial ?_
      refine AWp.conv (inv := []) (vk := []) (e0 := []) (t := ⟨[(4, iV .i64 (-1))], [], 0⟩) (by kernel_rfl) ?_
      refine AWp.ret ?_
      obtain rfl := Option.some.inj H
      exact Exists.intro _ (And.intro (fun _ _ h => h) (And.intro (.inl rfl) (And.intro rfl (And.intro (by kernel_rfl) (by kernel_rfl)))))
  · replace H := (ifF c190).symm.trans H
    refine AWp.skip ?_
    refine AWp.seq ?_
    refine AWp.seq ?_
    refine reg hP hn hm [] [0, 1, 13] [] ⟨[(0, iV .i64 a0), (1, iV .i64 a1), (13, bV (a1 != a1))], [], 0⟩ [] (by kernel_rfl) trivial ?_
    refine AWp.cond (a1 != a1) rfl (fun c192 => ?_) (fun c192 => ?_)
    · replace H := (ifT c192).symm.trans H
      refine AWp.seq ?_
      refine reg hP hn hm [] [4] [] ⟨[(4, iV .i64 1)], [], 0⟩ [] (by kernel_rfl) trivial ?_
      refine AWp.conv (inv := []) (vk := []) (e0 := []) (t := ⟨[(4, iV .i64 1)], [], 0⟩) (by kernel_rfl) ?_
      refine AWp.ret ?_
      obtain rfl := Option.some.inj H
      exact Exists.intro _ (And.intro (fun _ _ h => h) (And.intro (.inl rfl) (And.intro rfl (And.intro (by kernel_rfl) (by kernel_rfl)))))
    · replace H := (ifF c192).symm.trans H
      refine AWp.skip ?_
      refine AWp.seq ?_
      refine AWp.seq ?_
      refine reg hP hn hm [] [0, 1, 16] [] ⟨[(0, iV .i64 a0), (1, iV .i64 a1), (16, bV (decide (a0 < a1)))], [], 0⟩ [] (by kernel_rfl) trivial ?_
      refine AWp.cond (decide (a0 < a1)) rfl (fun c193 => ?_) (fun c193 => ?_)
      · replace H := (ifT c193).symm.trans H
        refine AWp.seq ?_
        refine reg hP hn hm [] [4] [] ⟨[(4, iV .i64 (-1))], [], 0⟩ [] (by kernel_rfl) trivial ?_
        refine AWp.conv (inv := []) (vk := []) (e0 := []) (t := ⟨[(4, iV .i64 (-1))], [], 0⟩) (by kernel_rfl) ?_
        refine AWp.ret ?_
        obtain rfl := Option.some.inj H
        exact Exists.intro _ (And.intro (fun _ _ h => h) (And.intro (.inl rfl) (And.intro rfl (And.intro (by kernel_rfl) (by kernel_rfl)))))
      · replace H := (ifF c193).symm.trans H
        refine AWp.skip ?_
        refine AWp.seq ?_
        refine AWp.seq ?_
        refine reg hP hn hm [] [19] [] ⟨[(19, bV (decide (a0 > a1)))], [], 0⟩ [] (by kernel_rfl) trivial ?_
        refine AWp.cond (decide (a0 > a1)) rfl (fun c194 => ?_) (fun c194 => ?_)
        · replace H := (ifT c194).symm.trans H
          refine AWp.seq ?_
          refine reg hP hn hm [] [4] [] ⟨[(4, iV .i64 1)], [], 0⟩ [] (by kernel_rfl) trivial ?_
          refine AWp.conv (inv := []) (vk := []) (e0 := []) (t := ⟨[(4, iV .i64 1)], [], 0⟩) (by kernel_rfl) ?_
          refine AWp.ret ?_
          obtain rfl := Option.some.inj H
          exact Exists.intro _ (And.intro (fun _ _ h => h) (And.intro (.inl rfl) (And.intro rfl (And.intro (by kernel_rfl) (by kernel_rfl)))))
        · replace H := (ifF c194).symm.trans H
          refine AWp.skip ?_
          refine AWp.seq ?_
          refine reg hP hn hm [] [4] [] ⟨[(4, iV .i64 0)], [], 0⟩ [] (by kernel_rfl) trivial ?_
          refine AWp.conv (inv := []) (vk := []) (e0 := []) (t := ⟨[(4, iV .i64 0)], [], 0⟩) (by kernel_rfl) ?_
          refine AWp.ret ?_
          obtain rfl := Option.some.inj H
          exact Exists.intro _ (And.intro (fun _ _ h => h) (And.intro (.inl rfl) (And.intro rfl (And.intro (by kernel_rfl) (by kernel_rfl)))))
def f_cmp_isNaN_int.f (a0 : Int) : Option (Unit) := some ()
theorem f_cmp_isNaN_int.ok (a0 : Int) (r : Unit) (H : f_cmp_isNaN_int.f a0 = some r) : Pv.Fn Try.prog 80 [iV .i64 a0] [] 0 (fun x o => x = bV (a0 != a0) ∧ o = []) := by
  unfold f_cmp_isNaN_int.f at H
  refine Fn.bodyK [] Try.func80 rfl rfl (fun Γ hP hn => ?_)
  have hm : Try.prog.follows .mixedOrders = true := by kernel_rfl
  replace hn : Γ.n = 6 := hn
  refine AWp.seq ?_
  refine reg hP hn hm [] [0] [] ⟨[(0, iV .i64 a0)], [], 0⟩ [] (by kernel_rfl) trivial ?_
  refine AWp.seq ?_
  refine reg hP hn hm [] [2] [] ⟨[(2, bV (a0 != a0))], [], 0⟩ [] (by kernel_rfl) trivial ?_
  refine AWp.conv (inv := []) (vk := []) (e0 := []) (t := ⟨[(2, bV (a0 != a0))], [], 0⟩) (by kernel_rfl) ?_
  refine AWp.ret ?_
  obtain rfl := Option.some.inj H
  exact Exists.intro _ (And.intro (fun _ _ h => h) (And.intro (.inl rfl) (And.intro rfl (And.intro (by kernel_rfl) (by kernel_rfl)))))
def f_cmp_Compare_int.f (a0 : Int) (a1 : Int) : Option (Int) := (f_cmp_isNaN_int.f a0) >>= fun t199 => (f_cmp_isNaN_int.f a1) >>= fun t203 => if (a0 != a0) = true then (if (a1 != a1) = true then (some 0) else (some (-1))) else (if (a1 != a1) = true then (some 1) else (if (decide (a0 < a1)) = true then (some (-1)) else (if (decide (a0 > a1)) = true then (some 1) else (some 0))))
theorem f_cmp_Compare_int.ok (a0 : Int) (a1 : Int) (r : Int) (H : f_cmp_Compare_int.f a0 a1 = some r) : Pv.Fn Try.prog 53 [iV .i64 a0, iV .i64 a1] [] 0 (fun x o => x = iV .i64 r ∧ o = []) := by
  unfold f_cmp_Compare_int.f at H
  refine Fn.bodyK [] Try.func53 rfl rfl (fun Γ hP hn => ?_)
  have hm : Try.prog.follows .mixedOrders = true := by kernel_rfl
  replace hn : Γ.n = 20 := hn
  refine AWp.seq ?_
  refine reg hP hn hm [] [0, 1] [] ⟨[(0, iV .i64 a0), (1, iV .i64 a1)], [], 0⟩ [] (by kernel_rfl) trivial ?_
  refine AWp.seq ?_
  obtain ⟨t199, e200, H⟩ := bind_of H
  refine reg hP hn hm [(1, .call [] [] [] [] 0 (bV (a0 != a0)) [])] [0, 1, 5] [] ⟨[(0, iV .i64 a0), (1, iV .i64 a1), (5, bV (a0 != a0))], [], 0⟩ [Enters Try.prog 80, Pv.Fn Try.prog 80 [iV .i64 a0] [] 0 (fun r o => r = bV (a0 != a0) ∧ o = [])] (by kernel_rfl) ⟨by exact Try.call80, by exact f_cmp_isNaN_int.ok a0 t199 e200, trivial⟩ ?_
  refine AWp.seq ?_
  obtain ⟨t203, e204, H⟩ := bind_of H
  refine reg hP hn hm [(1, .call [] [] [] [] 0 (bV (a1 != a1)) [])] [0, 1, 5, 6] [] ⟨[(0, iV .i64 a0), (1, iV .i64 a1), (5, bV (a0 != a0)), (6, bV (a1 != a1))], [], 0⟩ [Enters Try.prog 80, Pv.Fn Try.prog 80 [iV .i64 a1] [] 0 (fun r o => r = bV (a1 != a1) ∧ o = [])] (by kernel_rfl) ⟨by exact Try.call80, by exact f_cmp_isNaN_int.ok a1 t203 e204, trivial⟩ ?_
  refine AWp.seq ?_
  refine AWp.seq ?_
  refine reg hP hn hm [] [0, 1, 6, 11] [] ⟨[(0, iV .i64 a0), (1, iV .i64 a1), (6, bV (a1 != a1)), (11, bV (a0 != a0))], [], 0⟩ [] (by kernel_rfl) trivial ?_
  refine AWp.cond (a0 != a0) rfl (fun c205 => ?_) (fun c205 => ?_)
  · replace H := (ifT c205).symm.trans H
    refine AWp.seq ?_
    refine AWp.seq ?_
    refine reg hP hn hm [] [12] [] ⟨[(12, bV (a1 != a1))], [], 0⟩ [] (by kernel_rfl) trivial ?_
    refine AWp.cond (a1 != a1) rfl (fun c206 => ?_) (fun c206 => ?_)
    · replace H := (ifT c206).symm.trans H
      refine AWp.seq ?_
      refine reg hP hn hm [] [4] [] ⟨[(4, iV .i64 0)], [], 0⟩ [] (by kernel_rfl) trivial ?_
      refine AWp.conv (inv := []) (vk := []) (e0 := []) (t := ⟨[(4, iV .i64 0)], [], 0⟩) (by kernel_rfl) ?_
      refine AWp.ret ?_
      obtain rfl := Option.some.inj H
      exact Exists.intro _ (And.intro (fun _ _ h => h) (And.intro (.inl rfl) (And.intro rfl (And.intro (by kernel_rfl) (by kernel_rfl)))))
    · replace H := (ifF c206).symm.trans H
      refine AWp.skip ?_
      refine AWp.seq ?_
      refine reg hP hn hm [] [4] [] ⟨[(4, iV .i64 (-1))], [], 0⟩ [] (by kernel_rfl) trivial ?_
      refine AWp.conv (inv := []) (vk := []) (e0 := []) (t := ⟨[(4, iV .i64 (-1))], [], 0⟩) (by kernel_rfl) ?_
      refine AWp.ret ?_
      obtain rfl := Option.some.inj H
      exact Exists.intro _ (And.intro (fun _ _ h => h) (And.intro (.inl rfl) (And.intro rfl (And.intro (by kernel_rfl) (by kernel_rfl)))))
  · replace H := (ifF c205).symm.trans H
    refine AWp.skip ?_
    refine AWp.seq ?_
    refine AWp.seq ?_
    refine reg hP hn hm [] [0, 1, 13] [] ⟨[(0, iV .i64 a0), (1, iV .i64 a1), (13, bV (a1 != a1))], [], 0⟩ [] (by kernel_rfl) trivial ?_
    refine AWp.cond (a1 != a1) rfl (fun c207 => ?_) (fun c207 => ?_)
    · replace H := (ifT c207).symm.trans H
      refine AWp.seq ?_
      refine reg hP hn hm [] [4] [] ⟨[(4, iV .i64 1)], [], 0⟩ [] (by kernel_rfl) trivial ?_
      refine AWp.conv (inv := []) (vk := []) (e0 := []) (t := ⟨[(4, iV .i64 1)], [], 0⟩) (by kernel_rfl) ?_
      refine AWp.ret ?_
      obtain rfl := Option.some.inj H
      exact Exists.intro _ (And.intro (fun _ _ h => h) (And.intro (.inl rfl) (And.intro rfl (And.intro (by kernel_rfl) (by kernel_rfl)))))
    · replace H := (ifF c207).symm.trans H
      refine AWp.skip ?_
      refine AWp.seq ?_
      refine AWp.seq ?_
      refine reg hP hn hm [] [0, 1, 16] [] ⟨[(0, iV .i64 a0), (1, iV .i64 a1), (16, bV (decide (a0 < a1)))], [], 0⟩ [] (by kernel_rfl) trivial ?_
      refine AWp.cond (decide (a0 < a1)) rfl (fun c208 => ?_) (fun c208 => ?_)
      · replace H := (ifT c208).symm.trans H
        refine AWp.seq ?_
        refine reg hP hn hm [] [4] [] ⟨[(4, iV .i64 (-1))], [], 0⟩ [] (by kernel_rfl) trivial ?_
        refine AWp.conv (inv := []) (vk := []) (e0 := []) (t := ⟨[(4, iV .i64 (-1))], [], 0⟩) (by kernel_rfl) ?_
        refine AWp.ret ?_
        obtain rfl := Option.some.inj H
        exact Exists.intro _ (And.intro (fun _ _ h => h) (And.intro (.inl rfl) (And.intro rfl (And.intro (by kernel_rfl) (by kernel_rfl)))))
      · replace H := (ifF c208).symm.trans H
        refine AWp.skip ?_
        refine AWp.seq ?_
        refine AWp.seq ?_
        refine reg hP hn hm [] [19] [] ⟨[(19, bV (decide (a0 > a1)))], [], 0⟩ [] (by kernel_rfl) trivial ?_
        refine AWp.cond (decide (a0 > a1)) rfl (fun c209 => ?_) (fun c209 => ?_)
        · replace H := (ifT c209).symm.trans H
          refine AWp.seq ?_
          refine reg hP hn hm [] [4] [] ⟨[(4, iV .i64 1)], [], 0⟩ [] (by kernel_rfl) trivial ?_
          refine AWp.conv (inv := []) (vk := []) (e0 := []) (t := ⟨[(4, iV .i64 1)], [], 0⟩) (by kernel_rfl) ?_
          refine AWp.ret ?_
          obtain rfl := Option.some.inj H
          exact Exists.intro _ (And.intro (fun _ _ h => h) (And.intro (.inl rfl) (And.intro rfl (And.intro (by kernel_rfl) (by kernel_rfl)))))
        · replace H := (ifF c209).symm.trans H
          refine AWp.skip ?_
          refine AWp.seq ?_
          refine reg hP hn hm [] [4] [] ⟨[(4, iV .i64 0)], [], 0⟩ [] (by kernel_rfl) trivial ?_
          refine AWp.conv (inv := []) (vk := []) (e0 := []) (t := ⟨[(4, iV .i64 0)], [], 0⟩) (by kernel_rfl) ?_
          refine AWp.ret ?_
          obtain rfl := Option.some.inj H
          exact Exists.intro _ (And.intro (fun _ _ h => h) (And.intro (.inl rfl) (And.intro rfl (And.intro (by kernel_rfl) (by kernel_rfl)))))
def f_cmp_Or_int.l0 (a0 : List Int) (x220 : Int) : Option (Int ⊕ Unit) := if (decide (x220 < (a0.length : Int))) = true then ((at? a0 x220) >>= fun b225 => if (b225 != (0 : Int)) = true then (some (.inl b225)) else (f_cmp_Or_int.l0 a0 (IntKind.i64.wrap (x220 + (1 : Int))))) else (some (.inr ()))
partial_fixpoint
def f_cmp_Or_int.f (a0 : List Int) : Option (Int) := (f_cmp_Or_int.l0 a0 0) >>= fun oo => match oo with | .inl rr => (some rr) | .inr _ => (some 0)
theorem f_cmp_Or_int.ok (a0 : List Int) (r : Int) (H : f_cmp_Or_int.f a0 = some r) : Pv.Fn Try.prog 51 [.im (.row (a0.map (encInt .i64)))] [] 0 (fun x o => x = iV .i64 r ∧ o = []) := by
  unfold f_cmp_Or_int.f at H
  refine Fn.bodyK [] Try.func51 rfl rfl (fun Γ hP hn => ?_)
  have hm : Try.prog.follows .mixedOrders = true := by kernel_rfl
  replace hn : Γ.n = 18 := hn
  refine AWp.seq ?_
  refine reg hP hn hm [] [0] [] ⟨[(0, .im (.row (a0.map (encInt .i64))))], [], 0⟩ [] (by kernel_rfl) trivial ?_
  refine AWp.seq ?_
  refine reg hP hn hm [] [0, 3] [] ⟨[(0, .im (.row (a0.map (encInt .i64)))), (3, iV .i64 0)], [], 0⟩ [] (by kernel_rfl) trivial ?_
  refine AWp.seq ?_
  refine AWp.seq ?_
  refine reg hP hn hm [(1, .any (iV .i64 (a0.length : Int)))] [3, 6, 7, 8] [] ⟨[(3, iV .i64 0), (6, .im (.row (a0.map (encInt .i64)))), (7, iV .i64 (a0.length : Int)), (8, iV .i64 0)], [], 0⟩ [((a0.map (encInt .i64)).length : Int) = (a0.length : Int)] (by kernel_rfl) ⟨by rw [len_map], trivial⟩ ?_
  refine AWp.block ?_
  obtain ⟨o229, e230, H⟩ := bind_of H
  refine AWp.loop (LWp.conv (inv := []) (vk := []) (e0 := []) (t := ⟨[(3, iV .i64 0), (6, .im (.row (a0.map (encInt .i64)))), (7, iV .i64 (a0.length : Int)), (8, iV .i64 0)], [], 0⟩) (by kernel_rfl) ?_)
  refine LWp.mono (Q := fun e s => (match (generalizing := false) o229 with | .inl rr => e = .ret ∧ s.floor = 0 ∧ resOf Try.prog Try.f51 s = some (iV .i64 rr) ∧ ([] : List (Nat × Option MObj)) = [] | .inr _ => e = .exit 0 ∧ s = ⟨[(3, iV .i64 0)], [], 0⟩)) (LWp.cv (withBody (fun body hbody => ?_))) ?_
  · refine f_cmp_Or_int.l0.partial_correctness a0 (motive := fun x220 o229 => LWp Γ body (fun e s => ∃ t, Cv Γ s t ∧ (match (generalizing := false) o229 with | .inl rr => e = .ret ∧ t.floor = 0 ∧ resOf Try.prog Try.f51 t = some (iV .i64 rr) ∧ ([] : List (Nat × Option MObj)) = [] | .inr _ => e = .exit 0 ∧ t = ⟨[(3, iV .i64 0)], [], 0⟩)) ⟨[(3, iV .i64 0), (6, .im (.row (a0.map (encInt .i64)))), (7, iV .i64 (a0.length : Int)), (8, iV .i64 x220)], [], 0⟩) ?_ _ _ e230
    clear H e230 o229; intro self ih x220 o229 H
    subst hbody
    refine LWp.round ?_
    refine AWp.seq ?_
    refine reg hP hn hm [] [3, 6, 7, 8, 9] [] ⟨[(3, iV .i64 0), (6, .im (.row (a0.map (encInt .i64)))), (7, iV .i64 (a0.length : Int)), (8, iV .i64 x220), (9, bV (decide (x220 < (a0.length : Int))))], [], 0⟩ [] (by kernel_rfl) trivial ?_
    refine AWp.seq ?_
    refine AWp.cond (decide (x220 < (a0.length : Int))) rfl (fun c221 => ?_) (fun c221 => ?_)
    · replace H := (ifT c221).symm.trans H
      refine AWp.skip ?_
      refine AWp.seq ?_
      refine AWp.block ?_
      refine AWp.seq ?_
      obtain ⟨b225, p226, q227, H⟩ := at_of H
      refine reg hP hn hm [(0, .c ((encInt .i64) b225))] [3, 5, 6, 7, 8] [] ⟨[(3, iV .i64 0), (5, iV .i64 b225), (6, .im (.row (a0.map (encInt .i64)))), (7, iV .i64 (a0.length : Int)), (8, iV .i64 x220)], [], 0⟩ [0 ≤ x220, (a0.map (encInt .i64))[(Int.toNat (x220))]? = some ((encInt .i64) b225)] (by kernel_rfl) ⟨by exact p226, by exact el_map (encInt .i64) q227, trivial⟩ ?_
      refine AWp.seq ?_
      refine reg hP hn hm [] [3, 5, 6, 7, 8, 14] [] ⟨[(3, iV .i64 0), (5, iV .i64 b225), (6, .im (.row (a0.map (encInt .i64)))), (7, iV .i64 (a0.length : Int)), (8, iV .i64 x220), (14, bV (b225 != (0 : Int)))], [], 0⟩ [] (by kernel_rfl) trivial ?_
      refine AWp.cond (b225 != (0 : Int)) rfl (fun c228 => ?_) (fun c228 => ?_)
      · replace H := (ifT c228).symm.trans H
        refine AWp.seq ?_
        refine reg hP hn hm [] [2] [] ⟨[(2, iV .i64 b225)], [], 0⟩ [] (by kernel_rfl) trivial ?_
        refine AWp.conv (inv := []) (vk := []) (e0 := []) (t := ⟨[(2, iV .i64 b225)], [], 0⟩) (by kernel_rfl) ?_
        refine AWp.ret ?_
        obtain rfl := Option.some.inj H
        exact Exists.intro _ (And.intro (fun _ _ h => h) (And.intro rfl (And.intro rfl (And.intro (by kernel_rfl) (by kernel_rfl)))))
      · replace H := (ifF c228).symm.trans H
        refine AWp.skip ?_
        refine reg hP hn hm [] [3, 6, 7, 8] [] ⟨[(3, iV .i64 0), (6, .im (.row (a0.map (encInt .i64)))), (7, iV .i64 (a0.length : Int)), (8, iV .i64 (IntKind.i64.wrap (x220 + (1 : Int))))], [], 0⟩ [] (by kernel_rfl) trivial ?_
        exact LWp.conv (inv := []) (vk := []) (e0 := []) (t := ⟨[(3, iV .i64 0), (6, .im (.row (a0.map (encInt .i64)))), (7, iV .i64 (a0.length : Int)), (8, iV .i64 (IntKind.i64.wrap (x220 + (1 : Int))))], [], 0⟩) (by kernel_rfl) (ih _ _ H)
    · replace H := (ifF c221).symm.trans H
      refine AWp.exit ?_
      obtain rfl := Option.some.inj H
      exact Exists.intro _ (And.intro (fun _ _ h => h.conv (inv := []) (vk := []) (e0 := []) (t := ⟨[(3, iV .i64 0)], [], 0⟩) (by kernel_rfl)) (And.intro rfl rfl))
  · rcases o229 with rr | _
    · skip
      rintro e s ⟨rfl, hfl, hres⟩
      obtain rfl := Option.some.inj H
      exact Exists.intro _ (And.intro (fun _ _ h => h) (And.intro (.inl rfl) (And.intro hfl hres)))
    · skip
      rintro e s ⟨rfl, rfl⟩
      refine AWp.seq ?_
      refine reg hP hn hm [] [2] [] ⟨[(2, iV .i64 0)], [], 0⟩ [] (by kernel_rfl) trivial ?_
      refine AWp.conv (inv := []) (vk := []) (e0 := []) (t := ⟨[(2, iV .i64 0)], [], 0⟩) (by kernel_rfl) ?_
      refine AWp.ret ?_
      obtain rfl := Option.some.inj H
      exact Exists.intro _ (And.intro (fun _ _ h => h) (And.intro (.inl rfl) (And.intro rfl (And.intro (by kernel_rfl) (by kernel_rfl)))))
def f_plan_sorted_1.f (a0 : Tplan_Item) (a1 : Tplan_Item) : Option (Int) := (f_cmp_Compare_int64.f a0.f1.f0 a1.f1.f0) >>= fun t233 => (f_cmp_Compare_int.f a0.f0 a1.f0) >>= fun t235 => (f_cmp_Or_int.f [t233, t235]) >>= fun t237 => some t237
theorem f_plan_sorted_1.ok (a0 : Tplan_Item) (a1 : Tplan_Item) (r : Int) (H : f_plan_sorted_1.f a0 a1 = some r) : Pv.Fn Try.prog 50 [.agg (apluvialref17_Item ⟨a0.f0, a0.f1.f0, a0.f1.f1, a0.f1.f2⟩), .agg (apluvialref17_Item ⟨a1.f0, a1.f1.f0, a1.f1.f1, a1.f1.f2⟩)] [] 0 (fun x o => x = iV .i64 r ∧ o = []) := by
  unfold f_plan_sorted_1.f at H
  refine Fn.bodyK [] Try.func50 rfl rfl (fun Γ hP hn => ?_)
  have hm : Try.prog.follows .mixedOrders = true := by kernel_rfl
  replace hn : Γ.n = 19 := hn
  refine AWp.seq ?_
  refine reg hP hn hm [(0, .k 0), (1, .k 1)] [2, 3] [0, 1] ⟨[(2, .ptr 0 0 0), (3, .ptr 1 0 0)], [(0, some (.box 89 [iV .i64 a0.f0, iV .i64 a0.f1.f0, iV .i64 a0.f1.f1, iV .i64 a0.f1.f2])), (1, some (.box 89 [iV .i64 a1.f0, iV .i64 a1.f1.f0, iV .i64 a1.f1.f1, iV .i64 a1.f1.f2]))], 0⟩ [] (by kernel_rfl) trivial ?_
  refine AWp.seq ?_
  obtain ⟨t233, e234, H⟩ := bind_of H
  obtain ⟨t235, e236, H⟩ := bind_of H
  obtain ⟨t237, e238, H⟩ := bind_of H
  refine reg hP hn hm [(6, .call [] [] [] [] 0 (iV .i64 t233) []), (11, .call [] [] [] [] 0 (iV .i64 t235) []), (12, .app 2 ([t233, t235].map (encInt .i64))), (13, .call [] [] [2] [] 0 (iV .i64 t237) [])] [4] [] ⟨[(4, iV .i64 t237)], [], 0⟩ [Enters Try.prog 52, Pv.Fn Try.prog 52 [iV .i64 a0.f1.f0, iV .i64 a1.f1.f0] [] 0 (fun r o => r = iV .i64 t233 ∧ o = []), Enters Try.prog 53, Pv.Fn Try.prog 53 [iV .i64 a0.f0, iV .i64 a1.f0] [] 0 (fun r o => r = iV .i64 t235 ∧ o = []), [t233, t235].map (encInt .i64) = [[iI .i64 t233], [iI .i64 t235]], Enters Try.prog 51, Pv.Fn Try.prog 51 [.im (.row ([t233, t235].map (encInt .i64)))] [] 0 (fun r o => r = iV .i64 t237 ∧ o = [])] (by kernel_rfl) ⟨by exact Try.call52, by exact f_cmp_Compare_int64.ok a0.f1.f0 a1.f1.f0 t233 e234, by exact Try.call53, by exact f_cmp_Compare_int.ok a0.f0 a1.f0 t235 e236, by exact rfl, by exact Try.call51, by exact f_cmp_Or_int.ok [t233, t235] t237 e238, trivial⟩ ?_
  refine AWp.conv (inv := []) (vk := []) (e0 := []) (t := ⟨[(4, iV .i64 t237)], [], 0⟩) (by kernel_rfl) ?_
  refine AWp.ret ?_
  obtain rfl := Option.some.inj H
  exact Exists.intro _ (And.intro (fun _ _ h => h) (And.intro (.inl rfl) (And.intro rfl (And.intro (by kernel_rfl) (by kernel_rfl)))))
def f_slices_insertionSortCmpFunc_plan_Item_plan_sorted_1.l1 (a1 : Int) (a2 : Int) (x312 : Int) (x352 : List Tplan_Item) (x353 : Int) : Option (List Tplan_Item) := ((if (decide (x353 > a1)) = true then ((at? x352 x353) >>= fun b364 => (at? x352 (IntKind.i64.wrap (x353 - (1 : Int)))) >>= fun b367 => (f_plan_sorted_1.f b364 b367) >>= fun t370 => some (decide (t370 < (0 : Int)))) else (some false)) : Option (Bool)) >>= fun x372 => if x372 = true then ((at? x352 (IntKind.i64.wrap (x353 - (1 : Int)))) >>= fun b383 => (at? x352 x353) >>= fun b386 => (at? (x352.set (Int.toNat (x353)) b383) (IntKind.i64.wrap (x353 - (1 : Int)))) >>= fun b389 => f_slices_insertionSortCmpFunc_plan_Item_plan_sorted_1.l1 a1 a2 x312 ((x352.set (Int.toNat (x353)) b383).set (Int.toNat (IntKind.i64.wrap (x353 - (1 : Int)))) b386) (IntKind.i64.wrap (x353 - (1 : Int)))) else (some x352)
partial_fixpoint
def f_slices_insertionSortCmpFunc_plan_Item_plan_sorted_1.l0 (a1 : Int) (a2 : Int) (x311 : List Tplan_Item) (x312 : Int) : Option (List Tplan_Item) := if (decide (x312 < a2)) = true then ((f_slices_insertionSortCmpFunc_plan_Item_plan_sorted_1.l1 a1 a2 x312 x311 x312) >>= fun x392 => f_slices_insertionSortCmpFunc_plan_Item_plan_sorted_1.l0 a1 a2 x392 (IntKind.i64.wrap (x312 + (1 : Int)))) else (some x311)
partial_fixpoint
def f_slices_insertionSortCmpFunc_plan_Item_plan_sorted_1.f (a0 : List Tplan_Item) (a1 : Int) (a2 : Int) : Option (List Tplan_Item) := (f_slices_insertionSortCmpFunc_plan_Item_plan_sorted_1.l0 a1 a2 a0 (IntKind.i64.wrap (a1 + (1 : Int)))) >>= fun x393 => some x393
theorem f_slices_insertionSortCmpFunc_plan_Item_plan_sorted_1.ok (a0 : List Tplan_Item) (a1 : Int) (a2 : Int) (r : List Tplan_Item) (H : f_slices_insertionSortCmpFunc_plan_Item_plan_sorted_1.f a0 a1 a2 = some r) : Pv.Fn Try.prog 104 [.own 0, iV .i64 a1, iV .i64 a2, .im (.sc (.func (.func 50) #[] #[]))] [(0, some (.row 4 89 (a0.map eplan_Item)))] 1 (fun x o => x = .tup [] ∧ o = [(0, some (.row 4 89 (r.map eplan_Item)))]) := by
  unfold f_slices_insertionSortCmpFunc_plan_Item_plan_sorted_1.f at H
  refine Fn.bodyK [0] Try.func104 rfl rfl (fun Γ hP hn => ?_)
  have hm : Try.prog.follows .mixedOrders = true := by kernel_rfl
  replace hn : Γ.n = 53 := hn
  refine AWp.seq ?_
  refine reg hP hn hm [] [0, 1, 2, 3, 8] [0] ⟨[(0, .own 0), (1, iV .i64 a1), (2, iV .i64 a2), (3, .im (.sc (.func (.func 50) #[] #[]))), (8, iV .i64 (IntKind.i64.wrap (a1 + (1 : Int))))], [(0, some (.row 4 89 (a0.map eplan_Item)))], 1⟩ [] (by kernel_rfl) trivial ?_
  refine AWp.block ?_
  obtain ⟨o394, e395, H⟩ := bind_of H
  refine AWp.loop (LWp.conv (inv := [(0, 0)]) (vk := []) (e0 := []) (t := ⟨[(0, .own 0), (1, iV .i64 a1), (2, iV .i64 a2), (3, .im (.sc (.func (.func 50) #[] #[]))), (8, iV .i64 (IntKind.i64.wrap (a1 + (1 : Int))))], [(0, some (.row 4 89 (a0.map eplan_Item)))], 1⟩) (by kernel_rfl) ?_)
  refine LWp.mono (Q := fun e s => (match (generalizing := false) o394 with | x393 => e = .exit 0 ∧ s = ⟨[], [(0, some (.row 4 89 (x393.map eplan_Item)))], 1⟩)) (LWp.cv (withBody (fun body hbody => ?_))) ?_
  · refine f_slices_insertionSortCmpFunc_plan_Item_plan_sorted_1.l0.partial_correctness a1 a2 (motive := fun x311 x312 o394 => LWp Γ body (fun e s => ∃ t, Cv Γ s t ∧ (match (generalizing := false) o394 with | x393 => e = .exit 0 ∧ t = ⟨[], [(0, some (.row 4 89 (x393.map eplan_Item)))], 1⟩)) ⟨[(0, .own 0), (1, iV .i64 a1), (2, iV .i64 a2), (3, .im (.sc (.func (.func 50) #[] #[]))), (8, iV .i64 x312)], [(0, some (.row 4 89 (x311.map eplan_Item)))], 1⟩) ?_ _ _ _ e395
    clear H e395 o394; intro self ih x311 x312 o394 H
    subst hbody
    refine LWp.round ?_
    refine AWp.seq ?_
    refine AWp.seq ?_
    refine reg hP hn hm [] [0, 1, 2, 3, 8, 14] [0] ⟨[(0, .own 0), (1, iV .i64 a1), (2, iV .i64 a2), (3, .im (.sc (.func (.func 50) #[] #[]))), (8, iV .i64 x312), (14, bV (decide (x312 < a2)))], [(0, some (.row 4 89 (x311.map eplan_Item)))], 1⟩ [] (by kernel_rfl) trivial ?_
    refine AWp.cond (decide (x312 < a2)) rfl (fun c313 => ?_) (fun c313 => ?_)
    · replace H := (ifT c313).symm.trans H
      refine AWp.skip ?_
      refine AWp.seq ?_
      refine AWp.block ?_
      refine AWp.seq ?_
      refine reg hP hn hm [] [0, 1, 2, 3, 8, 9] [0] ⟨[(0, .own 0), (1, iV .i64 a1), (2, iV .i64 a2), (3, .im (.sc (.func (.func 50) #[] #[]))), (8, iV .i64 x312), (9, iV .i64 x312)], [(0, some (.row 4 89 (x311.map eplan_Item)))], 1⟩ [] (by kernel_rfl) trivial ?_
      refine AWp.block ?_
      obtain ⟨o396, e397, H⟩ := bind_of H
      refine AWp.loop (LWp.conv (inv := [(0, 0)]) (vk := []) (e0 := []) (t := ⟨[(0, .own 0), (1, iV .i64 a1), (2, iV .i64 a2), (3, .im (.sc (.func (.func 50) #[] #[]))), (8, iV .i64 x312), (9, iV .i64 x312)], [(0, some (.row 4 89 (x311.map eplan_Item)))], 1⟩) (by kernel_rfl) ?_)
      refine LWp.mono (Q := fun e s => (match (generalizing := false) o396 with | x392 => e = .exit 2 ∧ s = ⟨[(0, .own 0), (1, iV .i64 a1), (2, iV .i64 a2), (3, .im (.sc (.func (.func 50) #[] #[]))), (8, iV .i64 x312)], [(0, some (.row 4 89 (x392.map eplan_Item)))], 1⟩)) (LWp.cv (withBody (fun body hbody => ?_))) ?_
      · refine f_slices_insertionSortCmpFunc_plan_Item_plan_sorted_1.l1.partial_correctness a1 a2 x312 (motive := fun x352 x353 o396 => LWp Γ body (fun e s => ∃ t, Cv Γ s t ∧ (match (generalizing := false) o396 with | x392 => e = .exit 2 ∧ t = ⟨[(0, .own 0), (1, iV .i64 a1), (2, iV .i64 a2), (3, .im (.sc (.func (.func 50) #[] #[]))), (8, iV .i64 x312)], [(0, some (.row 4 89 (x392.map eplan_Item)))], 1⟩)) ⟨[(0, .own 0), (1, iV .i64 a1), (2, iV .i64 a2), (3, .im (.sc (.func (.func 50) #[] #[]))), (8, iV .i64 x312), (9, iV .i64 x353)], [(0, some (.row 4 89 (x352.map eplan_Item)))], 1⟩) ?_ _ _ _ e397
        clear H e397 o396; intro self ih x352 x353 o396 H
        subst hbody
        refine LWp.round ?_
        refine AWp.seq ?_
        refine AWp.seq ?_
        obtain ⟨o398, e399, H⟩ := bind_of H
        refine AWp.mono (Q := fun e s => (match (generalizing := false) o398 with | x372 => e = .normal ∧ s = ⟨[(0, .own 0), (1, iV .i64 a1), (2, iV .i64 a2), (3, .im (.sc (.func (.func 50) #[] #[]))), (8, iV .i64 x312), (9, iV .i64 x353), (34, bV x372)], [(0, some (.row 4 89 (x352.map eplan_Item)))], 1⟩)) (AWp.cv ?_) ?_
        · replace H := e399; clear e399
          rcases Bool.eq_false_or_eq_true (decide (x353 > a1)) with c363 | c363
          · replace H := (ifT c363).symm.trans H
            obtain ⟨b364, p365, q366, H⟩ := at_of H
            obtain ⟨b367, p368, q369, H⟩ := at_of H
            obtain ⟨t370, e371, H⟩ := bind_of H
            refine reg hP hn hm [(3, .b true), (8, .c (eplan_Item b364)), (13, .c (eplan_Item b367)), (14, .call [] [] [] [] 0 (iV .i64 t370) [])] [0, 1, 2, 3, 8, 9, 22, 23, 24, 25, 26, 27, 28, 29, 30, 31, 32, 33, 34] [0] ⟨[(0, .own 0), (1, iV .i64 a1), (2, iV .i64 a2), (3, .im (.sc (.func (.func 50) #[] #[]))), (8, iV .i64 x312), (9, iV .i64 x353), (22, .im (.sc (.func (.func 50) #[] #[]))), (23, .own 0), (24, iV .i64 x353), (25, .ptr 0 (Int.toNat (x353)) 0), (26, .agg (apluvialref17_Item ⟨b364.f0, b364.f1.f0, b364.f1.f1, b364.f1.f2⟩)), (27, .own 0), (28, iV .i64 x353), (29, iV .i64 (IntKind.i64.wrap (x353 - (1 : Int)))), (30, .ptr 0 (Int.toNat (IntKind.i64.wrap (x353 - (1 : Int)))) 0), (31, .agg (apluvialref17_Item ⟨b367.f0, b367.f1.f0, b367.f1.f1, b367.f1.f2⟩)), (32, iV .i64 t370), (33, bV (decide (t370 < (0 : Int)))), (34, bV (decide (t370 < (0 : Int))))], [(0, some (.row 4 89 (x352.map eplan_Item)))], 1⟩ [(decide (x353 > a1)) = true, 0 ≤ x353, x353 < (((x352.map eplan_Item).length : Nat) : Int), (x352.map eplan_Item)[(Int.toNat (x353))]? = some (eplan_Item b364), 0 ≤ (IntKind.i64.wrap (x353 - (1 : Int))), IntKind.i64.wrap (x353 - (1 : Int)) < (((x352.map eplan_Item).length : Nat) : Int), (x352.map eplan_Item)[(Int.toNat (IntKind.i64.wrap (x353 - (1 : Int))))]? = some (eplan_Item b367), Enters Try.prog 50, Pv.Fn Try.prog 50 [.agg (apluvialref17_Item ⟨b364.f0, b364.f1.f0, b364.f1.f1, b364.f1.f2⟩), .agg (apluvialref17_Item ⟨b367.f0, b367.f1.f0, b367.f1.f1, b367.f1.f2⟩)] [] 0 (fun r o => r = iV .i64 t370 ∧ o = [])] (by kernel_rfl) ⟨by exact c363, by exact p365, by exact el_lt eplan_Item p365 q366, by exact el_map eplan_Item q366, by exact p368, by exact el_lt eplan_Item p368 q369, by exact el_map eplan_Item q369, by exact Try.call50, by exact f_plan_sorted_1.ok b364 b367 t370 e371, trivial⟩ ?_
            obtain rfl := Option.some.inj H
            exact Exists.intro _ (And.intro (fun _ _ h => h.conv (inv := [(0, 0)]) (vk := []) (e0 := []) (t := ⟨[(0, .own 0), (1, iV .i64 a1), (2, iV .i64 a2), (3, .im (.sc (.func (.func 50) #[] #[]))), (8, iV .i64 x312), (9, iV .i64 x353), (34, bV (decide (t370 < (0 : Int))))], [(0, some (.row 4 89 (x352.map eplan_Item)))], 1⟩) (by kernel_rfl)) (And.intro rfl rfl))
          · replace H := (ifF c363).symm.trans H
            refine reg hP hn hm [(3, .b false)] [0, 1, 2, 3, 8, 9, 34] [0] ⟨[(0, .own 0), (1, iV .i64 a1), (2, iV .i64 a2), (3, .im (.sc (.func (.func 50) #[] #[]))), (8, iV .i64 x312), (9, iV .i64 x353), (34, bV false)], [(0, some (.row 4 89 (x352.map eplan_Item)))], 1⟩ [(decide (x353 > a1)) = false] (by kernel_rfl) ⟨by exact c363, trivial⟩ ?_
            obtain rfl := Option.some.inj H
            exact Exists.intro _ (And.intro (fun _ _ h => h.conv (inv := [(0, 0)]) (vk := []) (e0 := []) (t := ⟨[(0, .own 0), (1, iV .i64 a1), (2, iV .i64 a2), (3, .im (.sc (.func (.func 50) #[] #[]))), (8, iV .i64 x312), (9, iV .i64 x353), (34, bV false)], [(0, some (.row 4 89 (x352.map eplan_Item)))], 1⟩) (by kernel_rfl)) (And.intro rfl rfl))
        · obtain ⟨x372, rfl⟩ : ∃ z, z = o398 := ⟨_, rfl⟩
          rintro e s ⟨rfl, rfl⟩
          refine AWp.cond x372 rfl (fun c373 => ?_) (fun c373 => ?_)
          · replace H := (ifT c373).symm.trans H
            refine AWp.skip ?_
            refine AWp.seq ?_
            refine AWp.block ?_
            obtain ⟨b383, p384, q385, H⟩ := at_of H
            obtain ⟨b386, p387, q388, H⟩ := at_of H
            obtain ⟨b389, p390, q391, H⟩ := at_of H
            refine reg hP hn hm [(9, .c (eplan_Item b383)), (13, .c (eplan_Item b386)), (15, .put (eplan_Item b386) ((x352.set (Int.toNat (x353)) b383).map eplan_Item)), (17, .put (eplan_Item b389) (((x352.set (Int.toNat (x353)) b383).set (Int.toNat (IntKind.i64.wrap (x353 - (1 : Int)))) b386).map eplan_Item))] [0, 1, 2, 3, 8, 9] [0] ⟨[(0, .own 0), (1, iV .i64 a1), (2, iV .i64 a2), (3, .im (.sc (.func (.func 50) #[] #[]))), (8, iV .i64 x312), (9, iV .i64 x353)], [(0, some (.row 4 89 (((x352.set (Int.toNat (x353)) b383).set (Int.toNat (IntKind.i64.wrap (x353 - (1 : Int)))) b386).map eplan_Item)))], 1⟩ [0 ≤ (IntKind.i64.wrap (x353 - (1 : Int))), IntKind.i64.wrap (x353 - (1 : Int)) < (((x352.map eplan_Item).length : Nat) : Int), (x352.map eplan_Item)[(Int.toNat (IntKind.i64.wrap (x353 - (1 : Int))))]? = some (eplan_Item b383), 0 ≤ x353, x353 < (((x352.map eplan_Item).length : Nat) : Int), (x352.map eplan_Item)[(Int.toNat (x353))]? = some (eplan_Item b386), 0 ≤ x353, x353 < (((x352.map eplan_Item).length : Nat) : Int), (x352.map eplan_Item)[(Int.toNat (x353))]? = some (eplan_Item b386), (x352.set (Int.toNat (x353)) b383).map eplan_Item = (x352.map eplan_Item).set (Int.toNat (x353)) (splice (eplan_Item b386) 0 [iI .i64 b383.f0, iI .i64 b383.f1.f0, iI .i64 b383.f1.f1, iI .i64 b383.f1.f2]), 0 ≤ (IntKind.i64.wrap (x353 - (1 : Int))), IntKind.i64.wrap (x353 - (1 : Int)) < ((((x352.set (Int.toNat (x353)) b383).map eplan_Item).length : Nat) : Int), ((x352.set (Int.toNat (x353)) b383).map eplan_Item)[(Int.toNat (IntKind.i64.wrap (x353 - (1 : Int))))]? = some (eplan_Item b389), ((x352.set (Int.toNat (x353)) b383).set (Int.toNat (IntKind.i64.wrap (x353 - (1 : Int)))) b386).map eplan_Item = ((x352.set (Int.toNat (x353)) b383).map eplan_Item).set (Int.toNat (IntKind.i64.wrap (x353 - (1 : Int)))) (splice (eplan_Item b389) 0 [iI .i64 b386.f0, iI .i64 b386.f1.f0, iI .i64 b386.f1.f1, iI .i64 b386.f1.f2])] (by kernel_rfl) ⟨by exact p384, by exact el_lt eplan_Item p384 q385, by exact el_map eplan_Item q385, by exact p387, by exact el_lt eplan_Item p387 q388, by exact el_map eplan_Item q388, by exact p387, by exact el_lt eplan_Item p387 q388, by exact el_map eplan_Item q388, by exact set1 _ _ _ _, by exact p390, by exact el_lt eplan_Item p390 q391, by exact el_map eplan_Item q391, by exact set1 _ _ _ _, trivial⟩ ?_
            refine reg hP hn hm [] [0, 1, 2, 3, 8, 9] [0] ⟨[(0, .own 0), (1, iV .i64 a1), (2, iV .i64 a2), (3, .im (.sc (.func (.func 50) #[] #[]))), (8, iV .i64 x312), (9, iV .i64 (IntKind.i64.wrap (x353 - (1 : Int))))], [(0, some (.row 4 89 (((x352.set (Int.toNat (x353)) b383).set (Int.toNat (IntKind.i64.wrap (x353 - (1 : Int)))) b386).map eplan_Item)))], 1⟩ [] (by kernel_rfl) trivial ?_
            exact LWp.conv (inv := [(0, 0)]) (vk := []) (e0 := []) (t := ⟨[(0, .own 0), (1, iV .i64 a1), (2, iV .i64 a2), (3, .im (.sc (.func (.func 50) #[] #[]))), (8, iV .i64 x312), (9, iV .i64 (IntKind.i64.wrap (x353 - (1 : Int))))], [(0, some (.row 4 89 (((x352.set (Int.toNat (x353)) b383).set (Int.toNat (IntKind.i64.wrap (x353 - (1 : Int)))) b386).map eplan_Item)))], 1⟩) (by kernel_rfl) (ih _ _ _ H)
          · replace H := (ifF c373).symm.trans H
            refine AWp.exit ?_
            obtain rfl := Option.some.inj H
            exact Exists.intro _ (And.intro (fun _ _ h => h.conv (inv := [(0, 0)]) (vk := []) (e0 := []) (t := ⟨[(0, .own 0), (1, iV .i64 a1), (2, iV .i64 a2), (3, .im (.sc (.func (.func 50) #[] #[]))), (8, iV .i64 x312)], [(0, some (.row 4 89 (x352.map eplan_Item)))], 1⟩) (by kernel_rfl)) (And.intro rfl rfl))
      · obtain ⟨x392, rfl⟩ : ∃ z, z = o396 := ⟨_, rfl⟩
        rintro e s ⟨rfl, rfl⟩
        refine reg hP hn hm [] [0, 1, 2, 3, 8] [0] ⟨[(0, .own 0), (1, iV .i64 a1), (2, iV .i64 a2), (3, .im (.sc (.func (.func 50) #[] #[]))), (8, iV .i64 (IntKind.i64.wrap (x312 + (1 : Int))))], [(0, some (.row 4 89 (x392.map eplan_Item)))], 1⟩ [] (by kernel_rfl) trivial ?_
        exact LWp.conv (inv := [(0, 0)]) (vk := []) (e0 := []) (t := ⟨[(0, .own 0), (1, iV .i64 a1), (2, iV .i64 a2), (3, .im (.sc (.func (.func 50) #[] #[]))), (8, iV .i64 (IntKind.i64.wrap (x312 + (1 : Int))))], [(0, some (.row 4 89 (x392.map eplan_Item)))], 1⟩) (by kernel_rfl) (ih _ _ _ H)
    · replace H := (ifF c313).symm.trans H
      refine AWp.exit ?_
      obtain rfl := Option.some.inj H
      exact Exists.intro _ (And.intro (fun _ _ h => h.conv (inv := [(0, 0)]) (vk := []) (e0 := []) (t := ⟨[], [(0, some (.row 4 89 (x311.map eplan_Item)))], 1⟩) (by kernel_rfl)) (And.intro rfl rfl))
  · obtain ⟨x393, rfl⟩ : ∃ z, z = o394 := ⟨_, rfl⟩
    rintro e s ⟨rfl, rfl⟩
    obtain rfl := Option.some.inj H
    exact Exists.intro ⟨[], [(0, some (.row 4 89 (x393.map eplan_Item)))], 1⟩ (And.intro (fun _ _ h => h.conv (inv := [(0, 0)]) (vk := []) (e0 := []) (t := ⟨[], [(0, some (.row 4 89 (x393.map eplan_Item)))], 1⟩) (by kernel_rfl)) (And.intro (.inr rfl) (And.intro rfl (And.intro (by kernel_rfl) (by kernel_rfl)))))
def f_slices_siftDownCmpFunc_plan_Item_plan_sorted_1.l0 (a2 : Int) (a3 : Int) (x451 : List Tplan_Item) (x452 : Int) : Option ((List Tplan_Item) ⊕ (List Tplan_Item)) := if (decide ((IntKind.i64.wrap ((IntKind.i64.wrap ((2 : Int) * x452)) + (1 : Int))) ≥ a2)) = true then (some (.inr x451)) else (((if (decide ((IntKind.i64.wrap ((IntKind.i64.wrap ((IntKind.i64.wrap ((2 : Int) * x452)) + (1 : Int))) + (1 : Int))) < a2)) = true then ((at? x451 (IntKind.i64.wrap (a3 + (IntKind.i64.wrap ((IntKind.i64.wrap ((2 : Int) * x452)) + (1 : Int)))))) >>= fun b464 => (at? x451 (IntKind.i64.wrap ((IntKind.i64.wrap (a3 + (IntKind.i64.wrap ((IntKind.i64.wrap ((2 : Int) * x452)) + (1 : Int))))) + (1 : Int)))) >>= fun b467 => (f_plan_sorted_1.f b464 b467) >>= fun t470 => some (decide (t470 < (0 : Int)))) else (some false)) : Option (Bool)) >>= fun x472 => ((if x472 = true then (some (IntKind.i64.wrap ((IntKind.i64.wrap ((IntKind.i64.wrap ((2 : Int) * x452)) + (1 : Int))) + (1 : Int)))) else (some (IntKind.i64.wrap ((IntKind.i64.wrap ((2 : Int) * x452)) + (1 : Int))))) : Option (Int)) >>= fun x474 => (at? x451 (IntKind.i64.wrap (a3 + x452))) >>= fun b483 => (at? x451 (IntKind.i64.wrap (a3 + x474))) >>= fun b486 => (f_plan_sorted_1.f b483 b486) >>= fun t489 => if (!(decide (t489 < (0 : Int)))) = true then (some (.inl x451)) else ((at? (x451.set (Int.toNat (IntKind.i64.wrap (a3 + x452))) b486) (IntKind.i64.wrap (a3 + x474))) >>= fun b495 => f_slices_siftDownCmpFunc_plan_Item_plan_sorted_1.l0 a2 a3 ((x451.set (Int.toNat (IntKind.i64.wrap (a3 + x452))) b486).set (Int.toNat (IntKind.i64.wrap (a3 + x474))) b483) x474))
partial_fixpoint
def f_slices_siftDownCmpFunc_plan_Item_plan_sorted_1.f (a0 : List Tplan_Item) (a1 : Int) (a2 : Int) (a3 : Int) : Option (List Tplan_Item) := (f_slices_siftDownCmpFunc_plan_Item_plan_sorted_1.l0 a2 a3 a0 a1) >>= fun oo => match oo with | .inl rr => (some rr) | .inr x498 => (some x498)
theorem f_slices_siftDownCmpFunc_plan_Item_plan_sorted_1.ok (a0 : List Tplan_Item) (a1 : Int) (a2 : Int) (a3 : Int) (r : List Tplan_Item) (H : f_slices_siftDownCmpFunc_plan_Item_plan_sorted_1.f a0 a1 a2 a3 = some r) : Pv.Fn Try.prog 124 [.own 0, iV .i64 a1, iV .i64 a2, iV .i64 a3, .im (.sc (.func (.func 50) #[] #[]))] [(0, some (.row 4 89 (a0.map eplan_Item)))] 1 (fun x o => x = .tup [] ∧ o = [(0, some (.row 4 89 (r.map eplan_Item)))]) := by
  unfold f_slices_siftDownCmpFunc_plan_Item_plan_sorted_1.f at H
  refine Fn.bodyK [0] Try.func124 rfl rfl (fun Γ hP hn => ?_)
  have hm : Try.prog.follows .mixedOrders = true := by kernel_rfl
  replace hn : Γ.n = 82 := hn
  refine AWp.seq ?_
  refine reg hP hn hm [] [0, 2, 3, 4, 10] [0] ⟨[(0, .own 0), (2, iV .i64 a2), (3, iV .i64 a3), (4, .im (.sc (.func (.func 50) #[] #[]))), (10, iV .i64 a1)], [(0, some (.row 4 89 (a0.map eplan_Item)))], 1⟩ [] (by kernel_rfl) trivial ?_
  refine AWp.block ?_
  obtain ⟨o499, e500, H⟩ := bind_of H
  refine AWp.loop (LWp.conv (inv := [(0, 0)]) (vk := []) (e0 := []) (t := ⟨[(0, .own 0), (2, iV .i64 a2), (3, iV .i64 a3), (4, .im (.sc (.func (.func 50) #[] #[]))), (10, iV .i64 a1)], [(0, some (.row 4 89 (a0.map eplan_Item)))], 1⟩) (by kernel_rfl) ?_)
  refine LWp.mono (Q := fun e s => (match (generalizing := false) o499 with | .inl rr => e = .ret ∧ s.floor = 1 ∧ resOf Try.prog Try.f124 s = some (.tup []) ∧ ([(0, s.obj 0)] : List (Nat × Option MObj)) = [(0, some (.row 4 89 (rr.map eplan_Item)))] | .inr x498 => e = .exit 0 ∧ s = ⟨[], [(0, some (.row 4 89 (x498.map eplan_Item)))], 1⟩)) (LWp.cv (withBody (fun body hbody => ?_))) ?_
  · refine f_slices_siftDownCmpFunc_plan_Item_plan_sorted_1.l0.partial_correctness a2 a3 (motive := fun x451 x452 o499 => LWp Γ body (fun e s => ∃ t, Cv Γ s t ∧ (match (generalizing := false) o499 with | .inl rr => e = .ret ∧ t.floor = 1 ∧ resOf Try.prog Try.f124 t = some (.tup []) ∧ ([(0, t.obj 0)] : List (Nat × Option MObj)) = [(0, some (.row 4 89 (rr.map eplan_Item)))] | .inr x498 => e = .exit 0 ∧ t = ⟨[], [(0, some (.row 4 89 (x498.map eplan_Item)))], 1⟩)) ⟨[(0, .own 0), (2, iV .i64 a2), (3, iV .i64 a3), (4, .im (.sc (.func (.func 50) #[] #[]))), (10, iV .i64 x452)], [(0, some (.row 4 89 (x451.map eplan_Item)))], 1⟩) ?_ _ _ _ e500
    clear H e500 o499; intro self ih x451 x452 o499 H
    subst hbody
    refine LWp.round ?_
    refine AWp.block ?_
    refine AWp.seq ?_
    refine reg hP hn hm [] [0, 2, 3, 4, 10, 11] [0] ⟨[(0, .own 0), (2, iV .i64 a2), (3, iV .i64 a3), (4, .im (.sc (.func (.func 50) #[] #[]))), (10, iV .i64 x452), (11, iV .i64 (IntKind.i64.wrap ((IntKind.i64.wrap ((2 : Int) * x452)) + (1 : Int))))], [(0, some (.row 4 89 (x451.map eplan_Item)))], 1⟩ [] (by kernel_rfl) trivial ?_
    refine AWp.seq ?_
    refine AWp.seq ?_
    refine reg hP hn hm [] [0, 2, 3, 4, 10, 11, 18] [0] ⟨[(0, .own 0), (2, iV .i64 a2), (3, iV .i64 a3), (4, .im (.sc (.func (.func 50) #[] #[]))), (10, iV .i64 x452), (11, iV .i64 (IntKind.i64.wrap ((IntKind.i64.wrap ((2 : Int) * x452)) + (1 : Int)))), (18, bV (decide ((IntKind.i64.wrap ((IntKind.i64.wrap ((2 : Int) * x452)) + (1 : Int))) ≥ a2)))], [(0, some (.row 4 89 (x451.map eplan_Item)))], 1⟩ [] (by kernel_rfl) trivial ?_
    refine AWp.cond (decide ((IntKind.i64.wrap ((IntKind.i64.wrap ((2 : Int) * x452)) + (1 : Int))) ≥ a2)) rfl (fun c453 => ?_) (fun c453 => ?_)
    · replace H := (ifT c453).symm.trans H
      refine AWp.exit ?_
      obtain rfl := Option.some.inj H
      exact Exists.intro _ (And.intro (fun _ _ h => h.conv (inv := [(0, 0)]) (vk := []) (e0 := []) (t := ⟨[], [(0, some (.row 4 89 (x451.map eplan_Item)))], 1⟩) (by kernel_rfl)) (And.intro rfl rfl))
    · replace H := (ifF c453).symm.trans H
      refine AWp.skip ?_
      refine AWp.seq ?_
      refine AWp.seq ?_
      obtain ⟨o501, e502, H⟩ := bind_of H
      refine AWp.mono (Q := fun e s => (match (generalizing := false) o501 with | x472 => e = .normal ∧ s = ⟨[(0, .own 0), (2, iV .i64 a2), (3, iV .i64 a3), (4, .im (.sc (.func (.func 50) #[] #[]))), (10, iV .i64 x452), (11, iV .i64 (IntKind.i64.wrap ((IntKind.i64.wrap ((2 : Int) * x452)) + (1 : Int)))), (40, bV x472)], [(0, some (.row 4 89 (x451.map eplan_Item)))], 1⟩)) (AWp.cv ?_) ?_
      · replace H := e502; clear e502
        rcases Bool.eq_false_or_eq_true (decide ((IntKind.i64.wrap ((IntKind.i64.wrap ((IntKind.i64.wrap ((2 : Int) * x452)) + (1 : Int))) + (1 : Int))) < a2)) with c463 | c463
        · replace H := (ifT c463).symm.trans H
          obtain ⟨b464, p465, q466, H⟩ := at_of H
          obtain ⟨b467, p468, q469, H⟩ := at_of H
          obtain ⟨t470, e471, H⟩ := bind_of H
          refine reg hP hn hm [(4, .b true), (11, .c (eplan_Item b464)), (18, .c (eplan_Item b467)), (19, .call [] [] [] [] 0 (iV .i64 t470) [])] [0, 2, 3, 4, 10, 11, 24, 25, 26, 27, 28, 29, 30, 31, 32, 33, 34, 35, 36, 37, 38, 39, 40] [0] ⟨[(0, .own 0), (2, iV .i64 a2), (3, iV .i64 a3), (4, .im (.sc (.func (.func 50) #[] #[]))), (10, iV .i64 x452), (11, iV .i64 (IntKind.i64.wrap ((IntKind.i64.wrap ((2 : Int) * x452)) + (1 : Int)))), (24, .im (.sc (.func (.func 50) #[] #[]))), (25, .own 0), (26, iV .i64 a3), (27, iV .i64 (IntKind.i64.wrap ((IntKind.i64.wrap ((2 : Int) * x452)) + (1 : Int)))), (28, iV .i64 (IntKind.i64.wrap (a3 + (IntKind.i64.wrap ((IntKind.i64.wrap ((2 : Int) * x452)) + (1 : Int)))))), (29, .ptr 0 (Int.toNat (IntKind.i64.wrap (a3 + (IntKind.i64.wrap ((IntKind.i64.wrap ((2 : Int) * x452)) + (1 : Int)))))) 0), (30, .agg (apluvialref17_Item ⟨b464.f0, b464.f1.f0, b464.f1.f1, b464.f1.f2⟩)), (31, .own 0), (32, iV .i64 a3), (33, iV .i64 (IntKind.i64.wrap ((IntKind.i64.wrap ((2 : Int) * x452)) + (1 : Int)))), (34, iV .i64 (IntKind.i64.wrap (a3 + (IntKind.i64.wrap ((IntKind.i64.wrap ((2 : Int) * x452)) + (1 : Int)))))), (35, iV .i64 (IntKind.i64.wrap ((IntKind.i64.wrap (a3 + (IntKind.i64.wrap ((IntKind.i64.wrap ((2 : Int) * x452)) + (1 : Int))))) + (1 : Int)))), (36, .ptr 0 (Int.toNat (IntKind.i64.wrap ((IntKind.i64.wrap (a3 + (IntKind.i64.wrap ((IntKind.i64.wrap ((2 : Int) * x452)) + (1 : Int))))) + (1 : Int)))) 0), (37, .agg (apluvialref17_Item ⟨b467.f0, b467.f1.f0, b467.f1.f1, b467.f1.f2⟩)), (38, iV .i64 t470), (39, bV (decide (t470 < (0 : Int)))), (40, bV (decide (t470 < (0 : Int))))], [(0, some (.row 4 89 (x451.map eplan_Item)))], 1⟩ [(decide ((IntKind.i64.wrap ((IntKind.i64.wrap ((IntKind.i64.wrap ((2 : Int) * x452)) + (1 : Int))) + (1 : Int))) < a2)) = true, 0 ≤ (IntKind.i64.wrap (a3 + (IntKind.i64.wrap ((IntKind.i64.wrap ((2 : Int) * x452)) + (1 : Int))))), IntKind.i64.wrap (a3 + (IntKind.i64.wrap ((IntKind.i64.wrap ((2 : Int) * x452)) + (1 : Int)))) < (((x451.map eplan_Item).length : Nat) : Int), (x451.map eplan_Item)[(Int.toNat (IntKind.i64.wrap (a3 + (IntKind.i64.wrap ((IntKind.i64.wrap ((2 : Int) * x452)) + (1 : Int))))))]? = some (eplan_Item b464), 0 ≤ (IntKind.i64.wrap ((IntKind.i64.wrap (a3 + (IntKind.i64.wrap ((IntKind.i64.wrap ((2 : Int) * x452)) + (1 : Int))))) + (1 : Int))), IntKind.i64.wrap ((IntKind.i64.wrap (a3 + (IntKind.i64.wrap ((IntKind.i64.wrap ((2 : Int) * x452)) + (1 : Int))))) + (1 : Int)) < (((x451.map eplan_Item).length : Nat) : Int), (x451.map eplan_Item)[(Int.toNat (IntKind.i64.wrap ((IntKind.i64.wrap (a3 + (IntKind.i64.wrap ((IntKind.i64.wrap ((2 : Int) * x452)) + (1 : Int))))) + (1 : Int))))]? = some (eplan_Item b467), Enters Try.prog 50, Pv.Fn Try.prog 50 [.agg (apluvialref17_Item ⟨b464.f0, b464.f1.f0, b464.f1.f1, b464.f1.f2⟩), .agg (apluvialref17_Item ⟨b467.f0, b467.f1.f0, b467.f1.f1, b467.f1.f2⟩)] [] 0 (fun r o => r = iV .i64 t470 ∧ o = [])] (by kernel_rfl) ⟨by exact c463, by exact p465, by exact el_lt eplan_Item p465 q466, by exact el_map eplan_Item q466, by exact p468, by exact el_lt eplan_Item p468 q469, by exact el_map eplan_Item q469, by exact Try.call50, by exact f_plan_sorted_1.ok b464 b467 t470 e471, trivial⟩ ?_
          obtain rfl := Option.some.inj H
          exact Exists.intro _ (And.intro (fun _ _ h => h.conv (inv := [(0, 0)]) (vk := []) (e0 := []) (t := ⟨[(0, .own 0), (2, iV .i64 a2), (3, iV .i64 a3), (4, .im (.sc (.func (.func 50) #[] #[]))), (10, iV .i64 x452), (11, iV .i64 (IntKind.i64.wrap ((IntKind.i64.wrap ((2 : Int) * x452)) + (1 : Int)))), (40, bV (decide (t470 < (0 : Int))))], [(0, some (.row 4 89 (x451.map eplan_Item)))], 1⟩) (by kernel_rfl)) (And.intro rfl rfl))
        · replace H := (ifF c463).symm.trans H
          refine reg hP hn hm [(4, .b false)] [0, 2, 3, 4, 10, 11, 40] [0] ⟨[(0, .own 0), (2, iV .i64 a2), (3, iV .i64 a3), (4, .im (.sc (.func (.func 50) #[] #[]))), (10, iV .i64 x452), (11, iV .i64 (IntKind.i64.wrap ((IntKind.i64.wrap ((2 : Int) * x452)) + (1 : Int)))), (40, bV false)], [(0, some (.row 4 89 (x451.map eplan_Item)))], 1⟩ [(decide ((IntKind.i64.wrap ((IntKind.i64.wrap ((IntKind.i64.wrap ((2 : Int) * x452)) + (1 : Int))) + (1 : Int))) < a2)) = false] (by kernel_rfl) ⟨by exact c463, trivial⟩ ?_
          obtain rfl := Option.some.inj H
          exact Exists.intro _ (And.intro (fun _ _ h => h.conv (inv := [(0, 0)]) (vk := []) (e0 := []) (t := ⟨[(0, .own 0), (2, iV .i64 a2), (3, iV .i64 a3), (4, .im (.sc (.func (.func 50) #[] #[]))), (10, iV .i64 x452), (11, iV .i64 (IntKind.i64.wrap ((IntKind.i64.wrap ((2 : Int) * x452)) + (1 : Int)))), (40, bV false)], [(0, some (.row 4 89 (x451.map eplan_Item)))], 1⟩) (by kernel_rfl)) (And.intro rfl rfl))
      · obtain ⟨x472, rfl⟩ : ∃ z, z = o501 := ⟨_, rfl⟩
        rintro e s ⟨rfl, rfl⟩
        obtain ⟨o503, e504, H⟩ := bind_of H
        refine AWp.mono (Q := fun e s => (match (generalizing := false) o503 with | x474 => e = .normal ∧ s = ⟨[(0, .own 0), (2, iV .i64 a2), (3, iV .i64 a3), (4, .im (.sc (.func (.func 50) #[] #[]))), (10, iV .i64 x452), (11, iV .i64 x474)], [(0, some (.row 4 89 (x451.map eplan_Item)))], 1⟩)) (AWp.cv ?_) ?_
        · replace H := e504; clear e504
          refine AWp.cond x472 rfl (fun c473 => ?_) (fun c473 => ?_)
          · replace H := (ifT c473).symm.trans H
            refine reg hP hn hm [] [0, 2, 3, 4, 10, 11] [0] ⟨[(0, .own 0), (2, iV .i64 a2), (3, iV .i64 a3), (4, .im (.sc (.func (.func 50) #[] #[]))), (10, iV .i64 x452), (11, iV .i64 (IntKind.i64.wrap ((IntKind.i64.wrap ((IntKind.i64.wrap ((2 : Int) * x452)) + (1 : Int))) + (1 : Int))))], [(0, some (.row 4 89 (x451.map eplan_Item)))], 1⟩ [] (by kernel_rfl) trivial ?_
            obtain rfl := Option.some.inj H
            exact Exists.intro _ (And.intro (fun _ _ h => h.conv (inv := [(0, 0)]) (vk := []) (e0 := []) (t := ⟨[(0, .own 0), (2, iV .i64 a2), (3, iV .i64 a3), (4, .im (.sc (.func (.func 50) #[] #[]))), (10, iV .i64 x452), (11, iV .i64 (IntKind.i64.wrap ((IntKind.i64.wrap ((IntKind.i64.wrap ((2 : Int) * x452)) + (1 : Int))) + (1 : Int))))], [(0, some (.row 4 89 (x451.map eplan_Item)))], 1⟩) (by kernel_rfl)) (And.intro rfl rfl))
          · replace H := (ifF c473).symm.trans H
            refine AWp.skip ?_
            obtain rfl := Option.some.inj H
            exact Exists.intro _ (And.intro (fun _ _ h => h.conv (inv := [(0, 0)]) (vk := []) (e0 := []) (t := ⟨[(0, .own 0), (2, iV .i64 a2), (3, iV .i64 a3), (4, .im (.sc (.func (.func 50) #[] #[]))), (10, iV .i64 x452), (11, iV .i64 (IntKind.i64.wrap ((IntKind.i64.wrap ((2 : Int) * x452)) + (1 : Int))))], [(0, some (.row 4 89 (x451.map eplan_Item)))], 1⟩) (by kernel_rfl)) (And.intro rfl rfl))
        · obtain ⟨x474, rfl⟩ : ∃ z, z = o503 := ⟨_, rfl⟩
          rintro e s ⟨rfl, rfl⟩
          refine AWp.seq ?_
          refine AWp.seq ?_
          obtain ⟨b483, p484, q485, H⟩ := at_of H
          obtain ⟨b486, p487, q488, H⟩ := at_of H
          obtain ⟨t489, e490, H⟩ := bind_of H
          refine reg hP hn hm [(6, .c (eplan_Item b483)), (12, .c (eplan_Item b486)), (13, .call [] [] [] [] 0 (iV .i64 t489) [])] [0, 2, 3, 4, 10, 11, 58] [0] ⟨[(0, .own 0), (2, iV .i64 a2), (3, iV .i64 a3), (4, .im (.sc (.func (.func 50) #[] #[]))), (10, iV .i64 x452), (11, iV .i64 x474), (58, bV (!(decide (t489 < (0 : Int)))))], [(0, some (.row 4 89 (x451.map eplan_Item)))], 1⟩ [0 ≤ (IntKind.i64.wrap (a3 + x452)), IntKind.i64.wrap (a3 + x452) < (((x451.map eplan_Item).length : Nat) : Int), (x451.map eplan_Item)[(Int.toNat (IntKind.i64.wrap (a3 + x452)))]? = some (eplan_Item b483), 0 ≤ (IntKind.i64.wrap (a3 + x474)), IntKind.i64.wrap (a3 + x474) < (((x451.map eplan_Item).length : Nat) : Int), (x451.map eplan_Item)[(Int.toNat (IntKind.i64.wrap (a3 + x474)))]? = some (eplan_Item b486), Enters Try.prog 50, Pv.Fn Try.prog 50 [.agg (apluvialref17_Item ⟨b483.f0, b483.f1.f0, b483.f1.f1, b483.f1.f2⟩), .agg (apluvialref17_Item ⟨b486.f0, b486.f1.f0, b486.f1.f1, b486.f1.f2⟩)] [] 0 (fun r o => r = iV .i64 t489 ∧ o = [])] (by kernel_rfl) ⟨by exact p484, by exact el_lt eplan_Item p484 q485, by exact el_map eplan_Item q485, by exact p487, by exact el_lt eplan_Item p487 q488, by exact el_map eplan_Item q488, by exact Try.call50, by exact f_plan_sorted_1.ok b483 b486 t489 e490, trivial⟩ ?_
          refine AWp.cond (!(decide (t489 < (0 : Int)))) rfl (fun c491 => ?_) (fun c491 => ?_)
          · replace H := (ifT c491).symm.trans H
            refine AWp.conv (inv := [(0, 0)]) (vk := []) (e0 := []) (t := ⟨[], [(0, some (.row 4 89 (x451.map eplan_Item)))], 1⟩) (by kernel_rfl) ?_
            refine AWp.ret ?_
            obtain rfl := Option.some.inj H
            exact Exists.intro _ (And.intro (fun _ _ h => h) (And.intro rfl (And.intro rfl (And.intro (by kernel_rfl) (by kernel_rfl)))))
          · replace H := (ifF c491).symm.trans H
            refine AWp.skip ?_
            refine AWp.seq ?_
            obtain ⟨b495, p496, q497, H⟩ := at_of H
            refine reg hP hn hm [(13, .c (eplan_Item b486)), (19, .c (eplan_Item b483)), (21, .put (eplan_Item b483) ((x451.set (Int.toNat (IntKind.i64.wrap (a3 + x452))) b486).map eplan_Item)), (23, .put (eplan_Item b495) (((x451.set (Int.toNat (IntKind.i64.wrap (a3 + x452))) b486).set (Int.toNat (IntKind.i64.wrap (a3 + x474))) b483).map eplan_Item))] [0, 2, 3, 4, 11] [0] ⟨[(0, .own 0), (2, iV .i64 a2), (3, iV .i64 a3), (4, .im (.sc (.func (.func 50) #[] #[]))), (11, iV .i64 x474)], [(0, some (.row 4 89 (((x451.set (Int.toNat (IntKind.i64.wrap (a3 + x452))) b486).set (Int.toNat (IntKind.i64.wrap (a3 + x474))) b483).map eplan_Item)))], 1⟩ [0 ≤ (IntKind.i64.wrap (a3 + x474)), IntKind.i64.wrap (a3 + x474) < (((x451.map eplan_Item).length : Nat) : Int), (x451.map eplan_Item)[(Int.toNat (IntKind.i64.wrap (a3 + x474)))]? = some (eplan_Item b486), 0 ≤ (IntKind.i64.wrap (a3 + x452)), IntKind.i64.wrap (a3 + x452) < (((x451.map eplan_Item).length : Nat) : Int), (x451.map eplan_Item)[(Int.toNat (IntKind.i64.wrap (a3 + x452)))]? = some (eplan_Item b483), 0 ≤ (IntKind.i64.wrap (a3 + x452)), IntKind.i64.wrap (a3 + x452) < (((x451.map eplan_Item).length : Nat) : Int), (x451.map eplan_Item)[(Int.toNat (IntKind.i64.wrap (a3 + x452)))]? = some (eplan_Item b483), (x451.set (Int.toNat (IntKind.i64.wrap (a3 + x452))) b486).map eplan_Item = (x451.map eplan_Item).set (Int.toNat (IntKind.i64.wrap (a3 + x452))) (splice (eplan_Item b483) 0 [iI .i64 b486.f0, iI .i64 b486.f1.f0, iI .i64 b486.f1.f1, iI .i64 b486.f1.f2]), 0 ≤ (IntKind.i64.wrap (a3 + x474)), IntKind.i64.wrap (a3 + x474) < ((((x451.set (Int.toNat (IntKind.i64.wrap (a3 + x452))) b486).map eplan_Item).length : Nat) : Int), ((x451.set (Int.toNat (IntKind.i64.wrap (a3 + x452))) b486).map eplan_Item)[(Int.toNat (IntKind.i64.wrap (a3 + x474)))]? = some (eplan_Item b495), ((x451.set (Int.toNat (IntKind.i64.wrap (a3 + x452))) b486).set (Int.toNat (IntKind.i64.wrap (a3 + x474))) b483).map eplan_Item = ((x451.set (Int.toNat (IntKind.i64.wrap (a3 + x452))) b486).map eplan_Item).set (Int.toNat (IntKind.i64.wrap (a3 + x474))) (splice (eplan_Item b495) 0 [iI .i64 b483.f0, iI .i64 b483.f1.f0, iI .i64 b483.f1.f1, iI .i64 b483.f1.f2])] (by kernel_rfl) ⟨by exact p487, by exact el_lt eplan_Item p487 q488, by exact el_map eplan_Item q488, by exact p484, by exact el_lt eplan_Item p484 q485, by exact el_map eplan_Item q485, by exact p484, by exact el_lt eplan_Item p484 q485, by exact el_map eplan_Item q485, by exact set1 _ _ _ _, by exact p496, by exact el_lt eplan_Item p496 q497, by exact el_map eplan_Item q497, by exact set1 _ _ _ _, trivial⟩ ?_
            refine reg hP hn hm [] [0, 2, 3, 4, 10] [0] ⟨[(0, .own 0), (2, iV .i64 a2), (3, iV .i64 a3), (4, .im (.sc (.func (.func 50) #[] #[]))), (10, iV .i64 x474)], [(0, some (.row 4 89 (((x451.set (Int.toNat (IntKind.i64.wrap (a3 + x452))) b486).set (Int.toNat (IntKind.i64.wrap (a3 + x474))) b483).map eplan_Item)))], 1⟩ [] (by kernel_rfl) trivial ?_
            exact LWp.conv (inv := [(0, 0)]) (vk := []) (e0 := []) (t := ⟨[(0, .own 0), (2, iV .i64 a2), (3, iV .i64 a3), (4, .im (.sc (.func (.func 50) #[] #[]))), (10, iV .i64 x474)], [(0, some (.row 4 89 (((x451.set (Int.toNat (IntKind.i64.wrap (a3 + x452))) b486).set (Int.toNat (IntKind.i64.wrap (a3 + x474))) b483).map eplan_Item)))], 1⟩) (by kernel_rfl) (ih _ _ _ H)
  · rcases o499 with rr | x498
    · skip
      rintro e s ⟨rfl, hfl, hres⟩
      obtain rfl := Option.some.inj H
      exact Exists.intro _ (And.intro (fun _ _ h => h) (And.intro (.inl rfl) (And.intro hfl hres)))
    · skip
      rintro e s ⟨rfl, rfl⟩
      obtain rfl := Option.some.inj H
      exact Exists.intro ⟨[], [(0, some (.row 4 89 (x498.map eplan_Item)))], 1⟩ (And.intro (fun _ _ h => h.conv (inv := [(0, 0)]) (vk := []) (e0 := []) (t := ⟨[], [(0, some (.row 4 89 (x498.map eplan_Item)))], 1⟩) (by kernel_rfl)) (And.intro (.inr rfl) (And.intro rfl (And.intro (by kernel_rfl) (by kernel_rfl)))))
def f_slices_heapSortCmpFunc_plan_Item_plan_sorted_1.l0 (a1 : Int) (a2 : Int) (x509 : List Tplan_Item) (x510 : Int) : Option (List Tplan_Item) := if (decide (x510 ≥ (0 : Int))) = true then ((f_slices_siftDownCmpFunc_plan_Item_plan_sorted_1.f x509 x510 (IntKind.i64.wrap (a2 - a1)) a1) >>= fun t514 => f_slices_heapSortCmpFunc_plan_Item_plan_sorted_1.l0 a1 a2 t514 (IntKind.i64.wrap (x510 - (1 : Int)))) else (some x509)
partial_fixpoint
def f_slices_heapSortCmpFunc_plan_Item_plan_sorted_1.l1 (a1 : Int) (x540 : List Tplan_Item) (x541 : Int) : Option (List Tplan_Item) := if (decide (x541 ≥ (0 : Int))) = true then ((at? x540 (IntKind.i64.wrap (a1 + x541))) >>= fun b552 => (at? x540 a1) >>= fun b555 => (at? (x540.set (Int.toNat (a1)) b552) (IntKind.i64.wrap (a1 + x541))) >>= fun b558 => (f_slices_siftDownCmpFunc_plan_Item_plan_sorted_1.f ((x540.set (Int.toNat (a1)) b552).set (Int.toNat (IntKind.i64.wrap (a1 + x541))) b555) 0 x541 a1) >>= fun t563 => f_slices_heapSortCmpFunc_plan_Item_plan_sorted_1.l1 a1 t563 (IntKind.i64.wrap (x541 - (1 : Int)))) else (some x540)
partial_fixpoint
def f_slices_heapSortCmpFunc_plan_Item_plan_sorted_1.f (a0 : List Tplan_Item) (a1 : Int) (a2 : Int) : Option (List Tplan_Item) := (f_slices_heapSortCmpFunc_plan_Item_plan_sorted_1.l0 a1 a2 a0 (IntKind.i64.wrap (Int.tdiv (IntKind.i64.wrap ((IntKind.i64.wrap (a2 - a1)) - (1 : Int))) (2 : Int)))) >>= fun x516 => (f_slices_heapSortCmpFunc_plan_Item_plan_sorted_1.l1 a1 x516 (IntKind.i64.wrap ((IntKind.i64.wrap (a2 - a1)) - (1 : Int)))) >>= fun x565 => some x565
theorem f_slices_heapSortCmpFunc_plan_Item_plan_sorted_1.ok (a0 : List Tplan_Item) (a1 : Int) (a2 : Int) (r : List Tplan_Item) (H : f_slices_heapSortCmpFunc_plan_Item_plan_sorted_1.f a0 a1 a2 = some r) : Pv.Fn Try.prog 105 [.own 0, iV .i64 a1, iV .i64 a2, .im (.sc (.func (.func 50) #[] #[]))] [(0, some (.row 4 89 (a0.map eplan_Item)))] 1 (fun x o => x = .tup [] ∧ o = [(0, some (.row 4 89 (r.map eplan_Item)))]) := by
  unfold f_slices_heapSortCmpFunc_plan_Item_plan_sorted_1.f at H
  refine Fn.bodyK [0] Try.func105 rfl rfl (fun Γ hP hn => ?_)
  have hm : Try.prog.follows .mixedOrders = true := by kernel_rfl
  replace hn : Γ.n = 60 := hn
  refine AWp.seq ?_
  refine reg hP hn hm [] [0, 1, 2, 3, 8] [0] ⟨[(0, .own 0), (1, iV .i64 a1), (2, iV .i64 a2), (3, .im (.sc (.func (.func 50) #[] #[]))), (8, iV .i64 a1)], [(0, some (.row 4 89 (a0.map eplan_Item)))], 1⟩ [] (by kernel_rfl) trivial ?_
  refine AWp.seq ?_
  refine reg hP hn hm [] [0, 1, 2, 3, 8, 9] [0] ⟨[(0, .own 0), (1, iV .i64 a1), (2, iV .i64 a2), (3, .im (.sc (.func (.func 50) #[] #[]))), (8, iV .i64 a1), (9, iV .i64 0)], [(0, some (.row 4 89 (a0.map eplan_Item)))], 1⟩ [] (by kernel_rfl) trivial ?_
  refine AWp.seq ?_
  refine reg hP hn hm [] [0, 3, 8, 9, 10] [0] ⟨[(0, .own 0), (3, .im (.sc (.func (.func 50) #[] #[]))), (8, iV .i64 a1), (9, iV .i64 0), (10, iV .i64 (IntKind.i64.wrap (a2 - a1)))], [(0, some (.row 4 89 (a0.map eplan_Item)))], 1⟩ [] (by kernel_rfl) trivial ?_
  refine AWp.seq ?_
  refine AWp.seq ?_
  refine reg hP hn hm [] [0, 3, 8, 9, 10, 11] [0] ⟨[(0, .own 0), (3, .im (.sc (.func (.func 50) #[] #[]))), (8, iV .i64 a1), (9, iV .i64 0), (10, iV .i64 (IntKind.i64.wrap (a2 - a1))), (11, iV .i64 (IntKind.i64.wrap (Int.tdiv (IntKind.i64.wrap ((IntKind.i64.wrap (a2 - a1)) - (1 : Int))) (2 : Int))))], [(0, some (.row 4 89 (a0.map eplan_Item)))], 1⟩ [(2 : Int) ≠ 0] (by kernel_rfl) ⟨by decide, trivial⟩ ?_
  refine AWp.block ?_
  obtain ⟨o566, e567, H⟩ := bind_of H
  refine AWp.loop (LWp.conv (inv := [(0, 0)]) (vk := []) (e0 := []) (t := ⟨[(0, .own 0), (3, .im (.sc (.func (.func 50) #[] #[]))), (8, iV .i64 a1), (9, iV .i64 0), (10, iV .i64 (IntKind.i64.wrap (a2 - a1))), (11, iV .i64 (IntKind.i64.wrap (Int.tdiv (IntKind.i64.wrap ((IntKind.i64.wrap (a2 - a1)) - (1 : Int))) (2 : Int))))], [(0, some (.row 4 89 (a0.map eplan_Item)))], 1⟩) (by kernel_rfl) ?_)
  refine LWp.mono (Q := fun e s => (match (generalizing := false) o566 with | x516 => e = .exit 0 ∧ s = ⟨[(0, .own 0), (3, .im (.sc (.func (.func 50) #[] #[]))), (8, iV .i64 a1), (9, iV .i64 0), (10, iV .i64 (IntKind.i64.wrap (a2 - a1)))], [(0, some (.row 4 89 (x516.map eplan_Item)))], 1⟩)) (LWp.cv (withBody (fun body hbody => ?_))) ?_
  · refine f_slices_heapSortCmpFunc_plan_Item_plan_sorted_1.l0.partial_correctness a1 a2 (motive := fun x509 x510 o566 => LWp Γ body (fun e s => ∃ t, Cv Γ s t ∧ (match (generalizing := false) o566 with | x516 => e = .exit 0 ∧ t = ⟨[(0, .own 0), (3, .im (.sc (.func (.func 50) #[] #[]))), (8, iV .i64 a1), (9, iV .i64 0), (10, iV .i64 (IntKind.i64.wrap (a2 - a1)))], [(0, some (.row 4 89 (x516.map eplan_Item)))], 1⟩)) ⟨[(0, .own 0), (3, .im (.sc (.func (.func 50) #[] #[]))), (8, iV .i64 a1), (9, iV .i64 0), (10, iV .i64 (IntKind.i64.wrap (a2 - a1))), (11, iV .i64 x510)], [(0, some (.row 4 89 (x509.map eplan_Item)))], 1⟩) ?_ _ _ _ e567
    clear H e567 o566; intro self ih x509 x510 o566 H
    subst hbody
    refine LWp.round ?_
    refine AWp.seq ?_
    refine AWp.seq ?_
    refine reg hP hn hm [] [0, 3, 8, 9, 10, 11, 21] [0] ⟨[(0, .own 0), (3, .im (.sc (.func (.func 50) #[] #[]))), (8, iV .i64 a1), (9, iV .i64 0), (10, iV .i64 (IntKind.i64.wrap (a2 - a1))), (11, iV .i64 x510), (21, bV (decide (x510 ≥ (0 : Int))))], [(0, some (.row 4 89 (x509.map eplan_Item)))], 1⟩ [] (by kernel_rfl) trivial ?_
    refine AWp.cond (decide (x510 ≥ (0 : Int))) rfl (fun c511 => ?_) (fun c511 => ?_)
    · replace H := (ifT c511).symm.trans H
      refine AWp.skip ?_
      refine AWp.seq ?_
      refine AWp.block ?_
      obtain ⟨t514, e515, H⟩ := bind_of H
      refine reg hP hn hm [(5, .call [(0, 0)] [(0, 0)] [] [] 1 (.tup []) [(0, some (.row 4 89 (t514.map eplan_Item)))])] [0, 3, 8, 9, 10, 11] [0] ⟨[(0, .own 0), (3, .im (.sc (.func (.func 50) #[] #[]))), (8, iV .i64 a1), (9, iV .i64 0), (10, iV .i64 (IntKind.i64.wrap (a2 - a1))), (11, iV .i64 x510)], [(0, some (.row 4 89 (t514.map eplan_Item)))], 1⟩ [Enters Try.prog 124, Pv.Fn Try.prog 124 [.own 0, iV .i64 x510, iV .i64 (IntKind.i64.wrap (a2 - a1)), iV .i64 a1, .im (.sc (.func (.func 50) #[] #[]))] [(0, some (.row 4 89 (x509.map eplan_Item)))] 1 (fun r o => r = .tup [] ∧ o = [(0, some (.row 4 89 (t514.map eplan_Item)))])] (by kernel_rfl) ⟨by exact Try.call124, by exact f_slices_siftDownCmpFunc_plan_Item_plan_sorted_1.ok x509 x510 (IntKind.i64.wrap (a2 - a1)) a1 t514 e515, trivial⟩ ?_
      refine reg hP hn hm [] [0, 3, 8, 9, 10, 11] [0] ⟨[(0, .own 0), (3, .im (.sc (.func (.func 50) #[] #[]))), (8, iV .i64 a1), (9, iV .i64 0), (10, iV .i64 (IntKind.i64.wrap (a2 - a1))), (11, iV .i64 (IntKind.i64.wrap (x510 - (1 : Int))))], [(0, some (.row 4 89 (t514.map eplan_Item)))], 1⟩ [] (by kernel_rfl) trivial ?_
      exact LWp.conv (inv := [(0, 0)]) (vk := []) (e0 := []) (t := ⟨[(0, .own 0), (3, .im (.sc (.func (.func 50) #[] #[]))), (8, iV .i64 a1), (9, iV .i64 0), (10, iV .i64 (IntKind.i64.wrap (a2 - a1))), (11, iV .i64 (IntKind.i64.wrap (x510 - (1 : Int))))], [(0, some (.row 4 89 (t514.map eplan_Item)))], 1⟩) (by kernel_rfl) (ih _ _ _ H)
    · replace H := (ifF c511).symm.trans H
      refine AWp.exit ?_
      obtain rfl := Option.some.inj H
      exact Exists.intro _ (And.intro (fun _ _ h => h.conv (inv := [(0, 0)]) (vk := []) (e0 := []) (t := ⟨[(0, .own 0), (3, .im (.sc (.func (.func 50) #[] #[]))), (8, iV .i64 a1), (9, iV .i64 0), (10, iV .i64 (IntKind.i64.wrap (a2 - a1)))], [(0, some (.row 4 89 (x509.map eplan_Item)))], 1⟩) (by kernel_rfl)) (And.intro rfl rfl))
  · obtain ⟨x516, rfl⟩ : ∃ z, z = o566 := ⟨_, rfl⟩
    rintro e s ⟨rfl, rfl⟩
    refine AWp.seq ?_
    refine reg hP hn hm [] [0, 3, 8, 9, 12] [0] ⟨[(0, .own 0), (3, .im (.sc (.func (.func 50) #[] #[]))), (8, iV .i64 a1), (9, iV .i64 0), (12, iV .i64 (IntKind.i64.wrap ((IntKind.i64.wrap (a2 - a1)) - (1 : Int))))], [(0, some (.row 4 89 (x516.map eplan_Item)))], 1⟩ [] (by kernel_rfl) trivial ?_
    refine AWp.block ?_
    obtain ⟨o568, e569, H⟩ := bind_of H
    refine AWp.loop (LWp.conv (inv := [(0, 0)]) (vk := []) (e0 := []) (t := ⟨[(0, .own 0), (3, .im (.sc (.func (.func 50) #[] #[]))), (8, iV .i64 a1), (9, iV .i64 0), (12, iV .i64 (IntKind.i64.wrap ((IntKind.i64.wrap (a2 - a1)) - (1 : Int))))], [(0, some (.row 4 89 (x516.map eplan_Item)))], 1⟩) (by kernel_rfl) ?_)
    refine LWp.mono (Q := fun e s => (match (generalizing := false) o568 with | x565 => e = .exit 2 ∧ s = ⟨[], [(0, some (.row 4 89 (x565.map eplan_Item)))], 1⟩)) (LWp.cv (withBody (fun body hbody => ?_))) ?_
    · refine f_slices_heapSortCmpFunc_plan_Item_plan_sorted_1.l1.partial_correctness a1 (motive := fun x540 x541 o568 => LWp Γ body (fun e s => ∃ t, Cv Γ s t ∧ (match (generalizing := false) o568 with | x565 => e = .exit 2 ∧ t = ⟨[], [(0, some (.row 4 89 (x565.map eplan_Item)))], 1⟩)) ⟨[(0, .own 0), (3, .im (.sc (.func (.func 50) #[] #[]))), (8, iV .i64 a1), (9, iV .i64 0), (12, iV .i64 x541)], [(0, some (.row 4 89 (x540.map eplan_Item)))], 1⟩) ?_ _ _ _ e569
      clear H e569 o568; intro self ih x540 x541 o568 H
      subst hbody
      refine LWp.round ?_
      refine AWp.seq ?_
      refine AWp.seq ?_
      refine reg hP hn hm [] [0, 3, 8, 9, 12, 33] [0] ⟨[(0, .own 0), (3, .im (.sc (.func (.func 50) #[] #[]))), (8, iV .i64 a1), (9, iV .i64 0), (12, iV .i64 x541), (33, bV (decide (x541 ≥ (0 : Int))))], [(0, some (.row 4 89 (x540.map eplan_Item)))], 1⟩ [] (by kernel_rfl) trivial ?_
      refine AWp.cond (decide (x541 ≥ (0 : Int))) rfl (fun c542 => ?_) (fun c542 => ?_)
      · replace H := (ifT c542).symm.trans H
        refine AWp.skip ?_
        refine AWp.seq ?_
        refine AWp.block ?_
        refine AWp.seq ?_
        obtain ⟨b552, p553, q554, H⟩ := at_of H
        obtain ⟨b555, p556, q557, H⟩ := at_of H
        obtain ⟨b558, p559, q560, H⟩ := at_of H
        refine reg hP hn hm [(11, .c (eplan_Item b552)), (15, .c (eplan_Item b555)), (17, .put (eplan_Item b555) ((x540.set (Int.toNat (a1)) b552).map eplan_Item)), (19, .put (eplan_Item b558) (((x540.set (Int.toNat (a1)) b552).set (Int.toNat (IntKind.i64.wrap (a1 + x541))) b555).map eplan_Item))] [0, 3, 8, 9, 12] [0] ⟨[(0, .own 0), (3, .im (.sc (.func (.func 50) #[] #[]))), (8, iV .i64 a1), (9, iV .i64 0), (12, iV .i64 x541)], [(0, some (.row 4 89 (((x540.set (Int.toNat (a1)) b552).set (Int.toNat (IntKind.i64.wrap (a1 + x541))) b555).map eplan_Item)))], 1⟩ [0 ≤ (IntKind.i64.wrap (a1 + x541)), IntKind.i64.wrap (a1 + x541) < (((x540.map eplan_Item).length : Nat) : Int), (x540.map eplan_Item)[(Int.toNat (IntKind.i64.wrap (a1 + x541)))]? = some (eplan_Item b552), 0 ≤ a1, a1 < (((x540.map eplan_Item).length : Nat) : Int), (x540.map eplan_Item)[(Int.toNat (a1))]? = some (eplan_Item b555), 0 ≤ a1, a1 < (((x540.map eplan_Item).length : Nat) : Int), (x540.map eplan_Item)[(Int.toNat (a1))]? = some (eplan_Item b555), (x540.set (Int.toNat (a1)) b552).map eplan_Item = (x540.map eplan_Item).set (Int.toNat (a1)) (splice (eplan_Item b555) 0 [iI .i64 b552.f0, iI .i64 b552.f1.f0, iI .i64 b552.f1.f1, iI .i64 b552.f1.f2]), 0 ≤ (IntKind.i64.wrap (a1 + x541)), IntKind.i64.wrap (a1 + x541) < ((((x540.set (Int.toNat (a1)) b552).map eplan_Item).length : Nat) : Int), ((x540.set (Int.toNat (a1)) b552).map eplan_Item)[(Int.toNat (IntKind.i64.wrap (a1 + x541)))]? = some (eplan_Item b558), ((x540.set (Int.toNat (a1)) b552).set (Int.toNat (IntKind.i64.wrap (a1 + x541))) b555).map eplan_Item = ((x540.set (Int.toNat (a1)) b552).map eplan_Item).set (Int.toNat (IntKind.i64.wrap (a1 + x541))) (splice (eplan_Item b558) 0 [iI .i64 b555.f0, iI .i64 b555.f1.f0, iI .i64 b555.f1.f1, iI .i64 b555.f1.f2])] (by kernel_rfl) ⟨by exact p553, by exact el_lt eplan_Item p553 q554, by exact el_map eplan_Item q554, by exact p556, by exact el_lt eplan_Item p556 q557, by exact el_map eplan_Item q557, by exact p556, by exact el_lt eplan_Item p556 q557, by exact el_map eplan_Item q557, by exact set1 _ _ _ _, by exact p559, by exact el_lt eplan_Item p559 q560, by exact el_map eplan_Item q560, by exact set1 _ _ _ _, trivial⟩ ?_
        obtain ⟨t563, e564, H⟩ := bind_of H
        refine reg hP hn hm [(5, .call [(0, 0)] [(0, 0)] [] [] 1 (.tup []) [(0, some (.row 4 89 (t563.map eplan_Item)))])] [0, 3, 8, 9, 12] [0] ⟨[(0, .own 0), (3, .im (.sc (.func (.func 50) #[] #[]))), (8, iV .i64 a1), (9, iV .i64 0), (12, iV .i64 x541)], [(0, some (.row 4 89 (t563.map eplan_Item)))], 1⟩ [Enters Try.prog 124, Pv.Fn Try.prog 124 [.own 0, iV .i64 0, iV .i64 x541, iV .i64 a1, .im (.sc (.func (.func 50) #[] #[]))] [(0, some (.row 4 89 (((x540.set (Int.toNat (a1)) b552).set (Int.toNat (IntKind.i64.wrap (a1 + x541))) b555).map eplan_Item)))] 1 (fun r o => r = .tup [] ∧ o = [(0, some (.row 4 89 (t563.map eplan_Item)))])] (by kernel_rfl) ⟨by exact Try.call124, by exact f_slices_siftDownCmpFunc_plan_Item_plan_sorted_1.ok ((x540.set (Int.toNat (a1)) b552).set (Int.toNat (IntKind.i64.wrap (a1 + x541))) b555) 0 x541 a1 t563 e564, trivial⟩ ?_
        refine reg hP hn hm [] [0, 3, 8, 9, 12] [0] ⟨[(0, .own 0), (3, .im (.sc (.func (.func 50) #[] #[]))), (8, iV .i64 a1), (9, iV .i64 0), (12, iV .i64 (IntKind.i64.wrap (x541 - (1 : Int))))], [(0, some (.row 4 89 (t563.map eplan_Item)))], 1⟩ [] (by kernel_rfl) trivial ?_
        exact LWp.conv (inv := [(0, 0)]) (vk := []) (e0 := []) (t := ⟨[(0, .own 0), (3, .im (.sc (.func (.func 50) #[] #[]))), (8, iV .i64 a1), (9, iV .i64 0), (12, iV .i64 (IntKind.i64.wrap (x541 - (1 : Int))))], [(0, some (.row 4 89 (t563.map eplan_Item)))], 1⟩) (by kernel_rfl) (ih _ _ _ H)
      · replace H := (ifF c542).symm.trans H
        refine AWp.exit ?_
        obtain rfl := Option.some.inj H
        exact Exists.intro _ (And.intro (fun _ _ h => h.conv (inv := [(0, 0)]) (vk := []) (e0 := []) (t := ⟨[], [(0, some (.row 4 89 (x540.map eplan_Item)))], 1⟩) (by kernel_rfl)) (And.intro rfl rfl))
    · obtain ⟨x565, rfl⟩ : ∃ z, z = o568 := ⟨_, rfl⟩
      rintro e s ⟨rfl, rfl⟩
      obtain rfl := Option.some.inj H
      exact Exists.intro ⟨[], [(0, some (.row 4 89 (x565.map eplan_Item)))], 1⟩ (And.intro (fun _ _ h => h.conv (inv := [(0, 0)]) (vk := []) (e0 := []) (t := ⟨[], [(0, some (.row 4 89 (x565.map eplan_Item)))], 1⟩) (by kernel_rfl)) (And.intro (.inr rfl) (And.intro rfl (And.intro (by kernel_rfl) (by kernel_rfl)))))
def f_slices_order2CmpFunc_plan_Item_plan_sorted_1_9ab.f (a0 : List Tplan_Item) (a1 : Int) (a2 : Int) (a3_c0 : Int) : Option (Int × Int × Int) := (at? a0 a2) >>= fun b584 => (at? a0 a1) >>= fun b587 => (f_plan_sorted_1.f b584 b587) >>= fun t590 => if (decide (t590 < (0 : Int))) = true then (some (a2, a1, IntKind.i64.wrap (a3_c0 + (1 : Int)))) else (some (a1, a2, a3_c0))
theorem f_slices_order2CmpFunc_plan_Item_plan_sorted_1_9ab.ok (a0 : List Tplan_Item) (a1 : Int) (a2 : Int) (a3_c0 : Int) (r : Int × Int × Int) (H : f_slices_order2CmpFunc_plan_Item_plan_sorted_1_9ab.f a0 a1 a2 a3_c0 = some r) : Pv.Fn Try.prog 135 [.own 0, iV .i64 a1, iV .i64 a2, .ptr 1 0 0, .im (.sc (.func (.func 50) #[] #[]))] [(0, some (.row 4 89 (a0.map eplan_Item))), (1, some (.box 3 [iV .i64 a3_c0]))] 2 (fun x o => x = .tup [iV .i64 r.1, iV .i64 r.2.1] ∧ o = [(0, some (.row 4 89 (a0.map eplan_Item))), (1, some (.box 3 [iV .i64 r.2.2]))]) := by
  unfold f_slices_order2CmpFunc_plan_Item_plan_sorted_1_9ab.f at H
  refine Fn.bodyK [0, 1] Try.func135 rfl rfl (fun Γ hP hn => ?_)
  have hm : Try.prog.follows .mixedOrders = true := by kernel_rfl
  replace hn : Γ.n = 32 := hn
  refine AWp.seq ?_
  refine reg hP hn hm [] [0, 1, 2, 3, 4] [0, 1] ⟨[(0, .own 0), (1, iV .i64 a1), (2, iV .i64 a2), (3, .ptr 1 0 0), (4, .im (.sc (.func (.func 50) #[] #[])))], [(0, some (.row 4 89 (a0.map eplan_Item))), (1, some (.box 3 [iV .i64 a3_c0]))], 2⟩ [] (by kernel_rfl) trivial ?_
  refine AWp.seq ?_
  refine AWp.seq ?_
  obtain ⟨b584, p585, q586, H⟩ := at_of H
  obtain ⟨b587, p588, q589, H⟩ := at_of H
  obtain ⟨t590, e591, H⟩ := bind_of H
  refine reg hP hn hm [(4, .c (eplan_Item b584)), (8, .c (eplan_Item b587)), (9, .call [] [] [] [] 0 (iV .i64 t590) [])] [1, 2, 3, 22] [0, 1] ⟨[(1, iV .i64 a1), (2, iV .i64 a2), (3, .ptr 1 0 0), (22, bV (decide (t590 < (0 : Int))))], [(0, some (.row 4 89 (a0.map eplan_Item))), (1, some (.box 3 [iV .i64 a3_c0]))], 2⟩ [0 ≤ a2, a2 < (((a0.map eplan_Item).length : Nat) : Int), (a0.map eplan_Item)[(Int.toNat (a2))]? = some (eplan_Item b584), 0 ≤ a1, a1 < (((a0.map eplan_Item).length : Nat) : Int), (a0.map eplan_Item)[(Int.toNat (a1))]? = some (eplan_Item b587), Enters Try.prog 50, Pv.Fn Try.prog 50 [.agg (apluvialref17_Item ⟨b584.f0, b584.f1.f0, b584.f1.f1, b584.f1.f2⟩), .agg (apluvialref17_Item ⟨b587.f0, b587.f1.f0, b587.f1.f1, b587.f1.f2⟩)] [] 0 (fun r o => r = iV .i64 t590 ∧ o = [])] (by kernel_rfl) ⟨by exact p585, by exact el_lt eplan_Item p585 q586, by exact el_map eplan_Item q586, by exact p588, by exact el_lt eplan_Item p588 q589, by exact el_map eplan_Item q589, by exact Try.call50, by exact f_plan_sorted_1.ok b584 b587 t590 e591, trivial⟩ ?_
  refine AWp.cond (decide (t590 < (0 : Int))) rfl (fun c592 => ?_) (fun c592 => ?_)
  · replace H := (ifT c592).symm.trans H
    refine AWp.seq ?_
    refine reg hP hn hm [] [1, 2] [0, 1] ⟨[(1, iV .i64 a1), (2, iV .i64 a2)], [(0, some (.row 4 89 (a0.map eplan_Item))), (1, some (.box 3 [iV .i64 (IntKind.i64.wrap (a3_c0 + (1 : Int)))]))], 2⟩ [] (by kernel_rfl) trivial ?_
    refine AWp.seq ?_
    refine reg hP hn hm [] [10, 11] [0, 1] ⟨[(10, iV .i64 a2), (11, iV .i64 a1)], [(0, some (.row 4 89 (a0.map eplan_Item))), (1, some (.box 3 [iV .i64 (IntKind.i64.wrap (a3_c0 + (1 : Int)))]))], 2⟩ [] (by kernel_rfl) trivial ?_
    refine AWp.conv (inv := [(0, 0), (1, 1)]) (vk := []) (e0 := []) (t := ⟨[(10, iV .i64 a2), (11, iV .i64 a1)], [(0, some (.row 4 89 (a0.map eplan_Item))), (1, some (.box 3 [iV .i64 (IntKind.i64.wrap (a3_c0 + (1 : Int)))]))], 2⟩) (by kernel_rfl) ?_
    refine AWp.ret ?_
    obtain rfl := Option.some.inj H
    exact Exists.intro _ (And.intro (fun _ _ h => h) (And.intro (.inl rfl) (And.intro rfl (And.intro (by kernel_rfl) (by kernel_rfl)))))
  · replace H := (ifF c592).symm.trans H
    refine AWp.skip ?_
    refine AWp.seq ?_
    refine reg hP hn hm [] [10, 11] [0, 1] ⟨[(10, iV .i64 a1), (11, iV .i64 a2)], [(0, some (.row 4 89 (a0.map eplan_Item))), (1, some (.box 3 [iV .i64 a3_c0]))], 2⟩ [] (by kernel_rfl) trivial ?_
    refine AWp.conv (inv := [(0, 0), (1, 1)]) (vk := []) (e0 := []) (t := ⟨[(10, iV .i64 a1), (11, iV .i64 a2)], [(0, some (.row 4 89 (a0.map eplan_Item))), (1, some (.box 3 [iV .i64 a3_c0]))], 2⟩) (by kernel_rfl) ?_
    refine AWp.ret ?_
    obtain rfl := Option.some.inj H
    exact Exists.intro _ (And.intro (fun _ _ h => h) (And.intro (.inl rfl) (And.intro rfl (And.intro (by kernel_rfl) (by kernel_rfl)))))
def f_slices_medianCmpFunc_plan_Item_plan_sorted_1_5f3.f (a0 : List Tplan_Item) (a1 : Int) (a2 : Int) (a3 : Int) (a4_c0 : Int) : Option (Int × Int) := (f_slices_order2CmpFunc_plan_Item_plan_sorted_1_9ab.f a0 a1 a2 a4_c0) >>= fun t595 => (f_slices_order2CmpFunc_plan_Item_plan_sorted_1_9ab.f a0 t595.2.1 a3 t595.2.2) >>= fun t599 => (f_slices_order2CmpFunc_plan_Item_plan_sorted_1_9ab.f a0 t595.1 t599.1 t599.2.2) >>= fun t603 => some (t603.2.1, t603.2.2)
theorem f_slices_medianCmpFunc_plan_Item_plan_sorted_1_5f3.ok (a0 : List Tplan_Item) (a1 : Int) (a2 : Int) (a3 : Int) (a4_c0 : Int) (r : Int × Int) (H : f_slices_medianCmpFunc_plan_Item_plan_sorted_1_5f3.f a0 a1 a2 a3 a4_c0 = some r) : Pv.Fn Try.prog 126 [.own 0, iV .i64 a1, iV .i64 a2, iV .i64 a3, .ptr 1 0 0, .im (.sc (.func (.func 50) #[] #[]))] [(0, some (.row 4 89 (a0.map eplan_Item))), (1, some (.box 3 [iV .i64 a4_c0]))] 2 (fun x o => x = iV .i64 r.1 ∧ o = [(0, some (.row 4 89 (a0.map eplan_Item))), (1, some (.box 3 [iV .i64 r.2]))]) := by
  unfold f_slices_medianCmpFunc_plan_Item_plan_sorted_1_5f3.f at H
  refine Fn.bodyK [0, 1] Try.func126 rfl rfl (fun Γ hP hn => ?_)
  have hm : Try.prog.follows .mixedOrders = true := by kernel_rfl
  replace hn : Γ.n = 41 := hn
  refine AWp.seq ?_
  refine reg hP hn hm [] [0, 1, 2, 3, 4, 5] [0, 1] ⟨[(0, .own 0), (1, iV .i64 a1), (2, iV .i64 a2), (3, iV .i64 a3), (4, .ptr 1 0 0), (5, .im (.sc (.func (.func 50) #[] #[])))], [(0, some (.row 4 89 (a0.map eplan_Item))), (1, some (.box 3 [iV .i64 a4_c0]))], 2⟩ [] (by kernel_rfl) trivial ?_
  refine AWp.seq ?_
  obtain ⟨t595, e596, H⟩ := bind_of H
  refine reg hP hn hm [(5, .call [(0, 0), (1, 1)] [(0, 0), (1, 1)] [] [] 2 (.tup [iV .i64 t595.1, iV .i64 t595.2.1]) [(0, some (.row 4 89 (a0.map eplan_Item))), (1, some (.box 3 [iV .i64 t595.2.2]))])] [0, 1, 2, 3, 4, 5] [0, 1] ⟨[(0, .own 0), (1, iV .i64 t595.1), (2, iV .i64 t595.2.1), (3, iV .i64 a3), (4, .ptr 1 0 0), (5, .im (.sc (.func (.func 50) #[] #[])))], [(0, some (.row 4 89 (a0.map eplan_Item))), (1, some (.box 3 [iV .i64 t595.2.2]))], 2⟩ [Enters Try.prog 135, Pv.Fn Try.prog 135 [.own 0, iV .i64 a1, iV .i64 a2, .ptr 1 0 0, .im (.sc (.func (.func 50) #[] #[]))] [(0, some (.row 4 89 (a0.map eplan_Item))), (1, some (.box 3 [iV .i64 a4_c0]))] 2 (fun r o => r = .tup [iV .i64 t595.1, iV .i64 t595.2.1] ∧ o = [(0, some (.row 4 89 (a0.map eplan_Item))), (1, some (.box 3 [iV .i64 t595.2.2]))])] (by kernel_rfl) ⟨by exact Try.call135, by exact f_slices_order2CmpFunc_plan_Item_plan_sorted_1_9ab.ok a0 a1 a2 a4_c0 t595 e596, trivial⟩ ?_
  refine AWp.seq ?_
  obtain ⟨t599, e600, H⟩ := bind_of H
  refine reg hP hn hm [(5, .call [(0, 0), (1, 1)] [(0, 0), (1, 1)] [] [] 2 (.tup [iV .i64 t599.1, iV .i64 t599.2.1]) [(0, some (.row 4 89 (a0.map eplan_Item))), (1, some (.box 3 [iV .i64 t599.2.2]))])] [0, 1, 2, 4, 5] [0, 1] ⟨[(0, .own 0), (1, iV .i64 t595.1), (2, iV .i64 t599.1), (4, .ptr 1 0 0), (5, .im (.sc (.func (.func 50) #[] #[])))], [(0, some (.row 4 89 (a0.map eplan_Item))), (1, some (.box 3 [iV .i64 t599.2.2]))], 2⟩ [Enters Try.prog 135, Pv.Fn Try.prog 135 [.own 0, iV .i64 t595.2.1, iV .i64 a3, .ptr 1 0 0, .im (.sc (.func (.func 50) #[] #[]))] [(0, some (.row 4 89 (a0.map eplan_Item))), (1, some (.box 3 [iV .i64 t595.2.2]))] 2 (fun r o => r = .tup [iV .i64 t599.1, iV .i64 t599.2.1] ∧ o = [(0, some (.row 4 89 (a0.map eplan_Item))), (1, some (.box 3 [iV .i64 t599.2.2]))])] (by kernel_rfl) ⟨by exact Try.call135, by exact f_slices_order2CmpFunc_plan_Item_plan_sorted_1_9ab.ok a0 t595.2.1 a3 t595.2.2 t599 e600, trivial⟩ ?_
  refine AWp.seq ?_
  obtain ⟨t603, e604, H⟩ := bind_of H
  refine reg hP hn hm [(5, .call [(0, 0), (1, 1)] [(0, 0), (1, 1)] [] [] 2 (.tup [iV .i64 t603.1, iV .i64 t603.2.1]) [(0, some (.row 4 89 (a0.map eplan_Item))), (1, some (.box 3 [iV .i64 t603.2.2]))])] [2] [0, 1] ⟨[(2, iV .i64 t603.2.1)], [(0, some (.row 4 89 (a0.map eplan_Item))), (1, some (.box 3 [iV .i64 t603.2.2]))], 2⟩ [Enters Try.prog 135, Pv.Fn Try.prog 135 [.own 0, iV .i64 t595.1, iV .i64 t599.1, .ptr 1 0 0, .im (.sc (.func (.func 50) #[] #[]))] [(0, some (.row 4 89 (a0.map eplan_Item))), (1, some (.box 3 [iV .i64 t599.2.2]))] 2 (fun r o => r = .tup [iV .i64 t603.1, iV .i64 t603.2.1] ∧ o = [(0, some (.row 4 89 (a0.map eplan_Item))), (1, some (.box 3 [iV .i64 t603.2.2]))])] (by kernel_rfl) ⟨by exact Try.call135, by exact f_slices_order2CmpFunc_plan_Item_plan_sorted_1_9ab.ok a0 t595.1 t599.1 t599.2.2 t603 e604, trivial⟩ ?_
  refine AWp.seq ?_
  refine reg hP hn hm [] [12] [0, 1] ⟨[(12, iV .i64 t603.2.1)], [(0, some (.row 4 89 (a0.map eplan_Item))), (1, some (.box 3 [iV .i64 t603.2.2]))], 2⟩ [] (by kernel_rfl) trivial ?_
  refine AWp.conv (inv := [(0, 0), (1, 1)]) (vk := []) (e0 := []) (t := ⟨[(12, iV .i64 t603.2.1)], [(0, some (.row 4 89 (a0.map eplan_Item))), (1, some (.box 3 [iV .i64 t603.2.2]))], 2⟩) (by kernel_rfl) ?_
  refine AWp.ret ?_
  obtain rfl := Option.some.inj H
  exact Exists.intro _ (And.intro (fun _ _ h => h) (And.intro (.inl rfl) (And.intro rfl (And.intro (by kernel_rfl) (by kernel_rfl)))))
def f_slices_medianAdjacentCmpFunc_plan_Item_plan_sorted_1_7cb.f (a0 : List Tplan_Item) (a1 : Int) (a2_c0 : Int) : Option (Int × Int) := (f_slices_medianCmpFunc_plan_Item_plan_sorted_1_5f3.f a0 (IntKind.i64.wrap (a1 - (1 : Int))) a1 (IntKind.i64.wrap (a1 + (1 : Int))) a2_c0) >>= fun t607 => some (t607.1, t607.2)
theorem f_slices_medianAdjacentCmpFunc_plan_Item_plan_sorted_1_7cb.ok (a0 : List Tplan_Item) (a1 : Int) (a2_c0 : Int) (r : Int × Int) (H : f_slices_medianAdjacentCmpFunc_plan_Item_plan_sorted_1_7cb.f a0 a1 a2_c0 = some r) : Pv.Fn Try.prog 125 [.own 0, iV .i64 a1, .ptr 1 0 0, .im (.sc (.func (.func 50) #[] #[]))] [(0, some (.row 4 89 (a0.map eplan_Item))), (1, some (.box 3 [iV .i64 a2_c0]))] 2 (fun x o => x = iV .i64 r.1 ∧ o = [(0, some (.row 4 89 (a0.map eplan_Item))), (1, some (.box 3 [iV .i64 r.2]))]) := by
  unfold f_slices_medianAdjacentCmpFunc_plan_Item_plan_sorted_1_7cb.f at H
  refine Fn.bodyK [0, 1] Try.func125 rfl rfl (fun Γ hP hn => ?_)
  have hm : Try.prog.follows .mixedOrders = true := by kernel_rfl
  replace hn : Γ.n = 18 := hn
  refine AWp.seq ?_
  refine reg hP hn hm [] [0, 1, 2, 3] [0, 1] ⟨[(0, .own 0), (1, iV .i64 a1), (2, .ptr 1 0 0), (3, .im (.sc (.func (.func 50) #[] #[])))], [(0, some (.row 4 89 (a0.map eplan_Item))), (1, some (.box 3 [iV .i64 a2_c0]))], 2⟩ [] (by kernel_rfl) trivial ?_
  refine AWp.seq ?_
  obtain ⟨t607, e608, H⟩ := bind_of H
  refine reg hP hn hm [(8, .call [(0, 0), (1, 1)] [(0, 0), (1, 1)] [] [] 2 (iV .i64 t607.1) [(0, some (.row 4 89 (a0.map eplan_Item))), (1, some (.box 3 [iV .i64 t607.2]))])] [8] [0, 1] ⟨[(8, iV .i64 t607.1)], [(0, some (.row 4 89 (a0.map eplan_Item))), (1, some (.box 3 [iV .i64 t607.2]))], 2⟩ [Enters Try.prog 126, Pv.Fn Try.prog 126 [.own 0, iV .i64 (IntKind.i64.wrap (a1 - (1 : Int))), iV .i64 a1, iV .i64 (IntKind.i64.wrap (a1 + (1 : Int))), .ptr 1 0 0, .im (.sc (.func (.func 50) #[] #[]))] [(0, some (.row 4 89 (a0.map eplan_Item))), (1, some (.box 3 [iV .i64 a2_c0]))] 2 (fun r o => r = iV .i64 t607.1 ∧ o = [(0, some (.row 4 89 (a0.map eplan_Item))), (1, some (.box 3 [iV .i64 t607.2]))])] (by kernel_rfl) ⟨by exact Try.call126, by exact f_slices_medianCmpFunc_plan_Item_plan_sorted_1_5f3.ok a0 (IntKind.i64.wrap (a1 - (1 : Int))) a1 (IntKind.i64.wrap (a1 + (1 : Int))) a2_c0 t607 e608, trivial⟩ ?_
  refine AWp.conv (inv := [(0, 0), (1, 1)]) (vk := []) (e0 := []) (t := ⟨[(8, iV .i64 t607.1)], [(0, some (.row 4 89 (a0.map eplan_Item))), (1, some (.box 3 [iV .i64 t607.2]))], 2⟩) (by kernel_rfl) ?_
  refine AWp.ret ?_
  obtain rfl := Option.some.inj H
  exact Exists.intro _ (And.intro (fun _ _ h => h) (And.intro (.inl rfl) (And.intro rfl (And.intro (by kernel_rfl) (by kernel_rfl)))))
def f_slices_choosePivotCmpFunc_plan_Item_plan_sorted_1.f (a0 : List Tplan_Item) (a1 : Int) (a2 : Int) : Option (Int × Int) := ((if (decide ((IntKind.i64.wrap (a2 - a1)) ≥ (8 : Int))) = true then (((if (decide ((IntKind.i64.wrap (a2 - a1)) ≥ (50 : Int))) = true then ((f_slices_medianAdjacentCmpFunc_plan_Item_plan_sorted_1_7cb.f a0 (IntKind.i64.wrap (a1 + (IntKind.i64.wrap ((IntKind.i64.wrap (Int.tdiv (IntKind.i64.wrap (a2 - a1)) (4 : Int))) * (1 : Int))))) 0) >>= fun t611 => (f_slices_medianAdjacentCmpFunc_plan_Item_plan_sorted_1_7cb.f a0 (IntKind.i64.wrap (a1 + (IntKind.i64.wrap ((IntKind.i64.wrap (Int.tdiv (IntKind.i64.wrap (a2 - a1)) (4 : Int))) * (2 : Int))))) t611.2) >>= fun t615 => (f_slices_medianAdjacentCmpFunc_plan_Item_plan_sorted_1_7cb.f a0 (IntKind.i64.wrap (a1 + (IntKind.i64.wrap ((IntKind.i64.wrap (Int.tdiv (IntKind.i64.wrap (a2 - a1)) (4 : Int))) * (3 : Int))))) t615.2) >>= fun t619 => some (t619.2, t611.1, t615.1, t619.1)) else (some (0, IntKind.i64.wrap (a1 + (IntKind.i64.wrap ((IntKind.i64.wrap (Int.tdiv (IntKind.i64.wrap (a2 - a1)) (4 : Int))) * (1 : Int)))), IntKind.i64.wrap (a1 + (IntKind.i64.wrap ((IntKind.i64.wrap (Int.tdiv (IntKind.i64.wrap (a2 - a1)) (4 : Int))) * (2 : Int)))), IntKind.i64.wrap (a1 + (IntKind.i64.wrap ((IntKind.i64.wrap (Int.tdiv (IntKind.i64.wrap (a2 - a1)) (4 : Int))) * (3 : Int))))))) : Option (Int × Int × Int × Int)) >>= fun oo => match oo with | (x621, x622, x623, x624) => ((f_slices_medianCmpFunc_plan_Item_plan_sorted_1_5f3.f a0 x622 x623 x624 x621) >>= fun t627 => some (t627.2, t627.1))) else (some (0, IntKind.i64.wrap (a1 + (IntKind.i64.wrap ((IntKind.i64.wrap (Int.tdiv (IntKind.i64.wrap (a2 - a1)) (4 : Int))) * (2 : Int))))))) : Option (Int × Int)) >>= fun oo => match oo with | (x629, x630) => (if (x629 == (0 : Int)) = true then (some (x630, 1)) else (if (x629 == (12 : Int)) = true then (some (x630, 2)) else (some (x630, 0))))
theorem f_slices_choosePivotCmpFunc_plan_Item_plan_sorted_1.ok (a0 : List Tplan_Item) (a1 : Int) (a2 : Int) (r : Int × Int) (H : f_slices_choosePivotCmpFunc_plan_Item_plan_sorted_1.f a0 a1 a2 = some r) : Pv.Fn Try.prog 107 [.own 0, iV .i64 a1, iV .i64 a2, .im (.sc (.func (.func 50) #[] #[]))] [(0, some (.row 4 89 (a0.map eplan_Item)))] 1 (fun x o => x = .tup [iV .i64 r.1, iV .i64 r.2] ∧ o = [(0, some (.row 4 89 (a0.map eplan_Item)))]) := by
  unfold f_slices_choosePivotCmpFunc_plan_Item_plan_sorted_1.f at H
  refine Fn.bodyK [0] Try.func107 rfl rfl (fun Γ hP hn => ?_)
  have hm : Try.prog.follows .mixedOrders = true := by kernel_rfl
  replace hn : Γ.n = 63 := hn
  refine AWp.seq ?_
  refine reg hP hn hm [] [0, 1, 2, 3] [0] ⟨[(0, .own 0), (1, iV .i64 a1), (2, iV .i64 a2), (3, .im (.sc (.func (.func 50) #[] #[])))], [(0, some (.row 4 89 (a0.map eplan_Item)))], 1⟩ [] (by kernel_rfl) trivial ?_
  refine AWp.seq ?_
  refine reg hP hn hm [] [0, 1, 3, 10] [0] ⟨[(0, .own 0), (1, iV .i64 a1), (3, .im (.sc (.func (.func 50) #[] #[]))), (10, iV .i64 (IntKind.i64.wrap (a2 - a1)))], [(0, some (.row 4 89 (a0.map eplan_Item)))], 1⟩ [] (by kernel_rfl) trivial ?_
  refine AWp.seq ?_
  refine reg hP hn hm [(0, .k 1)] [0, 1, 3, 10, 11] [0, 1] ⟨[(0, .own 0), (1, iV .i64 a1), (3, .im (.sc (.func (.func 50) #[] #[]))), (10, iV .i64 (IntKind.i64.wrap (a2 - a1))), (11, .ptr 1 0 0)], [(0, some (.row 4 89 (a0.map eplan_Item))), (1, some (.box 3 [iV .i64 0]))], 1⟩ [] (by kernel_rfl) trivial ?_
  refine AWp.seq ?_
  refine reg hP hn hm [] [0, 1, 3, 10, 11, 12] [0, 1] ⟨[(0, .own 0), (1, iV .i64 a1), (3, .im (.sc (.func (.func 50) #[] #[]))), (10, iV .i64 (IntKind.i64.wrap (a2 - a1))), (11, .ptr 1 0 0), (12, iV .i64 (IntKind.i64.wrap (a1 + (IntKind.i64.wrap ((IntKind.i64.wrap (Int.tdiv (IntKind.i64.wrap (a2 - a1)) (4 : Int))) * (1 : Int))))))], [(0, some (.row 4 89 (a0.map eplan_Item))), (1, some (.box 3 [iV .i64 0]))], 1⟩ [(4 : Int) ≠ 0] (by kernel_rfl) ⟨by decide, trivial⟩ ?_
  refine AWp.seq ?_
  refine reg hP hn hm [] [0, 1, 3, 10, 11, 12, 13] [0, 1] ⟨[(0, .own 0), (1, iV .i64 a1), (3, .im (.sc (.func (.func 50) #[] #[]))), (10, iV .i64 (IntKind.i64.wrap (a2 - a1))), (11, .ptr 1 0 0), (12, iV .i64 (IntKind.i64.wrap (a1 + (IntKind.i64.wrap ((IntKind.i64.wrap (Int.tdiv (IntKind.i64.wrap (a2 - a1)) (4 : Int))) * (1 : Int)))))), (13, iV .i64 (IntKind.i64.wrap (a1 + (IntKind.i64.wrap ((IntKind.i64.wrap (Int.tdiv (IntKind.i64.wrap (a2 - a1)) (4 : Int))) * (2 : Int))))))], [(0, some (.row 4 89 (a0.map eplan_Item))), (1, some (.box 3 [iV .i64 0]))], 1⟩ [(4 : Int) ≠ 0] (by kernel_rfl) ⟨by decide, trivial⟩ ?_
  refine AWp.seq ?_
  refine reg hP hn hm [] [0, 3, 10, 11, 12, 13, 14] [0, 1] ⟨[(0, .own 0), (3, .im (.sc (.func (.func 50) #[] #[]))), (10, iV .i64 (IntKind.i64.wrap (a2 - a1))), (11, .ptr 1 0 0), (12, iV .i64 (IntKind.i64.wrap (a1 + (IntKind.i64.wrap ((IntKind.i64.wrap (Int.tdiv (IntKind.i64.wrap (a2 - a1)) (4 : Int))) * (1 : Int)))))), (13, iV .i64 (IntKind.i64.wrap (a1 + (IntKind.i64.wrap ((IntKind.i64.wrap (Int.tdiv (IntKind.i64.wrap (a2 - a1)) (4 : Int))) * (2 : Int)))))), (14, iV .i64 (IntKind.i64.wrap (a1 + (IntKind.i64.wrap ((IntKind.i64.wrap (Int.tdiv (IntKind.i64.wrap (a2 - a1)) (4 : Int))) * (3 : Int))))))], [(0, some (.row 4 89 (a0.map eplan_Item))), (1, some (.box 3 [iV .i64 0]))], 1⟩ [(4 : Int) ≠ 0] (by kernel_rfl) ⟨by decide, trivial⟩ ?_
  refine AWp.seq ?_
  refine AWp.seq ?_
  refine reg hP hn hm [] [0, 3, 10, 11, 12, 13, 14, 34] [0, 1] ⟨[(0, .own 0), (3, .im (.sc (.func (.func 50) #[] #[]))), (10, iV .i64 (IntKind.i64.wrap (a2 - a1))), (11, .ptr 1 0 0), (12, iV .i64 (IntKind.i64.wrap (a1 + (IntKind.i64.wrap ((IntKind.i64.wrap (Int.tdiv (IntKind.i64.wrap (a2 - a1)) (4 : Int))) * (1 : Int)))))), (13, iV .i64 (IntKind.i64.wrap (a1 + (IntKind.i64.wrap ((IntKind.i64.wrap (Int.tdiv (IntKind.i64.wrap (a2 - a1)) (4 : Int))) * (2 : Int)))))), (14, iV .i64 (IntKind.i64.wrap (a1 + (IntKind.i64.wrap ((IntKind.i64.wrap (Int.tdiv (IntKind.i64.wrap (a2 - a1)) (4 : Int))) * (3 : Int)))))), (34, bV (decide ((IntKind.i64.wrap (a2 - a1)) ≥ (8 : Int))))], [(0, some (.row 4 89 (a0.map eplan_Item))), (1, some (.box 3 [iV .i64 0]))], 1⟩ [] (by kernel_rfl) trivial ?_
  obtain ⟨o633, e634, H⟩ := bind_of H
  refine AWp.mono (Q := fun e s => (match (generalizing := false) o633 with | (x629, x630) => e = .normal ∧ s = ⟨[(11, .ptr 3 0 0), (13, iV .i64 x630)], [(0, some (.row 4 89 (a0.map eplan_Item))), (3, some (.box 3 [iV .i64 x629]))], 1⟩)) (AWp.cv ?_) ?_
  · replace H := e634; clear e634
    refine AWp.cond (decide ((IntKind.i64.wrap (a2 - a1)) ≥ (8 : Int))) rfl (fun c574 => ?_) (fun c574 => ?_)
    · replace H := (ifT c574).symm.trans H
      refine AWp.seq ?_
      refine AWp.seq ?_
      refine reg hP hn hm [] [0, 3, 11, 12, 13, 14, 36] [0, 1] ⟨[(0, .own 0), (3, .im (.sc (.func (.func 50) #[] #[]))), (11, .ptr 1 0 0), (12, iV .i64 (IntKind.i64.wrap (a1 + (IntKind.i64.wrap ((IntKind.i64.wrap (Int.tdiv (IntKind.i64.wrap (a2 - a1)) (4 : Int))) * (1 : Int)))))), (13, iV .i64 (IntKind.i64.wrap (a1 + (IntKind.i64.wrap ((IntKind.i64.wrap (Int.tdiv (IntKind.i64.wrap (a2 - a1)) (4 : Int))) * (2 : Int)))))), (14, iV .i64 (IntKind.i64.wrap (a1 + (IntKind.i64.wrap ((IntKind.i64.wrap (Int.tdiv (IntKind.i64.wrap (a2 - a1)) (4 : Int))) * (3 : Int)))))), (36, bV (decide ((IntKind.i64.wrap (a2 - a1)) ≥ (50 : Int))))], [(0, some (.row 4 89 (a0.map eplan_Item))), (1, some (.box 3 [iV .i64 0]))], 1⟩ [] (by kernel_rfl) trivial ?_
      obtain ⟨o635, e636, H⟩ := bind_of H
      refine AWp.mono (Q := fun e s => (match (generalizing := false) o635 with | (x621, x622, x623, x624) => e = .normal ∧ s = ⟨[(0, .own 0), (3, .im (.sc (.func (.func 50) #[] #[]))), (11, .ptr 2 0 0), (12, iV .i64 x622), (13, iV .i64 x623), (14, iV .i64 x624)], [(0, some (.row 4 89 (a0.map eplan_Item))), (2, some (.box 3 [iV .i64 x621]))], 1⟩)) (AWp.cv ?_) ?_
      · replace H := e636; clear e636
        refine AWp.cond (decide ((IntKind.i64.wrap (a2 - a1)) ≥ (50 : Int))) rfl (fun c575 => ?_) (fun c575 => ?_)
        · replace H := (ifT c575).symm.trans H
          refine AWp.seq ?_
          obtain ⟨t611, e612, H⟩ := bind_of H
          refine reg hP hn hm [(3, .call [(0, 0), (1, 1)] [(0, 0), (1, 1)] [] [] 2 (iV .i64 t611.1) [(0, some (.row 4 89 (a0.map eplan_Item))), (1, some (.box 3 [iV .i64 t611.2]))])] [0, 3, 11, 12, 13, 14] [0, 1] ⟨[(0, .own 0), (3, .im (.sc (.func (.func 50) #[] #[]))), (11, .ptr 1 0 0), (12, iV .i64 t611.1), (13, iV .i64 (IntKind.i64.wrap (a1 + (IntKind.i64.wrap ((IntKind.i64.wrap (Int.tdiv (IntKind.i64.wrap (a2 - a1)) (4 : Int))) * (2 : Int)))))), (14, iV .i64 (IntKind.i64.wrap (a1 + (IntKind.i64.wrap ((IntKind.i64.wrap (Int.tdiv (IntKind.i64.wrap (a2 - a1)) (4 : Int))) * (3 : Int))))))], [(0, some (.row 4 89 (a0.map eplan_Item))), (1, some (.box 3 [iV .i64 t611.2]))], 1⟩ [Enters Try.prog 125, Pv.Fn Try.prog 125 [.own 0, iV .i64 (IntKind.i64.wrap (a1 + (IntKind.i64.wrap ((IntKind.i64.wrap (Int.tdiv (IntKind.i64.wrap (a2 - a1)) (4 : Int))) * (1 : Int))))), .ptr 1 0 0, .im (.sc (.func (.func 50) #[] #[]))] [(0, some (.row 4 89 (a0.map eplan_Item))), (1, some (.box 3 [iV .i64 0]))] 2 (fun r o => r = iV .i64 t611.1 ∧ o = [(0, some (.row 4 89 (a0.map eplan_Item))), (1, some (.box 3 [iV .i64 t611.2]))])] (by kernel_rfl) ⟨by exact Try.call125, by exact f_slices_medianAdjacentCmpFunc_plan_Item_plan_sorted_1_7cb.ok a0 (IntKind.i64.wrap (a1 + (IntKind.i64.wrap ((IntKind.i64.wrap (Int.tdiv (IntKind.i64.wrap (a2 - a1)) (4 : Int))) * (1 : Int))))) 0 t611 e612, trivial⟩ ?_
          refine AWp.seq ?_
          obtain ⟨t615, e616, H⟩ := bind_of H
          refine reg hP hn hm [(3, .call [(0, 0), (1, 1)] [(0, 0), (1, 1)] [] [] 2 (iV .i64 t615.1) [(0, some (.row 4 89 (a0.map eplan_Item))), (1, some (.box 3 [iV .i64 t615.2]))])] [0, 3, 11, 12, 13, 14] [0, 1] ⟨[(0, .own 0), (3, .im (.sc (.func (.func 50) #[] #[]))), (11, .ptr 1 0 0), (12, iV .i64 t611.1), (13, iV .i64 t615.1), (14, iV .i64 (IntKind.i64.wrap (a1 + (IntKind.i64.wrap ((IntKind.i64.wrap (Int.tdiv (IntKind.i64.wrap (a2 - a1)) (4 : Int))) * (3 : Int))))))], [(0, some (.row 4 89 (a0.map eplan_Item))), (1, some (.box 3 [iV .i64 t615.2]))], 1⟩ [Enters Try.prog 125, Pv.Fn Try.prog 125 [.own 0, iV .i64 (IntKind.i64.wrap (a1 + (IntKind.i64.wrap ((IntKind.i64.wrap (Int.tdiv (IntKind.i64.wrap (a2 - a1)) (4 : Int))) * (2 : Int))))), .ptr 1 0 0, .im (.sc (.func (.func 50) #[] #[]))] [(0, some (.row 4 89 (a0.map eplan_Item))), (1, some (.box 3 [iV .i64 t611.2]))] 2 (fun r o => r = iV .i64 t615.1 ∧ o = [(0, some (.row 4 89 (a0.map eplan_Item))), (1, some (.box 3 [iV .i64 t615.2]))])] (by kernel_rfl) ⟨by exact Try.call125, by exact f_slices_medianAdjacentCmpFunc_plan_Item_plan_sorted_1_7cb.ok a0 (IntKind.i64.wrap (a1 + (IntKind.i64.wrap ((IntKind.i64.wrap (Int.tdiv (IntKind.i64.wrap (a2 - a1)) (4 : Int))) * (2 : Int))))) t611.2 t615 e616, trivial⟩ ?_
          obtain ⟨t619, e620, H⟩ := bind_of H
          refine reg hP hn hm [(3, .call [(0, 0), (1, 1)] [(0, 0), (1, 1)] [] [] 2 (iV .i64 t619.1) [(0, some (.row 4 89 (a0.map eplan_Item))), (1, some (.box 3 [iV .i64 t619.2]))])] [0, 3, 11, 12, 13, 14] [0, 1] ⟨[(0, .own 0), (3, .im (.sc (.func (.func 50) #[] #[]))), (11, .ptr 1 0 0), (12, iV .i64 t611.1), (13, iV .i64 t615.1), (14, iV .i64 t619.1)], [(0, some (.row 4 89 (a0.map eplan_Item))), (1, some (.box 3 [iV .i64 t619.2]))], 1⟩ [Enters Try.prog 125, Pv.Fn Try.prog 125 [.own 0, iV .i64 (IntKind.i64.wrap (a1 + (IntKind.i64.wrap ((IntKind.i64.wrap (Int.tdiv (IntKind.i64.wrap (a2 - a1)) (4 : Int))) * (3 : Int))))), .ptr 1 0 0, .im (.sc (.func (.func 50) #[] #[]))] [(0, some (.row 4 89 (a0.map eplan_Item))), (1, some (.box 3 [iV .i64 t615.2]))] 2 (fun r o => r = iV .i64 t619.1 ∧ o = [(0, some (.row 4 89 (a0.map eplan_Item))), (1, some (.box 3 [iV .i64 t619.2]))])] (by kernel_rfl) ⟨by exact Try.call125, by exact f_slices_medianAdjacentCmpFunc_plan_Item_plan_sorted_1_7cb.ok a0 (IntKind.i64.wrap (a1 + (IntKind.i64.wrap ((IntKind.i64.wrap (Int.tdiv (IntKind.i64.wrap (a2 - a1)) (4 : Int))) * (3 : Int))))) t615.2 t619 e620, trivial⟩ ?_
          obtain rfl := Option.some.inj H
          exact Exists.intro _ (And.intro (fun _ _ h => h.conv (inv := [(0, 0), (1, 2)]) (vk := []) (e0 := []) (t := ⟨[(0, .own 0), (3, .im (.sc (.func (.func 50) #[] #[]))), (11, .ptr 2 0 0), (12, iV .i64 t611.1), (13, iV .i64 t615.1), (14, iV .i64 t619.1)], [(0, some (.row 4 89 (a0.map eplan_Item))), (2, some (.box 3 [iV .i64 t619.2]))], 1⟩) (by kernel_rfl)) (And.intro rfl rfl))
        · replace H := (ifF c575).symm.trans H
          refine AWp.skip ?_
          obtain rfl := Option.some.inj H
          exact Exists.intro _ (And.intro (fun _ _ h => h.conv (inv := [(0, 0), (1, 2)]) (vk := []) (e0 := []) (t := ⟨[(0, .own 0), (3, .im (.sc (.func (.func 50) #[] #[]))), (11, .ptr 2 0 0), (12, iV .i64 (IntKind.i64.wrap (a1 + (IntKind.i64.wrap ((IntKind.i64.wrap (Int.tdiv (IntKind.i64.wrap (a2 - a1)) (4 : Int))) * (1 : Int)))))), (13, iV .i64 (IntKind.i64.wrap (a1 + (IntKind.i64.wrap ((IntKind.i64.wrap (Int.tdiv (IntKind.i64.wrap (a2 - a1)) (4 : Int))) * (2 : Int)))))), (14, iV .i64 (IntKind.i64.wrap (a1 + (IntKind.i64.wrap ((IntKind.i64.wrap (Int.tdiv (IntKind.i64.wrap (a2 - a1)) (4 : Int))) * (3 : Int))))))], [(0, some (.row 4 89 (a0.map eplan_Item))), (2, some (.box 3 [iV .i64 0]))], 1⟩) (by kernel_rfl)) (And.intro rfl rfl))
      · obtain ⟨x621, x622, x623, x624⟩ := o635
        rintro e s ⟨rfl, rfl⟩
        obtain ⟨t627, e628, H⟩ := bind_of H
        refine reg hP hn hm [(5, .call [(0, 0), (2, 1)] [(0, 0), (1, 2)] [] [] 2 (iV .i64 t627.1) [(0, some (.row 4 89 (a0.map eplan_Item))), (1, some (.box 3 [iV .i64 t627.2]))])] [11, 13] [0, 2] ⟨[(11, .ptr 2 0 0), (13, iV .i64 t627.1)], [(0, some (.row 4 89 (a0.map eplan_Item))), (2, some (.box 3 [iV .i64 t627.2]))], 1⟩ [Enters Try.prog 126, Pv.Fn Try.prog 126 [.own 0, iV .i64 x622, iV .i64 x623, iV .i64 x624, .ptr 1 0 0, .im (.sc (.func (.func 50) #[] #[]))] [(0, some (.row 4 89 (a0.map eplan_Item))), (1, some (.box 3 [iV .i64 x621]))] 2 (fun r o => r = iV .i64 t627.1 ∧ o = [(0, some (.row 4 89 (a0.map eplan_Item))), (1, some (.box 3 [iV .i64 t627.2]))])] (by kernel_rfl) ⟨by exact Try.call126, by exact f_slices_medianCmpFunc_plan_Item_plan_sorted_1_5f3.ok a0 x622 x623 x624 x621 t627 e628, trivial⟩ ?_
        obtain rfl := Option.some.inj H
        exact Exists.intro _ (And.intro (fun _ _ h => h.conv (inv := [(2, 3), (0, 0)]) (vk := []) (e0 := []) (t := ⟨[(11, .ptr 3 0 0), (13, iV .i64 t627.1)], [(0, some (.row 4 89 (a0.map eplan_Item))), (3, some (.box 3 [iV .i64 t627.2]))], 1⟩) (by kernel_rfl)) (And.intro rfl rfl))
    · replace H := (ifF c574).symm.trans H
      refine AWp.skip ?_
      obtain rfl := Option.some.inj H
      exact Exists.intro _ (And.intro (fun _ _ h => h.conv (inv := [(1, 3), (0, 0)]) (vk := []) (e0 := []) (t := ⟨[(11, .ptr 3 0 0), (13, iV .i64 (IntKind.i64.wrap (a1 + (IntKind.i64.wrap ((IntKind.i64.wrap (Int.tdiv (IntKind.i64.wrap (a2 - a1)) (4 : Int))) * (2 : Int))))))], [(0, some (.row 4 89 (a0.map eplan_Item))), (3, some (.box 3 [iV .i64 0]))], 1⟩) (by kernel_rfl)) (And.intro rfl rfl))
  · obtain ⟨x629, x630⟩ := o633
    rintro e s ⟨rfl, rfl⟩
    refine AWp.seq ?_
    refine reg hP hn hm [] [13, 55] [0] ⟨[(13, iV .i64 x630), (55, iV .i64 x629)], [(0, some (.row 4 89 (a0.map eplan_Item)))], 1⟩ [] (by kernel_rfl) trivial ?_
    refine AWp.block ?_
    refine AWp.seq ?_
    refine reg hP hn hm [] [13, 55, 57] [0] ⟨[(13, iV .i64 x630), (55, iV .i64 x629), (57, bV (x629 == (0 : Int)))], [(0, some (.row 4 89 (a0.map eplan_Item)))], 1⟩ [] (by kernel_rfl) trivial ?_
    refine AWp.cond (x629 == (0 : Int)) rfl (fun c631 => ?_) (fun c631 => ?_)
    · replace H := (ifT c631).symm.trans H
      refine AWp.seq ?_
      refine reg hP hn hm [] [8, 9] [0] ⟨[(8, iV .i64 x630), (9, iV .i64 1)], [(0, some (.row 4 89 (a0.map eplan_Item)))], 1⟩ [] (by kernel_rfl) trivial ?_
      refine AWp.conv (inv := [(0, 0)]) (vk := []) (e0 := []) (t := ⟨[(8, iV .i64 x630), (9, iV .i64 1)], [(0, some (.row 4 89 (a0.map eplan_Item)))], 1⟩) (by kernel_rfl) ?_
      refine AWp.ret ?_
      obtain rfl := Option.some.inj H
      exact Exists.intro _ (And.intro (fun _ _ h => h) (And.intro (.inl rfl) (And.intro rfl (And.intro (by kernel_rfl) (by kernel_rfl)))))
    · replace H := (ifF c631).symm.trans H
      refine AWp.seq ?_
      refine reg hP hn hm [] [13, 60] [0] ⟨[(13, iV .i64 x630), (60, bV (x629 == (12 : Int)))], [(0, some (.row 4 89 (a0.map eplan_Item)))], 1⟩ [] (by kernel_rfl) trivial ?_
      refine AWp.cond (x629 == (12 : Int)) rfl (fun c632 => ?_) (fun c632 => ?_)
      · replace H := (ifT c632).symm.trans H
        refine AWp.seq ?_
        refine reg hP hn hm [] [8, 9] [0] ⟨[(8, iV .i64 x630), (9, iV .i64 2)], [(0, some (.row 4 89 (a0.map eplan_Item)))], 1⟩ [] (by kernel_rfl) trivial ?_
        refine AWp.conv (inv := [(0, 0)]) (vk := []) (e0 := []) (t := ⟨[(8, iV .i64 x630), (9, iV .i64 2)], [(0, some (.row 4 89 (a0.map eplan_Item)))], 1⟩) (by kernel_rfl) ?_
        refine AWp.ret ?_
        obtain rfl := Option.some.inj H
        exact Exists.intro _ (And.intro (fun _ _ h => h) (And.intro (.inl rfl) (And.intro rfl (And.intro (by kernel_rfl) (by kernel_rfl)))))
      · replace H := (ifF c632).symm.trans H
        refine AWp.seq ?_
        refine reg hP hn hm [] [8, 9] [0] ⟨[(8, iV .i64 x630), (9, iV .i64 0)], [(0, some (.row 4 89 (a0.map eplan_Item)))], 1⟩ [] (by kernel_rfl) trivial ?_
        refine AWp.conv (inv := [(0, 0)]) (vk := []) (e0 := []) (t := ⟨[(8, iV .i64 x630), (9, iV .i64 0)], [(0, some (.row 4 89 (a0.map eplan_Item)))], 1⟩) (by kernel_rfl) ?_
        refine AWp.ret ?_
        obtain rfl := Option.some.inj H
        exact Exists.intro _ (And.intro (fun _ _ h => h) (And.intro (.inl rfl) (And.intro rfl (And.intro (by kernel_rfl) (by kernel_rfl)))))
def f_slices_reverseRangeCmpFunc_plan_Item_plan_sorted_1.l0 (x661 : List Tplan_Item) (x662 : Int) (x663 : Int) : Option (List Tplan_Item) := if (decide (x662 < x663)) = true then ((at? x661 x663) >>= fun b674 => (at? x661 x662) >>= fun b677 => (at? (x661.set (Int.toNat (x662)) b674) x663) >>= fun b680 => f_slices_reverseRangeCmpFunc_plan_Item_plan_sorted_1.l0  ((x661.set (Int.toNat (x662)) b674).set (Int.toNat (x663)) b677) (IntKind.i64.wrap (x662 + (1 : Int))) (IntKind.i64.wrap (x663 - (1 : Int)))) else (some x661)
partial_fixpoint
def f_slices_reverseRangeCmpFunc_plan_Item_plan_sorted_1.f (a0 : List Tplan_Item) (a1 : Int) (a2 : Int) : Option (List Tplan_Item) := (f_slices_reverseRangeCmpFunc_plan_Item_plan_sorted_1.l0  a0 a1 (IntKind.i64.wrap (a2 - (1 : Int)))) >>= fun x683 => some x683
theorem f_slices_reverseRangeCmpFunc_plan_Item_plan_sorted_1.ok (a0 : List Tplan_Item) (a1 : Int) (a2 : Int) (r : List Tplan_Item) (H : f_slices_reverseRangeCmpFunc_plan_Item_plan_sorted_1.f a0 a1 a2 = some r) : Pv.Fn Try.prog 108 [.own 0, iV .i64 a1, iV .i64 a2, .im (.sc (.func (.func 50) #[] #[]))] [(0, some (.row 4 89 (a0.map eplan_Item)))] 1 (fun x o => x = .tup [] ∧ o = [(0, some (.row 4 89 (r.map eplan_Item)))]) := by
  unfold f_slices_reverseRangeCmpFunc_plan_Item_plan_sorted_1.f at H
  refine Fn.bodyK [0] Try.func108 rfl rfl (fun Γ hP hn => ?_)
  have hm : Try.prog.follows .mixedOrders = true := by kernel_rfl
  replace hn : Γ.n = 34 := hn
  refine AWp.seq ?_
  refine reg hP hn hm [] [0, 2, 8] [0] ⟨[(0, .own 0), (2, iV .i64 a2), (8, iV .i64 a1)], [(0, some (.row 4 89 (a0.map eplan_Item)))], 1⟩ [] (by kernel_rfl) trivial ?_
  refine AWp.seq ?_
  refine reg hP hn hm [] [0, 8, 9] [0] ⟨[(0, .own 0), (8, iV .i64 a1), (9, iV .i64 (IntKind.i64.wrap (a2 - (1 : Int))))], [(0, some (.row 4 89 (a0.map eplan_Item)))], 1⟩ [] (by kernel_rfl) trivial ?_
  refine AWp.block ?_
  obtain ⟨o684, e685, H⟩ := bind_of H
  refine AWp.loop (LWp.conv (inv := [(0, 0)]) (vk := []) (e0 := []) (t := ⟨[(0, .own 0), (8, iV .i64 a1), (9, iV .i64 (IntKind.i64.wrap (a2 - (1 : Int))))], [(0, some (.row 4 89 (a0.map eplan_Item)))], 1⟩) (by kernel_rfl) ?_)
  refine LWp.mono (Q := fun e s => (match (generalizing := false) o684 with | x683 => e = .exit 0 ∧ s = ⟨[], [(0, some (.row 4 89 (x683.map eplan_Item)))], 1⟩)) (LWp.cv (withBody (fun body hbody => ?_))) ?_
  · refine f_slices_reverseRangeCmpFunc_plan_Item_plan_sorted_1.l0.partial_correctness  (motive := fun x661 x662 x663 o684 => LWp Γ body (fun e s => ∃ t, Cv Γ s t ∧ (match (generalizing := false) o684 with | x683 => e = .exit 0 ∧ t = ⟨[], [(0, some (.row 4 89 (x683.map eplan_Item)))], 1⟩)) ⟨[(0, .own 0), (8, iV .i64 x662), (9, iV .i64 x663)], [(0, some (.row 4 89 (x661.map eplan_Item)))], 1⟩) ?_ _ _ _ _ e685
    clear H e685 o684; intro self ih x661 x662 x663 o684 H
    subst hbody
    refine LWp.round ?_
    refine AWp.seq ?_
    refine AWp.seq ?_
    refine reg hP hn hm [] [0, 8, 9, 15] [0] ⟨[(0, .own 0), (8, iV .i64 x662), (9, iV .i64 x663), (15, bV (decide (x662 < x663)))], [(0, some (.row 4 89 (x661.map eplan_Item)))], 1⟩ [] (by kernel_rfl) trivial ?_
    refine AWp.cond (decide (x662 < x663)) rfl (fun c664 => ?_) (fun c664 => ?_)
    · replace H := (ifT c664).symm.trans H
      refine AWp.skip ?_
      refine AWp.block ?_
      refine AWp.seq ?_
      obtain ⟨b674, p675, q676, H⟩ := at_of H
      obtain ⟨b677, p678, q679, H⟩ := at_of H
      obtain ⟨b680, p681, q682, H⟩ := at_of H
      refine reg hP hn hm [(7, .c (eplan_Item b674)), (11, .c (eplan_Item b677)), (13, .put (eplan_Item b677) ((x661.set (Int.toNat (x662)) b674).map eplan_Item)), (15, .put (eplan_Item b680) (((x661.set (Int.toNat (x662)) b674).set (Int.toNat (x663)) b677).map eplan_Item))] [0, 8, 9] [0] ⟨[(0, .own 0), (8, iV .i64 x662), (9, iV .i64 x663)], [(0, some (.row 4 89 (((x661.set (Int.toNat (x662)) b674).set (Int.toNat (x663)) b677).map eplan_Item)))], 1⟩ [0 ≤ x663, x663 < (((x661.map eplan_Item).length : Nat) : Int), (x661.map eplan_Item)[(Int.toNat (x663))]? = some (eplan_Item b674), 0 ≤ x662, x662 < (((x661.map eplan_Item).length : Nat) : Int), (x661.map eplan_Item)[(Int.toNat (x662))]? = some (eplan_Item b677), 0 ≤ x662, x662 < (((x661.map eplan_Item).length : Nat) : Int), (x661.map eplan_Item)[(Int.toNat (x662))]? = some (eplan_Item b677), (x661.set (Int.toNat (x662)) b674).map eplan_Item = (x661.map eplan_Item).set (Int.toNat (x662)) (splice (eplan_Item b677) 0 [iI .i64 b674.f0, iI .i64 b674.f1.f0, iI .i64 b674.f1.f1, iI .i64 b674.f1.f2]), 0 ≤ x663, x663 < ((((x661.set (Int.toNat (x662)) b674).map eplan_Item).length : Nat) : Int), ((x661.set (Int.toNat (x662)) b674).map eplan_Item)[(Int.toNat (x663))]? = some (eplan_Item b680), ((x661.set (Int.toNat (x662)) b674).set (Int.toNat (x663)) b677).map eplan_Item = ((x661.set (Int.toNat (x662)) b674).map eplan_Item).set (Int.toNat (x663)) (splice (eplan_Item b680) 0 [iI .i64 b677.f0, iI .i64 b677.f1.f0, iI .i64 b677.f1.f1, iI .i64 b677.f1.f2])] (by kernel_rfl) ⟨by exact p675, by exact el_lt eplan_Item p675 q676, by exact el_map eplan_Item q676, by exact p678, by exact el_lt eplan_Item p678 q679, by exact el_map eplan_Item q679, by exact p678, by exact el_lt eplan_Item p678 q679, by exact el_map eplan_Item q679, by exact set1 _ _ _ _, by exact p681, by exact el_lt eplan_Item p681 q682, by exact el_map eplan_Item q682, by exact set1 _ _ _ _, trivial⟩ ?_
      refine AWp.seq ?_
      refine reg hP hn hm [] [0, 8, 9] [0] ⟨[(0, .own 0), (8, iV .i64 (IntKind.i64.wrap (x662 + (1 : Int)))), (9, iV .i64 x663)], [(0, some (.row 4 89 (((x661.set (Int.toNat (x662)) b674).set (Int.toNat (x663)) b677).map eplan_Item)))], 1⟩ [] (by kernel_rfl) trivial ?_
      refine reg hP hn hm [] [0, 8, 9] [0] ⟨[(0, .own 0), (8, iV .i64 (IntKind.i64.wrap (x662 + (1 : Int)))), (9, iV .i64 (IntKind.i64.wrap (x663 - (1 : Int))))], [(0, some (.row 4 89 (((x661.set (Int.toNat (x662)) b674).set (Int.toNat (x663)) b677).map eplan_Item)))], 1⟩ [] (by kernel_rfl) trivial ?_
      exact LWp.conv (inv := [(0, 0)]) (vk := []) (e0 := []) (t := ⟨[(0, .own 0), (8, iV .i64 (IntKind.i64.wrap (x662 + (1 : Int)))), (9, iV .i64 (IntKind.i64.wrap (x663 - (1 : Int))))], [(0, some (.row 4 89 (((x661.set (Int.toNat (x662)) b674).set (Int.toNat (x663)) b677).map eplan_Item)))], 1⟩) (by kernel_rfl) (ih _ _ _ _ H)
    · replace H := (ifF c664).symm.trans H
      refine AWp.exit ?_
      obtain rfl := Option.some.inj H
      exact Exists.intro _ (And.intro (fun _ _ h => h.conv (inv := [(0, 0)]) (vk := []) (e0 := []) (t := ⟨[], [(0, some (.row 4 89 (x661.map eplan_Item)))], 1⟩) (by kernel_rfl)) (And.intro rfl rfl))
  · obtain ⟨x683, rfl⟩ : ∃ z, z = o684 := ⟨_, rfl⟩
    rintro e s ⟨rfl, rfl⟩
    obtain rfl := Option.some.inj H
    exact Exists.intro ⟨[], [(0, some (.row 4 89 (x683.map eplan_Item)))], 1⟩ (And.intro (fun _ _ h => h.conv (inv := [(0, 0)]) (vk := []) (e0 := []) (t := ⟨[], [(0, some (.row 4 89 (x683.map eplan_Item)))], 1⟩) (by kernel_rfl)) (And.intro (.inr rfl) (And.intro rfl (And.intro (by kernel_rfl) (by kernel_rfl)))))
def f_slices_partialInsertionSortCmpFunc_plan_Item_plan_sorted_1.l1 (a1 : Int) (a2 : Int) (x862 : List Tplan_Item) (x864 : Int) (x886 : Int) : Option (Int) := ((if (decide (x886 < a2)) = true then ((at? x862 x886) >>= fun b897 => (at? x862 (IntKind.i64.wrap (x886 - (1 : Int)))) >>= fun b900 => (f_plan_sorted_1.f b897 b900) >>= fun t903 => some (!(decide (t903 < (0 : Int))))) else (some false)) : Option (Bool)) >>= fun x905 => if x905 = true then (f_slices_partialInsertionSortCmpFunc_plan_Item_plan_sorted_1.l1 a1 a2 x862 x864 (IntKind.i64.wrap (x886 + (1 : Int)))) else (some x886)
partial_fixpoint
def f_slices_partialInsertionSortCmpFunc_plan_Item_plan_sorted_1.l2 (a1 : Int) (a2 : Int) (x864 : Int) (x907 : Int) (x953 : List Tplan_Item) (x954 : Int) : Option (List Tplan_Item) := if (decide (x954 ≥ (1 : Int))) = true then ((at? x953 x954) >>= fun b964 => (at? x953 (IntKind.i64.wrap (x954 - (1 : Int)))) >>= fun b967 => (f_plan_sorted_1.f b964 b967) >>= fun t970 => if (!(decide (t970 < (0 : Int)))) = true then (some x953) else ((at? (x953.set (Int.toNat (x954)) b967) (IntKind.i64.wrap (x954 - (1 : Int)))) >>= fun b976 => f_slices_partialInsertionSortCmpFunc_plan_Item_plan_sorted_1.l2 a1 a2 x864 x907 ((x953.set (Int.toNat (x954)) b967).set (Int.toNat (IntKind.i64.wrap (x954 - (1 : Int)))) b964) (IntKind.i64.wrap (x954 - (1 : Int))))) else (some x953)
partial_fixpoint
def f_slices_partialInsertionSortCmpFunc_plan_Item_plan_sorted_1.l3 (a1 : Int) (a2 : Int) (x864 : Int) (x907 : Int) (x1006 : List Tplan_Item) (x1007 : Int) : Option (List Tplan_Item) := if (decide (x1007 < a2)) = true then ((at? x1006 x1007) >>= fun b1017 => (at? x1006 (IntKind.i64.wrap (x1007 - (1 : Int)))) >>= fun b1020 => (f_plan_sorted_1.f b1017 b1020) >>= fun t1023 => if (!(decide (t1023 < (0 : Int)))) = true then (some x1006) else ((at? (x1006.set (Int.toNat (x1007)) b1020) (IntKind.i64.wrap (x1007 - (1 : Int)))) >>= fun b1029 => f_slices_partialInsertionSortCmpFunc_plan_Item_plan_sorted_1.l3 a1 a2 x864 x907 ((x1006.set (Int.toNat (x1007)) b1020).set (Int.toNat (IntKind.i64.wrap (x1007 - (1 : Int)))) b1017) (IntKind.i64.wrap (x1007 + (1 : Int))))) else (some x1006)
partial_fixpoint
def f_slices_partialInsertionSortCmpFunc_plan_Item_plan_sorted_1.l0 (a1 : Int) (a2 : Int) (x862 : List Tplan_Item) (x863 : Int) (x864 : Int) : Option ((Bool × (List Tplan_Item)) ⊕ (List Tplan_Item)) := if (decide (x864 < (5 : Int))) = true then ((f_slices_partialInsertionSortCmpFunc_plan_Item_plan_sorted_1.l1 a1 a2 x862 x864 x863) >>= fun x907 => if (x907 == a2) = true then (some (.inl (true, x862))) else (if (decide ((IntKind.i64.wrap (a2 - a1)) < (50 : Int))) = true then (some (.inl (false, x862))) else ((at? x862 (IntKind.i64.wrap (x907 - (1 : Int)))) >>= fun b919 => (at? x862 x907) >>= fun b922 => (at? (x862.set (Int.toNat (x907)) b919) (IntKind.i64.wrap (x907 - (1 : Int)))) >>= fun b925 => ((if (decide ((IntKind.i64.wrap (x907 - a1)) ≥ (2 : Int))) = true then ((f_slices_partialInsertionSortCmpFunc_plan_Item_plan_sorted_1.l2 a1 a2 x864 x907 ((x862.set (Int.toNat (x907)) b919).set (Int.toNat (IntKind.i64.wrap (x907 - (1 : Int)))) b922) (IntKind.i64.wrap (x907 - (1 : Int)))) >>= fun x979 => some x979) else (some ((x862.set (Int.toNat (x907)) b919).set (Int.toNat (IntKind.i64.wrap (x907 - (1 : Int)))) b922))) : Option (List Tplan_Item)) >>= fun x980 => ((if (decide ((IntKind.i64.wrap (a2 - x907)) ≥ (2 : Int))) = true then ((f_slices_partialInsertionSortCmpFunc_plan_Item_plan_sorted_1.l3 a1 a2 x864 x907 x980 (IntKind.i64.wrap (x907 + (1 : Int)))) >>= fun x1032 => some x1032) else (some x980)) : Option (List Tplan_Item)) >>= fun x1033 => f_slices_partialInsertionSortCmpFunc_plan_Item_plan_sorted_1.l0 a1 a2 x1033 x907 (IntKind.i64.wrap (x864 + (1 : Int)))))) else (some (.inr x862))
partial_fixpoint
def f_slices_partialInsertionSortCmpFunc_plan_Item_plan_sorted_1.f (a0 : List Tplan_Item) (a1 : Int) (a2 : Int) : Option (Bool × (List Tplan_Item)) := (f_slices_partialInsertionSortCmpFunc_plan_Item_plan_sorted_1.l0 a1 a2 a0 (IntKind.i64.wrap (a1 + (1 : Int))) 0) >>= fun oo => match oo with | .inl rr => (some rr) | .inr x1034 => (some (false, x1034))
theorem f_slices_partialInsertionSortCmpFunc_plan_Item_plan_sorted_1.ok (a0 : List Tplan_Item) (a1 : Int) (a2 : Int) (r : Bool × (List Tplan_Item)) (H : f_slices_partialInsertionSortCmpFunc_plan_Item_plan_sorted_1.f a0 a1 a2 = some r) : Pv.Fn Try.prog 109 [.own 0, iV .i64 a1, iV .i64 a2, .im (.sc (.func (.func 50) #[] #[]))] [(0, some (.row 4 89 (a0.map eplan_Item)))] 1 (fun x o => x = bV r.1 ∧ o = [(0, some (.row 4 89 (r.2.map eplan_Item)))]) := by
  unfold f_slices_partialInsertionSortCmpFunc_plan_Item_plan_sorted_1.f at H
  refine Fn.bodyK [0] Try.func109 rfl rfl (fun Γ hP hn => ?_)
  have hm : Try.prog.follows .mixedOrders = true := by kernel_rfl
  replace hn : Γ.n = 141 := hn
  refine AWp.seq ?_
  refine reg hP hn hm [] [0, 1, 2, 3] [0] ⟨[(0, .own 0), (1, iV .i64 a1), (2, iV .i64 a2), (3, .im (.sc (.func (.func 50) #[] #[])))], [(0, some (.row 4 89 (a0.map eplan_Item)))], 1⟩ [] (by kernel_rfl) trivial ?_
  refine AWp.seq ?_
  refine reg hP hn hm [] [0, 1, 2, 3, 9] [0] ⟨[(0, .own 0), (1, iV .i64 a1), (2, iV .i64 a2), (3, .im (.sc (.func (.func 50) #[] #[]))), (9, iV .i64 (IntKind.i64.wrap (a1 + (1 : Int))))], [(0, some (.row 4 89 (a0.map eplan_Item)))], 1⟩ [] (by kernel_rfl) trivial ?_
  refine AWp.seq ?_
  refine AWp.seq ?_
  refine reg hP hn hm [] [0, 1, 2, 3, 9, 10] [0] ⟨[(0, .own 0), (1, iV .i64 a1), (2, iV .i64 a2), (3, .im (.sc (.func (.func 50) #[] #[]))), (9, iV .i64 (IntKind.i64.wrap (a1 + (1 : Int)))), (10, iV .i64 0)], [(0, some (.row 4 89 (a0.map eplan_Item)))], 1⟩ [] (by kernel_rfl) trivial ?_
  refine AWp.block ?_
  obtain ⟨o1035, e1036, H⟩ := bind_of H
  refine AWp.loop (LWp.conv (inv := [(0, 0)]) (vk := []) (e0 := []) (t := ⟨[(0, .own 0), (1, iV .i64 a1), (2, iV .i64 a2), (3, .im (.sc (.func (.func 50) #[] #[]))), (9, iV .i64 (IntKind.i64.wrap (a1 + (1 : Int)))), (10, iV .i64 0)], [(0, some (.row 4 89 (a0.map eplan_Item)))], 1⟩) (by kernel_rfl) ?_)
  refine LWp.mono (Q := fun e s => (match (generalizing := false) o1035 with | .inl rr => e = .ret ∧ s.floor = 1 ∧ resOf Try.prog Try.f109 s = some (bV rr.1) ∧ ([(0, s.obj 0)] : List (Nat × Option MObj)) = [(0, some (.row 4 89 (rr.2.map eplan_Item)))] | .inr x1034 => e = .exit 0 ∧ s = ⟨[], [(0, some (.row 4 89 (x1034.map eplan_Item)))], 1⟩)) (LWp.cv (withBody (fun body hbody => ?_))) ?_
  · refine f_slices_partialInsertionSortCmpFunc_plan_Item_plan_sorted_1.l0.partial_correctness a1 a2 (motive := fun x862 x863 x864 o1035 => LWp Γ body (fun e s => ∃ t, Cv Γ s t ∧ (match (generalizing := false) o1035 with | .inl rr => e = .ret ∧ t.floor = 1 ∧ resOf Try.prog Try.f109 t = some (bV rr.1) ∧ ([(0, t.obj 0)] : List (Nat × Option MObj)) = [(0, some (.row 4 89 (rr.2.map eplan_Item)))] | .inr x1034 => e = .exit 0 ∧ t = ⟨[], [(0, some (.row 4 89 (x1034.map eplan_Item)))], 1⟩)) ⟨[(0, .own 0), (1, iV .i64 a1), (2, iV .i64 a2), (3, .im (.sc (.func (.func 50) #[] #[]))), (9, iV .i64 x863), (10, iV .i64 x864)], [(0, some (.row 4 89 (x862.map eplan_Item)))], 1⟩) ?_ _ _ _ _ e1036
    clear H e1036 o1035; intro self ih x862 x863 x864 o1035 H
    subst hbody
    refine LWp.round ?_
    refine AWp.seq ?_
    refine AWp.seq ?_
    refine reg hP hn hm [] [0, 1, 2, 3, 9, 10, 16] [0] ⟨[(0, .own 0), (1, iV .i64 a1), (2, iV .i64 a2), (3, .im (.sc (.func (.func 50) #[] #[]))), (9, iV .i64 x863), (10, iV .i64 x864), (16, bV (decide (x864 < (5 : Int))))], [(0, some (.row 4 89 (x862.map eplan_Item)))], 1⟩ [] (by kernel_rfl) trivial ?_
    refine AWp.cond (decide (x864 < (5 : Int))) rfl (fun c865 => ?_) (fun c865 => ?_)
    · replace H := (ifT c865).symm.trans H
      refine AWp.skip ?_
      refine AWp.seq ?_
      refine AWp.block ?_
      refine AWp.seq ?_
      refine AWp.block ?_
      obtain ⟨o1037, e1038, H⟩ := bind_of H
      refine AWp.loop (LWp.conv (inv := [(0, 0)]) (vk := []) (e0 := []) (t := ⟨[(0, .own 0), (1, iV .i64 a1), (2, iV .i64 a2), (3, .im (.sc (.func (.func 50) #[] #[]))), (9, iV .i64 x863), (10, iV .i64 x864)], [(0, some (.row 4 89 (x862.map eplan_Item)))], 1⟩) (by kernel_rfl) ?_)
      refine LWp.mono (Q := fun e s => (match (generalizing := false) o1037 with | x907 => e = .exit 2 ∧ s = ⟨[(0, .own 0), (1, iV .i64 a1), (2, iV .i64 a2), (3, .im (.sc (.func (.func 50) #[] #[]))), (9, iV .i64 x907), (10, iV .i64 x864)], [(0, some (.row 4 89 (x862.map eplan_Item)))], 1⟩)) (LWp.cv (withBody (fun body hbody => ?_))) ?_
      · refine f_slices_partialInsertionSortCmpFunc_plan_Item_plan_sorted_1.l1.partial_correctness a1 a2 x862 x864 (motive := fun x886 o1037 => LWp Γ body (fun e s => ∃ t, Cv Γ s t ∧ (match (generalizing := false) o1037 with | x907 => e = .exit 2 ∧ t = ⟨[(0, .own 0), (1, iV .i64 a1), (2, iV .i64 a2), (3, .im (.sc (.func (.func 50) #[] #[]))), (9, iV .i64 x907), (10, iV .i64 x864)], [(0, some (.row 4 89 (x862.map eplan_Item)))], 1⟩)) ⟨[(0, .own 0), (1, iV .i64 a1), (2, iV .i64 a2), (3, .im (.sc (.func (.func 50) #[] #[]))), (9, iV .i64 x886), (10, iV .i64 x864)], [(0, some (.row 4 89 (x862.map eplan_Item)))], 1⟩) ?_ _ _ e1038
        clear H e1038 o1037; intro self ih x886 o1037 H
        subst hbody
        refine LWp.round ?_
        refine AWp.seq ?_
        refine AWp.seq ?_
        obtain ⟨o1039, e1040, H⟩ := bind_of H
        refine AWp.mono (Q := fun e s => (match (generalizing := false) o1039 with | x905 => e = .normal ∧ s = ⟨[(0, .own 0), (1, iV .i64 a1), (2, iV .i64 a2), (3, .im (.sc (.func (.func 50) #[] #[]))), (9, iV .i64 x886), (10, iV .i64 x864), (36, bV x905)], [(0, some (.row 4 89 (x862.map eplan_Item)))], 1⟩)) (AWp.cv ?_) ?_
        · replace H := e1040; clear e1040
          rcases Bool.eq_false_or_eq_true (decide (x886 < a2)) with c896 | c896
          · replace H := (ifT c896).symm.trans H
            obtain ⟨b897, p898, q899, H⟩ := at_of H
            obtain ⟨b900, p901, q902, H⟩ := at_of H
            obtain ⟨t903, e904, H⟩ := bind_of H
            refine reg hP hn hm [(3, .b true), (8, .c (eplan_Item b897)), (13, .c (eplan_Item b900)), (14, .call [] [] [] [] 0 (iV .i64 t903) [])] [0, 1, 2, 3, 9, 10, 23, 24, 25, 26, 27, 28, 29, 30, 31, 32, 33, 34, 35, 36] [0] ⟨[(0, .own 0), (1, iV .i64 a1), (2, iV .i64 a2), (3, .im (.sc (.func (.func 50) #[] #[]))), (9, iV .i64 x886), (10, iV .i64 x864), (23, .im (.sc (.func (.func 50) #[] #[]))), (24, .own 0), (25, iV .i64 x886), (26, .ptr 0 (Int.toNat (x886)) 0), (27, .agg (apluvialref17_Item ⟨b897.f0, b897.f1.f0, b897.f1.f1, b897.f1.f2⟩)), (28, .own 0), (29, iV .i64 x886), (30, iV .i64 (IntKind.i64.wrap (x886 - (1 : Int)))), (31, .ptr 0 (Int.toNat (IntKind.i64.wrap (x886 - (1 : Int)))) 0), (32, .agg (apluvialref17_Item ⟨b900.f0, b900.f1.f0, b900.f1.f1, b900.f1.f2⟩)), (33, iV .i64 t903), (34, bV (decide (t903 < (0 : Int)))), (35, bV (!(decide (t903 < (0 : Int))))), (36, bV (!(decide (t903 < (0 : Int)))))], [(0, some (.row 4 89 (x862.map eplan_Item)))], 1⟩ [(decide (x886 < a2)) = true, 0 ≤ x886, x886 < (((x862.map eplan_Item).length : Nat) : Int), (x862.map eplan_Item)[(Int.toNat (x886))]? = some (eplan_Item b897), 0 ≤ (IntKind.i64.wrap (x886 - (1 : Int))), IntKind.i64.wrap (x886 - (1 : Int)) < (((x862.map eplan_Item).length : Nat) : Int), (x862.map eplan_Item)[(Int.toNat (IntKind.i64.wrap (x886 - (1 : Int))))]? = some (eplan_Item b900), Enters Try.prog 50, Pv.Fn Try.prog 50 [.agg (apluvialref17_Item ⟨b897.f0, b897.f1.f0, b897.f1.f1, b897.f1.f2⟩), .agg (apluvialref17_Item ⟨b900.f0, b900.f1.f0, b900.f1.f1, b900.f1.f2⟩)] [] 0 (fun r o => r = iV .i64 t903 ∧ o = [])] (by kernel_rfl) ⟨by exact c896, by exact p898, by exact el_lt eplan_Item p898 q899, by exact el_map eplan_Item q899, by exact p901, by exact el_lt eplan_Item p901 q902, by exact el_map eplan_Item q902, by exact Try.call50, by exact f_plan_sorted_1.ok b897 b900 t903 e904, trivial⟩ ?_
            obtain rfl := Option.some.inj H
            exact Exists.intro _ (And.intro (fun _ _ h => h.conv (inv := [(0, 0)]) (vk := []) (e0 := []) (t := ⟨[(0, .own 0), (1, iV .i64 a1), (2, iV .i64 a2), (3, .im (.sc (.func (.func 50) #[] #[]))), (9, iV .i64 x886), (10, iV .i64 x864), (36, bV (!(decide (t903 < (0 : Int)))))], [(0, some (.row 4 89 (x862.map eplan_Item)))], 1⟩) (by kernel_rfl)) (And.intro rfl rfl))
          · replace H := (ifF c896).symm.trans H
            refine reg hP hn hm [(3, .b false)] [0, 1, 2, 3, 9, 10, 36] [0] ⟨[(0, .own 0), (1, iV .i64 a1), (2, iV .i64 a2), (3, .im (.sc (.func (.func 50) #[] #[]))), (9, iV .i64 x886), (10, iV .i64 x864), (36, bV false)], [(0, some (.row 4 89 (x862.map eplan_Item)))], 1⟩ [(decide (x886 < a2)) = false] (by kernel_rfl) ⟨by exact c896, trivial⟩ ?_
            obtain rfl := Option.some.inj H
            exact Exists.intro _ (And.intro (fun _ _ h => h.conv (inv := [(0, 0)]) (vk := []) (e0 := []) (t := ⟨[(0, .own 0), (1, iV .i64 a1), (2, iV .i64 a2), (3, .im (.sc (.func (.func 50) #[] #[]))), (9, iV .i64 x886), (10, iV .i64 x864), (36, bV false)], [(0, some (.row 4 89 (x862.map eplan_Item)))], 1⟩) (by kernel_rfl)) (And.intro rfl rfl))
        · obtain ⟨x905, rfl⟩ : ∃ z, z = o1039 := ⟨_, rfl⟩
          rintro e s ⟨rfl, rfl⟩
          refine AWp.cond x905 rfl (fun c906 => ?_) (fun c906 => ?_)
          · replace H := (ifT c906).symm.trans H
            refine AWp.skip ?_
            refine AWp.block ?_
            refine reg hP hn hm [] [0, 1, 2, 3, 9, 10] [0] ⟨[(0, .own 0), (1, iV .i64 a1), (2, iV .i64 a2), (3, .im (.sc (.func (.func 50) #[] #[]))), (9, iV .i64 (IntKind.i64.wrap (x886 + (1 : Int)))), (10, iV .i64 x864)], [(0, some (.row 4 89 (x862.map eplan_Item)))], 1⟩ [] (by kernel_rfl) trivial ?_
            exact LWp.conv (inv := [(0, 0)]) (vk := []) (e0 := []) (t := ⟨[(0, .own 0), (1, iV .i64 a1), (2, iV .i64 a2), (3, .im (.sc (.func (.func 50) #[] #[]))), (9, iV .i64 (IntKind.i64.wrap (x886 + (1 : Int)))), (10, iV .i64 x864)], [(0, some (.row 4 89 (x862.map eplan_Item)))], 1⟩) (by kernel_rfl) (ih _ _ H)
          · replace H := (ifF c906).symm.trans H
            refine AWp.exit ?_
            obtain rfl := Option.some.inj H
            exact Exists.intro _ (And.intro (fun _ _ h => h.conv (inv := [(0, 0)]) (vk := []) (e0 := []) (t := ⟨[(0, .own 0), (1, iV .i64 a1), (2, iV .i64 a2), (3, .im (.sc (.func (.func 50) #[] #[]))), (9, iV .i64 x886), (10, iV .i64 x864)], [(0, some (.row 4 89 (x862.map eplan_Item)))], 1⟩) (by kernel_rfl)) (And.intro rfl rfl))
      · obtain ⟨x907, rfl⟩ : ∃ z, z = o1037 := ⟨_, rfl⟩
        rintro e s ⟨rfl, rfl⟩
        refine AWp.seq ?_
        refine AWp.seq ?_
        refine reg hP hn hm [] [0, 1, 2, 3, 9, 10, 41] [0] ⟨[(0, .own 0), (1, iV .i64 a1), (2, iV .i64 a2), (3, .im (.sc (.func (.func 50) #[] #[]))), (9, iV .i64 x907), (10, iV .i64 x864), (41, bV (x907 == a2))], [(0, some (.row 4 89 (x862.map eplan_Item)))], 1⟩ [] (by kernel_rfl) trivial ?_
        refine AWp.cond (x907 == a2) rfl (fun c908 => ?_) (fun c908 => ?_)
        · replace H := (ifT c908).symm.trans H
          refine AWp.seq ?_
          refine reg hP hn hm [] [8] [0] ⟨[(8, bV true)], [(0, some (.row 4 89 (x862.map eplan_Item)))], 1⟩ [] (by kernel_rfl) trivial ?_
          refine AWp.conv (inv := [(0, 0)]) (vk := []) (e0 := []) (t := ⟨[(8, bV true)], [(0, some (.row 4 89 (x862.map eplan_Item)))], 1⟩) (by kernel_rfl) ?_
          refine AWp.ret ?_
          obtain rfl := Option.some.inj H
          exact Exists.intro _ (And.intro (fun _ _ h => h) (And.intro rfl (And.intro rfl (And.intro (by kernel_rfl) (by kernel_rfl)))))
        · replace H := (ifF c908).symm.trans H
          refine AWp.skip ?_
          refine AWp.seq ?_
          refine AWp.seq ?_
          refine reg hP hn hm [] [0, 1, 2, 3, 9, 10, 45] [0] ⟨[(0, .own 0), (1, iV .i64 a1), (2, iV .i64 a2), (3, .im (.sc (.func (.func 50) #[] #[]))), (9, iV .i64 x907), (10, iV .i64 x864), (45, bV (decide ((IntKind.i64.wrap (a2 - a1)) < (50 : Int))))], [(0, some (.row 4 89 (x862.map eplan_Item)))], 1⟩ [] (by kernel_rfl) trivial ?_
          refine AWp.cond (decide ((IntKind.i64.wrap (a2 - a1)) < (50 : Int))) rfl (fun c909 => ?_) (fun c909 => ?_)
          · replace H := (ifT c909).symm.trans H
            refine AWp.seq ?_
            refine reg hP hn hm [] [8] [0] ⟨[(8, bV false)], [(0, some (.row 4 89 (x862.map eplan_Item)))], 1⟩ [] (by kernel_rfl) trivial ?_
            refine AWp.conv (inv := [(0, 0)]) (vk := []) (e0 := []) (t := ⟨[(8, bV false)], [(0, some (.row 4 89 (x862.map eplan_Item)))], 1⟩) (by kernel_rfl) ?_
            refine AWp.ret ?_
            obtain rfl := Option.some.inj H
            exact Exists.intro _ (And.intro (fun _ _ h => h) (And.intro rfl (And.intro rfl (And.intro (by kernel_rfl) (by kernel_rfl)))))
          · replace H := (ifF c909).symm.trans H
            refine AWp.skip ?_
            refine AWp.seq ?_
            obtain ⟨b919, p920, q921, H⟩ := at_of H
            obtain ⟨b922, p923, q924, H⟩ := at_of H
            obtain ⟨b925, p926, q927, H⟩ := at_of H
            refine reg hP hn hm [(9, .c (eplan_Item b919)), (13, .c (eplan_Item b922)), (15, .put (eplan_Item b922) ((x862.set (Int.toNat (x907)) b919).map eplan_Item)), (17, .put (eplan_Item b925) (((x862.set (Int.toNat (x907)) b919).set (Int.toNat (IntKind.i64.wrap (x907 - (1 : Int)))) b922).map eplan_Item))] [0, 1, 2, 3, 9, 10] [0] ⟨[(0, .own 0), (1, iV .i64 a1), (2, iV .i64 a2), (3, .im (.sc (.func (.func 50) #[] #[]))), (9, iV .i64 x907), (10, iV .i64 x864)], [(0, some (.row 4 89 (((x862.set (Int.toNat (x907)) b919).set (Int.toNat (IntKind.i64.wrap (x907 - (1 : Int)))) b922).map eplan_Item)))], 1⟩ [0 ≤ (IntKind.i64.wrap (x907 - (1 : Int))), IntKind.i64.wrap (x907 - (1 : Int)) < (((x862.map eplan_Item).length : Nat) : Int), (x862.map eplan_Item)[(Int.toNat (IntKind.i64.wrap (x907 - (1 : Int))))]? = some (eplan_Item b919), 0 ≤ x907, x907 < (((x862.map eplan_Item).length : Nat) : Int), (x862.map eplan_Item)[(Int.toNat (x907))]? = some (eplan_Item b922), 0 ≤ x907, x907 < (((x862.map eplan_Item).length : Nat) : Int), (x862.map eplan_Item)[(Int.toNat (x907))]? = some (eplan_Item b922), (x862.set (Int.toNat (x907)) b919).map eplan_Item = (x862.map eplan_Item).set (Int.toNat (x907)) (splice (eplan_Item b922) 0 [iI .i64 b919.f0, iI .i64 b919.f1.f0, iI .i64 b919.f1.f1, iI .i64 b919.f1.f2]), 0 ≤ (IntKind.i64.wrap (x907 - (1 : Int))), IntKind.i64.wrap (x907 - (1 : Int)) < ((((x862.set (Int.toNat (x907)) b919).map eplan_Item).length : Nat) : Int), ((x862.set (Int.toNat (x907)) b919).map eplan_Item)[(Int.toNat (IntKind.i64.wrap (x907 - (1 : Int))))]? = some (eplan_Item b925), ((x862.set (Int.toNat (x907)) b919).set (Int.toNat (IntKind.i64.wrap (x907 - (1 : Int)))) b922).map eplan_Item = ((x862.set (Int.toNat (x907)) b919).map eplan_Item).set (Int.toNat (IntKind.i64.wrap (x907 - (1 : Int)))) (splice (eplan_Item b925) 0 [iI .i64 b922.f0, iI .i64 b922.f1.f0, iI .i64 b922.f1.f1, iI .i64 b922.f1.f2])] (by kernel_rfl) ⟨by exact p920, by exact el_lt eplan_Item p920 q921, by exact el_map eplan_Item q921, by exact p923, by exact el_lt eplan_Item p923 q924, by exact el_map eplan_Item q924, by exact p923, by exact el_lt eplan_Item p923 q924, by exact el_map eplan_Item q924, by exact set1 _ _ _ _, by exact p926, by exact el_lt eplan_Item p926 q927, by exact el_map eplan_Item q927, by exact set1 _ _ _ _, trivial⟩ ?_
            refine AWp.seq ?_
            refine AWp.seq ?_
            refine reg hP hn hm [] [0, 1, 2, 3, 9, 10, 65] [0] ⟨[(0, .own 0), (1, iV .i64 a1), (2, iV .i64 a2), (3, .im (.sc (.func (.func 50) #[] #[]))), (9, iV .i64 x907), (10, iV .i64 x864), (65, bV (decide ((IntKind.i64.wrap (x907 - a1)) ≥ (2 : Int))))], [(0, some (.row 4 89 (((x862.set (Int.toNat (x907)) b919).set (Int.toNat (IntKind.i64.wrap (x907 - (1 : Int)))) b922).map eplan_Item)))], 1⟩ [] (by kernel_rfl) trivial ?_
            obtain ⟨o1041, e1042, H⟩ := bind_of H
            refine AWp.mono (Q := fun e s => (match (generalizing := false) o1041 with | x980 => e = .normal ∧ s = ⟨[(0, .own 0), (1, iV .i64 a1), (2, iV .i64 a2), (3, .im (.sc (.func (.func 50) #[] #[]))), (9, iV .i64 x907), (10, iV .i64 x864)], [(0, some (.row 4 89 (x980.map eplan_Item)))], 1⟩)) (AWp.cv ?_) ?_
            · replace H := e1042; clear e1042
              refine AWp.cond (decide ((IntKind.i64.wrap (x907 - a1)) ≥ (2 : Int))) rfl (fun c928 => ?_) (fun c928 => ?_)
              · replace H := (ifT c928).symm.trans H
                refine AWp.seq ?_
                refine reg hP hn hm [] [0, 1, 2, 3, 9, 10, 11] [0] ⟨[(0, .own 0), (1, iV .i64 a1), (2, iV .i64 a2), (3, .im (.sc (.func (.func 50) #[] #[]))), (9, iV .i64 x907), (10, iV .i64 x864), (11, iV .i64 (IntKind.i64.wrap (x907 - (1 : Int))))], [(0, some (.row 4 89 (((x862.set (Int.toNat (x907)) b919).set (Int.toNat (IntKind.i64.wrap (x907 - (1 : Int)))) b922).map eplan_Item)))], 1⟩ [] (by kernel_rfl) trivial ?_
                refine AWp.block ?_
                obtain ⟨o1043, e1044, H⟩ := bind_of H
                refine AWp.loop (LWp.conv (inv := [(0, 0)]) (vk := []) (e0 := []) (t := ⟨[(0, .own 0), (1, iV .i64 a1), (2, iV .i64 a2), (3, .im (.sc (.func (.func 50) #[] #[]))), (9, iV .i64 x907), (10, iV .i64 x864), (11, iV .i64 (IntKind.i64.wrap (x907 - (1 : Int))))], [(0, some (.row 4 89 (((x862.set (Int.toNat (x907)) b919).set (Int.toNat (IntKind.i64.wrap (x907 - (1 : Int)))) b922).map eplan_Item)))], 1⟩) (by kernel_rfl) ?_)
                refine LWp.mono (Q := fun e s => (match (generalizing := false) o1043 with | x979 => e = .exit 4 ∧ s = ⟨[(0, .own 0), (1, iV .i64 a1), (2, iV .i64 a2), (3, .im (.sc (.func (.func 50) #[] #[]))), (9, iV .i64 x907), (10, iV .i64 x864)], [(0, some (.row 4 89 (x979.map eplan_Item)))], 1⟩)) (LWp.cv (withBody (fun body hbody => ?_))) ?_
                · refine f_slices_partialInsertionSortCmpFunc_plan_Item_plan_sorted_1.l2.partial_correctness a1 a2 x864 x907 (motive := fun x953 x954 o1043 => LWp Γ body (fun e s => ∃ t, Cv Γ s t ∧ (match (generalizing := false) o1043 with | x979 => e = .exit 4 ∧ t = ⟨[(0, .own 0), (1, iV .i64 a1), (2, iV .i64 a2), (3, .im (.sc (.func (.func 50) #[] #[]))), (9, iV .i64 x907), (10, iV .i64 x864)], [(0, some (.row 4 89 (x979.map eplan_Item)))], 1⟩)) ⟨[(0, .own 0), (1, iV .i64 a1), (2, iV .i64 a2), (3, .im (.sc (.func (.func 50) #[] #[]))), (9, iV .i64 x907), (10, iV .i64 x864), (11, iV .i64 x954)], [(0, some (.row 4 89 (x953.map eplan_Item)))], 1⟩) ?_ _ _ _ e1044
                  clear H e1044 o1043; intro self ih x953 x954 o1043 H
                  subst hbody
                  refine LWp.round ?_
                  refine AWp.seq ?_
                  refine AWp.seq ?_
                  refine reg hP hn hm [] [0, 1, 2, 3, 9, 10, 11, 69] [0] ⟨[(0, .own 0), (1, iV .i64 a1), (2, iV .i64 a2), (3, .im (.sc (.func (.func 50) #[] #[]))), (9, iV .i64 x907), (10, iV .i64 x864), (11, iV .i64 x954), (69, bV (decide (x954 ≥ (1 : Int))))], [(0, some (.row 4 89 (x953.map eplan_Item)))], 1⟩ [] (by kernel_rfl) trivial ?_
                  refine AWp.cond (decide (x954 ≥ (1 : Int))) rfl (fun c955 => ?_) (fun c955 => ?_)
                  · replace H := (ifT c955).symm.trans H
                    refine AWp.skip ?_
                    refine AWp.seq ?_
                    refine AWp.block ?_
                    refine AWp.seq ?_
                    refine AWp.seq ?_
                    obtain ⟨b964, p965, q966, H⟩ := at_of H
                    obtain ⟨b967, p968, q969, H⟩ := at_of H
                    obtain ⟨t970, e971, H⟩ := bind_of H
                    refine reg hP hn hm [(4, .c (eplan_Item b964)), (9, .c (eplan_Item b967)), (10, .call [] [] [] [] 0 (iV .i64 t970) [])] [0, 1, 2, 3, 9, 10, 11, 84] [0] ⟨[(0, .own 0), (1, iV .i64 a1), (2, iV .i64 a2), (3, .im (.sc (.func (.func 50) #[] #[]))), (9, iV .i64 x907), (10, iV .i64 x864), (11, iV .i64 x954), (84, bV (!(decide (t970 < (0 : Int)))))], [(0, some (.row 4 89 (x953.map eplan_Item)))], 1⟩ [0 ≤ x954, x954 < (((x953.map eplan_Item).length : Nat) : Int), (x953.map eplan_Item)[(Int.toNat (x954))]? = some (eplan_Item b964), 0 ≤ (IntKind.i64.wrap (x954 - (1 : Int))), IntKind.i64.wrap (x954 - (1 : Int)) < (((x953.map eplan_Item).length : Nat) : Int), (x953.map eplan_Item)[(Int.toNat (IntKind.i64.wrap (x954 - (1 : Int))))]? = some (eplan_Item b967), Enters Try.prog 50, Pv.Fn Try.prog 50 [.agg (apluvialref17_Item ⟨b964.f0, b964.f1.f0, b964.f1.f1, b964.f1.f2⟩), .agg (apluvialref17_Item ⟨b967.f0, b967.f1.f0, b967.f1.f1, b967.f1.f2⟩)] [] 0 (fun r o => r = iV .i64 t970 ∧ o = [])] (by kernel_rfl) ⟨by exact p965, by exact el_lt eplan_Item p965 q966, by exact el_map eplan_Item q966, by exact p968, by exact el_lt eplan_Item p968 q969, by exact el_map eplan_Item q969, by exact Try.call50, by exact f_plan_sorted_1.ok b964 b967 t970 e971, trivial⟩ ?_
                    refine AWp.cond (!(decide (t970 < (0 : Int)))) rfl (fun c972 => ?_) (fun c972 => ?_)
                    · replace H := (ifT c972).symm.trans H
                      refine AWp.exit ?_
                      obtain rfl := Option.some.inj H
                      exact Exists.intro _ (And.intro (fun _ _ h => h.conv (inv := [(0, 0)]) (vk := []) (e0 := []) (t := ⟨[(0, .own 0), (1, iV .i64 a1), (2, iV .i64 a2), (3, .im (.sc (.func (.func 50) #[] #[]))), (9, iV .i64 x907), (10, iV .i64 x864)], [(0, some (.row 4 89 (x953.map eplan_Item)))], 1⟩) (by kernel_rfl)) (And.intro rfl rfl))
                    · replace H := (ifF c972).symm.trans H
                      refine AWp.skip ?_
                      obtain ⟨b976, p977, q978, H⟩ := at_of H
                      refine reg hP hn hm [(9, .c (eplan_Item b967)), (13, .c (eplan_Item b964)), (15, .put (eplan_Item b964) ((x953.set (Int.toNat (x954)) b967).map eplan_Item)), (17, .put (eplan_Item b976) (((x953.set (Int.toNat (x954)) b967).set (Int.toNat (IntKind.i64.wrap (x954 - (1 : Int)))) b964).map eplan_Item))] [0, 1, 2, 3, 9, 10, 11] [0] ⟨[(0, .own 0), (1, iV .i64 a1), (2, iV .i64 a2), (3, .im (.sc (.func (.func 50) #[] #[]))), (9, iV .i64 x907), (10, iV .i64 x864), (11, iV .i64 x954)], [(0, some (.row 4 89 (((x953.set (Int.toNat (x954)) b967).set (Int.toNat (IntKind.i64.wrap (x954 - (1 : Int)))) b964).map eplan_Item)))], 1⟩ [0 ≤ (IntKind.i64.wrap (x954 - (1 : Int))), IntKind.i64.wrap (x954 - (1 : Int)) < (((x953.map eplan_Item).length : Nat) : Int), (x953.map eplan_Item)[(Int.toNat (IntKind.i64.wrap (x954 - (1 : Int))))]? = some (eplan_Item b967), 0 ≤ x954, x954 < (((x953.map eplan_Item).length : Nat) : Int), (x953.map eplan_Item)[(Int.toNat (x954))]? = some (eplan_Item b964), 0 ≤ x954, x954 < (((x953.map eplan_Item).length : Nat) : Int), (x953.map eplan_Item)[(Int.toNat (x954))]? = some (eplan_Item b964), (x953.set (Int.toNat (x954)) b967).map eplan_Item = (x953.map eplan_Item).set (Int.toNat (x954)) (splice (eplan_Item b964) 0 [iI .i64 b967.f0, iI .i64 b967.f1.f0, iI .i64 b967.f1.f1, iI .i64 b967.f1.f2]), 0 ≤ (IntKind.i64.wrap (x954 - (1 : Int))), IntKind.i64.wrap (x954 - (1 : Int)) < ((((x953.set (Int.toNat (x954)) b967).map eplan_Item).length : Nat) : Int), ((x953.set (Int.toNat (x954)) b967).map eplan_Item)[(Int.toNat (IntKind.i64.wrap (x954 - (1 : Int))))]? = some (eplan_Item b976), ((x953.set (Int.toNat (x954)) b967).set (Int.toNat (IntKind.i64.wrap (x954 - (1 : Int)))) b964).map eplan_Item = ((x953.set (Int.toNat (x954)) b967).map eplan_Item).set (Int.toNat (IntKind.i64.wrap (x954 - (1 : Int)))) (splice (eplan_Item b976) 0 [iI .i64 b964.f0, iI .i64 b964.f1.f0, iI .i64 b964.f1.f1, iI .i64 b964.f1.f2])] (by kernel_rfl) ⟨by exact p968, by exact el_lt eplan_Item p968 q969, by exact el_map eplan_Item q969, by exact p965, by exact el_lt eplan_Item p965 q966, by exact el_map eplan_Item q966, by exact p965, by exact el_lt eplan_Item p965 q966, by exact el_map eplan_Item q966, by exact set1 _ _ _ _, by exact p977, by exact el_lt eplan_Item p977 q978, by exact el_map eplan_Item q978, by exact set1 _ _ _ _, trivial⟩ ?_
                      refine reg hP hn hm [] [0, 1, 2, 3, 9, 10, 11] [0] ⟨[(0, .own 0), (1, iV .i64 a1), (2, iV .i64 a2), (3, .im (.sc (.func (.func 50) #[] #[]))), (9, iV .i64 x907), (10, iV .i64 x864), (11, iV .i64 (IntKind.i64.wrap (x954 - (1 : Int))))], [(0, some (.row 4 89 (((x953.set (Int.toNat (x954)) b967).set (Int.toNat (IntKind.i64.wrap (x954 - (1 : Int)))) b964).map eplan_Item)))], 1⟩ [] (by kernel_rfl) trivial ?_
                      exact LWp.conv (inv := [(0, 0)]) (vk := []) (e0 := []) (t := ⟨[(0, .own 0), (1, iV .i64 a1), (2, iV .i64 a2), (3, .im (.sc (.func (.func 50) #[] #[]))), (9, iV .i64 x907), (10, iV .i64 x864), (11, iV .i64 (IntKind.i64.wrap (x954 - (1 : Int))))], [(0, some (.row 4 89 (((x953.set (Int.toNat (x954)) b967).set (Int.toNat (IntKind.i64.wrap (x954 - (1 : Int)))) b964).map eplan_Item)))], 1⟩) (by kernel_rfl) (ih _ _ _ H)
                  · replace H := (ifF c955).symm.trans H
                    refine AWp.exit ?_
                    obtain rfl := Option.some.inj H
                    exact Exists.intro _ (And.intro (fun _ _ h => h.conv (inv := [(0, 0)]) (vk := []) (e0 := []) (t := ⟨[(0, .own 0), (1, iV .i64 a1), (2, iV .i64 a2), (3, .im (.sc (.func (.func 50) #[] #[]))), (9, iV .i64 x907), (10, iV .i64 x864)], [(0, some (.row 4 89 (x953.map eplan_Item)))], 1⟩) (by kernel_rfl)) (And.intro rfl rfl))
                · obtain ⟨x979, rfl⟩ : ∃ z, z = o1043 := ⟨_, rfl⟩
                  rintro e s ⟨rfl, rfl⟩
                  obtain rfl := Option.some.inj H
                  exact Exists.intro _ (And.intro (fun _ _ h => h.conv (inv := [(0, 0)]) (vk := []) (e0 := []) (t := ⟨[(0, .own 0), (1, iV .i64 a1), (2, iV .i64 a2), (3, .im (.sc (.func (.func 50) #[] #[]))), (9, iV .i64 x907), (10, iV .i64 x864)], [(0, some (.row 4 89 (x979.map eplan_Item)))], 1⟩) (by kernel_rfl)) (And.intro rfl rfl))
              · replace H := (ifF c928).symm.trans H
                refine AWp.skip ?_
                obtain rfl := Option.some.inj H
                exact Exists.intro _ (And.intro (fun _ _ h => h.conv (inv := [(0, 0)]) (vk := []) (e0 := []) (t := ⟨[(0, .own 0), (1, iV .i64 a1), (2, iV .i64 a2), (3, .im (.sc (.func (.func 50) #[] #[]))), (9, iV .i64 x907), (10, iV .i64 x864)], [(0, some (.row 4 89 (((x862.set (Int.toNat (x907)) b919).set (Int.toNat (IntKind.i64.wrap (x907 - (1 : Int)))) b922).map eplan_Item)))], 1⟩) (by kernel_rfl)) (And.intro rfl rfl))
            · obtain ⟨x980, rfl⟩ : ∃ z, z = o1041 := ⟨_, rfl⟩
              rintro e s ⟨rfl, rfl⟩
              refine AWp.seq ?_
              refine reg hP hn hm [] [0, 1, 2, 3, 9, 10, 104] [0] ⟨[(0, .own 0), (1, iV .i64 a1), (2, iV .i64 a2), (3, .im (.sc (.func (.func 50) #[] #[]))), (9, iV .i64 x907), (10, iV .i64 x864), (104, bV (decide ((IntKind.i64.wrap (a2 - x907)) ≥ (2 : Int))))], [(0, some (.row 4 89 (x980.map eplan_Item)))], 1⟩ [] (by kernel_rfl) trivial ?_
              obtain ⟨o1045, e1046, H⟩ := bind_of H
              refine AWp.mono (Q := fun e s => (match (generalizing := false) o1045 with | x1033 => e = .normal ∧ s = ⟨[(0, .own 0), (1, iV .i64 a1), (2, iV .i64 a2), (3, .im (.sc (.func (.func 50) #[] #[]))), (9, iV .i64 x907), (10, iV .i64 x864)], [(0, some (.row 4 89 (x1033.map eplan_Item)))], 1⟩)) (AWp.cv ?_) ?_
              · replace H := e1046; clear e1046
                refine AWp.cond (decide ((IntKind.i64.wrap (a2 - x907)) ≥ (2 : Int))) rfl (fun c981 => ?_) (fun c981 => ?_)
                · replace H := (ifT c981).symm.trans H
                  refine AWp.seq ?_
                  refine reg hP hn hm [] [0, 1, 2, 3, 9, 10, 12] [0] ⟨[(0, .own 0), (1, iV .i64 a1), (2, iV .i64 a2), (3, .im (.sc (.func (.func 50) #[] #[]))), (9, iV .i64 x907), (10, iV .i64 x864), (12, iV .i64 (IntKind.i64.wrap (x907 + (1 : Int))))], [(0, some (.row 4 89 (x980.map eplan_Item)))], 1⟩ [] (by kernel_rfl) trivial ?_
                  refine AWp.block ?_
                  obtain ⟨o1047, e1048, H⟩ := bind_of H
                  refine AWp.loop (LWp.conv (inv := [(0, 0)]) (vk := []) (e0 := []) (t := ⟨[(0, .own 0), (1, iV .i64 a1), (2, iV .i64 a2), (3, .im (.sc (.func (.func 50) #[] #[]))), (9, iV .i64 x907), (10, iV .i64 x864), (12, iV .i64 (IntKind.i64.wrap (x907 + (1 : Int))))], [(0, some (.row 4 89 (x980.map eplan_Item)))], 1⟩) (by kernel_rfl) ?_)
                  refine LWp.mono (Q := fun e s => (match (generalizing := false) o1047 with | x1032 => e = .exit 6 ∧ s = ⟨[(0, .own 0), (1, iV .i64 a1), (2, iV .i64 a2), (3, .im (.sc (.func (.func 50) #[] #[]))), (9, iV .i64 x907), (10, iV .i64 x864)], [(0, some (.row 4 89 (x1032.map eplan_Item)))], 1⟩)) (LWp.cv (withBody (fun body hbody => ?_))) ?_
                  · refine f_slices_partialInsertionSortCmpFunc_plan_Item_plan_sorted_1.l3.partial_correctness a1 a2 x864 x907 (motive := fun x1006 x1007 o1047 => LWp Γ body (fun e s => ∃ t, Cv Γ s t ∧ (match (generalizing := false) o1047 with | x1032 => e = .exit 6 ∧ t = ⟨[(0, .own 0), (1, iV .i64 a1), (2, iV .i64 a2), (3, .im (.sc (.func (.func 50) #[] #[]))), (9, iV .i64 x907), (10, iV .i64 x864)], [(0, some (.row 4 89 (x1032.map eplan_Item)))], 1⟩)) ⟨[(0, .own 0), (1, iV .i64 a1), (2, iV .i64 a2), (3, .im (.sc (.func (.func 50) #[] #[]))), (9, iV .i64 x907), (10, iV .i64 x864), (12, iV .i64 x1007)], [(0, some (.row 4 89 (x1006.map eplan_Item)))], 1⟩) ?_ _ _ _ e1048
                    clear H e1048 o1047; intro self ih x1006 x1007 o1047 H
                    subst hbody
                    refine LWp.round ?_
                    refine AWp.seq ?_
                    refine AWp.seq ?_
                    refine reg hP hn hm [] [0, 1, 2, 3, 9, 10, 12, 109] [0] ⟨[(0, .own 0), (1, iV .i64 a1), (2, iV .i64 a2), (3, .im (.sc (.func (.func 50) #[] #[]))), (9, iV .i64 x907), (10, iV .i64 x864), (12, iV .i64 x1007), (109, bV (decide (x1007 < a2)))], [(0, some (.row 4 89 (x1006.map eplan_Item)))], 1⟩ [] (by kernel_rfl) trivial ?_
                    refine AWp.cond (decide (x1007 < a2)) rfl (fun c1008 => ?_) (fun c1008 => ?_)
                    · replace H := (ifT c1008).symm.trans H
                      refine AWp.skip ?_
                      refine AWp.seq ?_
                      refine AWp.block ?_
                      refine AWp.seq ?_
                      refine AWp.seq ?_
                      obtain ⟨b1017, p1018, q1019, H⟩ := at_of H
                      obtain ⟨b1020, p1021, q1022, H⟩ := at_of H
                      obtain ⟨t1023, e1024, H⟩ := bind_of H
                      refine reg hP hn hm [(4, .c (eplan_Item b1017)), (9, .c (eplan_Item b1020)), (10, .call [] [] [] [] 0 (iV .i64 t1023) [])] [0, 1, 2, 3, 9, 10, 12, 124] [0] ⟨[(0, .own 0), (1, iV .i64 a1), (2, iV .i64 a2), (3, .im (.sc (.func (.func 50) #[] #[]))), (9, iV .i64 x907), (10, iV .i64 x864), (12, iV .i64 x1007), (124, bV (!(decide (t1023 < (0 : Int)))))], [(0, some (.row 4 89 (x1006.map eplan_Item)))], 1⟩ [0 ≤ x1007, x1007 < (((x1006.map eplan_Item).length : Nat) : Int), (x1006.map eplan_Item)[(Int.toNat (x1007))]? = some (eplan_Item b1017), 0 ≤ (IntKind.i64.wrap (x1007 - (1 : Int))), IntKind.i64.wrap (x1007 - (1 : Int)) < (((x1006.map eplan_Item).length : Nat) : Int), (x1006.map eplan_Item)[(Int.toNat (IntKind.i64.wrap (x1007 - (1 : Int))))]? = some (eplan_Item b1020), Enters Try.prog 50, Pv.Fn Try.prog 50 [.agg (apluvialref17_Item ⟨b1017.f0, b1017.f1.f0, b1017.f1.f1, b1017.f1.f2⟩), .agg (apluvialref17_Item ⟨b1020.f0, b1020.f1.f0, b1020.f1.f1, b1020.f1.f2⟩)] [] 0 (fun r o => r = iV .i64 t1023 ∧ o = [])] (by kernel_rfl) ⟨by exact p1018, by exact el_lt eplan_Item p1018 q1019, by exact el_map eplan_Item q1019, by exact p1021, by exact el_lt eplan_Item p1021 q1022, by exact el_map eplan_Item q1022, by exact Try.call50, by exact f_plan_sorted_1.ok b1017 b1020 t1023 e1024, trivial⟩ ?_
                      refine AWp.cond (!(decide (t1023 < (0 : Int)))) rfl (fun c1025 => ?_) (fun c1025 => ?_)
                      · replace H := (ifT c1025).symm.trans H
                        refine AWp.exit ?_
                        obtain rfl := Option.some.inj H
                        exact Exists.intro _ (And.intro (fun _ _ h => h.conv (inv := [(0, 0)]) (vk := []) (e0 := []) (t := ⟨[(0, .own 0), (1, iV .i64 a1), (2, iV .i64 a2), (3, .im (.sc (.func (.func 50) #[] #[]))), (9, iV .i64 x907), (10, iV .i64 x864)], [(0, some (.row 4 89 (x1006.map eplan_Item)))], 1⟩) (by kernel_rfl)) (And.intro rfl rfl))
                      · replace H := (ifF c1025).symm.trans H
                        refine AWp.skip ?_
                        obtain ⟨b1029, p1030, q1031, H⟩ := at_of H
                        refine reg hP hn hm [(9, .c (eplan_Item b1020)), (13, .c (eplan_Item b1017)), (15, .put (eplan_Item b1017) ((x1006.set (Int.toNat (x1007)) b1020).map eplan_Item)), (17, .put (eplan_Item b1029) (((x1006.set (Int.toNat (x1007)) b1020).set (Int.toNat (IntKind.i64.wrap (x1007 - (1 : Int)))) b1017).map eplan_Item))] [0, 1, 2, 3, 9, 10, 12] [0] ⟨[(0, .own 0), (1, iV .i64 a1), (2, iV .i64 a2), (3, .im (.sc (.func (.func 50) #[] #[]))), (9, iV .i64 x907), (10, iV .i64 x864), (12, iV .i64 x1007)], [(0, some (.row 4 89 (((x1006.set (Int.toNat (x1007)) b1020).set (Int.toNat (IntKind.i64.wrap (x1007 - (1 : Int)))) b1017).map eplan_Item)))], 1⟩ [0 ≤ (IntKind.i64.wrap (x1007 - (1 : Int))), IntKind.i64.wrap (x1007 - (1 : Int)) < (((x1006.map eplan_Item).length : Nat) : Int), (x1006.map eplan_Item)[(Int.toNat (IntKind.i64.wrap (x1007 - (1 : Int))))]? = some (eplan_Item b1020), 0 ≤ x1007, x1007 < (((x1006.map eplan_Item).length : Nat) : Int), (x1006.map eplan_Item)[(Int.toNat (x1007))]? = some (eplan_Item b1017), 0 ≤ x1007, x1007 < (((x1006.map eplan_Item).length : Nat) : Int), (x1006.map eplan_Item)[(Int.toNat (x1007))]? = some (eplan_Item b1017), (x1006.set (Int.toNat (x1007)) b1020).map eplan_Item = (x1006.map eplan_Item).set (Int.toNat (x1007)) (splice (eplan_Item b1017) 0 [iI .i64 b1020.f0, iI .i64 b1020.f1.f0, iI .i64 b1020.f1.f1, iI .i64 b1020.f1.f2]), 0 ≤ (IntKind.i64.wrap (x1007 - (1 : Int))), IntKind.i64.wrap (x1007 - (1 : Int)) < ((((x1006.set (Int.toNat (x1007)) b1020).map eplan_Item).length : Nat) : Int), ((x1006.set (Int.toNat (x1007)) b1020).map eplan_Item)[(Int.toNat (IntKind.i64.wrap (x1007 - (1 : Int))))]? = some (eplan_Item b1029), ((x1006.set (Int.toNat (x1007)) b1020).set (Int.toNat (IntKind.i64.wrap (x1007 - (1 : Int)))) b1017).map eplan_Item = ((x1006.set (Int.toNat (x1007)) b1020).map eplan_Item).set (Int.toNat (IntKind.i64.wrap (x1007 - (1 : Int)))) (splice (eplan_Item b1029) 0 [iI .i64 b1017.f0, iI .i64 b1017.f1.f0, iI .i64 b1017.f1.f1, iI .i64 b1017.f1.f2])] (by kernel_rfl) ⟨by exact p1021, by exact el_lt eplan_Item p1021 q1022, by exact el_map eplan_Item q1022, by exact p1018, by exact el_lt eplan_Item p1018 q1019, by exact el_map eplan_Item q1019, by exact p1018, by exact el_lt eplan_Item p1018 q1019, by exact el_map eplan_Item q1019, by exact set1 _ _ _ _, by exact p1030, by exact el_lt eplan_Item p1030 q1031, by exact el_map eplan_Item q1031, by exact set1 _ _ _ _, trivial⟩ ?_
                        refine reg hP hn hm [] [0, 1, 2, 3, 9, 10, 12] [0] ⟨[(0, .own 0), (1, iV .i64 a1), (2, iV .i64 a2), (3, .im (.sc (.func (.func 50) #[] #[]))), (9, iV .i64 x907), (10, iV .i64 x864), (12, iV .i64 (IntKind.i64.wrap (x1007 + (1 : Int))))], [(0, some (.row 4 89 (((x1006.set (Int.toNat (x1007)) b1020).set (Int.toNat (IntKind.i64.wrap (x1007 - (1 : Int)))) b1017).map eplan_Item)))], 1⟩ [] (by kernel_rfl) trivial ?_
                        exact LWp.conv (inv := [(0, 0)]) (vk := []) (e0 := []) (t := ⟨[(0, .own 0), (1, iV .i64 a1), (2, iV .i64 a2), (3, .im (.sc (.func (.func 50) #[] #[]))), (9, iV .i64 x907), (10, iV .i64 x864), (12, iV .i64 (IntKind.i64.wrap (x1007 + (1 : Int))))], [(0, some (.row 4 89 (((x1006.set (Int.toNat (x1007)) b1020).set (Int.toNat (IntKind.i64.wrap (x1007 - (1 : Int)))) b1017).map eplan_Item)))], 1⟩) (by kernel_rfl) (ih _ _ _ H)
                    · replace H := (ifF c1008).symm.trans H
                      refine AWp.exit ?_
                      obtain rfl := Option.some.inj H
                      exact Exists.intro _ (And.intro (fun _ _ h => h.conv (inv := [(0, 0)]) (vk := []) (e0 := []) (t := ⟨[(0, .own 0), (1, iV .i64 a1), (2, iV .i64 a2), (3, .im (.sc (.func (.func 50) #[] #[]))), (9, iV .i64 x907), (10, iV .i64 x864)], [(0, some (.row 4 89 (x1006.map eplan_Item)))], 1⟩) (by kernel_rfl)) (And.intro rfl rfl))
                  · obtain ⟨x1032, rfl⟩ : ∃ z, z = o1047 := ⟨_, rfl⟩
                    rintro e s ⟨rfl, rfl⟩
                    obtain rfl := Option.some.inj H
                    exact Exists.intro _ (And.intro (fun _ _ h => h.conv (inv := [(0, 0)]) (vk := []) (e0 := []) (t := ⟨[(0, .own 0), (1, iV .i64 a1), (2, iV .i64 a2), (3, .im (.sc (.func (.func 50) #[] #[]))), (9, iV .i64 x907), (10, iV .i64 x864)], [(0, some (.row 4 89 (x1032.map eplan_Item)))], 1⟩) (by kernel_rfl)) (And.intro rfl rfl))
                · replace H := (ifF c981).symm.trans H
                  refine AWp.skip ?_
                  obtain rfl := Option.some.inj H
                  exact Exists.intro _ (And.intro (fun _ _ h => h.conv (inv := [(0, 0)]) (vk := []) (e0 := []) (t := ⟨[(0, .own 0), (1, iV .i64 a1), (2, iV .i64 a2), (3, .im (.sc (.func (.func 50) #[] #[]))), (9, iV .i64 x907), (10, iV .i64 x864)], [(0, some (.row 4 89 (x980.map eplan_Item)))], 1⟩) (by kernel_rfl)) (And.intro rfl rfl))
              · obtain ⟨x1033, rfl⟩ : ∃ z, z = o1045 := ⟨_, rfl⟩
                rintro e s ⟨rfl, rfl⟩
                refine reg hP hn hm [] [0, 1, 2, 3, 9, 10] [0] ⟨[(0, .own 0), (1, iV .i64 a1), (2, iV .i64 a2), (3, .im (.sc (.func (.func 50) #[] #[]))), (9, iV .i64 x907), (10, iV .i64 (IntKind.i64.wrap (x864 + (1 : Int))))], [(0, some (.row 4 89 (x1033.map eplan_Item)))], 1⟩ [] (by kernel_rfl) trivial ?_
                exact LWp.conv (inv := [(0, 0)]) (vk := []) (e0 := []) (t := ⟨[(0, .own 0), (1, iV .i64 a1), (2, iV .i64 a2), (3, .im (.sc (.func (.func 50) #[] #[]))), (9, iV .i64 x907), (10, iV .i64 (IntKind.i64.wrap (x864 + (1 : Int))))], [(0, some (.row 4 89 (x1033.map eplan_Item)))], 1⟩) (by kernel_rfl) (ih _ _ _ _ H)
    · replace H := (ifF c865).symm.trans H
      refine AWp.exit ?_
      obtain rfl := Option.some.inj H
      exact Exists.intro _ (And.intro (fun _ _ h => h.conv (inv := [(0, 0)]) (vk := []) (e0 := []) (t := ⟨[], [(0, some (.row 4 89 (x862.map eplan_Item)))], 1⟩) (by kernel_rfl)) (And.intro rfl rfl))
  · rcases o1035 with rr | x1034
    · skip
      rintro e s ⟨rfl, hfl, hres⟩
      obtain rfl := Option.some.inj H
      exact Exists.intro _ (And.intro (fun _ _ h => h) (And.intro (.inl rfl) (And.intro hfl hres)))
    · skip
      rintro e s ⟨rfl, rfl⟩
      refine AWp.seq ?_
      refine reg hP hn hm [] [8] [0] ⟨[(8, bV false)], [(0, some (.row 4 89 (x1034.map eplan_Item)))], 1⟩ [] (by kernel_rfl) trivial ?_
      refine AWp.conv (inv := [(0, 0)]) (vk := []) (e0 := []) (t := ⟨[(8, bV false)], [(0, some (.row 4 89 (x1034.map eplan_Item)))], 1⟩) (by kernel_rfl) ?_
      refine AWp.ret ?_
      obtain rfl := Option.some.inj H
      exact Exists.intro _ (And.intro (fun _ _ h => h) (And.intro (.inl rfl) (And.intro rfl (And.intro (by kernel_rfl) (by kernel_rfl)))))
def f_slices_partitionEqualCmpFunc_plan_Item_plan_sorted_1.l1 (a1 : Int) (x1196 : List Tplan_Item) (x1198 : Int) (x1219 : Int) : Option (Int) := ((if (decide (x1219 ≤ x1198)) = true then ((at? x1196 a1) >>= fun b1230 => (at? x1196 x1219) >>= fun b1233 => (f_plan_sorted_1.f b1230 b1233) >>= fun t1236 => some (!(decide (t1236 < (0 : Int))))) else (some false)) : Option (Bool)) >>= fun x1238 => if x1238 = true then (f_slices_partitionEqualCmpFunc_plan_Item_plan_sorted_1.l1 a1 x1196 x1198 (IntKind.i64.wrap (x1219 + (1 : Int)))) else (some x1219)
partial_fixpoint
def f_slices_partitionEqualCmpFunc_plan_Item_plan_sorted_1.l2 (a1 : Int) (x1196 : List Tplan_Item) (x1240 : Int) (x1261 : Int) : Option (Int) := ((if (decide (x1240 ≤ x1261)) = true then ((at? x1196 a1) >>= fun b1272 => (at? x1196 x1261) >>= fun b1275 => (f_plan_sorted_1.f b1272 b1275) >>= fun t1278 => some (decide (t1278 < (0 : Int)))) else (some false)) : Option (Bool)) >>= fun x1280 => if x1280 = true then (f_slices_partitionEqualCmpFunc_plan_Item_plan_sorted_1.l2 a1 x1196 x1240 (IntKind.i64.wrap (x1261 - (1 : Int)))) else (some x1261)
partial_fixpoint
def f_slices_partitionEqualCmpFunc_plan_Item_plan_sorted_1.l0 (a1 : Int) (x1196 : List Tplan_Item) (x1197 : Int) (x1198 : Int) : Option (Int × (List Tplan_Item)) := (f_slices_partitionEqualCmpFunc_plan_Item_plan_sorted_1.l1 a1 x1196 x1198 x1197) >>= fun x1240 => (f_slices_partitionEqualCmpFunc_plan_Item_plan_sorted_1.l2 a1 x1196 x1240 x1198) >>= fun x1282 => if (decide (x1240 > x1282)) = true then (some (x1240, x1196)) else ((at? x1196 x1282) >>= fun b1293 => (at? x1196 x1240) >>= fun b1296 => (at? (x1196.set (Int.toNat (x1240)) b1293) x1282) >>= fun b1299 => f_slices_partitionEqualCmpFunc_plan_Item_plan_sorted_1.l0 a1 ((x1196.set (Int.toNat (x1240)) b1293).set (Int.toNat (x1282)) b1296) (IntKind.i64.wrap (x1240 + (1 : Int))) (IntKind.i64.wrap (x1282 - (1 : Int))))
partial_fixpoint
def f_slices_partitionEqualCmpFunc_plan_Item_plan_sorted_1.f (a0 : List Tplan_Item) (a1 : Int) (a2 : Int) (a3 : Int) : Option (Int × (List Tplan_Item)) := (at? a0 a3) >>= fun b1084 => (at? a0 a1) >>= fun b1087 => (at? (a0.set (Int.toNat (a1)) b1084) a3) >>= fun b1090 => (f_slices_partitionEqualCmpFunc_plan_Item_plan_sorted_1.l0 a1 ((a0.set (Int.toNat (a1)) b1084).set (Int.toNat (a3)) b1087) (IntKind.i64.wrap (a1 + (1 : Int))) (IntKind.i64.wrap (a2 - (1 : Int)))) >>= fun oo => match oo with | (x1302, x1303) => (some (x1302, x1303))
theorem f_slices_partitionEqualCmpFunc_plan_Item_plan_sorted_1.ok (a0 : List Tplan_Item) (a1 : Int) (a2 : Int) (a3 : Int) (r : Int × (List Tplan_Item)) (H : f_slices_partitionEqualCmpFunc_plan_Item_plan_sorted_1.f a0 a1 a2 a3 = some r) : Pv.Fn Try.prog 110 [.own 0, iV .i64 a1, iV .i64 a2, iV .i64 a3, .im (.sc (.func (.func 50) #[] #[]))] [(0, some (.row 4 89 (a0.map eplan_Item)))] 1 (fun x o => x = iV .i64 r.1 ∧ o = [(0, some (.row 4 89 (r.2.map eplan_Item)))]) := by
  unfold f_slices_partitionEqualCmpFunc_plan_Item_plan_sorted_1.f at H
  refine Fn.bodyK [0] Try.func110 rfl rfl (fun Γ hP hn => ?_)
  have hm : Try.prog.follows .mixedOrders = true := by kernel_rfl
  replace hn : Γ.n = 90 := hn
  refine AWp.seq ?_
  refine reg hP hn hm [] [0, 1, 2, 3, 4] [0] ⟨[(0, .own 0), (1, iV .i64 a1), (2, iV .i64 a2), (3, iV .i64 a3), (4, .im (.sc (.func (.func 50) #[] #[])))], [(0, some (.row 4 89 (a0.map eplan_Item)))], 1⟩ [] (by kernel_rfl) trivial ?_
  refine AWp.seq ?_
  obtain ⟨b1084, p1085, q1086, H⟩ := at_of H
  obtain ⟨b1087, p1088, q1089, H⟩ := at_of H
  obtain ⟨b1090, p1091, q1092, H⟩ := at_of H
  refine reg hP hn hm [(7, .c (eplan_Item b1084)), (11, .c (eplan_Item b1087)), (13, .put (eplan_Item b1087) ((a0.set (Int.toNat (a1)) b1084).map eplan_Item)), (15, .put (eplan_Item b1090) (((a0.set (Int.toNat (a1)) b1084).set (Int.toNat (a3)) b1087).map eplan_Item))] [0, 1, 2, 4] [0] ⟨[(0, .own 0), (1, iV .i64 a1), (2, iV .i64 a2), (4, .im (.sc (.func (.func 50) #[] #[])))], [(0, some (.row 4 89 (((a0.set (Int.toNat (a1)) b1084).set (Int.toNat (a3)) b1087).map eplan_Item)))], 1⟩ [0 ≤ a3, a3 < (((a0.map eplan_Item).length : Nat) : Int), (a0.map eplan_Item)[(Int.toNat (a3))]? = some (eplan_Item b1084), 0 ≤ a1, a1 < (((a0.map eplan_Item).length : Nat) : Int), (a0.map eplan_Item)[(Int.toNat (a1))]? = some (eplan_Item b1087), 0 ≤ a1, a1 < (((a0.map eplan_Item).length : Nat) : Int), (a0.map eplan_Item)[(Int.toNat (a1))]? = some (eplan_Item b1087), (a0.set (Int.toNat (a1)) b1084).map eplan_Item = (a0.map eplan_Item).set (Int.toNat (a1)) (splice (eplan_Item b1087) 0 [iI .i64 b1084.f0, iI .i64 b1084.f1.f0, iI .i64 b1084.f1.f1, iI .i64 b1084.f1.f2]), 0 ≤ a3, a3 < ((((a0.set (Int.toNat (a1)) b1084).map eplan_Item).length : Nat) : Int), ((a0.set (Int.toNat (a1)) b1084).map eplan_Item)[(Int.toNat (a3))]? = some (eplan_Item b1090), ((a0.set (Int.toNat (a1)) b1084).set (Int.toNat (a3)) b1087).map eplan_Item = ((a0.set (Int.toNat (a1)) b1084).map eplan_Item).set (Int.toNat (a3)) (splice (eplan_Item b1090) 0 [iI .i64 b1087.f0, iI .i64 b1087.f1.f0, iI .i64 b1087.f1.f1, iI .i64 b1087.f1.f2])] (by kernel_rfl) ⟨by exact p1085, by exact el_lt eplan_Item p1085 q1086, by exact el_map eplan_Item q1086, by exact p1088, by exact el_lt eplan_Item p1088 q1089, by exact el_map eplan_Item q1089, by exact p1088, by exact el_lt eplan_Item p1088 q1089, by exact el_map eplan_Item q1089, by exact set1 _ _ _ _, by exact p1091, by exact el_lt eplan_Item p1091 q1092, by exact el_map eplan_Item q1092, by exact set1 _ _ _ _, trivial⟩ ?_
  refine AWp.seq ?_
  refine reg hP hn hm [] [0, 1, 4, 11, 12] [0] ⟨[(0, .own 0), (1, iV .i64 a1), (4, .im (.sc (.func (.func 50) #[] #[]))), (11, iV .i64 (IntKind.i64.wrap (a1 + (1 : Int)))), (12, iV .i64 (IntKind.i64.wrap (a2 - (1 : Int))))], [(0, some (.row 4 89 (((a0.set (Int.toNat (a1)) b1084).set (Int.toNat (a3)) b1087).map eplan_Item)))], 1⟩ [] (by kernel_rfl) trivial ?_
  refine AWp.seq ?_
  refine AWp.block ?_
  obtain ⟨o1304, e1305, H⟩ := bind_of H
  refine AWp.loop (LWp.conv (inv := [(0, 0)]) (vk := []) (e0 := []) (t := ⟨[(0, .own 0), (1, iV .i64 a1), (4, .im (.sc (.func (.func 50) #[] #[]))), (11, iV .i64 (IntKind.i64.wrap (a1 + (1 : Int)))), (12, iV .i64 (IntKind.i64.wrap (a2 - (1 : Int))))], [(0, some (.row 4 89 (((a0.set (Int.toNat (a1)) b1084).set (Int.toNat (a3)) b1087).map eplan_Item)))], 1⟩) (by kernel_rfl) ?_)
  refine LWp.mono (Q := fun e s => (match (generalizing := false) o1304 with | (x1302, x1303) => e = .exit 0 ∧ s = ⟨[(11, iV .i64 x1302)], [(0, some (.row 4 89 (x1303.map eplan_Item)))], 1⟩)) (LWp.cv (withBody (fun body hbody => ?_))) ?_
  · refine f_slices_partitionEqualCmpFunc_plan_Item_plan_sorted_1.l0.partial_correctness a1 (motive := fun x1196 x1197 x1198 o1304 => LWp Γ body (fun e s => ∃ t, Cv Γ s t ∧ (match (generalizing := false) o1304 with | (x1302, x1303) => e = .exit 0 ∧ t = ⟨[(11, iV .i64 x1302)], [(0, some (.row 4 89 (x1303.map eplan_Item)))], 1⟩)) ⟨[(0, .own 0), (1, iV .i64 a1), (4, .im (.sc (.func (.func 50) #[] #[]))), (11, iV .i64 x1197), (12, iV .i64 x1198)], [(0, some (.row 4 89 (x1196.map eplan_Item)))], 1⟩) ?_ _ _ _ _ e1305
    clear H e1305 o1304; intro self ih x1196 x1197 x1198 o1304 H
    subst hbody
    refine LWp.round ?_
    refine AWp.block ?_
    refine AWp.seq ?_
    refine AWp.block ?_
    obtain ⟨o1306, e1307, H⟩ := bind_of H
    refine AWp.loop (LWp.conv (inv := [(0, 0)]) (vk := []) (e0 := []) (t := ⟨[(0, .own 0), (1, iV .i64 a1), (4, .im (.sc (.func (.func 50) #[] #[]))), (11, iV .i64 x1197), (12, iV .i64 x1198)], [(0, some (.row 4 89 (x1196.map eplan_Item)))], 1⟩) (by kernel_rfl) ?_)
    refine LWp.mono (Q := fun e s => (match (generalizing := false) o1306 with | x1240 => e = .exit 2 ∧ s = ⟨[(0, .own 0), (1, iV .i64 a1), (4, .im (.sc (.func (.func 50) #[] #[]))), (11, iV .i64 x1240), (12, iV .i64 x1198)], [(0, some (.row 4 89 (x1196.map eplan_Item)))], 1⟩)) (LWp.cv (withBody (fun body hbody => ?_))) ?_
    · refine f_slices_partitionEqualCmpFunc_plan_Item_plan_sorted_1.l1.partial_correctness a1 x1196 x1198 (motive := fun x1219 o1306 => LWp Γ body (fun e s => ∃ t, Cv Γ s t ∧ (match (generalizing := false) o1306 with | x1240 => e = .exit 2 ∧ t = ⟨[(0, .own 0), (1, iV .i64 a1), (4, .im (.sc (.func (.func 50) #[] #[]))), (11, iV .i64 x1240), (12, iV .i64 x1198)], [(0, some (.row 4 89 (x1196.map eplan_Item)))], 1⟩)) ⟨[(0, .own 0), (1, iV .i64 a1), (4, .im (.sc (.func (.func 50) #[] #[]))), (11, iV .i64 x1219), (12, iV .i64 x1198)], [(0, some (.row 4 89 (x1196.map eplan_Item)))], 1⟩) ?_ _ _ e1307
      clear H e1307 o1306; intro self ih x1219 o1306 H
      subst hbody
      refine LWp.round ?_
      refine AWp.seq ?_
      refine AWp.seq ?_
      obtain ⟨o1308, e1309, H⟩ := bind_of H
      refine AWp.mono (Q := fun e s => (match (generalizing := false) o1308 with | x1238 => e = .normal ∧ s = ⟨[(0, .own 0), (1, iV .i64 a1), (4, .im (.sc (.func (.func 50) #[] #[]))), (11, iV .i64 x1219), (12, iV .i64 x1198), (47, bV x1238)], [(0, some (.row 4 89 (x1196.map eplan_Item)))], 1⟩)) (AWp.cv ?_) ?_
      · replace H := e1309; clear e1309
        rcases Bool.eq_false_or_eq_true (decide (x1219 ≤ x1198)) with c1229 | c1229
        · replace H := (ifT c1229).symm.trans H
          obtain ⟨b1230, p1231, q1232, H⟩ := at_of H
          obtain ⟨b1233, p1234, q1235, H⟩ := at_of H
          obtain ⟨t1236, e1237, H⟩ := bind_of H
          refine reg hP hn hm [(3, .b true), (8, .c (eplan_Item b1230)), (12, .c (eplan_Item b1233)), (13, .call [] [] [] [] 0 (iV .i64 t1236) [])] [0, 1, 4, 11, 12, 35, 36, 37, 38, 39, 40, 41, 42, 43, 44, 45, 46, 47] [0] ⟨[(0, .own 0), (1, iV .i64 a1), (4, .im (.sc (.func (.func 50) #[] #[]))), (11, iV .i64 x1219), (12, iV .i64 x1198), (35, .im (.sc (.func (.func 50) #[] #[]))), (36, .own 0), (37, iV .i64 a1), (38, .ptr 0 (Int.toNat (a1)) 0), (39, .agg (apluvialref17_Item ⟨b1230.f0, b1230.f1.f0, b1230.f1.f1, b1230.f1.f2⟩)), (40, .own 0), (41, iV .i64 x1219), (42, .ptr 0 (Int.toNat (x1219)) 0), (43, .agg (apluvialref17_Item ⟨b1233.f0, b1233.f1.f0, b1233.f1.f1, b1233.f1.f2⟩)), (44, iV .i64 t1236), (45, bV (decide (t1236 < (0 : Int)))), (46, bV (!(decide (t1236 < (0 : Int))))), (47, bV (!(decide (t1236 < (0 : Int)))))], [(0, some (.row 4 89 (x1196.map eplan_Item)))], 1⟩ [(decide (x1219 ≤ x1198)) = true, 0 ≤ a1, a1 < (((x1196.map eplan_Item).length : Nat) : Int), (x1196.map eplan_Item)[(Int.toNat (a1))]? = some (eplan_Item b1230), 0 ≤ x1219, x1219 < (((x1196.map eplan_Item).length : Nat) : Int), (x1196.map eplan_Item)[(Int.toNat (x1219))]? = some (eplan_Item b1233), Enters Try.prog 50, Pv.Fn Try.prog 50 [.agg (apluvialref17_Item ⟨b1230.f0, b1230.f1.f0, b1230.f1.f1, b1230.f1.f2⟩), .agg (apluvialref17_Item ⟨b1233.f0, b1233.f1.f0, b1233.f1.f1, b1233.f1.f2⟩)] [] 0 (fun r o => r = iV .i64 t1236 ∧ o = [])] (by kernel_rfl) ⟨by exact c1229, by exact p1231, by exact el_lt eplan_Item p1231 q1232, by exact el_map eplan_Item q1232, by exact p1234, by exact el_lt eplan_Item p1234 q1235, by exact el_map eplan_Item q1235, by exact Try.call50, by exact f_plan_sorted_1.ok b1230 b1233 t1236 e1237, trivial⟩ ?_
          obtain rfl := Option.some.inj H
          exact Exists.intro _ (And.intro (fun _ _ h => h.conv (inv := [(0, 0)]) (vk := []) (e0 := []) (t := ⟨[(0, .own 0), (1, iV .i64 a1), (4, .im (.sc (.func (.func 50) #[] #[]))), (11, iV .i64 x1219), (12, iV .i64 x1198), (47, bV (!(decide (t1236 < (0 : Int)))))], [(0, some (.row 4 89 (x1196.map eplan_Item)))], 1⟩) (by kernel_rfl)) (And.intro rfl rfl))
        · replace H := (ifF c1229).symm.trans H
          refine reg hP hn hm [(3, .b false)] [0, 1, 4, 11, 12, 47] [0] ⟨[(0, .own 0), (1, iV .i64 a1), (4, .im (.sc (.func (.func 50) #[] #[]))), (11, iV .i64 x1219), (12, iV .i64 x1198), (47, bV false)], [(0, some (.row 4 89 (x1196.map eplan_Item)))], 1⟩ [(decide (x1219 ≤ x1198)) = false] (by kernel_rfl) ⟨by exact c1229, trivial⟩ ?_
          obtain rfl := Option.some.inj H
          exact Exists.intro _ (And.intro (fun _ _ h => h.conv (inv := [(0, 0)]) (vk := []) (e0 := []) (t := ⟨[(0, .own 0), (1, iV .i64 a1), (4, .im (.sc (.func (.func 50) #[] #[]))), (11, iV .i64 x1219), (12, iV .i64 x1198), (47, bV false)], [(0, some (.row 4 89 (x1196.map eplan_Item)))], 1⟩) (by kernel_rfl)) (And.intro rfl rfl))
      · obtain ⟨x1238, rfl⟩ : ∃ z, z = o1308 := ⟨_, rfl⟩
        rintro e s ⟨rfl, rfl⟩
        refine AWp.cond x1238 rfl (fun c1239 => ?_) (fun c1239 => ?_)
        · replace H := (ifT c1239).symm.trans H
          refine AWp.skip ?_
          refine AWp.block ?_
          refine reg hP hn hm [] [0, 1, 4, 11, 12] [0] ⟨[(0, .own 0), (1, iV .i64 a1), (4, .im (.sc (.func (.func 50) #[] #[]))), (11, iV .i64 (IntKind.i64.wrap (x1219 + (1 : Int)))), (12, iV .i64 x1198)], [(0, some (.row 4 89 (x1196.map eplan_Item)))], 1⟩ [] (by kernel_rfl) trivial ?_
          exact LWp.conv (inv := [(0, 0)]) (vk := []) (e0 := []) (t := ⟨[(0, .own 0), (1, iV .i64 a1), (4, .im (.sc (.func (.func 50) #[] #[]))), (11, iV .i64 (IntKind.i64.wrap (x1219 + (1 : Int)))), (12, iV .i64 x1198)], [(0, some (.row 4 89 (x1196.map eplan_Item)))], 1⟩) (by kernel_rfl) (ih _ _ H)
        · replace H := (ifF c1239).symm.trans H
          refine AWp.exit ?_
          obtain rfl := Option.some.inj H
          exact Exists.intro _ (And.intro (fun _ _ h => h.conv (inv := [(0, 0)]) (vk := []) (e0 := []) (t := ⟨[(0, .own 0), (1, iV .i64 a1), (4, .im (.sc (.func (.func 50) #[] #[]))), (11, iV .i64 x1219), (12, iV .i64 x1198)], [(0, some (.row 4 89 (x1196.map eplan_Item)))], 1⟩) (by kernel_rfl)) (And.intro rfl rfl))
    · obtain ⟨x1240, rfl⟩ : ∃ z, z = o1306 := ⟨_, rfl⟩
      rintro e s ⟨rfl, rfl⟩
      refine AWp.seq ?_
      refine AWp.block ?_
      obtain ⟨o1310, e1311, H⟩ := bind_of H
      refine AWp.loop (LWp.conv (inv := [(0, 0)]) (vk := []) (e0 := []) (t := ⟨[(0, .own 0), (1, iV .i64 a1), (4, .im (.sc (.func (.func 50) #[] #[]))), (11, iV .i64 x1240), (12, iV .i64 x1198)], [(0, some (.row 4 89 (x1196.map eplan_Item)))], 1⟩) (by kernel_rfl) ?_)
      refine LWp.mono (Q := fun e s => (match (generalizing := false) o1310 with | x1282 => e = .exit 4 ∧ s = ⟨[(0, .own 0), (1, iV .i64 a1), (4, .im (.sc (.func (.func 50) #[] #[]))), (11, iV .i64 x1240), (12, iV .i64 x1282)], [(0, some (.row 4 89 (x1196.map eplan_Item)))], 1⟩)) (LWp.cv (withBody (fun body hbody => ?_))) ?_
      · refine f_slices_partitionEqualCmpFunc_plan_Item_plan_sorted_1.l2.partial_correctness a1 x1196 x1240 (motive := fun x1261 o1310 => LWp Γ body (fun e s => ∃ t, Cv Γ s t ∧ (match (generalizing := false) o1310 with | x1282 => e = .exit 4 ∧ t = ⟨[(0, .own 0), (1, iV .i64 a1), (4, .im (.sc (.func (.func 50) #[] #[]))), (11, iV .i64 x1240), (12, iV .i64 x1282)], [(0, some (.row 4 89 (x1196.map eplan_Item)))], 1⟩)) ⟨[(0, .own 0), (1, iV .i64 a1), (4, .im (.sc (.func (.func 50) #[] #[]))), (11, iV .i64 x1240), (12, iV .i64 x1261)], [(0, some (.row 4 89 (x1196.map eplan_Item)))], 1⟩) ?_ _ _ e1311
        clear H e1311 o1310; intro self ih x1261 o1310 H
        subst hbody
        refine LWp.round ?_
        refine AWp.seq ?_
        refine AWp.seq ?_
        obtain ⟨o1312, e1313, H⟩ := bind_of H
        refine AWp.mono (Q := fun e s => (match (generalizing := false) o1312 with | x1280 => e = .normal ∧ s = ⟨[(0, .own 0), (1, iV .i64 a1), (4, .im (.sc (.func (.func 50) #[] #[]))), (11, iV .i64 x1240), (12, iV .i64 x1261), (65, bV x1280)], [(0, some (.row 4 89 (x1196.map eplan_Item)))], 1⟩)) (AWp.cv ?_) ?_
        · replace H := e1313; clear e1313
          rcases Bool.eq_false_or_eq_true (decide (x1240 ≤ x1261)) with c1271 | c1271
          · replace H := (ifT c1271).symm.trans H
            obtain ⟨b1272, p1273, q1274, H⟩ := at_of H
            obtain ⟨b1275, p1276, q1277, H⟩ := at_of H
            obtain ⟨t1278, e1279, H⟩ := bind_of H
            refine reg hP hn hm [(3, .b true), (8, .c (eplan_Item b1272)), (12, .c (eplan_Item b1275)), (13, .call [] [] [] [] 0 (iV .i64 t1278) [])] [0, 1, 4, 11, 12, 54, 55, 56, 57, 58, 59, 60, 61, 62, 63, 64, 65] [0] ⟨[(0, .own 0), (1, iV .i64 a1), (4, .im (.sc (.func (.func 50) #[] #[]))), (11, iV .i64 x1240), (12, iV .i64 x1261), (54, .im (.sc (.func (.func 50) #[] #[]))), (55, .own 0), (56, iV .i64 a1), (57, .ptr 0 (Int.toNat (a1)) 0), (58, .agg (apluvialref17_Item ⟨b1272.f0, b1272.f1.f0, b1272.f1.f1, b1272.f1.f2⟩)), (59, .own 0), (60, iV .i64 x1261), (61, .ptr 0 (Int.toNat (x1261)) 0), (62, .agg (apluvialref17_Item ⟨b1275.f0, b1275.f1.f0, b1275.f1.f1, b1275.f1.f2⟩)), (63, iV .i64 t1278), (64, bV (decide (t1278 < (0 : Int)))), (65, bV (decide (t1278 < (0 : Int))))], [(0, some (.row 4 89 (x1196.map eplan_Item)))], 1⟩ [(decide (x1240 ≤ x1261)) = true, 0 ≤ a1, a1 < (((x1196.map eplan_Item).length : Nat) : Int), (x1196.map eplan_Item)[(Int.toNat (a1))]? = some (eplan_Item b1272), 0 ≤ x1261, x1261 < (((x1196.map eplan_Item).length : Nat) : Int), (x1196.map eplan_Item)[(Int.toNat (x1261))]? = some (eplan_Item b1275), Enters Try.prog 50, Pv.Fn Try.prog 50 [.agg (apluvialref17_Item ⟨b1272.f0, b1272.f1.f0, b1272.f1.f1, b1272.f1.f2⟩), .agg (apluvialref17_Item ⟨b1275.f0, b1275.f1.f0, b1275.f1.f1, b1275.f1.f2⟩)] [] 0 (fun r o => r = iV .i64 t1278 ∧ o = [])] (by kernel_rfl) ⟨by exact c1271, by exact p1273, by exact el_lt eplan_Item p1273 q1274, by exact el_map eplan_Item q1274, by exact p1276, by exact el_lt eplan_Item p1276 q1277, by exact el_map eplan_Item q1277, by exact Try.call50, by exact f_plan_sorted_1.ok b1272 b1275 t1278 e1279, trivial⟩ ?_
            obtain rfl := Option.some.inj H
            exact Exists.intro _ (And.intro (fun _ _ h => h.conv (inv := [(0, 0)]) (vk := []) (e0 := []) (t := ⟨[(0, .own 0), (1, iV .i64 a1), (4, .im (.sc (.func (.func 50) #[] #[]))), (11, iV .i64 x1240), (12, iV .i64 x1261), (65, bV (decide (t1278 < (0 : Int))))], [(0, some (.row 4 89 (x1196.map eplan_Item)))], 1⟩) (by kernel_rfl)) (And.intro rfl rfl))
          · replace H := (ifF c1271).symm.trans H
            refine reg hP hn hm [(3, .b false)] [0, 1, 4, 11, 12, 65] [0] ⟨[(0, .own 0), (1, iV .i64 a1), (4, .im (.sc (.func (.func 50) #[] #[]))), (11, iV .i64 x1240), (12, iV .i64 x1261), (65, bV false)], [(0, some (.row 4 89 (x1196.map eplan_Item)))], 1⟩ [(decide (x1240 ≤ x1261)) = false] (by kernel_rfl) ⟨by exact c1271, trivial⟩ ?_
            obtain rfl := Option.some.inj H
            exact Exists.intro _ (And.intro (fun _ _ h => h.conv (inv := [(0, 0)]) (vk := []) (e0 := []) (t := ⟨[(0, .own 0), (1, iV .i64 a1), (4, .im (.sc (.func (.func 50) #[] #[]))), (11, iV .i64 x1240), (12, iV .i64 x1261), (65, bV false)], [(0, some (.row 4 89 (x1196.map eplan_Item)))], 1⟩) (by kernel_rfl)) (And.intro rfl rfl))
        · obtain ⟨x1280, rfl⟩ : ∃ z, z = o1312 := ⟨_, rfl⟩
          rintro e s ⟨rfl, rfl⟩
          refine AWp.cond x1280 rfl (fun c1281 => ?_) (fun c1281 => ?_)
          · replace H := (ifT c1281).symm.trans H
            refine AWp.skip ?_
            refine AWp.block ?_
            refine reg hP hn hm [] [0, 1, 4, 11, 12] [0] ⟨[(0, .own 0), (1, iV .i64 a1), (4, .im (.sc (.func (.func 50) #[] #[]))), (11, iV .i64 x1240), (12, iV .i64 (IntKind.i64.wrap (x1261 - (1 : Int))))], [(0, some (.row 4 89 (x1196.map eplan_Item)))], 1⟩ [] (by kernel_rfl) trivial ?_
            exact LWp.conv (inv := [(0, 0)]) (vk := []) (e0 := []) (t := ⟨[(0, .own 0), (1, iV .i64 a1), (4, .im (.sc (.func (.func 50) #[] #[]))), (11, iV .i64 x1240), (12, iV .i64 (IntKind.i64.wrap (x1261 - (1 : Int))))], [(0, some (.row 4 89 (x1196.map eplan_Item)))], 1⟩) (by kernel_rfl) (ih _ _ H)
          · replace H := (ifF c1281).symm.trans H
            refine AWp.exit ?_
            obtain rfl := Option.some.inj H
            exact Exists.intro _ (And.intro (fun _ _ h => h.conv (inv := [(0, 0)]) (vk := []) (e0 := []) (t := ⟨[(0, .own 0), (1, iV .i64 a1), (4, .im (.sc (.func (.func 50) #[] #[]))), (11, iV .i64 x1240), (12, iV .i64 x1261)], [(0, some (.row 4 89 (x1196.map eplan_Item)))], 1⟩) (by kernel_rfl)) (And.intro rfl rfl))
      · obtain ⟨x1282, rfl⟩ : ∃ z, z = o1310 := ⟨_, rfl⟩
        rintro e s ⟨rfl, rfl⟩
        refine AWp.seq ?_
        refine AWp.seq ?_
        refine reg hP hn hm [] [0, 1, 4, 11, 12, 70] [0] ⟨[(0, .own 0), (1, iV .i64 a1), (4, .im (.sc (.func (.func 50) #[] #[]))), (11, iV .i64 x1240), (12, iV .i64 x1282), (70, bV (decide (x1240 > x1282)))], [(0, some (.row 4 89 (x1196.map eplan_Item)))], 1⟩ [] (by kernel_rfl) trivial ?_
        refine AWp.cond (decide (x1240 > x1282)) rfl (fun c1283 => ?_) (fun c1283 => ?_)
        · replace H := (ifT c1283).symm.trans H
          refine AWp.exit ?_
          obtain rfl := Option.some.inj H
          exact Exists.intro _ (And.intro (fun _ _ h => h.conv (inv := [(0, 0)]) (vk := []) (e0 := []) (t := ⟨[(11, iV .i64 x1240)], [(0, some (.row 4 89 (x1196.map eplan_Item)))], 1⟩) (by kernel_rfl)) (And.intro rfl rfl))
        · replace H := (ifF c1283).symm.trans H
          refine AWp.skip ?_
          refine AWp.seq ?_
          obtain ⟨b1293, p1294, q1295, H⟩ := at_of H
          obtain ⟨b1296, p1297, q1298, H⟩ := at_of H
          obtain ⟨b1299, p1300, q1301, H⟩ := at_of H
          refine reg hP hn hm [(7, .c (eplan_Item b1293)), (11, .c (eplan_Item b1296)), (13, .put (eplan_Item b1296) ((x1196.set (Int.toNat (x1240)) b1293).map eplan_Item)), (15, .put (eplan_Item b1299) (((x1196.set (Int.toNat (x1240)) b1293).set (Int.toNat (x1282)) b1296).map eplan_Item))] [0, 1, 4, 11, 12] [0] ⟨[(0, .own 0), (1, iV .i64 a1), (4, .im (.sc (.func (.func 50) #[] #[]))), (11, iV .i64 x1240), (12, iV .i64 x1282)], [(0, some (.row 4 89 (((x1196.set (Int.toNat (x1240)) b1293).set (Int.toNat (x1282)) b1296).map eplan_Item)))], 1⟩ [0 ≤ x1282, x1282 < (((x1196.map eplan_Item).length : Nat) : Int), (x1196.map eplan_Item)[(Int.toNat (x1282))]? = some (eplan_Item b1293), 0 ≤ x1240, x1240 < (((x1196.map eplan_Item).length : Nat) : Int), (x1196.map eplan_Item)[(Int.toNat (x1240))]? = some (eplan_Item b1296), 0 ≤ x1240, x1240 < (((x1196.map eplan_Item).length : Nat) : Int), (x1196.map eplan_Item)[(Int.toNat (x1240))]? = some (eplan_Item b1296), (x1196.set (Int.toNat (x1240)) b1293).map eplan_Item = (x1196.map eplan_Item).set (Int.toNat (x1240)) (splice (eplan_Item b1296) 0 [iI .i64 b1293.f0, iI .i64 b1293.f1.f0, iI .i64 b1293.f1.f1, iI .i64 b1293.f1.f2]), 0 ≤ x1282, x1282 < ((((x1196.set (Int.toNat (x1240)) b1293).map eplan_Item).length : Nat) : Int), ((x1196.set (Int.toNat (x1240)) b1293).map eplan_Item)[(Int.toNat (x1282))]? = some (eplan_Item b1299), ((x1196.set (Int.toNat (x1240)) b1293).set (Int.toNat (x1282)) b1296).map eplan_Item = ((x1196.set (Int.toNat (x1240)) b1293).map eplan_Item).set (Int.toNat (x1282)) (splice (eplan_Item b1299) 0 [iI .i64 b1296.f0, iI .i64 b1296.f1.f0, iI .i64 b1296.f1.f1, iI .i64 b1296.f1.f2])] (by kernel_rfl) ⟨by exact p1294, by exact el_lt eplan_Item p1294 q1295, by exact el_map eplan_Item q1295, by exact p1297, by exact el_lt eplan_Item p1297 q1298, by exact el_map eplan_Item q1298, by exact p1297, by exact el_lt eplan_Item p1297 q1298, by exact el_map eplan_Item q1298, by exact set1 _ _ _ _, by exact p1300, by exact el_lt eplan_Item p1300 q1301, by exact el_map eplan_Item q1301, by exact set1 _ _ _ _, trivial⟩ ?_
          refine AWp.seq ?_
          refine reg hP hn hm [] [0, 1, 4, 11, 12] [0] ⟨[(0, .own 0), (1, iV .i64 a1), (4, .im (.sc (.func (.func 50) #[] #[]))), (11, iV .i64 (IntKind.i64.wrap (x1240 + (1 : Int)))), (12, iV .i64 x1282)], [(0, some (.row 4 89 (((x1196.set (Int.toNat (x1240)) b1293).set (Int.toNat (x1282)) b1296).map eplan_Item)))], 1⟩ [] (by kernel_rfl) trivial ?_
          refine reg hP hn hm [] [0, 1, 4, 11, 12] [0] ⟨[(0, .own 0), (1, iV .i64 a1), (4, .im (.sc (.func (.func 50) #[] #[]))), (11, iV .i64 (IntKind.i64.wrap (x1240 + (1 : Int)))), (12, iV .i64 (IntKind.i64.wrap (x1282 - (1 : Int))))], [(0, some (.row 4 89 (((x1196.set (Int.toNat (x1240)) b1293).set (Int.toNat (x1282)) b1296).map eplan_Item)))], 1⟩ [] (by kernel_rfl) trivial ?_
          exact LWp.conv (inv := [(0, 0)]) (vk := []) (e0 := []) (t := ⟨[(0, .own 0), (1, iV .i64 a1), (4, .im (.sc (.func (.func 50) #[] #[]))), (11, iV .i64 (IntKind.i64.wrap (x1240 + (1 : Int)))), (12, iV .i64 (IntKind.i64.wrap (x1282 - (1 : Int))))], [(0, some (.row 4 89 (((x1196.set (Int.toNat (x1240)) b1293).set (Int.toNat (x1282)) b1296).map eplan_Item)))], 1⟩) (by kernel_rfl) (ih _ _ _ _ H)
  · obtain ⟨x1302, x1303⟩ := o1304
    rintro e s ⟨rfl, rfl⟩
    refine AWp.seq ?_
    refine reg hP hn hm [] [10] [0] ⟨[(10, iV .i64 x1302)], [(0, some (.row 4 89 (x1303.map eplan_Item)))], 1⟩ [] (by kernel_rfl) trivial ?_
    refine AWp.conv (inv := [(0, 0)]) (vk := []) (e0 := []) (t := ⟨[(10, iV .i64 x1302)], [(0, some (.row 4 89 (x1303.map eplan_Item)))], 1⟩) (by kernel_rfl) ?_
    refine AWp.ret ?_
    obtain rfl := Option.some.inj H
    exact Exists.intro _ (And.intro (fun _ _ h => h) (And.intro (.inl rfl) (And.intro rfl (And.intro (by kernel_rfl) (by kernel_rfl)))))
end Go.Proofs.Ytfkppdcfgmgllaa.PvGD1
