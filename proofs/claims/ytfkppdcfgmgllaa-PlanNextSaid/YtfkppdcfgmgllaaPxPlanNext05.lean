import Derived.Test.YtfkppdcfgmgllaaProg
import Derived.Test.YtfkppdcfgmgllaaPxPlanNext04
set_option linter.unusedVariables false
set_option linter.unnecessarySimpa false
set_option linter.unusedSimpArgs false
set_option maxRecDepth 10000
namespace Go.Proofs.Ytfkppdcfgmgllaa.PvGD2
open Go Go.Pv
structure Tpluvialref17_Item where
  f0 : Int
  f1 : Int
  f2 : Int
  f3 : Int
  deriving DecidableEq, Inhabited
abbrev epluvialref17_Item (x : Tpluvialref17_Item) : List Im := [iI .i64 x.f0, iI .i64 x.f1, iI .i64 x.f2, iI .i64 x.f3]
abbrev apluvialref17_Item (x : Tpluvialref17_Item) : List AVal := [iV .i64 x.f0, iV .i64 x.f1, iV .i64 x.f2, iV .i64 x.f3]
structure Rpluvialref17_Item (x : Tpluvialref17_Item) : Prop where
  r0 : I64 x.f0
  r1 : I64 x.f1
  r2 : I64 x.f2
  r3 : I64 x.f3
structure Tblock_Meta where
  f0 : Int
  f1 : Int
  f2 : Int
  deriving DecidableEq, Inhabited
structure Rblock_Meta (x : Tblock_Meta) : Prop where
  r0 : I64 x.f0
  r1 : I64 x.f1
  r2 : I64 x.f2
structure Tplan_Item where
  f0 : Int
  f1 : Tblock_Meta
  deriving DecidableEq, Inhabited
abbrev eplan_Item (x : Tplan_Item) : List Im := [iI .i64 x.f0, iI .i64 x.f1.f0, iI .i64 x.f1.f1, iI .i64 x.f1.f2]
structure Rplan_Item (x : Tplan_Item) : Prop where
  r0 : I64 x.f0
  r1 : Rblock_Meta x.f1
structure Tplan_Step where
  f0 : List Int
  f1 : Int
  deriving DecidableEq, Inhabited
structure Rplan_Step (x : Tplan_Step) : Prop where
  r0 : x.f0.length ≤ maxLen ∧ ∀ y ∈ x.f0, I64 y
  r1 : I64 x.f1
def f_pluvialref16_Width.l0 (a0 : Int) (x18 : Int) (x19 : Int) : Option (Int) := ((if (decide (x19 < a0)) = true then (some (decide (x19 < (4 : Int)))) else (some false)) : Option (Bool)) >>= fun x22 => if x22 = true then (f_pluvialref16_Width.l0 a0 (IntKind.i64.wrap (x18 * (4 : Int))) (IntKind.i64.wrap (x19 + (1 : Int)))) else (some x18)
partial_fixpoint
def f_pluvialref16_Width.f (a0 : Int) : Option (Int) := (f_pluvialref16_Width.l0 a0 64 0) >>= fun x24 => some x24
theorem f_pluvialref16_Width.ok (a0 : Int) (r : Int) (H : f_pluvialref16_Width.f a0 = some r) : Pv.Fn Try.prog 19 [iV .i64 a0] [] 0 (fun x o => x = iV .i64 r ∧ o = []) := by
  unfold f_pluvialref16_Width.f at H
  refine Fn.bodyK [] Try.func19 rfl rfl (fun Γ hP hn => ?_)
  have hm : Try.prog.follows .mixedOrders = true := by kernel_rfl
  replace hn : Γ.n = 17 := hn
  refine AWp.seq ?_
  refine reg hP hn hm [] [0] [] ⟨[(0, iV .i64 a0)], [], 0⟩ [] (by kernel_rfl) trivial ?_
  refine AWp.seq ?_
  refine reg hP hn hm [] [0, 3] [] ⟨[(0, iV .i64 a0), (3, iV .i64 64)], [], 0⟩ [] (by kernel_rfl) trivial ?_
  refine AWp.seq ?_
  refine AWp.seq ?_
  refine reg hP hn hm [] [0, 3, 4] [] ⟨[(0, iV .i64 a0), (3, iV .i64 64), (4, iV .i64 0)], [], 0⟩ [] (by kernel_rfl) trivial ?_
  refine AWp.block ?_
  obtain ⟨o25, e26, H⟩ := bind_of H
  refine AWp.loop (LWp.conv (inv := []) (vk := []) (e0 := []) (t := ⟨[(0, iV .i64 a0), (3, iV .i64 64), (4, iV .i64 0)], [], 0⟩) (by kernel_rfl) ?_)
  refine LWp.mono (Q := fun e s => (match (generalizing := false) o25 with | x24 => e = .exit 0 ∧ s = ⟨[(3, iV .i64 x24)], [], 0⟩)) (LWp.cv (withBody (fun body hbody => ?_))) ?_
  · refine f_pluvialref16_Width.l0.partial_correctness a0 (motive := fun x18 x19 o25 => LWp Γ body (fun e s => ∃ t, Cv Γ s t ∧ (match (generalizing := false) o25 with | x24 => e = .exit 0 ∧ t = ⟨[(3, iV .i64 x24)], [], 0⟩)) ⟨[(0, iV .i64 a0), (3, iV .i64 x18), (4, iV .i64 x19)], [], 0⟩) ?_ _ _ _ e26
    clear H e26 o25; intro self ih x18 x19 o25 H
    subst hbody
    refine LWp.round ?_
    refine AWp.seq ?_
    refine AWp.seq ?_
    obtain ⟨o27, e28, H⟩ := bind_of H
    refine AWp.mono (Q := fun e s => (match (generalizing := false) o27 with | x22 => e = .normal ∧ s = ⟨[(0, iV .i64 a0), (3, iV .i64 x18), (4, iV .i64 x19), (11, bV x22)], [], 0⟩)) (AWp.cv ?_) ?_
    · replace H := e28; clear e28
      rcases Bool.eq_false_or_eq_true (decide (x19 < a0)) with c21 | c21
      · replace H := (ifT c21).symm.trans H
        refine reg hP hn hm [(3, .b true)] [0, 3, 4, 9, 10, 11] [] ⟨[(0, iV .i64 a0), (3, iV .i64 x18), (4, iV .i64 x19), (9, iV .i64 x19), (10, bV (decide (x19 < (4 : Int)))), (11, bV (decide (x19 < (4 : Int))))], [], 0⟩ [(decide (x19 < a0)) = true] (by kernel_rfl) ⟨by exact c21, trivial⟩ ?_
        obtain rfl := Option.some.inj H
        exact Exists.intro _ (And.intro (fun _ _ h => h.conv (inv := []) (vk := []) (e0 := []) (t := ⟨[(0, iV .i64 a0), (3, iV .i64 x18), (4, iV .i64 x19), (11, bV (decide (x19 < (4 : Int))))], [], 0⟩) (by kernel_rfl)) (And.intro rfl rfl))
      · replace H := (ifF c21).symm.trans H
        refine reg hP hn hm [(3, .b false)] [0, 3, 4, 11] [] ⟨[(0, iV .i64 a0), (3, iV .i64 x18), (4, iV .i64 x19), (11, bV false)], [], 0⟩ [(decide (x19 < a0)) = false] (by kernel_rfl) ⟨by exact c21, trivial⟩ ?_
        obtain rfl := Option.some.inj H
        exact Exists.intro _ (And.intro (fun _ _ h => h.conv (inv := []) (vk := []) (e0 := []) (t := ⟨[(0, iV .i64 a0), (3, iV .i64 x18), (4, iV .i64 x19), (11, bV false)], [], 0⟩) (by kernel_rfl)) (And.intro rfl rfl))
    · obtain ⟨x22, rfl⟩ : ∃ z, z = o27 := ⟨_, rfl⟩
      rintro e s ⟨rfl, rfl⟩
      refine AWp.cond x22 rfl (fun c23 => ?_) (fun c23 => ?_)
      · replace H := (ifT c23).symm.trans H
        refine AWp.skip ?_
        refine AWp.seq ?_
        refine AWp.block ?_
        refine reg hP hn hm [] [0, 3, 4] [] ⟨[(0, iV .i64 a0), (3, iV .i64 (IntKind.i64.wrap (x18 * (4 : Int)))), (4, iV .i64 x19)], [], 0⟩ [] (by kernel_rfl) trivial ?_
        refine reg hP hn hm [] [0, 3, 4] [] ⟨[(0, iV .i64 a0), (3, iV .i64 (IntKind.i64.wrap (x18 * (4 : Int)))), (4, iV .i64 (IntKind.i64.wrap (x19 + (1 : Int))))], [], 0⟩ [] (by kernel_rfl) trivial ?_
        exact LWp.conv (inv := []) (vk := []) (e0 := []) (t := ⟨[(0, iV .i64 a0), (3, iV .i64 (IntKind.i64.wrap (x18 * (4 : Int)))), (4, iV .i64 (IntKind.i64.wrap (x19 + (1 : Int))))], [], 0⟩) (by kernel_rfl) (ih _ _ _ H)
      · replace H := (ifF c23).symm.trans H
        refine AWp.exit ?_
        obtain rfl := Option.some.inj H
        exact Exists.intro _ (And.intro (fun _ _ h => h.conv (inv := []) (vk := []) (e0 := []) (t := ⟨[(3, iV .i64 x18)], [], 0⟩) (by kernel_rfl)) (And.intro rfl rfl))
  · obtain ⟨x24, rfl⟩ : ∃ z, z = o25 := ⟨_, rfl⟩
    rintro e s ⟨rfl, rfl⟩
    refine AWp.seq ?_
    refine reg hP hn hm [] [2] [] ⟨[(2, iV .i64 x24)], [], 0⟩ [] (by kernel_rfl) trivial ?_
    refine AWp.conv (inv := []) (vk := []) (e0 := []) (t := ⟨[(2, iV .i64 x24)], [], 0⟩) (by kernel_rfl) ?_
    refine AWp.ret ?_
    obtain rfl := Option.some.inj H
    exact Exists.intro _ (And.intro (fun _ _ h => h) (And.intro (.inl rfl) (And.intro rfl (And.intro (by kernel_rfl) (by kernel_rfl)))))
def f_pluvialref17_Right.l1 (a0 : List Tpluvialref17_Item) (x47 : Int) (x63 : Int) : Option (Bool ⊕ Unit) := if (decide (x63 < x47)) = true then ((at? a0 x63) >>= fun b71 => (at? a0 x47) >>= fun b74 => if (b71.f0 == b74.f0) = true then (some (.inl false)) else (f_pluvialref17_Right.l1 a0 x47 (IntKind.i64.wrap (x63 + (1 : Int))))) else (some (.inr ()))
partial_fixpoint
def f_pluvialref17_Right.l0 (a0 : List Tpluvialref17_Item) (x47 : Int) : Option (Bool ⊕ Unit) := if (decide (x47 < (a0.length : Int))) = true then ((f_pluvialref17_Right.l1 a0 x47 0) >>= fun oo => match oo with | .inl rr => (some (.inl rr)) | .inr _ => ((at? a0 x47) >>= fun b81 => ((if (decide (b81.f1 < (0 : Int))) = true then (some true) else (if (decide (b81.f1 > (4 : Int))) = true then (some true) else (if (decide (b81.f2 < (0 : Int))) = true then (some true) else (if (decide (b81.f2 > (1099511627776 : Int))) = true then (some true) else ((f_pluvialref16_Width.f b81.f1) >>= fun t98 => (chk (t98 ≠ 0)) >>= fun _ => if ((Int.tmod b81.f2 t98) != (0 : Int)) = true then (some true) else ((f_pluvialref16_Width.f b81.f1) >>= fun t102 => some (b81.f3 != (IntKind.i64.wrap (b81.f2 + t102))))))))) : Option (Bool)) >>= fun x104 => if x104 = true then (some (.inl false)) else (f_pluvialref17_Right.l0 a0 (IntKind.i64.wrap (x47 + (1 : Int)))))) else (some (.inr ()))
partial_fixpoint
def f_pluvialref17_Right.f (a0 : List Tpluvialref17_Item) : Option (Bool) := (f_pluvialref17_Right.l0 a0 0) >>= fun oo => match oo with | .inl rr => (some rr) | .inr _ => (some true)
theorem f_pluvialref17_Right.ok (a0 : List Tpluvialref17_Item) (r : Bool) (H : f_pluvialref17_Right.f a0 = some r) : Pv.Fn Try.prog 12 [.im (.row (a0.map epluvialref17_Item))] [] 0 (fun x o => x = bV r ∧ o = []) := by
  unfold f_pluvialref17_Right.f at H
  refine Fn.bodyK [] Try.func12 rfl rfl (fun Γ hP hn => ?_)
  have hm : Try.prog.follows .mixedOrders = true := by kernel_rfl
  replace hn : Γ.n = 70 := hn
  refine AWp.seq ?_
  refine reg hP hn hm [] [0] [] ⟨[(0, .im (.row (a0.map epluvialref17_Item)))], [], 0⟩ [] (by kernel_rfl) trivial ?_
  refine AWp.seq ?_
  refine AWp.seq ?_
  refine reg hP hn hm [] [0, 3] [] ⟨[(0, .im (.row (a0.map epluvialref17_Item))), (3, iV .i64 0)], [], 0⟩ [] (by kernel_rfl) trivial ?_
  refine AWp.block ?_
  obtain ⟨o106, e107, H⟩ := bind_of H
  refine AWp.loop (LWp.conv (inv := []) (vk := []) (e0 := []) (t := ⟨[(0, .im (.row (a0.map epluvialref17_Item))), (3, iV .i64 0)], [], 0⟩) (by kernel_rfl) ?_)
  refine LWp.mono (Q := fun e s => (match (generalizing := false) o106 with | .inl rr => e = .ret ∧ s.floor = 0 ∧ resOf Try.prog Try.f12 s = some (bV rr) ∧ ([] : List (Nat × Option MObj)) = [] | .inr _ => e = .exit 0 ∧ s = ⟨[], [], 0⟩)) (LWp.cv (withBody (fun body hbody => ?_))) ?_
  · refine f_pluvialref17_Right.l0.partial_correctness a0 (motive := fun x47 o106 => LWp Γ body (fun e s => ∃ t, Cv Γ s t ∧ (match (generalizing := false) o106 with | .inl rr => e = .ret ∧ t.floor = 0 ∧ resOf Try.prog Try.f12 t = some (bV rr) ∧ ([] : List (Nat × Option MObj)) = [] | .inr _ => e = .exit 0 ∧ t = ⟨[], [], 0⟩)) ⟨[(0, .im (.row (a0.map epluvialref17_Item))), (3, iV .i64 x47)], [], 0⟩) ?_ _ _ e107
    clear H e107 o106; intro self ih x47 o106 H
    subst hbody
    refine LWp.round ?_
    refine AWp.seq ?_
    refine AWp.seq ?_
    refine reg hP hn hm [(2, .any (iV .i64 (a0.length : Int)))] [0, 3, 9] [] ⟨[(0, .im (.row (a0.map epluvialref17_Item))), (3, iV .i64 x47), (9, bV (decide (x47 < (a0.length : Int))))], [], 0⟩ [((a0.map epluvialref17_Item).length : Int) = (a0.length : Int)] (by kernel_rfl) ⟨by rw [len_map], trivial⟩ ?_
    refine AWp.cond (decide (x47 < (a0.length : Int))) rfl (fun c48 => ?_) (fun c48 => ?_)
    · replace H := (ifT c48).symm.trans H
      refine AWp.skip ?_
      refine AWp.seq ?_
      refine AWp.block ?_
      refine AWp.seq ?_
      refine AWp.seq ?_
      refine reg hP hn hm [] [0, 3, 4] [] ⟨[(0, .im (.row (a0.map epluvialref17_Item))), (3, iV .i64 x47), (4, iV .i64 0)], [], 0⟩ [] (by kernel_rfl) trivial ?_
      refine AWp.block ?_
      obtain ⟨o108, e109, H⟩ := bind_of H
      refine AWp.loop (LWp.conv (inv := []) (vk := []) (e0 := []) (t := ⟨[(0, .im (.row (a0.map epluvialref17_Item))), (3, iV .i64 x47), (4, iV .i64 0)], [], 0⟩) (by kernel_rfl) ?_)
      refine LWp.mono (Q := fun e s => (match (generalizing := false) o108 with | .inl rr => e = .ret ∧ s.floor = 0 ∧ resOf Try.prog Try.f12 s = some (bV rr) ∧ ([] : List (Nat × Option MObj)) = [] | .inr _ => e = .exit 2 ∧ s = ⟨[(0, .im (.row (a0.map epluvialref17_Item))), (3, iV .i64 x47)], [], 0⟩)) (LWp.cv (withBody (fun body hbody => ?_))) ?_
      · refine f_pluvialref17_Right.l1.partial_correctness a0 x47 (motive := fun x63 o108 => LWp Γ body (fun e s => ∃ t, Cv Γ s t ∧ (match (generalizing := false) o108 with | .inl rr => e = .ret ∧ t.floor = 0 ∧ resOf Try.prog Try.f12 t = some (bV rr) ∧ ([] : List (Nat × Option MObj)) = [] | .inr _ => e = .exit 2 ∧ t = ⟨[(0, .im (.row (a0.map epluvialref17_Item))), (3, iV .i64 x47)], [], 0⟩)) ⟨[(0, .im (.row (a0.map epluvialref17_Item))), (3, iV .i64 x47), (4, iV .i64 x63)], [], 0⟩) ?_ _ _ e109
        clear H e109 o108; intro self ih x63 o108 H
        subst hbody
        refine LWp.round ?_
        refine AWp.seq ?_
        refine AWp.seq ?_
        refine reg hP hn hm [] [0, 3, 4, 14] [] ⟨[(0, .im (.row (a0.map epluvialref17_Item))), (3, iV .i64 x47), (4, iV .i64 x63), (14, bV (decide (x63 < x47)))], [], 0⟩ [] (by kernel_rfl) trivial ?_
        refine AWp.cond (decide (x63 < x47)) rfl (fun c64 => ?_) (fun c64 => ?_)
        · replace H := (ifT c64).symm.trans H
          refine AWp.skip ?_
          refine AWp.seq ?_
          refine AWp.block ?_
          refine AWp.seq ?_
          obtain ⟨b71, p72, q73, H⟩ := at_of H
          obtain ⟨b74, p75, q76, H⟩ := at_of H
          refine reg hP hn hm [(2, .c (epluvialref17_Item b71)), (7, .c (epluvialref17_Item b74))] [0, 3, 4, 27] [] ⟨[(0, .im (.row (a0.map epluvialref17_Item))), (3, iV .i64 x47), (4, iV .i64 x63), (27, bV (b71.f0 == b74.f0))], [], 0⟩ [0 ≤ x63, (a0.map epluvialref17_Item)[(Int.toNat (x63))]? = some (epluvialref17_Item b71), 0 ≤ x47, (a0.map epluvialref17_Item)[(Int.toNat (x47))]? = some (epluvialref17_Item b74)] (by kernel_rfl) ⟨by exact p72, by exact el_map epluvialref17_Item q73, by exact p75, by exact el_map epluvialref17_Item q76, trivial⟩ ?_
          refine AWp.cond (b71.f0 == b74.f0) rfl (fun c77 => ?_) (fun c77 => ?_)
          · replace H := (ifT c77).symm.trans H
            refine AWp.seq ?_
            refine reg hP hn hm [] [2] [] ⟨[(2, bV false)], [], 0⟩ [] (by kernel_rfl) trivial ?_
            refine AWp.conv (inv := []) (vk := []) (e0 := []) (t := ⟨[(2, bV false)], [], 0⟩) (by kernel_rfl) ?_
            refine AWp.ret ?_
            obtain rfl := Option.some.inj H
            exact Exists.intro _ (And.intro (fun _ _ h => h) (And.intro rfl (And.intro rfl (And.intro (by kernel_rfl) (by kernel_rfl)))))
          · replace H := (ifF c77).symm.trans H
            refine AWp.skip ?_
            refine reg hP hn hm [] [0, 3, 4] [] ⟨[(0, .im (.row (a0.map epluvialref17_Item))), (3, iV .i64 x47), (4, iV .i64 (IntKind.i64.wrap (x63 + (1 : Int))))], [], 0⟩ [] (by kernel_rfl) trivial ?_
            exact LWp.conv (inv := []) (vk := []) (e0 := []) (t := ⟨[(0, .im (.row (a0.map epluvialref17_Item))), (3, iV .i64 x47), (4, iV .i64 (IntKind.i64.wrap (x63 + (1 : Int))))], [], 0⟩) (by kernel_rfl) (ih _ _ H)
        · replace H := (ifF c64).symm.trans H
          refine AWp.exit ?_
          obtain rfl := Option.some.inj H
          exact Exists.intro _ (And.intro (fun _ _ h => h.conv (inv := []) (vk := []) (e0 := []) (t := ⟨[(0, .im (.row (a0.map epluvialref17_Item))), (3, iV .i64 x47)], [], 0⟩) (by kernel_rfl)) (And.intro rfl rfl))
      · rcases o108 with rr | _
        · skip
          rintro e s ⟨rfl, hfl, hres⟩
          obtain rfl := Option.some.inj H
          exact Exists.intro _ (And.intro (fun _ _ h => h) (And.intro rfl (And.intro hfl hres)))
        · skip
          rintro e s ⟨rfl, rfl⟩
          refine AWp.seq ?_
          obtain ⟨b81, p82, q83, H⟩ := at_of H
          refine reg hP hn hm [(2, .c (epluvialref17_Item b81)), (4, .k 1)] [0, 3, 5] [1] ⟨[(0, .im (.row (a0.map epluvialref17_Item))), (3, iV .i64 x47), (5, .ptr 1 0 0)], [(1, some (.box 31 (apluvialref17_Item b81)))], 0⟩ [0 ≤ x47, (a0.map epluvialref17_Item)[(Int.toNat (x47))]? = some (epluvialref17_Item b81)] (by kernel_rfl) ⟨by exact p82, by exact el_map epluvialref17_Item q83, trivial⟩ ?_
          refine AWp.seq ?_
          obtain ⟨o110, e111, H⟩ := bind_of H
          refine AWp.mono (Q := fun e s => (match (generalizing := false) o110 with | x104 => e = .normal ∧ s = ⟨[(0, .im (.row (a0.map epluvialref17_Item))), (3, iV .i64 x47), (69, bV x104)], [], 0⟩)) (AWp.cv ?_) ?_
          · replace H := e111; clear e111
            rcases Bool.eq_false_or_eq_true (decide (b81.f1 < (0 : Int))) with c94 | c94
            · replace H := (ifT c94).symm.trans H
              refine reg hP hn hm [(3, .b true)] [0, 3, 69] [] ⟨[(0, .im (.row (a0.map epluvialref17_Item))), (3, iV .i64 x47), (69, bV true)], [], 0⟩ [(decide (b81.f1 < (0 : Int))) = true] (by kernel_rfl) ⟨by exact c94, trivial⟩ ?_
              obtain rfl := Option.some.inj H
              exact Exists.intro _ (And.intro (fun _ _ h => h.conv (inv := []) (vk := []) (e0 := []) (t := ⟨[(0, .im (.row (a0.map epluvialref17_Item))), (3, iV .i64 x47), (69, bV true)], [], 0⟩) (by kernel_rfl)) (And.intro rfl rfl))
            · replace H := (ifF c94).symm.trans H
              rcases Bool.eq_false_or_eq_true (decide (b81.f1 > (4 : Int))) with c95 | c95
              · replace H := (ifT c95).symm.trans H
                refine reg hP hn hm [(3, .b false), (8, .b true)] [0, 3, 36, 37, 38, 69] [1] ⟨[(0, .im (.row (a0.map epluvialref17_Item))), (3, iV .i64 x47), (36, .ptr 1 0 1), (37, iV .i64 b81.f1), (38, bV (decide (b81.f1 > (4 : Int)))), (69, bV true)], [(1, some (.box 31 (apluvialref17_Item b81)))], 0⟩ [(decide (b81.f1 < (0 : Int))) = false, (decide (b81.f1 > (4 : Int))) = true] (by kernel_rfl) ⟨by exact c94, by exact c95, trivial⟩ ?_
                obtain rfl := Option.some.inj H
                exact Exists.intro _ (And.intro (fun _ _ h => h.conv (inv := []) (vk := []) (e0 := []) (t := ⟨[(0, .im (.row (a0.map epluvialref17_Item))), (3, iV .i64 x47), (69, bV true)], [], 0⟩) (by kernel_rfl)) (And.intro rfl rfl))
              · replace H := (ifF c95).symm.trans H
                rcases Bool.eq_false_or_eq_true (decide (b81.f2 < (0 : Int))) with c96 | c96
                · replace H := (ifT c96).symm.trans H
                  refine reg hP hn hm [(3, .b false), (8, .b false), (13, .b true)] [0, 3, 36, 37, 38, 41, 42, 43, 69] [1] ⟨[(0, .im (.row (a0.map epluvialref17_Item))), (3, iV .i64 x47), (36, .ptr 1 0 1), (37, iV .i64 b81.f1), (38, bV (decide (b81.f1 > (4 : Int)))), (41, .ptr 1 0 2), (42, iV .i64 b81.f2), (43, bV (decide (b81.f2 < (0 : Int)))), (69, bV true)], [(1, some (.box 31 (apluvialref17_Item b81)))], 0⟩ [(decide (b81.f1 < (0 : Int))) = false, (decide (b81.f1 > (4 : Int))) = false, (decide (b81.f2 < (0 : Int))) = true] (by kernel_rfl) ⟨by exact c94, by exact c95, by exact c96, trivial⟩ ?_
                  obtain rfl := Option.some.inj H
                  exact Exists.intro _ (And.intro (fun _ _ h => h.conv (inv := []) (vk := []) (e0 := []) (t := ⟨[(0, .im (.row (a0.map epluvialref17_Item))), (3, iV .i64 x47), (69, bV true)], [], 0⟩) (by kernel_rfl)) (And.intro rfl rfl))
                · replace H := (ifF c96).symm.trans H
                  rcases Bool.eq_false_or_eq_true (decide (b81.f2 > (1099511627776 : Int))) with c97 | c97
                  · replace H := (ifT c97).symm.trans H
                    refine reg hP hn hm [(3, .b false), (8, .b false), (13, .b false), (18, .b true)] [0, 3, 36, 37, 38, 41, 42, 43, 46, 47, 48, 69] [1] ⟨[(0, .im (.row (a0.map epluvialref17_Item))), (3, iV .i64 x47), (36, .ptr 1 0 1), (37, iV .i64 b81.f1), (38, bV (decide (b81.f1 > (4 : Int)))), (41, .ptr 1 0 2), (42, iV .i64 b81.f2), (43, bV (decide (b81.f2 < (0 : Int)))), (46, .ptr 1 0 2), (47, iV .i64 b81.f2), (48, bV (decide (b81.f2 > (1099511627776 : Int)))), (69, bV true)], [(1, some (.box 31 (apluvialref17_Item b81)))], 0⟩ [(decide (b81.f1 < (0 : Int))) = false, (decide (b81.f1 > (4 : Int))) = false, (decide (b81.f2 < (0 : Int))) = false, (decide (b81.f2 > (1099511627776 : Int))) = true] (by kernel_rfl) ⟨by exact c94, by exact c95, by exact c96, by exact c97, trivial⟩ ?_
                    obtain rfl := Option.some.inj H
                    exact Exists.intro _ (And.intro (fun _ _ h => h.conv (inv := []) (vk := []) (e0 := []) (t := ⟨[(0, .im (.row (a0.map epluvialref17_Item))), (3, iV .i64 x47), (69, bV true)], [], 0⟩) (by kernel_rfl)) (And.intro rfl rfl))
                  · replace H := (ifF c97).symm.trans H
                    obtain ⟨t98, e99, H⟩ := bind_of H
                    obtain ⟨c100, H⟩ := chk_of H
                    rcases Bool.eq_false_or_eq_true ((Int.tmod b81.f2 t98) != (0 : Int)) with c101 | c101
                    · replace H := (ifT c101).symm.trans H
                      refine reg hP hn hm [(3, .b false), (8, .b false), (13, .b false), (18, .b false), (23, .call [] [] [] [] 0 (iV .i64 t98) []), (27, .b true)] [0, 3, 36, 37, 38, 41, 42, 43, 46, 47, 48, 51, 52, 53, 54, 55, 56, 57, 69] [1] ⟨[(0, .im (.row (a0.map epluvialref17_Item))), (3, iV .i64 x47), (36, .ptr 1 0 1), (37, iV .i64 b81.f1), (38, bV (decide (b81.f1 > (4 : Int)))), (41, .ptr 1 0 2), (42, iV .i64 b81.f2), (43, bV (decide (b81.f2 < (0 : Int)))), (46, .ptr 1 0 2), (47, iV .i64 b81.f2), (48, bV (decide (b81.f2 > (1099511627776 : Int)))), (51, .ptr 1 0 2), (52, iV .i64 b81.f2), (53, .ptr 1 0 1), (54, iV .i64 b81.f1), (55, iV .i64 t98), (56, iV .i64 (Int.tmod b81.f2 t98)), (57, bV ((Int.tmod b81.f2 t98) != (0 : Int))), (69, bV true)], [(1, some (.box 31 (apluvialref17_Item b81)))], 0⟩ [(decide (b81.f1 < (0 : Int))) = false, (decide (b81.f1 > (4 : Int))) = false, (decide (b81.f2 < (0 : Int))) = false, (decide (b81.f2 > (1099511627776 : Int))) = false, Enters Try.prog 19, Pv.Fn Try.prog 19 [iV .i64 b81.f1] [] 0 (fun r o => r = iV .i64 t98 ∧ o = []), t98 ≠ 0, ((Int.tmod b81.f2 t98) != (0 : Int)) = true] (by kernel_rfl) ⟨by exact c94, by exact c95, by exact c96, by exact c97, by exact Try.call19, by exact f_pluvialref16_Width.ok b81.f1 t98 e99, by exact c100, by exact c101, trivial⟩ ?_
                      obtain rfl := Option.some.inj H
                      exact Exists.intro _ (And.intro (fun _ _ h => h.conv (inv := []) (vk := []) (e0 := []) (t := ⟨[(0, .im (.row (a0.map epluvialref17_Item))), (3, iV .i64 x47), (69, bV true)], [], 0⟩) (by kernel_rfl)) (And.intro rfl rfl))
                    · replace H := (ifF c101).symm.trans H
                      obtain ⟨t102, e103, H⟩ := bind_of H
                      refine reg hP hn hm [(3, .b false), (8, .b false), (13, .b false), (18, .b false), (23, .call [] [] [] [] 0 (iV .i64 t98) []), (27, .b false), (34, .call [] [] [] [] 0 (iV .i64 t102) [])] [0, 3, 36, 37, 38, 41, 42, 43, 46, 47, 48, 51, 52, 53, 54, 55, 56, 57, 60, 61, 62, 63, 64, 65, 66, 67, 68, 69] [1] ⟨[(0, .im (.row (a0.map epluvialref17_Item))), (3, iV .i64 x47), (36, .ptr 1 0 1), (37, iV .i64 b81.f1), (38, bV (decide (b81.f1 > (4 : Int)))), (41, .ptr 1 0 2), (42, iV .i64 b81.f2), (43, bV (decide (b81.f2 < (0 : Int)))), (46, .ptr 1 0 2), (47, iV .i64 b81.f2), (48, bV (decide (b81.f2 > (1099511627776 : Int)))), (51, .ptr 1 0 2), (52, iV .i64 b81.f2), (53, .ptr 1 0 1), (54, iV .i64 b81.f1), (55, iV .i64 t98), (56, iV .i64 (Int.tmod b81.f2 t98)), (57, bV ((Int.tmod b81.f2 t98) != (0 : Int))), (60, .ptr 1 0 3), (61, iV .i64 b81.f3), (62, .ptr 1 0 2), (63, iV .i64 b81.f2), (64, .ptr 1 0 1), (65, iV .i64 b81.f1), (66, iV .i64 t102), (67, iV .i64 (IntKind.i64.wrap (b81.f2 + t102))), (68, bV (b81.f3 != (IntKind.i64.wrap (b81.f2 + t102)))), (69, bV (b81.f3 != (IntKind.i64.wrap (b81.f2 + t102))))], [(1, some (.box 31 (apluvialref17_Item b81)))], 0⟩ [(decide (b81.f1 < (0 : Int))) = false, (decide (b81.f1 > (4 : Int))) = false, (decide (b81.f2 < (0 : Int))) = false, (decide (b81.f2 > (1099511627776 : Int))) = false, Enters Try.prog 19, Pv.Fn Try.prog 19 [iV .i64 b81.f1] [] 0 (fun r o => r = iV .i64 t98 ∧ o = []), t98 ≠ 0, ((Int.tmod b81.f2 t98) != (0 : Int)) = false, Enters Try.prog 19, Pv.Fn Try.prog 19 [iV .i64 b81.f1] [] 0 (fun r o => r = iV .i64 t102 ∧ o = [])] (by kernel_rfl) ⟨by exact c94, by exact c95, by exact c96, by exact c97, by exact Try.call19, by exact f_pluvialref16_Width.ok b81.f1 t98 e99, by exact c100, by exact c101, by exact Try.call19, by exact f_pluvialref16_Width.ok b81.f1 t102 e103, trivial⟩ ?_
                      obtain rfl := Option.some.inj H
                      exact Exists.intro _ (And.intro (fun _ _ h => h.conv (inv := []) (vk := []) (e0 := []) (t := ⟨[(0, .im (.row (a0.map epluvialref17_Item))), (3, iV .i64 x47), (69, bV (b81.f3 != (IntKind.i64.wrap (b81.f2 + t102))))], [], 0⟩) (by kernel_rfl)) (And.intro rfl rfl))
          · obtain ⟨x104, rfl⟩ : ∃ z, z = o110 := ⟨_, rfl⟩
            rintro e s ⟨rfl, rfl⟩
            refine AWp.cond x104 rfl (fun c105 => ?_) (fun c105 => ?_)
            · replace H := (ifT c105).symm.trans H
              refine AWp.seq ?_
              refine reg hP hn hm [] [2] [] ⟨[(2, bV false)], [], 0⟩ [] (by kernel_rfl) trivial ?_
              refine AWp.conv (inv := []) (vk := []) (e0 := []) (t := ⟨[(2, bV false)], [], 0⟩) (by kernel_rfl) ?_
              refine AWp.ret ?_
              obtain rfl := Option.some.inj H
              exact Exists.intro _ (And.intro (fun _ _ h => h) (And.intro rfl (And.intro rfl (And.intro (by kernel_rfl) (by kernel_rfl)))))
            · replace H := (ifF c105).symm.trans H
              refine AWp.skip ?_
              refine reg hP hn hm [] [0, 3] [] ⟨[(0, .im (.row (a0.map epluvialref17_Item))), (3, iV .i64 (IntKind.i64.wrap (x47 + (1 : Int))))], [], 0⟩ [] (by kernel_rfl) trivial ?_
              exact LWp.conv (inv := []) (vk := []) (e0 := []) (t := ⟨[(0, .im (.row (a0.map epluvialref17_Item))), (3, iV .i64 (IntKind.i64.wrap (x47 + (1 : Int))))], [], 0⟩) (by kernel_rfl) (ih _ _ H)
    · replace H := (ifF c48).symm.trans H
      refine AWp.exit ?_
      obtain rfl := Option.some.inj H
      exact Exists.intro _ (And.intro (fun _ _ h => h.conv (inv := []) (vk := []) (e0 := []) (t := ⟨[], [], 0⟩) (by kernel_rfl)) (And.intro rfl rfl))
  · rcases o106 with rr | _
    · skip
      rintro e s ⟨rfl, hfl, hres⟩
      obtain rfl := Option.some.inj H
      exact Exists.intro _ (And.intro (fun _ _ h => h) (And.intro (.inl rfl) (And.intro hfl hres)))
    · skip
      rintro e s ⟨rfl, rfl⟩
      refine AWp.seq ?_
      refine reg hP hn hm [] [2] [] ⟨[(2, bV true)], [], 0⟩ [] (by kernel_rfl) trivial ?_
      refine AWp.conv (inv := []) (vk := []) (e0 := []) (t := ⟨[(2, bV true)], [], 0⟩) (by kernel_rfl) ?_
      refine AWp.ret ?_
      obtain rfl := Option.some.inj H
      exact Exists.intro _ (And.intro (fun _ _ h => h) (And.intro (.inl rfl) (And.intro rfl (And.intro (by kernel_rfl) (by kernel_rfl)))))
def f_pluviallaw17_To.l0 (a0 : List Tpluvialref17_Item) (x132 : List Tplan_Item) (x133 : Int) : Option (List Tplan_Item) := if (decide (x133 < (a0.length : Int))) = true then ((at? a0 x133) >>= fun b138 => (chk ((x132.length + [(⟨b138.f0, (⟨b138.f2, b138.f3, b138.f1⟩ : Tblock_Meta)⟩ : Tplan_Item)].length) * 32 ≤ 140737488355328)) >>= fun _ => f_pluviallaw17_To.l0 a0 (x132 ++ [(⟨b138.f0, (⟨b138.f2, b138.f3, b138.f1⟩ : Tblock_Meta)⟩ : Tplan_Item)]) (IntKind.i64.wrap (x133 + (1 : Int)))) else (some x132)
partial_fixpoint
def f_pluviallaw17_To.f (a0 : List Tpluvialref17_Item) : Option (List Tplan_Item) := (f_pluviallaw17_To.l0 a0 [] 0) >>= fun x143 => some x143
theorem f_pluviallaw17_To.ok (a0 : List Tpluvialref17_Item) (r : List Tplan_Item) (H : f_pluviallaw17_To.f a0 = some r) : Pv.Fn Try.prog 15 [.im (.row (a0.map epluvialref17_Item))] [] 0 (fun x o => x = .own 0 ∧ o = [(0, some (.row 4 89 (r.map eplan_Item)))]) := by
  unfold f_pluviallaw17_To.f at H
  refine Fn.bodyK [0] Try.func15 rfl rfl (fun Γ hP hn => ?_)
  have hm : Try.prog.follows .mixedOrders = true := by kernel_rfl
  replace hn : Γ.n = 27 := hn
  refine AWp.seq ?_
  refine reg hP hn hm [] [0] [] ⟨[(0, .im (.row (a0.map epluvialref17_Item)))], [], 0⟩ [] (by kernel_rfl) trivial ?_
  refine AWp.seq ?_
  refine reg hP hn hm [] [0, 3] [] ⟨[(0, .im (.row (a0.map epluvialref17_Item))), (3, .none0)], [], 0⟩ [] (by kernel_rfl) trivial ?_
  refine AWp.seq ?_
  refine AWp.seq ?_
  refine reg hP hn hm [(1, .any (iV .i64 (a0.length : Int)))] [3, 6, 7, 8] [] ⟨[(3, .none0), (6, .im (.row (a0.map epluvialref17_Item))), (7, iV .i64 (a0.length : Int)), (8, iV .i64 0)], [], 0⟩ [((a0.map epluvialref17_Item).length : Int) = (a0.length : Int)] (by kernel_rfl) ⟨by rw [len_map], trivial⟩ ?_
  refine AWp.block ?_
  obtain ⟨o144, e145, H⟩ := bind_of H
  refine AWp.loop (LWp.conv (inv := []) (vk := []) (e0 := [3]) (t := ⟨[(3, .own 3), (6, .im (.row (a0.map epluvialref17_Item))), (7, iV .i64 (a0.length : Int)), (8, iV .i64 0)], [(3, some (.row 4 89 ([].map eplan_Item)))], 0⟩) (by kernel_rfl) ?_)
  refine LWp.mono (Q := fun e s => (match (generalizing := false) o144 with | x143 => e = .exit 0 ∧ s = ⟨[(3, .own 7)], [(7, some (.row 4 89 (x143.map eplan_Item)))], 0⟩)) (LWp.cv (withBody (fun body hbody => ?_))) ?_
  · refine f_pluviallaw17_To.l0.partial_correctness a0 (motive := fun x132 x133 o144 => LWp Γ body (fun e s => ∃ t, Cv Γ s t ∧ (match (generalizing := false) o144 with | x143 => e = .exit 0 ∧ t = ⟨[(3, .own 7)], [(7, some (.row 4 89 (x143.map eplan_Item)))], 0⟩)) ⟨[(3, .own 3), (6, .im (.row (a0.map epluvialref17_Item))), (7, iV .i64 (a0.length : Int)), (8, iV .i64 x133)], [(3, some (.row 4 89 (x132.map eplan_Item)))], 0⟩) ?_ _ _ _ e145
    clear H e145 o144; intro self ih x132 x133 o144 H
    subst hbody
    refine LWp.round ?_
    refine AWp.seq ?_
    refine reg hP hn hm [] [3, 6, 7, 8, 9] [3] ⟨[(3, .own 3), (6, .im (.row (a0.map epluvialref17_Item))), (7, iV .i64 (a0.length : Int)), (8, iV .i64 x133), (9, bV (decide (x133 < (a0.length : Int))))], [(3, some (.row 4 89 (x132.map eplan_Item)))], 0⟩ [] (by kernel_rfl) trivial ?_
    refine AWp.seq ?_
    refine AWp.cond (decide (x133 < (a0.length : Int))) rfl (fun c134 => ?_) (fun c134 => ?_)
    · replace H := (ifT c134).symm.trans H
      refine AWp.skip ?_
      refine AWp.seq ?_
      refine AWp.block ?_
      refine AWp.seq ?_
      obtain ⟨b138, p139, q140, H⟩ := at_of H
      refine reg hP hn hm [(0, .c (epluvialref17_Item b138)), (2, .k 4)] [3, 5, 6, 7, 8] [3, 4] ⟨[(3, .own 3), (5, .ptr 4 0 0), (6, .im (.row (a0.map epluvialref17_Item))), (7, iV .i64 (a0.length : Int)), (8, iV .i64 x133)], [(3, some (.row 4 89 (x132.map eplan_Item))), (4, some (.box 31 (apluvialref17_Item b138)))], 0⟩ [0 ≤ x133, (a0.map epluvialref17_Item)[(Int.toNat (x133))]? = some (epluvialref17_Item b138)] (by kernel_rfl) ⟨by exact p139, by exact el_map epluvialref17_Item q140, trivial⟩ ?_
      obtain ⟨c142, H⟩ := chk_of H
      refine reg hP hn hm [(11, .app 5 ([(⟨b138.f0, (⟨b138.f2, b138.f3, b138.f1⟩ : Tblock_Meta)⟩ : Tplan_Item)].map eplan_Item)), (12, .app 6 ((x132 ++ [(⟨b138.f0, (⟨b138.f2, b138.f3, b138.f1⟩ : Tblock_Meta)⟩ : Tplan_Item)]).map eplan_Item))] [3, 6, 7, 8] [6] ⟨[(3, .own 6), (6, .im (.row (a0.map epluvialref17_Item))), (7, iV .i64 (a0.length : Int)), (8, iV .i64 x133)], [(6, some (.row 4 89 ((x132 ++ [(⟨b138.f0, (⟨b138.f2, b138.f3, b138.f1⟩ : Tblock_Meta)⟩ : Tplan_Item)]).map eplan_Item)))], 0⟩ [[(⟨b138.f0, (⟨b138.f2, b138.f3, b138.f1⟩ : Tblock_Meta)⟩ : Tplan_Item)].map eplan_Item = [[iI .i64 b138.f0, iI .i64 b138.f2, iI .i64 b138.f3, iI .i64 b138.f1]], (x132 ++ [(⟨b138.f0, (⟨b138.f2, b138.f3, b138.f1⟩ : Tblock_Meta)⟩ : Tplan_Item)]).map eplan_Item = (x132.map eplan_Item) ++ ([(⟨b138.f0, (⟨b138.f2, b138.f3, b138.f1⟩ : Tblock_Meta)⟩ : Tplan_Item)].map eplan_Item), ∀ c ∈ ([(⟨b138.f0, (⟨b138.f2, b138.f3, b138.f1⟩ : Tblock_Meta)⟩ : Tplan_Item)].map eplan_Item), c.length = 4, ∀ c ∈ ([(⟨b138.f0, (⟨b138.f2, b138.f3, b138.f1⟩ : Tblock_Meta)⟩ : Tplan_Item)].map eplan_Item), leaves (c.map .im) = true, ((x132.map eplan_Item).length + ([(⟨b138.f0, (⟨b138.f2, b138.f3, b138.f1⟩ : Tblock_Meta)⟩ : Tplan_Item)].map eplan_Item).length) * 32 ≤ 140737488355328] (by kernel_rfl) ⟨by exact rfl, by simp, by exact all_len _ _ _ (fun _ => rfl), by exact all_leaf _ _ (fun _ => rfl), by simpa using c142, trivial⟩ ?_
      refine reg hP hn hm [] [3, 6, 7, 8] [6] ⟨[(3, .own 6), (6, .im (.row (a0.map epluvialref17_Item))), (7, iV .i64 (a0.length : Int)), (8, iV .i64 (IntKind.i64.wrap (x133 + (1 : Int))))], [(6, some (.row 4 89 ((x132 ++ [(⟨b138.f0, (⟨b138.f2, b138.f3, b138.f1⟩ : Tblock_Meta)⟩ : Tplan_Item)]).map eplan_Item)))], 0⟩ [] (by kernel_rfl) trivial ?_
      exact LWp.conv (inv := [(6, 3)]) (vk := []) (e0 := []) (t := ⟨[(3, .own 3), (6, .im (.row (a0.map epluvialref17_Item))), (7, iV .i64 (a0.length : Int)), (8, iV .i64 (IntKind.i64.wrap (x133 + (1 : Int))))], [(3, some (.row 4 89 ((x132 ++ [(⟨b138.f0, (⟨b138.f2, b138.f3, b138.f1⟩ : Tblock_Meta)⟩ : Tplan_Item)]).map eplan_Item)))], 0⟩) (by kernel_rfl) (ih _ _ _ H)
    · replace H := (ifF c134).symm.trans H
      refine AWp.exit ?_
      obtain rfl := Option.some.inj H
      exact Exists.intro _ (And.intro (fun _ _ h => h.conv (inv := [(3, 7)]) (vk := []) (e0 := []) (t := ⟨[(3, .own 7)], [(7, some (.row 4 89 (x132.map eplan_Item)))], 0⟩) (by kernel_rfl)) (And.intro rfl rfl))
  · obtain ⟨x143, rfl⟩ : ∃ z, z = o144 := ⟨_, rfl⟩
    rintro e s ⟨rfl, rfl⟩
    refine AWp.seq ?_
    refine reg hP hn hm [] [2] [7] ⟨[(2, .own 7)], [(7, some (.row 4 89 (x143.map eplan_Item)))], 0⟩ [] (by kernel_rfl) trivial ?_
    refine AWp.conv (inv := [(7, 0)]) (vk := []) (e0 := []) (t := ⟨[(2, .own 0)], [(0, some (.row 4 89 (x143.map eplan_Item)))], 0⟩) (by kernel_rfl) ?_
    refine AWp.ret ?_
    obtain rfl := Option.some.inj H
    exact Exists.intro _ (And.intro (fun _ _ h => h) (And.intro (.inl rfl) (And.intro rfl (And.intro (by kernel_rfl) (by kernel_rfl)))))
def f_slices_Clone_plan_Item.f (a0 : List Tplan_Item) : Option (List Tplan_Item) := (chk ((([] : List Tplan_Item).length + a0.length) * 32 ≤ 140737488355328)) >>= fun _ => some a0
theorem f_slices_Clone_plan_Item.ok (a0 r : List Tplan_Item) (H : f_slices_Clone_plan_Item.f a0 = some r) : Pv.Fn Try.prog 48 [.im (.row (a0.map eplan_Item))] [] 0 (fun x o => x = .own 0 ∧ o = [(0, some (.row 4 89 (r.map eplan_Item)))]) := by
  unfold f_slices_Clone_plan_Item.f at H
  obtain ⟨c1, H⟩ := chk_of H
  obtain rfl := Option.some.inj H
  refine Fn.bodyK [0] Try.func48 rfl rfl (fun Γ hP hn => ?_)
  have hm : Try.prog.follows .mixedOrders = true := by kernel_rfl
  replace hn : Γ.n = 8 := hn
  refine AWp.seq ?_
  refine reg hP hn hm [] [0, 2] [] ⟨[(0, .im (.row (a0.map eplan_Item))), (2, .none0)], [], 0⟩ [] (by kernel_rfl) trivial ?_
  refine AWp.seq ?_
  cases a0 with
  | nil =>
    refine AWp.nilSplit 0 rfl (fun b m => ?_)
    refine AWp.seq ?_
    cases b with
    | none =>
      refine reg hP hn hm [(1, .more xNil)] [2, 4] [] ⟨[(2, .none0), (4, bV true)], [], 0⟩ [] (by kernel_rfl) trivial ?_
      refine AWp.cond true rfl (fun _ => ?_) (fun h => nomatch h)
      refine AWp.seq ?_
      refine reg hP hn hm [] [2] [] ⟨[(2, .none0)], [], 0⟩ [] (by kernel_rfl) trivial ?_
      refine AWp.conv (inv := []) (vk := []) (e0 := [0]) (t := ⟨[(2, .own 0)], [(0, some (.row 4 89 []))], 0⟩) (by kernel_rfl) ?_
      refine AWp.ret ?_
      exact Exists.intro _ (And.intro (fun _ _ h => h) (And.intro (.inl rfl) (And.intro rfl (And.intro (by kernel_rfl) (by kernel_rfl)))))
    | some b =>
      refine reg hP hn hm [(1, .more xNil)] [0, 2, 4] [] ⟨[(0, .im (.sc (.slice (some b) 0 m))), (2, .none0), (4, bV false)], [], 0⟩ [] (by kernel_rfl) trivial ?_
      refine AWp.cond false rfl (fun h => nomatch h) (fun _ => ?_)
      refine AWp.skip ?_
      refine AWp.unsplit 0 rfl ?_
      refine AWp.seq ?_
      refine reg hP hn hm [(0, .app 0 ([] : List (List Im))), (2, .app 1 (([] : List Tplan_Item).map eplan_Item))] [2] [1] ⟨[(2, .own 1)], [(1, some (.row 4 89 (([] : List Tplan_Item).map eplan_Item)))], 0⟩ [([] : List (List Im)) = [], ([] : List Tplan_Item).map eplan_Item = ([] : List (List Im)) ++ ([] : List Tplan_Item).map eplan_Item, ∀ c ∈ ([] : List Tplan_Item).map eplan_Item, c.length = 4, ∀ c ∈ ([] : List Tplan_Item).map eplan_Item, leaves (c.map .im) = true, (([] : List (List Im)).length + (([] : List Tplan_Item).map eplan_Item).length) * 32 ≤ 140737488355328] (by kernel_rfl) ⟨rfl, by simp, by exact all_len _ _ _ (fun _ => rfl), by exact all_leaf _ _ (fun _ => rfl), by simpa using c1, trivial⟩ ?_
      refine AWp.conv (inv := [(1, 0)]) (vk := []) (e0 := []) (t := ⟨[(2, .own 0)], [(0, some (.row 4 89 (([] : List Tplan_Item).map eplan_Item)))], 0⟩) (by kernel_rfl) ?_
      refine AWp.ret ?_
      exact Exists.intro _ (And.intro (fun _ _ h => h) (And.intro (.inl rfl) (And.intro rfl (And.intro (by kernel_rfl) (by kernel_rfl)))))
  | cons y l =>
    refine AWp.seq ?_
    refine reg hP hn hm [(1, .more xNil)] [0, 2, 4] [] ⟨[(0, .im (.row ((y :: l).map eplan_Item))), (2, .none0), (4, bV false)], [], 0⟩ [] (by kernel_rfl) trivial ?_
    refine AWp.cond false rfl (fun h => nomatch h) (fun _ => ?_)
    refine AWp.skip ?_
    refine AWp.seq ?_
    refine reg hP hn hm [(0, .app 0 ([] : List (List Im))), (2, .app 1 ((y :: l).map eplan_Item))] [2] [1] ⟨[(2, .own 1)], [(1, some (.row 4 89 ((y :: l).map eplan_Item)))], 0⟩ [([] : List (List Im)) = [], (y :: l).map eplan_Item = ([] : List (List Im)) ++ (y :: l).map eplan_Item, ∀ c ∈ (y :: l).map eplan_Item, c.length = 4, ∀ c ∈ (y :: l).map eplan_Item, leaves (c.map .im) = true, (([] : List (List Im)).length + ((y :: l).map eplan_Item).length) * 32 ≤ 140737488355328] (by kernel_rfl) ⟨rfl, by simp, by exact all_len _ _ _ (fun _ => rfl), by exact all_leaf _ _ (fun _ => rfl), by simpa using c1, trivial⟩ ?_
    refine AWp.conv (inv := [(1, 0)]) (vk := []) (e0 := []) (t := ⟨[(2, .own 0)], [(0, some (.row 4 89 ((y :: l).map eplan_Item)))], 0⟩) (by kernel_rfl) ?_
    refine AWp.ret ?_
    exact Exists.intro _ (And.intro (fun _ _ h => h) (And.intro (.inl rfl) (And.intro rfl (And.intro (by kernel_rfl) (by kernel_rfl)))))
def f_bits_Len64.f (a0 : Int) : Option (Int) := ((if (decide (a0 ≥ (4294967296 : Int))) = true then (some (Int.fdiv a0 4294967296, 32)) else (some (a0, 0))) : Option (Int × Int)) >>= fun oo => match oo with | (x153, x154) => (((if (decide (x153 ≥ (65536 : Int))) = true then (some (Int.fdiv x153 65536, IntKind.i64.wrap (x154 + (16 : Int)))) else (some (x153, x154))) : Option (Int × Int)) >>= fun oo => match oo with | (x156, x157) => (((if (decide (x156 ≥ (256 : Int))) = true then (some (Int.fdiv x156 256, IntKind.i64.wrap (x157 + (8 : Int)))) else (some (x156, x157))) : Option (Int × Int)) >>= fun oo => match oo with | (x159, x160) => ((chk (0 ≤ (IntKind.u8.wrap (x159)) ∧ (IntKind.u8.wrap (x159)) < ((⟨#[0, 1, 2, 2, 3, 3, 3, 3, 4, 4, 4, 4, 4, 4, 4, 4, 5, 5, 5, 5, 5, 5, 5, 5, 5, 5, 5, 5, 5, 5, 5, 5, 6, 6, 6, 6, 6, 6, 6, 6, 6, 6, 6, 6, 6, 6, 6, 6, 6, 6, 6, 6, 6, 6, 6, 6, 6, 6, 6, 6, 6, 6, 6, 6, 7, 7, 7, 7, 7, 7, 7, 7, 7, 7, 7, 7, 7, 7, 7, 7, 7, 7, 7, 7, 7, 7, 7, 7, 7, 7, 7, 7, 7, 7, 7, 7, 7, 7, 7, 7, 7, 7, 7, 7, 7, 7, 7, 7, 7, 7, 7, 7, 7, 7, 7, 7, 7, 7, 7, 7, 7, 7, 7, 7, 7, 7, 7, 7, 8, 8, 8, 8, 8, 8, 8, 8, 8, 8, 8, 8, 8, 8, 8, 8, 8, 8, 8, 8, 8, 8, 8, 8, 8, 8, 8, 8, 8, 8, 8, 8, 8, 8, 8, 8, 8, 8, 8, 8, 8, 8, 8, 8, 8, 8, 8, 8, 8, 8, 8, 8, 8, 8, 8, 8, 8, 8, 8, 8, 8, 8, 8, 8, 8, 8, 8, 8, 8, 8, 8, 8, 8, 8, 8, 8, 8, 8, 8, 8, 8, 8, 8, 8, 8, 8, 8, 8, 8, 8, 8, 8, 8, 8, 8, 8, 8, 8, 8, 8, 8, 8, 8, 8, 8, 8, 8, 8, 8, 8, 8, 8, 8, 8, 8, 8, 8, 8, 8, 8, 8, 8, 8, 8, 8, 8, 8, 8]⟩ : ByteArray).size : Int))) >>= fun _ => some (IntKind.i64.wrap (x160 + (IntKind.i64.wrap (bt (⟨#[0, 1, 2, 2, 3, 3, 3, 3, 4, 4, 4, 4, 4, 4, 4, 4, 5, 5, 5, 5, 5, 5, 5, 5, 5, 5, 5, 5, 5, 5, 5, 5, 6, 6, 6, 6, 6, 6, 6, 6, 6, 6, 6, 6, 6, 6, 6, 6, 6, 6, 6, 6, 6, 6, 6, 6, 6, 6, 6, 6, 6, 6, 6, 6, 7, 7, 7, 7, 7, 7, 7, 7, 7, 7, 7, 7, 7, 7, 7, 7, 7, 7, 7, 7, 7, 7, 7, 7, 7, 7, 7, 7, 7, 7, 7, 7, 7, 7, 7, 7, 7, 7, 7, 7, 7, 7, 7, 7, 7, 7, 7, 7, 7, 7, 7, 7, 7, 7, 7, 7, 7, 7, 7, 7, 7, 7, 7, 7, 8, 8, 8, 8, 8, 8, 8, 8, 8, 8, 8, 8, 8, 8, 8, 8, 8, 8, 8, 8, 8, 8, 8, 8, 8, 8, 8, 8, 8, 8, 8, 8, 8, 8, 8, 8, 8, 8, 8, 8, 8, 8, 8, 8, 8, 8, 8, 8, 8, 8, 8, 8, 8, 8, 8, 8, 8, 8, 8, 8, 8, 8, 8, 8, 8, 8, 8, 8, 8, 8, 8, 8, 8, 8, 8, 8, 8, 8, 8, 8, 8, 8, 8, 8, 8, 8, 8, 8, 8, 8, 8, 8, 8, 8, 8, 8, 8, 8, 8, 8, 8, 8, 8, 8, 8, 8, 8, 8, 8, 8, 8, 8, 8, 8, 8, 8, 8, 8, 8, 8, 8, 8, 8, 8, 8, 8, 8, 8]⟩ : ByteArray) (IntKind.u8.wrap (x159)))))))))
theorem f_bits_Len64.ok (a0 : Int) (r : Int) (H : f_bits_Len64.f a0 = some r) : Pv.Fn Try.prog 77 [iV .u64 a0] [] 0 (fun x o => x = iV .i64 r ∧ o = []) := by
  unfold f_bits_Len64.f at H
  refine Fn.bodyK [] Try.func77 rfl rfl (fun Γ hP hn => ?_)
  have hm : Try.prog.follows .mixedOrders = true := by kernel_rfl
  replace hn : Γ.n = 25 := hn
  refine AWp.seq ?_
  refine reg hP hn hm [] [0, 2] [] ⟨[(0, iV .u64 a0), (2, iV .i64 0)], [], 0⟩ [] (by kernel_rfl) trivial ?_
  refine AWp.seq ?_
  refine AWp.seq ?_
  refine reg hP hn hm [] [0, 2, 4] [] ⟨[(0, iV .u64 a0), (2, iV .i64 0), (4, bV (decide (a0 ≥ (4294967296 : Int))))], [], 0⟩ [] (by kernel_rfl) trivial ?_
  obtain ⟨o163, e164, H⟩ := bind_of H
  refine AWp.mono (Q := fun e s => (match (generalizing := false) o163 with | (x153, x154) => e = .normal ∧ s = ⟨[(0, iV .u64 x153), (2, iV .i64 x154)], [], 0⟩)) (AWp.cv ?_) ?_
  · replace H := e164; clear e164
    refine AWp.cond (decide (a0 ≥ (4294967296 : Int))) rfl (fun c152 => ?_) (fun c152 => ?_)
    · replace H := (ifT c152).symm.trans H
      refine AWp.seq ?_
      refine reg hP hn hm [] [0] [] ⟨[(0, iV .u64 (Int.fdiv a0 4294967296))], [], 0⟩ [(0 : Int) ≤ 32] (by kernel_rfl) ⟨by decide, trivial⟩ ?_
      refine reg hP hn hm [] [0, 2] [] ⟨[(0, iV .u64 (Int.fdiv a0 4294967296)), (2, iV .i64 32)], [], 0⟩ [] (by kernel_rfl) trivial ?_
      obtain rfl := Option.some.inj H
      exact Exists.intro _ (And.intro (fun _ _ h => h.conv (inv := []) (vk := []) (e0 := []) (t := ⟨[(0, iV .u64 (Int.fdiv a0 4294967296)), (2, iV .i64 32)], [], 0⟩) (by kernel_rfl)) (And.intro rfl rfl))
    · replace H := (ifF c152).symm.trans H
      refine AWp.skip ?_
      obtain rfl := Option.some.inj H
      exact Exists.intro _ (And.intro (fun _ _ h => h.conv (inv := []) (vk := []) (e0 := []) (t := ⟨[(0, iV .u64 a0), (2, iV .i64 0)], [], 0⟩) (by kernel_rfl)) (And.intro rfl rfl))
  · obtain ⟨x153, x154⟩ := o163
    rintro e s ⟨rfl, rfl⟩
    refine AWp.seq ?_
    refine AWp.seq ?_
    refine reg hP hn hm [] [0, 2, 8] [] ⟨[(0, iV .u64 x153), (2, iV .i64 x154), (8, bV (decide (x153 ≥ (65536 : Int))))], [], 0⟩ [] (by kernel_rfl) trivial ?_
    obtain ⟨o165, e166, H⟩ := bind_of H
    refine AWp.mono (Q := fun e s => (match (generalizing := false) o165 with | (x156, x157) => e = .normal ∧ s = ⟨[(0, iV .u64 x156), (2, iV .i64 x157)], [], 0⟩)) (AWp.cv ?_) ?_
    · replace H := e166; clear e166
      refine AWp.cond (decide (x153 ≥ (65536 : Int))) rfl (fun c155 => ?_) (fun c155 => ?_)
      · replace H := (ifT c155).symm.trans H
        refine AWp.seq ?_
        refine reg hP hn hm [] [0, 2] [] ⟨[(0, iV .u64 (Int.fdiv x153 65536)), (2, iV .i64 x154)], [], 0⟩ [(0 : Int) ≤ 16] (by kernel_rfl) ⟨by decide, trivial⟩ ?_
        refine reg hP hn hm [] [0, 2] [] ⟨[(0, iV .u64 (Int.fdiv x153 65536)), (2, iV .i64 (IntKind.i64.wrap (x154 + (16 : Int))))], [], 0⟩ [] (by kernel_rfl) trivial ?_
        obtain rfl := Option.some.inj H
        exact Exists.intro _ (And.intro (fun _ _ h => h.conv (inv := []) (vk := []) (e0 := []) (t := ⟨[(0, iV .u64 (Int.fdiv x153 65536)), (2, iV .i64 (IntKind.i64.wrap (x154 + (16 : Int))))], [], 0⟩) (by kernel_rfl)) (And.intro rfl rfl))
      · replace H := (ifF c155).symm.trans H
        refine AWp.skip ?_
        obtain rfl := Option.some.inj H
        exact Exists.intro _ (And.intro (fun _ _ h => h.conv (inv := []) (vk := []) (e0 := []) (t := ⟨[(0, iV .u64 x153), (2, iV .i64 x154)], [], 0⟩) (by kernel_rfl)) (And.intro rfl rfl))
    · obtain ⟨x156, x157⟩ := o165
      rintro e s ⟨rfl, rfl⟩
      refine AWp.seq ?_
      refine AWp.seq ?_
      refine reg hP hn hm [] [0, 2, 14] [] ⟨[(0, iV .u64 x156), (2, iV .i64 x157), (14, bV (decide (x156 ≥ (256 : Int))))], [], 0⟩ [] (by kernel_rfl) trivial ?_
      obtain ⟨o167, e168, H⟩ := bind_of H
      refine AWp.mono (Q := fun e s => (match (generalizing := false) o167 with | (x159, x160) => e = .normal ∧ s = ⟨[(0, iV .u64 x159), (2, iV .i64 x160)], [], 0⟩)) (AWp.cv ?_) ?_
      · replace H := e168; clear e168
        refine AWp.cond (decide (x156 ≥ (256 : Int))) rfl (fun c158 => ?_) (fun c158 => ?_)
        · replace H := (ifT c158).symm.trans H
          refine AWp.seq ?_
          refine reg hP hn hm [] [0, 2] [] ⟨[(0, iV .u64 (Int.fdiv x156 256)), (2, iV .i64 x157)], [], 0⟩ [(0 : Int) ≤ 8] (by kernel_rfl) ⟨by decide, trivial⟩ ?_
          refine reg hP hn hm [] [0, 2] [] ⟨[(0, iV .u64 (Int.fdiv x156 256)), (2, iV .i64 (IntKind.i64.wrap (x157 + (8 : Int))))], [], 0⟩ [] (by kernel_rfl) trivial ?_
          obtain rfl := Option.some.inj H
          exact Exists.intro _ (And.intro (fun _ _ h => h.conv (inv := []) (vk := []) (e0 := []) (t := ⟨[(0, iV .u64 (Int.fdiv x156 256)), (2, iV .i64 (IntKind.i64.wrap (x157 + (8 : Int))))], [], 0⟩) (by kernel_rfl)) (And.intro rfl rfl))
        · replace H := (ifF c158).symm.trans H
          refine AWp.skip ?_
          obtain rfl := Option.some.inj H
          exact Exists.intro _ (And.intro (fun _ _ h => h.conv (inv := []) (vk := []) (e0 := []) (t := ⟨[(0, iV .u64 x156), (2, iV .i64 x157)], [], 0⟩) (by kernel_rfl)) (And.intro rfl rfl))
      · obtain ⟨x159, x160⟩ := o167
        rintro e s ⟨rfl, rfl⟩
        refine AWp.seq ?_
        obtain ⟨c162, H⟩ := chk_of H
        refine reg hP hn hm [] [2] [] ⟨[(2, iV .i64 (IntKind.i64.wrap (x160 + (IntKind.i64.wrap (bt (⟨#[0, 1, 2, 2, 3, 3, 3, 3, 4, 4, 4, 4, 4, 4, 4, 4, 5, 5, 5, 5, 5, 5, 5, 5, 5, 5, 5, 5, 5, 5, 5, 5, 6, 6, 6, 6, 6, 6, 6, 6, 6, 6, 6, 6, 6, 6, 6, 6, 6, 6, 6, 6, 6, 6, 6, 6, 6, 6, 6, 6, 6, 6, 6, 6, 7, 7, 7, 7, 7, 7, 7, 7, 7, 7, 7, 7, 7, 7, 7, 7, 7, 7, 7, 7, 7, 7, 7, 7, 7, 7, 7, 7, 7, 7, 7, 7, 7, 7, 7, 7, 7, 7, 7, 7, 7, 7, 7, 7, 7, 7, 7, 7, 7, 7, 7, 7, 7, 7, 7, 7, 7, 7, 7, 7, 7, 7, 7, 7, 8, 8, 8, 8, 8, 8, 8, 8, 8, 8, 8, 8, 8, 8, 8, 8, 8, 8, 8, 8, 8, 8, 8, 8, 8, 8, 8, 8, 8, 8, 8, 8, 8, 8, 8, 8, 8, 8, 8, 8, 8, 8, 8, 8, 8, 8, 8, 8, 8, 8, 8, 8, 8, 8, 8, 8, 8, 8, 8, 8, 8, 8, 8, 8, 8, 8, 8, 8, 8, 8, 8, 8, 8, 8, 8, 8, 8, 8, 8, 8, 8, 8, 8, 8, 8, 8, 8, 8, 8, 8, 8, 8, 8, 8, 8, 8, 8, 8, 8, 8, 8, 8, 8, 8, 8, 8, 8, 8, 8, 8, 8, 8, 8, 8, 8, 8, 8, 8, 8, 8, 8, 8, 8, 8, 8, 8, 8, 8]⟩ : ByteArray) (IntKind.u8.wrap (x159)))))))], [], 0⟩ [0 ≤ (IntKind.u8.wrap (x159)), (IntKind.u8.wrap (x159)) < ((⟨#[0, 1, 2, 2, 3, 3, 3, 3, 4, 4, 4, 4, 4, 4, 4, 4, 5, 5, 5, 5, 5, 5, 5, 5, 5, 5, 5, 5, 5, 5, 5, 5, 6, 6, 6, 6, 6, 6, 6, 6, 6, 6, 6, 6, 6, 6, 6, 6, 6, 6, 6, 6, 6, 6, 6, 6, 6, 6, 6, 6, 6, 6, 6, 6, 7, 7, 7, 7, 7, 7, 7, 7, 7, 7, 7, 7, 7, 7, 7, 7, 7, 7, 7, 7, 7, 7, 7, 7, 7, 7, 7, 7, 7, 7, 7, 7, 7, 7, 7, 7, 7, 7, 7, 7, 7, 7, 7, 7, 7, 7, 7, 7, 7, 7, 7, 7, 7, 7, 7, 7, 7, 7, 7, 7, 7, 7, 7, 7, 8, 8, 8, 8, 8, 8, 8, 8, 8, 8, 8, 8, 8, 8, 8, 8, 8, 8, 8, 8, 8, 8, 8, 8, 8, 8, 8, 8, 8, 8, 8, 8, 8, 8, 8, 8, 8, 8, 8, 8, 8, 8, 8, 8, 8, 8, 8, 8, 8, 8, 8, 8, 8, 8, 8, 8, 8, 8, 8, 8, 8, 8, 8, 8, 8, 8, 8, 8, 8, 8, 8, 8, 8, 8, 8, 8, 8, 8, 8, 8, 8, 8, 8, 8, 8, 8, 8, 8, 8, 8, 8, 8, 8, 8, 8, 8, 8, 8, 8, 8, 8, 8, 8, 8, 8, 8, 8, 8, 8, 8, 8, 8, 8, 8, 8, 8, 8, 8, 8, 8, 8, 8, 8, 8, 8, 8, 8, 8]⟩ : ByteArray).size : Int)] (by kernel_rfl) ⟨by exact c162.1, by exact c162.2, trivial⟩ ?_
        refine AWp.conv (inv := []) (vk := []) (e0 := []) (t := ⟨[(2, iV .i64 (IntKind.i64.wrap (x160 + (IntKind.i64.wrap (bt (⟨#[0, 1, 2, 2, 3, 3, 3, 3, 4, 4, 4, 4, 4, 4, 4, 4, 5, 5, 5, 5, 5, 5, 5, 5, 5, 5, 5, 5, 5, 5, 5, 5, 6, 6, 6, 6, 6, 6, 6, 6, 6, 6, 6, 6, 6, 6, 6, 6, 6, 6, 6, 6, 6, 6, 6, 6, 6, 6, 6, 6, 6, 6, 6, 6, 7, 7, 7, 7, 7, 7, 7, 7, 7, 7, 7, 7, 7, 7, 7, 7, 7, 7, 7, 7, 7, 7, 7, 7, 7, 7, 7, 7, 7, 7, 7, 7, 7, 7, 7, 7, 7, 7, 7, 7, 7, 7, 7, 7, 7, 7, 7, 7, 7, 7, 7, 7, 7, 7, 7, 7, 7, 7, 7, 7, 7, 7, 7, 7, 8, 8, 8, 8, 8, 8, 8, 8, 8, 8, 8, 8, 8, 8, 8, 8, 8, 8, 8, 8, 8, 8, 8, 8, 8, 8, 8, 8, 8, 8, 8, 8, 8, 8, 8, 8, 8, 8, 8, 8, 8, 8, 8, 8, 8, 8, 8, 8, 8, 8, 8, 8, 8, 8, 8, 8, 8, 8, 8, 8, 8, 8, 8, 8, 8, 8, 8, 8, 8, 8, 8, 8, 8, 8, 8, 8, 8, 8, 8, 8, 8, 8, 8, 8, 8, 8, 8, 8, 8, 8, 8, 8, 8, 8, 8, 8, 8, 8, 8, 8, 8, 8, 8, 8, 8, 8, 8, 8, 8, 8, 8, 8, 8, 8, 8, 8, 8, 8, 8, 8, 8, 8, 8, 8, 8, 8, 8, 8]⟩ : ByteArray) (IntKind.u8.wrap (x159)))))))], [], 0⟩) (by kernel_rfl) ?_
        refine AWp.ret ?_
        obtain rfl := Option.some.inj H
        exact Exists.intro _ (And.intro (fun _ _ h => h) (And.intro (.inl rfl) (And.intro rfl (And.intro (by kernel_rfl) (by kernel_rfl)))))
def f_bits_Len.f (a0 : Int) : Option (Int) := (f_bits_Len64.f a0) >>= fun t171 => some t171
theorem f_bits_Len.ok (a0 : Int) (r : Int) (H : f_bits_Len.f a0 = some r) : Pv.Fn Try.prog 47 [iV .u64 a0] [] 0 (fun x o => x = iV .i64 r ∧ o = []) := by
  unfold f_bits_Len.f at H
  refine Fn.bodyK [] Try.func47 rfl rfl (fun Γ hP hn => ?_)
  have hm : Try.prog.follows .mixedOrders = true := by kernel_rfl
  replace hn : Γ.n = 8 := hn
  refine AWp.seq ?_
  refine reg hP hn hm [] [0] [] ⟨[(0, iV .u64 a0)], [], 0⟩ [] (by kernel_rfl) trivial ?_
  refine AWp.seq ?_
  refine AWp.cond false rfl (fun h => nomatch h) (fun _ => ?_)
  refine AWp.skip ?_
  refine AWp.seq ?_
  obtain ⟨t171, e172, H⟩ := bind_of H
  refine reg hP hn hm [(1, .call [] [] [] [] 0 (iV .i64 t171) [])] [2] [] ⟨[(2, iV .i64 t171)], [], 0⟩ [Enters Try.prog 77, Pv.Fn Try.prog 77 [iV .u64 a0] [] 0 (fun r o => r = iV .i64 t171 ∧ o = [])] (by kernel_rfl) ⟨by exact Try.call77, by exact f_bits_Len64.ok a0 t171 e172, trivial⟩ ?_
  refine AWp.conv (inv := []) (vk := []) (e0 := []) (t := ⟨[(2, iV .i64 t171)], [], 0⟩) (by kernel_rfl) ?_
  refine AWp.ret ?_
  obtain rfl := Option.some.inj H
  exact Exists.intro _ (And.intro (fun _ _ h => h) (And.intro (.inl rfl) (And.intro rfl (And.intro (by kernel_rfl) (by kernel_rfl)))))
def f_cmp_isNaN_int64.f (a0 : Int) : Option (Unit) := some ()
theorem f_cmp_isNaN_int64.ok (a0 : Int) (r : Unit) (H : f_cmp_isNaN_int64.f a0 = some r) : Pv.Fn Try.prog 79 [iV .i64 a0] [] 0 (fun x o => x = bV (a0 != a0) ∧ o = []) := by
  unfold f_cmp_isNaN_int64.f at H
  refine Fn.bodyK [] Try.func79 rfl rfl (fun Γ hP hn => ?_)
  have hm : Try.prog.follows .mixedOrders = true := by kernel_rfl
  replace hn : Γ.n = 6 := hn
  refine AWp.seq ?_
  refine reg hP hn hm [] [0] [] ⟨[(0, iV .i64 a0)], [], 0⟩ [] (by kernel_rfl) trivial ?_
  refine AWp.seq ?_
  refine reg hP hn hm [] [2] [] ⟨[(2, bV (a0 != a0))], [], 0⟩ [] (by kernel_rfl) trivial ?_
  refine AWp.conv (inv := []) (vk := []) (e0 := []) (t := ⟨[(2, bV (a0 != a0))], [], 0⟩) (by kernel_rfl) ?_
  refine AWp.ret ?_
  obtain rfl := Option.some.inj H
  exact Exists.intro _ (And.intro (fun _ _ h => h) (And.intro (.inl rfl) (And.intro rfl (And.intro (by kernel_rfl) (by kernel_rfl)))))
def f_cmp_Compare_int64.f (a0 : Int) (a1 : Int) : Option (Int) := (f_cmp_isNaN_int64.f a0) >>= fun t186 => (f_cmp_isNaN_int64.f a1) >>= fun t190 => if (a0 != a0) = true then (if (a1 != a1) = true then (some 0) else (some (-1))) else (if (a1 != a1) = true then (some 1) else (if (decide (a0 < a1)) = true then (some (-1)) else (if (decide (a0 > a1)) = true then (some 1) else (some 0))))
theorem f_cmp_Compare_int64.ok (a0 : Int) (a1 : Int) (r : Int) (H : f_cmp_Compare_int64.f a0 a1 = some r) : Pv.Fn Try.prog 52 [iV .i64 a0, iV .i64 a1] [] 0 (fun x o => x = iV .i64 r ∧ o = []) := by
  unfold f_cmp_Compare_int64.f at H
  refine Fn.bodyK [] Try.func52 rfl rfl (fun Γ hP hn => ?_)
  have hm : Try.prog.follows .mixedOrders = true := by kernel_rfl
  replace hn : Γ.n = 20 := hn
  refine AWp.seq ?_
  refine reg hP hn hm [] [0, 1] [] ⟨[(0, iV .i64 a0), (1, iV .i64 a1)], [], 0⟩ [] (by kernel_rfl) trivial ?_
  refine AWp.seq ?_
  obtain ⟨t186, e187, H⟩ := bind_of H
  refine reg hP hn hm [(1, .call [] [] [] [] 0 (bV (a0 != a0)) [])] [0, 1, 5] [] ⟨[(0, iV .i64 a0), (1, iV .i64 a1), (5, bV (a0 != a0))], [], 0⟩ [Enters Try.prog 79, Pv.Fn Try.prog 79 [iV .i64 a0] [] 0 (fun r o => r = bV (a0 != a0) ∧ o = [])] (by kernel_rfl) ⟨by exact Try.call79, by exact f_cmp_isNaN_int64.ok a0 t186 e187, trivial⟩ ?_
  refine AWp.seq ?_
  obtain ⟨t190, e191, H⟩ := bind_of H
  refine reg hP hn hm [(1, .call [] [] [] [] 0 (bV (a1 != a1)) [])] [0, 1, 5, 6] [] ⟨[(0, iV .i64 a0), (1, iV .i64 a1), (5, bV (a0 != a0)), (6, bV (a1 != a1))], [], 0⟩ [Enters Try.prog 79, Pv.Fn Try.prog 79 [iV .i64 a1] [] 0 (fun r o => r = bV (a1 != a1) ∧ o = [])] (by kernel_rfl) ⟨by exact Try.call79, by exact f_cmp_isNaN_int64.ok a1 t190 e191, trivial⟩ ?_
  refine AWp.seq ?_
  refine AWp.seq ?_
  refine reg hP hn hm [] [0, 1, 6, 11] [] ⟨[(0, iV .i64 a0), (1, iV .i64 a1), (6, bV (a1 != a1)), (11, bV (a0 != a0))], [], 0⟩ [] (by kernel_rfl) trivial ?_
  refine AWp.cond (a0 != a0) rfl (fun c192 => ?_) (fun c192 => ?_)
  · replace H := (ifT c192).symm.trans H
    refine AWp.seq ?_
    refine AWp.seq ?_
    refine reg hP hn hm [] [12] [] ⟨[(12, bV (a1 != a1))], [], 0⟩ [] (by kernel_rfl) trivial ?_
    refine AWp.cond (a1 != a1) rfl (fun c193 => ?_) (fun c193 => ?_)
    · replace H := (ifT c193).symm.trans H
      refine AWp.seq ?_
      refine reg hP hn hm [] [4] [] ⟨[(4, iV .i64 0)], [], 0⟩ [] (by kernel_rfl) trivial ?_
      refine AWp.conv (inv := []) (vk := []) (e0 := []) (t := ⟨[(4, iV .i64 0)], [], 0⟩) (by kernel_rfl) ?_
      refine AWp.ret ?_
      obtain rfl := Option.some.inj H
      exact Exists.intro _ (And.intro (fun _ _ h => h) (And.intro (.inl rfl) (And.intro rfl (And.intro (by kernel_rfl) (by kernel_rfl)))))
    · replace H := (ifF c193).symm.trans H
      refine AWp.skip ?_
      refine AWp.seq ?_
      refine reg hP hn hm [] [4] [] ⟨[(4, iV .i64 (-1))], [], 0⟩ [] (by kernel_rfl) trivial ?_
      refine AWp.conv (inv := []) (vk := []) (e0 := []) (t := ⟨[(4, iV .i64 (-1))], [], 0⟩) (by kernel_rfl) ?_
      refine AWp.ret ?_
      obtain rfl := Option.some.inj H
      exact Exists.intro _ (And.intro (fun _ _ h => h) (And.intro (.inl rfl) (And.intro rfl (And.intro (by kernel_rfl) (by kernel_rfl)))))
  · replace H := (ifF c192).symm.trans H
    refine AWp.skip ?_
    refine AWp.seq ?_
    refine AWp.seq ?_
    refine reg hP hn hm [] [0, 1, 13] [] ⟨[(0, iV .i64 a0), (1, iV .i64 a1), (13, bV (a1 != a1))], [], 0⟩ [] (by kernel_rfl) trivial ?_
    refine AWp.cond (a1 != a1) rfl (fun c194 => ?_) (fun c194 => ?_)
    · replace H := (ifT c194).symm.trans H
      refine AWp.seq ?_
      refine reg hP hn hm [] [4] [] ⟨[(4, iV .i64 1)], [], 0⟩ [] (by kernel_rfl) trivial ?_
      refine AWp.conv (inv := []) (vk := []) (e0 := []) (t := ⟨[(4, iV .i64 1)], [], 0⟩) (by kernel_rfl) ?_
      refine AWp.ret ?_
      obtain rfl := Option.some.inj H
      exact Exists.intro _ (And.intro (fun _ _ h => h) (And.intro (.inl rfl) (And.intro rfl (And.intro (by kernel_rfl) (by kernel_rfl)))))
    · replace H := (ifF c194).symm.trans H
      refine AWp.skip ?_
      refine AWp.seq ?_
      refine AWp.seq ?_
      refine reg hP hn hm [] [0, 1, 16] [] ⟨[(0, iV .i64 a0), (1, iV .i64 a1), (16, bV (decide (a0 < a1)))], [], 0⟩ [] (by kernel_rfl) trivial ?_
      refine AWp.cond (decide (a0 < a1)) rfl (fun c195 => ?_) (fun c195 => ?_)
      · replace H := (ifT c195).symm.trans H
        refine AWp.seq ?_
        refine reg hP hn hm [] [4] [] ⟨[(4, iV .i64 (-1))], [], 0⟩ [] (by kernel_rfl) trivial ?_
        refine AWp.conv (inv := []) (vk := []) (e0 := []) (t := ⟨[(4, iV .i64 (-1))], [], 0⟩) (by kernel_rfl) ?_
        refine AWp.ret ?_
        obtain rfl := Option.some.inj H
        exact Exists.intro _ (And.intro (fun _ _ h => h) (And.intro (.inl rfl) (And.intro rfl (And.intro (by kernel_rfl) (by kernel_rfl)))))
      · replace H := (ifF c195).symm.trans H
        refine AWp.skip ?_
        refine AWp.seq ?_
        refine AWp.seq ?_
        refine reg hP hn hm [] [19] [] ⟨[(19, bV (decide (a0 > a1)))], [], 0⟩ [] (by kernel_rfl) trivial ?_
        refine AWp.cond (decide (a0 > a1)) rfl (fun c196 => ?_) (fun c196 => ?_)
        · replace H := (ifT c196).symm.trans H
          refine AWp.seq ?_
          refine reg hP hn hm [] [4] [] ⟨[(4, iV .i64 1)], [], 0⟩ [] (by kernel_rfl) trivial ?_
          refine AWp.conv (inv := []) (vk := []) (e0 := []) (t := ⟨[(4, iV .i64 1)], [], 0⟩) (by kernel_rfl) ?_
          refine AWp.ret ?_
          obtain rfl := Option.some.inj H
          exact Exists.intro _ (And.intro (fun _ _ h => h) (And.intro (.inl rfl) (And.intro rfl (And.intro (by kernel_rfl) (by kernel_rfl)))))
        · replace H := (ifF c196).symm.trans H
          refine AWp.skip ?_
          refine AWp.seq ?_
          refine reg hP hn hm [] [4] [] ⟨[(4, iV .i64 0)], [], 0⟩ [] (by kernel_rfl) trivial ?_
          refine AWp.conv (inv := []) (vk := []) (e0 := []) (t := ⟨[(4, iV .i64 0)], [], 0⟩) (by kernel_rfl) ?_
          refine AWp.ret ?_
          obtain rfl := Option.some.inj H
          exact Exists.intro _ (And.intro (fun _ _ h => h) (And.intro (.inl rfl) (And.intro rfl (And.intro (by kernel_rfl) (by kernel_rfl)))))
def f_cmp_isNaN_int.f (a0 : Int) : Option (Unit) := some ()
theorem f_cmp_isNaN_int.ok (a0 : Int) (r : Unit) (H : f_cmp_isNaN_int.f a0 = some r) : Pv.Fn Try.prog 80 [iV .i64 a0] [] 0 (fun x o => x = bV (a0 != a0) ∧ o = []) := by
  unfold f_cmp_isNaN_int.f at H
  refine Fn.bodyK [] Try.func80 rfl rfl (fun Γ hP hn => ?_)
  have hm : Try.prog.follows .mixedOrders = true := by kernel_rfl
  replace hn : Γ.n = 6 := hn
  refine AWp.seq ?_
  refine reg hP hn hm [] [0] [] ⟨[(0, iV .i64 a0)], [], 0⟩ [] (by kernel_rfl) trivial ?_
  refine AWp.seq ?_
  refine reg hP hn hm [] [2] [] ⟨[(2, bV (a0 != a0))], [], 0⟩ [] (by kernel_rfl) trivial ?_
  refine AWp.conv (inv := []) (vk := []) (e0 := []) (t := ⟨[(2, bV (a0 != a0))], [], 0⟩) (by kernel_rfl) ?_
  refine AWp.ret ?_
  obtain rfl := Option.some.inj H
  exact Exists.intro _ (And.intro (fun _ _ h => h) (And.intro (.inl rfl) (And.intro rfl (And.intro (by kernel_rfl) (by kernel_rfl)))))
def f_cmp_Compare_int.f (a0 : Int) (a1 : Int) : Option (Int) := (f_cmp_isNaN_int.f a0) >>= fun t201 => (f_cmp_isNaN_int.f a1) >>= fun t205 => if (a0 != a0) = true then (if (a1 != a1) = true then (some 0) else (some (-1))) else (if (a1 != a1) = true then (some 1) else (if (decide (a0 < a1)) = true then (some (-1)) else (if (decide (a0 > a1)) = true then (some 1) else (some 0))))
theorem f_cmp_Compare_int.ok (a0 : Int) (a1 : Int) (r : Int) (H : f_cmp_Compare_int.f a0 a1 = some r) : Pv.Fn Try.prog 53 [iV .i64 a0, iV .i64 a1] [] 0 (fun x o => x = iV .i64 r ∧ o = []) := by
  unfold f_cmp_Compare_int.f at H
  refine Fn.bodyK [] Try.func53 rfl rfl (fun Γ hP hn => ?_)
  have hm : Try.prog.follows .mixedOrders = true := by kernel_rfl
  replace hn : Γ.n = 20 := hn
  refine AWp.seq ?_
  refine reg hP hn hm [] [0, 1] [] ⟨[(0, iV .i64 a0), (1, iV .i64 a1)], [], 0⟩ [] (by kernel_rfl) trivial ?_
  refine AWp.seq ?_
  obtain ⟨t201, e202, H⟩ := bind_of H
  refine reg hP hn hm [(1, .call [] [] [] [] 0 (bV (a0 != a0)) [])] [0, 1, 5] [] ⟨[(0, iV .i64 a0), (1, iV .i64 a1), (5, bV (a0 != a0))], [], 0⟩ [Enters Try.prog 80, Pv.Fn Try.prog 80 [iV .i64 a0] [] 0 (fun r o => r = bV (a0 != a0) ∧ o = [])] (by kernel_rfl) ⟨by exact Try.call80, by exact f_cmp_isNaN_int.ok a0 t201 e202, trivial⟩ ?_
  refine AWp.seq ?_
  obtain ⟨t205, e206, H⟩ := bind_of H
  refine reg hP hn hm [(1, .call [] [] [] [] 0 (bV (a1 != a1)) [])] [0, 1, 5, 6] [] ⟨[(0, iV .i64 a0), (1, iV .i64 a1), (5, bV (a0 != a0)), (6, bV (a1 != a1))], [], 0⟩ [Enters Try.prog 80, Pv.Fn Try.prog 80 [iV .i64 a1] [] 0 (fun r o => r = bV (a1 != a1) ∧ o = [])] (by kernel_rfl) ⟨by exact Try.call80, by exact f_cmp_isNaN_int.ok a1 t205 e206, trivial⟩ ?_
  refine AWp.seq ?_
  refine AWp.seq ?_
  refine reg hP hn hm [] [0, 1, 6, 11] [] ⟨[(0, iV .i64 a0), (1, iV .i64 a1), (6, bV (a1 != a1)), (11, bV (a0 != a0))], [], 0⟩ [] (by kernel_rfl) trivial ?_
  refine AWp.cond (a0 != a0) rfl (fun c207 => ?_) (fun c207 => ?_)
  · replace H := (ifT c207).symm.trans H
    refine AWp.seq ?_
    refine AWp.seq ?_
    refine reg hP hn hm [] [12] [] ⟨[(12, bV (a1 != a1))], [], 0⟩ [] (by kernel_rfl) trivial ?_
    refine AWp.cond (a1 != a1) rfl (fun c208 => ?_) (fun c208 => ?_)
    · replace H := (ifT c208).symm.trans H
      refine AWp.seq ?_
      refine reg hP hn hm [] [4] [] ⟨[(4, iV .i64 0)], [], 0⟩ [] (by kernel_rfl) trivial ?_
      refine AWp.conv (inv := []) (vk := []) (e0 := []) (t := ⟨[(4, iV .i64 0)], [], 0⟩) (by kernel_rfl) ?_
      refine AWp.ret ?_
      obtain rfl := Option.some.inj H
      exact Exists.intro _ (And.intro (fun _ _ h => h) (And.intro (.inl rfl) (And.intro rfl (And.intro (by kernel_rfl) (by kernel_rfl)))))
    · replace H := (ifF c208).symm.trans H
      refine AWp.skip ?_
      refine AWp.seq ?_
      refine reg hP hn hm [] [4] [] ⟨[(4, iV .i64 (-1))], [], 0⟩ [] (by kernel_rfl) trivial ?_
      refine AWp.conv (inv := []) (vk := []) (e0 := []) (t := ⟨[(4, iV .i64 (-1))], [], 0⟩) (by kernel_rfl) ?_
      refine AWp.ret ?_
      obtain rfl := Option.some.inj H
      exact Exists.intro _ (And.intro (fun _ _ h => h) (And.intro (.inl rfl) (And.intro rfl (And.intro (by kernel_rfl) (by kernel_rfl)))))
  · replace H := (ifF c207).symm.trans H
    refine AWp.skip ?_
    refine AWp.seq ?_
    refine AWp.seq ?_
    refine reg hP hn hm [] [0, 1, 13] [] ⟨[(0, iV .i64 a0), (1, iV .i64 a1), (13, bV (a1 != a1))], [], 0⟩ [] (by kernel_rfl) trivial ?_
    refine AWp.cond (a1 != a1) rfl (fun c209 => ?_) (fun c209 => ?_)
    · replace H := (ifT c209).symm.trans H
      refine AWp.seq ?_
      refine reg hP hn hm [] [4] [] ⟨[(4, iV .i64 1)], [], 0⟩ [] (by kernel_rfl) trivial ?_
      refine AWp.conv (inv := []) (vk := []) (e0 := []) (t := ⟨[(4, iV .i64 1)], [], 0⟩) (by kernel_rfl) ?_
      refine AWp.ret ?_
      obtain rfl := Option.some.inj H
      exact Exists.intro _ (And.intro (fun _ _ h => h) (And.intro (.inl rfl) (And.intro rfl (And.intro (by kernel_rfl) (by kernel_rfl)))))
    · replace H := (ifF c209).symm.trans H
      refine AWp.skip ?_
      refine AWp.seq ?_
      refine AWp.seq ?_
      refine reg hP hn hm [] [0, 1, 16] [] ⟨[(0, iV .i64 a0), (1, iV .i64 a1), (16, bV (decide (a0 < a1)))], [], 0⟩ [] (by kernel_rfl) trivial ?_
      refine AWp.cond (decide (a0 < a1)) rfl (fun c210 => ?_) (fun c210 => ?_)
      · replace H := (ifT c210).symm.trans H
        refine AWp.seq ?_
        refine reg hP hn hm [] [4] [] ⟨[(4, iV .i64 (-1))], [], 0⟩ [] (by kernel_rfl) trivial ?_
        refine AWp.conv (inv := []) (vk := []) (e0 := []) (t := ⟨[(4, iV .i64 (-1))], [], 0⟩) (by kernel_rfl) ?_
        refine AWp.ret ?_
        obtain rfl := Option.some.inj H
        exact Exists.intro _ (And.intro (fun _ _ h => h) (And.intro (.inl rfl) (And.intro rfl (And.intro (by kernel_rfl) (by kernel_rfl)))))
      · replace H := (ifF c210).symm.trans H
        refine AWp.skip ?_
        refine AWp.seq ?_
        refine AWp.seq ?_
        refine reg hP hn hm [] [19] [] ⟨[(19, bV (decide (a0 > a1)))], [], 0⟩ [] (by kernel_rfl) trivial ?_
        refine AWp.cond (decide (a0 > a1)) rfl (fun c211 => ?_) (fun c211 => ?_)
        · replace H := (ifT c211).symm.trans H
          refine AWp.seq ?_
          refine reg hP hn hm [] [4] [] ⟨[(4, iV .i64 1)], [], 0⟩ [] (by kernel_rfl) trivial ?_
          refine AWp.conv (inv := []) (vk := []) (e0 := []) (t := ⟨[(4, iV .i64 1)], [], 0⟩) (by kernel_rfl) ?_
          refine AWp.ret ?_
          obtain rfl := Option.some.inj H
          exact Exists.intro _ (And.intro (fun _ _ h => h) (And.intro (.inl rfl) (And.intro rfl (And.intro (by kernel_rfl) (by kernel_rfl)))))
        · replace H := (ifF c211).symm.trans H
          refine AWp.skip ?_
          refine AWp.seq ?_
          refine reg hP hn hm [] [4] [] ⟨[(4, iV .i64 0)], [], 0⟩ [] (by kernel_rfl) trivial ?_
          refine AWp.conv (inv := []) (vk := []) (e0 := []) (t := ⟨[(4, iV .i64 0)], [], 0⟩) (by kernel_rfl) ?_
          refine AWp.ret ?_
          obtain rfl := Option.some.inj H
          exact Exists.intro _ (And.intro (fun _ _ h => h) (And.intro (.inl rfl) (And.intro rfl (And.intro (by kernel_rfl) (by kernel_rfl)))))
def f_cmp_Or_int.l0 (a0 : List Int) (x222 : Int) : Option (Int ⊕ Unit) := if (decide (x222 < (a0.length : Int))) = true then ((at? a0 x222) >>= fun b227 => if (b227 != (0 : Int)) = true then (some (.inl b227)) else (f_cmp_Or_int.l0 a0 (IntKind.i64.wrap (x222 + (1 : Int))))) else (some (.inr ()))
partial_fixpoint
def f_cmp_Or_int.f (a0 : List Int) : Option (Int) := (f_cmp_Or_int.l0 a0 0) >>= fun oo => match oo with | .inl rr => (some rr) | .inr _ => (some 0)
theorem f_cmp_Or_int.ok (a0 : List Int) (r : Int) (H : f_cmp_Or_int.f a0 = some r) : Pv.Fn Try.prog 51 [.im (.row (a0.map (encInt .i64)))] [] 0 (fun x o => x = iV .i64 r ∧ o = []) := by
  unfold f_cmp_Or_int.f at H
  refine Fn.bodyK [] Try.func51 rfl rfl (fun Γ hP hn => ?_)
  have hm : Try.prog.follows .mixedOrders = true := by kernel_rfl
  replace hn : Γ.n = 18 := hn
  refine AWp.seq ?_
  refine reg hP hn hm [] [0] [] ⟨[(0, .im (.row (a0.map (encInt .i64))))], [], 0⟩ [] (by kernel_rfl) trivial ?_
  refine AWp.seq ?_
  refine reg hP hn hm [] [0, 3] [] ⟨[(0, .im (.row (a0.map (encInt .i64)))), (3, iV .i64 0)], [], 0⟩ [] (by kernel_rfl) trivial ?_
  refine AWp.seq ?_
  refine AWp.seq ?_
  refine reg hP hn hm [(1, .any (iV .i64 (a0.length : Int)))] [3, 6, 7, 8] [] ⟨[(3, iV .i64 0), (6, .im (.row (a0.map (encInt .i64)))), (7, iV .i64 (a0.length : Int)), (8, iV .i64 0)], [], 0⟩ [((a0.map (encInt .i64)).length : Int) = (a0.length : Int)] (by kernel_rfl) ⟨by rw [len_map], trivial⟩ ?_
  refine AWp.block ?_
  obtain ⟨o231, e232, H⟩ := bind_of H
  refine AWp.loop (LWp.conv (inv := []) (vk := []) (e0 := []) (t := ⟨[(3, iV .i64 0), (6, .im (.row (a0.map (encInt .i64)))), (7, iV .i64 (a0.length : Int)), (8, iV .i64 0)], [], 0⟩) (by kernel_rfl) ?_)
  refine LWp.mono (Q := fun e s => (match (generalizing := false) o231 with | .inl rr => e = .ret ∧ s.floor = 0 ∧ resOf Try.prog Try.f51 s = some (iV .i64 rr) ∧ ([] : List (Nat × Option MObj)) = [] | .inr _ => e = .exit 0 ∧ s = ⟨[(3, iV .i64 0)], [], 0⟩)) (LWp.cv (withBody (fun body hbody => ?_))) ?_
  · refine f_cmp_Or_int.l0.partial_correctness a0 (motive := fun x222 o231 => LWp Γ body (fun e s => ∃ t, Cv Γ s t ∧ (match (generalizing := false) o231 with | .inl rr => e = .ret ∧ t.floor = 0 ∧ resOf Try.prog Try.f51 t = some (iV .i64 rr) ∧ ([] : List (Nat × Option MObj)) = [] | .inr _ => e = .exit 0 ∧ t = ⟨[(3, iV .i64 0)], [], 0⟩)) ⟨[(3, iV .i64 0), (6, .im (.row (a0.map (encInt .i64)))), (7, iV .i64 (a0.length : Int)), (8, iV .i64 x222)], [], 0⟩) ?_ _ _ e232
    clear H e232 o231; intro self ih x222 o231 H
    subst hbody
    refine LWp.round ?_
    refine AWp.seq ?_
    refine reg hP hn hm [] [3, 6, 7, 8, 9] [] ⟨[(3, iV .i64 0), (6, .im (.row (a0.map (encInt .i64)))), (7, iV .i64 (a0.length : Int)), (8, iV .i64 x222), (9, bV (decide (x222 < (a0.length : Int))))], [], 0⟩ [] (by kernel_rfl) trivial ?_
    refine AWp.seq ?_
    refine AWp.cond (decide (x222 < (a0.length : Int))) rfl (fun c223 => ?_) (fun c223 => ?_)
    · replace H := (ifT c223).symm.trans H
      refine AWp.skip ?_
      refine AWp.seq ?_
      refine AWp.block ?_
      refine AWp.seq ?_
      obtain ⟨b227, p228, q229, H⟩ := at_of H
      refine reg hP hn hm [(0, .c ((encInt .i64) b227))] [3, 5, 6, 7, 8] [] ⟨[(3, iV .i64 0), (5, iV .i64 b227), (6, .im (.row (a0.map (encInt .i64)))), (7, iV .i64 (a0.length : Int)), (8, iV .i64 x222)], [], 0⟩ [0 ≤ x222, (a0.map (encInt .i64))[(Int.toNat (x222))]? = some ((encInt .i64) b227)] (by kernel_rfl) ⟨by exact p228, by exact el_map (encInt .i64) q229, trivial⟩ ?_
      refine AWp.seq ?_
      refine reg hP hn hm [] [3, 5, 6, 7, 8, 14] [] ⟨[(3, iV .i64 0), (5, iV .i64 b227), (6, .im (.row (a0.map (encInt .i64)))), (7, iV .i64 (a0.length : Int)), (8, iV .i64 x222), (14, bV (b227 != (0 : Int)))], [], 0⟩ [] (by kernel_rfl) trivial ?_
      refine AWp.cond (b227 != (0 : Int)) rfl (fun c230 => ?_) (fun c230 => ?_)
      · replace H := (ifT c230).symm.trans H
        refine AWp.seq ?_
        refine reg hP hn hm [] [2] [] ⟨[(2, iV .i64 b227)], [], 0⟩ [] (by kernel_rfl) trivial ?_
        refine AWp.conv (inv := []) (vk := []) (e0 := []) (t := ⟨[(2, iV .i64 b227)], [], 0⟩) (by kernel_rfl) ?_
        refine AWp.ret ?_
        obtain rfl := Option.some.inj H
        exact Exists.intro _ (And.intro (fun _ _ h => h) (And.intro rfl (And.intro rfl (And.intro (by kernel_rfl) (by kernel_rfl)))))
      · replace H := (ifF c230).symm.trans H
        refine AWp.skip ?_
        refine reg hP hn hm [] [3, 6, 7, 8] [] ⟨[(3, iV .i64 0), (6, .im (.row (a0.map (encInt .i64)))), (7, iV .i64 (a0.length : Int)), (8, iV .i64 (IntKind.i64.wrap (x222 + (1 : Int))))], [], 0⟩ [] (by kernel_rfl) trivial ?_
        exact LWp.conv (inv := []) (vk := []) (e0 := []) (t := ⟨[(3, iV .i64 0), (6, .im (.row (a0.map (encInt .i64)))), (7, iV .i64 (a0.length : Int)), (8, iV .i64 (IntKind.i64.wrap (x222 + (1 : Int))))], [], 0⟩) (by kernel_rfl) (ih _ _ H)
    · replace H := (ifF c223).symm.trans H
      refine AWp.exit ?_
      obtain rfl := Option.some.inj H
      exact Exists.intro _ (And.intro (fun _ _ h => h.conv (inv := []) (vk := []) (e0 := []) (t := ⟨[(3, iV .i64 0)], [], 0⟩) (by kernel_rfl)) (And.intro rfl rfl))
  · rcases o231 with rr | _
    · skip
      rintro e s ⟨rfl, hfl, hres⟩
      obtain rfl := Option.some.inj H
      exact Exists.intro _ (And.intro (fun _ _ h => h) (And.intro (.inl rfl) (And.intro hfl hres)))
    · skip
      rintro e s ⟨rfl, rfl⟩
      refine AWp.seq ?_
      refine reg hP hn hm [] [2] [] ⟨[(2, iV .i64 0)], [], 0⟩ [] (by kernel_rfl) trivial ?_
      refine AWp.conv (inv := []) (vk := []) (e0 := []) (t := ⟨[(2, iV .i64 0)], [], 0⟩) (by kernel_rfl) ?_
      refine AWp.ret ?_
      obtain rfl := Option.some.inj H
      exact Exists.intro _ (And.intro (fun _ _ h => h) (And.intro (.inl rfl) (And.intro rfl (And.intro (by kernel_rfl) (by kernel_rfl)))))
def f_plan_sorted_1.f (a0 : Tplan_Item) (a1 : Tplan_Item) : Option (Int) := (f_cmp_Compare_int64.f a0.f1.f0 a1.f1.f0) >>= fun t235 => (f_cmp_Compare_int.f a0.f0 a1.f0) >>= fun t237 => (f_cmp_Or_int.f [t235, t237]) >>= fun t239 => some t239
theorem f_plan_sorted_1.ok (a0 : Tplan_Item) (a1 : Tplan_Item) (r : Int) (H : f_plan_sorted_1.f a0 a1 = some r) : Pv.Fn Try.prog 50 [.agg (apluvialref17_Item ⟨a0.f0, a0.f1.f0, a0.f1.f1, a0.f1.f2⟩), .agg (apluvialref17_Item ⟨a1.f0, a1.f1.f0, a1.f1.f1, a1.f1.f2⟩)] [] 0 (fun x o => x = iV .i64 r ∧ o = []) := by
  unfold f_plan_sorted_1.f at H
  refine Fn.bodyK [] Try.func50 rfl rfl (fun Γ hP hn => ?_)
  have hm : Try.prog.follows .mixedOrders = true := by kernel_rfl
  replace hn : Γ.n = 19 := hn
  refine AWp.seq ?_
  refine reg hP hn hm [(0, .k 0), (1, .k 1)] [2, 3] [0, 1] ⟨[(2, .ptr 0 0 0), (3, .ptr 1 0 0)], [(0, some (.box 89 [iV .i64 a0.f0, iV .i64 a0.f1.f0, iV .i64 a0.f1.f1, iV .i64 a0.f1.f2])), (1, some (.box 89 [iV .i64 a1.f0, iV .i64 a1.f1.f0, iV .i64 a1.f1.f1, iV .i64 a1.f1.f2]))], 0⟩ [] (by kernel_rfl) trivial ?_
  refine AWp.seq ?_
  obtain ⟨t235, e236, H⟩ := bind_of H
  obtain ⟨t237, e238, H⟩ := bind_of H
  obtain ⟨t239, e240, H⟩ := bind_of H
  refine reg hP hn hm [(6, .call [] [] [] [] 0 (iV .i64 t235) []), (11, .call [] [] [] [] 0 (iV .i64 t237) []), (12, .app 2 ([t235, t237].map (encInt .i64))), (13, .call [] [] [2] [] 0 (iV .i64 t239) [])] [4] [] ⟨[(4, iV .i64 t239)], [], 0⟩ [Enters Try.prog 52, Pv.Fn Try.prog 52 [iV .i64 a0.f1.f0, iV .i64 a1.f1.f0] [] 0 (fun r o => r = iV .i64 t235 ∧ o = []), Enters Try.prog 53, Pv.Fn Try.prog 53 [iV .i64 a0.f0, iV .i64 a1.f0] [] 0 (fun r o => r = iV .i64 t237 ∧ o = []), [t235, t237].map (encInt .i64) = [[iI .i64 t235], [iI .i64 t237]], Enters Try.prog 51, Pv.Fn Try.prog 51 [.im (.row ([t235, t237].map (encInt .i64)))] [] 0 (fun r o => r = iV .i64 t239 ∧ o = [])] (by kernel_rfl) ⟨by exact Try.call52, by exact f_cmp_Compare_int64.ok a0.f1.f0 a1.f1.f0 t235 e236, by exact Try.call53, by exact f_cmp_Compare_int.ok a0.f0 a1.f0 t237 e238, by exact rfl, by exact Try.call51, by exact f_cmp_Or_int.ok [t235, t237] t239 e240, trivial⟩ ?_
  refine AWp.conv (inv := []) (vk := []) (e0 := []) (t := ⟨[(4, iV .i64 t239)], [], 0⟩) (by kernel_rfl) ?_
  refine AWp.ret ?_
  obtain rfl := Option.some.inj H
  exact Exists.intro _ (And.intro (fun _ _ h => h) (And.intro (.inl rfl) (And.intro rfl (And.intro (by kernel_rfl) (by kernel_rfl)))))
def f_slices_insertionSortCmpFunc_plan_Item_plan_sorted_1.l1 (a1 : Int) (a2 : Int) (x314 : Int) (x354 : List Tplan_Item) (x355 : Int) : Option (List Tplan_Item) := ((if (decide (x355 > a1)) = true then ((at? x354 x355) >>= fun b366 => (at? x354 (IntKind.i64.wrap (x355 - (1 : Int)))) >>= fun b369 => (f_plan_sorted_1.f b366 b369) >>= fun t372 => some (decide (t372 < (0 : Int)))) else (some false)) : Option (Bool)) >>= fun x374 => if x374 = true then ((at? x354 (IntKind.i64.wrap (x355 - (1 : Int)))) >>= fun b385 => (at? x354 x355) >>= fun b388 => (at? (x354.set (Int.toNat (x355)) b385) (IntKind.i64.wrap (x355 - (1 : Int)))) >>= fun b391 => f_slices_insertionSortCmpFunc_plan_Item_plan_sorted_1.l1 a1 a2 x314 ((x354.set (Int.toNat (x355)) b385).set (Int.toNat (IntKind.i64.wrap (x355 - (1 : Int)))) b388) (IntKind.i64.wrap (x355 - (1 : Int)))) else (some x354)
partial_fixpoint
def f_slices_insertionSortCmpFunc_plan_Item_plan_sorted_1.l0 (a1 : Int) (a2 : Int) (x313 : List Tplan_Item) (x314 : Int) : Option (List Tplan_Item) := if (decide (x314 < a2)) = true then ((f_slices_insertionSortCmpFunc_plan_Item_plan_sorted_1.l1 a1 a2 x314 x313 x314) >>= fun x394 => f_slices_insertionSortCmpFunc_plan_Item_plan_sorted_1.l0 a1 a2 x394 (IntKind.i64.wrap (x314 + (1 : Int)))) else (some x313)
partial_fixpoint
def f_slices_insertionSortCmpFunc_plan_Item_plan_sorted_1.f (a0 : List Tplan_Item) (a1 : Int) (a2 : Int) : Option (List Tplan_Item) := (f_slices_insertionSortCmpFunc_plan_Item_plan_sorted_1.l0 a1 a2 a0 (IntKind.i64.wrap (a1 + (1 : Int)))) >>= fun x395 => some x395
theorem f_slices_insertionSortCmpFunc_plan_Item_plan_sorted_1.ok (a0 : List Tplan_Item) (a1 : Int) (a2 : Int) (r : List Tplan_Item) (H : f_slices_insertionSortCmpFunc_plan_Item_plan_sorted_1.f a0 a1 a2 = some r) : Pv.Fn Try.prog 104 [.own 0, iV .i64 a1, iV .i64 a2, .im (.sc (.func (.func 50) #[] #[]))] [(0, some (.row 4 89 (a0.map eplan_Item)))] 1 (fun x o => x = .tup [] ∧ o = [(0, some (.row 4 89 (r.map eplan_Item)))]) := by
  unfold f_slices_insertionSortCmpFunc_plan_Item_plan_sorted_1.f at H
  refine Fn.bodyK [0] Try.func104 rfl rfl (fun Γ hP hn => ?_)
  have hm : Try.prog.follows .mixedOrders = true := by kernel_rfl
  replace hn : Γ.n = 53 := hn
  refine AWp.seq ?_
  refine reg hP hn hm [] [0, 1, 2, 3, 8] [0] ⟨[(0, .own 0), (1, iV .i64 a1), (2, iV .i64 a2), (3, .im (.sc (.func (.func 50) #[] #[]))), (8, iV .i64 (IntKind.i64.wrap (a1 + (1 : Int))))], [(0, some (.row 4 89 (a0.map eplan_Item)))], 1⟩ [] (by kernel_rfl) trivial ?_
  refine AWp.block ?_
  obtain ⟨o396, e397, H⟩ := bind_of H
  refine AWp.loop (LWp.conv (inv := [(0, 0)]) (vk := []) (e0 := []) (t := ⟨[(0, .own 0), (1, iV .i64 a1), (2, iV .i64 a2), (3, .im (.sc (.func (.func 50) #[] #[]))), (8, iV .i64 (IntKind.i64.wrap (a1 + (1 : Int))))], [(0, some (.row 4 89 (a0.map eplan_Item)))], 1⟩) (by kernel_rfl) ?_)
  refine LWp.mono (Q := fun e s => (match (generalizing := false) o396 with | x395 => e = .exit 0 ∧ s = ⟨[], [(0, some (.row 4 89 (x395.map eplan_Item)))], 1⟩)) (LWp.cv (withBody (fun body hbody => ?_))) ?_
  · refine f_slices_insertionSortCmpFunc_plan_Item_plan_sorted_1.l0.partial_correctness a1 a2 (motive := fun x313 x314 o396 => LWp Γ body (fun e s => ∃ t, Cv Γ s t ∧ (match (generalizing := false) o396 with | x395 => e = .exit 0 ∧ t = ⟨[], [(0, some (.row 4 89 (x395.map eplan_Item)))], 1⟩)) ⟨[(0, .own 0), (1, iV .i64 a1), (2, iV .i64 a2), (3, .im (.sc (.func (.func 50) #[] #[]))), (8, iV .i64 x314)], [(0, some (.row 4 89 (x313.map eplan_Item)))], 1⟩) ?_ _ _ _ e397
    clear H e397 o396; intro self ih x313 x314 o396 H
    subst hbody
    refine LWp.round ?_
    refine AWp.seq ?_
    refine AWp.seq ?_
    refine reg hP hn hm [] [0, 1, 2, 3, 8, 14] [0] ⟨[(0, .own 0), (1, iV .i64 a1), (2, iV .i64 a2), (3, .im (.sc (.func (.func 50) #[] #[]))), (8, iV .i64 x314), (14, bV (decide (x314 < a2)))], [(0, some (.row 4 89 (x313.map eplan_Item)))], 1⟩ [] (by kernel_rfl) trivial ?_
    refine AWp.cond (decide (x314 < a2)) rfl (fun c315 => ?_) (fun c315 => ?_)
    · replace H := (ifT c315).symm.trans H
      refine AWp.skip ?_
      refine AWp.seq ?_
      refine AWp.block ?_
      refine AWp.seq ?_
      refine reg hP hn hm [] [0, 1, 2, 3, 8, 9] [0] ⟨[(0, .own 0), (1, iV .i64 a1), (2, iV .i64 a2), (3, .im (.sc (.func (.func 50) #[] #[]))), (8, iV .i64 x314), (9, iV .i64 x314)], [(0, some (.row 4 89 (x313.map eplan_Item)))], 1⟩ [] (by kernel_rfl) trivial ?_
      refine AWp.block ?_
      obtain ⟨o398, e399, H⟩ := bind_of H
      refine AWp.loop (LWp.conv (inv := [(0, 0)]) (vk := []) (e0 := []) (t := ⟨[(0, .own 0), (1, iV .i64 a1), (2, iV .i64 a2), (3, .im (.sc (.func (.func 50) #[] #[]))), (8, iV .i64 x314), (9, iV .i64 x314)], [(0, some (.row 4 89 (x313.map eplan_Item)))], 1⟩) (by kernel_rfl) ?_)
      refine LWp.mono (Q := fun e s => (match (generalizing := false) o398 with | x394 => e = .exit 2 ∧ s = ⟨[(0, .own 0), (1, iV .i64 a1), (2, iV .i64 a2), (3, .im (.sc (.func (.func 50) #[] #[]))), (8, iV .i64 x314)], [(0, some (.row 4 89 (x394.map eplan_Item)))], 1⟩)) (LWp.cv (withBody (fun body hbody => ?_))) ?_
      · refine f_slices_insertionSortCmpFunc_plan_Item_plan_sorted_1.l1.partial_correctness a1 a2 x314 (motive := fun x354 x355 o398 => LWp Γ body (fun e s => ∃ t, Cv Γ s t ∧ (match (generalizing := false) o398 with | x394 => e = .exit 2 ∧ t = ⟨[(0, .own 0), (1, iV .i64 a1), (2, iV .i64 a2), (3, .im (.sc (.func (.func 50) #[] #[]))), (8, iV .i64 x314)], [(0, some (.row 4 89 (x394.map eplan_Item)))], 1⟩)) ⟨[(0, .own 0), (1, iV .i64 a1), (2, iV .i64 a2), (3, .im (.sc (.func (.func 50) #[] #[]))), (8, iV .i64 x314), (9, iV .i64 x355)], [(0, some (.row 4 89 (x354.map eplan_Item)))], 1⟩) ?_ _ _ _ e399
        clear H e399 o398; intro self ih x354 x355 o398 H
        subst hbody
        refine LWp.round ?_
        refine AWp.seq ?_
        refine AWp.seq ?_
        obtain ⟨o400, e401, H⟩ := bind_of H
        refine AWp.mono (Q := fun e s => (match (generalizing := false) o400 with | x374 => e = .normal ∧ s = ⟨[(0, .own 0), (1, iV .i64 a1), (2, iV .i64 a2), (3, .im (.sc (.func (.func 50) #[] #[]))), (8, iV .i64 x314), (9, iV .i64 x355), (34, bV x374)], [(0, some (.row 4 89 (x354.map eplan_Item)))], 1⟩)) (AWp.cv ?_) ?_
        · replace H := e401; clear e401
          rcases Bool.eq_false_or_eq_true (decide (x355 > a1)) with c365 | c365
          · replace H := (ifT c365).symm.trans H
            obtain ⟨b366, p367, q368, H⟩ := at_of H
            obtain ⟨b369, p370, q371, H⟩ := at_of H
            obtain ⟨t372, e373, H⟩ := bind_of H
            refine reg hP hn hm [(3, .b true), (8, .c (eplan_Item b366)), (13, .c (eplan_Item b369)), (14, .call [] [] [] [] 0 (iV .i64 t372) [])] [0, 1, 2, 3, 8, 9, 22, 23, 24, 25, 26, 27, 28, 29, 30, 31, 32, 33, 34] [0] ⟨[(0, .own 0), (1, iV .i64 a1), (2, iV .i64 a2), (3, .im (.sc (.func (.func 50) #[] #[]))), (8, iV .i64 x314), (9, iV .i64 x355), (22, .im (.sc (.func (.func 50) #[] #[]))), (23, .own 0), (24, iV .i64 x355), (25, .ptr 0 (Int.toNat (x355)) 0), (26, .agg (apluvialref17_Item ⟨b366.f0, b366.f1.f0, b366.f1.f1, b366.f1.f2⟩)), (27, .own 0), (28, iV .i64 x355), (29, iV .i64 (IntKind.i64.wrap (x355 - (1 : Int)))), (30, .ptr 0 (Int.toNat (IntKind.i64.wrap (x355 - (1 : Int)))) 0), (31, .agg (apluvialref17_Item ⟨b369.f0, b369.f1.f0, b369.f1.f1, b369.f1.f2⟩)), (32, iV .i64 t372), (33, bV (decide (t372 < (0 : Int)))), (34, bV (decide (t372 < (0 : Int))))], [(0, some (.row 4 89 (x354.map eplan_Item)))], 1⟩ [(decide (x355 > a1)) = true, 0 ≤ x355, x355 < (((x354.map eplan_Item).length : Nat) : Int), (x354.map eplan_Item)[(Int.toNat (x355))]? = some (eplan_Item b366), 0 ≤ (IntKind.i64.wrap (x355 - (1 : Int))), IntKind.i64.wrap (x355 - (1 : Int)) < (((x354.map eplan_Item).length : Nat) : Int), (x354.map eplan_Item)[(Int.toNat (IntKind.i64.wrap (x355 - (1 : Int))))]? = some (eplan_Item b369), Enters Try.prog 50, Pv.Fn Try.prog 50 [.agg (apluvialref17_Item ⟨b366.f0, b366.f1.f0, b366.f1.f1, b366.f1.f2⟩), .agg (apluvialref17_Item ⟨b369.f0, b369.f1.f0, b369.f1.f1, b369.f1.f2⟩)] [] 0 (fun r o => r = iV .i64 t372 ∧ o = [])] (by kernel_rfl) ⟨by exact c365, by exact p367, by exact el_lt eplan_Item p367 q368, by exact el_map eplan_Item q368, by exact p370, by exact el_lt eplan_Item p370 q371, by exact el_map eplan_Item q371, by exact Try.call50, by exact f_plan_sorted_1.ok b366 b369 t372 e373, trivial⟩ ?_
            obtain rfl := Option.some.inj H
            exact Exists.intro _ (And.intro (fun _ _ h => h.conv (inv := [(0, 0)]) (vk := []) (e0 := []) (t := ⟨[(0, .own 0), (1, iV .i64 a1), (2, iV .i64 a2), (3, .im (.sc (.func (.func 50) #[] #[]))), (8, iV .i64 x314), (9, iV .i64 x355), (34, bV (decide (t372 < (0 : Int))))], [(0, some (.row 4 89 (x354.map eplan_Item)))], 1⟩) (by kernel_rfl)) (And.intro rfl rfl))
          · replace H := (ifF c365).symm.trans H
            refine reg hP hn hm [(3, .b false)] [0, 1, 2, 3, 8, 9, 34] [0] ⟨[(0, .own 0), (1, iV .i64 a1), (2, iV .i64 a2), (3, .im (.sc (.func (.func 50) #[] #[]))), (8, iV .i64 x314), (9, iV .i64 x355), (34, bV false)], [(0, some (.row 4 89 (x354.map eplan_Item)))], 1⟩ [(decide (x355 > a1)) = false] (by kernel_rfl) ⟨by exact c365, trivial⟩ ?_
            obtain rfl := Option.some.inj H
            exact Exists.intro _ (And.intro (fun _ _ h => h.conv (inv := [(0, 0)]) (vk := []) (e0 := []) (t := ⟨[(0, .own 0), (1, iV .i64 a1), (2, iV .i64 a2), (3, .im (.sc (.func (.func 50) #[] #[]))), (8, iV .i64 x314), (9, iV .i64 x355), (34, bV false)], [(0, some (.row 4 89 (x354.map eplan_Item)))], 1⟩) (by kernel_rfl)) (And.intro rfl rfl))
        · obtain ⟨x374, rfl⟩ : ∃ z, z = o400 := ⟨_, rfl⟩
          rintro e s ⟨rfl, rfl⟩
          refine AWp.cond x374 rfl (fun c375 => ?_) (fun c375 => ?_)
          · replace H := (ifT c375).symm.trans H
            refine AWp.skip ?_
            refine AWp.seq ?_
            refine AWp.block ?_
            obtain ⟨b385, p386, q387, H⟩ := at_of H
            obtain ⟨b388, p389, q390, H⟩ := at_of H
            obtain ⟨b391, p392, q393, H⟩ := at_of H
            refine reg hP hn hm [(9, .c (eplan_Item b385)), (13, .c (eplan_Item b388)), (15, .put (eplan_Item b388) ((x354.set (Int.toNat (x355)) b385).map eplan_Item)), (17, .put (eplan_Item b391) (((x354.set (Int.toNat (x355)) b385).set (Int.toNat (IntKind.i64.wrap (x355 - (1 : Int)))) b388).map eplan_Item))] [0, 1, 2, 3, 8, 9] [0] ⟨[(0, .own 0), (1, iV .i64 a1), (2, iV .i64 a2), (3, .im (.sc (.func (.func 50) #[] #[]))), (8, iV .i64 x314), (9, iV .i64 x355)], [(0, some (.row 4 89 (((x354.set (Int.toNat (x355)) b385).set (Int.toNat (IntKind.i64.wrap (x355 - (1 : Int)))) b388).map eplan_Item)))], 1⟩ [0 ≤ (IntKind.i64.wrap (x355 - (1 : Int))), IntKind.i64.wrap (x355 - (1 : Int)) < (((x354.map eplan_Item).length : Nat) : Int), (x354.map eplan_Item)[(Int.toNat (IntKind.i64.wrap (x355 - (1 : Int))))]? = some (eplan_Item b385), 0 ≤ x355, x355 < (((x354.map eplan_Item).length : Nat) : Int), (x354.map eplan_Item)[(Int.toNat (x355))]? = some (eplan_Item b388), 0 ≤ x355, x355 < (((x354.map eplan_Item).length : Nat) : Int), (x354.map eplan_Item)[(Int.toNat (x355))]? = some (eplan_Item b388), (x354.set (Int.toNat (x355)) b385).map eplan_Item = (x354.map eplan_Item).set (Int.toNat (x355)) (splice (eplan_Item b388) 0 [iI .i64 b385.f0, iI .i64 b385.f1.f0, iI .i64 b385.f1.f1, iI .i64 b385.f1.f2]), 0 ≤ (IntKind.i64.wrap (x355 - (1 : Int))), IntKind.i64.wrap (x355 - (1 : Int)) < ((((x354.set (Int.toNat (x355)) b385).map eplan_Item).length : Nat) : Int), ((x354.set (Int.toNat (x355)) b385).map eplan_Item)[(Int.toNat (IntKind.i64.wrap (x355 - (1 : Int))))]? = some (eplan_Item b391), ((x354.set (Int.toNat (x355)) b385).set (Int.toNat (IntKind.i64.wrap (x355 - (1 : Int)))) b388).map eplan_Item = ((x354.set (Int.toNat (x355)) b385).map eplan_Item).set (Int.toNat (IntKind.i64.wrap (x355 - (1 : Int)))) (splice (eplan_Item b391) 0 [iI .i64 b388.f0, iI .i64 b388.f1.f0, iI .i64 b388.f1.f1, iI .i64 b388.f1.f2])] (by kernel_rfl) ⟨by exact p386, by exact el_lt eplan_Item p386 q387, by exact el_map eplan_Item q387, by exact p389, by exact el_lt eplan_Item p389 q390, by exact el_map eplan_Item q390, by exact p389, by exact el_lt eplan_Item p389 q390, by exact el_map eplan_Item q390, by exact set1 _ _ _ _, by exact p392, by exact el_lt eplan_Item p392 q393, by exact el_map eplan_Item q393, by exact set1 _ _ _ _, trivial⟩ ?_
            refine reg hP hn hm [] [0, 1, 2, 3, 8, 9] [0] ⟨[(0, .own 0), (1, iV .i64 a1), (2, iV .i64 a2), (3, .im (.sc (.func (.func 50) #[] #[]))), (8, iV .i64 x314), (9, iV .i64 (IntKind.i64.wrap (x355 - (1 : Int))))], [(0, some (.row 4 89 (((x354.set (Int.toNat (x355)) b385).set (Int.toNat (IntKind.i64.wrap (x355 - (1 : Int)))) b388).map eplan_Item)))], 1⟩ [] (by kernel_rfl) trivial ?_
            exact LWp.conv (inv := [(0, 0)]) (vk := []) (e0 := []) (t := ⟨[(0, .own 0), (1, iV .i64 a1), (2, iV .i64 a2), (3, .im (.sc (.func (.func 50) #[] #[]))), (8, iV .i64 x314), (9, iV .i64 (IntKind.i64.wrap (x355 - (1 : Int))))], [(0, some (.row 4 89 (((x354.set (Int.toNat (x355)) b385).set (Int.toNat (IntKind.i64.wrap (x355 - (1 : Int)))) b388).map eplan_Item)))], 1⟩) (by kernel_rfl) (ih _ _ _ H)
          · replace H := (ifF c375).symm.trans H
            refine AWp.exit ?_
            obtain rfl := Option.some.inj H
            exact Exists.intro _ (And.intro (fun _ _ h => h.conv (inv := [(0, 0)]) (vk := []) (e0 := []) (t := ⟨[(0, .own 0), (1, iV .i64 a1), (2, iV .i64 a2), (3, .im (.sc (.func (.func 50) #[] #[]))), (8, iV .i64 x314)], [(0, some (.row 4 89 (x354.map eplan_Item)))], 1⟩) (by kernel_rfl)) (And.intro rfl rfl))
      · obtain ⟨x394, rfl⟩ : ∃ z, z = o398 := ⟨_, rfl⟩
        rintro e s ⟨rfl, rfl⟩
        refine reg hP hn hm [] [0, 1, 2, 3, 8] [0] ⟨[(0, .own 0), (1, iV .i64 a1), (2, iV .i64 a2), (3, .im (.sc (.func (.func 50) #[] #[]))), (8, iV .i64 (IntKind.i64.wrap (x314 + (1 : Int))))], [(0, some (.row 4 89 (x394.map eplan_Item)))], 1⟩ [] (by kernel_rfl) trivial ?_
        exact LWp.conv (inv := [(0, 0)]) (vk := []) (e0 := []) (t := ⟨[(0, .own 0), (1, iV .i64 a1), (2, iV .i64 a2), (3, .im (.sc (.func (.func 50) #[] #[]))), (8, iV .i64 (IntKind.i64.wrap (x314 + (1 : Int))))], [(0, some (.row 4 89 (x394.map eplan_Item)))], 1⟩) (by kernel_rfl) (ih _ _ _ H)
    · replace H := (ifF c315).symm.trans H
      refine AWp.exit ?_
      obtain rfl := Option.some.inj H
      exact Exists.intro _ (And.intro (fun _ _ h => h.conv (inv := [(0, 0)]) (vk := []) (e0 := []) (t := ⟨[], [(0, some (.row 4 89 (x313.map eplan_Item)))], 1⟩) (by kernel_rfl)) (And.intro rfl rfl))
  · obtain ⟨x395, rfl⟩ : ∃ z, z = o396 := ⟨_, rfl⟩
    rintro e s ⟨rfl, rfl⟩
    obtain rfl := Option.some.inj H
    exact Exists.intro ⟨[], [(0, some (.row 4 89 (x395.map eplan_Item)))], 1⟩ (And.intro (fun _ _ h => h.conv (inv := [(0, 0)]) (vk := []) (e0 := []) (t := ⟨[], [(0, some (.row 4 89 (x395.map eplan_Item)))], 1⟩) (by kernel_rfl)) (And.intro (.inr rfl) (And.intro rfl (And.intro (by kernel_rfl) (by kernel_rfl)))))
def f_slices_siftDownCmpFunc_plan_Item_plan_sorted_1.l0 (a2 : Int) (a3 : Int) (x453 : List Tplan_Item) (x454 : Int) : Option ((List Tplan_Item) ⊕ (List Tplan_Item)) := if (decide ((IntKind.i64.wrap ((IntKind.i64.wrap ((2 : Int) * x454)) + (1 : Int))) ≥ a2)) = true then (some (.inr x453)) else (((if (decide ((IntKind.i64.wrap ((IntKind.i64.wrap ((IntKind.i64.wrap ((2 : Int) * x454)) + (1 : Int))) + (1 : Int))) < a2)) = true then ((at? x453 (IntKind.i64.wrap (a3 + (IntKind.i64.wrap ((IntKind.i64.wrap ((2 : Int) * x454)) + (1 : Int)))))) >>= fun b466 => (at? x453 (IntKind.i64.wrap ((IntKind.i64.wrap (a3 + (IntKind.i64.wrap ((IntKind.i64.wrap ((2 : Int) * x454)) + (1 : Int))))) + (1 : Int)))) >>= fun b469 => (f_plan_sorted_1.f b466 b469) >>= fun t472 => some (decide (t472 < (0 : Int)))) else (some false)) : Option (Bool)) >>= fun x474 => ((if x474 = true then (some (IntKind.i64.wrap ((IntKind.i64.wrap ((IntKind.i64.wrap ((2 : Int) * x454)) + (1 : Int))) + (1 : Int)))) else (some (IntKind.i64.wrap ((IntKind.i64.wrap ((2 : Int) * x454)) + (1 : Int))))) : Option (Int)) >>= fun x476 => (at? x453 (IntKind.i64.wrap (a3 + x454))) >>= fun b485 => (at? x453 (IntKind.i64.wrap (a3 + x476))) >>= fun b488 => (f_plan_sorted_1.f b485 b488) >>= fun t491 => if (!(decide (t491 < (0 : Int)))) = true then (some (.inl x453)) else ((at? (x453.set (Int.toNat (IntKind.i64.wrap (a3 + x454))) b488) (IntKind.i64.wrap (a3 + x476))) >>= fun b497 => f_slices_siftDownCmpFunc_plan_Item_plan_sorted_1.l0 a2 a3 ((x453.set (Int.toNat (IntKind.i64.wrap (a3 + x454))) b488).set (Int.toNat (IntKind.i64.wrap (a3 + x476))) b485) x476))
partial_fixpoint
def f_slices_siftDownCmpFunc_plan_Item_plan_sorted_1.f (a0 : List Tplan_Item) (a1 : Int) (a2 : Int) (a3 : Int) : Option (List Tplan_Item) := (f_slices_siftDownCmpFunc_plan_Item_plan_sorted_1.l0 a2 a3 a0 a1) >>= fun oo => match oo with | .inl rr => (some rr) | .inr x500 => (some x500)
theorem f_slices_siftDownCmpFunc_plan_Item_plan_sorted_1.ok (a0 : List Tplan_Item) (a1 : Int) (a2 : Int) (a3 : Int) (r : List Tplan_Item) (H : f_slices_siftDownCmpFunc_plan_Item_plan_sorted_1.f a0 a1 a2 a3 = some r) : Pv.Fn Try.prog 124 [.own 0, iV .i64 a1, iV .i64 a2, iV .i64 a3, .im (.sc (.func (.func 50) #[] #[]))] [(0, some (.row 4 89 (a0.map eplan_Item)))] 1 (fun x o => x = .tup [] ∧ o = [(0, some (.row 4 89 (r.map eplan_Item)))]) := by
  unfold f_slices_siftDownCmpFunc_plan_Item_plan_sorted_1.f at H
  refine Fn.bodyK [0] Try.func124 rfl rfl (fun Γ hP hn => ?_)
  have hm : Try.prog.follows .mixedOrders = true := by kernel_rfl
  replace hn : Γ.n = 82 := hn
  refine AWp.seq ?_
  refine reg hP hn hm [] [0, 2, 3, 4, 10] [0] ⟨[(0, .own 0), (2, iV .i64 a2), (3, iV .i64 a3), (4, .im (.sc (.func (.func 50) #[] #[]))), (10, iV .i64 a1)], [(0, some (.row 4 89 (a0.map eplan_Item)))], 1⟩ [] (by kernel_rfl) trivial ?_
  refine AWp.block ?_
  obtain ⟨o501, e502, H⟩ := bind_of H
  refine AWp.loop (LWp.conv (inv := [(0, 0)]) (vk := []) (e0 := []) (t := ⟨[(0, .own 0), (2, iV .i64 a2), (3, iV .i64 a3), (4, .im (.sc (.func (.func 50) #[] #[]))), (10, iV .i64 a1)], [(0, some (.row 4 89 (a0.map eplan_Item)))], 1⟩) (by kernel_rfl) ?_)
  refine LWp.mono (Q := fun e s => (match (generalizing := false) o501 with | .inl rr => e = .ret ∧ s.floor = 1 ∧ resOf Try.prog Try.f124 s = some (.tup []) ∧ ([(0, s.obj 0)] : List (Nat × Option MObj)) = [(0, some (.row 4 89 (rr.map eplan_Item)))] | .inr x500 => e = .exit 0 ∧ s = ⟨[], [(0, some (.row 4 89 (x500.map eplan_Item)))], 1⟩)) (LWp.cv (withBody (fun body hbody => ?_))) ?_
  · refine f_slices_siftDownCmpFunc_plan_Item_plan_sorted_1.l0.partial_correctness a2 a3 (motive := fun x453 x454 o501 => LWp Γ body (fun e s => ∃ t, Cv Γ s t ∧ (match (generalizing := false) o501 with | .inl rr => e = .ret ∧ t.floor = 1 ∧ resOf Try.prog Try.f124 t = some (.tup []) ∧ ([(0, t.obj 0)] : List (Nat × Option MObj)) = [(0, some (.row 4 89 (rr.map eplan_Item)))] | .inr x500 => e = .exit 0 ∧ t = ⟨[], [(0, some (.row 4 89 (x500.map eplan_Item)))], 1⟩)) ⟨[(0, .own 0), (2, iV .i64 a2), (3, iV .i64 a3), (4, .im (.sc (.func (.func 50) #[] #[]))), (10, iV .i64 x454)], [(0, some (.row 4 89 (x453.map eplan_Item)))], 1⟩) ?_ _ _ _ e502
    clear H e502 o501; intro self ih x453 x454 o501 H
    subst hbody
    refine LWp.round ?_
    refine AWp.block ?_
    refine AWp.seq ?_
    refine reg hP hn hm [] [0, 2, 3, 4, 10, 11] [0] ⟨[(0, .own 0), (2, iV .i64 a2), (3, iV .i64 a3), (4, .im (.sc (.func (.func 50) #[] #[]))), (10, iV .i64 x454), (11, iV .i64 (IntKind.i64.wrap ((IntKind.i64.wrap ((2 : Int) * x454)) + (1 : Int))))], [(0, some (.row 4 89 (x453.map eplan_Item)))], 1⟩ [] (by kernel_rfl) trivial ?_
    refine AWp.seq ?_
    refine AWp.seq ?_
    refine reg hP hn hm [] [0, 2, 3, 4, 10, 11, 18] [0] ⟨[(0, .own 0), (2, iV .i64 a2), (3, iV .i64 a3), (4, .im (.sc (.func (.func 50) #[] #[]))), (10, iV .i64 x454), (11, iV .i64 (IntKind.i64.wrap ((IntKind.i64.wrap ((2 : Int) * x454)) + (1 : Int)))), (18, bV (decide ((IntKind.i64.wrap ((IntKind.i64.wrap ((2 : Int) * x454)) + (1 : Int))) ≥ a2)))], [(0, some (.row 4 89 (x453.map eplan_Item)))], 1⟩ [] (by kernel_rfl) trivial ?_
    refine AWp.cond (decide ((IntKind.i64.wrap ((IntKind.i64.wrap ((2 : Int) * x454)) + (1 : Int))) ≥ a2)) rfl (fun c455 => ?_) (fun c455 => ?_)
    · replace H := (ifT c455).symm.trans H
      refine AWp.exit ?_
      obtain rfl := Option.some.inj H
      exact Exists.intro _ (And.intro (fun _ _ h => h.conv (inv := [(0, 0)]) (vk := []) (e0 := []) (t := ⟨[], [(0, some (.row 4 89 (x453.map eplan_Item)))], 1⟩) (by kernel_rfl)) (And.intro rfl rfl))
    · replace H := (ifF c455).symm.trans H
      refine AWp.skip ?_
      refine AWp.seq ?_
      refine AWp.seq ?_
      obtain ⟨o503, e504, H⟩ := bind_of H
      refine AWp.mono (Q := fun e s => (match (generalizing := false) o503 with | x474 => e = .normal ∧ s = ⟨[(0, .own 0), (2, iV .i64 a2), (3, iV .i64 a3), (4, .im (.sc (.func (.func 50) #[] #[]))), (10, iV .i64 x454), (11, iV .i64 (IntKind.i64.wrap ((IntKind.i64.wrap ((2 : Int) * x454)) + (1 : Int)))), (40, bV x474)], [(0, some (.row 4 89 (x453.map eplan_Item)))], 1⟩)) (AWp.cv ?_) ?_
      · replace H := e504; clear e504
        rcases Bool.eq_false_or_eq_true (decide ((IntKind.i64.wrap ((IntKind.i64.wrap ((IntKind.i64.wrap ((2 : Int) * x454)) + (1 : Int))) + (1 : Int))) < a2)) with c465 | c465
        · replace H := (ifT c465).symm.trans H
          obtain ⟨b466, p467, q468, H⟩ := at_of H
          obtain ⟨b469, p470, q471, H⟩ := at_of H
          obtain ⟨t472, e473, H⟩ := bind_of H
          refine reg hP hn hm [(4, .b true), (11, .c (eplan_Item b466)), (18, .c (eplan_Item b469)), (19, .call [] [] [] [] 0 (iV .i64 t472) [])] [0, 2, 3, 4, 10, 11, 24, 25, 26, 27, 28, 29, 30, 31, 32, 33, 34, 35, 36, 37, 38, 39, 40] [0] ⟨[(0, .own 0), (2, iV .i64 a2), (3, iV .i64 a3), (4, .im (.sc (.func (.func 50) #[] #[]))), (10, iV .i64 x454), (11, iV .i64 (IntKind.i64.wrap ((IntKind.i64.wrap ((2 : Int) * x454)) + (1 : Int)))), (24, .im (.sc (.func (.func 50) #[] #[]))), (25, .own 0), (26, iV .i64 a3), (27, iV .i64 (IntKind.i64.wrap ((IntKind.i64.wrap ((2 : Int) * x454)) + (1 : Int)))), (28, iV .i64 (IntKind.i64.wrap (a3 + (IntKind.i64.wrap ((IntKind.i64.wrap ((2 : Int) * x454)) + (1 : Int)))))), (29, .ptr 0 (Int.toNat (IntKind.i64.wrap (a3 + (IntKind.i64.wrap ((IntKind.i64.wrap ((2 : Int) * x454)) + (1 : Int)))))) 0), (30, .agg (apluvialref17_Item ⟨b466.f0, b466.f1.f0, b466.f1.f1, b466.f1.f2⟩)), (31, .own 0), (32, iV .i64 a3), (33, iV .i64 (IntKind.i64.wrap ((IntKind.i64.wrap ((2 : Int) * x454)) + (1 : Int)))), (34, iV .i64 (IntKind.i64.wrap (a3 + (IntKind.i64.wrap ((IntKind.i64.wrap ((2 : Int) * x454)) + (1 : Int)))))), (35, iV .i64 (IntKind.i64.wrap ((IntKind.i64.wrap (a3 + (IntKind.i64.wrap ((IntKind.i64.wrap ((2 : Int) * x454)) + (1 : Int))))) + (1 : Int)))), (36, .ptr 0 (Int.toNat (IntKind.i64.wrap ((IntKind.i64.wrap (a3 + (IntKind.i64.wrap ((IntKind.i64.wrap ((2 : Int) * x454)) + (1 : Int))))) + (1 : Int)))) 0), (37, .agg (apluvialref17_Item ⟨b469.f0, b469.f1.f0, b469.f1.f1, b469.f1.f2⟩)), (38, iV .i64 t472), (39, bV (decide (t472 < (0 : Int)))), (40, bV (decide (t472 < (0 : Int))))], [(0, some (.row 4 89 (x453.map eplan_Item)))], 1⟩ [(decide ((IntKind.i64.wrap ((IntKind.i64.wrap ((IntKind.i64.wrap ((2 : Int) * x454)) + (1 : Int))) + (1 : Int))) < a2)) = true, 0 ≤ (IntKind.i64.wrap (a3 + (IntKind.i64.wrap ((IntKind.i64.wrap ((2 : Int) * x454)) + (1 : Int))))), IntKind.i64.wrap (a3 + (IntKind.i64.wrap ((IntKind.i64.wrap ((2 : Int) * x454)) + (1 : Int)))) < (((x453.map eplan_Item).length : Nat) : Int), (x453.map eplan_Item)[(Int.toNat (IntKind.i64.wrap (a3 + (IntKind.i64.wrap ((IntKind.i64.wrap ((2 : Int) * x454)) + (1 : Int))))))]? = some (eplan_Item b466), 0 ≤ (IntKind.i64.wrap ((IntKind.i64.wrap (a3 + (IntKind.i64.wrap ((IntKind.i64.wrap ((2 : Int) * x454)) + (1 : Int))))) + (1 : Int))), IntKind.i64.wrap ((IntKind.i64.wrap (a3 + (IntKind.i64.wrap ((IntKind.i64.wrap ((2 : Int) * x454)) + (1 : Int))))) + (1 : Int)) < (((x453.map eplan_Item).length : Nat) : Int), (x453.map eplan_Item)[(Int.toNat (IntKind.i64.wrap ((IntKind.i64.wrap (a3 + (IntKind.i64.wrap ((IntKind.i64.wrap ((2 : Int) * x454)) + (1 : Int))))) + (1 : Int))))]? = some (eplan_Item b469), Enters Try.prog 50, Pv.Fn Try.prog 50 [.agg (apluvialref17_Item ⟨b466.f0, b466.f1.f0, b466.f1.f1, b466.f1.f2⟩), .agg (apluvialref17_Item ⟨b469.f0, b469.f1.f0, b469.f1.f1, b469.f1.f2⟩)] [] 0 (fun r o => r = iV .i64 t472 ∧ o = [])] (by kernel_rfl) ⟨by exact c465, by exact p467, by exact el_lt eplan_Item p467 q468, by exact el_map eplan_Item q468, by exact p470, by exact el_lt eplan_Item p470 q471, by exact el_map eplan_Item q471, by exact Try.call50, by exact f_plan_sorted_1.ok b466 b469 t472 e473, trivial⟩ ?_
          obtain rfl := Option.some.inj H
          exact Exists.intro _ (And.intro (fun _ _ h => h.conv (inv := [(0, 0)]) (vk := []) (e0 := []) (t := ⟨[(0, .own 0), (2, iV .i64 a2), (3, iV .i64 a3), (4, .im (.sc (.func (.func 50) #[] #[]))), (10, iV .i64 x454), (11, iV .i64 (IntKind.i64.wrap ((IntKind.i64.wrap ((2 : Int) * x454)) + (1 : Int)))), (40, bV (decide (t472 < (0 : Int))))], [(0, some (.row 4 89 (x453.map eplan_Item)))], 1⟩) (by kernel_rfl)) (And.intro rfl rfl))
        · replace H := (ifF c465).symm.trans H
          refine reg hP hn hm [(4, .b false)] [0, 2, 3, 4, 10, 11, 40] [0] ⟨[(0, .own 0), (2, iV .i64 a2), (3, iV .i64 a3), (4, .im (.sc (.func (.func 50) #[] #[]))), (10, iV .i64 x454), (11, iV .i64 (IntKind.i64.wrap ((IntKind.i64.wrap ((2 : Int) * x454)) + (1 : Int)))), (40, bV false)], [(0, some (.row 4 89 (x453.map eplan_Item)))], 1⟩ [(decide ((IntKind.i64.wrap ((IntKind.i64.wrap ((IntKind.i64.wrap ((2 : Int) * x454)) + (1 : Int))) + (1 : Int))) < a2)) = false] (by kernel_rfl) ⟨by exact c465, trivial⟩ ?_
          obtain rfl := Option.some.inj H
          exact Exists.intro _ (And.intro (fun _ _ h => h.conv (inv := [(0, 0)]) (vk := []) (e0 := []) (t := ⟨[(0, .own 0), (2, iV .i64 a2), (3, iV .i64 a3), (4, .im (.sc (.func (.func 50) #[] #[]))), (10, iV .i64 x454), (11, iV .i64 (IntKind.i64.wrap ((IntKind.i64.wrap ((2 : Int) * x454)) + (1 : Int)))), (40, bV false)], [(0, some (.row 4 89 (x453.map eplan_Item)))], 1⟩) (by kernel_rfl)) (And.intro rfl rfl))
      · obtain ⟨x474, rfl⟩ : ∃ z, z = o503 := ⟨_, rfl⟩
        rintro e s ⟨rfl, rfl⟩
        obtain ⟨o505, e506, H⟩ := bind_of H
        refine AWp.mono (Q := fun e s => (match (generalizing := false) o505 with | x476 => e = .normal ∧ s = ⟨[(0, .own 0), (2, iV .i64 a2), (3, iV .i64 a3), (4, .im (.sc (.func (.func 50) #[] #[]))), (10, iV .i64 x454), (11, iV .i64 x476)], [(0, some (.row 4 89 (x453.map eplan_Item)))], 1⟩)) (AWp.cv ?_) ?_
        · replace H := e506; clear e506
          refine AWp.cond x474 rfl (fun c475 => ?_) (fun c475 => ?_)
          · replace H := (ifT c475).symm.trans H
            refine reg hP hn hm [] [0, 2, 3, 4, 10, 11] [0] ⟨[(0, .own 0), (2, iV .i64 a2), (3, iV .i64 a3), (4, .im (.sc (.func (.func 50) #[] #[]))), (10, iV .i64 x454), (11, iV .i64 (IntKind.i64.wrap ((IntKind.i64.wrap ((IntKind.i64.wrap ((2 : Int) * x454)) + (1 : Int))) + (1 : Int))))], [(0, some (.row 4 89 (x453.map eplan_Item)))], 1⟩ [] (by kernel_rfl) trivial ?_
            obtain rfl := Option.some.inj H
            exact Exists.intro _ (And.intro (fun _ _ h => h.conv (inv := [(0, 0)]) (vk := []) (e0 := []) (t := ⟨[(0, .own 0), (2, iV .i64 a2), (3, iV .i64 a3), (4, .im (.sc (.func (.func 50) #[] #[]))), (10, iV .i64 x454), (11, iV .i64 (IntKind.i64.wrap ((IntKind.i64.wrap ((IntKind.i64.wrap ((2 : Int) * x454)) + (1 : Int))) + (1 : Int))))], [(0, some (.row 4 89 (x453.map eplan_Item)))], 1⟩) (by kernel_rfl)) (And.intro rfl rfl))
          · replace H := (ifF c475).symm.trans H
            refine AWp.skip ?_
            obtain rfl := Option.some.inj H
            exact Exists.intro _ (And.intro (fun _ _ h => h.conv (inv := [(0, 0)]) (vk := []) (e0 := []) (t := ⟨[(0, .own 0), (2, iV .i64 a2), (3, iV .i64 a3), (4, .im (.sc (.func (.func 50) #[] #[]))), (10, iV .i64 x454), (11, iV .i64 (IntKind.i64.wrap ((IntKind.i64.wrap ((2 : Int) * x454)) + (1 : Int))))], [(0, some (.row 4 89 (x453.map eplan_Item)))], 1⟩) (by kernel_rfl)) (And.intro rfl rfl))
        · obtain ⟨x476, rfl⟩ : ∃ z, z = o505 := ⟨_, rfl⟩
          rintro e s ⟨rfl, rfl⟩
          refine AWp.seq ?_
          refine AWp.seq ?_
          obtain ⟨b485, p486, q487, H⟩ := at_of H
          obtain ⟨b488, p489, q490, H⟩ := at_of H
          obtain ⟨t491, e492, H⟩ := bind_of H
          refine reg hP hn hm [(6, .c (eplan_Item b485)), (12, .c (eplan_Item b488)), (13, .call [] [] [] [] 0 (iV .i64 t491) [])] [0, 2, 3, 4, 10, 11, 58] [0] ⟨[(0, .own 0), (2, iV .i64 a2), (3, iV .i64 a3), (4, .im (.sc (.func (.func 50) #[] #[]))), (10, iV .i64 x454), (11, iV .i64 x476), (58, bV (!(decide (t491 < (0 : Int)))))], [(0, some (.row 4 89 (x453.map eplan_Item)))], 1⟩ [0 ≤ (IntKind.i64.wrap (a3 + x454)), IntKind.i64.wrap (a3 + x454) < (((x453.map eplan_Item).length : Nat) : Int), (x453.map eplan_Item)[(Int.toNat (IntKind.i64.wrap (a3 + x454)))]? = some (eplan_Item b485), 0 ≤ (IntKind.i64.wrap (a3 + x476)), IntKind.i64.wrap (a3 + x476) < (((x453.map eplan_Item).length : Nat) : Int), (x453.map eplan_Item)[(Int.toNat (IntKind.i64.wrap (a3 + x476)))]? = some (eplan_Item b488), Enters Try.prog 50, Pv.Fn Try.prog 50 [.agg (apluvialref17_Item ⟨b485.f0, b485.f1.f0, b485.f1.f1, b485.f1.f2⟩), .agg (apluvialref17_Item ⟨b488.f0, b488.f1.f0, b488.f1.f1, b488.f1.f2⟩)] [] 0 (fun r o => r = iV .i64 t491 ∧ o = [])] (by kernel_rfl) ⟨by exact p486, by exact el_lt eplan_Item p486 q487, by exact el_map eplan_Item q487, by exact p489, by exact el_lt eplan_Item p489 q490, by exact el_map eplan_Item q490, by exact Try.call50, by exact f_plan_sorted_1.ok b485 b488 t491 e492, trivial⟩ ?_
          refine AWp.cond (!(decide (t491 < (0 : Int)))) rfl (fun c493 => ?_) (fun c493 => ?_)
          · replace H := (ifT c493).symm.trans H
            refine AWp.conv (inv := [(0, 0)]) (vk := []) (e0 := []) (t := ⟨[], [(0, some (.row 4 89 (x453.map eplan_Item)))], 1⟩) (by kernel_rfl) ?_
            refine AWp.ret ?_
            obtain rfl := Option.some.inj H
            exact Exists.intro _ (And.intro (fun _ _ h => h) (And.intro rfl (And.intro rfl (And.intro (by kernel_rfl) (by kernel_rfl)))))
          · replace H := (ifF c493).symm.trans H
            refine AWp.skip ?_
            refine AWp.seq ?_
            obtain ⟨b497, p498, q499, H⟩ := at_of H
            refine reg hP hn hm [(13, .c (eplan_Item b488)), (19, .c (eplan_Item b485)), (21, .put (eplan_Item b485) ((x453.set (Int.toNat (IntKind.i64.wrap (a3 + x454))) b488).map eplan_Item)), (23, .put (eplan_Item b497) (((x453.set (Int.toNat (IntKind.i64.wrap (a3 + x454))) b488).set (Int.toNat (IntKind.i64.wrap (a3 + x476))) b485).map eplan_Item))] [0, 2, 3, 4, 11] [0] ⟨[(0, .own 0), (2, iV .i64 a2), (3, iV .i64 a3), (4, .im (.sc (.func (.func 50) #[] #[]))), (11, iV .i64 x476)], [(0, some (.row 4 89 (((x453.set (Int.toNat (IntKind.i64.wrap (a3 + x454))) b488).set (Int.toNat (IntKind.i64.wrap (a3 + x476))) b485).map eplan_Item)))], 1⟩ [0 ≤ (IntKind.i64.wrap (a3 + x476)), IntKind.i64.wrap (a3 + x476) < (((x453.map eplan_Item).length : Nat) : Int), (x453.map eplan_Item)[(Int.toNat (IntKind.i64.wrap (a3 + x476)))]? = some (eplan_Item b488), 0 ≤ (IntKind.i64.wrap (a3 + x454)), IntKind.i64.wrap (a3 + x454) < (((x453.map eplan_Item).length : Nat) : Int), (x453.map eplan_Item)[(Int.toNat (IntKind.i64.wrap (a3 + x454)))]? = some (eplan_Item b485), 0 ≤ (IntKind.i64.wrap (a3 + x454)), IntKind.i64.wrap (a3 + x454) < (((x453.map eplan_Item).length : Nat) : Int), (x453.map eplan_Item)[(Int.toNat (IntKind.i64.wrap (a3 + x454)))]? = some (eplan_Item b485), (x453.set (Int.toNat (IntKind.i64.wrap (a3 + x454))) b488).map eplan_Item = (x453.map eplan_Item).set (Int.toNat (IntKind.i64.wrap (a3 + x454))) (splice (eplan_Item b485) 0 [iI .i64 b488.f0, iI .i64 b488.f1.f0, iI .i64 b488.f1.f1, iI .i64 b488.f1.f2]), 0 ≤ (IntKind.i64.wrap (a3 + x476)), IntKind.i64.wrap (a3 + x476) < ((((x453.set (Int.toNat (IntKind.i64.wrap (a3 + x454))) b488).map eplan_Item).length : Nat) : Int), ((x453.set (Int.toNat (IntKind.i64.wrap (a3 + x454))) b488).map eplan_Item)[(Int.toNat (IntKind.i64.wrap (a3 + x476)))]? = some (eplan_Item b497), ((x453.set (Int.toNat (IntKind.i64.wrap (a3 + x454))) b488).set (Int.toNat (IntKind.i64.wrap (a3 + x476))) b485).map eplan_Item = ((x453.set (Int.toNat (IntKind.i64.wrap (a3 + x454))) b488).map eplan_Item).set (Int.toNat (IntKind.i64.wrap (a3 + x476))) (splice (eplan_Item b497) 0 [iI .i64 b485.f0, iI .i64 b485.f1.f0, iI .i64 b485.f1.f1, iI .i64 b485.f1.f2])] (by kernel_rfl) ⟨by exact p489, by exact el_lt eplan_Item p489 q490, by exact el_map eplan_Item q490, by exact p486, by exact el_lt eplan_Item p486 q487, by exact el_map eplan_Item q487, by exact p486, by exact el_lt eplan_Item p486 q487, by exact el_map eplan_Item q487, by exact set1 _ _ _ _, by exact p498, by exact el_lt eplan_Item p498 q499, by exact el_map eplan_Item q499, by exact set1 _ _ _ _, trivial⟩ ?_
            refine reg hP hn hm [] [0, 2, 3, 4, 10] [0] ⟨[(0, .own 0), (2, iV .i64 a2), (3, iV .i64 a3), (4, .im (.sc (.func (.func 50) #[] #[]))), (10, iV .i64 x476)], [(0, some (.row 4 89 (((x453.set (Int.toNat (IntKind.i64.wrap (a3 + x454))) b488).set (Int.toNat (IntKind.i64.wrap (a3 + x476))) b485).map eplan_Item)))], 1⟩ [] (by kernel_rfl) trivial ?_
            exact LWp.conv (inv := [(0, 0)]) (vk := []) (e0 := []) (t := ⟨[(0, .own 0), (2, iV .i64 a2), (3, iV .i64 a3), (4, .im (.sc (.func (.func 50) #[] #[]))), (10, iV .i64 x476)], [(0, some (.row 4 89 (((x453.set (Int.toNat (IntKind.i64.wrap (a3 + x454))) b488).set (Int.toNat (IntKind.i64.wrap (a3 + x476))) b485).map eplan_Item)))], 1⟩) (by kernel_rfl) (ih _ _ _ H)
  · rcases o501 with rr | x500
    · skip
      rintro e s ⟨rfl, hfl, hres⟩
      obtain rfl := Option.some.inj H
      exact Exists.intro _ (And.intro (fun _ _ h => h) (And.intro (.inl rfl) (And.intro hfl hres)))
    · skip
      rintro e s ⟨rfl, rfl⟩
      obtain rfl := Option.some.inj H
      exact Exists.intro ⟨[], [(0, some (.row 4 89 (x500.map eplan_Item)))], 1⟩ (And.intro (fun _ _ h => h.conv (inv := [(0, 0)]) (vk := []) (e0 := []) (t := ⟨[], [(0, some (.row 4 89 (x500.map eplan_Item)))], 1⟩) (by kernel_rfl)) (And.intro (.inr rfl) (And.intro rfl (And.intro (by kernel_rfl) (by kernel_rfl)))))
def f_slices_heapSortCmpFunc_plan_Item_plan_sorted_1.l0 (a1 : Int) (a2 : Int) (x511 : List Tplan_Item) (x512 : Int) : Option (List Tplan_Item) := if (decide (x512 ≥ (0 : Int))) = true then ((f_slices_siftDownCmpFunc_plan_Item_plan_sorted_1.f x511 x512 (IntKind.i64.wrap (a2 - a1)) a1) >>= fun t516 => f_slices_heapSortCmpFunc_plan_Item_plan_sorted_1.l0 a1 a2 t516 (IntKind.i64.wrap (x512 - (1 : Int)))) else (some x511)
partial_fixpoint
def f_slices_heapSortCmpFunc_plan_Item_plan_sorted_1.l1 (a1 : Int) (x542 : List Tplan_Item) (x543 : Int) : Option (List Tplan_Item) := if (decide (x543 ≥ (0 : Int))) = true then ((at? x542 (IntKind.i64.wrap (a1 + x543))) >>= fun b554 => (at? x542 a1) >>= fun b557 => (at? (x542.set (Int.toNat (a1)) b554) (IntKind.i64.wrap (a1 + x543))) >>= fun b560 => (f_slices_siftDownCmpFunc_plan_Item_plan_sorted_1.f ((x542.set (Int.toNat (a1)) b554).set (Int.toNat (IntKind.i64.wrap (a1 + x543))) b557) 0 x543 a1) >>= fun t565 => f_slices_heapSortCmpFunc_plan_Item_plan_sorted_1.l1 a1 t565 (IntKind.i64.wrap (x543 - (1 : Int)))) else (some x542)
partial_fixpoint
def f_slices_heapSortCmpFunc_plan_Item_plan_sorted_1.f (a0 : List Tplan_Item) (a1 : Int) (a2 : Int) : Option (List Tplan_Item) := (f_slices_heapSortCmpFunc_plan_Item_plan_sorted_1.l0 a1 a2 a0 (IntKind.i64.wrap (Int.tdiv (IntKind.i64.wrap ((IntKind.i64.wrap (a2 - a1)) - (1 : Int))) (2 : Int)))) >>= fun x518 => (f_slices_heapSortCmpFunc_plan_Item_plan_sorted_1.l1 a1 x518 (IntKind.i64.wrap ((IntKind.i64.wrap (a2 - a1)) - (1 : Int)))) >>= fun x567 => some x567
theorem f_slices_heapSortCmpFunc_plan_Item_plan_sorted_1.ok (a0 : List Tplan_Item) (a1 : Int) (a2 : Int) (r : List Tplan_Item) (H : f_slices_heapSortCmpFunc_plan_Item_plan_sorted_1.f a0 a1 a2 = some r) : Pv.Fn Try.prog 105 [.own 0, iV .i64 a1, iV .i64 a2, .im (.sc (.func (.func 50) #[] #[]))] [(0, some (.row 4 89 (a0.map eplan_Item)))] 1 (fun x o => x = .tup [] ∧ o = [(0, some (.row 4 89 (r.map eplan_Item)))]) := by
  unfold f_slices_heapSortCmpFunc_plan_Item_plan_sorted_1.f at H
  refine Fn.bodyK [0] Try.func105 rfl rfl (fun Γ hP hn => ?_)
  have hm : Try.prog.follows .mixedOrders = true := by kernel_rfl
  replace hn : Γ.n = 60 := hn
  refine AWp.seq ?_
  refine reg hP hn hm [] [0, 1, 2, 3, 8] [0] ⟨[(0, .own 0), (1, iV .i64 a1), (2, iV .i64 a2), (3, .im (.sc (.func (.func 50) #[] #[]))), (8, iV .i64 a1)], [(0, some (.row 4 89 (a0.map eplan_Item)))], 1⟩ [] (by kernel_rfl) trivial ?_
  refine AWp.seq ?_
  refine reg hP hn hm [] [0, 1, 2, 3, 8, 9] [0] ⟨[(0, .own 0), (1, iV .i64 a1), (2, iV .i64 a2), (3, .im (.sc (.func (.func 50) #[] #[]))), (8, iV .i64 a1), (9, iV .i64 0)], [(0, some (.row 4 89 (a0.map eplan_Item)))], 1⟩ [] (by kernel_rfl) trivial ?_
  refine AWp.seq ?_
  refine reg hP hn hm [] [0, 3, 8, 9, 10] [0] ⟨[(0, .own 0), (3, .im (.sc (.func (.func 50) #[] #[]))), (8, iV .i64 a1), (9, iV .i64 0), (10, iV .i64 (IntKind.i64.wrap (a2 - a1)))], [(0, some (.row 4 89 (a0.map eplan_Item)))], 1⟩ [] (by kernel_rfl) trivial ?_
  refine AWp.seq ?_
  refine AWp.seq ?_
  refine reg hP hn hm [] [0, 3, 8, 9, 10, 11] [0] ⟨[(0, .own 0), (3, .im (.sc (.func (.func 50) #[] #[]))), (8, iV .i64 a1), (9, iV .i64 0), (10, iV .i64 (IntKind.i64.wrap (a2 - a1))), (11, iV .i64 (IntKind.i64.wrap (Int.tdiv (IntKind.i64.wrap ((IntKind.i64.wrap (a2 - a1)) - (1 : Int))) (2 : Int))))], [(0, some (.row 4 89 (a0.map eplan_Item)))], 1⟩ [(2 : Int) ≠ 0] (by kernel_rfl) ⟨by decide, trivial⟩ ?_
  refine AWp.block ?_
  obtain ⟨o568, e569, H⟩ := bind_of H
  refine AWp.loop (LWp.conv (inv := [(0, 0)]) (vk := []) (e0 := []) (t := ⟨[(0, .own 0), (3, .im (.sc (.func (.func 50) #[] #[]))), (8, iV .i64 a1), (9, iV .i64 0), (10, iV .i64 (IntKind.i64.wrap (a2 - a1))), (11, iV .i64 (IntKind.i64.wrap (Int.tdiv (IntKind.i64.wrap ((IntKind.i64.wrap (a2 - a1)) - (1 : Int))) (2 : Int))))], [(0, some (.row 4 89 (a0.map eplan_Item)))], 1⟩) (by kernel_rfl) ?_)
  refine LWp.mono (Q := fun e s => (match (generalizing := false) o568 with | x518 => e = .exit 0 ∧ s = ⟨[(0, .own 0), (3, .im (.sc (.func (.func 50) #[] #[]))), (8, iV .i64 a1), (9, iV .i64 0), (10, iV .i64 (IntKind.i64.wrap (a2 - a1)))], [(0, some (.row 4 89 (x518.map eplan_Item)))], 1⟩)) (LWp.cv (withBody (fun body hbody => ?_))) ?_
  · refine f_slices_heapSortCmpFunc_plan_Item_plan_sorted_1.l0.partial_correctness a1 a2 (motive := fun x511 x512 o568 => LWp Γ body (fun e s => ∃ t, Cv Γ s t ∧ (match (generalizing := false) o568 with | x518 => e = .exit 0 ∧ t = ⟨[(0, .own 0), (3, .im (.sc (.func (.func 50) #[] #[]))), (8, iV .i64 a1), (9, iV .i64 0), (10, iV .i64 (IntKind.i64.wrap (a2 - a1)))], [(0, some (.row 4 89 (x518.map eplan_Item)))], 1⟩)) ⟨[(0, .own 0), (3, .im (.sc (.func (.func 50) #[] #[]))), (8, iV .i64 a1), (9, iV .i64 0), (10, iV .i64 (IntKind.i64.wrap (a2 - a1))), (11, iV .i64 x512)], [(0, some (.row 4 89 (x511.map eplan_Item)))], 1⟩) ?_ _ _ _ e569
    clear H e569 o568; intro self ih x511 x512 o568 H
    subst hbody
    refine LWp.round ?_
    refine AWp.seq ?_
    refine AWp.seq ?_
    refine reg hP hn hm [] [0, 3, 8, 9, 10, 11, 21] [0] ⟨[(0, .own 0), (3, .im (.sc (.func (.func 50) #[] #[]))), (8, iV .i64 a1), (9, iV .i64 0), (10, iV .i64 (IntKind.i64.wrap (a2 - a1))), (11, iV .i64 x512), (21, bV (decide (x512 ≥ (0 : Int))))], [(0, some (.row 4 89 (x511.map eplan_Item)))], 1⟩ [] (by kernel_rfl) trivial ?_
    refine AWp.cond (decide (x512 ≥ (0 : Int))) rfl (fun c513 => ?_) (fun c513 => ?_)
    · replace H := (ifT c513).symm.trans H
      refine AWp.skip ?_
      refine AWp.seq ?_
      refine AWp.block ?_
      obtain ⟨t516, e517, H⟩ := bind_of H
      refine reg hP hn hm [(5, .call [(0, 0)] [(0, 0)] [] [] 1 (.tup []) [(0, some (.row 4 89 (t516.map eplan_Item)))])] [0, 3, 8, 9, 10, 11] [0] ⟨[(0, .own 0), (3, .im (.sc (.func (.func 50) #[] #[]))), (8, iV .i64 a1), (9, iV .i64 0), (10, iV .i64 (IntKind.i64.wrap (a2 - a1))), (11, iV .i64 x512)], [(0, some (.row 4 89 (t516.map eplan_Item)))], 1⟩ [Enters Try.prog 124, Pv.Fn Try.prog 124 [.own 0, iV .i64 x512, iV .i64 (IntKind.i64.wrap (a2 - a1)), iV .i64 a1, .im (.sc (.func (.func 50) #[] #[]))] [(0, some (.row 4 89 (x511.map eplan_Item)))] 1 (fun r o => r = .tup [] ∧ o = [(0, some (.row 4 89 (t516.map eplan_Item)))])] (by kernel_rfl) ⟨by exact Try.call124, by exact f_slices_siftDownCmpFunc_plan_Item_plan_sorted_1.ok x511 x512 (IntKind.i64.wrap (a2 - a1)) a1 t516 e517, trivial⟩ ?_
      refine reg hP hn hm [] [0, 3, 8, 9, 10, 11] [0] ⟨[(0, .own 0), (3, .im (.sc (.func (.func 50) #[] #[]))), (8, iV .i64 a1), (9, iV .i64 0), (10, iV .i64 (IntKind.i64.wrap (a2 - a1))), (11, iV .i64 (IntKind.i64.wrap (x512 - (1 : Int))))], [(0, some (.row 4 89 (t516.map eplan_Item)))], 1⟩ [] (by kernel_rfl) trivial ?_
      exact LWp.conv (inv := [(0, 0)]) (vk := []) (e0 := []) (t := ⟨[(0, .own 0), (3, .im (.sc (.func (.func 50) #[] #[]))), (8, iV .i64 a1), (9, iV .i64 0), (10, iV .i64 (IntKind.i64.wrap (a2 - a1))), (11, iV .i64 (IntKind.i64.wrap (x512 - (1 : Int))))], [(0, some (.row 4 89 (t516.map eplan_Item)))], 1⟩) (by kernel_rfl) (ih _ _ _ H)
    · replace H := (ifF c513).symm.trans H
      refine AWp.exit ?_
      obtain rfl := Option.some.inj H
      exact Exists.intro _ (And.intro (fun _ _ h => h.conv (inv := [(0, 0)]) (vk := []) (e0 := []) (t := ⟨[(0, .own 0), (3, .im (.sc (.func (.func 50) #[] #[]))), (8, iV .i64 a1), (9, iV .i64 0), (10, iV .i64 (IntKind.i64.wrap (a2 - a1)))], [(0, some (.row 4 89 (x511.map eplan_Item)))], 1⟩) (by kernel_rfl)) (And.intro rfl rfl))
  · obtain ⟨x518, rfl⟩ : ∃ z, z = o568 := ⟨_, rfl⟩
    rintro e s ⟨rfl, rfl⟩
    refine AWp.seq ?_
    refine reg hP hn hm [] [0, 3, 8, 9, 12] [0] ⟨[(0, .own 0), (3, .im (.sc (.func (.func 50) #[] #[]))), (8, iV .i64 a1), (9, iV .i64 0), (12, iV .i64 (IntKind.i64.wrap ((IntKind.i64.wrap (a2 - a1)) - (1 : Int))))], [(0, some (.row 4 89 (x518.map eplan_Item)))], 1⟩ [] (by kernel_rfl) trivial ?_
    refine AWp.block ?_
    obtain ⟨o570, e571, H⟩ := bind_of H
    refine AWp.loop (LWp.conv (inv := [(0, 0)]) (vk := []) (e0 := []) (t := ⟨[(0, .own 0), (3, .im (.sc (.func (.func 50) #[] #[]))), (8, iV .i64 a1), (9, iV .i64 0), (12, iV .i64 (IntKind.i64.wrap ((IntKind.i64.wrap (a2 - a1)) - (1 : Int))))], [(0, some (.row 4 89 (x518.map eplan_Item)))], 1⟩) (by kernel_rfl) ?_)
    refine LWp.mono (Q := fun e s => (match (generalizing := false) o570 with | x567 => e = .exit 2 ∧ s = ⟨[], [(0, some (.row 4 89 (x567.map eplan_Item)))], 1⟩)) (LWp.cv (withBody (fun body hbody => ?_))) ?_
    · refine f_slices_heapSortCmpFunc_plan_Item_plan_sorted_1.l1.partial_correctness a1 (motive := fun x542 x543 o570 => LWp Γ body (fun e s => ∃ t, Cv Γ s t ∧ (match (generalizing := false) o570 with | x567 => e = .exit 2 ∧ t = ⟨[], [(0, some (.row 4 89 (x567.map eplan_Item)))], 1⟩)) ⟨[(0, .own 0), (3, .im (.sc (.func (.func 50) #[] #[]))), (8, iV .i64 a1), (9, iV .i64 0), (12, iV .i64 x543)], [(0, some (.row 4 89 (x542.map eplan_Item)))], 1⟩) ?_ _ _ _ e571
      clear H e571 o570; intro self ih x542 x543 o570 H
      subst hbody
      refine LWp.round ?_
      refine AWp.seq ?_
      refine AWp.seq ?_
      refine reg hP hn hm [] [0, 3, 8, 9, 12, 33] [0] ⟨[(0, .own 0), (3, .im (.sc (.func (.func 50) #[] #[]))), (8, iV .i64 a1), (9, iV .i64 0), (12, iV .i64 x543), (33, bV (decide (x543 ≥ (0 : Int))))], [(0, some (.row 4 89 (x542.map eplan_Item)))], 1⟩ [] (by kernel_rfl) trivial ?_
      refine AWp.cond (decide (x543 ≥ (0 : Int))) rfl (fun c544 => ?_) (fun c544 => ?_)
      · replace H := (ifT c544).symm.trans H
        refine AWp.skip ?_
        refine AWp.seq ?_
        refine AWp.block ?_
        refine AWp.seq ?_
        obtain ⟨b554, p555, q556, H⟩ := at_of H
        obtain ⟨b557, p558, q559, H⟩ := at_of H
        obtain ⟨b560, p561, q562, H⟩ := at_of H
        refine reg hP hn hm [(11, .c (eplan_Item b554)), (15, .c (eplan_Item b557)), (17, .put (eplan_Item b557) ((x542.set (Int.toNat (a1)) b554).map eplan_Item)), (19, .put (eplan_Item b560) (((x542.set (Int.toNat (a1)) b554).set (Int.toNat (IntKind.i64.wrap (a1 + x543))) b557).map eplan_Item))] [0, 3, 8, 9, 12] [0] ⟨[(0, .own 0), (3, .im (.sc (.func (.func 50) #[] #[]))), (8, iV .i64 a1), (9, iV .i64 0), (12, iV .i64 x543)], [(0, some (.row 4 89 (((x542.set (Int.toNat (a1)) b554).set (Int.toNat (IntKind.i64.wrap (a1 + x543))) b557).map eplan_Item)))], 1⟩ [0 ≤ (IntKind.i64.wrap (a1 + x543)), IntKind.i64.wrap (a1 + x543) < (((x542.map eplan_Item).length : Nat) : Int), (x542.map eplan_Item)[(Int.toNat (IntKind.i64.wrap (a1 + x543)))]? = some (eplan_Item b554), 0 ≤ a1, a1 < (((x542.map eplan_Item).length : Nat) : Int), (x542.map eplan_Item)[(Int.toNat (a1))]? = some (eplan_Item b557), 0 ≤ a1, a1 < (((x542.map eplan_Item).length : Nat) : Int), (x542.map eplan_Item)[(Int.toNat (a1))]? = some (eplan_Item b557), (x542.set (Int.toNat (a1)) b554).map eplan_Item = (x542.map eplan_Item).set (Int.toNat (a1)) (splice (eplan_Item b557) 0 [iI .i64 b554.f0, iI .i64 b554.f1.f0, iI .i64 b554.f1.f1, iI .i64 b554.f1.f2]), 0 ≤ (IntKind.i64.wrap (a1 + x543)), IntKind.i64.wrap (a1 + x543) < ((((x542.set (Int.toNat (a1)) b554).map eplan_Item).length : Nat) : Int), ((x542.set (Int.toNat (a1)) b554).map eplan_Item)[(Int.toNat (IntKind.i64.wrap (a1 + x543)))]? = some (eplan_Item b560), ((x542.set (Int.toNat (a1)) b554).set (Int.toNat (IntKind.i64.wrap (a1 + x543))) b557).map eplan_Item = ((x542.set (Int.toNat (a1)) b554).map eplan_Item).set (Int.toNat (IntKind.i64.wrap (a1 + x543))) (splice (eplan_Item b560) 0 [iI .i64 b557.f0, iI .i64 b557.f1.f0, iI .i64 b557.f1.f1, iI .i64 b557.f1.f2])] (by kernel_rfl) ⟨by exact p555, by exact el_lt eplan_Item p555 q556, by exact el_map eplan_Item q556, by exact p558, by exact el_lt eplan_Item p558 q559, by exact el_map eplan_Item q559, by exact p558, by exact el_lt eplan_Item p558 q559, by exact el_map eplan_Item q559, by exact set1 _ _ _ _, by exact p561, by exact el_lt eplan_Item p561 q562, by exact el_map eplan_Item q562, by exact set1 _ _ _ _, trivial⟩ ?_
        obtain ⟨t565, e566, H⟩ := bind_of H
        refine reg hP hn hm [(5, .call [(0, 0)] [(0, 0)] [] [] 1 (.tup []) [(0, some (.row 4 89 (t565.map eplan_Item)))])] [0, 3, 8, 9, 12] [0] ⟨[(0, .own 0), (3, .im (.sc (.func (.func 50) #[] #[]))), (8, iV .i64 a1), (9, iV .i64 0), (12, iV .i64 x543)], [(0, some (.row 4 89 (t565.map eplan_Item)))], 1⟩ [Enters Try.prog 124, Pv.Fn Try.prog 124 [.own 0, iV .i64 0, iV .i64 x543, iV .i64 a1, .im (.sc (.func (.func 50) #[] #[]))] [(0, some (.row 4 89 (((x542.set (Int.toNat (a1)) b554).set (Int.toNat (IntKind.i64.wrap (a1 + x543))) b557).map eplan_Item)))] 1 (fun r o => r = .tup [] ∧ o = [(0, some (.row 4 89 (t565.map eplan_Item)))])] (by kernel_rfl) ⟨by exact Try.call124, by exact f_slices_siftDownCmpFunc_plan_Item_plan_sorted_1.ok ((x542.set (Int.toNat (a1)) b554).set (Int.toNat (IntKind.i64.wrap (a1 + x543))) b557) 0 x543 a1 t565 e566, trivial⟩ ?_
        refine reg hP hn hm [] [0, 3, 8, 9, 12] [0] ⟨[(0, .own 0), (3, .im (.sc (.func (.func 50) #[] #[]))), (8, iV .i64 a1), (9, iV .i64 0), (12, iV .i64 (IntKind.i64.wrap (x543 - (1 : Int))))], [(0, some (.row 4 89 (t565.map eplan_Item)))], 1⟩ [] (by kernel_rfl) trivial ?_
        exact LWp.conv (inv := [(0, 0)]) (vk := []) (e0 := []) (t := ⟨[(0, .own 0), (3, .im (.sc (.func (.func 50) #[] #[]))), (8, iV .i64 a1), (9, iV .i64 0), (12, iV .i64 (IntKind.i64.wrap (x543 - (1 : Int))))], [(0, some (.row 4 89 (t565.map eplan_Item)))], 1⟩) (by kernel_rfl) (ih _ _ _ H)
      · replace H := (ifF c544).symm.trans H
        refine AWp.exit ?_
        obtain rfl := Option.some.inj H
        exact Exists.intro _ (And.intro (fun _ _ h => h.conv (inv := [(0, 0)]) (vk := []) (e0 := []) (t := ⟨[], [(0, some (.row 4 89 (x542.map eplan_Item)))], 1⟩) (by kernel_rfl)) (And.intro rfl rfl))
    · obtain ⟨x567, rfl⟩ : ∃ z, z = o570 := ⟨_, rfl⟩
      rintro e s ⟨rfl, rfl⟩
      obtain rfl := Option.some.inj H
      exact Exists.intro ⟨[], [(0, some (.row 4 89 (x567.map eplan_Item)))], 1⟩ (And.intro (fun _ _ h => h.conv (inv := [(0, 0)]) (vk := []) (e0 := []) (t := ⟨[], [(0, some (.row 4 89 (x567.map eplan_Item)))], 1⟩) (by kernel_rfl)) (And.intro (.inr rfl) (And.intro rfl (And.intro (by kernel_rfl) (by kernel_rfl)))))
def f_slices_order2CmpFunc_plan_Item_plan_sorted_1_9ab.f (a0 : List Tplan_Item) (a1 : Int) (a2 : Int) (a3_c0 : Int) : Option (Int × Int × Int) := (at? a0 a2) >>= fun b586 => (at? a0 a1) >>= fun b589 => (f_plan_sorted_1.f b586 b589) >>= fun t592 => if (decide (t592 < (0 : Int))) = true then (some (a2, a1, IntKind.i64.wrap (a3_c0 + (1 : Int)))) else (some (a1, a2, a3_c0))
theorem f_slices_order2CmpFunc_plan_Item_plan_sorted_1_9ab.ok (a0 : List Tplan_Item) (a1 : Int) (a2 : Int) (a3_c0 : Int) (r : Int × Int × Int) (H : f_slices_order2CmpFunc_plan_Item_plan_sorted_1_9ab.f a0 a1 a2 a3_c0 = some r) : Pv.Fn Try.prog 135 [.own 0, iV .i64 a1, iV .i64 a2, .ptr 1 0 0, .im (.sc (.func (.func 50) #[] #[]))] [(0, some (.row 4 89 (a0.map eplan_Item))), (1, some (.box 3 [iV .i64 a3_c0]))] 2 (fun x o => x = .tup [iV .i64 r.1, iV .i64 r.2.1] ∧ o = [(0, some (.row 4 89 (a0.map eplan_Item))), (1, some (.box 3 [iV .i64 r.2.2]))]) := by
  unfold f_slices_order2CmpFunc_plan_Item_plan_sorted_1_9ab.f at H
  refine Fn.bodyK [0, 1] Try.func135 rfl rfl (fun Γ hP hn => ?_)
  have hm : Try.prog.follows .mixedOrders = true := by kernel_rfl
  replace hn : Γ.n = 32 := hn
  refine AWp.seq ?_
  refine reg hP hn hm [] [0, 1, 2, 3, 4] [0, 1] ⟨[(0, .own 0), (1, iV .i64 a1), (2, iV .i64 a2), (3, .ptr 1 0 0), (4, .im (.sc (.func (.func 50) #[] #[])))], [(0, some (.row 4 89 (a0.map eplan_Item))), (1, some (.box 3 [iV .i64 a3_c0]))], 2⟩ [] (by kernel_rfl) trivial ?_
  refine AWp.seq ?_
  refine AWp.seq ?_
  obtain ⟨b586, p587, q588, H⟩ := at_of H
  obtain ⟨b589, p590, q591, H⟩ := at_of H
  obtain ⟨t592, e593, H⟩ := bind_of H
  refine reg hP hn hm [(4, .c (eplan_Item b586)), (8, .c (eplan_Item b589)), (9, .call [] [] [] [] 0 (iV .i64 t592) [])] [1, 2, 3, 22] [0, 1] ⟨[(1, iV .i64 a1), (2, iV .i64 a2), (3, .ptr 1 0 0), (22, bV (decide (t592 < (0 : Int))))], [(0, some (.row 4 89 (a0.map eplan_Item))), (1, some (.box 3 [iV .i64 a3_c0]))], 2⟩ [0 ≤ a2, a2 < (((a0.map eplan_Item).length : Nat) : Int), (a0.map eplan_Item)[(Int.toNat (a2))]? = some (eplan_Item b586), 0 ≤ a1, a1 < (((a0.map eplan_Item).length : Nat) : Int), (a0.map eplan_Item)[(Int.toNat (a1))]? = some (eplan_Item b589), Enters Try.prog 50, Pv.Fn Try.prog 50 [.agg (apluvialref17_Item ⟨b586.f0, b586.f1.f0, b586.f1.f1, b586.f1.f2⟩), .agg (apluvialref17_Item ⟨b589.f0, b589.f1.f0, b589.f1.f1, b589.f1.f2⟩)] [] 0 (fun r o => r = iV .i64 t592 ∧ o = [])] (by kernel_rfl) ⟨by exact p587, by exact el_lt eplan_Item p587 q588, by exact el_map eplan_Item q588, by exact p590, by exact el_lt eplan_Item p590 q591, by exact el_map eplan_Item q591, by exact Try.call50, by exact f_plan_sorted_1.ok b586 b589 t592 e593, trivial⟩ ?_
  refine AWp.cond (decide (t592 < (0 : Int))) rfl (fun c594 => ?_) (fun c594 => ?_)
  · replace H := (ifT c594).symm.trans H
    refine AWp.seq ?_
    refine reg hP hn hm [] [1, 2] [0, 1] ⟨[(1, iV .i64 a1), (2, iV .i64 a2)], [(0, some (.row 4 89 (a0.map eplan_Item))), (1, some (.box 3 [iV .i64 (IntKind.i64.wrap (a3_c0 + (1 : Int)))]))], 2⟩ [] (by kernel_rfl) trivial ?_
    refine AWp.seq ?_
    refine reg hP hn hm [] [10, 11] [0, 1] ⟨[(10, iV .i64 a2), (11, iV .i64 a1)], [(0, some (.row 4 89 (a0.map eplan_Item))), (1, some (.box 3 [iV .i64 (IntKind.i64.wrap (a3_c0 + (1 : Int)))]))], 2⟩ [] (by kernel_rfl) trivial ?_
    refine AWp.conv (inv := [(0, 0), (1, 1)]) (vk := []) (e0 := []) (t := ⟨[(10, iV .i64 a2), (11, iV .i64 a1)], [(0, some (.row 4 89 (a0.map eplan_Item))), (1, some (.box 3 [iV .i64 (IntKind.i64.wrap (a3_c0 + (1 : Int)))]))], 2⟩) (by kernel_rfl) ?_
    refine AWp.ret ?_
    obtain rfl := Option.some.inj H
    exact Exists.intro _ (And.intro (fun _ _ h => h) (And.intro (.inl rfl) (And.intro rfl (And.intro (by kernel_rfl) (by kernel_rfl)))))
  · replace H := (ifF c594).symm.trans H
    refine AWp.skip ?_
    refine AWp.seq ?_
    refine reg hP hn hm [] [10, 11] [0, 1] ⟨[(10, iV .i64 a1), (11, iV .i64 a2)], [(0, some (.row 4 89 (a0.map eplan_Item))), (1, some (.box 3 [iV .i64 a3_c0]))], 2⟩ [] (by kernel_rfl) trivial ?_
    refine AWp.conv (inv := [(0, 0), (1, 1)]) (vk := []) (e0 := []) (t := ⟨[(10, iV .i64 a1), (11, iV .i64 a2)], [(0, some (.row 4 89 (a0.map eplan_Item))), (1, some (.box 3 [iV .i64 a3_c0]))], 2⟩) (by kernel_rfl) ?_
    refine AWp.ret ?_
    obtain rfl := Option.some.inj H
    exact Exists.intro _ (And.intro (fun _ _ h => h) (And.intro (.inl rfl) (And.intro rfl (And.intro (by kernel_rfl) (by kernel_rfl)))))
def f_slices_medianCmpFunc_plan_Item_plan_sorted_1_5f3.f (a0 : List Tplan_Item) (a1 : Int) (a2 : Int) (a3 : Int) (a4_c0 : Int) : Option (Int × Int) := (f_slices_order2CmpFunc_plan_Item_plan_sorted_1_9ab.f a0 a1 a2 a4_c0) >>= fun t597 => (f_slices_order2CmpFunc_plan_Item_plan_sorted_1_9ab.f a0 t597.2.1 a3 t597.2.2) >>= fun t601 => (f_slices_order2CmpFunc_plan_Item_plan_sorted_1_9ab.f a0 t597.1 t601.1 t601.2.2) >>= fun t605 => some (t605.2.1, t605.2.2)
theorem f_slices_medianCmpFunc_plan_Item_plan_sorted_1_5f3.ok (a0 : List Tplan_Item) (a1 : Int) (a2 : Int) (a3 : Int) (a4_c0 : Int) (r : Int × Int) (H : f_slices_medianCmpFunc_plan_Item_plan_sorted_1_5f3.f a0 a1 a2 a3 a4_c0 = some r) : Pv.Fn Try.prog 126 [.own 0, iV .i64 a1, iV .i64 a2, iV .i64 a3, .ptr 1 0 0, .im (.sc (.func (.func 50) #[] #[]))] [(0, some (.row 4 89 (a0.map eplan_Item))), (1, some (.box 3 [iV .i64 a4_c0]))] 2 (fun x o => x = iV .i64 r.1 ∧ o = [(0, some (.row 4 89 (a0.map eplan_Item))), (1, some (.box 3 [iV .i64 r.2]))]) := by
  unfold f_slices_medianCmpFunc_plan_Item_plan_sorted_1_5f3.f at H
  refine Fn.bodyK [0, 1] Try.func126 rfl rfl (fun Γ hP hn => ?_)
  have hm : Try.prog.follows .mixedOrders = true := by kernel_rfl
  replace hn : Γ.n = 41 := hn
  refine AWp.seq ?_
  refine reg hP hn hm [] [0, 1, 2, 3, 4, 5] [0, 1] ⟨[(0, .own 0), (1, iV .i64 a1), (2, iV .i64 a2), (3, iV .i64 a3), (4, .ptr 1 0 0), (5, .im (.sc (.func (.func 50) #[] #[])))], [(0, some (.row 4 89 (a0.map eplan_Item))), (1, some (.box 3 [iV .i64 a4_c0]))], 2⟩ [] (by kernel_rfl) trivial ?_
  refine AWp.seq ?_
  obtain ⟨t597, e598, H⟩ := bind_of H
  refine reg hP hn hm [(5, .call [(0, 0), (1, 1)] [(0, 0), (1, 1)] [] [] 2 (.tup [iV .i64 t597.1, iV .i64 t597.2.1]) [(0, some (.row 4 89 (a0.map eplan_Item))), (1, some (.box 3 [iV .i64 t597.2.2]))])] [0, 1, 2, 3, 4, 5] [0, 1] ⟨[(0, .own 0), (1, iV .i64 t597.1), (2, iV .i64 t597.2.1), (3, iV .i64 a3), (4, .ptr 1 0 0), (5, .im (.sc (.func (.func 50) #[] #[])))], [(0, some (.row 4 89 (a0.map eplan_Item))), (1, some (.box 3 [iV .i64 t597.2.2]))], 2⟩ [Enters Try.prog 135, Pv.Fn Try.prog 135 [.own 0, iV .i64 a1, iV .i64 a2, .ptr 1 0 0, .im (.sc (.func (.func 50) #[] #[]))] [(0, some (.row 4 89 (a0.map eplan_Item))), (1, some (.box 3 [iV .i64 a4_c0]))] 2 (fun r o => r = .tup [iV .i64 t597.1, iV .i64 t597.2.1] ∧ o = [(0, some (.row 4 89 (a0.map eplan_Item))), (1, some (.box 3 [iV .i64 t597.2.2]))])] (by kernel_rfl) ⟨by exact Try.call135, by exact f_slices_order2CmpFunc_plan_Item_plan_sorted_1_9ab.ok a0 a1 a2 a4_c0 t597 e598, trivial⟩ ?_
  refine AWp.seq ?_
  obtain ⟨t601, e602, H⟩ := bind_of H
  refine reg hP hn hm [(5, .call [(0, 0), (1, 1)] [(0, 0), (1, 1)] [] [] 2 (.tup [iV .i64 t601.1, iV .i64 t601.2.1]) [(0, some (.row 4 89 (a0.map eplan_Item))), (1, some (.box 3 [iV .i64 t601.2.2]))])] [0, 1, 2, 4, 5] [0, 1] ⟨[(0, .own 0), (1, iV .i64 t597.1), (2, iV .i64 t601.1), (4, .ptr 1 0 0), (5, .im (.sc (.func (.func 50) #[] #[])))], [(0, some (.row 4 89 (a0.map eplan_Item))), (1, some (.box 3 [iV .i64 t601.2.2]))], 2⟩ [Enters Try.prog 135, Pv.Fn Try.prog 135 [.own 0, iV .i64 t597.2.1, iV .i64 a3, .ptr 1 0 0, .im (.sc (.func (.func 50) #[] #[]))] [(0, some (.row 4 89 (a0.map eplan_Item))), (1, some (.box 3 [iV .i64 t597.2.2]))] 2 (fun r o => r = .tup [iV .i64 t601.1, iV .i64 t601.2.1] ∧ o = [(0, some (.row 4 89 (a0.map eplan_Item))), (1, some (.box 3 [iV .i64 t601.2.2]))])] (by kernel_rfl) ⟨by exact Try.call135, by exact f_slices_order2CmpFunc_plan_Item_plan_sorted_1_9ab.ok a0 t597.2.1 a3 t597.2.2 t601 e602, trivial⟩ ?_
  refine AWp.seq ?_
  obtain ⟨t605, e606, H⟩ := bind_of H
  refine reg hP hn hm [(5, .call [(0, 0), (1, 1)] [(0, 0), (1, 1)] [] [] 2 (.tup [iV .i64 t605.1, iV .i64 t605.2.1]) [(0, some (.row 4 89 (a0.map eplan_Item))), (1, some (.box 3 [iV .i64 t605.2.2]))])] [2] [0, 1] ⟨[(2, iV .i64 t605.2.1)], [(0, some (.row 4 89 (a0.map eplan_Item))), (1, some (.box 3 [iV .i64 t605.2.2]))], 2⟩ [Enters Try.prog 135, Pv.Fn Try.prog 135 [.own 0, iV .i64 t597.1, iV .i64 t601.1, .ptr 1 0 0, .im (.sc (.func (.func 50) #[] #[]))] [(0, some (.row 4 89 (a0.map eplan_Item))), (1, some (.box 3 [iV .i64 t601.2.2]))] 2 (fun r o => r = .tup [iV .i64 t605.1, iV .i64 t605.2.1] ∧ o = [(0, some (.row 4 89 (a0.map eplan_Item))), (1, some (.box 3 [iV .i64 t605.2.2]))])] (by kernel_rfl) ⟨by exact Try.call135, by exact f_slices_order2CmpFunc_plan_Item_plan_sorted_1_9ab.ok a0 t597.1 t601.1 t601.2.2 t605 e606, trivial⟩ ?_
  refine AWp.seq ?_
  refine reg hP hn hm [] [12] [0, 1] ⟨[(12, iV .i64 t605.2.1)], [(0, some (.row 4 89 (a0.map eplan_Item))), (1, some (.box 3 [iV .i64 t605.2.2]))], 2⟩ [] (by kernel_rfl) trivial ?_
  refine AWp.conv (inv := [(0, 0), (1, 1)]) (vk := []) (e0 := []) (t := ⟨[(12, iV .i64 t605.2.1)], [(0, some (.row 4 89 (a0.map eplan_Item))), (1, some (.box 3 [iV .i64 t605.2.2]))], 2⟩) (by kernel_rfl) ?_
  refine AWp.ret ?_
  obtain rfl := Option.some.inj H
  exact Exists.intro _ (And.intro (fun _ _ h => h) (And.intro (.inl rfl) (And.intro rfl (And.intro (by kernel_rfl) (by kernel_rfl)))))
def f_slices_medianAdjacentCmpFunc_plan_Item_plan_sorted_1_7cb.f (a0 : List Tplan_Item) (a1 : Int) (a2_c0 : Int) : Option (Int × Int) := (f_slices_medianCmpFunc_plan_Item_plan_sorted_1_5f3.f a0 (IntKind.i64.wrap (a1 - (1 : Int))) a1 (IntKind.i64.wrap (a1 + (1 : Int))) a2_c0) >>= fun t609 => some (t609.1, t609.2)
theorem f_slices_medianAdjacentCmpFunc_plan_Item_plan_sorted_1_7cb.ok (a0 : List Tplan_Item) (a1 : Int) (a2_c0 : Int) (r : Int × Int) (H : f_slices_medianAdjacentCmpFunc_plan_Item_plan_sorted_1_7cb.f a0 a1 a2_c0 = some r) : Pv.Fn Try.prog 125 [.own 0, iV .i64 a1, .ptr 1 0 0, .im (.sc (.func (.func 50) #[] #[]))] [(0, some (.row 4 89 (a0.map eplan_Item))), (1, some (.box 3 [iV .i64 a2_c0]))] 2 (fun x o => x = iV .i64 r.1 ∧ o = [(0, some (.row 4 89 (a0.map eplan_Item))), (1, some (.box 3 [iV .i64 r.2]))]) := by
  unfold f_slices_medianAdjacentCmpFunc_plan_Item_plan_sorted_1_7cb.f at H
  refine Fn.bodyK [0, 1] Try.func125 rfl rfl (fun Γ hP hn => ?_)
  have hm : Try.prog.follows .mixedOrders = true := by kernel_rfl
  replace hn : Γ.n = 18 := hn
  refine AWp.seq ?_
  refine reg hP hn hm [] [0, 1, 2, 3] [0, 1] ⟨[(0, .own 0), (1, iV .i64 a1), (2, .ptr 1 0 0), (3, .im (.sc (.func (.func 50) #[] #[])))], [(0, some (.row 4 89 (a0.map eplan_Item))), (1, some (.box 3 [iV .i64 a2_c0]))], 2⟩ [] (by kernel_rfl) trivial ?_
  refine AWp.seq ?_
  obtain ⟨t609, e610, H⟩ := bind_of H
  refine reg hP hn hm [(8, .call [(0, 0), (1, 1)] [(0, 0), (1, 1)] [] [] 2 (iV .i64 t609.1) [(0, some (.row 4 89 (a0.map eplan_Item))), (1, some (.box 3 [iV .i64 t609.2]))])] [8] [0, 1] ⟨[(8, iV .i64 t609.1)], [(0, some (.row 4 89 (a0.map eplan_Item))), (1, some (.box 3 [iV .i64 t609.2]))], 2⟩ [Enters Try.prog 126, Pv.Fn Try.prog 126 [.own 0, iV .i64 (IntKind.i64.wrap (a1 - (1 : Int))), iV .i64 a1, iV .i64 (IntKind.i64.wrap (a1 + (1 : Int))), .ptr 1 0 0, .im (.sc (.func (.func 50) #[] #[]))] [(0, some (.row 4 89 (a0.map eplan_Item))), (1, some (.box 3 [iV .i64 a2_c0]))] 2 (fun r o => r = iV .i64 t609.1 ∧ o = [(0, some (.row 4 89 (a0.map eplan_Item))), (1, some (.box 3 [iV .i64 t609.2]))])] (by kernel_rfl) ⟨by exact Try.call126, by exact f_slices_medianCmpFunc_plan_Item_plan_sorted_1_5f3.ok a0 (IntKind.i64.wrap (a1 - (1 : Int))) a1 (IntKind.i64.wrap (a1 + (1 : Int))) a2_c0 t609 e610, trivial⟩ ?_
  refine AWp.conv (inv := [(0, 0), (1, 1)]) (vk := []) (e0 := []) (t := ⟨[(8, iV .i64 t609.1)], [(0, some (.row 4 89 (a0.map eplan_Item))), (1, some (.box 3 [iV .i64 t609.2]))], 2⟩) (by kernel_rfl) ?_
  refine AWp.ret ?_
  obtain rfl := Option.some.inj H
  exact Exists.intro _ (And.intro (fun _ _ h => h) (And.intro (.inl rfl) (And.intro rfl (And.intro (by kernel_rfl) (by kernel_rfl)))))
def f_slices_choosePivotCmpFunc_plan_Item_plan_sorted_1.f (a0 : List Tplan_Item) (a1 : Int) (a2 : Int) : Option (Int × Int) := ((if (decide ((IntKind.i64.wrap (a2 - a1)) ≥ (8 : Int))) = true then (((if (decide ((IntKind.i64.wrap (a2 - a1)) ≥ (50 : Int))) = true then ((f_slices_medianAdjacentCmpFunc_plan_Item_plan_sorted_1_7cb.f a0 (IntKind.i64.wrap (a1 + (IntKind.i64.wrap ((IntKind.i64.wrap (Int.tdiv (IntKind.i64.wrap (a2 - a1)) (4 : Int))) * (1 : Int))))) 0) >>= fun t613 => (f_slices_medianAdjacentCmpFunc_plan_Item_plan_sorted_1_7cb.f a0 (IntKind.i64.wrap (a1 + (IntKind.i64.wrap ((IntKind.i64.wrap (Int.tdiv (IntKind.i64.wrap (a2 - a1)) (4 : Int))) * (2 : Int))))) t613.2) >>= fun t617 => (f_slices_medianAdjacentCmpFunc_plan_Item_plan_sorted_1_7cb.f a0 (IntKind.i64.wrap (a1 + (IntKind.i64.wrap ((IntKind.i64.wrap (Int.tdiv (IntKind.i64.wrap (a2 - a1)) (4 : Int))) * (3 : Int))))) t617.2) >>= fun t621 => some (t621.2, t613.1, t617.1, t621.1)) else (some (0, IntKind.i64.wrap (a1 + (IntKind.i64.wrap ((IntKind.i64.wrap (Int.tdiv (IntKind.i64.wrap (a2 - a1)) (4 : Int))) * (1 : Int)))), IntKind.i64.wrap (a1 + (IntKind.i64.wrap ((IntKind.i64.wrap (Int.tdiv (IntKind.i64.wrap (a2 - a1)) (4 : Int))) * (2 : Int)))), IntKind.i64.wrap (a1 + (IntKind.i64.wrap ((IntKind.i64.wrap (Int.tdiv (IntKind.i64.wrap (a2 - a1)) (4 : Int))) * (3 : Int))))))) : Option (Int × Int × Int × Int)) >>= fun oo => match oo with | (x623, x624, x625, x626) => ((f_slices_medianCmpFunc_plan_Item_plan_sorted_1_5f3.f a0 x624 x625 x626 x623) >>= fun t629 => some (t629.2, t629.1))) else (some (0, IntKind.i64.wrap (a1 + (IntKind.i64.wrap ((IntKind.i64.wrap (Int.tdiv (IntKind.i64.wrap (a2 - a1)) (4 : Int))) * (2 : Int))))))) : Option (Int × Int)) >>= fun oo => match oo with | (x631, x632) => (if (x631 == (0 : Int)) = true then (some (x632, 1)) else (if (x631 == (12 : Int)) = true then (some (x632, 2)) else (some (x632, 0))))
theorem f_slices_choosePivotCmpFunc_plan_Item_plan_sorted_1.ok (a0 : List Tplan_Item) (a1 : Int) (a2 : Int) (r : Int × Int) (H : f_slices_choosePivotCmpFunc_plan_Item_plan_sorted_1.f a0 a1 a2 = some r) : Pv.Fn Try.prog 107 [.own 0, iV .i64 a1, iV .i64 a2, .im (.sc (.func (.func 50) #[] #[]))] [(0, some (.row 4 89 (a0.map eplan_Item)))] 1 (fun x o => x = .tup [iV .i64 r.1, iV .i64 r.2] ∧ o = [(0, some (.row 4 89 (a0.map eplan_Item)))]) := by
  unfold f_slices_choosePivotCmpFunc_plan_Item_plan_sorted_1.f at H
  refine Fn.bodyK [0] Try.func107 rfl rfl (fun Γ hP hn => ?_)
  have hm : Try.prog.follows .mixedOrders = true := by kernel_rfl
  replace hn : Γ.n = 63 := hn
  refine AWp.seq ?_
  refine reg hP hn hm [] [0, 1, 2, 3] [0] ⟨[(0, .own 0), (1, iV .i64 a1), (2, iV .i64 a2), (3, .im (.sc (.func (.func 50) #[] #[])))], [(0, some (.row 4 89 (a0.map eplan_Item)))], 1⟩ [] (by kernel_rfl) trivial ?_
  refine AWp.seq ?_
  refine reg hP hn hm [] [0, 1, 3, 10] [0] ⟨[(0, .own 0), (1, iV .i64 a1), (3, .im (.sc (.func (.func 50) #[] #[]))), (10, iV .i64 (IntKind.i64.wrap (a2 - a1)))], [(0, some (.row 4 89 (a0.map eplan_Item)))], 1⟩ [] (by kernel_rfl) trivial ?_
  refine AWp.seq ?_
  refine reg hP hn hm [(0, .k 1)] [0, 1, 3, 10, 11] [0, 1] ⟨[(0, .own 0), (1, iV .i64 a1), (3, .im (.sc (.func (.func 50) #[] #[]))), (10, iV .i64 (IntKind.i64.wrap (a2 - a1))), (11, .ptr 1 0 0)], [(0, some (.row 4 89 (a0.map eplan_Item))), (1, some (.box 3 [iV .i64 0]))], 1⟩ [] (by kernel_rfl) trivial ?_
  refine AWp.seq ?_
  refine reg hP hn hm [] [0, 1, 3, 10, 11, 12] [0, 1] ⟨[(0, .own 0), (1, iV .i64 a1), (3, .im (.sc (.func (.func 50) #[] #[]))), (10, iV .i64 (IntKind.i64.wrap (a2 - a1))), (11, .ptr 1 0 0), (12, iV .i64 (IntKind.i64.wrap (a1 + (IntKind.i64.wrap ((IntKind.i64.wrap (Int.tdiv (IntKind.i64.wrap (a2 - a1)) (4 : Int))) * (1 : Int))))))], [(0, some (.row 4 89 (a0.map eplan_Item))), (1, some (.box 3 [iV .i64 0]))], 1⟩ [(4 : Int) ≠ 0] (by kernel_rfl) ⟨by decide, trivial⟩ ?_
  refine AWp.seq ?_
  refine reg hP hn hm [] [0, 1, 3, 10, 11, 12, 13] [0, 1] ⟨[(0, .own 0), (1, iV .i64 a1), (3, .im (.sc (.func (.func 50) #[] #[]))), (10, iV .i64 (IntKind.i64.wrap (a2 - a1))), (11, .ptr 1 0 0), (12, iV .i64 (IntKind.i64.wrap (a1 + (IntKind.i64.wrap ((IntKind.i64.wrap (Int.tdiv (IntKind.i64.wrap (a2 - a1)) (4 : Int))) * (1 : Int)))))), (13, iV .i64 (IntKind.i64.wrap (a1 + (IntKind.i64.wrap ((IntKind.i64.wrap (Int.tdiv (IntKind.i64.wrap (a2 - a1)) (4 : Int))) * (2 : Int))))))], [(0, some (.row 4 89 (a0.map eplan_Item))), (1, some (.box 3 [iV .i64 0]))], 1⟩ [(4 : Int) ≠ 0] (by kernel_rfl) ⟨by decide, trivial⟩ ?_
  refine AWp.seq ?_
  refine reg hP hn hm [] [0, 3, 10, 11, 12, 13, 14] [0, 1] ⟨[(0, .own 0), (3, .im (.sc (.func (.func 50) #[] #[]))), (10, iV .i64 (IntKind.i64.wrap (a2 - a1))), (11, .ptr 1 0 0), (12, iV .i64 (IntKind.i64.wrap (a1 + (IntKind.i64.wrap ((IntKind.i64.wrap (Int.tdiv (IntKind.i64.wrap (a2 - a1)) (4 : Int))) * (1 : Int)))))), (13, iV .i64 (IntKind.i64.wrap (a1 + (IntKind.i64.wrap ((IntKind.i64.wrap (Int.tdiv (IntKind.i64.wrap (a2 - a1)) (4 : Int))) * (2 : Int)))))), (14, iV .i64 (IntKind.i64.wrap (a1 + (IntKind.i64.wrap ((IntKind.i64.wrap (Int.tdiv (IntKind.i64.wrap (a2 - a1)) (4 : Int))) * (3 : Int))))))], [(0, some (.row 4 89 (a0.map eplan_Item))), (1, some (.box 3 [iV .i64 0]))], 1⟩ [(4 : Int) ≠ 0] (by kernel_rfl) ⟨by decide, trivial⟩ ?_
  refine AWp.seq ?_
  refine AWp.seq ?_
  refine reg hP hn hm [] [0, 3, 10, 11, 12, 13, 14, 34] [0, 1] ⟨[(0, .own 0), (3, .im (.sc (.func (.func 50) #[] #[]))), (10, iV .i64 (IntKind.i64.wrap (a2 - a1))), (11, .ptr 1 0 0), (12, iV .i64 (IntKind.i64.wrap (a1 + (IntKind.i64.wrap ((IntKind.i64.wrap (Int.tdiv (IntKind.i64.wrap (a2 - a1)) (4 : Int))) * (1 : Int)))))), (13, iV .i64 (IntKind.i64.wrap (a1 + (IntKind.i64.wrap ((IntKind.i64.wrap (Int.tdiv (IntKind.i64.wrap (a2 - a1)) (4 : Int))) * (2 : Int)))))), (14, iV .i64 (IntKind.i64.wrap (a1 + (IntKind.i64.wrap ((IntKind.i64.wrap (Int.tdiv (IntKind.i64.wrap (a2 - a1)) (4 : Int))) * (3 : Int)))))), (34, bV (decide ((IntKind.i64.wrap (a2 - a1)) ≥ (8 : Int))))], [(0, some (.row 4 89 (a0.map eplan_Item))), (1, some (.box 3 [iV .i64 0]))], 1⟩ [] (by kernel_rfl) trivial ?_
  obtain ⟨o635, e636, H⟩ := bind_of H
  refine AWp.mono (Q := fun e s => (match (generalizing := false) o635 with | (x631, x632) => e = .normal ∧ s = ⟨[(11, .ptr 3 0 0), (13, iV .i64 x632)], [(0, some (.row 4 89 (a0.map eplan_Item))), (3, some (.box 3 [iV .i64 x631]))], 1⟩)) (AWp.cv ?_) ?_
  · replace H := e636; clear e636
    refine AWp.cond (decide ((IntKind.i64.wrap (a2 - a1)) ≥ (8 : Int))) rfl (fun c576 => ?_) (fun c576 => ?_)
    · replace H := (ifT c576).symm.trans H
      refine AWp.seq ?_
      refine AWp.seq ?_
      refine reg hP hn hm [] [0, 3, 11, 12, 13, 14, 36] [0, 1] ⟨[(0, .own 0), (3, .im (.sc (.func (.func 50) #[] #[]))), (11, .ptr 1 0 0), (12, iV .i64 (IntKind.i64.wrap (a1 + (IntKind.i64.wrap ((IntKind.i64.wrap (Int.tdiv (IntKind.i64.wrap (a2 - a1)) (4 : Int))) * (1 : Int)))))), (13, iV .i64 (IntKind.i64.wrap (a1 + (IntKind.i64.wrap ((IntKind.i64.wrap (Int.tdiv (IntKind.i64.wrap (a2 - a1)) (4 : Int))) * (2 : Int)))))), (14, iV .i64 (IntKind.i64.wrap (a1 + (IntKind.i64.wrap ((IntKind.i64.wrap (Int.tdiv (IntKind.i64.wrap (a2 - a1)) (4 : Int))) * (3 : Int)))))), (36, bV (decide ((IntKind.i64.wrap (a2 - a1)) ≥ (50 : Int))))], [(0, some (.row 4 89 (a0.map eplan_Item))), (1, some (.box 3 [iV .i64 0]))], 1⟩ [] (by kernel_rfl) trivial ?_
      obtain ⟨o637, e638, H⟩ := bind_of H
      refine AWp.mono (Q := fun e s => (match (generalizing := false) o637 with | (x623, x624, x625, x626) => e = .normal ∧ s = ⟨[(0, .own 0), (3, .im (.sc (.func (.func 50) #[] #[]))), (11, .ptr 2 0 0), (12, iV .i64 x624), (13, iV .i64 x625), (14, iV .i64 x626)], [(0, some (.row 4 89 (a0.map eplan_Item))), (2, some (.box 3 [iV .i64 x623]))], 1⟩)) (AWp.cv ?_) ?_
      · replace H := e638; clear e638
        refine AWp.cond (decide ((IntKind.i64.wrap (a2 - a1)) ≥ (50 : Int))) rfl (fun c577 => ?_) (fun c577 => ?_)
        · replace H := (ifT c577).symm.trans H
          refine AWp.seq ?_
          obtain ⟨t613, e614, H⟩ := bind_of H
          refine reg hP hn hm [(3, .call [(0, 0), (1, 1)] [(0, 0), (1, 1)] [] [] 2 (iV .i64 t613.1) [(0, some (.row 4 89 (a0.map eplan_Item))), (1, some (.box 3 [iV .i64 t613.2]))])] [0, 3, 11, 12, 13, 14] [0, 1] ⟨[(0, .own 0), (3, .im (.sc (.func (.func 50) #[] #[]))), (11, .ptr 1 0 0), (12, iV .i64 t613.1), (13, iV .i64 (IntKind.i64.wrap (a1 + (IntKind.i64.wrap ((IntKind.i64.wrap (Int.tdiv (IntKind.i64.wrap (a2 - a1)) (4 : Int))) * (2 : Int)))))), (14, iV .i64 (IntKind.i64.wrap (a1 + (IntKind.i64.wrap ((IntKind.i64.wrap (Int.tdiv (IntKind.i64.wrap (a2 - a1)) (4 : Int))) * (3 : Int))))))], [(0, some (.row 4 89 (a0.map eplan_Item))), (1, some (.box 3 [iV .i64 t613.2]))], 1⟩ [Enters Try.prog 125, Pv.Fn Try.prog 125 [.own 0, iV .i64 (IntKind.i64.wrap (a1 + (IntKind.i64.wrap ((IntKind.i64.wrap (Int.tdiv (IntKind.i64.wrap (a2 - a1)) (4 : Int))) * (1 : Int))))), .ptr 1 0 0, .im (.sc (.func (.func 50) #[] #[]))] [(0, some (.row 4 89 (a0.map eplan_Item))), (1, some (.box 3 [iV .i64 0]))] 2 (fun r o => r = iV .i64 t613.1 ∧ o = [(0, some (.row 4 89 (a0.map eplan_Item))), (1, some (.box 3 [iV .i64 t613.2]))])] (by kernel_rfl) ⟨by exact Try.call125, by exact f_slices_medianAdjacentCmpFunc_plan_Item_plan_sorted_1_7cb.ok a0 (IntKind.i64.wrap (a1 + (IntKind.i64.wrap ((IntKind.i64.wrap (Int.tdiv (IntKind.i64.wrap (a2 - a1)) (4 : Int))) * (1 : Int))))) 0 t613 e614, trivial⟩ ?_
          refine AWp.seq ?_
          obtain ⟨t617, e618, H⟩ := bind_of H
          refine reg hP hn hm [(3, .call [(0, 0), (1, 1)] [(0, 0), (1, 1)] [] [] 2 (iV .i64 t617.1) [(0, some (.row 4 89 (a0.map eplan_Item))), (1, some (.box 3 [iV .i64 t617.2]))])] [0, 3, 11, 12, 13, 14] [0, 1] ⟨[(0, .own 0), (3, .im (.sc (.func (.func 50) #[] #[]))), (11, .ptr 1 0 0), (12, iV .i64 t613.1), (13, iV .i64 t617.1), (14, iV .i64 (IntKind.i64.wrap (a1 + (IntKind.i64.wrap ((IntKind.i64.wrap (Int.tdiv (IntKind.i64.wrap (a2 - a1)) (4 : Int))) * (3 : Int))))))], [(0, some (.row 4 89 (a0.map eplan_Item))), (1, some (.box 3 [iV .i64 t617.2]))], 1⟩ [Enters Try.prog 125, Pv.Fn Try.prog 125 [.own 0, iV .i64 (IntKind.i64.wrap (a1 + (IntKind.i64.wrap ((IntKind.i64.wrap (Int.tdiv (IntKind.i64.wrap (a2 - a1)) (4 : Int))) * (2 : Int))))), .ptr 1 0 0, .im (.sc (.func (.func 50) #[] #[]))] [(0, some (.row 4 89 (a0.map eplan_Item))), (1, some (.box 3 [iV .i64 t613.2]))] 2 (fun r o => r = iV .i64 t617.1 ∧ o = [(0, some (.row 4 89 (a0.map eplan_Item))), (1, some (.box 3 [iV .i64 t617.2]))])] (by kernel_rfl) ⟨by exact Try.call125, by exact f_slices_medianAdjacentCmpFunc_plan_Item_plan_sorted_1_7cb.ok a0 (IntKind.i64.wrap (a1 + (IntKind.i64.wrap ((IntKind.i64.wrap (Int.tdiv (IntKind.i64.wrap (a2 - a1)) (4 : Int))) * (2 : Int))))) t613.2 t617 e618, trivial⟩ ?_
          obtain ⟨t621, e622, H⟩ := bind_of H
          refine reg hP hn hm [(3, .call [(0, 0), (1, 1)] [(0, 0), (1, 1)] [] [] 2 (iV .i64 t621.1) [(0, some (.row 4 89 (a0.map eplan_Item))), (1, some (.box 3 [iV .i64 t621.2]))])] [0, 3, 11, 12, 13, 14] [0, 1] ⟨[(0, .own 0), (3, .im (.sc (.func (.func 50) #[] #[]))), (11, .ptr 1 0 0), (12, iV .i64 t613.1), (13, iV .i64 t617.1), (14, iV .i64 t621.1)], [(0, some (.row 4 89 (a0.map eplan_Item))), (1, some (.box 3 [iV .i64 t621.2]))], 1⟩ [Enters Try.prog 125, Pv.Fn Try.prog 125 [.own 0, iV .i64 (IntKind.i64.wrap (a1 + (IntKind.i64.wrap ((IntKind.i64.wrap (Int.tdiv (IntKind.i64.wrap (a2 - a1)) (4 : Int))) * (3 : Int))))), .ptr 1 0 0, .im (.sc (.func (.func 50) #[] #[]))] [(0, some (.row 4 89 (a0.map eplan_Item))), (1, some (.box 3 [iV .i64 t617.2]))] 2 (fun r o => r = iV .i64 t621.1 ∧ o = [(0, some (.row 4 89 (a0.map eplan_Item))), (1, some (.box 3 [iV .i64 t621.2]))])] (by kernel_rfl) ⟨by exact Try.call125, by exact f_slices_medianAdjacentCmpFunc_plan_Item_plan_sorted_1_7cb.ok a0 (IntKind.i64.wrap (a1 + (IntKind.i64.wrap ((IntKind.i64.wrap (Int.tdiv (IntKind.i64.wrap (a2 - a1)) (4 : Int))) * (3 : Int))))) t617.2 t621 e622, trivial⟩ ?_
          obtain rfl := Option.some.inj H
          exact Exists.intro _ (And.intro (fun _ _ h => h.conv (inv := [(0, 0), (1, 2)]) (vk := []) (e0 := []) (t := ⟨[(0, .own 0), (3, .im (.sc (.func (.func 50) #[] #[]))), (11, .ptr 2 0 0), (12, iV .i64 t613.1), (13, iV .i64 t617.1), (14, iV .i64 t621.1)], [(0, some (.row 4 89 (a0.map eplan_Item))), (2, some (.box 3 [iV .i64 t621.2]))], 1⟩) (by kernel_rfl)) (And.intro rfl rfl))
        · replace H := (ifF c577).symm.trans H
          refine AWp.skip ?_
          obtain rfl := Option.some.inj H
          exact Exists.intro _ (And.intro (fun _ _ h => h.conv (inv := [(0, 0), (1, 2)]) (vk := []) (e0 := []) (t := ⟨[(0, .own 0), (3, .im (.sc (.func (.func 50) #[] #[]))), (11, .ptr 2 0 0), (12, iV .i64 (IntKind.i64.wrap (a1 + (IntKind.i64.wrap ((IntKind.i64.wrap (Int.tdiv (IntKind.i64.wrap (a2 - a1)) (4 : Int))) * (1 : Int)))))), (13, iV .i64 (IntKind.i64.wrap (a1 + (IntKind.i64.wrap ((IntKind.i64.wrap (Int.tdiv (IntKind.i64.wrap (a2 - a1)) (4 : Int))) * (2 : Int)))))), (14, iV .i64 (IntKind.i64.wrap (a1 + (IntKind.i64.wrap ((IntKind.i64.wrap (Int.tdiv (IntKind.i64.wrap (a2 - a1)) (4 : Int))) * (3 : Int))))))], [(0, some (.row 4 89 (a0.map eplan_Item))), (2, some (.box 3 [iV .i64 0]))], 1⟩) (by kernel_rfl)) (And.intro rfl rfl))
      · obtain ⟨x623, x624, x625, x626⟩ := o637
        rintro e s ⟨rfl, rfl⟩
        obtain ⟨t629, e630, H⟩ := bind_of H
        refine reg hP hn hm [(5, .call [(0, 0), (2, 1)] [(0, 0), (1, 2)] [] [] 2 (iV .i64 t629.1) [(0, some (.row 4 89 (a0.map eplan_Item))), (1, some (.box 3 [iV .i64 t629.2]))])] [11, 13] [0, 2] ⟨[(11, .ptr 2 0 0), (13, iV .i64 t629.1)], [(0, some (.row 4 89 (a0.map eplan_Item))), (2, some (.box 3 [iV .i64 t629.2]))], 1⟩ [Enters Try.prog 126, Pv.Fn Try.prog 126 [.own 0, iV .i64 x624, iV .i64 x625, iV .i64 x626, .ptr 1 0 0, .im (.sc (.func (.func 50) #[] #[]))] [(0, some (.row 4 89 (a0.map eplan_Item))), (1, some (.box 3 [iV .i64 x623]))] 2 (fun r o => r = iV .i64 t629.1 ∧ o = [(0, some (.row 4 89 (a0.map eplan_Item))), (1, some (.box 3 [iV .i64 t629.2]))])] (by kernel_rfl) ⟨by exact Try.call126, by exact f_slices_medianCmpFunc_plan_Item_plan_sorted_1_5f3.ok a0 x624 x625 x626 x623 t629 e630, trivial⟩ ?_
        obtain rfl := Option.some.inj H
        exact Exists.intro _ (And.intro (fun _ _ h => h.conv (inv := [(2, 3), (0, 0)]) (vk := []) (e0 := []) (t := ⟨[(11, .ptr 3 0 0), (13, iV .i64 t629.1)], [(0, some (.row 4 89 (a0.map eplan_Item))), (3, some (.box 3 [iV .i64 t629.2]))], 1⟩) (by kernel_rfl)) (And.intro rfl rfl))
    · replace H := (ifF c576).symm.trans H
      refine AWp.skip ?_
      obtain rfl := Option.some.inj H
      exact Exists.intro _ (And.intro (fun _ _ h => h.conv (inv := [(1, 3), (0, 0)]) (vk := []) (e0 := []) (t := ⟨[(11, .ptr 3 0 0), (13, iV .i64 (IntKind.i64.wrap (a1 + (IntKind.i64.wrap ((IntKind.i64.wrap (Int.tdiv (IntKind.i64.wrap (a2 - a1)) (4 : Int))) * (2 : Int))))))], [(0, some (.row 4 89 (a0.map eplan_Item))), (3, some (.box 3 [iV .i64 0]))], 1⟩) (by kernel_rfl)) (And.intro rfl rfl))
  · obtain ⟨x631, x632⟩ := o635
    rintro e s ⟨rfl, rfl⟩
    refine AWp.seq ?_
    refine reg hP hn hm [] [13, 55] [0] ⟨[(13, iV .i64 x632), (55, iV .i64 x631)], [(0, some (.row 4 89 (a0.map eplan_Item)))], 1⟩ [] (by kernel_rfl) trivial ?_
    refine AWp.block ?_
    refine AWp.seq ?_
    refine reg hP hn hm [] [13, 55, 57] [0] ⟨[(13, iV .i64 x632), (55, iV .i64 x631), (57, bV (x631 == (0 : Int)))], [(0, some (.row 4 89 (a0.map eplan_Item)))], 1⟩ [] (by kernel_rfl) trivial ?_
    refine AWp.cond (x631 == (0 : Int)) rfl (fun c633 => ?_) (fun c633 => ?_)
    · replace H := (ifT c633).symm.trans H
      refine AWp.seq ?_
      refine reg hP hn hm [] [8, 9] [0] ⟨[(8, iV .i64 x632), (9, iV .i64 1)], [(0, some (.row 4 89 (a0.map eplan_Item)))], 1⟩ [] (by kernel_rfl) trivial ?_
      refine AWp.conv (inv := [(0, 0)]) (vk := []) (e0 := []) (t := ⟨[(8, iV .i64 x632), (9, iV .i64 1)], [(0, some (.row 4 89 (a0.map eplan_Item)))], 1⟩) (by kernel_rfl) ?_
      refine AWp.ret ?_
      obtain rfl := Option.some.inj H
      exact Exists.intro _ (And.intro (fun _ _ h => h) (And.intro (.inl rfl) (And.intro rfl (And.intro (by kernel_rfl) (by kernel_rfl)))))
    · replace H := (ifF c633).symm.trans H
      refine AWp.seq ?_
      refine reg hP hn hm [] [13, 60] [0] ⟨[(13, iV .i64 x632), (60, bV (x631 == (12 : Int)))], [(0, some (.row 4 89 (a0.map eplan_Item)))], 1⟩ [] (by kernel_rfl) trivial ?_
      refine AWp.cond (x631 == (12 : Int)) rfl (fun c634 => ?_) (fun c634 => ?_)
      · replace H := (ifT c634).symm.trans H
        refine AWp.seq ?_
        refine reg hP hn hm [] [8, 9] [0] ⟨[(8, iV .i64 x632), (9, iV .i64 2)], [(0, some (.row 4 89 (a0.map eplan_Item)))], 1⟩ [] (by kernel_rfl) trivial ?_
        refine AWp.conv (inv := [(0, 0)]) (vk := []) (e0 := []) (t := ⟨[(8, iV .i64 x632), (9, iV .i64 2)], [(0, some (.row 4 89 (a0.map eplan_Item)))], 1⟩) (by kernel_rfl) ?_
        refine AWp.ret ?_
        obtain rfl := Option.some.inj H
        exact Exists.intro _ (And.intro (fun _ _ h => h) (And.intro (.inl rfl) (And.intro rfl (And.intro (by kernel_rfl) (by kernel_rfl)))))
      · replace H := (ifF c634).symm.trans H
        refine AWp.seq ?_
        refine reg hP hn hm [] [8, 9] [0] ⟨[(8, iV .i64 x632), (9, iV .i64 0)], [(0, some (.row 4 89 (a0.map eplan_Item)))], 1⟩ [] (by kernel_rfl) trivial ?_
        refine AWp.conv (inv := [(0, 0)]) (vk := []) (e0 := []) (t := ⟨[(8, iV .i64 x632), (9, iV .i64 0)], [(0, some (.row 4 89 (a0.map eplan_Item)))], 1⟩) (by kernel_rfl) ?_
        refine AWp.ret ?_
        obtain rfl := Option.some.inj H
        exact Exists.intro _ (And.intro (fun _ _ h => h) (And.intro (.inl rfl) (And.intro rfl (And.intro (by kernel_rfl) (by kernel_rfl)))))
def f_slices_reverseRangeCmpFunc_plan_Item_plan_sorted_1.l0 (x663 : List Tplan_Item) (x664 : Int) (x665 : Int) : Option (List Tplan_Item) := if (decide (x664 < x665)) = true then ((at? x663 x665) >>= fun b676 => (at? x663 x664) >>= fun b679 => (at? (x663.set (Int.toNat (x664)) b676) x665) >>= fun b682 => f_slices_reverseRangeCmpFunc_plan_Item_plan_sorted_1.l0  ((x663.set (Int.toNat (x664)) b676).set (Int.toNat (x665)) b679) (IntKind.i64.wrap (x664 + (1 : Int))) (IntKind.i64.wrap (x665 - (1 : Int)))) else (some x663)
partial_fixpoint
def f_slices_reverseRangeCmpFunc_plan_Item_plan_sorted_1.f (a0 : List Tplan_Item) (a1 : Int) (a2 : Int) : Option (List Tplan_Item) := (f_slices_reverseRangeCmpFunc_plan_Item_plan_sorted_1.l0  a0 a1 (IntKind.i64.wrap (a2 - (1 : Int)))) >>= fun x685 => some x685
theorem f_slices_reverseRangeCmpFunc_plan_Item_plan_sorted_1.ok (a0 : List Tplan_Item) (a1 : Int) (a2 : Int) (r : List Tplan_Item) (H : f_slices_reverseRangeCmpFunc_plan_Item_plan_sorted_1.f a0 a1 a2 = some r) : Pv.Fn Try.prog 108 [.own 0, iV .i64 a1, iV .i64 a2, .im (.sc (.func (.func 50) #[] #[]))] [(0, some (.row 4 89 (a0.map eplan_Item)))] 1 (fun x o => x = .tup [] ∧ o = [(0, some (.row 4 89 (r.map eplan_Item)))]) := by
  unfold f_slices_reverseRangeCmpFunc_plan_Item_plan_sorted_1.f at H
  refine Fn.bodyK [0] Try.func108 rfl rfl (fun Γ hP hn => ?_)
  have hm : Try.prog.follows .mixedOrders = true := by kernel_rfl
  replace hn : Γ.n = 34 := hn
  refine AWp.seq ?_
  refine reg hP hn hm [] [0, 2, 8] [0] ⟨[(0, .own 0), (2, iV .i64 a2), (8, iV .i64 a1)], [(0, some (.row 4 89 (a0.map eplan_Item)))], 1⟩ [] (by kernel_rfl) trivial ?_
  refine AWp.seq ?_
  refine reg hP hn hm [] [0, 8, 9] [0] ⟨[(0, .own 0), (8, iV .i64 a1), (9, iV .i64 (IntKind.i64.wrap (a2 - (1 : Int))))], [(0, some (.row 4 89 (a0.map eplan_Item)))], 1⟩ [] (by kernel_rfl) trivial ?_
  refine AWp.block ?_
  obtain ⟨o686, e687, H⟩ := bind_of H
  refine AWp.loop (LWp.conv (inv := [(0, 0)]) (vk := []) (e0 := []) (t := ⟨[(0, .own 0), (8, iV .i64 a1), (9, iV .i64 (IntKind.i64.wrap (a2 - (1 : Int))))], [(0, some (.row 4 89 (a0.map eplan_Item)))], 1⟩) (by kernel_rfl) ?_)
  refine LWp.mono (Q := fun e s => (match (generalizing := false) o686 with | x685 => e = .exit 0 ∧ s = ⟨[], [(0, some (.row 4 89 (x685.map eplan_Item)))], 1⟩)) (LWp.cv (withBody (fun body hbody => ?_))) ?_
  · refine f_slices_reverseRangeCmpFunc_plan_Item_plan_sorted_1.l0.partial_correctness  (motive := fun x663 x664 x665 o686 => LWp Γ body (fun e s => ∃ t, Cv Γ s t ∧ (match (generalizing := false) o686 with | x685 => e = .exit 0 ∧ t = ⟨[], [(0, some (.row 4 89 (x685.map eplan_Item)))], 1⟩)) ⟨[(0, .own 0), (8, iV .i64 x664), (9, iV .i64 x665)], [(0, some (.row 4 89 (x663.map eplan_Item)))], 1⟩) ?_ _ _ _ _ e687
    clear H e687 o686; intro self ih x663 x664 x665 o686 H
    subst hbody
    refine LWp.round ?_
    refine AWp.seq ?_
    refine AWp.seq ?_
    refine reg hP hn hm [] [0, 8, 9, 15] [0] ⟨[(0, .own 0), (8, iV .i64 x664), (9, iV .i64 x665), (15, bV (decide (x664 < x665)))], [(0, some (.row 4 89 (x663.map eplan_Item)))], 1⟩ [] (by kernel_rfl) trivial ?_
    refine AWp.cond (decide (x664 < x665)) rfl (fun c666 => ?_) (fun c666 => ?_)
    · replace H := (ifT c666).symm.trans H
      refine AWp.skip ?_
      refine AWp.block ?_
      refine AWp.seq ?_
      obtain ⟨b676, p677, q678, H⟩ := at_of H
      obtain ⟨b679, p680, q681, H⟩ := at_of H
      obtain ⟨b682, p683, q684, H⟩ := at_of H
      refine reg hP hn hm [(7, .c (eplan_Item b676)), (11, .c (eplan_Item b679)), (13, .put (eplan_Item b679) ((x663.set (Int.toNat (x664)) b676).map eplan_Item)), (15, .put (eplan_Item b682) (((x663.set (Int.toNat (x664)) b676).set (Int.toNat (x665)) b679).map eplan_Item))] [0, 8, 9] [0] ⟨[(0, .own 0), (8, iV .i64 x664), (9, iV .i64 x665)], [(0, some (.row 4 89 (((x663.set (Int.toNat (x664)) b676).set (Int.toNat (x665)) b679).map eplan_Item)))], 1⟩ [0 ≤ x665, x665 < (((x663.map eplan_Item).length : Nat) : Int), (x663.map eplan_Item)[(Int.toNat (x665))]? = some (eplan_Item b676), 0 ≤ x664, x664 < (((x663.map eplan_Item).length : Nat) : Int), (x663.map eplan_Item)[(Int.toNat (x664))]? = some (eplan_Item b679), 0 ≤ x664, x664 < (((x663.map eplan_Item).length : Nat) : Int), (x663.map eplan_Item)[(Int.toNat (x664))]? = some (eplan_Item b679), (x663.set (Int.toNat (x664)) b676).map eplan_Item = (x663.map eplan_Item).set (Int.toNat (x664)) (splice (eplan_Item b679) 0 [iI .i64 b676.f0, iI .i64 b676.f1.f0, iI .i64 b676.f1.f1, iI .i64 b676.f1.f2]), 0 ≤ x665, x665 < ((((x663.set (Int.toNat (x664)) b676).map eplan_Item).length : Nat) : Int), ((x663.set (Int.toNat (x664)) b676).map eplan_Item)[(Int.toNat (x665))]? = some (eplan_Item b682), ((x663.set (Int.toNat (x664)) b676).set (Int.toNat (x665)) b679).map eplan_Item = ((x663.set (Int.toNat (x664)) b676).map eplan_Item).set (Int.toNat (x665)) (splice (eplan_Item b682) 0 [iI .i64 b679.f0, iI .i64 b679.f1.f0, iI .i64 b679.f1.f1, iI .i64 b679.f1.f2])] (by kernel_rfl) ⟨by exact p677, by exact el_lt eplan_Item p677 q678, by exact el_map eplan_Item q678, by exact p680, by exact el_lt eplan_Item p680 q681, by exact el_map eplan_Item q681, by exact p680, by exact el_lt eplan_Item p680 q681, by exact el_map eplan_Item q681, by exact set1 _ _ _ _, by exact p683, by exact el_lt eplan_Item p683 q684, by exact el_map eplan_Item q684, by exact set1 _ _ _ _, trivial⟩ ?_
      refine AWp.seq ?_
      refine reg hP hn hm [] [0, 8, 9] [0] ⟨[(0, .own 0), (8, iV .i64 (IntKind.i64.wrap (x664 + (1 : Int)))), (9, iV .i64 x665)], [(0, some (.row 4 89 (((x663.set (Int.toNat (x664)) b676).set (Int.toNat (x665)) b679).map eplan_Item)))], 1⟩ [] (by kernel_rfl) trivial ?_
      refine reg hP hn hm [] [0, 8, 9] [0] ⟨[(0, .own 0), (8, iV .i64 (IntKind.i64.wrap (x664 + (1 : Int)))), (9, iV .i64 (IntKind.i64.wrap (x665 - (1 : Int))))], [(0, some (.row 4 89 (((x663.set (Int.toNat (x664)) b676).set (Int.toNat (x665)) b679).map eplan_Item)))], 1⟩ [] (by kernel_rfl) trivial ?_
      exact LWp.conv (inv := [(0, 0)]) (vk := []) (e0 := []) (t := ⟨[(0, .own 0), (8, iV .i64 (IntKind.i64.wrap (x664 + (1 : Int)))), (9, iV .i64 (IntKind.i64.wrap (x665 - (1 : Int))))], [(0, some (.row 4 89 (((x663.set (Int.toNat (x664)) b676).set (Int.toNat (x665)) b679).map eplan_Item)))], 1⟩) (by kernel_rfl) (ih _ _ _ _ H)
    · replace H := (ifF c666).symm.trans H
      refine AWp.exit ?_
      obtain rfl := Option.some.inj H
      exact Exists.intro _ (And.intro (fun _ _ h => h.conv (inv := [(0, 0)]) (vk := []) (e0 := []) (t := ⟨[], [(0, some (.row 4 89 (x663.map eplan_Item)))], 1⟩) (by kernel_rfl)) (And.intro rfl rfl))
  · obtain ⟨x685, rfl⟩ : ∃ z, z = o686 := ⟨_, rfl⟩
    rintro e s ⟨rfl, rfl⟩
    obtain rfl := Option.some.inj H
    exact Exists.intro ⟨[], [(0, some (.row 4 89 (x685.map eplan_Item)))], 1⟩ (And.intro (fun _ _ h => h.conv (inv := [(0, 0)]) (vk := []) (e0 := []) (t := ⟨[], [(0, some (.row 4 89 (x685.map eplan_Item)))], 1⟩) (by kernel_rfl)) (And.intro (.inr rfl) (And.intro rfl (And.intro (by kernel_rfl) (by kernel_rfl)))))
def f_slices_partialInsertionSortCmpFunc_plan_Item_plan_sorted_1.l1 (a1 : Int) (a2 : Int) (x864 : List Tplan_Item) (x866 : Int) (x888 : Int) : Option (Int) := ((if (decide (x888 < a2)) = true then ((at? x864 x888) >>= fun b899 => (at? x864 (IntKind.i64.wrap (x888 - (1 : Int)))) >>= fun b902 => (f_plan_sorted_1.f b899 b902) >>= fun t905 => some (!(decide (t905 < (0 : Int))))) else (some false)) : Option (Bool)) >>= fun x907 => if x907 = true then (f_slices_partialInsertionSortCmpFunc_plan_Item_plan_sorted_1.l1 a1 a2 x864 x866 (IntKind.i64.wrap (x888 + (1 : Int)))) else (some x888)
partial_fixpoint
def f_slices_partialInsertionSortCmpFunc_plan_Item_plan_sorted_1.l2 (a1 : Int) (a2 : Int) (x866 : Int) (x909 : Int) (x955 : List Tplan_Item) (x956 : Int) : Option (List Tplan_Item) := if (decide (x956 ≥ (1 : Int))) = true then ((at? x955 x956) >>= fun b966 => (at? x955 (IntKind.i64.wrap (x956 - (1 : Int)))) >>= fun b969 => (f_plan_sorted_1.f b966 b969) >>= fun t972 => if (!(decide (t972 < (0 : Int)))) = true then (some x955) else ((at? (x955.set (Int.toNat (x956)) b969) (IntKind.i64.wrap (x956 - (1 : Int)))) >>= fun b978 => f_slices_partialInsertionSortCmpFunc_plan_Item_plan_sorted_1.l2 a1 a2 x866 x909 ((x955.set (Int.toNat (x956)) b969).set (Int.toNat (IntKind.i64.wrap (x956 - (1 : Int)))) b966) (IntKind.i64.wrap (x956 - (1 : Int))))) else (some x955)
partial_fixpoint
def f_slices_partialInsertionSortCmpFunc_plan_Item_plan_sorted_1.l3 (a1 : Int) (a2 : Int) (x866 : Int) (x909 : Int) (x1008 : List Tplan_Item) (x1009 : Int) : Option (List Tplan_Item) := if (decide (x1009 < a2)) = true then ((at? x1008 x1009) >>= fun b1019 => (at? x1008 (IntKind.i64.wrap (x1009 - (1 : Int)))) >>= fun b1022 => (f_plan_sorted_1.f b1019 b1022) >>= fun t1025 => if (!(decide (t1025 < (0 : Int)))) = true then (some x1008) else ((at? (x1008.set (Int.toNat (x1009)) b1022) (IntKind.i64.wrap (x1009 - (1 : Int)))) >>= fun b1031 => f_slices_partialInsertionSortCmpFunc_plan_Item_plan_sorted_1.l3 a1 a2 x866 x909 ((x1008.set (Int.toNat (x1009)) b1022).set (Int.toNat (IntKind.i64.wrap (x1009 - (1 : Int)))) b1019) (IntKind.i64.wrap (x1009 + (1 : Int))))) else (some x1008)
partial_fixpoint
def f_slices_partialInsertionSortCmpFunc_plan_Item_plan_sorted_1.l0 (a1 : Int) (a2 : Int) (x864 : List Tplan_Item) (x865 : Int) (x866 : Int) : Option ((Bool × (List Tplan_Item)) ⊕ (List Tplan_Item)) := if (decide (x866 < (5 : Int))) = true then ((f_slices_partialInsertionSortCmpFunc_plan_Item_plan_sorted_1.l1 a1 a2 x864 x866 x865) >>= fun x909 => if (x909 == a2) = true then (some (.inl (true, x864))) else (if (decide ((IntKind.i64.wrap (a2 - a1)) < (50 : Int))) = true then (some (.inl (false, x864))) else ((at? x864 (IntKind.i64.wrap (x909 - (1 : Int)))) >>= fun b921 => (at? x864 x909) >>= fun b924 => (at? (x864.set (Int.toNat (x909)) b921) (IntKind.i64.wrap (x909 - (1 : Int)))) >>= fun b927 => ((if (decide ((IntKind.i64.wrap (x909 - a1)) ≥ (2 : Int))) = true then ((f_slices_partialInsertionSortCmpFunc_plan_Item_plan_sorted_1.l2 a1 a2 x866 x909 ((x864.set (Int.toNat (x909)) b921).set (Int.toNat (IntKind.i64.wrap (x909 - (1 : Int)))) b924) (IntKind.i64.wrap (x909 - (1 : Int)))) >>= fun x981 => some x981) else (some ((x864.set (Int.toNat (x909)) b921).set (Int.toNat (IntKind.i64.wrap (x909 - (1 : Int)))) b924))) : Option (List Tplan_Item)) >>= fun x982 => ((if (decide ((IntKind.i64.wrap (a2 - x909)) ≥ (2 : Int))) = true then ((f_slices_partialInsertionSortCmpFunc_plan_Item_plan_sorted_1.l3 a1 a2 x866 x909 x982 (IntKind.i64.wrap (x909 + (1 : Int)))) >>= fun x1034 => some x1034) else (some x982)) : Option (List Tplan_Item)) >>= fun x1035 => f_slices_partialInsertionSortCmpFunc_plan_Item_plan_sorted_1.l0 a1 a2 x1035 x909 (IntKind.i64.wrap (x866 + (1 : Int)))))) else (some (.inr x864))
partial_fixpoint
def f_slices_partialInsertionSortCmpFunc_plan_Item_plan_sorted_1.f (a0 : List Tplan_Item) (a1 : Int) (a2 : Int) : Option (Bool × (List Tplan_Item)) := (f_slices_partialInsertionSortCmpFunc_plan_Item_plan_sorted_1.l0 a1 a2 a0 (IntKind.i64.wrap (a1 + (1 : Int))) 0) >>= fun oo => match oo with | .inl rr => (some rr) | .inr x1036 => (some (false, x1036))
theorem f_slices_partialInsertionSortCmpFunc_plan_Item_plan_sorted_1.ok (a0 : List Tplan_Item) (a1 : Int) (a2 : Int) (r : Bool × (List Tplan_Item)) (H : f_slices_partialInsertionSortCmpFunc_plan_Item_plan_sorted_1.f a0 a1 a2 = some r) : Pv.Fn Try.prog 109 [.own 0, iV .i64 a1, iV .i64 a2, .im (.sc (.func (.func 50) #[] #[]))] [(0, some (.row 4 89 (a0.map eplan_Item)))] 1 (fun x o => x = bV r.1 ∧ o = [(0, some (.row 4 89 (r.2.map eplan_Item)))]) := by
  unfold f_slices_partialInsertionSortCmpFunc_plan_Item_plan_sorted_1.f at H
  refine Fn.bodyK [0] Try.func109 rfl rfl (fun Γ hP hn => ?_)
  have hm : Try.prog.follows .mixedOrders = true := by kernel_rfl
  replace hn : Γ.n = 141 := hn
  refine AWp.seq ?_
  refine reg hP hn hm [] [0, 1, 2, 3] [0] ⟨[(0, .own 0), (1, iV .i64 a1), (2, iV .i64 a2), (3, .im (.sc (.func (.func 50) #[] #[])))], [(0, some (.row 4 89 (a0.map eplan_Item)))], 1⟩ [] (by kernel_rfl) trivial ?_
  refine AWp.seq ?_
  refine reg hP hn hm [] [0, 1, 2, 3, 9] [0] ⟨[(0, .own 0), (1, iV .i64 a1), (2, iV .i64 a2), (3, .im (.sc (.func (.func 50) #[] #[]))), (9, iV .i64 (IntKind.i64.wrap (a1 + (1 : Int))))], [(0, some (.row 4 89 (a0.map eplan_Item)))], 1⟩ [] (by kernel_rfl) trivial ?_
  refine AWp.seq ?_
  refine AWp.seq ?_
  refine reg hP hn hm [] [0, 1, 2, 3, 9, 10] [0] ⟨[(0, .own 0), (1, iV .i64 a1), (2, iV .i64 a2), (3, .im (.sc (.func (.func 50) #[] #[]))), (9, iV .i64 (IntKind.i64.wrap (a1 + (1 : Int)))), (10, iV .i64 0)], [(0, some (.row 4 89 (a0.map eplan_Item)))], 1⟩ [] (by kernel_rfl) trivial ?_
  refine AWp.block ?_
  obtain ⟨o1037, e1038, H⟩ := bind_of H
  refine AWp.loop (LWp.conv (inv := [(0, 0)]) (vk := []) (e0 := []) (t := ⟨[(0, .own 0), (1, iV .i64 a1), (2, iV .i64 a2), (3, .im (.sc (.func (.func 50) #[] #[]))), (9, iV .i64 (IntKind.i64.wrap (a1 + (1 : Int)))), (10, iV .i64 0)], [(0, some (.row 4 89 (a0.map eplan_Item)))], 1⟩) (by kernel_rfl) ?_)
  refine LWp.mono (Q := fun e s => (match (generalizing := false) o1037 with | .inl rr => e = .ret ∧ s.floor = 1 ∧ resOf Try.prog Try.f109 s = some (bV rr.1) ∧ ([(0, s.obj 0)] : List (Nat × Option MObj)) = [(0, some (.row 4 89 (rr.2.map eplan_Item)))] | .inr x1036 => e = .exit 0 ∧ s = ⟨[], [(0, some (.row 4 89 (x1036.map eplan_Item)))], 1⟩)) (LWp.cv (withBody (fun body hbody => ?_))) ?_
  · refine f_slices_partialInsertionSortCmpFunc_plan_Item_plan_sorted_1.l0.partial_correctness a1 a2 (motive := fun x864 x865 x866 o1037 => LWp Γ body (fun e s => ∃ t, Cv Γ s t ∧ (match (generalizing := false) o1037 with | .inl rr => e = .ret ∧ t.floor = 1 ∧ resOf Try.prog Try.f109 t = some (bV rr.1) ∧ ([(0, t.obj 0)] : List (Nat × Option MObj)) = [(0, some (.row 4 89 (rr.2.map eplan_Item)))] | .inr x1036 => e = .exit 0 ∧ t = ⟨[], [(0, some (.row 4 89 (x1036.map eplan_Item)))], 1⟩)) ⟨[(0, .own 0), (1, iV .i64 a1), (2, iV .i64 a2), (3, .im (.sc (.func (.func 50) #[] #[]))), (9, iV .i64 x865), (10, iV .i64 x866)], [(0, some (.row 4 89 (x864.map eplan_Item)))], 1⟩) ?_ _ _ _ _ e1038
    clear H e1038 o1037; intro self ih x864 x865 x866 o1037 H
    subst hbody
    refine LWp.round ?_
    refine AWp.seq ?_
    refine AWp.seq ?_
    refine reg hP hn hm [] [0, 1, 2, 3, 9, 10, 16] [0] ⟨[(0, .own 0), (1, iV .i64 a1), (2, iV .i64 a2), (3, .im (.sc (.func (.func 50) #[] #[]))), (9, iV .i64 x865), (10, iV .i64 x866), (16, bV (decide (x866 < (5 : Int))))], [(0, some (.row 4 89 (x864.map eplan_Item)))], 1⟩ [] (by kernel_rfl) trivial ?_
    refine AWp.cond (decide (x866 < (5 : Int))) rfl (fun c867 => ?_) (fun c867 => ?_)
    · replace H := (ifT c867).symm.trans H
      refine AWp.skip ?_
      refine AWp.seq ?_
      refine AWp.block ?_
      refine AWp.seq ?_
      refine AWp.block ?_
      obtain ⟨o1039, e1040, H⟩ := bind_of H
      refine AWp.loop (LWp.conv (inv := [(0, 0)]) (vk := []) (e0 := []) (t := ⟨[(0, .own 0), (1, iV .i64 a1), (2, iV .i64 a2), (3, .im (.sc (.func (.func 50) #[] #[]))), (9, iV .i64 x865), (10, iV .i64 x866)], [(0, some (.row 4 89 (x864.map eplan_Item)))], 1⟩) (by kernel_rfl) ?_)
      refine LWp.mono (Q := fun e s => (match (generalizing := false) o1039 with | x909 => e = .exit 2 ∧ s = ⟨[(0, .own 0), (1, iV .i64 a1), (2, iV .i64 a2), (3, .im (.sc (.func (.func 50) #[] #[]))), (9, iV .i64 x909), (10, iV .i64 x866)], [(0, some (.row 4 89 (x864.map eplan_Item)))], 1⟩)) (LWp.cv (withBody (fun body hbody => ?_))) ?_
      · refine f_slices_partialInsertionSortCmpFunc_plan_Item_plan_sorted_1.l1.partial_correctness a1 a2 x864 x866 (motive := fun x888 o1039 => LWp Γ body (fun e s => ∃ t, Cv Γ s t ∧ (match (generalizing := false) o1039 with | x909 => e = .exit 2 ∧ t = ⟨[(0, .own 0), (1, iV .i64 a1), (2, iV .i64 a2), (3, .im (.sc (.func (.func 50) #[] #[]))), (9, iV .i64 x909), (10, iV .i64 x866)], [(0, some (.row 4 89 (x864.map eplan_Item)))], 1⟩)) ⟨[(0, .own 0), (1, iV .i64 a1), (2, iV .i64 a2), (3, .im (.sc (.func (.func 50) #[] #[]))), (9, iV .i64 x888), (10, iV .i64 x866)], [(0, some (.row 4 89 (x864.map eplan_Item)))], 1⟩) ?_ _ _ e1040
        clear H e1040 o1039; intro self ih x888 o1039 H
        subst hbody
        refine LWp.round ?_
        refine AWp.seq ?_
        refine AWp.seq ?_
        obtain ⟨o1041, e1042, H⟩ := bind_of H
        refine AWp.mono (Q := fun e s => (match (generalizing := false) o1041 with | x907 => e = .normal ∧ s = ⟨[(0, .own 0), (1, iV .i64 a1), (2, iV .i64 a2), (3, .im (.sc (.func (.func 50) #[] #[]))), (9, iV .i64 x888), (10, iV .i64 x866), (36, bV x907)], [(0, some (.row 4 89 (x864.map eplan_Item)))], 1⟩)) (AWp.cv ?_) ?_
        · replace H := e1042; clear e1042
          rcases Bool.eq_false_or_eq_true (decide (x888 < a2)) with c898 | c898
          · replace H := (ifT c898).symm.trans H
            obtain ⟨b899, p900, q901, H⟩ := at_of H
            obtain ⟨b902, p903, q904, H⟩ := at_of H
            obtain ⟨t905, e906, H⟩ := bind_of H
            refine reg hP hn hm [(3, .b true), (8, .c (eplan_Item b899)), (13, .c (eplan_Item b902)), (14, .call [] [] [] [] 0 (iV .i64 t905) [])] [0, 1, 2, 3, 9, 10, 23, 24, 25, 26, 27, 28, 29, 30, 31, 32, 33, 34, 35, 36] [0] ⟨[(0, .own 0), (1, iV .i64 a1), (2, iV .i64 a2), (3, .im (.sc (.func (.func 50) #[] #[]))), (9, iV .i64 x888), (10, iV .i64 x866), (23, .im (.sc (.func (.func 50) #[] #[]))), (24, .own 0), (25, iV .i64 x888), (26, .ptr 0 (Int.toNat (x888)) 0), (27, .agg (apluvialref17_Item ⟨b899.f0, b899.f1.f0, b899.f1.f1, b899.f1.f2⟩)), (28, .own 0), (29, iV .i64 x888), (30, iV .i64 (IntKind.i64.wrap (x888 - (1 : Int)))), (31, .ptr 0 (Int.toNat (IntKind.i64.wrap (x888 - (1 : Int)))) 0), (32, .agg (apluvialref17_Item ⟨b902.f0, b902.f1.f0, b902.f1.f1, b902.f1.f2⟩)), (33, iV .i64 t905), (34, bV (decide (t905 < (0 : Int)))), (35, bV (!(decide (t905 < (0 : Int))))), (36, bV (!(decide (t905 < (0 : Int)))))], [(0, some (.row 4 89 (x864.map eplan_Item)))], 1⟩ [(decide (x888 < a2)) = true, 0 ≤ x888, x888 < (((x864.map eplan_Item).length : Nat) : Int), (x864.map eplan_Item)[(Int.toNat (x888))]? = some (eplan_Item b899), 0 ≤ (IntKind.i64.wrap (x888 - (1 : Int))), IntKind.i64.wrap (x888 - (1 : Int)) < (((x864.map eplan_Item).length : Nat) : Int), (x864.map eplan_Item)[(Int.toNat (IntKind.i64.wrap (x888 - (1 : Int))))]? = some (eplan_Item b902), Enters Try.prog 50, Pv.Fn Try.prog 50 [.agg (apluvialref17_Item ⟨b899.f0, b899.f1.f0, b899.f1.f1, b899.f1.f2⟩), .agg (apluvialref17_Item ⟨b902.f0, b902.f1.f0, b902.f1.f1, b902.f1.f2⟩)] [] 0 (fun r o => r = iV .i64 t905 ∧ o = [])] (by kernel_rfl) ⟨by exact c898, by exact p900, by exact el_lt eplan_Item p900 q901, by exact el_map eplan_Item q901, by exact p903, by exact el_lt eplan_Item p903 q904, by exact el_map eplan_Item q904, by exact Try.call50, by exact f_plan_sorted_1.ok b899 b902 t905 e906, trivial⟩ ?_
            obtain rfl := Option.some.inj H
            exact Exists.intro _ (And.intro (fun _ _ h => h.conv (inv := [(0, 0)]) (vk := []) (e0 := []) (t := ⟨[(0, .own 0), (1, iV .i64 a1), (2, iV .i64 a2), (3, .im (.sc (.func (.func 50) #[] #[]))), (9, iV .i64 x888), (10, iV .i64 x866), (36, bV (!(decide (t905 < (0 : Int)))))], [(0, some (.row 4 89 (x864.map eplan_Item)))], 1⟩) (by kernel_rfl)) (And.intro rfl rfl))
          · replace H := (ifF c898).symm.trans H
            refine reg hP hn hm [(3, .b false)] [0, 1, 2, 3, 9, 10, 36] [0] ⟨[(0, .own 0), (1, iV .i64 a1), (2, iV .i64 a2), (3, .im (.sc (.func (.func 50) #[] #[]))), (9, iV .i64 x888), (10, iV .i64 x866), (36, bV false)], [(0, some (.row 4 89 (x864.map eplan_Item)))], 1⟩ [(decide (x888 < a2)) = false] (by kernel_rfl) ⟨by exact c898, trivial⟩ ?_
            obtain rfl := Option.some.inj H
            exact Exists.intro _ (And.intro (fun _ _ h => h.conv (inv := [(0, 0)]) (vk := []) (e0 := []) (t := ⟨[(0, .own 0), (1, iV .i64 a1), (2, iV .i64 a2), (3, .im (.sc (.func (.func 50) #[] #[]))), (9, iV .i64 x888), (10, iV .i64 x866), (36, bV false)], [(0, some (.row 4 89 (x864.map eplan_Item)))], 1⟩) (by kernel_rfl)) (And.intro rfl rfl))
        · obtain ⟨x907, rfl⟩ : ∃ z, z = o1041 := ⟨_, rfl⟩
          rintro e s ⟨rfl, rfl⟩
          refine AWp.cond x907 rfl (fun c908 => ?_) (fun c908 => ?_)
          · replace H := (ifT c908).symm.trans H
            refine AWp.skip ?_
            refine AWp.block ?_
            refine reg hP hn hm [] [0, 1, 2, 3, 9, 10] [0] ⟨[(0, .own 0), (1, iV .i64 a1), (2, iV .i64 a2), (3, .im (.sc (.func (.func 50) #[] #[]))), (9, iV .i64 (IntKind.i64.wrap (x888 + (1 : Int)))), (10, iV .i64 x866)], [(0, some (.row 4 89 (x864.map eplan_Item)))], 1⟩ [] (by kernel_rfl) trivial ?_
            exact LWp.conv (inv := [(0, 0)]) (vk := []) (e0 := []) (t := ⟨[(0, .own 0), (1, iV .i64 a1), (2, iV .i64 a2), (3, .im (.sc (.func (.func 50) #[] #[]))), (9, iV .i64 (IntKind.i64.wrap (x888 + (1 : Int)))), (10, iV .i64 x866)], [(0, some (.row 4 89 (x864.map eplan_Item)))], 1⟩) (by kernel_rfl) (ih _ _ H)
          · replace H := (ifF c908).symm.trans H
            refine AWp.exit ?_
            obtain rfl := Option.some.inj H
            exact Exists.intro _ (And.intro (fun _ _ h => h.conv (inv := [(0, 0)]) (vk := []) (e0 := []) (t := ⟨[(0, .own 0), (1, iV .i64 a1), (2, iV .i64 a2), (3, .im (.sc (.func (.func 50) #[] #[]))), (9, iV .i64 x888), (10, iV .i64 x866)], [(0, some (.row 4 89 (x864.map eplan_Item)))], 1⟩) (by kernel_rfl)) (And.intro rfl rfl))
      · obtain ⟨x909, rfl⟩ : ∃ z, z = o1039 := ⟨_, rfl⟩
        rintro e s ⟨rfl, rfl⟩
        refine AWp.seq ?_
        refine AWp.seq ?_
        refine reg hP hn hm [] [0, 1, 2, 3, 9, 10, 41] [0] ⟨[(0, .own 0), (1, iV .i64 a1), (2, iV .i64 a2), (3, .im (.sc (.func (.func 50) #[] #[]))), (9, iV .i64 x909), (10, iV .i64 x866), (41, bV (x909 == a2))], [(0, some (.row 4 89 (x864.map eplan_Item)))], 1⟩ [] (by kernel_rfl) trivial ?_
        refine AWp.cond (x909 == a2) rfl (fun c910 => ?_) (fun c910 => ?_)
        · replace H := (ifT c910).symm.trans H
          refine AWp.seq ?_
          refine reg hP hn hm [] [8] [0] ⟨[(8, bV true)], [(0, some (.row 4 89 (x864.map eplan_Item)))], 1⟩ [] (by kernel_rfl) trivial ?_
          refine AWp.conv (inv := [(0, 0)]) (vk := []) (e0 := []) (t := ⟨[(8, bV true)], [(0, some (.row 4 89 (x864.map eplan_Item)))], 1⟩) (by kernel_rfl) ?_
          refine AWp.ret ?_
          obtain rfl := Option.some.inj H
          exact Exists.intro _ (And.intro (fun _ _ h => h) (And.intro rfl (And.intro rfl (And.intro (by kernel_rfl) (by kernel_rfl)))))
        · replace H := (ifF c910).symm.trans H
          refine AWp.skip ?_
          refine AWp.seq ?_
          refine AWp.seq ?_
          refine reg hP hn hm [] [0, 1, 2, 3, 9, 10, 45] [0] ⟨[(0, .own 0), (1, iV .i64 a1), (2, iV .i64 a2), (3, .im (.sc (.func (.func 50) #[] #[]))), (9, iV .i64 x909), (10, iV .i64 x866), (45, bV (decide ((IntKind.i64.wrap (a2 - a1)) < (50 : Int))))], [(0, some (.row 4 89 (x864.map eplan_Item)))], 1⟩ [] (by kernel_rfl) trivial ?_
          refine AWp.cond (decide ((IntKind.i64.wrap (a2 - a1)) < (50 : Int))) rfl (fun c911 => ?_) (fun c911 => ?_)
          · replace H := (ifT c911).symm.trans H
            refine AWp.seq ?_
            refine reg hP hn hm [] [8] [0] ⟨[(8, bV false)], [(0, some (.row 4 89 (x864.map eplan_Item)))], 1⟩ [] (by kernel_rfl) trivial ?_
            refine AWp.conv (inv := [(0, 0)]) (vk := []) (e0 := []) (t := ⟨[(8, bV false)], [(0, some (.row 4 89 (x864.map eplan_Item)))], 1⟩) (by kernel_rfl) ?_
            refine AWp.ret ?_
            obtain rfl := Option.some.inj H
            exact Exists.intro _ (And.intro (fun _ _ h => h) (And.intro rfl (And.intro rfl (And.intro (by kernel_rfl) (by kernel_rfl)))))
          · replace H := (ifF c911).symm.trans H
            refine AWp.skip ?_
            refine AWp.seq ?_
            obtain ⟨b921, p922, q923, H⟩ := at_of H
            obtain ⟨b924, p925, q926, H⟩ := at_of H
            obtain ⟨b927, p928, q929, H⟩ := at_of H
            refine reg hP hn hm [(9, .c (eplan_Item b921)), (13, .c (eplan_Item b924)), (15, .put (eplan_Item b924) ((x864.set (Int.toNat (x909)) b921).map eplan_Item)), (17, .put (eplan_Item b927) (((x864.set (Int.toNat (x909)) b921).set (Int.toNat (IntKind.i64.wrap (x909 - (1 : Int)))) b924).map eplan_Item))] [0, 1, 2, 3, 9, 10] [0] ⟨[(0, .own 0), (1, iV .i64 a1), (2, iV .i64 a2), (3, .im (.sc (.func (.func 50) #[] #[]))), (9, iV .i64 x909), (10, iV .i64 x866)], [(0, some (.row 4 89 (((x864.set (Int.toNat (x909)) b921).set (Int.toNat (IntKind.i64.wrap (x909 - (1 : Int)))) b924).map eplan_Item)))], 1⟩ [0 ≤ (IntKind.i64.wrap (x909 - (1 : Int))), IntKind.i64.wrap (x909 - (1 : Int)) < (((x864.map eplan_Item).length : Nat) : Int), (x864.map eplan_Item)[(Int.toNat (IntKind.i64.wrap (x909 - (1 : Int))))]? = some (eplan_Item b921), 0 ≤ x909, x909 < (((x864.map eplan_Item).length : Nat) : Int), (x864.map eplan_Item)[(Int.toNat (x909))]? = some (eplan_Item b924), 0 ≤ x909, x909 < (((x864.map eplan_Item).length : Nat) : Int), (x864.map eplan_Item)[(Int.toNat (x909))]? = some (eplan_Item b924), (x864.set (Int.toNat (x909)) b921).map eplan_Item = (x864.map eplan_Item).set (Int.toNat (x909)) (splice (eplan_Item b924) 0 [iI .i64 b921.f0, iI .i64 b921.f1.f0, iI .i64 b921.f1.f1, iI .i64 b921.f1.f2]), 0 ≤ (IntKind.i64.wrap (x909 - (1 : Int))), IntKind.i64.wrap (x909 - (1 : Int)) < ((((x864.set (Int.toNat (x909)) b921).map eplan_Item).length : Nat) : Int), ((x864.set (Int.toNat (x909)) b921).map eplan_Item)[(Int.toNat (IntKind.i64.wrap (x909 - (1 : Int))))]? = some (eplan_Item b927), ((x864.set (Int.toNat (x909)) b921).set (Int.toNat (IntKind.i64.wrap (x909 - (1 : Int)))) b924).map eplan_Item = ((x864.set (Int.toNat (x909)) b921).map eplan_Item).set (Int.toNat (IntKind.i64.wrap (x909 - (1 : Int)))) (splice (eplan_Item b927) 0 [iI .i64 b924.f0, iI .i64 b924.f1.f0, iI .i64 b924.f1.f1, iI .i64 b924.f1.f2])] (by kernel_rfl) ⟨by exact p922, by exact el_lt eplan_Item p922 q923, by exact el_map eplan_Item q923, by exact p925, by exact el_lt eplan_Item p925 q926, by exact el_map eplan_Item q926, by exact p925, by exact el_lt eplan_Item p925 q926, by exact el_map eplan_Item q926, by exact set1 _ _ _ _, by exact p928, by exact el_lt eplan_Item p928 q929, by exact el_map eplan_Item q929, by exact set1 _ _ _ _, trivial⟩ ?_
            refine AWp.seq ?_
            refine AWp.seq ?_
            refine reg hP hn hm [] [0, 1, 2, 3, 9, 10, 65] [0] ⟨[(0, .own 0), (1, iV .i64 a1), (2, iV .i64 a2), (3, .im (.sc (.func (.func 50) #[] #[]))), (9, iV .i64 x909), (10, iV .i64 x866), (65, bV (decide ((IntKind.i64.wrap (x909 - a1)) ≥ (2 : Int))))], [(0, some (.row 4 89 (((x864.set (Int.toNat (x909)) b921).set (Int.toNat (IntKind.i64.wrap (x909 - (1 : Int)))) b924).map eplan_Item)))], 1⟩ [] (by kernel_rfl) trivial ?_
            obtain ⟨o1043, e1044, H⟩ := bind_of H
            refine AWp.mono (Q := fun e s => (match (generalizing := false) o1043 with | x982 => e = .normal ∧ s = ⟨[(0, .own 0), (1, iV .i64 a1), (2, iV .i64 a2), (3, .im (.sc (.func (.func 50) #[] #[]))), (9, iV .i64 x909), (10, iV .i64 x866)], [(0, some (.row 4 89 (x982.map eplan_Item)))], 1⟩)) (AWp.cv ?_) ?_
            · replace H := e1044; clear e1044
              refine AWp.cond (decide ((IntKind.i64.wrap (x909 - a1)) ≥ (2 : Int))) rfl (fun c930 => ?_) (fun c930 => ?_)
              · replace H := (ifT c930).symm.trans H
                refine AWp.seq ?_
                refine reg hP hn hm [] [0, 1, 2, 3, 9, 10, 11] [0] ⟨[(0, .own 0), (1, iV .i64 a1), (2, iV .i64 a2), (3, .im (.sc (.func (.func 50) #[] #[]))), (9, iV .i64 x909), (10, iV .i64 x866), (11, iV .i64 (IntKind.i64.wrap (x909 - (1 : Int))))], [(0, some (.row 4 89 (((x864.set (Int.toNat (x909)) b921).set (Int.toNat (IntKind.i64.wrap (x909 - (1 : Int)))) b924).map eplan_Item)))], 1⟩ [] (by kernel_rfl) trivial ?_
                refine AWp.block ?_
                obtain ⟨o1045, e1046, H⟩ := bind_of H
                refine AWp.loop (LWp.conv (inv := [(0, 0)]) (vk := []) (e0 := []) (t := ⟨[(0, .own 0), (1, iV .i64 a1), (2, iV .i64 a2), (3, .im (.sc (.func (.func 50) #[] #[]))), (9, iV .i64 x909), (10, iV .i64 x866), (11, iV .i64 (IntKind.i64.wrap (x909 - (1 : Int))))], [(0, some (.row 4 89 (((x864.set (Int.toNat (x909)) b921).set (Int.toNat (IntKind.i64.wrap (x909 - (1 : Int)))) b924).map eplan_Item)))], 1⟩) (by kernel_rfl) ?_)
                refine LWp.mono (Q := fun e s => (match (generalizing := false) o1045 with | x981 => e = .exit 4 ∧ s = ⟨[(0, .own 0), (1, iV .i64 a1), (2, iV .i64 a2), (3, .im (.sc (.func (.func 50) #[] #[]))), (9, iV .i64 x909), (10, iV .i64 x866)], [(0, some (.row 4 89 (x981.map eplan_Item)))], 1⟩)) (LWp.cv (withBody (fun body hbody => ?_))) ?_
                · refine f_slices_partialInsertionSortCmpFunc_plan_Item_plan_sorted_1.l2.partial_correctness a1 a2 x866 x909 (motive := fun x955 x956 o1045 => LWp Γ body (fun e s => ∃ t, Cv Γ s t ∧ (match (generalizing := false) o1045 with | x981 => e = .exit 4 ∧ t = ⟨[(0, .own 0), (1, iV .i64 a1), (2, iV .i64 a2), (3, .im (.sc (.func (.func 50) #[] #[]))), (9, iV .i64 x909), (10, iV .i64 x866)], [(0, some (.row 4 89 (x981.map eplan_Item)))], 1⟩)) ⟨[(0, .own 0), (1, iV .i64 a1), (2, iV .i64 a2), (3, .im (.sc (.func (.func 50) #[] #[]))), (9, iV .i64 x909), (10, iV .i64 x866), (11, iV .i64 x956)], [(0, some (.row 4 89 (x955.map eplan_Item)))], 1⟩) ?_ _ _ _ e1046
                  clear H e1046 o1045; intro self ih x955 x956 o1045 H
                  subst hbody
                  refine LWp.round ?_
                  refine AWp.seq ?_
                  refine AWp.seq ?_
                  refine reg hP hn hm [] [0, 1, 2, 3, 9, 10, 11, 69] [0] ⟨[(0, .own 0), (1, iV .i64 a1), (2, iV .i64 a2), (3, .im (.sc (.func (.func 50) #[] #[]))), (9, iV .i64 x909), (10, iV .i64 x866), (11, iV .i64 x956), (69, bV (decide (x956 ≥ (1 : Int))))], [(0, some (.row 4 89 (x955.map eplan_Item)))], 1⟩ [] (by kernel_rfl) trivial ?_
                  refine AWp.cond (decide (x956 ≥ (1 : Int))) rfl (fun c957 => ?_) (fun c957 => ?_)
                  · replace H := (ifT c957).symm.trans H
                    refine AWp.skip ?_
                    refine AWp.seq ?_
                    refine AWp.block ?_
                    refine AWp.seq ?_
                    refine AWp.seq ?_
                    obtain ⟨b966, p967, q968, H⟩ := at_of H
                    obtain ⟨b969, p970, q971, H⟩ := at_of H
                    obtain ⟨t972, e973, H⟩ := bind_of H
                    refine reg hP hn hm [(4, .c (eplan_Item b966)), (9, .c (eplan_Item b969)), (10, .call [] [] [] [] 0 (iV .i64 t972) [])] [0, 1, 2, 3, 9, 10, 11, 84] [0] ⟨[(0, .own 0), (1, iV .i64 a1), (2, iV .i64 a2), (3, .im (.sc (.func (.func 50) #[] #[]))), (9, iV .i64 x909), (10, iV .i64 x866), (11, iV .i64 x956), (84, bV (!(decide (t972 < (0 : Int)))))], [(0, some (.row 4 89 (x955.map eplan_Item)))], 1⟩ [0 ≤ x956, x956 < (((x955.map eplan_Item).length : Nat) : Int), (x955.map eplan_Item)[(Int.toNat (x956))]? = some (eplan_Item b966), 0 ≤ (IntKind.i64.wrap (x956 - (1 : Int))), IntKind.i64.wrap (x956 - (1 : Int)) < (((x955.map eplan_Item).length : Nat) : Int), (x955.map eplan_Item)[(Int.toNat (IntKind.i64.wrap (x956 - (1 : Int))))]? = some (eplan_Item b969), Enters Try.prog 50, Pv.Fn Try.prog 50 [.agg (apluvialref17_Item ⟨b966.f0, b966.f1.f0, b966.f1.f1, b966.f1.f2⟩), .agg (apluvialref17_Item ⟨b969.f0, b969.f1.f0, b969.f1.f1, b969.f1.f2⟩)] [] 0 (fun r o => r = iV .i64 t972 ∧ o = [])] (by kernel_rfl) ⟨by exact p967, by exact el_lt eplan_Item p967 q968, by exact el_map eplan_Item q968, by exact p970, by exact el_lt eplan_Item p970 q971, by exact el_map eplan_Item q971, by exact Try.call50, by exact f_plan_sorted_1.ok b966 b969 t972 e973, trivial⟩ ?_
                    refine AWp.cond (!(decide (t972 < (0 : Int)))) rfl (fun c974 => ?_) (fun c974 => ?_)
                    · replace H := (ifT c974).symm.trans H
                      refine AWp.exit ?_
                      obtain rfl := Option.some.inj H
                      exact Exists.intro _ (And.intro (fun _ _ h => h.conv (inv := [(0, 0)]) (vk := []) (e0 := []) (t := ⟨[(0, .own 0), (1, iV .i64 a1), (2, iV .i64 a2), (3, .im (.sc (.func (.func 50) #[] #[]))), (9, iV .i64 x909), (10, iV .i64 x866)], [(0, some (.row 4 89 (x955.map eplan_Item)))], 1⟩) (by kernel_rfl)) (And.intro rfl rfl))
                    · replace H := (ifF c974).symm.trans H
                      refine AWp.skip ?_
                      obtain ⟨b978, p979, q980, H⟩ := at_of H
                      refine reg hP hn hm [(9, .c (eplan_Item b969)), (13, .c (eplan_Item b966)), (15, .put (eplan_Item b966) ((x955.set (Int.toNat (x956)) b969).map eplan_Item)), (17, .put (eplan_Item b978) (((x955.set (Int.toNat (x956)) b969).set (Int.toNat (IntKind.i64.wrap (x956 - (1 : Int)))) b966).map eplan_Item))] [0, 1, 2, 3, 9, 10, 11] [0] ⟨[(0, .own 0), (1, iV .i64 a1), (2, iV .i64 a2), (3, .im (.sc (.func (.func 50) #[] #[]))), (9, iV .i64 x909), (10, iV .i64 x866), (11, iV .i64 x956)], [(0, some (.row 4 89 (((x955.set (Int.toNat (x956)) b969).set (Int.toNat (IntKind.i64.wrap (x956 - (1 : Int)))) b966).map eplan_Item)))], 1⟩ [0 ≤ (IntKind.i64.wrap (x956 - (1 : Int))), IntKind.i64.wrap (x956 - (1 : Int)) < (((x955.map eplan_Item).length : Nat) : Int), (x955.map eplan_Item)[(Int.toNat (IntKind.i64.wrap (x956 - (1 : Int))))]? = some (eplan_Item b969), 0 ≤ x956, x956 < (((x955.map eplan_Item).length : Nat) : Int), (x955.map eplan_Item)[(Int.toNat (x956))]? = some (eplan_Item b966), 0 ≤ x956, x956 < (((x955.map eplan_Item).length : Nat) : Int), (x955.map eplan_Item)[(Int.toNat (x956))]? = some (eplan_Item b966), (x955.set (Int.toNat (x956)) b969).map eplan_Item = (x955.map eplan_Item).set (Int.toNat (x956)) (splice (eplan_Item b966) 0 [iI .i64 b969.f0, iI .i64 b969.f1.f0, iI .i64 b969.f1.f1, iI .i64 b969.f1.f2]), 0 ≤ (IntKind.i64.wrap (x956 - (1 : Int))), IntKind.i64.wrap (x956 - (1 : Int)) < ((((x955.set (Int.toNat (x956)) b969).map eplan_Item).length : Nat) : Int), ((x955.set (Int.toNat (x956)) b969).map eplan_Item)[(Int.toNat (IntKind.i64.wrap (x956 - (1 : Int))))]? = some (eplan_Item b978), ((x955.set (Int.toNat (x956)) b969).set (Int.toNat (IntKind.i64.wrap (x956 - (1 : Int)))) b966).map eplan_Item = ((x955.set (Int.toNat (x956)) b969).map eplan_Item).set (Int.toNat (IntKind.i64.wrap (x956 - (1 : Int)))) (splice (eplan_Item b978) 0 [iI .i64 b966.f0, iI .i64 b966.f1.f0, iI .i64 b966.f1.f1, iI .i64 b966.f1.f2])] (by kernel_rfl) ⟨by exact p970, by exact el_lt eplan_Item p970 q971, by exact el_map eplan_Item q971, by exact p967, by exact el_lt eplan_Item p967 q968, by exact el_map eplan_Item q968, by exact p967, by exact el_lt eplan_Item p967 q968, by exact el_map eplan_Item q968, by exact set1 _ _ _ _, by exact p979, by exact el_lt eplan_Item p979 q980, by exact el_map eplan_Item q980, by exact set1 _ _ _ _, trivial⟩ ?_
                      refine reg hP hn hm [] [0, 1, 2, 3, 9, 10, 11] [0] ⟨[(0, .own 0), (1, iV .i64 a1), (2, iV .i64 a2), (3, .im (.sc (.func (.func 50) #[] #[]))), (9, iV .i64 x909), (10, iV .i64 x866), (11, iV .i64 (IntKind.i64.wrap (x956 - (1 : Int))))], [(0, some (.row 4 89 (((x955.set (Int.toNat (x956)) b969).set (Int.toNat (IntKind.i64.wrap (x956 - (1 : Int)))) b966).map eplan_Item)))], 1⟩ [] (by kernel_rfl) trivial ?_
                      exact LWp.conv (inv := [(0, 0)]) (vk := []) (e0 := []) (t := ⟨[(0, .own 0), (1, iV .i64 a1), (2, iV .i64 a2), (3, .im (.sc (.func (.func 50) #[] #[]))), (9, iV .i64 x909), (10, iV .i64 x866), (11, iV .i64 (IntKind.i64.wrap (x956 - (1 : Int))))], [(0, some (.row 4 89 (((x955.set (Int.toNat (x956)) b969).set (Int.toNat (IntKind.i64.wrap (x956 - (1 : Int)))) b966).map eplan_Item)))], 1⟩) (by kernel_rfl) (ih _ _ _ H)
                  · replace H := (ifF c957).symm.trans H
                    refine AWp.exit ?_
                    obtain rfl := Option.some.inj H
                    exact Exists.intro _ (And.intro (fun _ _ h => h.conv (inv := [(0, 0)]) (vk := []) (e0 := []) (t := ⟨[(0, .own 0), (1, iV .i64 a1), (2, iV .i64 a2), (3, .im (.sc (.func (.func 50) #[] #[]))), (9, iV .i64 x909), (10, iV .i64 x866)], [(0, some (.row 4 89 (x955.map eplan_Item)))], 1⟩) (by kernel_rfl)) (And.intro rfl rfl))
                · obtain ⟨x981, rfl⟩ : ∃ z, z = o1045 := ⟨_, rfl⟩
                  rintro e s ⟨rfl, rfl⟩
                  obtain rfl := Option.some.inj H
                  exact Exists.intro _ (And.intro (fun _ _ h => h.conv (inv := [(0, 0)]) (vk := []) (e0 := []) (t := ⟨[(0, .own 0), (1, iV .i64 a1), (2, iV .i64 a2), (3, .im (.sc (.func (.func 50) #[] #[]))), (9, iV .i64 x909), (10, iV .i64 x866)], [(0, some (.row 4 89 (x981.map eplan_Item)))], 1⟩) (by kernel_rfl)) (And.intro rfl rfl))
              · replace H := (ifF c930).symm.trans H
                refine AWp.skip ?_
                obtain rfl := Option.some.inj H
                exact Exists.intro _ (And.intro (fun _ _ h => h.conv (inv := [(0, 0)]) (vk := []) (e0 := []) (t := ⟨[(0, .own 0), (1, iV .i64 a1), (2, iV .i64 a2), (3, .im (.sc (.func (.func 50) #[] #[]))), (9, iV .i64 x909), (10, iV .i64 x866)], [(0, some (.row 4 89 (((x864.set (Int.toNat (x909)) b921).set (Int.toNat (IntKind.i64.wrap (x909 - (1 : Int)))) b924).map eplan_Item)))], 1⟩) (by kernel_rfl)) (And.intro rfl rfl))
            · obtain ⟨x982, rfl⟩ : ∃ z, z = o1043 := ⟨_, rfl⟩
              rintro e s ⟨rfl, rfl⟩
              refine AWp.seq ?_
              refine reg hP hn hm [] [0, 1, 2, 3, 9, 10, 104] [0] ⟨[(0, .own 0), (1, iV .i64 a1), (2, iV .i64 a2), (3, .im (.sc (.func (.func 50) #[] #[]))), (9, iV .i64 x909), (10, iV .i64 x866), (104, bV (decide ((IntKind.i64.wrap (a2 - x909)) ≥ (2 : Int))))], [(0, some (.row 4 89 (x982.map eplan_Item)))], 1⟩ [] (by kernel_rfl) trivial ?_
              obtain ⟨o1047, e1048, H⟩ := bind_of H
              refine AWp.mono (Q := fun e s => (match (generalizing := false) o1047 with | x1035 => e = .normal ∧ s = ⟨[(0, .own 0), (1, iV .i64 a1), (2, iV .i64 a2), (3, .im (.sc (.func (.func 50) #[] #[]))), (9, iV .i64 x909), (10, iV .i64 x866)], [(0, some (.row 4 89 (x1035.map eplan_Item)))], 1⟩)) (AWp.cv ?_) ?_
              · replace H := e1048; clear e1048
                refine AWp.cond (decide ((IntKind.i64.wrap (a2 - x909)) ≥ (2 : Int))) rfl (fun c983 => ?_) (fun c983 => ?_)
                · replace H := (ifT c983).symm.trans H
                  refine AWp.seq ?_
                  refine reg hP hn hm [] [0, 1, 2, 3, 9, 10, 12] [0] ⟨[(0, .own 0), (1, iV .i64 a1), (2, iV .i64 a2), (3, .im (.sc (.func (.func 50) #[] #[]))), (9, iV .i64 x909), (10, iV .i64 x866), (12, iV .i64 (IntKind.i64.wrap (x909 + (1 : Int))))], [(0, some (.row 4 89 (x982.map eplan_Item)))], 1⟩ [] (by kernel_rfl) trivial ?_
                  refine AWp.block ?_
                  obtain ⟨o1049, e1050, H⟩ := bind_of H
                  refine AWp.loop (LWp.conv (inv := [(0, 0)]) (vk := []) (e0 := []) (t := ⟨[(0, .own 0), (1, iV .i64 a1), (2, iV .i64 a2), (3, .im (.sc (.func (.func 50) #[] #[]))), (9, iV .i64 x909), (10, iV .i64 x866), (12, iV .i64 (IntKind.i64.wrap (x909 + (1 : Int))))], [(0, some (.row 4 89 (x982.map eplan_Item)))], 1⟩) (by kernel_rfl) ?_)
                  refine LWp.mono (Q := fun e s => (match (generalizing := false) o1049 with | x1034 => e = .exit 6 ∧ s = ⟨[(0, .own 0), (1, iV .i64 a1), (2, iV .i64 a2), (3, .im (.sc (.func (.func 50) #[] #[]))), (9, iV .i64 x909), (10, iV .i64 x866)], [(0, some (.row 4 89 (x1034.map eplan_Item)))], 1⟩)) (LWp.cv (withBody (fun body hbody => ?_))) ?_
                  · refine f_slices_partialInsertionSortCmpFunc_plan_Item_plan_sorted_1.l3.partial_correctness a1 a2 x866 x909 (motive := fun x1008 x1009 o1049 => LWp Γ body (fun e s => ∃ t, Cv Γ s t ∧ (match (generalizing := false) o1049 with | x1034 => e = .exit 6 ∧ t = ⟨[(0, .own 0), (1, iV .i64 a1), (2, iV .i64 a2), (3, .im (.sc (.func (.func 50) #[] #[]))), (9, iV .i64 x909), (10, iV .i64 x866)], [(0, some (.row 4 89 (x1034.map eplan_Item)))], 1⟩)) ⟨[(0, .own 0), (1, iV .i64 a1), (2, iV .i64 a2), (3, .im (.sc (.func (.func 50) #[] #[]))), (9, iV .i64 x909), (10, iV .i64 x866), (12, iV .i64 x1009)], [(0, some (.row 4 89 (x1008.map eplan_Item)))], 1⟩) ?_ _ _ _ e1050
                    clear H e1050 o1049; intro self ih x1008 x1009 o1049 H
                    subst hbody
                    refine LWp.round ?_
                    refine AWp.seq ?_
                    refine AWp.seq ?_
                    refine reg hP hn hm [] [0, 1, 2, 3, 9, 10, 12, 109] [0] ⟨[(0, .own 0), (1, iV .i64 a1), (2, iV .i64 a2), (3, .im (.sc (.func (.func 50) #[] #[]))), (9, iV .i64 x909), (10, iV .i64 x866), (12, iV .i64 x1009), (109, bV (decide (x1009 < a2)))], [(0, some (.row 4 89 (x1008.map eplan_Item)))], 1⟩ [] (by kernel_rfl) trivial ?_
                    refine AWp.cond (decide (x1009 < a2)) rfl (fun c1010 => ?_) (fun c1010 => ?_)
                    · replace H := (ifT c1010).symm.trans H
                      refine AWp.skip ?_
                      refine AWp.seq ?_
                      refine AWp.block ?_
                      refine AWp.seq ?_
                      refine AWp.seq ?_
                      obtain ⟨b1019, p1020, q1021, H⟩ := at_of H
                      obtain ⟨b1022, p1023, q1024, H⟩ := at_of H
                      obtain ⟨t1025, e1026, H⟩ := bind_of H
                      refine reg hP hn hm [(4, .c (eplan_Item b1019)), (9, .c (eplan_Item b1022)), (10, .call [] [] [] [] 0 (iV .i64 t1025) [])] [0, 1, 2, 3, 9, 10, 12, 124] [0] ⟨[(0, .own 0), (1, iV .i64 a1), (2, iV .i64 a2), (3, .im (.sc (.func (.func 50) #[] #[]))), (9, iV .i64 x909), (10, iV .i64 x866), (12, iV .i64 x1009), (124, bV (!(decide (t1025 < (0 : Int)))))], [(0, some (.row 4 89 (x1008.map eplan_Item)))], 1⟩ [0 ≤ x1009, x1009 < (((x1008.map eplan_Item).length : Nat) : Int), (x1008.map eplan_Item)[(Int.toNat (x1009))]? = some (eplan_Item b1019), 0 ≤ (IntKind.i64.wrap (x1009 - (1 : Int))), IntKind.i64.wrap (x1009 - (1 : Int)) < (((x1008.map eplan_Item).length : Nat) : Int), (x1008.map eplan_Item)[(Int.toNat (IntKind.i64.wrap (x1009 - (1 : Int))))]? = some (eplan_Item b1022), Enters Try.prog 50, Pv.Fn Try.prog 50 [.agg (apluvialref17_Item ⟨b1019.f0, b1019.f1.f0, b1019.f1.f1, b1019.f1.f2⟩), .agg (apluvialref17_Item ⟨b1022.f0, b1022.f1.f0, b1022.f1.f1, b1022.f1.f2⟩)] [] 0 (fun r o => r = iV .i64 t1025 ∧ o = [])] (by kernel_rfl) ⟨by exact p1020, by exact el_lt eplan_Item p1020 q1021, by exact el_map eplan_Item q1021, by exact p1023, by exact el_lt eplan_Item p1023 q1024, by exact el_map eplan_Item q1024, by exact Try.call50, by exact f_plan_sorted_1.ok b1019 b1022 t1025 e1026, trivial⟩ ?_
                      refine AWp.cond (!(decide (t1025 < (0 : Int)))) rfl (fun c1027 => ?_) (fun c1027 => ?_)
                      · replace H := (ifT c1027).symm.trans H
                        refine AWp.exit ?_
                        obtain rfl := Option.some.inj H
                        exact Exists.intro _ (And.intro (fun _ _ h => h.conv (inv := [(0, 0)]) (vk := []) (e0 := []) (t := ⟨[(0, .own 0), (1, iV .i64 a1), (2, iV .i64 a2), (3, .im (.sc (.func (.func 50) #[] #[]))), (9, iV .i64 x909), (10, iV .i64 x866)], [(0, some (.row 4 89 (x1008.map eplan_Item)))], 1⟩) (by kernel_rfl)) (And.intro rfl rfl))
                      · replace H := (ifF c1027).symm.trans H
                        refine AWp.skip ?_
                        obtain ⟨b1031, p1032, q1033, H⟩ := at_of H
                        refine reg hP hn hm [(9, .c (eplan_Item b1022)), (13, .c (eplan_Item b1019)), (15, .put (eplan_Item b1019) ((x1008.set (Int.toNat (x1009)) b1022).map eplan_Item)), (17, .put (eplan_Item b1031) (((x1008.set (Int.toNat (x1009)) b1022).set (Int.toNat (IntKind.i64.wrap (x1009 - (1 : Int)))) b1019).map eplan_Item))] [0, 1, 2, 3, 9, 10, 12] [0] ⟨[(0, .own 0), (1, iV .i64 a1), (2, iV .i64 a2), (3, .im (.sc (.func (.func 50) #[] #[]))), (9, iV .i64 x909), (10, iV .i64 x866), (12, iV .i64 x1009)], [(0, some (.row 4 89 (((x1008.set (Int.toNat (x1009)) b1022).set (Int.toNat (IntKind.i64.wrap (x1009 - (1 : Int)))) b1019).map eplan_Item)))], 1⟩ [0 ≤ (IntKind.i64.wrap (x1009 - (1 : Int))), IntKind.i64.wrap (x1009 - (1 : Int)) < (((x1008.map eplan_Item).length : Nat) : Int), (x1008.map eplan_Item)[(Int.toNat (IntKind.i64.wrap (x1009 - (1 : Int))))]? = some (eplan_Item b1022), 0 ≤ x1009, x1009 < (((x1008.map eplan_Item).length : Nat) : Int), (x1008.map eplan_Item)[(Int.toNat (x1009))]? = some (eplan_Item b1019), 0 ≤ x1009, x1009 < (((x1008.map eplan_Item).length : Nat) : Int), (x1008.map eplan_Item)[(Int.toNat (x1009))]? = some (eplan_Item b1019), (x1008.set (Int.toNat (x1009)) b1022).map eplan_Item = (x1008.map eplan_Item).set (Int.toNat (x1009)) (splice (eplan_Item b1019) 0 [iI .i64 b1022.f0, iI .i64 b1022.f1.f0, iI .i64 b1022.f1.f1, iI .i64 b1022.f1.f2]), 0 ≤ (IntKind.i64.wrap (x1009 - (1 : Int))), IntKind.i64.wrap (x1009 - (1 : Int)) < ((((x1008.set (Int.toNat (x1009)) b1022).map eplan_Item).length : Nat) : Int), ((x1008.set (Int.toNat (x1009)) b1022).map eplan_Item)[(Int.toNat (IntKind.i64.wrap (x1009 - (1 : Int))))]? = some (eplan_Item b1031), ((x1008.set (Int.toNat (x1009)) b1022).set (Int.toNat (IntKind.i64.wrap (x1009 - (1 : Int)))) b1019).map eplan_Item = ((x1008.set (Int.toNat (x1009)) b1022).map eplan_Item).set (Int.toNat (IntKind.i64.wrap (x1009 - (1 : Int)))) (splice (eplan_Item b1031) 0 [iI .i64 b1019.f0, iI .i64 b1019.f1.f0, iI .i64 b1019.f1.f1, iI .i64 b1019.f1.f2])] (by kernel_rfl) ⟨by exact p1023, by exact el_lt eplan_Item p1023 q1024, by exact el_map eplan_Item q1024, by exact p1020, by exact el_lt eplan_Item p1020 q1021, by exact el_map eplan_Item q1021, by exact p1020, by exact el_lt eplan_Item p1020 q1021, by exact el_map eplan_Item q1021, by exact set1 _ _ _ _, by exact p1032, by exact el_lt eplan_Item p1032 q1033, by exact el_map eplan_Item q1033, by exact set1 _ _ _ _, trivial⟩ ?_
                        refine reg hP hn hm [] [0, 1, 2, 3, 9, 10, 12] [0] ⟨[(0, .own 0), (1, iV .i64 a1), (2, iV .i64 a2), (3, .im (.sc (.func (.func 50) #[] #[]))), (9, iV .i64 x909), (10, iV .i64 x866), (12, iV .i64 (IntKind.i64.wrap (x1009 + (1 : Int))))], [(0, some (.row 4 89 (((x1008.set (Int.toNat (x1009)) b1022).set (Int.toNat (IntKind.i64.wrap (x1009 - (1 : Int)))) b1019).map eplan_Item)))], 1⟩ [] (by kernel_rfl) trivial ?_
                        exact LWp.conv (inv := [(0, 0)]) (vk := []) (e0 := []) (t := ⟨[(0, .own 0), (1, iV .i64 a1), (2, iV .i64 a2), (3, .im (.sc (.func (.func 50) #[] #[]))), (9, iV .i64 x909), (10, iV .i64 x866), (12, iV .i64 (IntKind.i64.wrap (x1009 + (1 : Int))))], [(0, some (.row 4 89 (((x1008.set (Int.toNat (x1009)) b1022).set (Int.toNat (IntKind.i64.wrap (x1009 - (1 : Int)))) b1019).map eplan_Item)))], 1⟩) (by kernel_rfl) (ih _ _ _ H)
                    · replace H := (ifF c1010).symm.trans H
                      refine AWp.exit ?_
                      obtain rfl := Option.some.inj H
                      exact Exists.intro _ (And.intro (fun _ _ h => h.conv (inv := [(0, 0)]) (vk := []) (e0 := []) (t := ⟨[(0, .own 0), (1, iV .i64 a1), (2, iV .i64 a2), (3, .im (.sc (.func (.func 50) #[] #[]))), (9, iV .i64 x909), (10, iV .i64 x866)], [(0, some (.row 4 89 (x1008.map eplan_Item)))], 1⟩) (by kernel_rfl)) (And.intro rfl rfl))
                  · obtain ⟨x1034, rfl⟩ : ∃ z, z = o1049 := ⟨_, rfl⟩
                    rintro e s ⟨rfl, rfl⟩
                    obtain rfl := Option.some.inj H
                    exact Exists.intro _ (And.intro (fun _ _ h => h.conv (inv := [(0, 0)]) (vk := []) (e0 := []) (t := ⟨[(0, .own 0), (1, iV .i64 a1), (2, iV .i64 a2), (3, .im (.sc (.func (.func 50) #[] #[]))), (9, iV .i64 x909), (10, iV .i64 x866)], [(0, some (.row 4 89 (x1034.map eplan_Item)))], 1⟩) (by kernel_rfl)) (And.intro rfl rfl))
                · replace H := (ifF c983).symm.trans H
                  refine AWp.skip ?_
                  obtain rfl := Option.some.inj H
                  exact Exists.intro _ (And.intro (fun _ _ h => h.conv (inv := [(0, 0)]) (vk := []) (e0 := []) (t := ⟨[(0, .own 0), (1, iV .i64 a1), (2, iV .i64 a2), (3, .im (.sc (.func (.func 50) #[] #[]))), (9, iV .i64 x909), (10, iV .i64 x866)], [(0, some (.row 4 89 (x982.map eplan_Item)))], 1⟩) (by kernel_rfl)) (And.intro rfl rfl))
              · obtain ⟨x1035, rfl⟩ : ∃ z, z = o1047 := ⟨_, rfl⟩
                rintro e s ⟨rfl, rfl⟩
                refine reg hP hn hm [] [0, 1, 2, 3, 9, 10] [0] ⟨[(0, .own 0), (1, iV .i64 a1), (2, iV .i64 a2), (3, .im (.sc (.func (.func 50) #[] #[]))), (9, iV .i64 x909), (10, iV .i64 (IntKind.i64.wrap (x866 + (1 : Int))))], [(0, some (.row 4 89 (x1035.map eplan_Item)))], 1⟩ [] (by kernel_rfl) trivial ?_
                exact LWp.conv (inv := [(0, 0)]) (vk := []) (e0 := []) (t := ⟨[(0, .own 0), (1, iV .i64 a1), (2, iV .i64 a2), (3, .im (.sc (.func (.func 50) #[] #[]))), (9, iV .i64 x909), (10, iV .i64 (IntKind.i64.wrap (x866 + (1 : Int))))], [(0, some (.row 4 89 (x1035.map eplan_Item)))], 1⟩) (by kernel_rfl) (ih _ _ _ _ H)
    · replace H := (ifF c867).symm.trans H
      refine AWp.exit ?_
      obtain rfl := Option.some.inj H
      exact Exists.intro _ (And.intro (fun _ _ h => h.conv (inv := [(0, 0)]) (vk := []) (e0 := []) (t := ⟨[], [(0, some (.row 4 89 (x864.map eplan_Item)))], 1⟩) (by kernel_rfl)) (And.intro rfl rfl))
  · rcases o1037 with rr | x1036
    · skip
      rintro e s ⟨rfl, hfl, hres⟩
      obtain rfl := Option.some.inj H
      exact Exists.intro _ (And.intro (fun _ _ h => h) (And.intro (.inl rfl) (And.intro hfl hres)))
    · skip
      rintro e s ⟨rfl, rfl⟩
      refine AWp.seq ?_
      refine reg hP hn hm [] [8] [0] ⟨[(8, bV false)], [(0, some (.row 4 89 (x1036.map eplan_Item)))], 1⟩ [] (by kernel_rfl) trivial ?_
      refine AWp.conv (inv := [(0, 0)]) (vk := []) (e0 := []) (t := ⟨[(8, bV false)], [(0, some (.row 4 89 (x1036.map eplan_Item)))], 1⟩) (by kernel_rfl) ?_
      refine AWp.ret ?_
      obtain rfl := Option.some.inj H
      exact Exists.intro _ (And.intro (fun _ _ h => h) (And.intro (.inl rfl) (And.intro rfl (And.intro (by kernel_rfl) (by kernel_rfl)))))
def f_slices_partitionEqualCmpFunc_plan_Item_plan_sorted_1.l1 (a1 : Int) (x1198 : List Tplan_Item) (x1200 : Int) (x1221 : Int) : Option (Int) := ((if (decide (x1221 ≤ x1200)) = true then ((at? x1198 a1) >>= fun b1232 => (at? x1198 x1221) >>= fun b1235 => (f_plan_sorted_1.f b1232 b1235) >>= fun t1238 => some (!(decide (t1238 < (0 : Int))))) else (some false)) : Option (Bool)) >>= fun x1240 => if x1240 = true then (f_slices_partitionEqualCmpFunc_plan_Item_plan_sorted_1.l1 a1 x1198 x1200 (IntKind.i64.wrap (x1221 + (1 : Int)))) else (some x1221)
partial_fixpoint
def f_slices_partitionEqualCmpFunc_plan_Item_plan_sorted_1.l2 (a1 : Int) (x1198 : List Tplan_Item) (x1242 : Int) (x1263 : Int) : Option (Int) := ((if (decide (x1242 ≤ x1263)) = true then ((at? x1198 a1) >>= fun b1274 => (at? x1198 x1263) >>= fun b1277 => (f_plan_sorted_1.f b1274 b1277) >>= fun t1280 => some (decide (t1280 < (0 : Int)))) else (some false)) : Option (Bool)) >>= fun x1282 => if x1282 = true then (f_slices_partitionEqualCmpFunc_plan_Item_plan_sorted_1.l2 a1 x1198 x1242 (IntKind.i64.wrap (x1263 - (1 : Int)))) else (some x1263)
partial_fixpoint
def f_slices_partitionEqualCmpFunc_plan_Item_plan_sorted_1.l0 (a1 : Int) (x1198 : List Tplan_Item) (x1199 : Int) (x1200 : Int) : Option (Int × (List Tplan_Item)) := (f_slices_partitionEqualCmpFunc_plan_Item_plan_sorted_1.l1 a1 x1198 x1200 x1199) >>= fun x1242 => (f_slices_partitionEqualCmpFunc_plan_Item_plan_sorted_1.l2 a1 x1198 x1242 x1200) >>= fun x1284 => if (decide (x1242 > x1284)) = true then (some (x1242, x1198)) else ((at? x1198 x1284) >>= fun b1295 => (at? x1198 x1242) >>= fun b1298 => (at? (x1198.set (Int.toNat (x1242)) b1295) x1284) >>= fun b1301 => f_slices_partitionEqualCmpFunc_plan_Item_plan_sorted_1.l0 a1 ((x1198.set (Int.toNat (x1242)) b1295).set (Int.toNat (x1284)) b1298) (IntKind.i64.wrap (x1242 + (1 : Int))) (IntKind.i64.wrap (x1284 - (1 : Int))))
partial_fixpoint
def f_slices_partitionEqualCmpFunc_plan_Item_plan_sorted_1.f (a0 : List Tplan_Item) (a1 : Int) (a2 : Int) (a3 : Int) : Option (Int × (List Tplan_Item)) := (at? a0 a3) >>= fun b1086 => (at? a0 a1) >>= fun b1089 => (at? (a0.set (Int.toNat (a1)) b1086) a3) >>= fun b1092 => (f_slices_partitionEqualCmpFunc_plan_Item_plan_sorted_1.l0 a1 ((a0.set (Int.toNat (a1)) b1086).set (Int.toNat (a3)) b1089) (IntKind.i64.wrap (a1 + (1 : Int))) (IntKind.i64.wrap (a2 - (1 : Int)))) >>= fun oo => match oo with | (x1304, x1305) => (some (x1304, x1305))
theorem f_slices_partitionEqualCmpFunc_plan_Item_plan_sorted_1.ok (a0 : List Tplan_Item) (a1 : Int) (a2 : Int) (a3 : Int) (r : Int × (List Tplan_Item)) (H : f_slices_partitionEqualCmpFunc_plan_Item_plan_sorted_1.f a0 a1 a2 a3 = some r) : Pv.Fn Try.prog 110 [.own 0, iV .i64 a1, iV .i64 a2, iV .i64 a3, .im (.sc (.func (.func 50) #[] #[]))] [(0, some (.row 4 89 (a0.map eplan_Item)))] 1 (fun x o => x = iV .i64 r.1 ∧ o = [(0, some (.row 4 89 (r.2.map eplan_Item)))]) := by
  unfold f_slices_partitionEqualCmpFunc_plan_Item_plan_sorted_1.f at H
  refine Fn.bodyK [0] Try.func110 rfl rfl (fun Γ hP hn => ?_)
  have hm : Try.prog.follows .mixedOrders = true := by kernel_rfl
  replace hn : Γ.n = 90 := hn
  refine AWp.seq ?_
  refine reg hP hn hm [] [0, 1, 2, 3, 4] [0] ⟨[(0, .own 0), (1, iV .i64 a1), (2, iV .i64 a2), (3, iV .i64 a3), (4, .im (.sc (.func (.func 50) #[] #[])))], [(0, some (.row 4 89 (a0.map eplan_Item)))], 1⟩ [] (by kernel_rfl) trivial ?_
  refine AWp.seq ?_
  obtain ⟨b1086, p1087, q1088, H⟩ := at_of H
  obtain ⟨b1089, p1090, q1091, H⟩ := at_of H
  obtain ⟨b1092, p1093, q1094, H⟩ := at_of H
  refine reg hP hn hm [(7, .c (eplan_Item b1086)), (11, .c (eplan_Item b1089)), (13, .put (eplan_Item b1089) ((a0.set (Int.toNat (a1)) b1086).map eplan_Item)), (15, .put (eplan_Item b1092) (((a0.set (Int.toNat (a1)) b1086).set (Int.toNat (a3)) b1089).map eplan_Item))] [0, 1, 2, 4] [0] ⟨[(0, .own 0), (1, iV .i64 a1), (2, iV .i64 a2), (4, .im (.sc (.func (.func 50) #[] #[])))], [(0, some (.row 4 89 (((a0.set (Int.toNat (a1)) b1086).set (Int.toNat (a3)) b1089).map eplan_Item)))], 1⟩ [0 ≤ a3, a3 < (((a0.map eplan_Item).length : Nat) : Int), (a0.map eplan_Item)[(Int.toNat (a3))]? = some (eplan_Item b1086), 0 ≤ a1, a1 < (((a0.map eplan_Item).length : Nat) : Int), (a0.map eplan_Item)[(Int.toNat (a1))]? = some (eplan_Item b1089), 0 ≤ a1, a1 < (((a0.map eplan_Item).length : Nat) : Int), (a0.map eplan_Item)[(Int.toNat (a1))]? = some (eplan_Item b1089), (a0.set (Int.toNat (a1)) b1086).map eplan_Item = (a0.map eplan_Item).set (Int.toNat (a1)) (splice (eplan_Item b1089) 0 [iI .i64 b1086.f0, iI .i64 b1086.f1.f0, iI .i64 b1086.f1.f1, iI .i64 b1086.f1.f2]), 0 ≤ a3, a3 < ((((a0.set (Int.toNat (a1)) b1086).map eplan_Item).length : Nat) : Int), ((a0.set (Int.toNat (a1)) b1086).map eplan_Item)[(Int.toNat (a3))]? = some (eplan_Item b1092), ((a0.set (Int.toNat (a1)) b1086).set (Int.toNat (a3)) b1089).map eplan_Item = ((a0.set (Int.toNat (a1)) b1086).map eplan_Item).set (Int.toNat (a3)) (splice (eplan_Item b1092) 0 [iI .i64 b1089.f0, iI .i64 b1089.f1.f0, iI .i64 b1089.f1.f1, iI .i64 b1089.f1.f2])] (by kernel_rfl) ⟨by exact p1087, by exact el_lt eplan_Item p1087 q1088, by exact el_map eplan_Item q1088, by exact p1090, by exact el_lt eplan_Item p1090 q1091, by exact el_map eplan_Item q1091, by exact p1090, by exact el_lt eplan_Item p1090 q1091, by exact el_map eplan_Item q1091, by exact set1 _ _ _ _, by exact p1093, by exact el_lt eplan_Item p1093 q1094, by exact el_map eplan_Item q1094, by exact set1 _ _ _ _, trivial⟩ ?_
  refine AWp.seq ?_
  refine reg hP hn hm [] [0, 1, 4, 11, 12] [0] ⟨[(0, .own 0), (1, iV .i64 a1), (4, .im (.sc (.func (.func 50) #[] #[]))), (11, iV .i64 (IntKind.i64.wrap (a1 + (1 : Int)))), (12, iV .i64 (IntKind.i64.wrap (a2 - (1 : Int))))], [(0, some (.row 4 89 (((a0.set (Int.toNat (a1)) b1086).set (Int.toNat (a3)) b1089).map eplan_Item)))], 1⟩ [] (by kernel_rfl) trivial ?_
  refine AWp.seq ?_
  refine AWp.block ?_
  obtain ⟨o1306, e1307, H⟩ := bind_of H
  refine AWp.loop (LWp.conv (inv := [(0, 0)]) (vk := []) (e0 := []) (t := ⟨[(0, .own 0), (1, iV .i64 a1), (4, .im (.sc (.func (.func 50) #[] #[]))), (11, iV .i64 (IntKind.i64.wrap (a1 + (1 : Int)))), (12, iV .i64 (IntKind.i64.wrap (a2 - (1 : Int))))], [(0, some (.row 4 89 (((a0.set (Int.toNat (a1)) b1086).set (Int.toNat (a3)) b1089).map eplan_Item)))], 1⟩) (by kernel_rfl) ?_)
  refine LWp.mono (Q := fun e s => (match (generalizing := false) o1306 with | (x1304, x1305) => e = .exit 0 ∧ s = ⟨[(11, iV .i64 x1304)], [(0, some (.row 4 89 (x1305.map eplan_Item)))], 1⟩)) (LWp.cv (withBody (fun body hbody => ?_))) ?_
  · refine f_slices_partitionEqualCmpFunc_plan_Item_plan_sorted_1.l0.partial_correctness a1 (motive := fun x1198 x1199 x1200 o1306 => LWp Γ body (fun e s => ∃ t, Cv Γ s t ∧ (match (generalizing := false) o1306 with | (x1304, x1305) => e = .exit 0 ∧ t = ⟨[(11, iV .i64 x1304)], [(0, some (.row 4 89 (x1305.map eplan_Item)))], 1⟩)) ⟨[(0, .own 0), (1, iV .i64 a1), (4, .im (.sc (.func (.func 50) #[] #[]))), (11, iV .i64 x1199), (12, iV .i64 x1200)], [(0, some (.row 4 89 (x1198.map eplan_Item)))], 1⟩) ?_ _ _ _ _ e1307
    clear H e1307 o1306; intro self ih x1198 x1199 x1200 o1306 H
    subst hbody
    refine LWp.round ?_
    refine AWp.block ?_
    refine AWp.seq ?_
    refine AWp.block ?_
    obtain ⟨o1308, e1309, H⟩ := bind_of H
    refine AWp.loop (LWp.conv (inv := [(0, 0)]) (vk := []) (e0 := []) (t := ⟨[(0, .own 0), (1, iV .i64 a1), (4, .im (.sc (.func (.func 50) #[] #[]))), (11, iV .i64 x1199), (12, iV .i64 x1200)], [(0, some (.row 4 89 (x1198.map eplan_Item)))], 1⟩) (by kernel_rfl) ?_)
    refine LWp.mono (Q := fun e s => (match (generalizing := false) o1308 with | x1242 => e = .exit 2 ∧ s = ⟨[(0, .own 0), (1, iV .i64 a1), (4, .im (.sc (.func (.func 50) #[] #[]))), (11, iV .i64 x1242), (12, iV .i64 x1200)], [(0, some (.row 4 89 (x1198.map eplan_Item)))], 1⟩)) (LWp.cv (withBody (fun body hbody => ?_))) ?_
    · refine f_slices_partitionEqualCmpFunc_plan_Item_plan_sorted_1.l1.partial_correctness a1 x1198 x1200 (motive := fun x1221 o1308 => LWp Γ body (fun e s => ∃ t, Cv Γ s t ∧ (match (generalizing := false) o1308 with | x1242 => e = .exit 2 ∧ t = ⟨[(0, .own 0), (1, iV .i64 a1), (4, .im (.sc (.func (.func 50) #[] #[]))), (11, iV .i64 x1242), (12, iV .i64 x1200)], [(0, some (.row 4 89 (x1198.map eplan_Item)))], 1⟩)) ⟨[(0, .own 0), (1, iV .i64 a1), (4, .im (.sc (.func (.func 50) #[] #[]))), (11, iV .i64 x1221), (12, iV .i64 x1200)], [(0, some (.row 4 89 (x1198.map eplan_Item)))], 1⟩) ?_ _ _ e1309
      clear H e1309 o1308; intro self ih x1221 o1308 H
      subst hbody
      refine LWp.round ?_
      refine AWp.seq ?_
      refine AWp.seq ?_
      obtain ⟨o1310, e1311, H⟩ := bind_of H
      refine AWp.mono (Q := fun e s => (match (generalizing := false) o1310 with | x1240 => e = .normal ∧ s = ⟨[(0, .own 0), (1, iV .i64 a1), (4, .im (.sc (.func (.func 50) #[] #[]))), (11, iV .i64 x1221), (12, iV .i64 x1200), (47, bV x1240)], [(0, some (.row 4 89 (x1198.map eplan_Item)))], 1⟩)) (AWp.cv ?_) ?_
      · replace H := e1311; clear e1311
        rcases Bool.eq_false_or_eq_true (decide (x1221 ≤ x1200)) with c1231 | c1231
        · replace H := (ifT c1231).symm.trans H
          obtain ⟨b1232, p1233, q1234, H⟩ := at_of H
          obtain ⟨b1235, p1236, q1237, H⟩ := at_of H
          obtain ⟨t1238, e1239, H⟩ := bind_of H
          refine reg hP hn hm [(3, .b true), (8, .c (eplan_Item b1232)), (12, .c (eplan_Item b1235)), (13, .call [] [] [] [] 0 (iV .i64 t1238) [])] [0, 1, 4, 11, 12, 35, 36, 37, 38, 39, 40, 41, 42, 43, 44, 45, 46, 47] [0] ⟨[(0, .own 0), (1, iV .i64 a1), (4, .im (.sc (.func (.func 50) #[] #[]))), (11, iV .i64 x1221), (12, iV .i64 x1200), (35, .im (.sc (.func (.func 50) #[] #[]))), (36, .own 0), (37, iV .i64 a1), (38, .ptr 0 (Int.toNat (a1)) 0), (39, .agg (apluvialref17_Item ⟨b1232.f0, b1232.f1.f0, b1232.f1.f1, b1232.f1.f2⟩)), (40, .own 0), (41, iV .i64 x1221), (42, .ptr 0 (Int.toNat (x1221)) 0), (43, .agg (apluvialref17_Item ⟨b1235.f0, b1235.f1.f0, b1235.f1.f1, b1235.f1.f2⟩)), (44, iV .i64 t1238), (45, bV (decide (t1238 < (0 : Int)))), (46, bV (!(decide (t1238 < (0 : Int))))), (47, bV (!(decide (t1238 < (0 : Int)))))], [(0, some (.row 4 89 (x1198.map eplan_Item)))], 1⟩ [(decide (x1221 ≤ x1200)) = true, 0 ≤ a1, a1 < (((x1198.map eplan_Item).length : Nat) : Int), (x1198.map eplan_Item)[(Int.toNat (a1))]? = some (eplan_Item b1232), 0 ≤ x1221, x1221 < (((x1198.map eplan_Item).length : Nat) : Int), (x1198.map eplan_Item)[(Int.toNat (x1221))]? = some (eplan_Item b1235), Enters Try.prog 50, Pv.Fn Try.prog 50 [.agg (apluvialref17_Item ⟨b1232.f0, b1232.f1.f0, b1232.f1.f1, b1232.f1.f2⟩), .agg (apluvialref17_Item ⟨b1235.f0, b1235.f1.f0, b1235.f1.f1, b1235.f1.f2⟩)] [] 0 (fun r o => r = iV .i64 t1238 ∧ o = [])] (by kernel_rfl) ⟨by exact c1231, by exact p1233, by exact el_lt eplan_Item p1233 q1234, by exact el_map eplan_Item q1234, by exact p1236, by exact el_lt eplan_Item p1236 q1237, by exact el_map eplan_Item q1237, by exact Try.call50, by exact f_plan_sorted_1.ok b1232 b1235 t1238 e1239, trivial⟩ ?_
          obtain rfl := Option.some.inj H
          exact Exists.intro _ (And.intro (fun _ _ h => h.conv (inv := [(0, 0)]) (vk := []) (e0 := []) (t := ⟨[(0, .own 0), (1, iV .i64 a1), (4, .im (.sc (.func (.func 50) #[] #[]))), (11, iV .i64 x1221), (12, iV .i64 x1200), (47, bV (!(decide (t1238 < (0 : Int)))))], [(0, some (.row 4 89 (x1198.map eplan_Item)))], 1⟩) (by kernel_rfl)) (And.intro rfl rfl))
        · replace H := (ifF c1231).symm.trans H
          refine reg hP hn hm [(3, .b false)] [0, 1, 4, 11, 12, 47] [0] ⟨[(0, .own 0), (1, iV .i64 a1), (4, .im (.sc (.func (.func 50) #[] #[]))), (11, iV .i64 x1221), (12, iV .i64 x1200), (47, bV false)], [(0, some (.row 4 89 (x1198.map eplan_Item)))], 1⟩ [(decide (x1221 ≤ x1200)) = false] (by kernel_rfl) ⟨by exact c1231, trivial⟩ ?_
          obtain rfl := Option.some.inj H
          exact Exists.intro _ (And.intro (fun _ _ h => h.conv (inv := [(0, 0)]) (vk := []) (e0 := []) (t := ⟨[(0, .own 0), (1, iV .i64 a1), (4, .im (.sc (.func (.func 50) #[] #[]))), (11, iV .i64 x1221), (12, iV .i64 x1200), (47, bV false)], [(0, some (.row 4 89 (x1198.map eplan_Item)))], 1⟩) (by kernel_rfl)) (And.intro rfl rfl))
      · obtain ⟨x1240, rfl⟩ : ∃ z, z = o1310 := ⟨_, rfl⟩
        rintro e s ⟨rfl, rfl⟩
        refine AWp.cond x1240 rfl (fun c1241 => ?_) (fun c1241 => ?_)
        · replace H := (ifT c1241).symm.trans H
          refine AWp.skip ?_
          refine AWp.block ?_
          refine reg hP hn hm [] [0, 1, 4, 11, 12] [0] ⟨[(0, .own 0), (1, iV .i64 a1), (4, .im (.sc (.func (.func 50) #[] #[]))), (11, iV .i64 (IntKind.i64.wrap (x1221 + (1 : Int)))), (12, iV .i64 x1200)], [(0, some (.row 4 89 (x1198.map eplan_Item)))], 1⟩ [] (by kernel_rfl) trivial ?_
          exact LWp.conv (inv := [(0, 0)]) (vk := []) (e0 := []) (t := ⟨[(0, .own 0), (1, iV .i64 a1), (4, .im (.sc (.func (.func 50) #[] #[]))), (11, iV .i64 (IntKind.i64.wrap (x1221 + (1 : Int)))), (12, iV .i64 x1200)], [(0, some (.row 4 89 (x1198.map eplan_Item)))], 1⟩) (by kernel_rfl) (ih _ _ H)
        · replace H := (ifF c1241).symm.trans H
          refine AWp.exit ?_
          obtain rfl := Option.some.inj H
          exact Exists.intro _ (And.intro (fun _ _ h => h.conv (inv := [(0, 0)]) (vk := []) (e0 := []) (t := ⟨[(0, .own 0), (1, iV .i64 a1), (4, .im (.sc (.func (.func 50) #[] #[]))), (11, iV .i64 x1221), (12, iV .i64 x1200)], [(0, some (.row 4 89 (x1198.map eplan_Item)))], 1⟩) (by kernel_rfl)) (And.intro rfl rfl))
    · obtain ⟨x1242, rfl⟩ : ∃ z, z = o1308 := ⟨_, rfl⟩
      rintro e s ⟨rfl, rfl⟩
      refine AWp.seq ?_
      refine AWp.block ?_
      obtain ⟨o1312, e1313, H⟩ := bind_of H
      refine AWp.loop (LWp.conv (inv := [(0, 0)]) (vk := []) (e0 := []) (t := ⟨[(0, .own 0), (1, iV .i64 a1), (4, .im (.sc (.func (.func 50) #[] #[]))), (11, iV .i64 x1242), (12, iV .i64 x1200)], [(0, some (.row 4 89 (x1198.map eplan_Item)))], 1⟩) (by kernel_rfl) ?_)
      refine LWp.mono (Q := fun e s => (match (generalizing := false) o1312 with | x1284 => e = .exit 4 ∧ s = ⟨[(0, .own 0), (1, iV .i64 a1), (4, .im (.sc (.func (.func 50) #[] #[]))), (11, iV .i64 x1242), (12, iV .i64 x1284)], [(0, some (.row 4 89 (x1198.map eplan_Item)))], 1⟩)) (LWp.cv (withBody (fun body hbody => ?_))) ?_
      · refine f_slices_partitionEqualCmpFunc_plan_Item_plan_sorted_1.l2.partial_correctness a1 x1198 x1242 (motive := fun x1263 o1312 => LWp Γ body (fun e s => ∃ t, Cv Γ s t ∧ (match (generalizing := false) o1312 with | x1284 => e = .exit 4 ∧ t = ⟨[(0, .own 0), (1, iV .i64 a1), (4, .im (.sc (.func (.func 50) #[] #[]))), (11, iV .i64 x1242), (12, iV .i64 x1284)], [(0, some (.row 4 89 (x1198.map eplan_Item)))], 1⟩)) ⟨[(0, .own 0), (1, iV .i64 a1), (4, .im (.sc (.func (.func 50) #[] #[]))), (11, iV .i64 x1242), (12, iV .i64 x1263)], [(0, some (.row 4 89 (x1198.map eplan_Item)))], 1⟩) ?_ _ _ e1313
        clear H e1313 o1312; intro self ih x1263 o1312 H
        subst hbody
        refine LWp.round ?_
        refine AWp.seq ?_
        refine AWp.seq ?_
        obtain ⟨o1314, e1315, H⟩ := bind_of H
        refine AWp.mono (Q := fun e s => (match (generalizing := false) o1314 with | x1282 => e = .normal ∧ s = ⟨[(0, .own 0), (1, iV .i64 a1), (4, .im (.sc (.func (.func 50) #[] #[]))), (11, iV .i64 x1242), (12, iV .i64 x1263), (65, bV x1282)], [(0, some (.row 4 89 (x1198.map eplan_Item)))], 1⟩)) (AWp.cv ?_) ?_
        · replace H := e1315; clear e1315
          rcases Bool.eq_false_or_eq_true (decide (x1242 ≤ x1263)) with c1273 | c1273
          · replace H := (ifT c1273).symm.trans H
            obtain ⟨b1274, p1275, q1276, H⟩ := at_of H
            obtain ⟨b1277, p1278, q1279, H⟩ := at_of H
            obtain ⟨t1280, e1281, H⟩ := bind_of H
            refine reg hP hn hm [(3, .b true), (8, .c (eplan_Item b1274)), (12, .c (eplan_Item b1277)), (13, .call [] [] [] [] 0 (iV .i64 t1280) [])] [0, 1, 4, 11, 12, 54, 55, 56, 57, 58, 59, 60, 61, 62, 63, 64, 65] [0] ⟨[(0, .own 0), (1, iV .i64 a1), (4, .im (.sc (.func (.func 50) #[] #[]))), (11, iV .i64 x1242), (12, iV .i64 x1263), (54, .im (.sc (.func (.func 50) #[] #[]))), (55, .own 0), (56, iV .i64 a1), (57, .ptr 0 (Int.toNat (a1)) 0), (58, .agg (apluvialref17_Item ⟨b1274.f0, b1274.f1.f0, b1274.f1.f1, b1274.f1.f2⟩)), (59, .own 0), (60, iV .i64 x1263), (61, .ptr 0 (Int.toNat (x1263)) 0), (62, .agg (apluvialref17_Item ⟨b1277.f0, b1277.f1.f0, b1277.f1.f1, b1277.f1.f2⟩)), (63, iV .i64 t1280), (64, bV (decide (t1280 < (0 : Int)))), (65, bV (decide (t1280 < (0 : Int))))], [(0, some (.row 4 89 (x1198.map eplan_Item)))], 1⟩ [(decide (x1242 ≤ x1263)) = true, 0 ≤ a1, a1 < (((x1198.map eplan_Item).length : Nat) : Int), (x1198.map eplan_Item)[(Int.toNat (a1))]? = some (eplan_Item b1274), 0 ≤ x1263, x1263 < (((x1198.map eplan_Item).length : Nat) : Int), (x1198.map eplan_Item)[(Int.toNat (x1263))]? = some (eplan_Item b1277), Enters Try.prog 50, Pv.Fn Try.prog 50 [.agg (apluvialref17_Item ⟨b1274.f0, b1274.f1.f0, b1274.f1.f1, b1274.f1.f2⟩), .agg (apluvialref17_Item ⟨b1277.f0, b1277.f1.f0, b1277.f1.f1, b1277.f1.f2⟩)] [] 0 (fun r o => r = iV .i64 t1280 ∧ o = [])] (by kernel_rfl) ⟨by exact c1273, by exact p1275, by exact el_lt eplan_Item p1275 q1276, by exact el_map eplan_Item q1276, by exact p1278, by exact el_lt eplan_Item p1278 q1279, by exact el_map eplan_Item q1279, by exact Try.call50, by exact f_plan_sorted_1.ok b1274 b1277 t1280 e1281, trivial⟩ ?_
            obtain rfl := Option.some.inj H
            exact Exists.intro _ (And.intro (fun _ _ h => h.conv (inv := [(0, 0)]) (vk := []) (e0 := []) (t := ⟨[(0, .own 0), (1, iV .i64 a1), (4, .im (.sc (.func (.func 50) #[] #[]))), (11, iV .i64 x1242), (12, iV .i64 x1263), (65, bV (decide (t1280 < (0 : Int))))], [(0, some (.row 4 89 (x1198.map eplan_Item)))], 1⟩) (by kernel_rfl)) (And.intro rfl rfl))
          · replace H := (ifF c1273).symm.trans H
            refine reg hP hn hm [(3, .b false)] [0, 1, 4, 11, 12, 65] [0] ⟨[(0, .own 0), (1, iV .i64 a1), (4, .im (.sc (.func (.func 50) #[] #[]))), (11, iV .i64 x1242), (12, iV .i64 x1263), (65, bV false)], [(0, some (.row 4 89 (x1198.map eplan_Item)))], 1⟩ [(decide (x1242 ≤ x1263)) = false] (by kernel_rfl) ⟨by exact c1273, trivial⟩ ?_
            obtain rfl := Option.some.inj H
            exact Exists.intro _ (And.intro (fun _ _ h => h.conv (inv := [(0, 0)]) (vk := []) (e0 := []) (t := ⟨[(0, .own 0), (1, iV .i64 a1), (4, .im (.sc (.func (.func 50) #[] #[]))), (11, iV .i64 x1242), (12, iV .i64 x1263), (65, bV false)], [(0, some (.row 4 89 (x1198.map eplan_Item)))], 1⟩) (by kernel_rfl)) (And.intro rfl rfl))
        · obtain ⟨x1282, rfl⟩ : ∃ z, z = o1314 := ⟨_, rfl⟩
          rintro e s ⟨rfl, rfl⟩
          refine AWp.cond x1282 rfl (fun c1283 => ?_) (fun c1283 => ?_)
          · replace H := (ifT c1283).symm.trans H
            refine AWp.skip ?_
            refine AWp.block ?_
            refine reg hP hn hm [] [0, 1, 4, 11, 12] [0] ⟨[(0, .own 0), (1, iV .i64 a1), (4, .im (.sc (.func (.func 50) #[] #[]))), (11, iV .i64 x1242), (12, iV .i64 (IntKind.i64.wrap (x1263 - (1 : Int))))], [(0, some (.row 4 89 (x1198.map eplan_Item)))], 1⟩ [] (by kernel_rfl) trivial ?_
            exact LWp.conv (inv := [(0, 0)]) (vk := []) (e0 := []) (t := ⟨[(0, .own 0), (1, iV .i64 a1), (4, .im (.sc (.func (.func 50) #[] #[]))), (11, iV .i64 x1242), (12, iV .i64 (IntKind.i64.wrap (x1263 - (1 : Int))))], [(0, some (.row 4 89 (x1198.map eplan_Item)))], 1⟩) (by kernel_rfl) (ih _ _ H)
          · replace H := (ifF c1283).symm.trans H
            refine AWp.exit ?_
            obtain rfl := Option.some.inj H
            exact Exists.intro _ (And.intro (fun _ _ h => h.conv (inv := [(0, 0)]) (vk := []) (e0 := []) (t := ⟨[(0, .own 0), (1, iV .i64 a1), (4, .im (.sc (.func (.func 50) #[] #[]))), (11, iV .i64 x1242), (12, iV .i64 x1263)], [(0, some (.row 4 89 (x1198.map eplan_Item)))], 1⟩) (by kernel_rfl)) (And.intro rfl rfl))
      · obtain ⟨x1284, rfl⟩ : ∃ z, z = o1312 := ⟨_, rfl⟩
        rintro e s ⟨rfl, rfl⟩
        refine AWp.seq ?_
        refine AWp.seq ?_
        refine reg hP hn hm [] [0, 1, 4, 11, 12, 70] [0] ⟨[(0, .own 0), (1, iV .i64 a1), (4, .im (.sc (.func (.func 50) #[] #[]))), (11, iV .i64 x1242), (12, iV .i64 x1284), (70, bV (decide (x1242 > x1284)))], [(0, some (.row 4 89 (x1198.map eplan_Item)))], 1⟩ [] (by kernel_rfl) trivial ?_
        refine AWp.cond (decide (x1242 > x1284)) rfl (fun c1285 => ?_) (fun c1285 => ?_)
        · replace H := (ifT c1285).symm.trans H
          refine AWp.exit ?_
          obtain rfl := Option.some.inj H
          exact Exists.intro _ (And.intro (fun _ _ h => h.conv (inv := [(0, 0)]) (vk := []) (e0 := []) (t := ⟨[(11, iV .i64 x1242)], [(0, some (.row 4 89 (x1198.map eplan_Item)))], 1⟩) (by kernel_rfl)) (And.intro rfl rfl))
        · replace H := (ifF c1285).symm.trans H
          refine AWp.skip ?_
          refine AWp.seq ?_
          obtain ⟨b1295, p1296, q1297, H⟩ := at_of H
          obtain ⟨b1298, p1299, q1300, H⟩ := at_of H
          obtain ⟨b1301, p1302, q1303, H⟩ := at_of H
          refine reg hP hn hm [(7, .c (eplan_Item b1295)), (11, .c (eplan_Item b1298)), (13, .put (eplan_Item b1298) ((x1198.set (Int.toNat (x1242)) b1295).map eplan_Item)), (15, .put (eplan_Item b1301) (((x1198.set (Int.toNat (x1242)) b1295).set (Int.toNat (x1284)) b1298).map eplan_Item))] [0, 1, 4, 11, 12] [0] ⟨[(0, .own 0), (1, iV .i64 a1), (4, .im (.sc (.func (.func 50) #[] #[]))), (11, iV .i64 x1242), (12, iV .i64 x1284)], [(0, some (.row 4 89 (((x1198.set (Int.toNat (x1242)) b1295).set (Int.toNat (x1284)) b1298).map eplan_Item)))], 1⟩ [0 ≤ x1284, x1284 < (((x1198.map eplan_Item).length : Nat) : Int), (x1198.map eplan_Item)[(Int.toNat (x1284))]? = some (eplan_Item b1295), 0 ≤ x1242, x1242 < (((x1198.map eplan_Item).length : Nat) : Int), (x1198.map eplan_Item)[(Int.toNat (x1242))]? = some (eplan_Item b1298), 0 ≤ x1242, x1242 < (((x1198.map eplan_Item).length : Nat) : Int), (x1198.map eplan_Item)[(Int.toNat (x1242))]? = some (eplan_Item b1298), (x1198.set (Int.toNat (x1242)) b1295).map eplan_Item = (x1198.map eplan_Item).set (Int.toNat (x1242)) (splice (eplan_Item b1298) 0 [iI .i64 b1295.f0, iI .i64 b1295.f1.f0, iI .i64 b1295.f1.f1, iI .i64 b1295.f1.f2]), 0 ≤ x1284, x1284 < ((((x1198.set (Int.toNat (x1242)) b1295).map eplan_Item).length : Nat) : Int), ((x1198.set (Int.toNat (x1242)) b1295).map eplan_Item)[(Int.toNat (x1284))]? = some (eplan_Item b1301), ((x1198.set (Int.toNat (x1242)) b1295).set (Int.toNat (x1284)) b1298).map eplan_Item = ((x1198.set (Int.toNat (x1242)) b1295).map eplan_Item).set (Int.toNat (x1284)) (splice (eplan_Item b1301) 0 [iI .i64 b1298.f0, iI .i64 b1298.f1.f0, iI .i64 b1298.f1.f1, iI .i64 b1298.f1.f2])] (by kernel_rfl) ⟨by exact p1296, by exact el_lt eplan_Item p1296 q1297, by exact el_map eplan_Item q1297, by exact p1299, by exact el_lt eplan_Item p1299 q1300, by exact el_map eplan_Item q1300, by exact p1299, by exact el_lt eplan_Item p1299 q1300, by exact el_map eplan_Item q1300, by exact set1 _ _ _ _, by exact p1302, by exact el_lt eplan_Item p1302 q1303, by exact el_map eplan_Item q1303, by exact set1 _ _ _ _, trivial⟩ ?_
          refine AWp.seq ?_
          refine reg hP hn hm [] [0, 1, 4, 11, 12] [0] ⟨[(0, .own 0), (1, iV .i64 a1), (4, .im (.sc (.func (.func 50) #[] #[]))), (11, iV .i64 (IntKind.i64.wrap (x1242 + (1 : Int)))), (12, iV .i64 x1284)], [(0, some (.row 4 89 (((x1198.set (Int.toNat (x1242)) b1295).set (Int.toNat (x1284)) b1298).map eplan_Item)))], 1⟩ [] (by kernel_rfl) trivial ?_
          refine reg hP hn hm [] [0, 1, 4, 11, 12] [0] ⟨[(0, .own 0), (1, iV .i64 a1), (4, .im (.sc (.func (.func 50) #[] #[]))), (11, iV .i64 (IntKind.i64.wrap (x1242 + (1 : Int)))), (12, iV .i64 (IntKind.i64.wrap (x1284 - (1 : Int))))], [(0, some (.row 4 89 (((x1198.set (Int.toNat (x1242)) b1295).set (Int.toNat (x1284)) b1298).map eplan_Item)))], 1⟩ [] (by kernel_rfl) trivial ?_
          exact LWp.conv (inv := [(0, 0)]) (vk := []) (e0 := []) (t := ⟨[(0, .own 0), (1, iV .i64 a1), (4, .im (.sc (.func (.func 50) #[] #[]))), (11, iV .i64 (IntKind.i64.wrap (x1242 + (1 : Int)))), (12, iV .i64 (IntKind.i64.wrap (x1284 - (1 : Int))))], [(0, some (.row 4 89 (((x1198.set (Int.toNat (x1242)) b1295).set (Int.toNat (x1284)) b1298).map eplan_Item)))], 1⟩) (by kernel_rfl) (ih _ _ _ _ H)
  · obtain ⟨x1304, x1305⟩ := o1306
    rintro e s ⟨rfl, rfl⟩
    refine AWp.seq ?_
    refine reg hP hn hm [] [10] [0] ⟨[(10, iV .i64 x1304)], [(0, some (.row 4 89 (x1305.map eplan_Item)))], 1⟩ [] (by kernel_rfl) trivial ?_
    refine AWp.conv (inv := [(0, 0)]) (vk := []) (e0 := []) (t := ⟨[(10, iV .i64 x1304)], [(0, some (.row 4 89 (x1305.map eplan_Item)))], 1⟩) (by kernel_rfl) ?_
    refine AWp.ret ?_
    obtain rfl := Option.some.inj H
    exact Exists.intro _ (And.intro (fun _ _ h => h) (And.intro (.inl rfl) (And.intro rfl (And.intro (by kernel_rfl) (by kernel_rfl)))))
end Go.Proofs.Ytfkppdcfgmgllaa.PvGD2
