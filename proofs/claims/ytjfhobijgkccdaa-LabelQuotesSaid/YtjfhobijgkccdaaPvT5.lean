import Derived.Test.YtjfhobijgkccdaaProg
import Derived.Test.YtjfhobijgkccdaaPvPtr
set_option linter.unusedVariables false
set_option linter.unnecessarySimpa false
set_option maxRecDepth 10000
namespace Go.Proofs.Ytjfhobijgkccdaa.PvT5
open Go Go.Pv
structure S66 where
  f0 : ByteArray
  f1 : ByteArray
  deriving DecidableEq, Inhabited
abbrev enc66 (x : S66) : List Im := [sI x.f0, sI x.f1]
def f_stringslite_HasPrefix.f (a0 : ByteArray) (a1 : ByteArray) : Option (Bool) := ((if (decide ((a0.size : Int) ≥ (a1.size : Int))) = true then ((chk (0 ≤ (0 : Int) ∧ (0 : Int) ≤ (a1.size : Int) ∧ (a1.size : Int) ≤ (a0.size : Int))) >>= fun _ => some ((a0.extract (Int.toNat ((0 : Int))) (Int.toNat ((a1.size : Int)))).toList == a1.toList)) else (some false)) : Option (Bool)) >>= fun x9 => some x9
theorem f_stringslite_HasPrefix.ok (a0 : ByteArray) (a1 : ByteArray) (r : Bool) (H : f_stringslite_HasPrefix.f a0 a1 = some r) : Pv.Fn Try.prog 98 [sV a0, sV a1] [] 0 (fun x o => x = bV r ∧ o = []) := by
  unfold f_stringslite_HasPrefix.f at H
  refine Fn.bodyK [] Try.func98 rfl rfl (fun Γ hP hn => ?_)
  have hm : Try.prog.follows .mixedOrders = true := by kernel_rfl
  replace hn : Γ.n = 18 := hn
  refine AWp.seq ?_
  refine reg hP hn hm [] [0, 1] [] ⟨[(0, sV a0), (1, sV a1)], [], 0⟩ [] (by kernel_rfl) trivial ?_
  refine AWp.seq ?_
  obtain ⟨o10, e11, H⟩ := bind_of H
  refine AWp.mono (Q := fun e s => (match (generalizing := false) o10 with | x9 => e = .normal ∧ s = ⟨[(4, bV x9)], [], 0⟩)) (AWp.cv ?_) ?_
  · replace H := e11; clear e11
    rcases Bool.eq_false_or_eq_true (decide ((a0.size : Int) ≥ (a1.size : Int))) with c7 | c7
    · replace H := (ifT c7).symm.trans H
      obtain ⟨c8, H⟩ := chk_of H
      refine reg hP hn hm [(5, .b true)] [4] [] ⟨[(4, bV ((a0.extract (Int.toNat ((0 : Int))) (Int.toNat ((a1.size : Int)))).toList == a1.toList))], [], 0⟩ [(decide ((a0.size : Int) ≥ (a1.size : Int))) = true, 0 ≤ (0 : Int), (0 : Int) ≤ (a1.size : Int), (a1.size : Int) ≤ (a0.size : Int)] (by kernel_rfl) ⟨by exact c7, by exact c8.1, by exact c8.2.1, by exact c8.2.2, trivial⟩ ?_
      obtain rfl := Option.some.inj H
      exact Exists.intro _ (And.intro (fun _ _ h => h.conv (inv := []) (vk := []) (e0 := []) (t := ⟨[(4, bV ((a0.extract (Int.toNat ((0 : Int))) (Int.toNat ((a1.size : Int)))).toList == a1.toList))], [], 0⟩) (by kernel_rfl)) (And.intro rfl rfl))
    · replace H := (ifF c7).symm.trans H
      refine reg hP hn hm [(5, .b false)] [4] [] ⟨[(4, bV false)], [], 0⟩ [(decide ((a0.size : Int) ≥ (a1.size : Int))) = false] (by kernel_rfl) ⟨by exact c7, trivial⟩ ?_
      obtain rfl := Option.some.inj H
      exact Exists.intro _ (And.intro (fun _ _ h => h.conv (inv := []) (vk := []) (e0 := []) (t := ⟨[(4, bV false)], [], 0⟩) (by kernel_rfl)) (And.intro rfl rfl))
  · obtain ⟨x9, rfl⟩ : ∃ z, z = o10 := ⟨_, rfl⟩
    rintro e s ⟨rfl, rfl⟩
    refine AWp.conv (inv := []) (vk := []) (e0 := []) (t := ⟨[(4, bV x9)], [], 0⟩) (by kernel_rfl) ?_
    refine AWp.ret ?_
    obtain rfl := Option.some.inj H
    exact Exists.intro _ (And.intro (fun _ _ h => h) (And.intro (.inl rfl) (And.intro rfl (And.intro (by kernel_rfl) (by kernel_rfl)))))
def f_stringslite_CutPrefix.f (a0 : ByteArray) (a1 : ByteArray) : Option (ByteArray × Bool) := (f_stringslite_HasPrefix.f a0 a1) >>= fun t14 => if (!t14) = true then (some (a0, false)) else ((chk (0 ≤ (a1.size : Int) ∧ (a1.size : Int) ≤ (a0.size : Int) ∧ (a0.size : Int) ≤ (a0.size : Int))) >>= fun _ => some (a0.extract (Int.toNat ((a1.size : Int))) (Int.toNat ((a0.size : Int))), true))
theorem f_stringslite_CutPrefix.ok (a0 : ByteArray) (a1 : ByteArray) (r : ByteArray × Bool) (H : f_stringslite_CutPrefix.f a0 a1 = some r) : Pv.Fn Try.prog 83 [sV a0, sV a1] [] 0 (fun x o => x = .tup [sV r.1, bV r.2] ∧ o = []) := by
  unfold f_stringslite_CutPrefix.f at H
  refine Fn.bodyK [] Try.func83 rfl rfl (fun Γ hP hn => ?_)
  have hm : Try.prog.follows .mixedOrders = true := by kernel_rfl
  replace hn : Γ.n = 15 := hn
  refine AWp.seq ?_
  refine reg hP hn hm [] [0, 1] [] ⟨[(0, sV a0), (1, sV a1)], [], 0⟩ [] (by kernel_rfl) trivial ?_
  refine AWp.seq ?_
  refine AWp.seq ?_
  obtain ⟨t14, e15, H⟩ := bind_of H
  refine reg hP hn hm [(2, .call [] [] [] [] 0 (bV t14) [])] [0, 1, 9] [] ⟨[(0, sV a0), (1, sV a1), (9, bV (!t14))], [], 0⟩ [Enters Try.prog 98, Pv.Fn Try.prog 98 [sV a0, sV a1] [] 0 (fun r o => r = bV t14 ∧ o = [])] (by kernel_rfl) ⟨by exact Try.call98, by exact f_stringslite_HasPrefix.ok a0 a1 t14 e15, trivial⟩ ?_
  refine AWp.cond (!t14) rfl (fun c16 => ?_) (fun c16 => ?_)
  · replace H := (ifT c16).symm.trans H
    refine AWp.seq ?_
    refine reg hP hn hm [] [4, 5] [] ⟨[(4, sV a0), (5, bV false)], [], 0⟩ [] (by kernel_rfl) trivial ?_
    refine AWp.conv (inv := []) (vk := []) (e0 := []) (t := ⟨[(4, sV a0), (5, bV false)], [], 0⟩) (by kernel_rfl) ?_
    refine AWp.ret ?_
    obtain rfl := Option.some.inj H
    exact Exists.intro _ (And.intro (fun _ _ h => h) (And.intro (.inl rfl) (And.intro rfl (And.intro (by kernel_rfl) (by kernel_rfl)))))
  · replace H := (ifF c16).symm.trans H
    refine AWp.skip ?_
    refine AWp.seq ?_
    obtain ⟨c18, H⟩ := chk_of H
    refine reg hP hn hm [] [4, 5] [] ⟨[(4, sV (a0.extract (Int.toNat ((a1.size : Int))) (Int.toNat ((a0.size : Int))))), (5, bV true)], [], 0⟩ [0 ≤ (a1.size : Int), (a1.size : Int) ≤ (a0.size : Int), (a0.size : Int) ≤ (a0.size : Int)] (by kernel_rfl) ⟨by exact c18.1, by exact c18.2.1, by exact c18.2.2, trivial⟩ ?_
    refine AWp.conv (inv := []) (vk := []) (e0 := []) (t := ⟨[(4, sV (a0.extract (Int.toNat ((a1.size : Int))) (Int.toNat ((a0.size : Int))))), (5, bV true)], [], 0⟩) (by kernel_rfl) ?_
    refine AWp.ret ?_
    obtain rfl := Option.some.inj H
    exact Exists.intro _ (And.intro (fun _ _ h => h) (And.intro (.inl rfl) (And.intro rfl (And.intro (by kernel_rfl) (by kernel_rfl)))))
def f_strings_CutPrefix.f (a0 : ByteArray) (a1 : ByteArray) : Option (ByteArray × Bool) := (f_stringslite_CutPrefix.f a0 a1) >>= fun t21 => some (t21.1, t21.2)
theorem f_strings_CutPrefix.ok (a0 : ByteArray) (a1 : ByteArray) (r : ByteArray × Bool) (H : f_strings_CutPrefix.f a0 a1 = some r) : Pv.Fn Try.prog 52 [sV a0, sV a1] [] 0 (fun x o => x = .tup [sV r.1, bV r.2] ∧ o = []) := by
  unfold f_strings_CutPrefix.f at H
  refine Fn.bodyK [] Try.func52 rfl rfl (fun Γ hP hn => ?_)
  have hm : Try.prog.follows .mixedOrders = true := by kernel_rfl
  replace hn : Γ.n = 11 := hn
  refine AWp.seq ?_
  refine reg hP hn hm [] [0, 1] [] ⟨[(0, sV a0), (1, sV a1)], [], 0⟩ [] (by kernel_rfl) trivial ?_
  refine AWp.seq ?_
  obtain ⟨t21, e22, H⟩ := bind_of H
  refine reg hP hn hm [(2, .call [] [] [] [] 0 (.tup [sV t21.1, bV t21.2]) [])] [4, 5] [] ⟨[(4, sV t21.1), (5, bV t21.2)], [], 0⟩ [Enters Try.prog 83, Pv.Fn Try.prog 83 [sV a0, sV a1] [] 0 (fun r o => r = .tup [sV t21.1, bV t21.2] ∧ o = [])] (by kernel_rfl) ⟨by exact Try.call83, by exact f_stringslite_CutPrefix.ok a0 a1 t21 e22, trivial⟩ ?_
  refine AWp.conv (inv := []) (vk := []) (e0 := []) (t := ⟨[(4, sV t21.1), (5, bV t21.2)], [], 0⟩) (by kernel_rfl) ?_
  refine AWp.ret ?_
  obtain rfl := Option.some.inj H
  exact Exists.intro _ (And.intro (fun _ _ h => h) (And.intro (.inl rfl) (And.intro rfl (And.intro (by kernel_rfl) (by kernel_rfl)))))
def f_stringslite_IndexByte.f (a0 : ByteArray) (a1 : Int) : Option (Unit) := some ()
theorem f_stringslite_IndexByte.ok (a0 : ByteArray) (a1 : Int) (r : Unit) (H : f_stringslite_IndexByte.f a0 a1 = some r) : Pv.Fn Try.prog 106 [sV a0, iV .u8 a1] [] 0 (fun x o => x = iV .i64 (Lib.indexByte a0.data.toList (Int.toNat a1).toUInt8) ∧ o = []) := by
  unfold f_stringslite_IndexByte.f at H
  refine Fn.bodyK [] Try.func106 rfl rfl (fun Γ hP hn => ?_)
  have hm : Try.prog.follows .mixedOrders = true := by kernel_rfl
  replace hn : Γ.n = 8 := hn
  refine AWp.seq ?_
  refine reg hP hn hm [] [0, 1] [] ⟨[(0, sV a0), (1, iV .u8 a1)], [], 0⟩ [] (by kernel_rfl) trivial ?_
  refine AWp.seq ?_
  refine reg hP hn hm [(2, .ext (iV .i64 (Lib.indexByte a0.data.toList (Int.toNat a1).toUInt8)))] [4] [] ⟨[(4, iV .i64 (Lib.indexByte a0.data.toList (Int.toNat a1).toUInt8))], [], 0⟩ [∀ w, (callFunc 112 ([.string a0, .int .u8 a1] : List Value).toArray).run Try.prog w = .ok (.value (.int .i64 (Lib.indexByte a0.data.toList (Int.toNat a1).toUInt8))) w] (by kernel_rfl) ⟨by exact fun w => x_indexByte (fn := Try.f112) Try.func112 (by kernel_rfl) rfl (by kernel_rfl) (by kernel_rfl) w, trivial⟩ ?_
  refine AWp.conv (inv := []) (vk := []) (e0 := []) (t := ⟨[(4, iV .i64 (Lib.indexByte a0.data.toList (Int.toNat a1).toUInt8))], [], 0⟩) (by kernel_rfl) ?_
  refine AWp.ret ?_
  obtain rfl := Option.some.inj H
  exact Exists.intro _ (And.intro (fun _ _ h => h) (And.intro (.inl rfl) (And.intro rfl (And.intro (by kernel_rfl) (by kernel_rfl)))))
def f_stringslite_Index.f (a0 : ByteArray) : Option (Int) := if ((⟨#[61]⟩ : ByteArray).toList == a0.toList) = true then (some 0) else ((chk (0 ≤ (0 : Int) ∧ (0 : Int) < ((⟨#[61]⟩ : ByteArray).size : Int))) >>= fun _ => (f_stringslite_IndexByte.f a0 (bt (⟨#[61]⟩ : ByteArray) 0)) >>= fun t34 => some (Lib.indexByte a0.data.toList (Int.toNat (bt (⟨#[61]⟩ : ByteArray) 0)).toUInt8))
theorem f_stringslite_Index.ok (a0 : ByteArray) (r : Int) (H : f_stringslite_Index.f a0 = some r) : Pv.Fn Try.prog 99 [sV a0, sV (⟨#[61]⟩ : ByteArray)] [] 0 (fun x o => x = iV .i64 r ∧ o = []) := by
  unfold f_stringslite_Index.f at H
  refine Fn.bodyK [] Try.func99 rfl rfl (fun Γ hP hn => ?_)
  have hm : Try.prog.follows .mixedOrders = true := by kernel_rfl
  replace hn : Γ.n = 143 := hn
  refine AWp.seq ?_
  refine reg hP hn hm [] [0, 1] [] ⟨[(0, sV a0), (1, sV (⟨#[61]⟩ : ByteArray))], [], 0⟩ [] (by kernel_rfl) trivial ?_
  refine AWp.seq ?_
  refine reg hP hn hm [] [0, 1, 5] [] ⟨[(0, sV a0), (1, sV (⟨#[61]⟩ : ByteArray)), (5, iV .i64 1)], [], 0⟩ [] (by kernel_rfl) trivial ?_
  refine AWp.seq ?_
  refine AWp.block ?_
  refine AWp.seq ?_
  refine reg hP hn hm [] [0, 1, 5, 16] [] ⟨[(0, sV a0), (1, sV (⟨#[61]⟩ : ByteArray)), (5, iV .i64 1), (16, bV ((⟨#[61]⟩ : ByteArray).toList == a0.toList))], [], 0⟩ [] (by kernel_rfl) trivial ?_
  refine AWp.cond ((⟨#[61]⟩ : ByteArray).toList == a0.toList) rfl (fun c29 => ?_) (fun c29 => ?_)
  · replace H := (ifT c29).symm.trans H
    refine AWp.seq ?_
    refine reg hP hn hm [] [4] [] ⟨[(4, iV .i64 0)], [], 0⟩ [] (by kernel_rfl) trivial ?_
    refine AWp.conv (inv := []) (vk := []) (e0 := []) (t := ⟨[(4, iV .i64 0)], [], 0⟩) (by kernel_rfl) ?_
    refine AWp.ret ?_
    obtain rfl := Option.some.inj H
    exact Exists.intro _ (And.intro (fun _ _ h => h) (And.intro (.inl rfl) (And.intro rfl (And.intro (by kernel_rfl) (by kernel_rfl)))))
  · replace H := (ifF c29).symm.trans H
    refine AWp.seq ?_
    refine reg hP hn hm [] [0, 1, 5, 24] [] ⟨[(0, sV a0), (1, sV (⟨#[61]⟩ : ByteArray)), (5, iV .i64 1), (24, bV true)], [], 0⟩ [] (by kernel_rfl) trivial ?_
    refine AWp.cond true rfl (fun _ => ?_) (fun h => nomatch h)
    refine AWp.seq ?_
    obtain ⟨c33, H⟩ := chk_of H
    obtain ⟨t34, e35, H⟩ := bind_of H
    refine reg hP hn hm [(3, .call [] [] [] [] 0 (iV .i64 (Lib.indexByte a0.data.toList (Int.toNat (bt (⟨#[61]⟩ : ByteArray) 0)).toUInt8)) [])] [4] [] ⟨[(4, iV .i64 (Lib.indexByte a0.data.toList (Int.toNat (bt (⟨#[61]⟩ : ByteArray) 0)).toUInt8))], [], 0⟩ [0 ≤ (0 : Int), (0 : Int) < ((⟨#[61]⟩ : ByteArray).size : Int), Enters Try.prog 106, Pv.Fn Try.prog 106 [sV a0, iV .u8 (bt (⟨#[61]⟩ : ByteArray) 0)] [] 0 (fun r o => r = iV .i64 (Lib.indexByte a0.data.toList (Int.toNat (bt (⟨#[61]⟩ : ByteArray) 0)).toUInt8) ∧ o = [])] (by kernel_rfl) ⟨by exact c33.1, by exact c33.2, by exact Try.call106, by exact f_stringslite_IndexByte.ok a0 (bt (⟨#[61]⟩ : ByteArray) 0) t34 e35, trivial⟩ ?_
    refine AWp.conv (inv := []) (vk := []) (e0 := []) (t := ⟨[(4, iV .i64 (Lib.indexByte a0.data.toList (Int.toNat (bt (⟨#[61]⟩ : ByteArray) 0)).toUInt8))], [], 0⟩) (by kernel_rfl) ?_
    refine AWp.ret ?_
    obtain rfl := Option.some.inj H
    exact Exists.intro _ (And.intro (fun _ _ h => h) (And.intro (.inl rfl) (And.intro rfl (And.intro (by kernel_rfl) (by kernel_rfl)))))
def f_stringslite_Cut.f (a0 : ByteArray) : Option (ByteArray × ByteArray × Bool) := (f_stringslite_Index.f a0) >>= fun t38 => if (decide (t38 ≥ (0 : Int))) = true then ((chk (0 ≤ (0 : Int) ∧ (0 : Int) ≤ t38 ∧ t38 ≤ (a0.size : Int))) >>= fun _ => (chk (0 ≤ (IntKind.i64.wrap (t38 + (1 : Int))) ∧ (IntKind.i64.wrap (t38 + (1 : Int))) ≤ (a0.size : Int) ∧ (a0.size : Int) ≤ (a0.size : Int))) >>= fun _ => some (a0.extract (Int.toNat ((0 : Int))) (Int.toNat (t38)), a0.extract (Int.toNat ((IntKind.i64.wrap (t38 + (1 : Int))))) (Int.toNat ((a0.size : Int))), true)) else (some (a0, (⟨#[]⟩ : ByteArray), false))
theorem f_stringslite_Cut.ok (a0 : ByteArray) (r : ByteArray × ByteArray × Bool) (H : f_stringslite_Cut.f a0 = some r) : Pv.Fn Try.prog 84 [sV a0, sV (⟨#[61]⟩ : ByteArray)] [] 0 (fun x o => x = .tup [sV r.1, sV r.2.1, bV r.2.2] ∧ o = []) := by
  unfold f_stringslite_Cut.f at H
  refine Fn.bodyK [] Try.func84 rfl rfl (fun Γ hP hn => ?_)
  have hm : Try.prog.follows .mixedOrders = true := by kernel_rfl
  replace hn : Γ.n = 23 := hn
  refine AWp.seq ?_
  refine reg hP hn hm [] [0, 1] [] ⟨[(0, sV a0), (1, sV (⟨#[61]⟩ : ByteArray))], [], 0⟩ [] (by kernel_rfl) trivial ?_
  refine AWp.seq ?_
  refine AWp.seq ?_
  obtain ⟨t38, e39, H⟩ := bind_of H
  refine reg hP hn hm [(2, .call [] [] [] [] 0 (iV .i64 t38) [])] [0, 1, 7] [] ⟨[(0, sV a0), (1, sV (⟨#[61]⟩ : ByteArray)), (7, iV .i64 t38)], [], 0⟩ [Enters Try.prog 99, Pv.Fn Try.prog 99 [sV a0, sV (⟨#[61]⟩ : ByteArray)] [] 0 (fun r o => r = iV .i64 t38 ∧ o = [])] (by kernel_rfl) ⟨by exact Try.call99, by exact f_stringslite_Index.ok a0 t38 e39, trivial⟩ ?_
  refine AWp.seq ?_
  refine reg hP hn hm [] [0, 1, 7, 12] [] ⟨[(0, sV a0), (1, sV (⟨#[61]⟩ : ByteArray)), (7, iV .i64 t38), (12, bV (decide (t38 ≥ (0 : Int))))], [], 0⟩ [] (by kernel_rfl) trivial ?_
  refine AWp.cond (decide (t38 ≥ (0 : Int))) rfl (fun c40 => ?_) (fun c40 => ?_)
  · replace H := (ifT c40).symm.trans H
    refine AWp.seq ?_
    obtain ⟨c43, H⟩ := chk_of H
    obtain ⟨c44, H⟩ := chk_of H
    refine reg hP hn hm [] [4, 5, 6] [] ⟨[(4, sV (a0.extract (Int.toNat ((0 : Int))) (Int.toNat (t38)))), (5, sV (a0.extract (Int.toNat ((IntKind.i64.wrap (t38 + (1 : Int))))) (Int.toNat ((a0.size : Int))))), (6, bV true)], [], 0⟩ [0 ≤ (0 : Int), (0 : Int) ≤ t38, t38 ≤ (a0.size : Int), 0 ≤ (IntKind.i64.wrap (t38 + (1 : Int))), (IntKind.i64.wrap (t38 + (1 : Int))) ≤ (a0.size : Int), (a0.size : Int) ≤ (a0.size : Int)] (by kernel_rfl) ⟨by exact c43.1, by exact c43.2.1, by exact c43.2.2, by exact c44.1, by exact c44.2.1, by exact c44.2.2, trivial⟩ ?_
    refine AWp.conv (inv := []) (vk := []) (e0 := []) (t := ⟨[(4, sV (a0.extract (Int.toNat ((0 : Int))) (Int.toNat (t38)))), (5, sV (a0.extract (Int.toNat ((IntKind.i64.wrap (t38 + (1 : Int))))) (Int.toNat ((a0.size : Int))))), (6, bV true)], [], 0⟩) (by kernel_rfl) ?_
    refine AWp.ret ?_
    obtain rfl := Option.some.inj H
    exact Exists.intro _ (And.intro (fun _ _ h => h) (And.intro (.inl rfl) (And.intro rfl (And.intro (by kernel_rfl) (by kernel_rfl)))))
  · replace H := (ifF c40).symm.trans H
    refine AWp.skip ?_
    refine AWp.seq ?_
    refine reg hP hn hm [] [4, 5, 6] [] ⟨[(4, sV a0), (5, sV (⟨#[]⟩ : ByteArray)), (6, bV false)], [], 0⟩ [] (by kernel_rfl) trivial ?_
    refine AWp.conv (inv := []) (vk := []) (e0 := []) (t := ⟨[(4, sV a0), (5, sV (⟨#[]⟩ : ByteArray)), (6, bV false)], [], 0⟩) (by kernel_rfl) ?_
    refine AWp.ret ?_
    obtain rfl := Option.some.inj H
    exact Exists.intro _ (And.intro (fun _ _ h => h) (And.intro (.inl rfl) (And.intro rfl (And.intro (by kernel_rfl) (by kernel_rfl)))))
def f_strings_Cut.f (a0 : ByteArray) : Option (ByteArray × ByteArray × Bool) := (f_stringslite_Cut.f a0) >>= fun t47 => some (t47.1, t47.2.1, t47.2.2)
theorem f_strings_Cut.ok (a0 : ByteArray) (r : ByteArray × ByteArray × Bool) (H : f_strings_Cut.f a0 = some r) : Pv.Fn Try.prog 53 [sV a0, sV (⟨#[61]⟩ : ByteArray)] [] 0 (fun x o => x = .tup [sV r.1, sV r.2.1, bV r.2.2] ∧ o = []) := by
  unfold f_strings_Cut.f at H
  refine Fn.bodyK [] Try.func53 rfl rfl (fun Γ hP hn => ?_)
  have hm : Try.prog.follows .mixedOrders = true := by kernel_rfl
  replace hn : Γ.n = 13 := hn
  refine AWp.seq ?_
  refine reg hP hn hm [] [0, 1] [] ⟨[(0, sV a0), (1, sV (⟨#[61]⟩ : ByteArray))], [], 0⟩ [] (by kernel_rfl) trivial ?_
  refine AWp.seq ?_
  obtain ⟨t47, e48, H⟩ := bind_of H
  refine reg hP hn hm [(2, .call [] [] [] [] 0 (.tup [sV t47.1, sV t47.2.1, bV t47.2.2]) [])] [4, 5, 6] [] ⟨[(4, sV t47.1), (5, sV t47.2.1), (6, bV t47.2.2)], [], 0⟩ [Enters Try.prog 84, Pv.Fn Try.prog 84 [sV a0, sV (⟨#[61]⟩ : ByteArray)] [] 0 (fun r o => r = .tup [sV t47.1, sV t47.2.1, bV t47.2.2] ∧ o = [])] (by kernel_rfl) ⟨by exact Try.call84, by exact f_stringslite_Cut.ok a0 t47 e48, trivial⟩ ?_
  refine AWp.conv (inv := []) (vk := []) (e0 := []) (t := ⟨[(4, sV t47.1), (5, sV t47.2.1), (6, bV t47.2.2)], [], 0⟩) (by kernel_rfl) ?_
  refine AWp.ret ?_
  obtain rfl := Option.some.inj H
  exact Exists.intro _ (And.intro (fun _ _ h => h) (And.intro (.inl rfl) (And.intro rfl (And.intro (by kernel_rfl) (by kernel_rfl)))))
def f_label_Unquote.l0 (a0 : ByteArray) (x85 : List Int) (x86 : Int) : Option ((ByteArray × ByteArray × Bool) ⊕ Unit) := if (decide (x86 < (a0.size : Int))) = true then ((((chk (0 ≤ x86 ∧ x86 < (a0.size : Int))) >>= fun _ => if ((bt a0 x86) == (34 : Int)) = true then ((chk (0 ≤ (IntKind.i64.wrap (x86 + (1 : Int))) ∧ (IntKind.i64.wrap (x86 + (1 : Int))) ≤ (a0.size : Int) ∧ (a0.size : Int) ≤ (a0.size : Int))) >>= fun _ => some (.inl (strOf x85, a0.extract (Int.toNat ((IntKind.i64.wrap (x86 + (1 : Int))))) (Int.toNat ((a0.size : Int))), true))) else (if ((bt a0 x86) == (10 : Int)) = true then (some (.inl ((⟨#[]⟩ : ByteArray), (⟨#[]⟩ : ByteArray), false))) else (if ((bt a0 x86) != (92 : Int)) = true then ((chk ((x85.length + [bt a0 x86].length) * 1 ≤ 140737488355328)) >>= fun _ => some (.inr (x85 ++ [bt a0 x86], x86))) else (if ((IntKind.i64.wrap (x86 + (1 : Int))) == (a0.size : Int)) = true then (some (.inl ((⟨#[]⟩ : ByteArray), (⟨#[]⟩ : ByteArray), false))) else ((chk (0 ≤ (IntKind.i64.wrap (x86 + (1 : Int))) ∧ (IntKind.i64.wrap (x86 + (1 : Int))) < (a0.size : Int))) >>= fun _ => ((if ((bt a0 (IntKind.i64.wrap (x86 + (1 : Int)))) == (110 : Int)) = true then ((chk ((x85.length + [10].length) * 1 ≤ 140737488355328)) >>= fun _ => some (.inr (x85 ++ [10]))) else (((if ((bt a0 (IntKind.i64.wrap (x86 + (1 : Int)))) == (34 : Int)) = true then (some true) else (some ((bt a0 (IntKind.i64.wrap (x86 + (1 : Int)))) == (92 : Int)))) : Option (Bool)) >>= fun x105 => if x105 = true then ((chk ((x85.length + [bt a0 (IntKind.i64.wrap (x86 + (1 : Int)))].length) * 1 ≤ 140737488355328)) >>= fun _ => some (.inr (x85 ++ [bt a0 (IntKind.i64.wrap (x86 + (1 : Int)))]))) else (some (.inl ((⟨#[]⟩ : ByteArray), (⟨#[]⟩ : ByteArray), false))))) : Option ((ByteArray × ByteArray × Bool) ⊕ (List Int))) >>= fun oo => match oo with | .inl rr => (some (.inl rr)) | .inr x109 => (some (.inr (x109, IntKind.i64.wrap (x86 + (1 : Int)))))))))) : Option ((ByteArray × ByteArray × Bool) ⊕ ((List Int) × Int))) >>= fun oo => match oo with | .inl rr => (some (.inl rr)) | .inr (x110, x111) => (f_label_Unquote.l0 a0 x110 (IntKind.i64.wrap (x111 + (1 : Int))))) else (some (.inr ()))
partial_fixpoint
def f_label_Unquote.f (a0 : ByteArray) : Option (ByteArray × ByteArray × Bool) := ((if (a0.toList == (⟨#[]⟩ : ByteArray).toList) = true then (some true) else ((chk (0 ≤ (0 : Int) ∧ (0 : Int) < (a0.size : Int))) >>= fun _ => some ((bt a0 0) != (34 : Int)))) : Option (Bool)) >>= fun x58 => if x58 = true then (some ((⟨#[]⟩ : ByteArray), (⟨#[]⟩ : ByteArray), false)) else ((f_label_Unquote.l0 a0 [] 1) >>= fun oo => match oo with | .inl rr => (some rr) | .inr _ => (some ((⟨#[]⟩ : ByteArray), (⟨#[]⟩ : ByteArray), false)))
theorem f_label_Unquote.ok (a0 : ByteArray) (r : ByteArray × ByteArray × Bool) (H : f_label_Unquote.f a0 = some r) : Pv.Fn Try.prog 13 [sV a0] [] 0 (fun x o => x = .tup [sV r.1, sV r.2.1, bV r.2.2] ∧ o = []) := by
  unfold f_label_Unquote.f at H
  refine Fn.bodyK [] Try.func13 rfl rfl (fun Γ hP hn => ?_)
  have hm : Try.prog.follows .mixedOrders = true := by kernel_rfl
  replace hn : Γ.n = 75 := hn
  refine AWp.seq ?_
  refine reg hP hn hm [] [0] [] ⟨[(0, sV a0)], [], 0⟩ [] (by kernel_rfl) trivial ?_
  refine AWp.seq ?_
  refine AWp.seq ?_
  obtain ⟨o112, e113, H⟩ := bind_of H
  refine AWp.mono (Q := fun e s => (match (generalizing := false) o112 with | x58 => e = .normal ∧ s = ⟨[(0, sV a0), (14, bV x58)], [], 0⟩)) (AWp.cv ?_) ?_
  · replace H := e113; clear e113
    rcases Bool.eq_false_or_eq_true (a0.toList == (⟨#[]⟩ : ByteArray).toList) with c56 | c56
    · replace H := (ifT c56).symm.trans H
      refine reg hP hn hm [(2, .b true)] [0, 14] [] ⟨[(0, sV a0), (14, bV true)], [], 0⟩ [(a0.toList == (⟨#[]⟩ : ByteArray).toList) = true] (by kernel_rfl) ⟨by exact c56, trivial⟩ ?_
      obtain rfl := Option.some.inj H
      exact Exists.intro _ (And.intro (fun _ _ h => h.conv (inv := []) (vk := []) (e0 := []) (t := ⟨[(0, sV a0), (14, bV true)], [], 0⟩) (by kernel_rfl)) (And.intro rfl rfl))
    · replace H := (ifF c56).symm.trans H
      obtain ⟨c57, H⟩ := chk_of H
      refine reg hP hn hm [(2, .b false)] [0, 14] [] ⟨[(0, sV a0), (14, bV ((bt a0 0) != (34 : Int)))], [], 0⟩ [(a0.toList == (⟨#[]⟩ : ByteArray).toList) = false, 0 ≤ (0 : Int), (0 : Int) < (a0.size : Int)] (by kernel_rfl) ⟨by exact c56, by exact c57.1, by exact c57.2, trivial⟩ ?_
      obtain rfl := Option.some.inj H
      exact Exists.intro _ (And.intro (fun _ _ h => h.conv (inv := []) (vk := []) (e0 := []) (t := ⟨[(0, sV a0), (14, bV ((bt a0 0) != (34 : Int)))], [], 0⟩) (by kernel_rfl)) (And.intro rfl rfl))
  · obtain ⟨x58, rfl⟩ : ∃ z, z = o112 := ⟨_, rfl⟩
    rintro e s ⟨rfl, rfl⟩
    refine AWp.cond x58 rfl (fun c59 => ?_) (fun c59 => ?_)
    · replace H := (ifT c59).symm.trans H
      refine AWp.seq ?_
      refine reg hP hn hm [] [2, 3, 4] [] ⟨[(2, sV (⟨#[]⟩ : ByteArray)), (3, sV (⟨#[]⟩ : ByteArray)), (4, bV false)], [], 0⟩ [] (by kernel_rfl) trivial ?_
      refine AWp.conv (inv := []) (vk := []) (e0 := []) (t := ⟨[(2, sV (⟨#[]⟩ : ByteArray)), (3, sV (⟨#[]⟩ : ByteArray)), (4, bV false)], [], 0⟩) (by kernel_rfl) ?_
      refine AWp.ret ?_
      obtain rfl := Option.some.inj H
      exact Exists.intro _ (And.intro (fun _ _ h => h) (And.intro (.inl rfl) (And.intro rfl (And.intro (by kernel_rfl) (by kernel_rfl)))))
    · replace H := (ifF c59).symm.trans H
      refine AWp.skip ?_
      refine AWp.seq ?_
      refine reg hP hn hm [] [0, 5] [] ⟨[(0, sV a0), (5, .none0)], [], 0⟩ [] (by kernel_rfl) trivial ?_
      refine AWp.seq ?_
      refine AWp.seq ?_
      refine reg hP hn hm [] [0, 5, 6] [] ⟨[(0, sV a0), (5, .none0), (6, iV .i64 1)], [], 0⟩ [] (by kernel_rfl) trivial ?_
      refine AWp.block ?_
      obtain ⟨o114, e115, H⟩ := bind_of H
      refine AWp.loop (LWp.conv (inv := []) (vk := []) (e0 := [8]) (t := ⟨[(0, sV a0), (5, .own 8), (6, iV .i64 1)], [(8, some (.row 1 5 ([].map (encInt .u8))))], 0⟩) (by kernel_rfl) ?_)
      refine LWp.mono (Q := fun e s => (match (generalizing := false) o114 with | .inl rr => e = .ret ∧ s.floor = 0 ∧ resOf Try.prog Try.f13 s = some (.tup [sV rr.1, sV rr.2.1, bV rr.2.2]) ∧ ([] : List (Nat × Option MObj)) = [] | .inr _ => e = .exit 0 ∧ s = ⟨[], [], 0⟩)) (LWp.cv (withBody (fun body hbody => ?_))) ?_
      · refine f_label_Unquote.l0.partial_correctness a0 (motive := fun x85 x86 o114 => LWp Γ body (fun e s => ∃ t, Cv Γ s t ∧ (match (generalizing := false) o114 with | .inl rr => e = .ret ∧ t.floor = 0 ∧ resOf Try.prog Try.f13 t = some (.tup [sV rr.1, sV rr.2.1, bV rr.2.2]) ∧ ([] : List (Nat × Option MObj)) = [] | .inr _ => e = .exit 0 ∧ t = ⟨[], [], 0⟩)) ⟨[(0, sV a0), (5, .own 8), (6, iV .i64 x86)], [(8, some (.row 1 5 (x85.map (encInt .u8))))], 0⟩) ?_ _ _ _ e115
        clear H e115 o114; intro self ih x85 x86 o114 H
        subst hbody
        refine LWp.round ?_
        refine AWp.seq ?_
        refine AWp.seq ?_
        refine reg hP hn hm [] [0, 5, 6, 18] [8] ⟨[(0, sV a0), (5, .own 8), (6, iV .i64 x86), (18, bV (decide (x86 < (a0.size : Int))))], [(8, some (.row 1 5 (x85.map (encInt .u8))))], 0⟩ [] (by kernel_rfl) trivial ?_
        refine AWp.cond (decide (x86 < (a0.size : Int))) rfl (fun c87 => ?_) (fun c87 => ?_)
        · replace H := (ifT c87).symm.trans H
          refine AWp.skip ?_
          refine AWp.seq ?_
          obtain ⟨o116, e117, H⟩ := bind_of H
          refine AWp.mono (Q := fun e s => (match (generalizing := false) o116 with | .inl rr => e = .ret ∧ s.floor = 0 ∧ resOf Try.prog Try.f13 s = some (.tup [sV rr.1, sV rr.2.1, bV rr.2.2]) ∧ ([] : List (Nat × Option MObj)) = [] | .inr (x110, x111) => e = .normal ∧ s = ⟨[(0, sV a0), (5, .own 17), (6, iV .i64 x111)], [(17, some (.row 1 5 (x110.map (encInt .u8))))], 0⟩)) (AWp.cv ?_) ?_
          · replace H := e117; clear e117
            refine AWp.block ?_
            refine AWp.seq ?_
            refine AWp.seq ?_
            obtain ⟨c89, H⟩ := chk_of H
            refine reg hP hn hm [] [0, 5, 6, 7] [8] ⟨[(0, sV a0), (5, .own 8), (6, iV .i64 x86), (7, iV .u8 (bt a0 x86))], [(8, some (.row 1 5 (x85.map (encInt .u8))))], 0⟩ [0 ≤ x86, x86 < (a0.size : Int)] (by kernel_rfl) ⟨by exact c89.1, by exact c89.2, trivial⟩ ?_
            refine AWp.block ?_
            refine AWp.seq ?_
            refine reg hP hn hm [] [0, 5, 6, 7, 24] [8] ⟨[(0, sV a0), (5, .own 8), (6, iV .i64 x86), (7, iV .u8 (bt a0 x86)), (24, bV ((bt a0 x86) == (34 : Int)))], [(8, some (.row 1 5 (x85.map (encInt .u8))))], 0⟩ [] (by kernel_rfl) trivial ?_
            refine AWp.cond ((bt a0 x86) == (34 : Int)) rfl (fun c90 => ?_) (fun c90 => ?_)
            · replace H := (ifT c90).symm.trans H
              refine AWp.seq ?_
              obtain ⟨c92, H⟩ := chk_of H
              refine reg hP hn hm [(1, .more (xStr x85))] [2, 3, 4] [] ⟨[(2, sV (strOf x85)), (3, sV (a0.extract (Int.toNat ((IntKind.i64.wrap (x86 + (1 : Int))))) (Int.toNat ((a0.size : Int))))), (4, bV true)], [], 0⟩ [x85.map (encInt .u8) = x85.map (encInt .u8), 0 ≤ (IntKind.i64.wrap (x86 + (1 : Int))), (IntKind.i64.wrap (x86 + (1 : Int))) ≤ (a0.size : Int), (a0.size : Int) ≤ (a0.size : Int)] (by kernel_rfl) ⟨by exact rfl, by exact c92.1, by exact c92.2.1, by exact c92.2.2, trivial⟩ ?_
              refine AWp.conv (inv := []) (vk := []) (e0 := []) (t := ⟨[(2, sV (strOf x85)), (3, sV (a0.extract (Int.toNat ((IntKind.i64.wrap (x86 + (1 : Int))))) (Int.toNat ((a0.size : Int))))), (4, bV true)], [], 0⟩) (by kernel_rfl) ?_
              refine AWp.ret ?_
              obtain rfl := Option.some.inj H
              exact Exists.intro _ (And.intro (fun _ _ h => h) (And.intro rfl (And.intro rfl (And.intro (by kernel_rfl) (by kernel_rfl)))))
            · replace H := (ifF c90).symm.trans H
              refine AWp.seq ?_
              refine reg hP hn hm [] [0, 5, 6, 7, 33] [8] ⟨[(0, sV a0), (5, .own 8), (6, iV .i64 x86), (7, iV .u8 (bt a0 x86)), (33, bV ((bt a0 x86) == (10 : Int)))], [(8, some (.row 1 5 (x85.map (encInt .u8))))], 0⟩ [] (by kernel_rfl) trivial ?_
              refine AWp.cond ((bt a0 x86) == (10 : Int)) rfl (fun c93 => ?_) (fun c93 => ?_)
              · replace H := (ifT c93).symm.trans H
                refine AWp.seq ?_
                refine reg hP hn hm [] [2, 3, 4] [] ⟨[(2, sV (⟨#[]⟩ : ByteArray)), (3, sV (⟨#[]⟩ : ByteArray)), (4, bV false)], [], 0⟩ [] (by kernel_rfl) trivial ?_
                refine AWp.conv (inv := []) (vk := []) (e0 := []) (t := ⟨[(2, sV (⟨#[]⟩ : ByteArray)), (3, sV (⟨#[]⟩ : ByteArray)), (4, bV false)], [], 0⟩) (by kernel_rfl) ?_
                refine AWp.ret ?_
                obtain rfl := Option.some.inj H
                exact Exists.intro _ (And.intro (fun _ _ h => h) (And.intro rfl (And.intro rfl (And.intro (by kernel_rfl) (by kernel_rfl)))))
              · replace H := (ifF c93).symm.trans H
                refine AWp.seq ?_
                refine reg hP hn hm [] [0, 5, 6, 7, 36] [8] ⟨[(0, sV a0), (5, .own 8), (6, iV .i64 x86), (7, iV .u8 (bt a0 x86)), (36, bV ((bt a0 x86) != (92 : Int)))], [(8, some (.row 1 5 (x85.map (encInt .u8))))], 0⟩ [] (by kernel_rfl) trivial ?_
                refine AWp.cond ((bt a0 x86) != (92 : Int)) rfl (fun c94 => ?_) (fun c94 => ?_)
                · replace H := (ifT c94).symm.trans H
                  refine AWp.seq ?_
                  obtain ⟨c96, H⟩ := chk_of H
                  refine reg hP hn hm [(2, .app 9 ([bt a0 x86].map (encInt .u8))), (3, .app 10 ((x85 ++ [bt a0 x86]).map (encInt .u8)))] [0, 5, 6] [10] ⟨[(0, sV a0), (5, .own 10), (6, iV .i64 x86)], [(10, some (.row 1 5 ((x85 ++ [bt a0 x86]).map (encInt .u8))))], 0⟩ [[bt a0 x86].map (encInt .u8) = [[iI .u8 (bt a0 x86)]], (x85 ++ [bt a0 x86]).map (encInt .u8) = (x85.map (encInt .u8)) ++ ([bt a0 x86].map (encInt .u8)), ∀ c ∈ ([bt a0 x86].map (encInt .u8)), c.length = 1, ∀ c ∈ ([bt a0 x86].map (encInt .u8)), leaves (c.map .im) = true, ((x85.map (encInt .u8)).length + ([bt a0 x86].map (encInt .u8)).length) * 1 ≤ 140737488355328] (by kernel_rfl) ⟨by exact rfl, by simp, by exact all_len _ _ _ (fun _ => rfl), by exact all_leaf _ _ (fun _ => rfl), by simpa using c96, trivial⟩ ?_
                  refine AWp.exit ?_
                  obtain rfl := Option.some.inj H
                  exact Exists.intro _ (And.intro (fun _ _ h => h.conv (inv := [(10, 17)]) (vk := []) (e0 := []) (t := ⟨[(0, sV a0), (5, .own 17), (6, iV .i64 x86)], [(17, some (.row 1 5 ((x85 ++ [bt a0 x86]).map (encInt .u8))))], 0⟩) (by kernel_rfl)) (And.intro rfl rfl))
                · replace H := (ifF c94).symm.trans H
                  refine AWp.skip ?_
                  refine AWp.seq ?_
                  refine reg hP hn hm [] [0, 5, 6] [8] ⟨[(0, sV a0), (5, .own 8), (6, iV .i64 (IntKind.i64.wrap (x86 + (1 : Int))))], [(8, some (.row 1 5 (x85.map (encInt .u8))))], 0⟩ [] (by kernel_rfl) trivial ?_
                  refine AWp.block ?_
                  refine AWp.seq ?_
                  refine reg hP hn hm [] [0, 5, 6, 45] [8] ⟨[(0, sV a0), (5, .own 8), (6, iV .i64 (IntKind.i64.wrap (x86 + (1 : Int)))), (45, bV ((IntKind.i64.wrap (x86 + (1 : Int))) == (a0.size : Int)))], [(8, some (.row 1 5 (x85.map (encInt .u8))))], 0⟩ [] (by kernel_rfl) trivial ?_
                  refine AWp.cond ((IntKind.i64.wrap (x86 + (1 : Int))) == (a0.size : Int)) rfl (fun c97 => ?_) (fun c97 => ?_)
                  · replace H := (ifT c97).symm.trans H
                    refine AWp.seq ?_
                    refine reg hP hn hm [] [2, 3, 4] [] ⟨[(2, sV (⟨#[]⟩ : ByteArray)), (3, sV (⟨#[]⟩ : ByteArray)), (4, bV false)], [], 0⟩ [] (by kernel_rfl) trivial ?_
                    refine AWp.conv (inv := []) (vk := []) (e0 := []) (t := ⟨[(2, sV (⟨#[]⟩ : ByteArray)), (3, sV (⟨#[]⟩ : ByteArray)), (4, bV false)], [], 0⟩) (by kernel_rfl) ?_
                    refine AWp.ret ?_
                    obtain rfl := Option.some.inj H
                    exact Exists.intro _ (And.intro (fun _ _ h => h) (And.intro rfl (And.intro rfl (And.intro (by kernel_rfl) (by kernel_rfl)))))
                  · replace H := (ifF c97).symm.trans H
                    refine AWp.seq ?_
                    obtain ⟨c99, H⟩ := chk_of H
                    refine reg hP hn hm [] [0, 5, 6, 50] [8] ⟨[(0, sV a0), (5, .own 8), (6, iV .i64 (IntKind.i64.wrap (x86 + (1 : Int)))), (50, bV ((bt a0 (IntKind.i64.wrap (x86 + (1 : Int)))) == (110 : Int)))], [(8, some (.row 1 5 (x85.map (encInt .u8))))], 0⟩ [0 ≤ (IntKind.i64.wrap (x86 + (1 : Int))), (IntKind.i64.wrap (x86 + (1 : Int))) < (a0.size : Int)] (by kernel_rfl) ⟨by exact c99.1, by exact c99.2, trivial⟩ ?_
                    obtain ⟨o118, e119, H⟩ := bind_of H
                    refine AWp.mono (Q := fun e s => (match (generalizing := false) o118 with | .inl rr => e = .ret ∧ s.floor = 0 ∧ resOf Try.prog Try.f13 s = some (.tup [sV rr.1, sV rr.2.1, bV rr.2.2]) ∧ ([] : List (Nat × Option MObj)) = [] | .inr x109 => e = .normal ∧ s = ⟨[(0, sV a0), (5, .own 16), (6, iV .i64 (IntKind.i64.wrap (x86 + (1 : Int))))], [(16, some (.row 1 5 (x109.map (encInt .u8))))], 0⟩)) (AWp.cv ?_) ?_
                    · replace H := e119; clear e119
                      refine AWp.cond ((bt a0 (IntKind.i64.wrap (x86 + (1 : Int)))) == (110 : Int)) rfl (fun c100 => ?_) (fun c100 => ?_)
                      · replace H := (ifT c100).symm.trans H
                        obtain ⟨c102, H⟩ := chk_of H
                        refine reg hP hn hm [(1, .app 11 ([10].map (encInt .u8))), (2, .app 12 ((x85 ++ [10]).map (encInt .u8)))] [0, 5, 6] [12] ⟨[(0, sV a0), (5, .own 12), (6, iV .i64 (IntKind.i64.wrap (x86 + (1 : Int))))], [(12, some (.row 1 5 ((x85 ++ [10]).map (encInt .u8))))], 0⟩ [[10].map (encInt .u8) = [[iI .u8 10]], (x85 ++ [10]).map (encInt .u8) = (x85.map (encInt .u8)) ++ ([10].map (encInt .u8)), ∀ c ∈ ([10].map (encInt .u8)), c.length = 1, ∀ c ∈ ([10].map (encInt .u8)), leaves (c.map .im) = true, ((x85.map (encInt .u8)).length + ([10].map (encInt .u8)).length) * 1 ≤ 140737488355328] (by kernel_rfl) ⟨by exact rfl, by simp, by exact all_len _ _ _ (fun _ => rfl), by exact all_leaf _ _ (fun _ => rfl), by simpa using c102, trivial⟩ ?_
                        obtain rfl := Option.some.inj H
                        exact Exists.intro _ (And.intro (fun _ _ h => h.conv (inv := [(12, 16)]) (vk := []) (e0 := []) (t := ⟨[(0, sV a0), (5, .own 16), (6, iV .i64 (IntKind.i64.wrap (x86 + (1 : Int))))], [(16, some (.row 1 5 ((x85 ++ [10]).map (encInt .u8))))], 0⟩) (by kernel_rfl)) (And.intro rfl rfl))
                      · replace H := (ifF c100).symm.trans H
                        refine AWp.seq ?_
                        obtain ⟨o120, e121, H⟩ := bind_of H
                        refine AWp.mono (Q := fun e s => (match (generalizing := false) o120 with | x105 => e = .normal ∧ s = ⟨[(0, sV a0), (5, .own 13), (6, iV .i64 (IntKind.i64.wrap (x86 + (1 : Int)))), (58, bV x105)], [(13, some (.row 1 5 (x85.map (encInt .u8))))], 0⟩)) (AWp.cv ?_) ?_
                        · replace H := e121; clear e121
                          rcases Bool.eq_false_or_eq_true ((bt a0 (IntKind.i64.wrap (x86 + (1 : Int)))) == (34 : Int)) with c104 | c104
                          · replace H := (ifT c104).symm.trans H
                            refine reg hP hn hm [(4, .b true)] [0, 5, 6, 58] [8] ⟨[(0, sV a0), (5, .own 8), (6, iV .i64 (IntKind.i64.wrap (x86 + (1 : Int)))), (58, bV true)], [(8, some (.row 1 5 (x85.map (encInt .u8))))], 0⟩ [0 ≤ (IntKind.i64.wrap (x86 + (1 : Int))), (IntKind.i64.wrap (x86 + (1 : Int))) < (a0.size : Int), ((bt a0 (IntKind.i64.wrap (x86 + (1 : Int)))) == (34 : Int)) = true] (by kernel_rfl) ⟨by exact c99.1, by exact c99.2, by exact c104, trivial⟩ ?_
                            obtain rfl := Option.some.inj H
                            exact Exists.intro _ (And.intro (fun _ _ h => h.conv (inv := [(8, 13)]) (vk := []) (e0 := []) (t := ⟨[(0, sV a0), (5, .own 13), (6, iV .i64 (IntKind.i64.wrap (x86 + (1 : Int)))), (58, bV true)], [(13, some (.row 1 5 (x85.map (encInt .u8))))], 0⟩) (by kernel_rfl)) (And.intro rfl rfl))
                          · replace H := (ifF c104).symm.trans H
                            refine reg hP hn hm [(4, .b false)] [0, 5, 6, 58, 64, 65, 66, 67] [8] ⟨[(0, sV a0), (5, .own 8), (6, iV .i64 (IntKind.i64.wrap (x86 + (1 : Int)))), (58, bV ((bt a0 (IntKind.i64.wrap (x86 + (1 : Int)))) == (92 : Int))), (64, sV a0), (65, iV .i64 (IntKind.i64.wrap (x86 + (1 : Int)))), (66, iV .u8 (bt a0 (IntKind.i64.wrap (x86 + (1 : Int))))), (67, bV ((bt a0 (IntKind.i64.wrap (x86 + (1 : Int)))) == (92 : Int)))], [(8, some (.row 1 5 (x85.map (encInt .u8))))], 0⟩ [0 ≤ (IntKind.i64.wrap (x86 + (1 : Int))), (IntKind.i64.wrap (x86 + (1 : Int))) < (a0.size : Int), ((bt a0 (IntKind.i64.wrap (x86 + (1 : Int)))) == (34 : Int)) = false, 0 ≤ (IntKind.i64.wrap (x86 + (1 : Int))), (IntKind.i64.wrap (x86 + (1 : Int))) < (a0.size : Int)] (by kernel_rfl) ⟨by exact c99.1, by exact c99.2, by exact c104, by exact c99.1, by exact c99.2, trivial⟩ ?_
                            obtain rfl := Option.some.inj H
                            exact Exists.intro _ (And.intro (fun _ _ h => h.conv (inv := [(8, 13)]) (vk := []) (e0 := []) (t := ⟨[(0, sV a0), (5, .own 13), (6, iV .i64 (IntKind.i64.wrap (x86 + (1 : Int)))), (58, bV ((bt a0 (IntKind.i64.wrap (x86 + (1 : Int)))) == (92 : Int)))], [(13, some (.row 1 5 (x85.map (encInt .u8))))], 0⟩) (by kernel_rfl)) (And.intro rfl rfl))
                        · obtain ⟨x105, rfl⟩ : ∃ z, z = o120 := ⟨_, rfl⟩
                          rintro e s ⟨rfl, rfl⟩
                          refine AWp.cond x105 rfl (fun c106 => ?_) (fun c106 => ?_)
                          · replace H := (ifT c106).symm.trans H
                            obtain ⟨c108, H⟩ := chk_of H
                            refine reg hP hn hm [(4, .app 14 ([bt a0 (IntKind.i64.wrap (x86 + (1 : Int)))].map (encInt .u8))), (5, .app 15 ((x85 ++ [bt a0 (IntKind.i64.wrap (x86 + (1 : Int)))]).map (encInt .u8)))] [0, 5, 6] [15] ⟨[(0, sV a0), (5, .own 15), (6, iV .i64 (IntKind.i64.wrap (x86 + (1 : Int))))], [(15, some (.row 1 5 ((x85 ++ [bt a0 (IntKind.i64.wrap (x86 + (1 : Int)))]).map (encInt .u8))))], 0⟩ [0 ≤ (IntKind.i64.wrap (x86 + (1 : Int))), (IntKind.i64.wrap (x86 + (1 : Int))) < (a0.size : Int), [bt a0 (IntKind.i64.wrap (x86 + (1 : Int)))].map (encInt .u8) = [[iI .u8 (bt a0 (IntKind.i64.wrap (x86 + (1 : Int))))]], (x85 ++ [bt a0 (IntKind.i64.wrap (x86 + (1 : Int)))]).map (encInt .u8) = (x85.map (encInt .u8)) ++ ([bt a0 (IntKind.i64.wrap (x86 + (1 : Int)))].map (encInt .u8)), ∀ c ∈ ([bt a0 (IntKind.i64.wrap (x86 + (1 : Int)))].map (encInt .u8)), c.length = 1, ∀ c ∈ ([bt a0 (IntKind.i64.wrap (x86 + (1 : Int)))].map (encInt .u8)), leaves (c.map .im) = true, ((x85.map (encInt .u8)).length + ([bt a0 (IntKind.i64.wrap (x86 + (1 : Int)))].map (encInt .u8)).length) * 1 ≤ 140737488355328] (by kernel_rfl) ⟨by exact c99.1, by exact c99.2, by exact rfl, by simp, by exact all_len _ _ _ (fun _ => rfl), by exact all_leaf _ _ (fun _ => rfl), by simpa using c108, trivial⟩ ?_
                            obtain rfl := Option.some.inj H
                            exact Exists.intro _ (And.intro (fun _ _ h => h.conv (inv := [(15, 16)]) (vk := []) (e0 := []) (t := ⟨[(0, sV a0), (5, .own 16), (6, iV .i64 (IntKind.i64.wrap (x86 + (1 : Int))))], [(16, some (.row 1 5 ((x85 ++ [bt a0 (IntKind.i64.wrap (x86 + (1 : Int)))]).map (encInt .u8))))], 0⟩) (by kernel_rfl)) (And.intro rfl rfl))
                          · replace H := (ifF c106).symm.trans H
                            refine AWp.seq ?_
                            refine reg hP hn hm [] [2, 3, 4] [] ⟨[(2, sV (⟨#[]⟩ : ByteArray)), (3, sV (⟨#[]⟩ : ByteArray)), (4, bV false)], [], 0⟩ [] (by kernel_rfl) trivial ?_
                            refine AWp.conv (inv := []) (vk := []) (e0 := []) (t := ⟨[(2, sV (⟨#[]⟩ : ByteArray)), (3, sV (⟨#[]⟩ : ByteArray)), (4, bV false)], [], 0⟩) (by kernel_rfl) ?_
                            refine AWp.ret ?_
                            obtain rfl := Option.some.inj H
                            exact Exists.intro _ (And.intro (fun _ _ h => h) (And.intro rfl (And.intro rfl (And.intro (by kernel_rfl) (by kernel_rfl)))))
                    · rcases o118 with rr | x109
                      · skip
                        rintro e s ⟨rfl, hfl, hres⟩
                        obtain rfl := Option.some.inj H
                        exact Exists.intro _ (And.intro (fun _ _ h => h) (And.intro rfl (And.intro hfl hres)))
                      · skip
                        rintro e s ⟨rfl, rfl⟩
                        obtain rfl := Option.some.inj H
                        exact Exists.intro _ (And.intro (fun _ _ h => h.conv (inv := [(16, 17)]) (vk := []) (e0 := []) (t := ⟨[(0, sV a0), (5, .own 17), (6, iV .i64 (IntKind.i64.wrap (x86 + (1 : Int))))], [(17, some (.row 1 5 (x109.map (encInt .u8))))], 0⟩) (by kernel_rfl)) (And.intro rfl rfl))
          · rcases o116 with rr | ⟨x110, x111⟩
            · skip
              rintro e s ⟨rfl, hfl, hres⟩
              obtain rfl := Option.some.inj H
              exact Exists.intro _ (And.intro (fun _ _ h => h) (And.intro rfl (And.intro hfl hres)))
            · skip
              rintro e s ⟨rfl, rfl⟩
              refine reg hP hn hm [] [0, 5, 6] [17] ⟨[(0, sV a0), (5, .own 17), (6, iV .i64 (IntKind.i64.wrap (x111 + (1 : Int))))], [(17, some (.row 1 5 (x110.map (encInt .u8))))], 0⟩ [] (by kernel_rfl) trivial ?_
              exact LWp.conv (inv := [(17, 8)]) (vk := []) (e0 := []) (t := ⟨[(0, sV a0), (5, .own 8), (6, iV .i64 (IntKind.i64.wrap (x111 + (1 : Int))))], [(8, some (.row 1 5 (x110.map (encInt .u8))))], 0⟩) (by kernel_rfl) (ih _ _ _ H)
        · replace H := (ifF c87).symm.trans H
          refine AWp.exit ?_
          obtain rfl := Option.some.inj H
          exact Exists.intro _ (And.intro (fun _ _ h => h.conv (inv := []) (vk := []) (e0 := []) (t := ⟨[], [], 0⟩) (by kernel_rfl)) (And.intro rfl rfl))
      · rcases o114 with rr | _
        · skip
          rintro e s ⟨rfl, hfl, hres⟩
          obtain rfl := Option.some.inj H
          exact Exists.intro _ (And.intro (fun _ _ h => h) (And.intro (.inl rfl) (And.intro hfl hres)))
        · skip
          rintro e s ⟨rfl, rfl⟩
          refine AWp.seq ?_
          refine reg hP hn hm [] [2, 3, 4] [] ⟨[(2, sV (⟨#[]⟩ : ByteArray)), (3, sV (⟨#[]⟩ : ByteArray)), (4, bV false)], [], 0⟩ [] (by kernel_rfl) trivial ?_
          refine AWp.conv (inv := []) (vk := []) (e0 := []) (t := ⟨[(2, sV (⟨#[]⟩ : ByteArray)), (3, sV (⟨#[]⟩ : ByteArray)), (4, bV false)], [], 0⟩) (by kernel_rfl) ?_
          refine AWp.ret ?_
          obtain rfl := Option.some.inj H
          exact Exists.intro _ (And.intro (fun _ _ h => h) (And.intro (.inl rfl) (And.intro rfl (And.intro (by kernel_rfl) (by kernel_rfl)))))
def f_label_name.l0 (a0 : ByteArray) (x194 : Int) : Option (Bool ⊕ Unit) := if (decide (x194 < (a0.size : Int))) = true then ((chk (0 ≤ x194 ∧ x194 < (a0.size : Int))) >>= fun _ => ((if (decide ((bt a0 x194) ≥ (97 : Int))) = true then (if (decide ((bt a0 x194) ≤ (122 : Int))) = true then (some true) else (if (decide ((bt a0 x194) ≥ (65 : Int))) = true then (if (decide ((bt a0 x194) ≤ (90 : Int))) = true then (some true) else (some ((bt a0 x194) == (95 : Int)))) else (some ((bt a0 x194) == (95 : Int))))) else (if (decide ((bt a0 x194) ≥ (65 : Int))) = true then (if (decide ((bt a0 x194) ≤ (90 : Int))) = true then (some true) else (some ((bt a0 x194) == (95 : Int)))) else (some ((bt a0 x194) == (95 : Int))))) : Option (Bool)) >>= fun x210 => ((if (!x210) = true then (if (x194 == (0 : Int)) = true then (some true) else (if (decide ((bt a0 x194) < (48 : Int))) = true then (some true) else (some (decide ((bt a0 x194) > (57 : Int)))))) else (some false)) : Option (Bool)) >>= fun x217 => if x217 = true then (some (.inl false)) else (f_label_name.l0 a0 (IntKind.i64.wrap (x194 + (1 : Int))))) else (some (.inr ()))
partial_fixpoint
def f_label_name.f (a0 : ByteArray) : Option (Bool) := ((if (a0.toList == (⟨#[]⟩ : ByteArray).toList) = true then (some true) else (some (decide ((a0.size : Int) > (64 : Int))))) : Option (Bool)) >>= fun x172 => if x172 = true then (some false) else ((f_label_name.l0 a0 0) >>= fun oo => match oo with | .inl rr => (some rr) | .inr _ => (some true))
theorem f_label_name.ok (a0 : ByteArray) (r : Bool) (H : f_label_name.f a0 = some r) : Pv.Fn Try.prog 63 [sV a0] [] 0 (fun x o => x = bV r ∧ o = []) := by
  unfold f_label_name.f at H
  refine Fn.bodyK [] Try.func63 rfl rfl (fun Γ hP hn => ?_)
  have hm : Try.prog.follows .mixedOrders = true := by kernel_rfl
  replace hn : Γ.n = 54 := hn
  refine AWp.seq ?_
  refine reg hP hn hm [] [0] [] ⟨[(0, sV a0)], [], 0⟩ [] (by kernel_rfl) trivial ?_
  refine AWp.seq ?_
  refine AWp.seq ?_
  obtain ⟨o219, e220, H⟩ := bind_of H
  refine AWp.mono (Q := fun e s => (match (generalizing := false) o219 with | x172 => e = .normal ∧ s = ⟨[(0, sV a0), (12, bV x172)], [], 0⟩)) (AWp.cv ?_) ?_
  · replace H := e220; clear e220
    rcases Bool.eq_false_or_eq_true (a0.toList == (⟨#[]⟩ : ByteArray).toList) with c171 | c171
    · replace H := (ifT c171).symm.trans H
      refine reg hP hn hm [(2, .b true)] [0, 12] [] ⟨[(0, sV a0), (12, bV true)], [], 0⟩ [(a0.toList == (⟨#[]⟩ : ByteArray).toList) = true] (by kernel_rfl) ⟨by exact c171, trivial⟩ ?_
      obtain rfl := Option.some.inj H
      exact Exists.intro _ (And.intro (fun _ _ h => h.conv (inv := []) (vk := []) (e0 := []) (t := ⟨[(0, sV a0), (12, bV true)], [], 0⟩) (by kernel_rfl)) (And.intro rfl rfl))
    · replace H := (ifF c171).symm.trans H
      refine reg hP hn hm [(2, .b false)] [0, 12] [] ⟨[(0, sV a0), (12, bV (decide ((a0.size : Int) > (64 : Int))))], [], 0⟩ [(a0.toList == (⟨#[]⟩ : ByteArray).toList) = false] (by kernel_rfl) ⟨by exact c171, trivial⟩ ?_
      obtain rfl := Option.some.inj H
      exact Exists.intro _ (And.intro (fun _ _ h => h.conv (inv := []) (vk := []) (e0 := []) (t := ⟨[(0, sV a0), (12, bV (decide ((a0.size : Int) > (64 : Int))))], [], 0⟩) (by kernel_rfl)) (And.intro rfl rfl))
  · obtain ⟨x172, rfl⟩ : ∃ z, z = o219 := ⟨_, rfl⟩
    rintro e s ⟨rfl, rfl⟩
    refine AWp.cond x172 rfl (fun c173 => ?_) (fun c173 => ?_)
    · replace H := (ifT c173).symm.trans H
      refine AWp.seq ?_
      refine reg hP hn hm [] [2] [] ⟨[(2, bV false)], [], 0⟩ [] (by kernel_rfl) trivial ?_
      refine AWp.conv (inv := []) (vk := []) (e0 := []) (t := ⟨[(2, bV false)], [], 0⟩) (by kernel_rfl) ?_
      refine AWp.ret ?_
      obtain rfl := Option.some.inj H
      exact Exists.intro _ (And.intro (fun _ _ h => h) (And.intro (.inl rfl) (And.intro rfl (And.intro (by kernel_rfl) (by kernel_rfl)))))
    · replace H := (ifF c173).symm.trans H
      refine AWp.skip ?_
      refine AWp.seq ?_
      refine AWp.seq ?_
      refine reg hP hn hm [] [0, 14, 15] [] ⟨[(0, sV a0), (14, iV .i64 (a0.size : Int)), (15, iV .i64 0)], [], 0⟩ [] (by kernel_rfl) trivial ?_
      refine AWp.block ?_
      obtain ⟨o221, e222, H⟩ := bind_of H
      refine AWp.loop (LWp.conv (inv := []) (vk := []) (e0 := []) (t := ⟨[(0, sV a0), (14, iV .i64 (a0.size : Int)), (15, iV .i64 0)], [], 0⟩) (by kernel_rfl) ?_)
      refine LWp.mono (Q := fun e s => (match (generalizing := false) o221 with | .inl rr => e = .ret ∧ s.floor = 0 ∧ resOf Try.prog Try.f63 s = some (bV rr) ∧ ([] : List (Nat × Option MObj)) = [] | .inr _ => e = .exit 0 ∧ s = ⟨[], [], 0⟩)) (LWp.cv (withBody (fun body hbody => ?_))) ?_
      · refine f_label_name.l0.partial_correctness a0 (motive := fun x194 o221 => LWp Γ body (fun e s => ∃ t, Cv Γ s t ∧ (match (generalizing := false) o221 with | .inl rr => e = .ret ∧ t.floor = 0 ∧ resOf Try.prog Try.f63 t = some (bV rr) ∧ ([] : List (Nat × Option MObj)) = [] | .inr _ => e = .exit 0 ∧ t = ⟨[], [], 0⟩)) ⟨[(0, sV a0), (14, iV .i64 (a0.size : Int)), (15, iV .i64 x194)], [], 0⟩) ?_ _ _ e222
        clear H e222 o221; intro self ih x194 o221 H
        subst hbody
        refine LWp.round ?_
        refine AWp.seq ?_
        refine reg hP hn hm [] [0, 14, 15, 16] [] ⟨[(0, sV a0), (14, iV .i64 (a0.size : Int)), (15, iV .i64 x194), (16, bV (decide (x194 < (a0.size : Int))))], [], 0⟩ [] (by kernel_rfl) trivial ?_
        refine AWp.seq ?_
        refine AWp.cond (decide (x194 < (a0.size : Int))) rfl (fun c195 => ?_) (fun c195 => ?_)
        · replace H := (ifT c195).symm.trans H
          refine AWp.skip ?_
          refine AWp.seq ?_
          refine AWp.block ?_
          refine AWp.seq ?_
          refine reg hP hn hm [] [0, 3, 14, 15] [] ⟨[(0, sV a0), (3, iV .i64 x194), (14, iV .i64 (a0.size : Int)), (15, iV .i64 x194)], [], 0⟩ [] (by kernel_rfl) trivial ?_
          refine AWp.seq ?_
          obtain ⟨c197, H⟩ := chk_of H
          refine reg hP hn hm [] [0, 3, 4, 14, 15] [] ⟨[(0, sV a0), (3, iV .i64 x194), (4, iV .u8 (bt a0 x194)), (14, iV .i64 (a0.size : Int)), (15, iV .i64 x194)], [], 0⟩ [0 ≤ x194, x194 < (a0.size : Int)] (by kernel_rfl) ⟨by exact c197.1, by exact c197.2, trivial⟩ ?_
          refine AWp.seq ?_
          obtain ⟨o223, e224, H⟩ := bind_of H
          refine AWp.mono (Q := fun e s => (match (generalizing := false) o223 with | x210 => e = .normal ∧ s = ⟨[(0, sV a0), (3, iV .i64 x194), (4, iV .u8 (bt a0 x194)), (5, bV x210), (14, iV .i64 (a0.size : Int)), (15, iV .i64 x194)], [], 0⟩)) (AWp.cv ?_) ?_
          · replace H := e224; clear e224
            rcases Bool.eq_false_or_eq_true (decide ((bt a0 x194) ≥ (97 : Int))) with c204 | c204
            · replace H := (ifT c204).symm.trans H
              rcases Bool.eq_false_or_eq_true (decide ((bt a0 x194) ≤ (122 : Int))) with c205 | c205
              · replace H := (ifT c205).symm.trans H
                refine reg hP hn hm [(2, .b true), (6, .b true)] [0, 3, 4, 5, 14, 15, 24, 25] [] ⟨[(0, sV a0), (3, iV .i64 x194), (4, iV .u8 (bt a0 x194)), (5, bV true), (14, iV .i64 (a0.size : Int)), (15, iV .i64 x194), (24, iV .u8 (bt a0 x194)), (25, bV (decide ((bt a0 x194) ≤ (122 : Int))))], [], 0⟩ [(decide ((bt a0 x194) ≥ (97 : Int))) = true, (decide ((bt a0 x194) ≤ (122 : Int))) = true] (by kernel_rfl) ⟨by exact c204, by exact c205, trivial⟩ ?_
                obtain rfl := Option.some.inj H
                exact Exists.intro _ (And.intro (fun _ _ h => h.conv (inv := []) (vk := []) (e0 := []) (t := ⟨[(0, sV a0), (3, iV .i64 x194), (4, iV .u8 (bt a0 x194)), (5, bV true), (14, iV .i64 (a0.size : Int)), (15, iV .i64 x194)], [], 0⟩) (by kernel_rfl)) (And.intro rfl rfl))
              · replace H := (ifF c205).symm.trans H
                rcases Bool.eq_false_or_eq_true (decide ((bt a0 x194) ≥ (65 : Int))) with c206 | c206
                · replace H := (ifT c206).symm.trans H
                  rcases Bool.eq_false_or_eq_true (decide ((bt a0 x194) ≤ (90 : Int))) with c207 | c207
                  · replace H := (ifT c207).symm.trans H
                    refine reg hP hn hm [(2, .b true), (6, .b false), (9, .b true), (14, .b true)] [0, 3, 4, 5, 14, 15, 24, 25, 28, 29, 30, 31, 32, 33] [] ⟨[(0, sV a0), (3, iV .i64 x194), (4, iV .u8 (bt a0 x194)), (5, bV true), (14, iV .i64 (a0.size : Int)), (15, iV .i64 x194), (24, iV .u8 (bt a0 x194)), (25, bV (decide ((bt a0 x194) ≤ (122 : Int)))), (28, iV .u8 (bt a0 x194)), (29, bV (decide ((bt a0 x194) ≥ (65 : Int)))), (30, bV true), (31, iV .u8 (bt a0 x194)), (32, bV (decide ((bt a0 x194) ≤ (90 : Int)))), (33, bV (decide ((bt a0 x194) ≤ (90 : Int))))], [], 0⟩ [(decide ((bt a0 x194) ≥ (97 : Int))) = true, (decide ((bt a0 x194) ≤ (122 : Int))) = false, (decide ((bt a0 x194) ≥ (65 : Int))) = true, (decide ((bt a0 x194) ≤ (90 : Int))) = true] (by kernel_rfl) ⟨by exact c204, by exact c205, by exact c206, by exact c207, trivial⟩ ?_
                    obtain rfl := Option.some.inj H
                    exact Exists.intro _ (And.intro (fun _ _ h => h.conv (inv := []) (vk := []) (e0 := []) (t := ⟨[(0, sV a0), (3, iV .i64 x194), (4, iV .u8 (bt a0 x194)), (5, bV true), (14, iV .i64 (a0.size : Int)), (15, iV .i64 x194)], [], 0⟩) (by kernel_rfl)) (And.intro rfl rfl))
                  · replace H := (ifF c207).symm.trans H
                    refine reg hP hn hm [(2, .b true), (6, .b false), (9, .b true), (14, .b false)] [0, 3, 4, 5, 14, 15, 24, 25, 28, 29, 30, 31, 32, 33, 36, 37] [] ⟨[(0, sV a0), (3, iV .i64 x194), (4, iV .u8 (bt a0 x194)), (5, bV ((bt a0 x194) == (95 : Int))), (14, iV .i64 (a0.size : Int)), (15, iV .i64 x194), (24, iV .u8 (bt a0 x194)), (25, bV (decide ((bt a0 x194) ≤ (122 : Int)))), (28, iV .u8 (bt a0 x194)), (29, bV (decide ((bt a0 x194) ≥ (65 : Int)))), (30, bV true), (31, iV .u8 (bt a0 x194)), (32, bV (decide ((bt a0 x194) ≤ (90 : Int)))), (33, bV (decide ((bt a0 x194) ≤ (90 : Int)))), (36, iV .u8 (bt a0 x194)), (37, bV ((bt a0 x194) == (95 : Int)))], [], 0⟩ [(decide ((bt a0 x194) ≥ (97 : Int))) = true, (decide ((bt a0 x194) ≤ (122 : Int))) = false, (decide ((bt a0 x194) ≥ (65 : Int))) = true, (decide ((bt a0 x194) ≤ (90 : Int))) = false] (by kernel_rfl) ⟨by exact c204, by exact c205, by exact c206, by exact c207, trivial⟩ ?_
                    obtain rfl := Option.some.inj H
                    exact Exists.intro _ (And.intro (fun _ _ h => h.conv (inv := []) (vk := []) (e0 := []) (t := ⟨[(0, sV a0), (3, iV .i64 x194), (4, iV .u8 (bt a0 x194)), (5, bV ((bt a0 x194) == (95 : Int))), (14, iV .i64 (a0.size : Int)), (15, iV .i64 x194)], [], 0⟩) (by kernel_rfl)) (And.intro rfl rfl))
                · replace H := (ifF c206).symm.trans H
                  refine reg hP hn hm [(2, .b true), (6, .b false), (9, .b false)] [0, 3, 4, 5, 14, 15, 24, 25, 28, 29, 30, 33, 36, 37] [] ⟨[(0, sV a0), (3, iV .i64 x194), (4, iV .u8 (bt a0 x194)), (5, bV ((bt a0 x194) == (95 : Int))), (14, iV .i64 (a0.size : Int)), (15, iV .i64 x194), (24, iV .u8 (bt a0 x194)), (25, bV (decide ((bt a0 x194) ≤ (122 : Int)))), (28, iV .u8 (bt a0 x194)), (29, bV (decide ((bt a0 x194) ≥ (65 : Int)))), (30, bV false), (33, bV false), (36, iV .u8 (bt a0 x194)), (37, bV ((bt a0 x194) == (95 : Int)))], [], 0⟩ [(decide ((bt a0 x194) ≥ (97 : Int))) = true, (decide ((bt a0 x194) ≤ (122 : Int))) = false, (decide ((bt a0 x194) ≥ (65 : Int))) = false] (by kernel_rfl) ⟨by exact c204, by exact c205, by exact c206, trivial⟩ ?_
                  obtain rfl := Option.some.inj H
                  exact Exists.intro _ (And.intro (fun _ _ h => h.conv (inv := []) (vk := []) (e0 := []) (t := ⟨[(0, sV a0), (3, iV .i64 x194), (4, iV .u8 (bt a0 x194)), (5, bV ((bt a0 x194) == (95 : Int))), (14, iV .i64 (a0.size : Int)), (15, iV .i64 x194)], [], 0⟩) (by kernel_rfl)) (And.intro rfl rfl))
            · replace H := (ifF c204).symm.trans H
              rcases Bool.eq_false_or_eq_true (decide ((bt a0 x194) ≥ (65 : Int))) with c208 | c208
              · replace H := (ifT c208).symm.trans H
                rcases Bool.eq_false_or_eq_true (decide ((bt a0 x194) ≤ (90 : Int))) with c209 | c209
                · replace H := (ifT c209).symm.trans H
                  refine reg hP hn hm [(2, .b false), (9, .b true), (14, .b true)] [0, 3, 4, 5, 14, 15, 28, 29, 30, 31, 32, 33] [] ⟨[(0, sV a0), (3, iV .i64 x194), (4, iV .u8 (bt a0 x194)), (5, bV true), (14, iV .i64 (a0.size : Int)), (15, iV .i64 x194), (28, iV .u8 (bt a0 x194)), (29, bV (decide ((bt a0 x194) ≥ (65 : Int)))), (30, bV true), (31, iV .u8 (bt a0 x194)), (32, bV (decide ((bt a0 x194) ≤ (90 : Int)))), (33, bV (decide ((bt a0 x194) ≤ (90 : Int))))], [], 0⟩ [(decide ((bt a0 x194) ≥ (97 : Int))) = false, (decide ((bt a0 x194) ≥ (65 : Int))) = true, (decide ((bt a0 x194) ≤ (90 : Int))) = true] (by kernel_rfl) ⟨by exact c204, by exact c208, by exact c209, trivial⟩ ?_
                  obtain rfl := Option.some.inj H
                  exact Exists.intro _ (And.intro (fun _ _ h => h.conv (inv := []) (vk := []) (e0 := []) (t := ⟨[(0, sV a0), (3, iV .i64 x194), (4, iV .u8 (bt a0 x194)), (5, bV true), (14, iV .i64 (a0.size : Int)), (15, iV .i64 x194)], [], 0⟩) (by kernel_rfl)) (And.intro rfl rfl))
                · replace H := (ifF c209).symm.trans H
                  refine reg hP hn hm [(2, .b false), (9, .b true), (14, .b false)] [0, 3, 4, 5, 14, 15, 28, 29, 30, 31, 32, 33, 36, 37] [] ⟨[(0, sV a0), (3, iV .i64 x194), (4, iV .u8 (bt a0 x194)), (5, bV ((bt a0 x194) == (95 : Int))), (14, iV .i64 (a0.size : Int)), (15, iV .i64 x194), (28, iV .u8 (bt a0 x194)), (29, bV (decide ((bt a0 x194) ≥ (65 : Int)))), (30, bV true), (31, iV .u8 (bt a0 x194)), (32, bV (decide ((bt a0 x194) ≤ (90 : Int)))), (33, bV (decide ((bt a0 x194) ≤ (90 : Int)))), (36, iV .u8 (bt a0 x194)), (37, bV ((bt a0 x194) == (95 : Int)))], [], 0⟩ [(decide ((bt a0 x194) ≥ (97 : Int))) = false, (decide ((bt a0 x194) ≥ (65 : Int))) = true, (decide ((bt a0 x194) ≤ (90 : Int))) = false] (by kernel_rfl) ⟨by exact c204, by exact c208, by exact c209, trivial⟩ ?_
                  obtain rfl := Option.some.inj H
                  exact Exists.intro _ (And.intro (fun _ _ h => h.conv (inv := []) (vk := []) (e0 := []) (t := ⟨[(0, sV a0), (3, iV .i64 x194), (4, iV .u8 (bt a0 x194)), (5, bV ((bt a0 x194) == (95 : Int))), (14, iV .i64 (a0.size : Int)), (15, iV .i64 x194)], [], 0⟩) (by kernel_rfl)) (And.intro rfl rfl))
              · replace H := (ifF c208).symm.trans H
                refine reg hP hn hm [(2, .b false), (9, .b false)] [0, 3, 4, 5, 14, 15, 28, 29, 30, 33, 36, 37] [] ⟨[(0, sV a0), (3, iV .i64 x194), (4, iV .u8 (bt a0 x194)), (5, bV ((bt a0 x194) == (95 : Int))), (14, iV .i64 (a0.size : Int)), (15, iV .i64 x194), (28, iV .u8 (bt a0 x194)), (29, bV (decide ((bt a0 x194) ≥ (65 : Int)))), (30, bV false), (33, bV false), (36, iV .u8 (bt a0 x194)), (37, bV ((bt a0 x194) == (95 : Int)))], [], 0⟩ [(decide ((bt a0 x194) ≥ (97 : Int))) = false, (decide ((bt a0 x194) ≥ (65 : Int))) = false] (by kernel_rfl) ⟨by exact c204, by exact c208, trivial⟩ ?_
                obtain rfl := Option.some.inj H
                exact Exists.intro _ (And.intro (fun _ _ h => h.conv (inv := []) (vk := []) (e0 := []) (t := ⟨[(0, sV a0), (3, iV .i64 x194), (4, iV .u8 (bt a0 x194)), (5, bV ((bt a0 x194) == (95 : Int))), (14, iV .i64 (a0.size : Int)), (15, iV .i64 x194)], [], 0⟩) (by kernel_rfl)) (And.intro rfl rfl))
          · obtain ⟨x210, rfl⟩ : ∃ z, z = o223 := ⟨_, rfl⟩
            rintro e s ⟨rfl, rfl⟩
            refine AWp.seq ?_
            obtain ⟨o225, e226, H⟩ := bind_of H
            refine AWp.mono (Q := fun e s => (match (generalizing := false) o225 with | x217 => e = .normal ∧ s = ⟨[(0, sV a0), (14, iV .i64 (a0.size : Int)), (15, iV .i64 x194), (52, bV x217)], [], 0⟩)) (AWp.cv ?_) ?_
            · replace H := e226; clear e226
              rcases Bool.eq_false_or_eq_true (!x210) with c214 | c214
              · replace H := (ifT c214).symm.trans H
                rcases Bool.eq_false_or_eq_true (x194 == (0 : Int)) with c215 | c215
                · replace H := (ifT c215).symm.trans H
                  refine reg hP hn hm [(2, .b true), (5, .b true)] [0, 14, 15, 42, 43, 44, 47, 48, 51, 52] [] ⟨[(0, sV a0), (14, iV .i64 (a0.size : Int)), (15, iV .i64 x194), (42, iV .i64 x194), (43, bV (x194 == (0 : Int))), (44, bV true), (47, bV true), (48, bV true), (51, bV true), (52, bV true)], [], 0⟩ [(!x210) = true, (x194 == (0 : Int)) = true] (by kernel_rfl) ⟨by exact c214, by exact c215, trivial⟩ ?_
                  obtain rfl := Option.some.inj H
                  exact Exists.intro _ (And.intro (fun _ _ h => h.conv (inv := []) (vk := []) (e0 := []) (t := ⟨[(0, sV a0), (14, iV .i64 (a0.size : Int)), (15, iV .i64 x194), (52, bV true)], [], 0⟩) (by kernel_rfl)) (And.intro rfl rfl))
                · replace H := (ifF c215).symm.trans H
                  rcases Bool.eq_false_or_eq_true (decide ((bt a0 x194) < (48 : Int))) with c216 | c216
                  · replace H := (ifT c216).symm.trans H
                    refine reg hP hn hm [(2, .b true), (5, .b false), (9, .b true)] [0, 14, 15, 42, 43, 44, 45, 46, 47, 48, 51, 52] [] ⟨[(0, sV a0), (14, iV .i64 (a0.size : Int)), (15, iV .i64 x194), (42, iV .i64 x194), (43, bV (x194 == (0 : Int))), (44, bV false), (45, iV .u8 (bt a0 x194)), (46, bV (decide ((bt a0 x194) < (48 : Int)))), (47, bV (decide ((bt a0 x194) < (48 : Int)))), (48, bV true), (51, bV true), (52, bV true)], [], 0⟩ [(!x210) = true, (x194 == (0 : Int)) = false, (decide ((bt a0 x194) < (48 : Int))) = true] (by kernel_rfl) ⟨by exact c214, by exact c215, by exact c216, trivial⟩ ?_
                    obtain rfl := Option.some.inj H
                    exact Exists.intro _ (And.intro (fun _ _ h => h.conv (inv := []) (vk := []) (e0 := []) (t := ⟨[(0, sV a0), (14, iV .i64 (a0.size : Int)), (15, iV .i64 x194), (52, bV true)], [], 0⟩) (by kernel_rfl)) (And.intro rfl rfl))
                  · replace H := (ifF c216).symm.trans H
                    refine reg hP hn hm [(2, .b true), (5, .b false), (9, .b false)] [0, 14, 15, 42, 43, 44, 45, 46, 47, 48, 49, 50, 51, 52] [] ⟨[(0, sV a0), (14, iV .i64 (a0.size : Int)), (15, iV .i64 x194), (42, iV .i64 x194), (43, bV (x194 == (0 : Int))), (44, bV false), (45, iV .u8 (bt a0 x194)), (46, bV (decide ((bt a0 x194) < (48 : Int)))), (47, bV (decide ((bt a0 x194) < (48 : Int)))), (48, bV false), (49, iV .u8 (bt a0 x194)), (50, bV (decide ((bt a0 x194) > (57 : Int)))), (51, bV (decide ((bt a0 x194) > (57 : Int)))), (52, bV (decide ((bt a0 x194) > (57 : Int))))], [], 0⟩ [(!x210) = true, (x194 == (0 : Int)) = false, (decide ((bt a0 x194) < (48 : Int))) = false] (by kernel_rfl) ⟨by exact c214, by exact c215, by exact c216, trivial⟩ ?_
                    obtain rfl := Option.some.inj H
                    exact Exists.intro _ (And.intro (fun _ _ h => h.conv (inv := []) (vk := []) (e0 := []) (t := ⟨[(0, sV a0), (14, iV .i64 (a0.size : Int)), (15, iV .i64 x194), (52, bV (decide ((bt a0 x194) > (57 : Int))))], [], 0⟩) (by kernel_rfl)) (And.intro rfl rfl))
              · replace H := (ifF c214).symm.trans H
                refine reg hP hn hm [(2, .b false)] [0, 14, 15, 52] [] ⟨[(0, sV a0), (14, iV .i64 (a0.size : Int)), (15, iV .i64 x194), (52, bV false)], [], 0⟩ [(!x210) = false] (by kernel_rfl) ⟨by exact c214, trivial⟩ ?_
                obtain rfl := Option.some.inj H
                exact Exists.intro _ (And.intro (fun _ _ h => h.conv (inv := []) (vk := []) (e0 := []) (t := ⟨[(0, sV a0), (14, iV .i64 (a0.size : Int)), (15, iV .i64 x194), (52, bV false)], [], 0⟩) (by kernel_rfl)) (And.intro rfl rfl))
            · obtain ⟨x217, rfl⟩ : ∃ z, z = o225 := ⟨_, rfl⟩
              rintro e s ⟨rfl, rfl⟩
              refine AWp.cond x217 rfl (fun c218 => ?_) (fun c218 => ?_)
              · replace H := (ifT c218).symm.trans H
                refine AWp.seq ?_
                refine reg hP hn hm [] [2] [] ⟨[(2, bV false)], [], 0⟩ [] (by kernel_rfl) trivial ?_
                refine AWp.conv (inv := []) (vk := []) (e0 := []) (t := ⟨[(2, bV false)], [], 0⟩) (by kernel_rfl) ?_
                refine AWp.ret ?_
                obtain rfl := Option.some.inj H
                exact Exists.intro _ (And.intro (fun _ _ h => h) (And.intro rfl (And.intro rfl (And.intro (by kernel_rfl) (by kernel_rfl)))))
              · replace H := (ifF c218).symm.trans H
                refine AWp.skip ?_
                refine reg hP hn hm [] [0, 14, 15] [] ⟨[(0, sV a0), (14, iV .i64 (a0.size : Int)), (15, iV .i64 (IntKind.i64.wrap (x194 + (1 : Int))))], [], 0⟩ [] (by kernel_rfl) trivial ?_
                exact LWp.conv (inv := []) (vk := []) (e0 := []) (t := ⟨[(0, sV a0), (14, iV .i64 (a0.size : Int)), (15, iV .i64 (IntKind.i64.wrap (x194 + (1 : Int))))], [], 0⟩) (by kernel_rfl) (ih _ _ H)
        · replace H := (ifF c195).symm.trans H
          refine AWp.exit ?_
          obtain rfl := Option.some.inj H
          exact Exists.intro _ (And.intro (fun _ _ h => h.conv (inv := []) (vk := []) (e0 := []) (t := ⟨[], [], 0⟩) (by kernel_rfl)) (And.intro rfl rfl))
      · rcases o221 with rr | _
        · skip
          rintro e s ⟨rfl, hfl, hres⟩
          obtain rfl := Option.some.inj H
          exact Exists.intro _ (And.intro (fun _ _ h => h) (And.intro (.inl rfl) (And.intro hfl hres)))
        · skip
          rintro e s ⟨rfl, rfl⟩
          refine AWp.seq ?_
          refine reg hP hn hm [] [2] [] ⟨[(2, bV true)], [], 0⟩ [] (by kernel_rfl) trivial ?_
          refine AWp.conv (inv := []) (vk := []) (e0 := []) (t := ⟨[(2, bV true)], [], 0⟩) (by kernel_rfl) ?_
          refine AWp.ret ?_
          obtain rfl := Option.some.inj H
          exact Exists.intro _ (And.intro (fun _ _ h => h) (And.intro (.inl rfl) (And.intro rfl (And.intro (by kernel_rfl) (by kernel_rfl)))))
def f_label_value.f (a0 : ByteArray) : Option (Bool) := ((if (!(a0.toList == (⟨#[]⟩ : ByteArray).toList)) = true then (some (decide ((a0.size : Int) ≤ (64 : Int)))) else (some false)) : Option (Bool)) >>= fun x232 => some x232
theorem f_label_value.ok (a0 : ByteArray) (r : Bool) (H : f_label_value.f a0 = some r) : Pv.Fn Try.prog 64 [sV a0] [] 0 (fun x o => x = bV r ∧ o = []) := by
  unfold f_label_value.f at H
  refine Fn.bodyK [] Try.func64 rfl rfl (fun Γ hP hn => ?_)
  have hm : Try.prog.follows .mixedOrders = true := by kernel_rfl
  replace hn : Γ.n = 10 := hn
  refine AWp.seq ?_
  refine reg hP hn hm [] [0] [] ⟨[(0, sV a0)], [], 0⟩ [] (by kernel_rfl) trivial ?_
  refine AWp.seq ?_
  obtain ⟨o233, e234, H⟩ := bind_of H
  refine AWp.mono (Q := fun e s => (match (generalizing := false) o233 with | x232 => e = .normal ∧ s = ⟨[(2, bV x232)], [], 0⟩)) (AWp.cv ?_) ?_
  · replace H := e234; clear e234
    rcases Bool.eq_false_or_eq_true (!(a0.toList == (⟨#[]⟩ : ByteArray).toList)) with c231 | c231
    · replace H := (ifT c231).symm.trans H
      refine reg hP hn hm [(2, .b true)] [2] [] ⟨[(2, bV (decide ((a0.size : Int) ≤ (64 : Int))))], [], 0⟩ [(!(a0.toList == (⟨#[]⟩ : ByteArray).toList)) = true] (by kernel_rfl) ⟨by exact c231, trivial⟩ ?_
      obtain rfl := Option.some.inj H
      exact Exists.intro _ (And.intro (fun _ _ h => h.conv (inv := []) (vk := []) (e0 := []) (t := ⟨[(2, bV (decide ((a0.size : Int) ≤ (64 : Int))))], [], 0⟩) (by kernel_rfl)) (And.intro rfl rfl))
    · replace H := (ifF c231).symm.trans H
      refine reg hP hn hm [(2, .b false)] [2] [] ⟨[(2, bV false)], [], 0⟩ [(!(a0.toList == (⟨#[]⟩ : ByteArray).toList)) = false] (by kernel_rfl) ⟨by exact c231, trivial⟩ ?_
      obtain rfl := Option.some.inj H
      exact Exists.intro _ (And.intro (fun _ _ h => h.conv (inv := []) (vk := []) (e0 := []) (t := ⟨[(2, bV false)], [], 0⟩) (by kernel_rfl)) (And.intro rfl rfl))
  · obtain ⟨x232, rfl⟩ : ∃ z, z = o233 := ⟨_, rfl⟩
    rintro e s ⟨rfl, rfl⟩
    refine AWp.conv (inv := []) (vk := []) (e0 := []) (t := ⟨[(2, bV x232)], [], 0⟩) (by kernel_rfl) ?_
    refine AWp.ret ?_
    obtain rfl := Option.some.inj H
    exact Exists.intro _ (And.intro (fun _ _ h => h) (And.intro (.inl rfl) (And.intro rfl (And.intro (by kernel_rfl) (by kernel_rfl)))))
def f_label_Check.l0 (a0 : List S66) (x246 : Int) : Option (Int ⊕ Unit) := if (decide (x246 < (a0.length : Int))) = true then ((at? a0 x246) >>= fun b251 => (((f_label_name.f b251.f0) >>= fun t264 => if (!t264) = true then (some true) else ((f_label_value.f b251.f1) >>= fun t267 => if (!t267) = true then (some true) else (if (decide (x246 > (0 : Int))) = true then ((at? a0 (IntKind.i64.wrap (x246 - (1 : Int)))) >>= fun b271 => some (!Op.bytesLess b271.f0.toList b251.f0.toList)) else (some false)))) : Option (Bool)) >>= fun x274 => if x274 = true then (some (.inl 26)) else (f_label_Check.l0 a0 (IntKind.i64.wrap (x246 + (1 : Int))))) else (some (.inr ()))
partial_fixpoint
def f_label_Check.f (a0 : List S66) : Option (Int) := if (decide ((a0.length : Int) > (16 : Int))) = true then (some 9) else ((f_label_Check.l0 a0 0) >>= fun oo => match oo with | .inl rr => (some rr) | .inr _ => (some 0))
theorem f_label_Check.ok (a0 : List S66) (r : Int) (H : f_label_Check.f a0 = some r) : Pv.Fn Try.prog 35 [.im (.row (a0.map enc66))] [] 0 (fun x o => x = iV .i64 r ∧ o = []) := by
  unfold f_label_Check.f at H
  refine Fn.bodyK [] Try.func35 rfl rfl (fun Γ hP hn => ?_)
  have hm : Try.prog.follows .mixedOrders = true := by kernel_rfl
  replace hn : Γ.n = 41 := hn
  refine AWp.seq ?_
  refine reg hP hn hm [] [0] [] ⟨[(0, .im (.row (a0.map enc66)))], [], 0⟩ [] (by kernel_rfl) trivial ?_
  refine AWp.seq ?_
  refine AWp.seq ?_
  refine reg hP hn hm [(1, .any (iV .i64 (a0.length : Int)))] [0, 7] [] ⟨[(0, .im (.row (a0.map enc66))), (7, bV (decide ((a0.length : Int) > (16 : Int))))], [], 0⟩ [((a0.map enc66).length : Int) = (a0.length : Int)] (by kernel_rfl) ⟨by rw [len_map], trivial⟩ ?_
  refine AWp.cond (decide ((a0.length : Int) > (16 : Int))) rfl (fun c162 => ?_) (fun c162 => ?_)
  · replace H := (ifT c162).symm.trans H
    refine AWp.seq ?_
    refine reg hP hn hm [] [2] [] ⟨[(2, iV .i64 9)], [], 0⟩ [] (by kernel_rfl) trivial ?_
    refine AWp.conv (inv := []) (vk := []) (e0 := []) (t := ⟨[(2, iV .i64 9)], [], 0⟩) (by kernel_rfl) ?_
    refine AWp.ret ?_
    obtain rfl := Option.some.inj H
    exact Exists.intro _ (And.intro (fun _ _ h => h) (And.intro (.inl rfl) (And.intro rfl (And.intro (by kernel_rfl) (by kernel_rfl)))))
  · replace H := (ifF c162).symm.trans H
    refine AWp.skip ?_
    refine AWp.seq ?_
    refine AWp.seq ?_
    refine reg hP hn hm [(1, .any (iV .i64 (a0.length : Int)))] [0, 8, 9, 10] [] ⟨[(0, .im (.row (a0.map enc66))), (8, .im (.row (a0.map enc66))), (9, iV .i64 (a0.length : Int)), (10, iV .i64 0)], [], 0⟩ [((a0.map enc66).length : Int) = (a0.length : Int)] (by kernel_rfl) ⟨by rw [len_map], trivial⟩ ?_
    refine AWp.block ?_
    obtain ⟨o276, e277, H⟩ := bind_of H
    refine AWp.loop (LWp.conv (inv := []) (vk := []) (e0 := []) (t := ⟨[(0, .im (.row (a0.map enc66))), (8, .im (.row (a0.map enc66))), (9, iV .i64 (a0.length : Int)), (10, iV .i64 0)], [], 0⟩) (by kernel_rfl) ?_)
    refine LWp.mono (Q := fun e s => (match (generalizing := false) o276 with | .inl rr => e = .ret ∧ s.floor = 0 ∧ resOf Try.prog Try.f35 s = some (iV .i64 rr) ∧ ([] : List (Nat × Option MObj)) = [] | .inr _ => e = .exit 0 ∧ s = ⟨[], [], 0⟩)) (LWp.cv (withBody (fun body hbody => ?_))) ?_
    · refine f_label_Check.l0.partial_correctness a0 (motive := fun x246 o276 => LWp Γ body (fun e s => ∃ t, Cv Γ s t ∧ (match (generalizing := false) o276 with | .inl rr => e = .ret ∧ t.floor = 0 ∧ resOf Try.prog Try.f35 t = some (iV .i64 rr) ∧ ([] : List (Nat × Option MObj)) = [] | .inr _ => e = .exit 0 ∧ t = ⟨[], [], 0⟩)) ⟨[(0, .im (.row (a0.map enc66))), (8, .im (.row (a0.map enc66))), (9, iV .i64 (a0.length : Int)), (10, iV .i64 x246)], [], 0⟩) ?_ _ _ e277
      clear H e277 o276; intro self ih x246 o276 H
      subst hbody
      refine LWp.round ?_
      refine AWp.seq ?_
      refine reg hP hn hm [] [0, 8, 9, 10, 11] [] ⟨[(0, .im (.row (a0.map enc66))), (8, .im (.row (a0.map enc66))), (9, iV .i64 (a0.length : Int)), (10, iV .i64 x246), (11, bV (decide (x246 < (a0.length : Int))))], [], 0⟩ [] (by kernel_rfl) trivial ?_
      refine AWp.seq ?_
      refine AWp.cond (decide (x246 < (a0.length : Int))) rfl (fun c247 => ?_) (fun c247 => ?_)
      · replace H := (ifT c247).symm.trans H
        refine AWp.skip ?_
        refine AWp.seq ?_
        refine AWp.block ?_
        refine AWp.seq ?_
        obtain ⟨b251, p252, q253, H⟩ := at_of H
        refine reg hP hn hm [(1, .c (enc66 b251)), (3, .k 1)] [0, 3, 4, 8, 9, 10] [1] ⟨[(0, .im (.row (a0.map enc66))), (3, iV .i64 x246), (4, .ptr 1 0 0), (8, .im (.row (a0.map enc66))), (9, iV .i64 (a0.length : Int)), (10, iV .i64 x246)], [(1, some (.box 67 [sV b251.f0, sV b251.f1]))], 0⟩ [0 ≤ x246, (a0.map enc66)[(Int.toNat (x246))]? = some (enc66 b251)] (by kernel_rfl) ⟨by exact p252, by exact el_map enc66 q253, trivial⟩ ?_
        refine AWp.seq ?_
        obtain ⟨o278, e279, H⟩ := bind_of H
        refine AWp.mono (Q := fun e s => (match (generalizing := false) o278 with | x274 => e = .normal ∧ s = ⟨[(0, .im (.row (a0.map enc66))), (8, .im (.row (a0.map enc66))), (9, iV .i64 (a0.length : Int)), (10, iV .i64 x246), (39, bV x274)], [], 0⟩)) (AWp.cv ?_) ?_
        · replace H := e279; clear e279
          obtain ⟨t264, e265, H⟩ := bind_of H
          rcases Bool.eq_false_or_eq_true (!t264) with c266 | c266
          · replace H := (ifT c266).symm.trans H
            refine reg hP hn hm [(2, .call [] [] [] [] 0 (bV t264) []), (4, .b true)] [0, 8, 9, 10, 39] [] ⟨[(0, .im (.row (a0.map enc66))), (8, .im (.row (a0.map enc66))), (9, iV .i64 (a0.length : Int)), (10, iV .i64 x246), (39, bV true)], [], 0⟩ [Enters Try.prog 63, Pv.Fn Try.prog 63 [sV b251.f0] [] 0 (fun r o => r = bV t264 ∧ o = []), (!t264) = true] (by kernel_rfl) ⟨by exact Try.call63, by exact f_label_name.ok b251.f0 t264 e265, by exact c266, trivial⟩ ?_
            obtain rfl := Option.some.inj H
            exact Exists.intro _ (And.intro (fun _ _ h => h.conv (inv := []) (vk := []) (e0 := []) (t := ⟨[(0, .im (.row (a0.map enc66))), (8, .im (.row (a0.map enc66))), (9, iV .i64 (a0.length : Int)), (10, iV .i64 x246), (39, bV true)], [], 0⟩) (by kernel_rfl)) (And.intro rfl rfl))
          · replace H := (ifF c266).symm.trans H
            obtain ⟨t267, e268, H⟩ := bind_of H
            rcases Bool.eq_false_or_eq_true (!t267) with c269 | c269
            · replace H := (ifT c269).symm.trans H
              refine reg hP hn hm [(2, .call [] [] [] [] 0 (bV t264) []), (4, .b false), (7, .call [] [] [] [] 0 (bV t267) []), (10, .b true)] [0, 8, 9, 10, 20, 21, 22, 23, 39] [1] ⟨[(0, .im (.row (a0.map enc66))), (8, .im (.row (a0.map enc66))), (9, iV .i64 (a0.length : Int)), (10, iV .i64 x246), (20, .ptr 1 0 1), (21, sV b251.f1), (22, bV t267), (23, bV (!t267)), (39, bV true)], [(1, some (.box 67 [sV b251.f0, sV b251.f1]))], 0⟩ [Enters Try.prog 63, Pv.Fn Try.prog 63 [sV b251.f0] [] 0 (fun r o => r = bV t264 ∧ o = []), (!t264) = false, Enters Try.prog 64, Pv.Fn Try.prog 64 [sV b251.f1] [] 0 (fun r o => r = bV t267 ∧ o = []), (!t267) = true] (by kernel_rfl) ⟨by exact Try.call63, by exact f_label_name.ok b251.f0 t264 e265, by exact c266, by exact Try.call64, by exact f_label_value.ok b251.f1 t267 e268, by exact c269, trivial⟩ ?_
              obtain rfl := Option.some.inj H
              exact Exists.intro _ (And.intro (fun _ _ h => h.conv (inv := []) (vk := []) (e0 := []) (t := ⟨[(0, .im (.row (a0.map enc66))), (8, .im (.row (a0.map enc66))), (9, iV .i64 (a0.length : Int)), (10, iV .i64 x246), (39, bV true)], [], 0⟩) (by kernel_rfl)) (And.intro rfl rfl))
            · replace H := (ifF c269).symm.trans H
              rcases Bool.eq_false_or_eq_true (decide (x246 > (0 : Int))) with c270 | c270
              · replace H := (ifT c270).symm.trans H
                obtain ⟨b271, p272, q273, H⟩ := at_of H
                refine reg hP hn hm [(2, .call [] [] [] [] 0 (bV t264) []), (4, .b false), (7, .call [] [] [] [] 0 (bV t267) []), (10, .b false), (13, .b true), (17, .c (enc66 b271))] [0, 8, 9, 10, 20, 21, 22, 23, 26, 27, 28, 29, 30, 31, 32, 33, 34, 35, 36, 37, 38, 39] [1] ⟨[(0, .im (.row (a0.map enc66))), (8, .im (.row (a0.map enc66))), (9, iV .i64 (a0.length : Int)), (10, iV .i64 x246), (20, .ptr 1 0 1), (21, sV b251.f1), (22, bV t267), (23, bV (!t267)), (26, iV .i64 x246), (27, bV (decide (x246 > (0 : Int)))), (28, bV true), (29, .im (.row (a0.map enc66))), (30, iV .i64 x246), (31, iV .i64 (IntKind.i64.wrap (x246 - (1 : Int)))), (32, .ip [sI b271.f0, sI b271.f1]), (33, .ip [sI b271.f0, sI b271.f1]), (34, sV b271.f0), (35, .ptr 1 0 0), (36, sV b251.f0), (37, bV (!Op.bytesLess b271.f0.toList b251.f0.toList)), (38, bV (!Op.bytesLess b271.f0.toList b251.f0.toList)), (39, bV (!Op.bytesLess b271.f0.toList b251.f0.toList))], [(1, some (.box 67 [sV b251.f0, sV b251.f1]))], 0⟩ [Enters Try.prog 63, Pv.Fn Try.prog 63 [sV b251.f0] [] 0 (fun r o => r = bV t264 ∧ o = []), (!t264) = false, Enters Try.prog 64, Pv.Fn Try.prog 64 [sV b251.f1] [] 0 (fun r o => r = bV t267 ∧ o = []), (!t267) = false, (decide (x246 > (0 : Int))) = true, 0 ≤ (IntKind.i64.wrap (x246 - (1 : Int))), (a0.map enc66)[(Int.toNat (IntKind.i64.wrap (x246 - (1 : Int))))]? = some (enc66 b271)] (by kernel_rfl) ⟨by exact Try.call63, by exact f_label_name.ok b251.f0 t264 e265, by exact c266, by exact Try.call64, by exact f_label_value.ok b251.f1 t267 e268, by exact c269, by exact c270, by exact p272, by exact el_map enc66 q273, trivial⟩ ?_
                obtain rfl := Option.some.inj H
                exact Exists.intro _ (And.intro (fun _ _ h => h.conv (inv := []) (vk := []) (e0 := []) (t := ⟨[(0, .im (.row (a0.map enc66))), (8, .im (.row (a0.map enc66))), (9, iV .i64 (a0.length : Int)), (10, iV .i64 x246), (39, bV (!Op.bytesLess b271.f0.toList b251.f0.toList))], [], 0⟩) (by kernel_rfl)) (And.intro rfl rfl))
              · replace H := (ifF c270).symm.trans H
                refine reg hP hn hm [(2, .call [] [] [] [] 0 (bV t264) []), (4, .b false), (7, .call [] [] [] [] 0 (bV t267) []), (10, .b false), (13, .b false)] [0, 8, 9, 10, 20, 21, 22, 23, 26, 27, 28, 38, 39] [1] ⟨[(0, .im (.row (a0.map enc66))), (8, .im (.row (a0.map enc66))), (9, iV .i64 (a0.length : Int)), (10, iV .i64 x246), (20, .ptr 1 0 1), (21, sV b251.f1), (22, bV t267), (23, bV (!t267)), (26, iV .i64 x246), (27, bV (decide (x246 > (0 : Int)))), (28, bV false), (38, bV false), (39, bV false)], [(1, some (.box 67 [sV b251.f0, sV b251.f1]))], 0⟩ [Enters Try.prog 63, Pv.Fn Try.prog 63 [sV b251.f0] [] 0 (fun r o => r = bV t264 ∧ o = []), (!t264) = false, Enters Try.prog 64, Pv.Fn Try.prog 64 [sV b251.f1] [] 0 (fun r o => r = bV t267 ∧ o = []), (!t267) = false, (decide (x246 > (0 : Int))) = false] (by kernel_rfl) ⟨by exact Try.call63, by exact f_label_name.ok b251.f0 t264 e265, by exact c266, by exact Try.call64, by exact f_label_value.ok b251.f1 t267 e268, by exact c269, by exact c270, trivial⟩ ?_
                obtain rfl := Option.some.inj H
                exact Exists.intro _ (And.intro (fun _ _ h => h.conv (inv := []) (vk := []) (e0 := []) (t := ⟨[(0, .im (.row (a0.map enc66))), (8, .im (.row (a0.map enc66))), (9, iV .i64 (a0.length : Int)), (10, iV .i64 x246), (39, bV false)], [], 0⟩) (by kernel_rfl)) (And.intro rfl rfl))
        · obtain ⟨x274, rfl⟩ : ∃ z, z = o278 := ⟨_, rfl⟩
          rintro e s ⟨rfl, rfl⟩
          refine AWp.cond x274 rfl (fun c275 => ?_) (fun c275 => ?_)
          · replace H := (ifT c275).symm.trans H
            refine AWp.seq ?_
            refine reg hP hn hm [] [2] [] ⟨[(2, iV .i64 26)], [], 0⟩ [] (by kernel_rfl) trivial ?_
            refine AWp.conv (inv := []) (vk := []) (e0 := []) (t := ⟨[(2, iV .i64 26)], [], 0⟩) (by kernel_rfl) ?_
            refine AWp.ret ?_
            obtain rfl := Option.some.inj H
            exact Exists.intro _ (And.intro (fun _ _ h => h) (And.intro rfl (And.intro rfl (And.intro (by kernel_rfl) (by kernel_rfl)))))
          · replace H := (ifF c275).symm.trans H
            refine AWp.skip ?_
            refine reg hP hn hm [] [0, 8, 9, 10] [] ⟨[(0, .im (.row (a0.map enc66))), (8, .im (.row (a0.map enc66))), (9, iV .i64 (a0.length : Int)), (10, iV .i64 (IntKind.i64.wrap (x246 + (1 : Int))))], [], 0⟩ [] (by kernel_rfl) trivial ?_
            exact LWp.conv (inv := []) (vk := []) (e0 := []) (t := ⟨[(0, .im (.row (a0.map enc66))), (8, .im (.row (a0.map enc66))), (9, iV .i64 (a0.length : Int)), (10, iV .i64 (IntKind.i64.wrap (x246 + (1 : Int))))], [], 0⟩) (by kernel_rfl) (ih _ _ H)
      · replace H := (ifF c247).symm.trans H
        refine AWp.exit ?_
        obtain rfl := Option.some.inj H
        exact Exists.intro _ (And.intro (fun _ _ h => h.conv (inv := []) (vk := []) (e0 := []) (t := ⟨[], [], 0⟩) (by kernel_rfl)) (And.intro rfl rfl))
    · rcases o276 with rr | _
      · skip
        rintro e s ⟨rfl, hfl, hres⟩
        obtain rfl := Option.some.inj H
        exact Exists.intro _ (And.intro (fun _ _ h => h) (And.intro (.inl rfl) (And.intro hfl hres)))
      · skip
        rintro e s ⟨rfl, rfl⟩
        refine AWp.seq ?_
        refine reg hP hn hm [] [2] [] ⟨[(2, iV .i64 0)], [], 0⟩ [] (by kernel_rfl) trivial ?_
        refine AWp.conv (inv := []) (vk := []) (e0 := []) (t := ⟨[(2, iV .i64 0)], [], 0⟩) (by kernel_rfl) ?_
        refine AWp.ret ?_
        obtain rfl := Option.some.inj H
        exact Exists.intro _ (And.intro (fun _ _ h => h) (And.intro (.inl rfl) (And.intro rfl (And.intro (by kernel_rfl) (by kernel_rfl)))))
def f_label_Parse.l0 (x138 : ByteArray) (x139 : List S66) : Option (((List S66) × Int) ⊕ (List S66)) := (f_strings_Cut.f x138) >>= fun t142 => if (!t142.2.2) = true then (some (.inl ([], 6))) else ((f_label_Unquote.f t142.2.1) >>= fun t147 => ((if (!t147.2.2) = true then (some true) else (some (t147.2.1.toList == (⟨#[]⟩ : ByteArray).toList))) : Option (Bool)) >>= fun x151 => if x151 = true then (some (.inl ([], 6))) else ((chk ((x139.length + [(⟨t142.1, t147.1⟩ : S66)].length) * 32 ≤ 140737488355328)) >>= fun _ => if (t147.2.1.toList == (⟨#[125]⟩ : ByteArray).toList) = true then (some (.inr (x139 ++ [(⟨t142.1, t147.1⟩ : S66)]))) else ((chk (0 ≤ (0 : Int) ∧ (0 : Int) < (t147.2.1.size : Int))) >>= fun _ => if ((bt t147.2.1 0) != (44 : Int)) = true then (some (.inl ([], 6))) else ((chk (0 ≤ (1 : Int) ∧ (1 : Int) ≤ (t147.2.1.size : Int) ∧ (t147.2.1.size : Int) ≤ (t147.2.1.size : Int))) >>= fun _ => f_label_Parse.l0  (t147.2.1.extract (Int.toNat ((1 : Int))) (Int.toNat ((t147.2.1.size : Int)))) (x139 ++ [(⟨t142.1, t147.1⟩ : S66)])))))
partial_fixpoint
def f_label_Parse.f (a0 : ByteArray) : Option ((List S66) × Int) := (f_strings_CutPrefix.f a0 (⟨#[123]⟩ : ByteArray)) >>= fun t25 => if (!t25.2) = true then (some ([], 6)) else (if (t25.1.toList == (⟨#[125]⟩ : ByteArray).toList) = true then (some ([], 0)) else ((f_label_Parse.l0  t25.1 []) >>= fun oo => match oo with | .inl rr => (some rr) | .inr x161 => ((f_label_Check.f x161) >>= fun t282 => if (t282 != (0 : Int)) = true then (some ([], t282)) else (some (x161, 0)))))
theorem f_label_Parse.ok (a0 : ByteArray) (r : (List S66) × Int) (H : f_label_Parse.f a0 = some r) : Pv.Fn Try.prog 25 [sV a0] [] 0 (fun x o => x = .tup [.own 0, iV .i64 r.2] ∧ o = [(0, some (.row 2 67 (r.1.map enc66)))]) := by
  unfold f_label_Parse.f at H
  refine Fn.bodyK [0] Try.func25 rfl rfl (fun Γ hP hn => ?_)
  have hm : Try.prog.follows .mixedOrders = true := by kernel_rfl
  replace hn : Γ.n = 61 := hn
  refine AWp.seq ?_
  refine reg hP hn hm [] [0] [] ⟨[(0, sV a0)], [], 0⟩ [] (by kernel_rfl) trivial ?_
  refine AWp.seq ?_
  obtain ⟨t25, e26, H⟩ := bind_of H
  refine reg hP hn hm [(1, .call [] [] [] [] 0 (.tup [sV t25.1, bV t25.2]) [])] [4, 5] [] ⟨[(4, sV t25.1), (5, bV t25.2)], [], 0⟩ [Enters Try.prog 52, Pv.Fn Try.prog 52 [sV a0, sV (⟨#[123]⟩ : ByteArray)] [] 0 (fun r o => r = .tup [sV t25.1, bV t25.2] ∧ o = [])] (by kernel_rfl) ⟨by exact Try.call52, by exact f_strings_CutPrefix.ok a0 (⟨#[123]⟩ : ByteArray) t25 e26, trivial⟩ ?_
  refine AWp.seq ?_
  refine AWp.seq ?_
  refine reg hP hn hm [] [4, 19] [] ⟨[(4, sV t25.1), (19, bV (!t25.2))], [], 0⟩ [] (by kernel_rfl) trivial ?_
  refine AWp.cond (!t25.2) rfl (fun c27 => ?_) (fun c27 => ?_)
  · replace H := (ifT c27).symm.trans H
    refine AWp.seq ?_
    refine reg hP hn hm [] [2, 3] [] ⟨[(2, .none0), (3, iV .i64 6)], [], 0⟩ [] (by kernel_rfl) trivial ?_
    refine AWp.conv (inv := []) (vk := []) (e0 := [0]) (t := ⟨[(2, .own 0), (3, iV .i64 6)], [(0, some (.row 2 67 ([].map enc66)))], 0⟩) (by kernel_rfl) ?_
    refine AWp.ret ?_
    obtain rfl := Option.some.inj H
    exact Exists.intro _ (And.intro (fun _ _ h => h) (And.intro (.inl rfl) (And.intro rfl (And.intro (by kernel_rfl) (by kernel_rfl)))))
  · replace H := (ifF c27).symm.trans H
    refine AWp.skip ?_
    refine AWp.seq ?_
    refine AWp.seq ?_
    refine reg hP hn hm [] [4, 21] [] ⟨[(4, sV t25.1), (21, bV (t25.1.toList == (⟨#[125]⟩ : ByteArray).toList))], [], 0⟩ [] (by kernel_rfl) trivial ?_
    refine AWp.cond (t25.1.toList == (⟨#[125]⟩ : ByteArray).toList) rfl (fun c28 => ?_) (fun c28 => ?_)
    · replace H := (ifT c28).symm.trans H
      refine AWp.seq ?_
      refine reg hP hn hm [] [2, 3] [] ⟨[(2, .none0), (3, iV .i64 0)], [], 0⟩ [] (by kernel_rfl) trivial ?_
      refine AWp.conv (inv := []) (vk := []) (e0 := [0]) (t := ⟨[(2, .own 0), (3, iV .i64 0)], [(0, some (.row 2 67 ([].map enc66)))], 0⟩) (by kernel_rfl) ?_
      refine AWp.ret ?_
      obtain rfl := Option.some.inj H
      exact Exists.intro _ (And.intro (fun _ _ h => h) (And.intro (.inl rfl) (And.intro rfl (And.intro (by kernel_rfl) (by kernel_rfl)))))
    · replace H := (ifF c28).symm.trans H
      refine AWp.skip ?_
      refine AWp.seq ?_
      refine reg hP hn hm [] [4, 6] [] ⟨[(4, sV t25.1), (6, .none0)], [], 0⟩ [] (by kernel_rfl) trivial ?_
      refine AWp.seq ?_
      refine AWp.block ?_
      obtain ⟨o285, e286, H⟩ := bind_of H
      refine AWp.loop (LWp.conv (inv := []) (vk := []) (e0 := [2]) (t := ⟨[(4, sV t25.1), (6, .own 2)], [(2, some (.row 2 67 ([].map enc66)))], 0⟩) (by kernel_rfl) ?_)
      refine LWp.mono (Q := fun e s => (match (generalizing := false) o285 with | .inl rr => e = .ret ∧ s.floor = 0 ∧ resOf Try.prog Try.f25 s = some (.tup [.own 0, iV .i64 rr.2]) ∧ ([(0, s.obj 0)] : List (Nat × Option MObj)) = [(0, some (.row 2 67 (rr.1.map enc66)))] | .inr x161 => e = .exit 0 ∧ s = ⟨[(6, .own 6)], [(6, some (.row 2 67 (x161.map enc66)))], 0⟩)) (LWp.cv (withBody (fun body hbody => ?_))) ?_
      · refine f_label_Parse.l0.partial_correctness  (motive := fun x138 x139 o285 => LWp Γ body (fun e s => ∃ t, Cv Γ s t ∧ (match (generalizing := false) o285 with | .inl rr => e = .ret ∧ t.floor = 0 ∧ resOf Try.prog Try.f25 t = some (.tup [.own 0, iV .i64 rr.2]) ∧ ([(0, t.obj 0)] : List (Nat × Option MObj)) = [(0, some (.row 2 67 (rr.1.map enc66)))] | .inr x161 => e = .exit 0 ∧ t = ⟨[(6, .own 6)], [(6, some (.row 2 67 (x161.map enc66)))], 0⟩)) ⟨[(4, sV x138), (6, .own 2)], [(2, some (.row 2 67 (x139.map enc66)))], 0⟩) ?_ _ _ _ e286
        clear H e286 o285; intro self ih x138 x139 o285 H
        subst hbody
        refine LWp.round ?_
        refine AWp.block ?_
        refine AWp.seq ?_
        obtain ⟨t142, e143, H⟩ := bind_of H
        refine reg hP hn hm [(1, .call [] [] [] [] 0 (.tup [sV t142.1, sV t142.2.1, bV t142.2.2]) [])] [6, 7, 8, 9] [2] ⟨[(6, .own 2), (7, sV t142.1), (8, sV t142.2.1), (9, bV t142.2.2)], [(2, some (.row 2 67 (x139.map enc66)))], 0⟩ [Enters Try.prog 53, Pv.Fn Try.prog 53 [sV x138, sV (⟨#[61]⟩ : ByteArray)] [] 0 (fun r o => r = .tup [sV t142.1, sV t142.2.1, bV t142.2.2] ∧ o = [])] (by kernel_rfl) ⟨by exact Try.call53, by exact f_strings_Cut.ok x138 t142 e143, trivial⟩ ?_
        refine AWp.seq ?_
        refine AWp.seq ?_
        refine reg hP hn hm [] [6, 7, 8, 29] [2] ⟨[(6, .own 2), (7, sV t142.1), (8, sV t142.2.1), (29, bV (!t142.2.2))], [(2, some (.row 2 67 (x139.map enc66)))], 0⟩ [] (by kernel_rfl) trivial ?_
        refine AWp.cond (!t142.2.2) rfl (fun c144 => ?_) (fun c144 => ?_)
        · replace H := (ifT c144).symm.trans H
          refine AWp.seq ?_
          refine reg hP hn hm [] [2, 3] [] ⟨[(2, .none0), (3, iV .i64 6)], [], 0⟩ [] (by kernel_rfl) trivial ?_
          refine AWp.conv (inv := []) (vk := []) (e0 := [0]) (t := ⟨[(2, .own 0), (3, iV .i64 6)], [(0, some (.row 2 67 ([].map enc66)))], 0⟩) (by kernel_rfl) ?_
          refine AWp.ret ?_
          obtain rfl := Option.some.inj H
          exact Exists.intro _ (And.intro (fun _ _ h => h) (And.intro rfl (And.intro rfl (And.intro (by kernel_rfl) (by kernel_rfl)))))
        · replace H := (ifF c144).symm.trans H
          refine AWp.skip ?_
          refine AWp.seq ?_
          obtain ⟨t147, e148, H⟩ := bind_of H
          refine reg hP hn hm [(1, .call [] [] [] [] 0 (.tup [sV t147.1, sV t147.2.1, bV t147.2.2]) [])] [6, 7, 9, 10, 11] [2] ⟨[(6, .own 2), (7, sV t142.1), (9, bV t147.2.2), (10, sV t147.1), (11, sV t147.2.1)], [(2, some (.row 2 67 (x139.map enc66)))], 0⟩ [Enters Try.prog 13, Pv.Fn Try.prog 13 [sV t142.2.1] [] 0 (fun r o => r = .tup [sV t147.1, sV t147.2.1, bV t147.2.2] ∧ o = [])] (by kernel_rfl) ⟨by exact Try.call13, by exact f_label_Unquote.ok t142.2.1 t147 e148, trivial⟩ ?_
          refine AWp.seq ?_
          refine AWp.seq ?_
          obtain ⟨o287, e288, H⟩ := bind_of H
          refine AWp.mono (Q := fun e s => (match (generalizing := false) o287 with | x151 => e = .normal ∧ s = ⟨[(6, .own 3), (7, sV t142.1), (10, sV t147.1), (11, sV t147.2.1), (41, bV x151)], [(3, some (.row 2 67 (x139.map enc66)))], 0⟩)) (AWp.cv ?_) ?_
          · replace H := e288; clear e288
            rcases Bool.eq_false_or_eq_true (!t147.2.2) with c150 | c150
            · replace H := (ifT c150).symm.trans H
              refine reg hP hn hm [(2, .b true)] [6, 7, 10, 11, 41] [2] ⟨[(6, .own 2), (7, sV t142.1), (10, sV t147.1), (11, sV t147.2.1), (41, bV true)], [(2, some (.row 2 67 (x139.map enc66)))], 0⟩ [(!t147.2.2) = true] (by kernel_rfl) ⟨by exact c150, trivial⟩ ?_
              obtain rfl := Option.some.inj H
              exact Exists.intro _ (And.intro (fun _ _ h => h.conv (inv := [(2, 3)]) (vk := []) (e0 := []) (t := ⟨[(6, .own 3), (7, sV t142.1), (10, sV t147.1), (11, sV t147.2.1), (41, bV true)], [(3, some (.row 2 67 (x139.map enc66)))], 0⟩) (by kernel_rfl)) (And.intro rfl rfl))
            · replace H := (ifF c150).symm.trans H
              refine reg hP hn hm [(2, .b false)] [6, 7, 10, 11, 39, 40, 41] [2] ⟨[(6, .own 2), (7, sV t142.1), (10, sV t147.1), (11, sV t147.2.1), (39, sV t147.2.1), (40, bV (t147.2.1.toList == (⟨#[]⟩ : ByteArray).toList)), (41, bV (t147.2.1.toList == (⟨#[]⟩ : ByteArray).toList))], [(2, some (.row 2 67 (x139.map enc66)))], 0⟩ [(!t147.2.2) = false] (by kernel_rfl) ⟨by exact c150, trivial⟩ ?_
              obtain rfl := Option.some.inj H
              exact Exists.intro _ (And.intro (fun _ _ h => h.conv (inv := [(2, 3)]) (vk := []) (e0 := []) (t := ⟨[(6, .own 3), (7, sV t142.1), (10, sV t147.1), (11, sV t147.2.1), (41, bV (t147.2.1.toList == (⟨#[]⟩ : ByteArray).toList))], [(3, some (.row 2 67 (x139.map enc66)))], 0⟩) (by kernel_rfl)) (And.intro rfl rfl))
          · obtain ⟨x151, rfl⟩ : ∃ z, z = o287 := ⟨_, rfl⟩
            rintro e s ⟨rfl, rfl⟩
            refine AWp.cond x151 rfl (fun c152 => ?_) (fun c152 => ?_)
            · replace H := (ifT c152).symm.trans H
              refine AWp.seq ?_
              refine reg hP hn hm [] [2, 3] [] ⟨[(2, .none0), (3, iV .i64 6)], [], 0⟩ [] (by kernel_rfl) trivial ?_
              refine AWp.conv (inv := []) (vk := []) (e0 := [0]) (t := ⟨[(2, .own 0), (3, iV .i64 6)], [(0, some (.row 2 67 ([].map enc66)))], 0⟩) (by kernel_rfl) ?_
              refine AWp.ret ?_
              obtain rfl := Option.some.inj H
              exact Exists.intro _ (And.intro (fun _ _ h => h) (And.intro rfl (And.intro rfl (And.intro (by kernel_rfl) (by kernel_rfl)))))
            · replace H := (ifF c152).symm.trans H
              refine AWp.skip ?_
              refine AWp.seq ?_
              obtain ⟨c154, H⟩ := chk_of H
              refine reg hP hn hm [(4, .app 4 ([(⟨t142.1, t147.1⟩ : S66)].map enc66)), (5, .app 5 ((x139 ++ [(⟨t142.1, t147.1⟩ : S66)]).map enc66))] [6, 11] [5] ⟨[(6, .own 5), (11, sV t147.2.1)], [(5, some (.row 2 67 ((x139 ++ [(⟨t142.1, t147.1⟩ : S66)]).map enc66)))], 0⟩ [[(⟨t142.1, t147.1⟩ : S66)].map enc66 = [[sI t142.1, sI t147.1]], (x139 ++ [(⟨t142.1, t147.1⟩ : S66)]).map enc66 = (x139.map enc66) ++ ([(⟨t142.1, t147.1⟩ : S66)].map enc66), ∀ c ∈ ([(⟨t142.1, t147.1⟩ : S66)].map enc66), c.length = 2, ∀ c ∈ ([(⟨t142.1, t147.1⟩ : S66)].map enc66), leaves (c.map .im) = true, ((x139.map enc66).length + ([(⟨t142.1, t147.1⟩ : S66)].map enc66).length) * 32 ≤ 140737488355328] (by kernel_rfl) ⟨by exact rfl, by simp, by exact all_len _ _ _ (fun _ => rfl), by exact all_leaf _ _ (fun _ => rfl), by simpa using c154, trivial⟩ ?_
              refine AWp.seq ?_
              refine AWp.seq ?_
              refine reg hP hn hm [] [6, 11, 49] [5] ⟨[(6, .own 5), (11, sV t147.2.1), (49, bV (t147.2.1.toList == (⟨#[125]⟩ : ByteArray).toList))], [(5, some (.row 2 67 ((x139 ++ [(⟨t142.1, t147.1⟩ : S66)]).map enc66)))], 0⟩ [] (by kernel_rfl) trivial ?_
              refine AWp.cond (t147.2.1.toList == (⟨#[125]⟩ : ByteArray).toList) rfl (fun c155 => ?_) (fun c155 => ?_)
              · replace H := (ifT c155).symm.trans H
                refine AWp.exit ?_
                obtain rfl := Option.some.inj H
                exact Exists.intro _ (And.intro (fun _ _ h => h.conv (inv := [(5, 6)]) (vk := []) (e0 := []) (t := ⟨[(6, .own 6)], [(6, some (.row 2 67 ((x139 ++ [(⟨t142.1, t147.1⟩ : S66)]).map enc66)))], 0⟩) (by kernel_rfl)) (And.intro rfl rfl))
              · replace H := (ifF c155).symm.trans H
                refine AWp.skip ?_
                refine AWp.seq ?_
                refine AWp.seq ?_
                obtain ⟨c157, H⟩ := chk_of H
                refine reg hP hn hm [] [6, 11, 52] [5] ⟨[(6, .own 5), (11, sV t147.2.1), (52, bV ((bt t147.2.1 0) != (44 : Int)))], [(5, some (.row 2 67 ((x139 ++ [(⟨t142.1, t147.1⟩ : S66)]).map enc66)))], 0⟩ [0 ≤ (0 : Int), (0 : Int) < (t147.2.1.size : Int)] (by kernel_rfl) ⟨by exact c157.1, by exact c157.2, trivial⟩ ?_
                refine AWp.cond ((bt t147.2.1 0) != (44 : Int)) rfl (fun c158 => ?_) (fun c158 => ?_)
                · replace H := (ifT c158).symm.trans H
                  refine AWp.seq ?_
                  refine reg hP hn hm [] [2, 3] [] ⟨[(2, .none0), (3, iV .i64 6)], [], 0⟩ [] (by kernel_rfl) trivial ?_
                  refine AWp.conv (inv := []) (vk := []) (e0 := [0]) (t := ⟨[(2, .own 0), (3, iV .i64 6)], [(0, some (.row 2 67 ([].map enc66)))], 0⟩) (by kernel_rfl) ?_
                  refine AWp.ret ?_
                  obtain rfl := Option.some.inj H
                  exact Exists.intro _ (And.intro (fun _ _ h => h) (And.intro rfl (And.intro rfl (And.intro (by kernel_rfl) (by kernel_rfl)))))
                · replace H := (ifF c158).symm.trans H
                  refine AWp.skip ?_
                  obtain ⟨c160, H⟩ := chk_of H
                  refine reg hP hn hm [] [4, 6] [5] ⟨[(4, sV (t147.2.1.extract (Int.toNat ((1 : Int))) (Int.toNat ((t147.2.1.size : Int))))), (6, .own 5)], [(5, some (.row 2 67 ((x139 ++ [(⟨t142.1, t147.1⟩ : S66)]).map enc66)))], 0⟩ [0 ≤ (1 : Int), (1 : Int) ≤ (t147.2.1.size : Int), (t147.2.1.size : Int) ≤ (t147.2.1.size : Int)] (by kernel_rfl) ⟨by exact c160.1, by exact c160.2.1, by exact c160.2.2, trivial⟩ ?_
                  exact LWp.conv (inv := [(5, 2)]) (vk := []) (e0 := []) (t := ⟨[(4, sV (t147.2.1.extract (Int.toNat ((1 : Int))) (Int.toNat ((t147.2.1.size : Int))))), (6, .own 2)], [(2, some (.row 2 67 ((x139 ++ [(⟨t142.1, t147.1⟩ : S66)]).map enc66)))], 0⟩) (by kernel_rfl) (ih _ _ _ H)
      · rcases o285 with rr | x161
        · skip
          rintro e s ⟨rfl, hfl, hres⟩
          obtain rfl := Option.some.inj H
          exact Exists.intro _ (And.intro (fun _ _ h => h) (And.intro (.inl rfl) (And.intro hfl hres)))
        · skip
          rintro e s ⟨rfl, rfl⟩
          refine AWp.seq ?_
          refine AWp.seq ?_
          obtain ⟨t282, e283, H⟩ := bind_of H
          refine reg hP hn hm [(1, .call [] [] [6] [] 0 (iV .i64 t282) [])] [6, 12] [6] ⟨[(6, .own 6), (12, iV .i64 t282)], [(6, some (.row 2 67 (x161.map enc66)))], 0⟩ [Enters Try.prog 35, Pv.Fn Try.prog 35 [.im (.row (x161.map enc66))] [] 0 (fun r o => r = iV .i64 t282 ∧ o = [])] (by kernel_rfl) ⟨by exact Try.call35, by exact f_label_Check.ok x161 t282 e283, trivial⟩ ?_
          refine AWp.seq ?_
          refine reg hP hn hm [] [6, 12, 58] [6] ⟨[(6, .own 6), (12, iV .i64 t282), (58, bV (t282 != (0 : Int)))], [(6, some (.row 2 67 (x161.map enc66)))], 0⟩ [] (by kernel_rfl) trivial ?_
          refine AWp.cond (t282 != (0 : Int)) rfl (fun c284 => ?_) (fun c284 => ?_)
          · replace H := (ifT c284).symm.trans H
            refine AWp.seq ?_
            refine reg hP hn hm [] [2, 3] [] ⟨[(2, .none0), (3, iV .i64 t282)], [], 0⟩ [] (by kernel_rfl) trivial ?_
            refine AWp.conv (inv := []) (vk := []) (e0 := [0]) (t := ⟨[(2, .own 0), (3, iV .i64 t282)], [(0, some (.row 2 67 ([].map enc66)))], 0⟩) (by kernel_rfl) ?_
            refine AWp.ret ?_
            obtain rfl := Option.some.inj H
            exact Exists.intro _ (And.intro (fun _ _ h => h) (And.intro (.inl rfl) (And.intro rfl (And.intro (by kernel_rfl) (by kernel_rfl)))))
          · replace H := (ifF c284).symm.trans H
            refine AWp.skip ?_
            refine AWp.seq ?_
            refine reg hP hn hm [] [2, 3] [6] ⟨[(2, .own 6), (3, iV .i64 0)], [(6, some (.row 2 67 (x161.map enc66)))], 0⟩ [] (by kernel_rfl) trivial ?_
            refine AWp.conv (inv := [(6, 0)]) (vk := []) (e0 := []) (t := ⟨[(2, .own 0), (3, iV .i64 0)], [(0, some (.row 2 67 (x161.map enc66)))], 0⟩) (by kernel_rfl) ?_
            refine AWp.ret ?_
            obtain rfl := Option.some.inj H
            exact Exists.intro _ (And.intro (fun _ _ h => h) (And.intro (.inl rfl) (And.intro rfl (And.intro (by kernel_rfl) (by kernel_rfl)))))
def f_pluviallaw10_awake.f  : Option (Bool) := (f_label_Parse.f (⟨#[123, 97, 61, 34, 120, 34, 44, 98, 61, 34, 121, 34, 125]⟩ : ByteArray)) >>= fun t291 => ((if (t291.2 == (0 : Int)) = true then (if ((t291.1.length : Int) == (2 : Int)) = true then ((at? t291.1 1) >>= fun b300 => some ((b300.f0.toList == (⟨#[98]⟩ : ByteArray).toList) && ((b300.f1.toList == (⟨#[121]⟩ : ByteArray).toList) && true))) else (some false)) else (some false)) : Option (Bool)) >>= fun x303 => some x303
theorem f_pluviallaw10_awake.ok  (r : Bool) (H : f_pluviallaw10_awake.f  = some r) : Pv.Fn Try.prog 11 [] [] 0 (fun x o => x = bV r ∧ o = []) := by
  unfold f_pluviallaw10_awake.f at H
  refine Fn.bodyK [] Try.func11 rfl rfl (fun Γ hP hn => ?_)
  have hm : Try.prog.follows .mixedOrders = true := by kernel_rfl
  replace hn : Γ.n = 21 := hn
  refine AWp.seq ?_
  refine reg hP hn hm [] [] [] ⟨[], [], 0⟩ [] (by kernel_rfl) trivial ?_
  refine AWp.seq ?_
  obtain ⟨t291, e292, H⟩ := bind_of H
  refine reg hP hn hm [(0, .call [] [(0, 0)] [] [0] 0 (.tup [.own 0, iV .i64 t291.2]) [(0, some (.row 2 67 (t291.1.map enc66)))])] [1, 2] [0] ⟨[(1, .own 0), (2, iV .i64 t291.2)], [(0, some (.row 2 67 (t291.1.map enc66)))], 0⟩ [Enters Try.prog 25, Pv.Fn Try.prog 25 [sV (⟨#[123, 97, 61, 34, 120, 34, 44, 98, 61, 34, 121, 34, 125]⟩ : ByteArray)] [] 0 (fun r o => r = .tup [.own 0, iV .i64 t291.2] ∧ o = [(0, some (.row 2 67 (t291.1.map enc66)))])] (by kernel_rfl) ⟨by exact Try.call25, by exact f_label_Parse.ok (⟨#[123, 97, 61, 34, 120, 34, 44, 98, 61, 34, 121, 34, 125]⟩ : ByteArray) t291 e292, trivial⟩ ?_
  refine AWp.seq ?_
  obtain ⟨o304, e305, H⟩ := bind_of H
  refine AWp.mono (Q := fun e s => (match (generalizing := false) o304 with | x303 => e = .normal ∧ s = ⟨[(0, bV x303)], [], 0⟩)) (AWp.cv ?_) ?_
  · replace H := e305; clear e305
    rcases Bool.eq_false_or_eq_true (t291.2 == (0 : Int)) with c298 | c298
    · replace H := (ifT c298).symm.trans H
      rcases Bool.eq_false_or_eq_true ((t291.1.length : Int) == (2 : Int)) with c299 | c299
      · replace H := (ifT c299).symm.trans H
        obtain ⟨b300, p301, q302, H⟩ := at_of H
        refine reg hP hn hm [(2, .b true), (4, .any (iV .i64 (t291.1.length : Int))), (7, .b true), (10, .c (enc66 b300)), (12, .more (xAgg none))] [0] [] ⟨[(0, bV ((b300.f0.toList == (⟨#[98]⟩ : ByteArray).toList) && ((b300.f1.toList == (⟨#[121]⟩ : ByteArray).toList) && true)))], [], 0⟩ [(t291.2 == (0 : Int)) = true, ((t291.1.map enc66).length : Int) = (t291.1.length : Int), ((t291.1.length : Int) == (2 : Int)) = true, 0 ≤ (1 : Int), 1 < (((t291.1.map enc66).length : Nat) : Int), (t291.1.map enc66)[(Int.toNat (1))]? = some (enc66 b300)] (by kernel_rfl) ⟨by exact c298, by rw [len_map], by exact c299, by exact p301, by exact el_lt enc66 p301 q302, by exact el_map enc66 q302, trivial⟩ ?_
        obtain rfl := Option.some.inj H
        exact Exists.intro _ (And.intro (fun _ _ h => h.conv (inv := []) (vk := []) (e0 := []) (t := ⟨[(0, bV ((b300.f0.toList == (⟨#[98]⟩ : ByteArray).toList) && ((b300.f1.toList == (⟨#[121]⟩ : ByteArray).toList) && true)))], [], 0⟩) (by kernel_rfl)) (And.intro rfl rfl))
      · replace H := (ifF c299).symm.trans H
        refine reg hP hn hm [(2, .b true), (4, .any (iV .i64 (t291.1.length : Int))), (7, .b false)] [0] [] ⟨[(0, bV false)], [], 0⟩ [(t291.2 == (0 : Int)) = true, ((t291.1.map enc66).length : Int) = (t291.1.length : Int), ((t291.1.length : Int) == (2 : Int)) = false] (by kernel_rfl) ⟨by exact c298, by rw [len_map], by exact c299, trivial⟩ ?_
        obtain rfl := Option.some.inj H
        exact Exists.intro _ (And.intro (fun _ _ h => h.conv (inv := []) (vk := []) (e0 := []) (t := ⟨[(0, bV false)], [], 0⟩) (by kernel_rfl)) (And.intro rfl rfl))
    · replace H := (ifF c298).symm.trans H
      refine reg hP hn hm [(2, .b false)] [0] [] ⟨[(0, bV false)], [], 0⟩ [(t291.2 == (0 : Int)) = false] (by kernel_rfl) ⟨by exact c298, trivial⟩ ?_
      obtain rfl := Option.some.inj H
      exact Exists.intro _ (And.intro (fun _ _ h => h.conv (inv := []) (vk := []) (e0 := []) (t := ⟨[(0, bV false)], [], 0⟩) (by kernel_rfl)) (And.intro rfl rfl))
  · obtain ⟨x303, rfl⟩ : ∃ z, z = o304 := ⟨_, rfl⟩
    rintro e s ⟨rfl, rfl⟩
    refine AWp.conv (inv := []) (vk := []) (e0 := []) (t := ⟨[(0, bV x303)], [], 0⟩) (by kernel_rfl) ?_
    refine AWp.ret ?_
    obtain rfl := Option.some.inj H
    exact Exists.intro _ (And.intro (fun _ _ h => h) (And.intro (.inl rfl) (And.intro rfl (And.intro (by kernel_rfl) (by kernel_rfl)))))
def f_strings_Builder_copyCheck.f  : Option (Unit) := some ()
theorem f_strings_Builder_copyCheck.ok  (r : Unit) (H : f_strings_Builder_copyCheck.f  = some r) : Pv.Fn Try.prog 76 [.ptr 0 0 0] [(0, some (.box 75 [.im (.sc (.pointer none)), .none0]))] 1 (fun x o => x = .tup [] ∧ o = [(0, some (.box 75 [.ptr 0 0 0, .none0]))]) := by
  unfold f_strings_Builder_copyCheck.f at H
  refine Fn.bodyK [0] Try.func76 rfl rfl (fun Γ hP hn => ?_)
  have hm : Try.prog.follows .mixedOrders = true := by kernel_rfl
  replace hn : Γ.n = 20 := hn
  refine AWp.seq ?_
  refine reg hP hn hm [(4, .more (xPtrEq none))] [0, 6] [0] ⟨[(0, .ptr 0 0 0), (6, bV true)], [(0, some (.box 75 [.im (.sc (.pointer none)), .none0]))], 1⟩ [] (by kernel_rfl) trivial ?_
  refine AWp.cond true rfl (fun _ => ?_) (fun h => nomatch h)
  refine reg hP hn hm [(2, .more xUnsafe), (3, .more (xSame 91)), (4, .more xUnsafe)] [] [0] ⟨[], [(0, some (.box 75 [.ptr 0 0 0, .none0]))], 1⟩ [∀ v w, (callFunc 91 #[v]).run Try.prog w = .ok (.value v) w] (by kernel_rfl) ⟨by exact fun v w => x_noEscape (fn := Try.f91) Try.func91 (by kernel_rfl) rfl (by kernel_rfl) (by kernel_rfl) v w, trivial⟩ ?_
  obtain rfl := Option.some.inj H
  exact Exists.intro ⟨[], [(0, some (.box 75 [.ptr 0 0 0, .none0]))], 1⟩ (And.intro (fun _ _ h => h.conv (inv := [(0, 0)]) (vk := []) (e0 := []) (t := ⟨[], [(0, some (.box 75 [.ptr 0 0 0, .none0]))], 1⟩) (by kernel_rfl)) (And.intro (.inr rfl) (And.intro rfl (And.intro (by kernel_rfl) (by kernel_rfl)))))
def f_strings_Builder_WriteByte.f (a1 : Int) : Option (List Int) := (f_strings_Builder_copyCheck.f) >>= fun t312 => (chk ((([] : List Int).length + [a1].length) * 1 ≤ 140737488355328)) >>= fun _ => some [a1]
theorem f_strings_Builder_WriteByte.ok (a1 : Int) (r : List Int) (H : f_strings_Builder_WriteByte.f a1 = some r) : Pv.Fn Try.prog 42 [.ptr 0 0 0, iV .u8 a1] [(0, some (.box 75 [.im (.sc (.pointer none)), .none0]))] 1 (fun x o => x = .im (.sc (.nilIface)) ∧ o = [(0, some (.box 75 [.ptr 0 0 0, .own 1])), (1, some (.row 1 5 (r.map (encInt .u8))))]) := by
  unfold f_strings_Builder_WriteByte.f at H
  refine Fn.bodyK [0, 1] Try.func42 rfl rfl (fun Γ hP hn => ?_)
  have hm : Try.prog.follows .mixedOrders = true := by kernel_rfl
  replace hn : Γ.n = 17 := hn
  refine AWp.seq ?_
  refine reg hP hn hm [] [0, 1] [0] ⟨[(0, .ptr 0 0 0), (1, iV .u8 a1)], [(0, some (.box 75 [.im (.sc (.pointer none)), .none0]))], 1⟩ [] (by kernel_rfl) trivial ?_
  refine AWp.seq ?_
  obtain ⟨t312, e313, H⟩ := bind_of H
  refine reg hP hn hm [(1, .call [(0, 0)] [(0, 0)] [] [] 1 (.tup []) [(0, some (.box 75 [.ptr 0 0 0, .none0]))])] [0, 1] [0] ⟨[(0, .ptr 0 0 0), (1, iV .u8 a1)], [(0, some (.box 75 [.ptr 0 0 0, .none0]))], 1⟩ [Enters Try.prog 76, Pv.Fn Try.prog 76 [.ptr 0 0 0] [(0, some (.box 75 [.im (.sc (.pointer none)), .none0]))] 1 (fun r o => r = .tup [] ∧ o = [(0, some (.box 75 [.ptr 0 0 0, .none0]))])] (by kernel_rfl) ⟨by exact Try.call76, by exact f_strings_Builder_copyCheck.ok  t312 e313, trivial⟩ ?_
  refine AWp.seq ?_
  obtain ⟨c315, H⟩ := chk_of H
  refine reg hP hn hm [(6, .app 1 ([a1].map (encInt .u8))), (7, .app 2 ([a1].map (encInt .u8)))] [] [0, 2] ⟨[], [(0, some (.box 75 [.ptr 0 0 0, .own 2])), (2, some (.row 1 5 ([a1].map (encInt .u8))))], 1⟩ [[a1].map (encInt .u8) = [[iI .u8 a1]], [a1].map (encInt .u8) = ([] : List (List Im)) ++ ([a1].map (encInt .u8)), ∀ c ∈ ([a1].map (encInt .u8)), c.length = 1, ∀ c ∈ ([a1].map (encInt .u8)), leaves (c.map .im) = true, (([] : List (List Im)).length + ([a1].map (encInt .u8)).length) * 1 ≤ 140737488355328] (by kernel_rfl) ⟨by exact rfl, by simp, by exact all_len _ _ _ (fun _ => rfl), by exact all_leaf _ _ (fun _ => rfl), by simpa using c315, trivial⟩ ?_
  refine AWp.seq ?_
  refine reg hP hn hm [] [4] [0, 2] ⟨[(4, .im (.sc (.nilIface)))], [(0, some (.box 75 [.ptr 0 0 0, .own 2])), (2, some (.row 1 5 ([a1].map (encInt .u8))))], 1⟩ [] (by kernel_rfl) trivial ?_
  refine AWp.conv (inv := [(0, 0), (2, 1)]) (vk := []) (e0 := []) (t := ⟨[(4, .im (.sc (.nilIface)))], [(0, some (.box 75 [.ptr 0 0 0, .own 1])), (1, some (.row 1 5 ([a1].map (encInt .u8))))], 1⟩) (by kernel_rfl) ?_
  refine AWp.ret ?_
  obtain rfl := Option.some.inj H
  exact Exists.intro _ (And.intro (fun _ _ h => h) (And.intro (.inl rfl) (And.intro rfl (And.intro (by kernel_rfl) (by kernel_rfl)))))
def f_strings_Builder_copyCheck_2.f (a0_c1 : List Int) : Option (Unit) := some ()
theorem f_strings_Builder_copyCheck_2.ok (a0_c1 : List Int) (r : Unit) (H : f_strings_Builder_copyCheck_2.f a0_c1 = some r) : Pv.Fn Try.prog 76 [.ptr 0 0 0] [(0, some (.box 75 [.ptr 0 0 0, .own 1])), (1, some (.row 1 5 (a0_c1.map (encInt .u8))))] 2 (fun x o => x = .tup [] ∧ o = [(0, some (.box 75 [.ptr 0 0 0, .own 1])), (1, some (.row 1 5 (a0_c1.map (encInt .u8))))]) := by
  unfold f_strings_Builder_copyCheck_2.f at H
  refine Fn.bodyK [0, 1] Try.func76 rfl rfl (fun Γ hP hn => ?_)
  have hm : Try.prog.follows .mixedOrders = true := by kernel_rfl
  replace hn : Γ.n = 20 := hn
  refine AWp.seq ?_
  refine reg hP hn hm [(4, .more (xPtrEq none))] [0, 6] [0, 1] ⟨[(0, .ptr 0 0 0), (6, bV false)], [(0, some (.box 75 [.ptr 0 0 0, .own 1])), (1, some (.row 1 5 (a0_c1.map (encInt .u8))))], 2⟩ [] (by kernel_rfl) trivial ?_
  refine AWp.cond false rfl (fun h => nomatch h) (fun _ => ?_)
  refine AWp.seq ?_
  refine reg hP hn hm [(5, .more (xPtrEq none))] [19] [0, 1] ⟨[(19, bV false)], [(0, some (.box 75 [.ptr 0 0 0, .own 1])), (1, some (.row 1 5 (a0_c1.map (encInt .u8))))], 2⟩ [] (by kernel_rfl) trivial ?_
  refine AWp.cond false rfl (fun h => nomatch h) (fun _ => ?_)
  refine AWp.skip ?_
  obtain rfl := Option.some.inj H
  exact Exists.intro ⟨[], [(0, some (.box 75 [.ptr 0 0 0, .own 1])), (1, some (.row 1 5 (a0_c1.map (encInt .u8))))], 2⟩ (And.intro (fun _ _ h => h.conv (inv := [(0, 0), (1, 1)]) (vk := []) (e0 := []) (t := ⟨[], [(0, some (.box 75 [.ptr 0 0 0, .own 1])), (1, some (.row 1 5 (a0_c1.map (encInt .u8))))], 2⟩) (by kernel_rfl)) (And.intro (.inr rfl) (And.intro rfl (And.intro (by kernel_rfl) (by kernel_rfl)))))
def f_strings_Builder_WriteString.f (a0_c1 : List Int) (a1 : ByteArray) : Option (List Int) := (f_strings_Builder_copyCheck_2.f a0_c1) >>= fun t329 => (chk ((a0_c1.length + a1.size) * 1 ≤ 140737488355328)) >>= fun _ => some (a0_c1 ++ bytesL a1)
theorem f_strings_Builder_WriteString.ok (a0_c1 : List Int) (a1 : ByteArray) (r : List Int) (H : f_strings_Builder_WriteString.f a0_c1 a1 = some r) : Pv.Fn Try.prog 43 [.ptr 0 0 0, sV a1] [(0, some (.box 75 [.ptr 0 0 0, .own 1])), (1, some (.row 1 5 (a0_c1.map (encInt .u8))))] 2 (fun x o => x = .tup [iV .i64 (a1.size : Int), .im (.sc (.nilIface))] ∧ o = [(0, some (.box 75 [.ptr 0 0 0, .own 2])), (1, none), (2, some (.row 1 5 (r.map (encInt .u8))))]) := by
  unfold f_strings_Builder_WriteString.f at H
  refine Fn.bodyK [0, 1, 2] Try.func43 rfl rfl (fun Γ hP hn => ?_)
  have hm : Try.prog.follows .mixedOrders = true := by kernel_rfl
  replace hn : Γ.n = 19 := hn
  refine AWp.seq ?_
  refine reg hP hn hm [] [0, 1] [0, 1] ⟨[(0, .ptr 0 0 0), (1, sV a1)], [(0, some (.box 75 [.ptr 0 0 0, .own 1])), (1, some (.row 1 5 (a0_c1.map (encInt .u8))))], 2⟩ [] (by kernel_rfl) trivial ?_
  refine AWp.seq ?_
  obtain ⟨t329, e330, H⟩ := bind_of H
  refine reg hP hn hm [(1, .call [(0, 0), (1, 1)] [(0, 0), (1, 1)] [] [] 2 (.tup []) [(0, some (.box 75 [.ptr 0 0 0, .own 1])), (1, some (.row 1 5 (a0_c1.map (encInt .u8))))])] [0, 1] [0, 1] ⟨[(0, .ptr 0 0 0), (1, sV a1)], [(0, some (.box 75 [.ptr 0 0 0, .own 1])), (1, some (.row 1 5 (a0_c1.map (encInt .u8))))], 2⟩ [Enters Try.prog 76, Pv.Fn Try.prog 76 [.ptr 0 0 0] [(0, some (.box 75 [.ptr 0 0 0, .own 1])), (1, some (.row 1 5 (a0_c1.map (encInt .u8))))] 2 (fun r o => r = .tup [] ∧ o = [(0, some (.box 75 [.ptr 0 0 0, .own 1])), (1, some (.row 1 5 (a0_c1.map (encInt .u8))))])] (by kernel_rfl) ⟨by exact Try.call76, by exact f_strings_Builder_copyCheck_2.ok a0_c1 t329 e330, trivial⟩ ?_
  refine AWp.seq ?_
  obtain ⟨c332, H⟩ := chk_of H
  refine reg hP hn hm [(6, .more (xAppStr 2 ((a0_c1 ++ bytesL a1).map (encInt .u8))))] [1] [0, 2] ⟨[(1, sV a1)], [(0, some (.box 75 [.ptr 0 0 0, .own 2])), (2, some (.row 1 5 ((a0_c1 ++ bytesL a1).map (encInt .u8))))], 2⟩ [(a0_c1 ++ bytesL a1).map (encInt .u8) = a0_c1.map (encInt .u8) ++ (bytesL a1).map (encInt .u8), ((a0_c1.map (encInt .u8)).length + a1.size) * 1 ≤ 140737488355328] (by kernel_rfl) ⟨by simp, by simpa using c332, trivial⟩ ?_
  refine AWp.seq ?_
  refine reg hP hn hm [] [4, 5] [0, 2] ⟨[(4, iV .i64 (a1.size : Int)), (5, .im (.sc (.nilIface)))], [(0, some (.box 75 [.ptr 0 0 0, .own 2])), (2, some (.row 1 5 ((a0_c1 ++ bytesL a1).map (encInt .u8))))], 2⟩ [] (by kernel_rfl) trivial ?_
  refine AWp.conv (inv := [(0, 0), (2, 2)]) (vk := []) (e0 := []) (t := ⟨[(4, iV .i64 (a1.size : Int)), (5, .im (.sc (.nilIface)))], [(0, some (.box 75 [.ptr 0 0 0, .own 2])), (2, some (.row 1 5 ((a0_c1 ++ bytesL a1).map (encInt .u8))))], 2⟩) (by kernel_rfl) ?_
  refine AWp.ret ?_
  obtain rfl := Option.some.inj H
  exact Exists.intro _ (And.intro (fun _ _ h => h) (And.intro (.inl rfl) (And.intro rfl (And.intro (by kernel_rfl) (by kernel_rfl)))))
def f_strings_Builder_WriteByte_2.f (a0_c1 : List Int) (a1 : Int) : Option (List Int) := (f_strings_Builder_copyCheck_2.f a0_c1) >>= fun t339 => (chk ((a0_c1.length + [a1].length) * 1 ≤ 140737488355328)) >>= fun _ => some (a0_c1 ++ [a1])
theorem f_strings_Builder_WriteByte_2.ok (a0_c1 : List Int) (a1 : Int) (r : List Int) (H : f_strings_Builder_WriteByte_2.f a0_c1 a1 = some r) : Pv.Fn Try.prog 42 [.ptr 0 0 0, iV .u8 a1] [(0, some (.box 75 [.ptr 0 0 0, .own 1])), (1, some (.row 1 5 (a0_c1.map (encInt .u8))))] 2 (fun x o => x = .im (.sc (.nilIface)) ∧ o = [(0, some (.box 75 [.ptr 0 0 0, .own 2])), (1, none), (2, some (.row 1 5 (r.map (encInt .u8))))]) := by
  unfold f_strings_Builder_WriteByte_2.f at H
  refine Fn.bodyK [0, 1, 2] Try.func42 rfl rfl (fun Γ hP hn => ?_)
  have hm : Try.prog.follows .mixedOrders = true := by kernel_rfl
  replace hn : Γ.n = 17 := hn
  refine AWp.seq ?_
  refine reg hP hn hm [] [0, 1] [0, 1] ⟨[(0, .ptr 0 0 0), (1, iV .u8 a1)], [(0, some (.box 75 [.ptr 0 0 0, .own 1])), (1, some (.row 1 5 (a0_c1.map (encInt .u8))))], 2⟩ [] (by kernel_rfl) trivial ?_
  refine AWp.seq ?_
  obtain ⟨t339, e340, H⟩ := bind_of H
  refine reg hP hn hm [(1, .call [(0, 0), (1, 1)] [(0, 0), (1, 1)] [] [] 2 (.tup []) [(0, some (.box 75 [.ptr 0 0 0, .own 1])), (1, some (.row 1 5 (a0_c1.map (encInt .u8))))])] [0, 1] [0, 1] ⟨[(0, .ptr 0 0 0), (1, iV .u8 a1)], [(0, some (.box 75 [.ptr 0 0 0, .own 1])), (1, some (.row 1 5 (a0_c1.map (encInt .u8))))], 2⟩ [Enters Try.prog 76, Pv.Fn Try.prog 76 [.ptr 0 0 0] [(0, some (.box 75 [.ptr 0 0 0, .own 1])), (1, some (.row 1 5 (a0_c1.map (encInt .u8))))] 2 (fun r o => r = .tup [] ∧ o = [(0, some (.box 75 [.ptr 0 0 0, .own 1])), (1, some (.row 1 5 (a0_c1.map (encInt .u8))))])] (by kernel_rfl) ⟨by exact Try.call76, by exact f_strings_Builder_copyCheck_2.ok a0_c1 t339 e340, trivial⟩ ?_
  refine AWp.seq ?_
  obtain ⟨c342, H⟩ := chk_of H
  refine reg hP hn hm [(6, .app 2 ([a1].map (encInt .u8))), (7, .app 3 ((a0_c1 ++ [a1]).map (encInt .u8)))] [] [0, 3] ⟨[], [(0, some (.box 75 [.ptr 0 0 0, .own 3])), (3, some (.row 1 5 ((a0_c1 ++ [a1]).map (encInt .u8))))], 2⟩ [[a1].map (encInt .u8) = [[iI .u8 a1]], (a0_c1 ++ [a1]).map (encInt .u8) = (a0_c1.map (encInt .u8)) ++ ([a1].map (encInt .u8)), ∀ c ∈ ([a1].map (encInt .u8)), c.length = 1, ∀ c ∈ ([a1].map (encInt .u8)), leaves (c.map .im) = true, ((a0_c1.map (encInt .u8)).length + ([a1].map (encInt .u8)).length) * 1 ≤ 140737488355328] (by kernel_rfl) ⟨by exact rfl, by simp, by exact all_len _ _ _ (fun _ => rfl), by exact all_leaf _ _ (fun _ => rfl), by simpa using c342, trivial⟩ ?_
  refine AWp.seq ?_
  refine reg hP hn hm [] [4] [0, 3] ⟨[(4, .im (.sc (.nilIface)))], [(0, some (.box 75 [.ptr 0 0 0, .own 3])), (3, some (.row 1 5 ((a0_c1 ++ [a1]).map (encInt .u8))))], 2⟩ [] (by kernel_rfl) trivial ?_
  refine AWp.conv (inv := [(0, 0), (3, 2)]) (vk := []) (e0 := []) (t := ⟨[(4, .im (.sc (.nilIface)))], [(0, some (.box 75 [.ptr 0 0 0, .own 2])), (2, some (.row 1 5 ((a0_c1 ++ [a1]).map (encInt .u8))))], 2⟩) (by kernel_rfl) ?_
  refine AWp.ret ?_
  obtain rfl := Option.some.inj H
  exact Exists.intro _ (And.intro (fun _ _ h => h) (And.intro (.inl rfl) (And.intro rfl (And.intro (by kernel_rfl) (by kernel_rfl)))))
def f_strings_Builder_String.f (a0_c1 : List Int) : Option (Unit) := (chk (a0_c1 ≠ [])) >>= fun _ => (chk (a0_c1 ≠ [] ∧ a0_c1.length ≤ 9223372036854775807 ∧ bytesOK a0_c1)) >>= fun _ => some ()
theorem f_strings_Builder_String.ok (a0_c1 : List Int) (r : Unit) (H : f_strings_Builder_String.f a0_c1 = some r) : Pv.Fn Try.prog 44 [.ptr 0 0 0] [(0, some (.box 75 [.ptr 0 0 0, .own 1])), (1, some (.row 1 5 (a0_c1.map (encInt .u8))))] 2 (fun x o => x = sV (strOf a0_c1) ∧ o = [(0, some (.box 75 [.ptr 0 0 0, .top])), (1, none)]) := by
  unfold f_strings_Builder_String.f at H
  refine Fn.bodyK [0, 1] Try.func44 rfl rfl (fun Γ hP hn => ?_)
  have hm : Try.prog.follows .mixedOrders = true := by kernel_rfl
  replace hn : Γ.n = 14 := hn
  refine AWp.seq ?_
  refine reg hP hn hm [] [0] [0, 1] ⟨[(0, .ptr 0 0 0)], [(0, some (.box 75 [.ptr 0 0 0, .own 1])), (1, some (.row 1 5 (a0_c1.map (encInt .u8))))], 2⟩ [] (by kernel_rfl) trivial ?_
  refine AWp.seq ?_
  obtain ⟨c385, H⟩ := chk_of H
  obtain ⟨c386, H⟩ := chk_of H
  refine reg hP hn hm [(4, .more xSliceData), (9, .any (iV .i64 (a0_c1.length : Int))), (10, .more (xUString a0_c1))] [2] [0] ⟨[(2, sV (strOf a0_c1))], [(0, some (.box 75 [.ptr 0 0 0, .own 1]))], 2⟩ [a0_c1.map (encInt .u8) ≠ [], ((a0_c1.map (encInt .u8)).length : Int) = (a0_c1.length : Int), a0_c1.map (encInt .u8) = a0_c1.map (encInt .u8), (a0_c1.length : Int) = (a0_c1.length : Int), a0_c1 ≠ [] ∧ a0_c1.length ≤ 9223372036854775807 ∧ bytesOK a0_c1] (by kernel_rfl) ⟨by simpa using c385, by rw [len_map], by exact rfl, by exact rfl, by exact c386, trivial⟩ ?_
  refine AWp.conv (inv := [(0, 0)]) (vk := []) (e0 := []) (t := ⟨[(2, sV (strOf a0_c1))], [(0, some (.box 75 [.ptr 0 0 0, .top]))], 2⟩) (by kernel_rfl) ?_
  refine AWp.ret ?_
  obtain rfl := Option.some.inj H
  exact Exists.intro _ (And.intro (fun _ _ h => h) (And.intro (.inl rfl) (And.intro rfl (And.intro (by kernel_rfl) (by kernel_rfl)))))
def f_label_Quote.l0 (a0 : ByteArray) (x354 : List Int) (x355 : Int) : Option (List Int) := if (decide (x355 < (a0.size : Int))) = true then ((chk (0 ≤ x355 ∧ x355 < (a0.size : Int))) >>= fun _ => ((((if ((bt a0 x355) == (10 : Int)) = true then ((f_strings_Builder_WriteString.f x354 (⟨#[92, 110]⟩ : ByteArray)) >>= fun t365 => some (.inr t365)) else (((if ((bt a0 x355) == (34 : Int)) = true then (some ((bt a0 x355) == (34 : Int))) else (some ((bt a0 x355) == (92 : Int)))) : Option (Bool)) >>= fun x361 => if x361 = true then ((f_strings_Builder_WriteByte_2.f x354 92) >>= fun t369 => some (.inl t369)) else (some (.inl x354)))) : Option ((List Int) ⊕ (List Int))) >>= fun oo => match oo with | .inl x371 => ((f_strings_Builder_WriteByte_2.f x371 (bt a0 x355)) >>= fun t375 => some t375) | .inr x372 => (some x372)) : Option (List Int)) >>= fun x377 => f_label_Quote.l0 a0 x377 (IntKind.i64.wrap (x355 + (1 : Int)))) else (some x354)
partial_fixpoint
def f_label_Quote.f (a0 : ByteArray) : Option (ByteArray) := (f_strings_Builder_WriteByte.f 34) >>= fun t318 => (f_label_Quote.l0 a0 t318 0) >>= fun x378 => (f_strings_Builder_WriteByte_2.f x378 34) >>= fun t381 => (f_strings_Builder_String.f t381) >>= fun t389 => some (strOf t381)
theorem f_label_Quote.ok (a0 : ByteArray) (r : ByteArray) (H : f_label_Quote.f a0 = some r) : Pv.Fn Try.prog 12 [sV a0] [] 0 (fun x o => x = sV r ∧ o = []) := by
  unfold f_label_Quote.f at H
  refine Fn.bodyK [] Try.func12 rfl rfl (fun Γ hP hn => ?_)
  have hm : Try.prog.follows .mixedOrders = true := by kernel_rfl
  replace hn : Γ.n = 28 := hn
  refine AWp.seq ?_
  refine reg hP hn hm [] [0] [] ⟨[(0, sV a0)], [], 0⟩ [] (by kernel_rfl) trivial ?_
  refine AWp.seq ?_
  refine reg hP hn hm [(0, .k 0)] [0, 3] [0] ⟨[(0, sV a0), (3, .ptr 0 0 0)], [(0, some (.box 75 [.im (.sc (.pointer none)), .none0]))], 0⟩ [] (by kernel_rfl) trivial ?_
  refine AWp.seq ?_
  obtain ⟨t318, e319, H⟩ := bind_of H
  refine reg hP hn hm [(0, .call [(0, 0)] [(0, 0), (1, 1)] [] [1] 1 (.im (.sc (.nilIface))) [(0, some (.box 75 [.ptr 0 0 0, .own 1])), (1, some (.row 1 5 (t318.map (encInt .u8))))])] [0, 3] [0, 1] ⟨[(0, sV a0), (3, .ptr 0 0 0)], [(0, some (.box 75 [.ptr 0 0 0, .own 1])), (1, some (.row 1 5 (t318.map (encInt .u8))))], 0⟩ [Enters Try.prog 42, Pv.Fn Try.prog 42 [.ptr 0 0 0, iV .u8 34] [(0, some (.box 75 [.im (.sc (.pointer none)), .none0]))] 1 (fun r o => r = .im (.sc (.nilIface)) ∧ o = [(0, some (.box 75 [.ptr 0 0 0, .own 1])), (1, some (.row 1 5 (t318.map (encInt .u8))))])] (by kernel_rfl) ⟨by exact Try.call42, by exact f_strings_Builder_WriteByte.ok 34 t318 e319, trivial⟩ ?_
  refine AWp.seq ?_
  refine AWp.seq ?_
  refine reg hP hn hm [] [0, 3, 8, 9] [0, 1] ⟨[(0, sV a0), (3, .ptr 0 0 0), (8, iV .i64 (a0.size : Int)), (9, iV .i64 0)], [(0, some (.box 75 [.ptr 0 0 0, .own 1])), (1, some (.row 1 5 (t318.map (encInt .u8))))], 0⟩ [] (by kernel_rfl) trivial ?_
  refine AWp.block ?_
  obtain ⟨o391, e392, H⟩ := bind_of H
  refine AWp.loop (LWp.conv (inv := [(0, 13), (1, 14)]) (vk := []) (e0 := []) (t := ⟨[(0, sV a0), (3, .ptr 13 0 0), (8, iV .i64 (a0.size : Int)), (9, iV .i64 0)], [(13, some (.box 75 [.ptr 13 0 0, .own 14])), (14, some (.row 1 5 (t318.map (encInt .u8))))], 0⟩) (by kernel_rfl) ?_)
  refine LWp.mono (Q := fun e s => (match (generalizing := false) o391 with | x378 => e = .exit 0 ∧ s = ⟨[(3, .ptr 26 0 0)], [(26, some (.box 75 [.ptr 26 0 0, .own 27])), (27, some (.row 1 5 (x378.map (encInt .u8))))], 0⟩)) (LWp.cv (withBody (fun body hbody => ?_))) ?_
  · refine f_label_Quote.l0.partial_correctness a0 (motive := fun x354 x355 o391 => LWp Γ body (fun e s => ∃ t, Cv Γ s t ∧ (match (generalizing := false) o391 with | x378 => e = .exit 0 ∧ t = ⟨[(3, .ptr 26 0 0)], [(26, some (.box 75 [.ptr 26 0 0, .own 27])), (27, some (.row 1 5 (x378.map (encInt .u8))))], 0⟩)) ⟨[(0, sV a0), (3, .ptr 13 0 0), (8, iV .i64 (a0.size : Int)), (9, iV .i64 x355)], [(13, some (.box 75 [.ptr 13 0 0, .own 14])), (14, some (.row 1 5 (x354.map (encInt .u8))))], 0⟩) ?_ _ _ _ e392
    clear H e392 o391; intro self ih x354 x355 o391 H
    subst hbody
    refine LWp.round ?_
    refine AWp.seq ?_
    refine reg hP hn hm [] [0, 3, 8, 9, 10] [13, 14] ⟨[(0, sV a0), (3, .ptr 13 0 0), (8, iV .i64 (a0.size : Int)), (9, iV .i64 x355), (10, bV (decide (x355 < (a0.size : Int))))], [(13, some (.box 75 [.ptr 13 0 0, .own 14])), (14, some (.row 1 5 (x354.map (encInt .u8))))], 0⟩ [] (by kernel_rfl) trivial ?_
    refine AWp.seq ?_
    refine AWp.cond (decide (x355 < (a0.size : Int))) rfl (fun c356 => ?_) (fun c356 => ?_)
    · replace H := (ifT c356).symm.trans H
      refine AWp.skip ?_
      refine AWp.seq ?_
      refine AWp.block ?_
      refine AWp.seq ?_
      refine reg hP hn hm [] [0, 3, 4, 8, 9] [13, 14] ⟨[(0, sV a0), (3, .ptr 13 0 0), (4, iV .i64 x355), (8, iV .i64 (a0.size : Int)), (9, iV .i64 x355)], [(13, some (.box 75 [.ptr 13 0 0, .own 14])), (14, some (.row 1 5 (x354.map (encInt .u8))))], 0⟩ [] (by kernel_rfl) trivial ?_
      refine AWp.seq ?_
      obtain ⟨c358, H⟩ := chk_of H
      refine reg hP hn hm [] [0, 3, 5, 8, 9] [13, 14] ⟨[(0, sV a0), (3, .ptr 13 0 0), (5, iV .u8 (bt a0 x355)), (8, iV .i64 (a0.size : Int)), (9, iV .i64 x355)], [(13, some (.box 75 [.ptr 13 0 0, .own 14])), (14, some (.row 1 5 (x354.map (encInt .u8))))], 0⟩ [0 ≤ x355, x355 < (a0.size : Int)] (by kernel_rfl) ⟨by exact c358.1, by exact c358.2, trivial⟩ ?_
      refine AWp.seq ?_
      refine reg hP hn hm [] [0, 3, 5, 8, 9, 15] [13, 14] ⟨[(0, sV a0), (3, .ptr 13 0 0), (5, iV .u8 (bt a0 x355)), (8, iV .i64 (a0.size : Int)), (9, iV .i64 x355), (15, iV .u8 (bt a0 x355))], [(13, some (.box 75 [.ptr 13 0 0, .own 14])), (14, some (.row 1 5 (x354.map (encInt .u8))))], 0⟩ [] (by kernel_rfl) trivial ?_
      obtain ⟨o393, e394, H⟩ := bind_of H
      refine AWp.mono (Q := fun e s => (match (generalizing := false) o393 with | x377 => e = .normal ∧ s = ⟨[(0, sV a0), (3, .ptr 24 0 0), (8, iV .i64 (a0.size : Int)), (9, iV .i64 x355)], [(24, some (.box 75 [.ptr 24 0 0, .own 25])), (25, some (.row 1 5 (x377.map (encInt .u8))))], 0⟩)) (AWp.cv ?_) ?_
      · replace H := e394; clear e394
        refine AWp.block ?_
        refine AWp.seq ?_
        obtain ⟨o395, e396, H⟩ := bind_of H
        refine AWp.mono (Q := fun e s => (match (generalizing := false) o395 with | .inl x371 => e = .normal ∧ s = ⟨[(0, sV a0), (3, .ptr 19 0 0), (5, iV .u8 (bt a0 x355)), (8, iV .i64 (a0.size : Int)), (9, iV .i64 x355)], [(19, some (.box 75 [.ptr 19 0 0, .own 20])), (20, some (.row 1 5 (x371.map (encInt .u8))))], 0⟩ | .inr x372 => e = .exit 2 ∧ s = ⟨[(0, sV a0), (3, .ptr 21 0 0), (8, iV .i64 (a0.size : Int)), (9, iV .i64 x355)], [(21, some (.box 75 [.ptr 21 0 0, .own 22])), (22, some (.row 1 5 (x372.map (encInt .u8))))], 0⟩)) (AWp.cv ?_) ?_
        · replace H := e396; clear e396
          refine AWp.block ?_
          refine AWp.seq ?_
          refine AWp.block ?_
          refine AWp.seq ?_
          refine AWp.block ?_
          refine AWp.seq ?_
          refine AWp.seq ?_
          refine AWp.seq ?_
          refine reg hP hn hm [] [0, 3, 5, 8, 9, 15, 16] [13, 14] ⟨[(0, sV a0), (3, .ptr 13 0 0), (5, iV .u8 (bt a0 x355)), (8, iV .i64 (a0.size : Int)), (9, iV .i64 x355), (15, iV .u8 (bt a0 x355)), (16, bV ((bt a0 x355) == (10 : Int)))], [(13, some (.box 75 [.ptr 13 0 0, .own 14])), (14, some (.row 1 5 (x354.map (encInt .u8))))], 0⟩ [] (by kernel_rfl) trivial ?_
          refine AWp.cond ((bt a0 x355) == (10 : Int)) rfl (fun c359 => ?_) (fun c359 => ?_)
          · replace H := (ifT c359).symm.trans H
            refine AWp.exit ?_
            refine AWp.seq ?_
            obtain ⟨t365, e366, H⟩ := bind_of H
            refine reg hP hn hm [(0, .call [(13, 0), (14, 1)] [(0, 13), (2, 17)] [] [17] 2 (.tup [iV .i64 ((⟨#[92, 110]⟩ : ByteArray).size : Int), .im (.sc (.nilIface))]) [(0, some (.box 75 [.ptr 0 0 0, .own 2])), (1, none), (2, some (.row 1 5 (t365.map (encInt .u8))))])] [0, 3, 8, 9] [13, 17] ⟨[(0, sV a0), (3, .ptr 13 0 0), (8, iV .i64 (a0.size : Int)), (9, iV .i64 x355)], [(13, some (.box 75 [.ptr 13 0 0, .own 17])), (17, some (.row 1 5 (t365.map (encInt .u8))))], 0⟩ [Enters Try.prog 43, Pv.Fn Try.prog 43 [.ptr 0 0 0, sV (⟨#[92, 110]⟩ : ByteArray)] [(0, some (.box 75 [.ptr 0 0 0, .own 1])), (1, some (.row 1 5 (x354.map (encInt .u8))))] 2 (fun r o => r = .tup [iV .i64 ((⟨#[92, 110]⟩ : ByteArray).size : Int), .im (.sc (.nilIface))] ∧ o = [(0, some (.box 75 [.ptr 0 0 0, .own 2])), (1, none), (2, some (.row 1 5 (t365.map (encInt .u8))))])] (by kernel_rfl) ⟨by exact Try.call43, by exact f_strings_Builder_WriteString.ok x354 (⟨#[92, 110]⟩ : ByteArray) t365 e366, trivial⟩ ?_
            refine AWp.exit ?_
            obtain rfl := Option.some.inj H
            exact Exists.intro _ (And.intro (fun _ _ h => h.conv (inv := [(13, 21), (17, 22)]) (vk := []) (e0 := []) (t := ⟨[(0, sV a0), (3, .ptr 21 0 0), (8, iV .i64 (a0.size : Int)), (9, iV .i64 x355)], [(21, some (.box 75 [.ptr 21 0 0, .own 22])), (22, some (.row 1 5 (t365.map (encInt .u8))))], 0⟩) (by kernel_rfl)) (And.intro rfl rfl))
          · replace H := (ifF c359).symm.trans H
            refine AWp.skip ?_
            refine AWp.seq ?_
            refine AWp.seq ?_
            refine reg hP hn hm [] [0, 3, 5, 8, 9, 15, 18] [13, 14] ⟨[(0, sV a0), (3, .ptr 13 0 0), (5, iV .u8 (bt a0 x355)), (8, iV .i64 (a0.size : Int)), (9, iV .i64 x355), (15, iV .u8 (bt a0 x355)), (18, bV ((bt a0 x355) == (34 : Int)))], [(13, some (.box 75 [.ptr 13 0 0, .own 14])), (14, some (.row 1 5 (x354.map (encInt .u8))))], 0⟩ [] (by kernel_rfl) trivial ?_
            obtain ⟨o397, e398, H⟩ := bind_of H
            refine AWp.mono (Q := fun e s => (match (generalizing := false) o397 with | x361 => e = .normal ∧ s = ⟨[(0, sV a0), (3, .ptr 15 0 0), (5, iV .u8 (bt a0 x355)), (8, iV .i64 (a0.size : Int)), (9, iV .i64 x355), (18, bV x361)], [(15, some (.box 75 [.ptr 15 0 0, .own 16])), (16, some (.row 1 5 (x354.map (encInt .u8))))], 0⟩)) (AWp.cv ?_) ?_
            · replace H := e398; clear e398
              refine AWp.cond ((bt a0 x355) == (34 : Int)) rfl (fun c360 => ?_) (fun c360 => ?_)
              · replace H := (ifT c360).symm.trans H
                refine AWp.skip ?_
                obtain rfl := Option.some.inj H
                exact Exists.intro _ (And.intro (fun _ _ h => h.conv (inv := [(13, 15), (14, 16)]) (vk := []) (e0 := []) (t := ⟨[(0, sV a0), (3, .ptr 15 0 0), (5, iV .u8 (bt a0 x355)), (8, iV .i64 (a0.size : Int)), (9, iV .i64 x355), (18, bV ((bt a0 x355) == (34 : Int)))], [(15, some (.box 75 [.ptr 15 0 0, .own 16])), (16, some (.row 1 5 (x354.map (encInt .u8))))], 0⟩) (by kernel_rfl)) (And.intro rfl rfl))
              · replace H := (ifF c360).symm.trans H
                refine reg hP hn hm [] [0, 3, 5, 8, 9, 18] [13, 14] ⟨[(0, sV a0), (3, .ptr 13 0 0), (5, iV .u8 (bt a0 x355)), (8, iV .i64 (a0.size : Int)), (9, iV .i64 x355), (18, bV ((bt a0 x355) == (92 : Int)))], [(13, some (.box 75 [.ptr 13 0 0, .own 14])), (14, some (.row 1 5 (x354.map (encInt .u8))))], 0⟩ [] (by kernel_rfl) trivial ?_
                obtain rfl := Option.some.inj H
                exact Exists.intro _ (And.intro (fun _ _ h => h.conv (inv := [(13, 15), (14, 16)]) (vk := []) (e0 := []) (t := ⟨[(0, sV a0), (3, .ptr 15 0 0), (5, iV .u8 (bt a0 x355)), (8, iV .i64 (a0.size : Int)), (9, iV .i64 x355), (18, bV ((bt a0 x355) == (92 : Int)))], [(15, some (.box 75 [.ptr 15 0 0, .own 16])), (16, some (.row 1 5 (x354.map (encInt .u8))))], 0⟩) (by kernel_rfl)) (And.intro rfl rfl))
            · obtain ⟨x361, rfl⟩ : ∃ z, z = o397 := ⟨_, rfl⟩
              rintro e s ⟨rfl, rfl⟩
              refine AWp.cond x361 rfl (fun c362 => ?_) (fun c362 => ?_)
              · replace H := (ifT c362).symm.trans H
                refine AWp.exit ?_
                obtain ⟨t369, e370, H⟩ := bind_of H
                refine reg hP hn hm [(0, .call [(15, 0), (16, 1)] [(0, 15), (2, 18)] [] [18] 2 (.im (.sc (.nilIface))) [(0, some (.box 75 [.ptr 0 0 0, .own 2])), (1, none), (2, some (.row 1 5 (t369.map (encInt .u8))))])] [0, 3, 5, 8, 9] [15, 18] ⟨[(0, sV a0), (3, .ptr 15 0 0), (5, iV .u8 (bt a0 x355)), (8, iV .i64 (a0.size : Int)), (9, iV .i64 x355)], [(15, some (.box 75 [.ptr 15 0 0, .own 18])), (18, some (.row 1 5 (t369.map (encInt .u8))))], 0⟩ [Enters Try.prog 42, Pv.Fn Try.prog 42 [.ptr 0 0 0, iV .u8 92] [(0, some (.box 75 [.ptr 0 0 0, .own 1])), (1, some (.row 1 5 (x354.map (encInt .u8))))] 2 (fun r o => r = .im (.sc (.nilIface)) ∧ o = [(0, some (.box 75 [.ptr 0 0 0, .own 2])), (1, none), (2, some (.row 1 5 (t369.map (encInt .u8))))])] (by kernel_rfl) ⟨by exact Try.call42, by exact f_strings_Builder_WriteByte_2.ok x354 92 t369 e370, trivial⟩ ?_
                obtain rfl := Option.some.inj H
                exact Exists.intro _ (And.intro (fun _ _ h => h.conv (inv := [(15, 19), (18, 20)]) (vk := []) (e0 := []) (t := ⟨[(0, sV a0), (3, .ptr 19 0 0), (5, iV .u8 (bt a0 x355)), (8, iV .i64 (a0.size : Int)), (9, iV .i64 x355)], [(19, some (.box 75 [.ptr 19 0 0, .own 20])), (20, some (.row 1 5 (t369.map (encInt .u8))))], 0⟩) (by kernel_rfl)) (And.intro rfl rfl))
              · replace H := (ifF c362).symm.trans H
                refine AWp.skip ?_
                refine AWp.exit ?_
                obtain rfl := Option.some.inj H
                exact Exists.intro _ (And.intro (fun _ _ h => h.conv (inv := [(15, 19), (16, 20)]) (vk := []) (e0 := []) (t := ⟨[(0, sV a0), (3, .ptr 19 0 0), (5, iV .u8 (bt a0 x355)), (8, iV .i64 (a0.size : Int)), (9, iV .i64 x355)], [(19, some (.box 75 [.ptr 19 0 0, .own 20])), (20, some (.row 1 5 (x354.map (encInt .u8))))], 0⟩) (by kernel_rfl)) (And.intro rfl rfl))
        · rcases o395 with x371 | x372
          · skip
            rintro e s ⟨rfl, rfl⟩
            refine AWp.seq ?_
            obtain ⟨t375, e376, H⟩ := bind_of H
            refine reg hP hn hm [(1, .call [(19, 0), (20, 1)] [(0, 19), (2, 23)] [] [23] 2 (.im (.sc (.nilIface))) [(0, some (.box 75 [.ptr 0 0 0, .own 2])), (1, none), (2, some (.row 1 5 (t375.map (encInt .u8))))])] [0, 3, 8, 9] [19, 23] ⟨[(0, sV a0), (3, .ptr 19 0 0), (8, iV .i64 (a0.size : Int)), (9, iV .i64 x355)], [(19, some (.box 75 [.ptr 19 0 0, .own 23])), (23, some (.row 1 5 (t375.map (encInt .u8))))], 0⟩ [Enters Try.prog 42, Pv.Fn Try.prog 42 [.ptr 0 0 0, iV .u8 (bt a0 x355)] [(0, some (.box 75 [.ptr 0 0 0, .own 1])), (1, some (.row 1 5 (x371.map (encInt .u8))))] 2 (fun r o => r = .im (.sc (.nilIface)) ∧ o = [(0, some (.box 75 [.ptr 0 0 0, .own 2])), (1, none), (2, some (.row 1 5 (t375.map (encInt .u8))))])] (by kernel_rfl) ⟨by exact Try.call42, by exact f_strings_Builder_WriteByte_2.ok x371 (bt a0 x355) t375 e376, trivial⟩ ?_
            refine AWp.exit ?_
            obtain rfl := Option.some.inj H
            exact Exists.intro _ (And.intro (fun _ _ h => h.conv (inv := [(19, 24), (23, 25)]) (vk := []) (e0 := []) (t := ⟨[(0, sV a0), (3, .ptr 24 0 0), (8, iV .i64 (a0.size : Int)), (9, iV .i64 x355)], [(24, some (.box 75 [.ptr 24 0 0, .own 25])), (25, some (.row 1 5 (t375.map (encInt .u8))))], 0⟩) (by kernel_rfl)) (And.intro rfl rfl))
          · skip
            rintro e s ⟨rfl, rfl⟩
            obtain rfl := Option.some.inj H
            exact Exists.intro _ (And.intro (fun _ _ h => h.conv (inv := [(21, 24), (22, 25)]) (vk := []) (e0 := []) (t := ⟨[(0, sV a0), (3, .ptr 24 0 0), (8, iV .i64 (a0.size : Int)), (9, iV .i64 x355)], [(24, some (.box 75 [.ptr 24 0 0, .own 25])), (25, some (.row 1 5 (x372.map (encInt .u8))))], 0⟩) (by kernel_rfl)) (And.intro rfl rfl))
      · obtain ⟨x377, rfl⟩ : ∃ z, z = o393 := ⟨_, rfl⟩
        rintro e s ⟨rfl, rfl⟩
        refine reg hP hn hm [] [0, 3, 8, 9] [24, 25] ⟨[(0, sV a0), (3, .ptr 24 0 0), (8, iV .i64 (a0.size : Int)), (9, iV .i64 (IntKind.i64.wrap (x355 + (1 : Int))))], [(24, some (.box 75 [.ptr 24 0 0, .own 25])), (25, some (.row 1 5 (x377.map (encInt .u8))))], 0⟩ [] (by kernel_rfl) trivial ?_
        exact LWp.conv (inv := [(24, 13), (25, 14)]) (vk := []) (e0 := []) (t := ⟨[(0, sV a0), (3, .ptr 13 0 0), (8, iV .i64 (a0.size : Int)), (9, iV .i64 (IntKind.i64.wrap (x355 + (1 : Int))))], [(13, some (.box 75 [.ptr 13 0 0, .own 14])), (14, some (.row 1 5 (x377.map (encInt .u8))))], 0⟩) (by kernel_rfl) (ih _ _ _ H)
    · replace H := (ifF c356).symm.trans H
      refine AWp.exit ?_
      obtain rfl := Option.some.inj H
      exact Exists.intro _ (And.intro (fun _ _ h => h.conv (inv := [(13, 26), (14, 27)]) (vk := []) (e0 := []) (t := ⟨[(3, .ptr 26 0 0)], [(26, some (.box 75 [.ptr 26 0 0, .own 27])), (27, some (.row 1 5 (x354.map (encInt .u8))))], 0⟩) (by kernel_rfl)) (And.intro rfl rfl))
  · obtain ⟨x378, rfl⟩ : ∃ z, z = o391 := ⟨_, rfl⟩
    rintro e s ⟨rfl, rfl⟩
    refine AWp.seq ?_
    obtain ⟨t381, e382, H⟩ := bind_of H
    refine reg hP hn hm [(0, .call [(26, 0), (27, 1)] [(0, 26), (2, 28)] [] [28] 2 (.im (.sc (.nilIface))) [(0, some (.box 75 [.ptr 0 0 0, .own 2])), (1, none), (2, some (.row 1 5 (t381.map (encInt .u8))))])] [3] [26, 28] ⟨[(3, .ptr 26 0 0)], [(26, some (.box 75 [.ptr 26 0 0, .own 28])), (28, some (.row 1 5 (t381.map (encInt .u8))))], 0⟩ [Enters Try.prog 42, Pv.Fn Try.prog 42 [.ptr 0 0 0, iV .u8 34] [(0, some (.box 75 [.ptr 0 0 0, .own 1])), (1, some (.row 1 5 (x378.map (encInt .u8))))] 2 (fun r o => r = .im (.sc (.nilIface)) ∧ o = [(0, some (.box 75 [.ptr 0 0 0, .own 2])), (1, none), (2, some (.row 1 5 (t381.map (encInt .u8))))])] (by kernel_rfl) ⟨by exact Try.call42, by exact f_strings_Builder_WriteByte_2.ok x378 34 t381 e382, trivial⟩ ?_
    refine AWp.seq ?_
    obtain ⟨t389, e390, H⟩ := bind_of H
    refine reg hP hn hm [(0, .call [(26, 0), (28, 1)] [(0, 26)] [] [] 2 (sV (strOf t381)) [(0, some (.box 75 [.ptr 0 0 0, .top])), (1, none)])] [2] [] ⟨[(2, sV (strOf t381))], [], 0⟩ [Enters Try.prog 44, Pv.Fn Try.prog 44 [.ptr 0 0 0] [(0, some (.box 75 [.ptr 0 0 0, .own 1])), (1, some (.row 1 5 (t381.map (encInt .u8))))] 2 (fun r o => r = sV (strOf t381) ∧ o = [(0, some (.box 75 [.ptr 0 0 0, .top])), (1, none)])] (by kernel_rfl) ⟨by exact Try.call44, by exact f_strings_Builder_String.ok t381 t389 e390, trivial⟩ ?_
    refine AWp.conv (inv := []) (vk := []) (e0 := []) (t := ⟨[(2, sV (strOf t381))], [], 0⟩) (by kernel_rfl) ?_
    refine AWp.ret ?_
    obtain rfl := Option.some.inj H
    exact Exists.intro _ (And.intro (fun _ _ h => h) (And.intro (.inl rfl) (And.intro rfl (And.intro (by kernel_rfl) (by kernel_rfl)))))
def f_pluvialref10_Quote.l0 (a0 : ByteArray) (x427 : ByteArray) (x428 : Int) : Option (ByteArray) := if (decide (x428 < (a0.size : Int))) = true then ((((chk (0 ≤ x428 ∧ x428 < (a0.size : Int))) >>= fun _ => if ((bt a0 x428) == (10 : Int)) = true then ((chk (((x427.size + (⟨#[92, 110]⟩ : ByteArray).size : Nat) : Int) ≤ 9223372036854775807)) >>= fun _ => some (x427 ++ (⟨#[92, 110]⟩ : ByteArray))) else (((if ((bt a0 x428) == (34 : Int)) = true then (some true) else (some ((bt a0 x428) == (92 : Int)))) : Option (Bool)) >>= fun x437 => ((if x437 = true then ((chk (((x427.size + (⟨#[92]⟩ : ByteArray).size : Nat) : Int) ≤ 9223372036854775807)) >>= fun _ => some (x427 ++ (⟨#[92]⟩ : ByteArray))) else (some x427)) : Option (ByteArray)) >>= fun x441 => (chk (0 ≤ x428 ∧ x428 ≤ (IntKind.i64.wrap (x428 + (1 : Int))) ∧ (IntKind.i64.wrap (x428 + (1 : Int))) ≤ (a0.size : Int))) >>= fun _ => (chk (((x441.size + (a0.extract (Int.toNat (x428)) (Int.toNat ((IntKind.i64.wrap (x428 + (1 : Int)))))).size : Nat) : Int) ≤ 9223372036854775807)) >>= fun _ => some (x441 ++ (a0.extract (Int.toNat (x428)) (Int.toNat ((IntKind.i64.wrap (x428 + (1 : Int))))))))) : Option (ByteArray)) >>= fun x446 => f_pluvialref10_Quote.l0 a0 x446 (IntKind.i64.wrap (x428 + (1 : Int)))) else (some x427)
partial_fixpoint
def f_pluvialref10_Quote.f (a0 : ByteArray) : Option (ByteArray) := (f_pluvialref10_Quote.l0 a0 (⟨#[34]⟩ : ByteArray) 0) >>= fun x447 => (chk (((x447.size + (⟨#[34]⟩ : ByteArray).size : Nat) : Int) ≤ 9223372036854775807)) >>= fun _ => some (x447 ++ (⟨#[34]⟩ : ByteArray))
theorem f_pluvialref10_Quote.ok (a0 : ByteArray) (r : ByteArray) (H : f_pluvialref10_Quote.f a0 = some r) : Pv.Fn Try.prog 14 [sV a0] [] 0 (fun x o => x = sV r ∧ o = []) := by
  unfold f_pluvialref10_Quote.f at H
  refine Fn.bodyK [] Try.func14 rfl rfl (fun Γ hP hn => ?_)
  have hm : Try.prog.follows .mixedOrders = true := by kernel_rfl
  replace hn : Γ.n = 38 := hn
  refine AWp.seq ?_
  refine reg hP hn hm [] [0] [] ⟨[(0, sV a0)], [], 0⟩ [] (by kernel_rfl) trivial ?_
  refine AWp.seq ?_
  refine reg hP hn hm [] [0, 3] [] ⟨[(0, sV a0), (3, sV (⟨#[34]⟩ : ByteArray))], [], 0⟩ [] (by kernel_rfl) trivial ?_
  refine AWp.seq ?_
  refine AWp.seq ?_
  refine reg hP hn hm [] [0, 3, 4] [] ⟨[(0, sV a0), (3, sV (⟨#[34]⟩ : ByteArray)), (4, iV .i64 0)], [], 0⟩ [] (by kernel_rfl) trivial ?_
  refine AWp.block ?_
  obtain ⟨o450, e451, H⟩ := bind_of H
  refine AWp.loop (LWp.conv (inv := []) (vk := []) (e0 := []) (t := ⟨[(0, sV a0), (3, sV (⟨#[34]⟩ : ByteArray)), (4, iV .i64 0)], [], 0⟩) (by kernel_rfl) ?_)
  refine LWp.mono (Q := fun e s => (match (generalizing := false) o450 with | x447 => e = .exit 0 ∧ s = ⟨[(3, sV x447)], [], 0⟩)) (LWp.cv (withBody (fun body hbody => ?_))) ?_
  · refine f_pluvialref10_Quote.l0.partial_correctness a0 (motive := fun x427 x428 o450 => LWp Γ body (fun e s => ∃ t, Cv Γ s t ∧ (match (generalizing := false) o450 with | x447 => e = .exit 0 ∧ t = ⟨[(3, sV x447)], [], 0⟩)) ⟨[(0, sV a0), (3, sV x427), (4, iV .i64 x428)], [], 0⟩) ?_ _ _ _ e451
    clear H e451 o450; intro self ih x427 x428 o450 H
    subst hbody
    refine LWp.round ?_
    refine AWp.seq ?_
    refine AWp.seq ?_
    refine reg hP hn hm [] [0, 3, 4, 8] [] ⟨[(0, sV a0), (3, sV x427), (4, iV .i64 x428), (8, bV (decide (x428 < (a0.size : Int))))], [], 0⟩ [] (by kernel_rfl) trivial ?_
    refine AWp.cond (decide (x428 < (a0.size : Int))) rfl (fun c429 => ?_) (fun c429 => ?_)
    · replace H := (ifT c429).symm.trans H
      refine AWp.skip ?_
      refine AWp.seq ?_
      obtain ⟨o452, e453, H⟩ := bind_of H
      refine AWp.mono (Q := fun e s => (match (generalizing := false) o452 with | x446 => e = .normal ∧ s = ⟨[(0, sV a0), (3, sV x446), (4, iV .i64 x428)], [], 0⟩)) (AWp.cv ?_) ?_
      · replace H := e453; clear e453
        refine AWp.block ?_
        refine AWp.seq ?_
        refine AWp.seq ?_
        obtain ⟨c431, H⟩ := chk_of H
        refine reg hP hn hm [] [0, 3, 4, 14] [] ⟨[(0, sV a0), (3, sV x427), (4, iV .i64 x428), (14, bV ((bt a0 x428) == (10 : Int)))], [], 0⟩ [0 ≤ x428, x428 < (a0.size : Int)] (by kernel_rfl) ⟨by exact c431.1, by exact c431.2, trivial⟩ ?_
        refine AWp.cond ((bt a0 x428) == (10 : Int)) rfl (fun c432 => ?_) (fun c432 => ?_)
        · replace H := (ifT c432).symm.trans H
          refine AWp.seq ?_
          obtain ⟨c434, H⟩ := chk_of H
          refine reg hP hn hm [] [0, 3, 4] [] ⟨[(0, sV a0), (3, sV (x427 ++ (⟨#[92, 110]⟩ : ByteArray))), (4, iV .i64 x428)], [], 0⟩ [((x427.size + (⟨#[92, 110]⟩ : ByteArray).size : Nat) : Int) ≤ 9223372036854775807] (by kernel_rfl) ⟨by exact c434, trivial⟩ ?_
          refine AWp.exit ?_
          obtain rfl := Option.some.inj H
          exact Exists.intro _ (And.intro (fun _ _ h => h.conv (inv := []) (vk := []) (e0 := []) (t := ⟨[(0, sV a0), (3, sV (x427 ++ (⟨#[92, 110]⟩ : ByteArray))), (4, iV .i64 x428)], [], 0⟩) (by kernel_rfl)) (And.intro rfl rfl))
        · replace H := (ifF c432).symm.trans H
          refine AWp.skip ?_
          refine AWp.seq ?_
          refine AWp.seq ?_
          obtain ⟨o454, e455, H⟩ := bind_of H
          refine AWp.mono (Q := fun e s => (match (generalizing := false) o454 with | x437 => e = .normal ∧ s = ⟨[(0, sV a0), (3, sV x427), (4, iV .i64 x428), (26, bV x437)], [], 0⟩)) (AWp.cv ?_) ?_
          · replace H := e455; clear e455
            rcases Bool.eq_false_or_eq_true ((bt a0 x428) == (34 : Int)) with c436 | c436
            · replace H := (ifT c436).symm.trans H
              refine reg hP hn hm [(4, .b true)] [0, 3, 4, 26] [] ⟨[(0, sV a0), (3, sV x427), (4, iV .i64 x428), (26, bV true)], [], 0⟩ [0 ≤ x428, x428 < (a0.size : Int), ((bt a0 x428) == (34 : Int)) = true] (by kernel_rfl) ⟨by exact c431.1, by exact c431.2, by exact c436, trivial⟩ ?_
              obtain rfl := Option.some.inj H
              exact Exists.intro _ (And.intro (fun _ _ h => h.conv (inv := []) (vk := []) (e0 := []) (t := ⟨[(0, sV a0), (3, sV x427), (4, iV .i64 x428), (26, bV true)], [], 0⟩) (by kernel_rfl)) (And.intro rfl rfl))
            · replace H := (ifF c436).symm.trans H
              refine reg hP hn hm [(4, .b false)] [0, 3, 4, 22, 23, 24, 25, 26] [] ⟨[(0, sV a0), (3, sV x427), (4, iV .i64 x428), (22, sV a0), (23, iV .i64 x428), (24, iV .u8 (bt a0 x428)), (25, bV ((bt a0 x428) == (92 : Int))), (26, bV ((bt a0 x428) == (92 : Int)))], [], 0⟩ [0 ≤ x428, x428 < (a0.size : Int), ((bt a0 x428) == (34 : Int)) = false, 0 ≤ x428, x428 < (a0.size : Int)] (by kernel_rfl) ⟨by exact c431.1, by exact c431.2, by exact c436, by exact c431.1, by exact c431.2, trivial⟩ ?_
              obtain rfl := Option.some.inj H
              exact Exists.intro _ (And.intro (fun _ _ h => h.conv (inv := []) (vk := []) (e0 := []) (t := ⟨[(0, sV a0), (3, sV x427), (4, iV .i64 x428), (26, bV ((bt a0 x428) == (92 : Int)))], [], 0⟩) (by kernel_rfl)) (And.intro rfl rfl))
          · obtain ⟨x437, rfl⟩ : ∃ z, z = o454 := ⟨_, rfl⟩
            rintro e s ⟨rfl, rfl⟩
            obtain ⟨o456, e457, H⟩ := bind_of H
            refine AWp.mono (Q := fun e s => (match (generalizing := false) o456 with | x441 => e = .normal ∧ s = ⟨[(0, sV a0), (3, sV x441), (4, iV .i64 x428)], [], 0⟩)) (AWp.cv ?_) ?_
            · replace H := e457; clear e457
              refine AWp.cond x437 rfl (fun c438 => ?_) (fun c438 => ?_)
              · replace H := (ifT c438).symm.trans H
                obtain ⟨c440, H⟩ := chk_of H
                refine reg hP hn hm [] [0, 3, 4] [] ⟨[(0, sV a0), (3, sV (x427 ++ (⟨#[92]⟩ : ByteArray))), (4, iV .i64 x428)], [], 0⟩ [((x427.size + (⟨#[92]⟩ : ByteArray).size : Nat) : Int) ≤ 9223372036854775807] (by kernel_rfl) ⟨by exact c440, trivial⟩ ?_
                obtain rfl := Option.some.inj H
                exact Exists.intro _ (And.intro (fun _ _ h => h.conv (inv := []) (vk := []) (e0 := []) (t := ⟨[(0, sV a0), (3, sV (x427 ++ (⟨#[92]⟩ : ByteArray))), (4, iV .i64 x428)], [], 0⟩) (by kernel_rfl)) (And.intro rfl rfl))
              · replace H := (ifF c438).symm.trans H
                refine AWp.skip ?_
                obtain rfl := Option.some.inj H
                exact Exists.intro _ (And.intro (fun _ _ h => h.conv (inv := []) (vk := []) (e0 := []) (t := ⟨[(0, sV a0), (3, sV x427), (4, iV .i64 x428)], [], 0⟩) (by kernel_rfl)) (And.intro rfl rfl))
            · obtain ⟨x441, rfl⟩ : ∃ z, z = o456 := ⟨_, rfl⟩
              rintro e s ⟨rfl, rfl⟩
              obtain ⟨c444, H⟩ := chk_of H
              obtain ⟨c445, H⟩ := chk_of H
              refine reg hP hn hm [] [0, 3, 4] [] ⟨[(0, sV a0), (3, sV (x441 ++ (a0.extract (Int.toNat (x428)) (Int.toNat ((IntKind.i64.wrap (x428 + (1 : Int)))))))), (4, iV .i64 x428)], [], 0⟩ [0 ≤ x428, x428 ≤ (IntKind.i64.wrap (x428 + (1 : Int))), (IntKind.i64.wrap (x428 + (1 : Int))) ≤ (a0.size : Int), ((x441.size + (a0.extract (Int.toNat (x428)) (Int.toNat ((IntKind.i64.wrap (x428 + (1 : Int)))))).size : Nat) : Int) ≤ 9223372036854775807] (by kernel_rfl) ⟨by exact c444.1, by exact c444.2.1, by exact c444.2.2, by exact c445, trivial⟩ ?_
              obtain rfl := Option.some.inj H
              exact Exists.intro _ (And.intro (fun _ _ h => h.conv (inv := []) (vk := []) (e0 := []) (t := ⟨[(0, sV a0), (3, sV (x441 ++ (a0.extract (Int.toNat (x428)) (Int.toNat ((IntKind.i64.wrap (x428 + (1 : Int)))))))), (4, iV .i64 x428)], [], 0⟩) (by kernel_rfl)) (And.intro rfl rfl))
      · obtain ⟨x446, rfl⟩ : ∃ z, z = o452 := ⟨_, rfl⟩
        rintro e s ⟨rfl, rfl⟩
        refine reg hP hn hm [] [0, 3, 4] [] ⟨[(0, sV a0), (3, sV x446), (4, iV .i64 (IntKind.i64.wrap (x428 + (1 : Int))))], [], 0⟩ [] (by kernel_rfl) trivial ?_
        exact LWp.conv (inv := []) (vk := []) (e0 := []) (t := ⟨[(0, sV a0), (3, sV x446), (4, iV .i64 (IntKind.i64.wrap (x428 + (1 : Int))))], [], 0⟩) (by kernel_rfl) (ih _ _ _ H)
    · replace H := (ifF c429).symm.trans H
      refine AWp.exit ?_
      obtain rfl := Option.some.inj H
      exact Exists.intro _ (And.intro (fun _ _ h => h.conv (inv := []) (vk := []) (e0 := []) (t := ⟨[(3, sV x427)], [], 0⟩) (by kernel_rfl)) (And.intro rfl rfl))
  · obtain ⟨x447, rfl⟩ : ∃ z, z = o450 := ⟨_, rfl⟩
    rintro e s ⟨rfl, rfl⟩
    refine AWp.seq ?_
    obtain ⟨c449, H⟩ := chk_of H
    refine reg hP hn hm [] [2] [] ⟨[(2, sV (x447 ++ (⟨#[34]⟩ : ByteArray)))], [], 0⟩ [((x447.size + (⟨#[34]⟩ : ByteArray).size : Nat) : Int) ≤ 9223372036854775807] (by kernel_rfl) ⟨by exact c449, trivial⟩ ?_
    refine AWp.conv (inv := []) (vk := []) (e0 := []) (t := ⟨[(2, sV (x447 ++ (⟨#[34]⟩ : ByteArray)))], [], 0⟩) (by kernel_rfl) ?_
    refine AWp.ret ?_
    obtain rfl := Option.some.inj H
    exact Exists.intro _ (And.intro (fun _ _ h => h) (And.intro (.inl rfl) (And.intro rfl (And.intro (by kernel_rfl) (by kernel_rfl)))))
def f_pluviallaw10_LabelQuotes.f (a0 : ByteArray) (a1 : ByteArray) : Option (Bool) := ((if (decide ((a0.size : Int) > (1000 : Int))) = true then (some true) else (some (decide ((a1.size : Int) > (1000 : Int))))) : Option (Bool)) >>= fun x3 => if x3 = true then ((f_pluviallaw10_awake.f) >>= fun t308 => some t308) else ((f_label_Quote.f a0) >>= fun t401 => (chk (((t401.size + a1.size : Nat) : Int) ≤ 9223372036854775807)) >>= fun _ => (f_label_Unquote.f (t401 ++ a1)) >>= fun t407 => (((f_pluvialref10_Quote.f a0) >>= fun t463 => if (!(t401.toList == t463.toList)) = true then (some true) else (if (!t407.2.2) = true then (some true) else (if (!(t407.1.toList == a0.toList)) = true then (some true) else (some (!(t407.2.1.toList == a1.toList)))))) : Option (Bool)) >>= fun x468 => if x468 = true then (some false) else ((f_label_Unquote.f a1) >>= fun t472 => (((f_pluviallaw10_awake.f) >>= fun t492 => if t492 = true then (if (!t472.2.2) = true then (if (t472.1.toList == (⟨#[]⟩ : ByteArray).toList) = true then (if (t472.2.1.toList == (⟨#[]⟩ : ByteArray).toList) = true then (some true) else (if t472.2.2 = true then ((f_pluvialref10_Quote.f t472.1) >>= fun t499 => (chk (((t499.size + t472.2.1.size : Nat) : Int) ≤ 9223372036854775807)) >>= fun _ => some ((t499 ++ t472.2.1).toList == a1.toList)) else (some false))) else (if t472.2.2 = true then ((f_pluvialref10_Quote.f t472.1) >>= fun t503 => (chk (((t503.size + t472.2.1.size : Nat) : Int) ≤ 9223372036854775807)) >>= fun _ => some ((t503 ++ t472.2.1).toList == a1.toList)) else (some false))) else (if t472.2.2 = true then ((f_pluvialref10_Quote.f t472.1) >>= fun t507 => (chk (((t507.size + t472.2.1.size : Nat) : Int) ≤ 9223372036854775807)) >>= fun _ => some ((t507 ++ t472.2.1).toList == a1.toList)) else (some false))) else (some false)) : Option (Bool)) >>= fun x510 => some x510))
theorem f_pluviallaw10_LabelQuotes.ok (a0 : ByteArray) (a1 : ByteArray) (r : Bool) (H : f_pluviallaw10_LabelQuotes.f a0 a1 = some r) : Pv.Fn Try.prog 3 [sV a0, sV a1] [] 0 (fun x o => x = bV r ∧ o = []) := by
  unfold f_pluviallaw10_LabelQuotes.f at H
  refine Fn.bodyK [] Try.func3 rfl rfl (fun Γ hP hn => ?_)
  have hm : Try.prog.follows .mixedOrders = true := by kernel_rfl
  replace hn : Γ.n = 79 := hn
  refine AWp.seq ?_
  refine reg hP hn hm [] [0, 1] [] ⟨[(0, sV a0), (1, sV a1)], [], 0⟩ [] (by kernel_rfl) trivial ?_
  refine AWp.seq ?_
  refine AWp.seq ?_
  obtain ⟨o511, e512, H⟩ := bind_of H
  refine AWp.mono (Q := fun e s => (match (generalizing := false) o511 with | x3 => e = .normal ∧ s = ⟨[(0, sV a0), (1, sV a1), (19, bV x3)], [], 0⟩)) (AWp.cv ?_) ?_
  · replace H := e512; clear e512
    rcases Bool.eq_false_or_eq_true (decide ((a0.size : Int) > (1000 : Int))) with c2 | c2
    · replace H := (ifT c2).symm.trans H
      refine reg hP hn hm [(3, .b true)] [0, 1, 19] [] ⟨[(0, sV a0), (1, sV a1), (19, bV true)], [], 0⟩ [(decide ((a0.size : Int) > (1000 : Int))) = true] (by kernel_rfl) ⟨by exact c2, trivial⟩ ?_
      obtain rfl := Option.some.inj H
      exact Exists.intro _ (And.intro (fun _ _ h => h.conv (inv := []) (vk := []) (e0 := []) (t := ⟨[(0, sV a0), (1, sV a1), (19, bV true)], [], 0⟩) (by kernel_rfl)) (And.intro rfl rfl))
    · replace H := (ifF c2).symm.trans H
      refine reg hP hn hm [(3, .b false)] [0, 1, 19] [] ⟨[(0, sV a0), (1, sV a1), (19, bV (decide ((a1.size : Int) > (1000 : Int))))], [], 0⟩ [(decide ((a0.size : Int) > (1000 : Int))) = false] (by kernel_rfl) ⟨by exact c2, trivial⟩ ?_
      obtain rfl := Option.some.inj H
      exact Exists.intro _ (And.intro (fun _ _ h => h.conv (inv := []) (vk := []) (e0 := []) (t := ⟨[(0, sV a0), (1, sV a1), (19, bV (decide ((a1.size : Int) > (1000 : Int))))], [], 0⟩) (by kernel_rfl)) (And.intro rfl rfl))
  · obtain ⟨x3, rfl⟩ : ∃ z, z = o511 := ⟨_, rfl⟩
    rintro e s ⟨rfl, rfl⟩
    refine AWp.cond x3 rfl (fun c4 => ?_) (fun c4 => ?_)
    · replace H := (ifT c4).symm.trans H
      refine AWp.seq ?_
      obtain ⟨t308, e309, H⟩ := bind_of H
      refine reg hP hn hm [(0, .call [] [] [] [] 0 (bV t308) [])] [4] [] ⟨[(4, bV t308)], [], 0⟩ [Enters Try.prog 11, Pv.Fn Try.prog 11 [] [] 0 (fun r o => r = bV t308 ∧ o = [])] (by kernel_rfl) ⟨by exact Try.call11, by exact f_pluviallaw10_awake.ok  t308 e309, trivial⟩ ?_
      refine AWp.conv (inv := []) (vk := []) (e0 := []) (t := ⟨[(4, bV t308)], [], 0⟩) (by kernel_rfl) ?_
      refine AWp.ret ?_
      obtain rfl := Option.some.inj H
      exact Exists.intro _ (And.intro (fun _ _ h => h) (And.intro (.inl rfl) (And.intro rfl (And.intro (by kernel_rfl) (by kernel_rfl)))))
    · replace H := (ifF c4).symm.trans H
      refine AWp.skip ?_
      refine AWp.seq ?_
      obtain ⟨t401, e402, H⟩ := bind_of H
      refine reg hP hn hm [(1, .call [] [] [] [] 0 (sV t401) [])] [0, 1, 5] [] ⟨[(0, sV a0), (1, sV a1), (5, sV t401)], [], 0⟩ [Enters Try.prog 12, Pv.Fn Try.prog 12 [sV a0] [] 0 (fun r o => r = sV t401 ∧ o = [])] (by kernel_rfl) ⟨by exact Try.call12, by exact f_label_Quote.ok a0 t401 e402, trivial⟩ ?_
      refine AWp.seq ?_
      obtain ⟨c406, H⟩ := chk_of H
      obtain ⟨t407, e408, H⟩ := bind_of H
      refine reg hP hn hm [(3, .call [] [] [] [] 0 (.tup [sV t407.1, sV t407.2.1, bV t407.2.2]) [])] [0, 1, 5, 6, 7, 8] [] ⟨[(0, sV a0), (1, sV a1), (5, sV t401), (6, sV t407.1), (7, sV t407.2.1), (8, bV t407.2.2)], [], 0⟩ [((t401.size + a1.size : Nat) : Int) ≤ 9223372036854775807, Enters Try.prog 13, Pv.Fn Try.prog 13 [sV (t401 ++ a1)] [] 0 (fun r o => r = .tup [sV t407.1, sV t407.2.1, bV t407.2.2] ∧ o = [])] (by kernel_rfl) ⟨by exact c406, by exact Try.call13, by exact f_label_Unquote.ok (t401 ++ a1) t407 e408, trivial⟩ ?_
      refine AWp.seq ?_
      refine AWp.seq ?_
      obtain ⟨o513, e514, H⟩ := bind_of H
      refine AWp.mono (Q := fun e s => (match (generalizing := false) o513 with | x468 => e = .normal ∧ s = ⟨[(1, sV a1), (48, bV x468)], [], 0⟩)) (AWp.cv ?_) ?_
      · replace H := e514; clear e514
        obtain ⟨t463, e464, H⟩ := bind_of H
        rcases Bool.eq_false_or_eq_true (!(t401.toList == t463.toList)) with c465 | c465
        · replace H := (ifT c465).symm.trans H
          refine reg hP hn hm [(2, .call [] [] [] [] 0 (sV t463) []), (4, .b true)] [1, 48] [] ⟨[(1, sV a1), (48, bV true)], [], 0⟩ [Enters Try.prog 14, Pv.Fn Try.prog 14 [sV a0] [] 0 (fun r o => r = sV t463 ∧ o = []), (!(t401.toList == t463.toList)) = true] (by kernel_rfl) ⟨by exact Try.call14, by exact f_pluvialref10_Quote.ok a0 t463 e464, by exact c465, trivial⟩ ?_
          obtain rfl := Option.some.inj H
          exact Exists.intro _ (And.intro (fun _ _ h => h.conv (inv := []) (vk := []) (e0 := []) (t := ⟨[(1, sV a1), (48, bV true)], [], 0⟩) (by kernel_rfl)) (And.intro rfl rfl))
        · replace H := (ifF c465).symm.trans H
          rcases Bool.eq_false_or_eq_true (!t407.2.2) with c466 | c466
          · replace H := (ifT c466).symm.trans H
            refine reg hP hn hm [(2, .call [] [] [] [] 0 (sV t463) []), (4, .b false), (8, .b true)] [1, 48] [] ⟨[(1, sV a1), (48, bV true)], [], 0⟩ [Enters Try.prog 14, Pv.Fn Try.prog 14 [sV a0] [] 0 (fun r o => r = sV t463 ∧ o = []), (!(t401.toList == t463.toList)) = false, (!t407.2.2) = true] (by kernel_rfl) ⟨by exact Try.call14, by exact f_pluvialref10_Quote.ok a0 t463 e464, by exact c465, by exact c466, trivial⟩ ?_
            obtain rfl := Option.some.inj H
            exact Exists.intro _ (And.intro (fun _ _ h => h.conv (inv := []) (vk := []) (e0 := []) (t := ⟨[(1, sV a1), (48, bV true)], [], 0⟩) (by kernel_rfl)) (And.intro rfl rfl))
          · replace H := (ifF c466).symm.trans H
            rcases Bool.eq_false_or_eq_true (!(t407.1.toList == a0.toList)) with c467 | c467
            · replace H := (ifT c467).symm.trans H
              refine reg hP hn hm [(2, .call [] [] [] [] 0 (sV t463) []), (4, .b false), (8, .b false), (13, .b true)] [1, 48] [] ⟨[(1, sV a1), (48, bV true)], [], 0⟩ [Enters Try.prog 14, Pv.Fn Try.prog 14 [sV a0] [] 0 (fun r o => r = sV t463 ∧ o = []), (!(t401.toList == t463.toList)) = false, (!t407.2.2) = false, (!(t407.1.toList == a0.toList)) = true] (by kernel_rfl) ⟨by exact Try.call14, by exact f_pluvialref10_Quote.ok a0 t463 e464, by exact c465, by exact c466, by exact c467, trivial⟩ ?_
              obtain rfl := Option.some.inj H
              exact Exists.intro _ (And.intro (fun _ _ h => h.conv (inv := []) (vk := []) (e0 := []) (t := ⟨[(1, sV a1), (48, bV true)], [], 0⟩) (by kernel_rfl)) (And.intro rfl rfl))
            · replace H := (ifF c467).symm.trans H
              refine reg hP hn hm [(2, .call [] [] [] [] 0 (sV t463) []), (4, .b false), (8, .b false), (13, .b false)] [1, 48] [] ⟨[(1, sV a1), (48, bV (!(t407.2.1.toList == a1.toList)))], [], 0⟩ [Enters Try.prog 14, Pv.Fn Try.prog 14 [sV a0] [] 0 (fun r o => r = sV t463 ∧ o = []), (!(t401.toList == t463.toList)) = false, (!t407.2.2) = false, (!(t407.1.toList == a0.toList)) = false] (by kernel_rfl) ⟨by exact Try.call14, by exact f_pluvialref10_Quote.ok a0 t463 e464, by exact c465, by exact c466, by exact c467, trivial⟩ ?_
              obtain rfl := Option.some.inj H
              exact Exists.intro _ (And.intro (fun _ _ h => h.conv (inv := []) (vk := []) (e0 := []) (t := ⟨[(1, sV a1), (48, bV (!(t407.2.1.toList == a1.toList)))], [], 0⟩) (by kernel_rfl)) (And.intro rfl rfl))
      · obtain ⟨x468, rfl⟩ : ∃ z, z = o513 := ⟨_, rfl⟩
        rintro e s ⟨rfl, rfl⟩
        refine AWp.cond x468 rfl (fun c469 => ?_) (fun c469 => ?_)
        · replace H := (ifT c469).symm.trans H
          refine AWp.seq ?_
          refine reg hP hn hm [] [4] [] ⟨[(4, bV false)], [], 0⟩ [] (by kernel_rfl) trivial ?_
          refine AWp.conv (inv := []) (vk := []) (e0 := []) (t := ⟨[(4, bV false)], [], 0⟩) (by kernel_rfl) ?_
          refine AWp.ret ?_
          obtain rfl := Option.some.inj H
          exact Exists.intro _ (And.intro (fun _ _ h => h) (And.intro (.inl rfl) (And.intro rfl (And.intro (by kernel_rfl) (by kernel_rfl)))))
        · replace H := (ifF c469).symm.trans H
          refine AWp.skip ?_
          refine AWp.seq ?_
          obtain ⟨t472, e473, H⟩ := bind_of H
          refine reg hP hn hm [(1, .call [] [] [] [] 0 (.tup [sV t472.1, sV t472.2.1, bV t472.2.2]) [])] [1, 9, 10, 11] [] ⟨[(1, sV a1), (9, sV t472.1), (10, sV t472.2.1), (11, bV t472.2.2)], [], 0⟩ [Enters Try.prog 13, Pv.Fn Try.prog 13 [sV a1] [] 0 (fun r o => r = .tup [sV t472.1, sV t472.2.1, bV t472.2.2] ∧ o = [])] (by kernel_rfl) ⟨by exact Try.call13, by exact f_label_Unquote.ok a1 t472 e473, trivial⟩ ?_
          refine AWp.seq ?_
          obtain ⟨o515, e516, H⟩ := bind_of H
          refine AWp.mono (Q := fun e s => (match (generalizing := false) o515 with | x510 => e = .normal ∧ s = ⟨[(4, bV x510)], [], 0⟩)) (AWp.cv ?_) ?_
          · replace H := e516; clear e516
            obtain ⟨t492, e493, H⟩ := bind_of H
            rcases Bool.eq_false_or_eq_true t492 with c494 | c494
            · replace H := (ifT c494).symm.trans H
              rcases Bool.eq_false_or_eq_true (!t472.2.2) with c495 | c495
              · replace H := (ifT c495).symm.trans H
                rcases Bool.eq_false_or_eq_true (t472.1.toList == (⟨#[]⟩ : ByteArray).toList) with c496 | c496
                · replace H := (ifT c496).symm.trans H
                  rcases Bool.eq_false_or_eq_true (t472.2.1.toList == (⟨#[]⟩ : ByteArray).toList) with c497 | c497
                  · replace H := (ifT c497).symm.trans H
                    refine reg hP hn hm [(0, .call [] [] [] [] 0 (bV t492) []), (1, .b true), (4, .b true), (8, .b true), (12, .b true)] [4] [] ⟨[(4, bV true)], [], 0⟩ [Enters Try.prog 11, Pv.Fn Try.prog 11 [] [] 0 (fun r o => r = bV t492 ∧ o = []), t492 = true, (!t472.2.2) = true, (t472.1.toList == (⟨#[]⟩ : ByteArray).toList) = true, (t472.2.1.toList == (⟨#[]⟩ : ByteArray).toList) = true] (by kernel_rfl) ⟨by exact Try.call11, by exact f_pluviallaw10_awake.ok  t492 e493, by exact c494, by exact c495, by exact c496, by exact c497, trivial⟩ ?_
                    obtain rfl := Option.some.inj H
                    exact Exists.intro _ (And.intro (fun _ _ h => h.conv (inv := []) (vk := []) (e0 := []) (t := ⟨[(4, bV true)], [], 0⟩) (by kernel_rfl)) (And.intro rfl rfl))
                  · replace H := (ifF c497).symm.trans H
                    rcases Bool.eq_false_or_eq_true t472.2.2 with c498 | c498
                    · replace H := (ifT c498).symm.trans H
                      obtain ⟨t499, e500, H⟩ := bind_of H
                      obtain ⟨c501, H⟩ := chk_of H
                      refine reg hP hn hm [(0, .call [] [] [] [] 0 (bV t492) []), (1, .b true), (4, .b true), (8, .b true), (12, .b false), (14, .b true), (16, .call [] [] [] [] 0 (sV t499) [])] [4] [] ⟨[(4, bV ((t499 ++ t472.2.1).toList == a1.toList))], [], 0⟩ [Enters Try.prog 11, Pv.Fn Try.prog 11 [] [] 0 (fun r o => r = bV t492 ∧ o = []), t492 = true, (!t472.2.2) = true, (t472.1.toList == (⟨#[]⟩ : ByteArray).toList) = true, (t472.2.1.toList == (⟨#[]⟩ : ByteArray).toList) = false, t472.2.2 = true, Enters Try.prog 14, Pv.Fn Try.prog 14 [sV t472.1] [] 0 (fun r o => r = sV t499 ∧ o = []), ((t499.size + t472.2.1.size : Nat) : Int) ≤ 9223372036854775807] (by kernel_rfl) ⟨by exact Try.call11, by exact f_pluviallaw10_awake.ok  t492 e493, by exact c494, by exact c495, by exact c496, by exact c497, by exact c498, by exact Try.call14, by exact f_pluvialref10_Quote.ok t472.1 t499 e500, by exact c501, trivial⟩ ?_
                      obtain rfl := Option.some.inj H
                      exact Exists.intro _ (And.intro (fun _ _ h => h.conv (inv := []) (vk := []) (e0 := []) (t := ⟨[(4, bV ((t499 ++ t472.2.1).toList == a1.toList))], [], 0⟩) (by kernel_rfl)) (And.intro rfl rfl))
                    · replace H := (ifF c498).symm.trans H
                      refine reg hP hn hm [(0, .call [] [] [] [] 0 (bV t492) []), (1, .b true), (4, .b true), (8, .b true), (12, .b false), (14, .b false)] [4] [] ⟨[(4, bV false)], [], 0⟩ [Enters Try.prog 11, Pv.Fn Try.prog 11 [] [] 0 (fun r o => r = bV t492 ∧ o = []), t492 = true, (!t472.2.2) = true, (t472.1.toList == (⟨#[]⟩ : ByteArray).toList) = true, (t472.2.1.toList == (⟨#[]⟩ : ByteArray).toList) = false, t472.2.2 = false] (by kernel_rfl) ⟨by exact Try.call11, by exact f_pluviallaw10_awake.ok  t492 e493, by exact c494, by exact c495, by exact c496, by exact c497, by exact c498, trivial⟩ ?_
                      obtain rfl := Option.some.inj H
                      exact Exists.intro _ (And.intro (fun _ _ h => h.conv (inv := []) (vk := []) (e0 := []) (t := ⟨[(4, bV false)], [], 0⟩) (by kernel_rfl)) (And.intro rfl rfl))
                · replace H := (ifF c496).symm.trans H
                  rcases Bool.eq_false_or_eq_true t472.2.2 with c502 | c502
                  · replace H := (ifT c502).symm.trans H
                    obtain ⟨t503, e504, H⟩ := bind_of H
                    obtain ⟨c505, H⟩ := chk_of H
                    refine reg hP hn hm [(0, .call [] [] [] [] 0 (bV t492) []), (1, .b true), (4, .b true), (8, .b false), (14, .b true), (16, .call [] [] [] [] 0 (sV t503) [])] [4] [] ⟨[(4, bV ((t503 ++ t472.2.1).toList == a1.toList))], [], 0⟩ [Enters Try.prog 11, Pv.Fn Try.prog 11 [] [] 0 (fun r o => r = bV t492 ∧ o = []), t492 = true, (!t472.2.2) = true, (t472.1.toList == (⟨#[]⟩ : ByteArray).toList) = false, t472.2.2 = true, Enters Try.prog 14, Pv.Fn Try.prog 14 [sV t472.1] [] 0 (fun r o => r = sV t503 ∧ o = []), ((t503.size + t472.2.1.size : Nat) : Int) ≤ 9223372036854775807] (by kernel_rfl) ⟨by exact Try.call11, by exact f_pluviallaw10_awake.ok  t492 e493, by exact c494, by exact c495, by exact c496, by exact c502, by exact Try.call14, by exact f_pluvialref10_Quote.ok t472.1 t503 e504, by exact c505, trivial⟩ ?_
                    obtain rfl := Option.some.inj H
                    exact Exists.intro _ (And.intro (fun _ _ h => h.conv (inv := []) (vk := []) (e0 := []) (t := ⟨[(4, bV ((t503 ++ t472.2.1).toList == a1.toList))], [], 0⟩) (by kernel_rfl)) (And.intro rfl rfl))
                  · replace H := (ifF c502).symm.trans H
                    refine reg hP hn hm [(0, .call [] [] [] [] 0 (bV t492) []), (1, .b true), (4, .b true), (8, .b false), (14, .b false)] [4] [] ⟨[(4, bV false)], [], 0⟩ [Enters Try.prog 11, Pv.Fn Try.prog 11 [] [] 0 (fun r o => r = bV t492 ∧ o = []), t492 = true, (!t472.2.2) = true, (t472.1.toList == (⟨#[]⟩ : ByteArray).toList) = false, t472.2.2 = false] (by kernel_rfl) ⟨by exact Try.call11, by exact f_pluviallaw10_awake.ok  t492 e493, by exact c494, by exact c495, by exact c496, by exact c502, trivial⟩ ?_
                    obtain rfl := Option.some.inj H
                    exact Exists.intro _ (And.intro (fun _ _ h => h.conv (inv := []) (vk := []) (e0 := []) (t := ⟨[(4, bV false)], [], 0⟩) (by kernel_rfl)) (And.intro rfl rfl))
              · replace H := (ifF c495).symm.trans H
                rcases Bool.eq_false_or_eq_true t472.2.2 with c506 | c506
                · replace H := (ifT c506).symm.trans H
                  obtain ⟨t507, e508, H⟩ := bind_of H
                  obtain ⟨c509, H⟩ := chk_of H
                  refine reg hP hn hm [(0, .call [] [] [] [] 0 (bV t492) []), (1, .b true), (4, .b false), (14, .b true), (16, .call [] [] [] [] 0 (sV t507) [])] [4] [] ⟨[(4, bV ((t507 ++ t472.2.1).toList == a1.toList))], [], 0⟩ [Enters Try.prog 11, Pv.Fn Try.prog 11 [] [] 0 (fun r o => r = bV t492 ∧ o = []), t492 = true, (!t472.2.2) = false, t472.2.2 = true, Enters Try.prog 14, Pv.Fn Try.prog 14 [sV t472.1] [] 0 (fun r o => r = sV t507 ∧ o = []), ((t507.size + t472.2.1.size : Nat) : Int) ≤ 9223372036854775807] (by kernel_rfl) ⟨by exact Try.call11, by exact f_pluviallaw10_awake.ok  t492 e493, by exact c494, by exact c495, by exact c506, by exact Try.call14, by exact f_pluvialref10_Quote.ok t472.1 t507 e508, by exact c509, trivial⟩ ?_
                  obtain rfl := Option.some.inj H
                  exact Exists.intro _ (And.intro (fun _ _ h => h.conv (inv := []) (vk := []) (e0 := []) (t := ⟨[(4, bV ((t507 ++ t472.2.1).toList == a1.toList))], [], 0⟩) (by kernel_rfl)) (And.intro rfl rfl))
                · replace H := (ifF c506).symm.trans H
                  refine reg hP hn hm [(0, .call [] [] [] [] 0 (bV t492) []), (1, .b true), (4, .b false), (14, .b false)] [4] [] ⟨[(4, bV false)], [], 0⟩ [Enters Try.prog 11, Pv.Fn Try.prog 11 [] [] 0 (fun r o => r = bV t492 ∧ o = []), t492 = true, (!t472.2.2) = false, t472.2.2 = false] (by kernel_rfl) ⟨by exact Try.call11, by exact f_pluviallaw10_awake.ok  t492 e493, by exact c494, by exact c495, by exact c506, trivial⟩ ?_
                  obtain rfl := Option.some.inj H
                  exact Exists.intro _ (And.intro (fun _ _ h => h.conv (inv := []) (vk := []) (e0 := []) (t := ⟨[(4, bV false)], [], 0⟩) (by kernel_rfl)) (And.intro rfl rfl))
            · replace H := (ifF c494).symm.trans H
              refine reg hP hn hm [(0, .call [] [] [] [] 0 (bV t492) []), (1, .b false)] [4] [] ⟨[(4, bV false)], [], 0⟩ [Enters Try.prog 11, Pv.Fn Try.prog 11 [] [] 0 (fun r o => r = bV t492 ∧ o = []), t492 = false] (by kernel_rfl) ⟨by exact Try.call11, by exact f_pluviallaw10_awake.ok  t492 e493, by exact c494, trivial⟩ ?_
              obtain rfl := Option.some.inj H
              exact Exists.intro _ (And.intro (fun _ _ h => h.conv (inv := []) (vk := []) (e0 := []) (t := ⟨[(4, bV false)], [], 0⟩) (by kernel_rfl)) (And.intro rfl rfl))
          · obtain ⟨x510, rfl⟩ : ∃ z, z = o515 := ⟨_, rfl⟩
            rintro e s ⟨rfl, rfl⟩
            refine AWp.conv (inv := []) (vk := []) (e0 := []) (t := ⟨[(4, bV x510)], [], 0⟩) (by kernel_rfl) ?_
            refine AWp.ret ?_
            obtain rfl := Option.some.inj H
            exact Exists.intro _ (And.intro (fun _ _ h => h) (And.intro (.inl rfl) (And.intro rfl (And.intro (by kernel_rfl) (by kernel_rfl)))))
end Go.Proofs.Ytjfhobijgkccdaa.PvT5
