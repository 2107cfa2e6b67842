import Derived.Laws.MakeOwn
import Derived.Lib.Builder
import Derived.Lib.UnsafeStr
import Derived.Test.YtjfhobijgkccdaaPxHistSame02
set_option linter.unusedVariables false
set_option linter.unusedSimpArgs false
namespace Go.Pv
def xMax : Ext where
  f P o s := match o.op with
    | .call { callee := .builtin .max, args := ⟨[x, y]⟩, argTypes := ts } => match s.eval x, s.eval y with
      | .im (.sc (.int k a)), .im (.sc (.int _ b)) => some ⟨[], [], .im (.sc (.int k (if b > a then b else a))), [], []⟩
      | _, _ => none
    | _ => none
  ok P o s e he hp := by
    split at he
    · rename_i x y ts ho
      split at he
      · rename_i k a k' b hx hy
        obtain rfl := Option.some.inj he
        exact ok_pure _ [(x, .int k a), (y, .int k' b)] (by simp [ho, Op.operands, Call.operands, hx, hy]) (fun ρ hρ w => by
          have h1 := hρ (x, .int k a) (by simp)
          have h2 := hρ (y, .int k' b) (by simp)
          simp only at h1 h2
          simp [execOp, ho, resolve, invoke, builtin, h1, h2, Builtin.max_, Builtin.max2])
      · simp at he
    · simp at he
def bytesOK (xs : List Int) : Prop := ∀ x ∈ xs, 0 ≤ x ∧ x < 256
instance (xs : List Int) : Decidable (bytesOK xs) := inferInstanceAs (Decidable (∀ x ∈ xs, 0 ≤ x ∧ x < 256))
end Go.Pv
