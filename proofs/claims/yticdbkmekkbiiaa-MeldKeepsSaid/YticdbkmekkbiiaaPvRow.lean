import Derived.Test.YticdbkmekkbiiaaPvPtr
set_option linter.unusedVariables false
set_option linter.unusedSimpArgs false
/-! From a function's specification to a law's call. -/
open Go.RowKit
namespace Go.Pv

theorem Fn.law {P : Program} {f : FuncId} {args : List AVal} {vs : List Value} {w : World} (h : Fn P f args [] 0 (fun x o => x = bV true ∧ o = []))
    (hl : vs.length = args.length) (hreps : ∀ j (h : j < args.length) (h' : j < vs.length), Rep w (fun b => b < w.heap.size) (fun _ => none) (args[j]) (vs[j])) :
    Calls P f vs.toArray w fun e w' => e = .returned (.bool true) ∧ Below w.heap.size w w' := by
  have hinv : Inv (entryCtx P 0 (fun _ => none) (fun b => b < w.heap.size) ⟨[], [], 0⟩ w) (fun _ => none) (fun b => b < w.heap.size) ⟨[], [], 0⟩ w := by
    refine ⟨?_, ?_, ?_, fun b h => h, Keeps.refl _ _, fun _ h => h, fun b h => .inl h, ?_, fun _ _ => rfl⟩
    · intro k o h; simp [AState.obj, look] at h
    · intro k k' o o' ki ki' h; simp [AState.obj, look] at h
    · intro k o ki h; simp [AState.obj, look] at h
    · intro k o ki h; simp [AState.obj, look] at h
  refine (h (fun _ => none) (fun b => b < w.heap.size) w vs hl hreps hinv).mono ?_
  rintro e w' ⟨v, r, o, κ', I', rfl, ⟨rfl, rfl⟩, hr, hi⟩
  refine ⟨by rw [hr.sc_inv], ?_⟩
  have hM : ∀ b, b < w.heap.size → w'.heap[b]? = w.heap[b]? := fun b hb => hi.keep.block b hb (fun hm => by
    obtain ⟨k, o, ki, h1, _⟩ := hm
    simp [AState.obj, look] at h1)
  exact ⟨hi.keep.os, hi.keep.tape, hi.keep.output, hi.keep.size, hM⟩

end Go.Pv
