import Derived.Test.YticdbkmekkbiiaaPvRead
import Derived.WideShapes
import Derived.ChangeShapes
import Derived.RowKit
set_option linter.unusedVariables false
set_option linter.unusedSimpArgs false
/-! A law's arguments, opened. -/
namespace Go.Pv
open Go.WideShapes Go.ChangeShapes Go.RowKit

def aggT (P : Program) (t : TypeId) : Bool := match P.underlying t with
  | some (.struct _) => true
  | _ => false
def argA : Bool → List Im → AVal
  | true, ims => .agg (ims.map .im)
  | false, x :: _ => .im x
  | false, [] => .top

theorem arg_one {w : World} {κ : Nat → Option KI} {ims : List Im} {v : Value} (hc : v.cells = #[v]) (h1 : ims.length = v.cells.toList.length)
    (h2 : ∀ j (h : j < ims.length) (h' : j < v.cells.toList.length), IRep w (IH w) (ims[j]) (v.cells.toList[j])) : Rep w (IH w) κ (argA false ims) v := by
  rw [hc] at h1
  obtain ⟨x, rfl⟩ : ∃ x, ims = [x] := List.length_eq_one_iff.1 h1
  have := h2 0 (by simp) (by rw [hc]; simp)
  simp only [hc] at this
  exact .im this

theorem arg_open {H : Type} {enc : TypeId × Value → H} {P : Program} {W : World} {sp : Nat → Bool} {r : Reach} {base : Nat} {t : TypeId} {v : Value} {d : DataW H} {ps : List MemPlace} {b : Bool} (n : Nat)
    (hv : Value.okWide P W r base t v) (hg : goodT P n t = true) (hb : aggT P t = b) (hd : DataW.Trod enc P W 0 sp true t v d ps) (κ : Nat → Option KI) :
    ∃ ims, Rep W (IH W) κ (argA b ims) v ∧ Shaped P n t ims := by
  obtain ⟨fuel, hf⟩ := hd
  obtain ⟨ims, h1, h2, h3⟩ := read n t hg fuel _ _ hf
  refine ⟨ims, ?_, h3⟩
  cases n with
  | zero => simp [goodT] at hg
  | succ n =>
    unfold goodT at hg
    unfold aggT at hb
    split at hg
    · rename_i hu
      rw [hu] at hb; subst hb
      obtain ⟨x, rfl⟩ := okWide_bool hu hv
      exact arg_one rfl h1 h2
    · rename_i k hu
      rw [hu] at hb; subst hb
      obtain ⟨x, rfl⟩ := okWide_int hu hv
      exact arg_one rfl h1 h2
    · rename_i hu
      rw [hu] at hb; subst hb
      obtain ⟨x, rfl⟩ : ∃ x, v = .string x := by
        simp only [Value.okWide, hu, Cell.okWide] at hv
        cases v <;> simp_all [Cell.ok]
      exact arg_one rfl h1 h2
    · rename_i e hu
      rw [hu] at hb; subst hb
      obtain ⟨a, len, cap, rfl⟩ := okWide_slice hu hv
      exact arg_one rfl h1 h2
    · rename_i fs hu
      rw [hu] at hb; subst hb
      obtain ⟨cs, rfl, _⟩ := okWide_struct hu hv
      show Rep W (IH W) κ (.agg (ims.map .im)) _
      have := Rep.agg (w := W) (I := IH W) (κ := κ) (cells := ims.map .im) (vs := cs.toList) (by simpa [Value.cells] using h1.symm) (fun j h h' => by
        rw [List.getElem_map]
        exact .im (h2 j (by simpa using h) (by simpa [Value.cells] using h')))
      simpa using this
    · simp at hg

/-- Cells of the type are a value's. -/
def Opn (P : Program) (t : TypeId) {α : Type} (enc : α → List Im) (R : α → Prop) : Prop := ∀ n ims, Shaped P n t ims → ∃ x, ims = enc x ∧ R x

section
variable {P : Program} {t : TypeId}
theorem opn_bool (h : P.underlying t = some .bool) : Opn P t encBool (fun _ => True) := by
  intro n ims hs
  cases n with
  | zero => exact absurd hs (by simp [Shaped])
  | succ n => unfold Shaped at hs; rw [h] at hs; obtain ⟨b, rfl⟩ := hs; exact ⟨b, rfl, trivial⟩
theorem opn_int {k : IntKind} (R : Int → Prop) (hR : ∀ m, (Lit.int k m).wf = true → R m) (h : P.underlying t = some (.int k)) : Opn P t (encInt k) R := by
  intro n ims hs
  cases n with
  | zero => exact absurd hs (by simp [Shaped])
  | succ n => unfold Shaped at hs; rw [h] at hs; obtain ⟨b, rfl, hw⟩ := hs; exact ⟨b, rfl, hR b hw⟩
theorem opn_str (h : P.underlying t = some .string) : Opn P t encStr (fun s => s.size ≤ maxLen) := by
  intro n ims hs
  cases n with
  | zero => exact absurd hs (by simp [Shaped])
  | succ n => unfold Shaped at hs; rw [h] at hs; obtain ⟨b, rfl, hw⟩ := hs; exact ⟨b, rfl, hw⟩
theorem opn_list {α : Type} {S : List Im → Prop} {enc : α → List Im} {R : α → Prop} (h : ∀ c, S c → ∃ x, c = enc x ∧ R x) : ∀ es : List (List Im), (∀ c ∈ es, S c) → ∃ xs : List α, es = xs.map enc ∧ ∀ x ∈ xs, R x
  | [], _ => ⟨[], rfl, by simp⟩
  | c :: es, hs => by
    obtain ⟨x, rfl, hx⟩ := h c (hs c (by simp))
    obtain ⟨xs, rfl, hxs⟩ := opn_list h es (fun c hc => hs c (by simp [hc]))
    exact ⟨x :: xs, rfl, by simpa using ⟨hx, hxs⟩⟩
theorem opn_slice {e : TypeId} {α : Type} {enc : α → List Im} {R : α → Prop} (he : Opn P e enc R) (h : P.underlying t = some (.slice e)) : Opn P t (encRow enc) (fun xs => xs.length ≤ maxLen ∧ ∀ x ∈ xs, R x) := by
  intro n ims hs
  cases n with
  | zero => exact absurd hs (by simp [Shaped])
  | succ n =>
    unfold Shaped at hs; rw [h] at hs
    obtain ⟨es, rfl, hl, hes⟩ := hs
    obtain ⟨xs, rfl, hxs⟩ := opn_list (he n) es hes
    exact ⟨xs, rfl, by simpa using hl, hxs⟩
theorem opn_struct {n : Nat} {ims : List Im} {fs : Array Field} (hs : Shaped P n t ims) (h : P.underlying t = some (.struct fs)) : ∃ m, shFs (Shaped P m) fs.toList ims := by
  cases n with
  | zero => exact absurd hs (by simp [Shaped])
  | succ n => unfold Shaped at hs; rw [h] at hs; exact ⟨n, hs⟩
end

theorem wf_i64 (m : Int) (h : (Lit.int .i64 m).wf = true) : I64 m := by simp [Lit.wf, IntKind.min, IntKind.max, IntKind.signed, IntKind.bits] at h; constructor <;> omega
theorem wf_u64 (m : Int) (h : (Lit.int .u64 m).wf = true) : U64 m := by simp [Lit.wf, IntKind.min, IntKind.max, IntKind.signed, IntKind.bits] at h; constructor <;> omega
theorem wf_i32 (m : Int) (h : (Lit.int .i32 m).wf = true) : Rng (-2147483648) 2147483648 m := by simp [Lit.wf, IntKind.min, IntKind.max, IntKind.signed, IntKind.bits] at h; constructor <;> omega
theorem wf_u32 (m : Int) (h : (Lit.int .u32 m).wf = true) : Rng 0 4294967296 m := by simp [Lit.wf, IntKind.min, IntKind.max, IntKind.signed, IntKind.bits] at h; constructor <;> omega
theorem wf_i16 (m : Int) (h : (Lit.int .i16 m).wf = true) : Rng (-32768) 32768 m := by simp [Lit.wf, IntKind.min, IntKind.max, IntKind.signed, IntKind.bits] at h; constructor <;> omega
theorem wf_u16 (m : Int) (h : (Lit.int .u16 m).wf = true) : Rng 0 65536 m := by simp [Lit.wf, IntKind.min, IntKind.max, IntKind.signed, IntKind.bits] at h; constructor <;> omega
theorem wf_i8 (m : Int) (h : (Lit.int .i8 m).wf = true) : Rng (-128) 128 m := by simp [Lit.wf, IntKind.min, IntKind.max, IntKind.signed, IntKind.bits] at h; constructor <;> omega
theorem wf_u8 (m : Int) (h : (Lit.int .u8 m).wf = true) : Rng 0 256 m := by simp [Lit.wf, IntKind.min, IntKind.max, IntKind.signed, IntKind.bits] at h; constructor <;> omega
end Go.Pv
