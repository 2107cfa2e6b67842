import Derived.Test.YteogljahemehkaaPxTombLays13
set_option linter.unusedVariables false
set_option linter.unusedSimpArgs false
namespace Go.Proofs.Yteogljahemehkaa.PvGC1
open Go Go.Pv Go.Pv.GS
abbrev RightR (r : Ttomb_Range) : Prop := 0 ≤ r.f0 ∧ r.f0 ≤ r.f1 ∧ r.f1 ≤ 1099511627776
def HasL (l : List Ttomb_Range) (t : Int) : Prop := ∃ r ∈ l, RightR r ∧ r.f0 ≤ t ∧ t ≤ r.f1
structure Apart (l : List Ttomb_Range) : Prop where
  right : ∀ r ∈ l, RightR r
  gap : l.Pairwise (fun a b => a.f1 + 1 < b.f0)
theorem hasL_nil (t : Int) : ¬ HasL [] t := by rintro ⟨r, h, _⟩; simp at h
theorem hasL_cons (r : Ttomb_Range) (l : List Ttomb_Range) (t : Int) : HasL (r :: l) t ↔ (RightR r ∧ r.f0 ≤ t ∧ t ≤ r.f1) ∨ HasL l t := by
  unfold HasL; simp
theorem hasL_append (a b : List Ttomb_Range) (t : Int) : HasL (a ++ b) t ↔ HasL a t ∨ HasL b t := by
  induction a with
  | nil => simp [hasL_nil]
  | cons x a ih => rw [List.cons_append, hasL_cons, hasL_cons, ih, or_assoc]
theorem hasL_perm {a b : List Ttomb_Range} (h : a.Perm b) (t : Int) : HasL a t ↔ HasL b t := by
  unfold HasL
  constructor
  · rintro ⟨r, hr, x⟩; exact ⟨r, h.mem_iff.1 hr, x⟩
  · rintro ⟨r, hr, x⟩; exact ⟨r, h.mem_iff.2 hr, x⟩
theorem hasL_filter (l : List Ttomb_Range) (t : Int) (p : Ttomb_Range → Bool) (hp : ∀ r, RightR r → p r = true) : HasL (l.filter p) t ↔ HasL l t := by
  unfold HasL
  constructor
  · rintro ⟨r, hr, x⟩; exact ⟨r, (List.mem_filter.1 hr).1, x⟩
  · rintro ⟨r, hr, x⟩; exact ⟨r, List.mem_filter.2 ⟨hr, hp r x.1⟩, x⟩
theorem Apart.nil : Apart [] := ⟨by simp, List.Pairwise.nil⟩
theorem Apart.tail {x : Ttomb_Range} {l : List Ttomb_Range} (h : Apart (x :: l)) : Apart l := ⟨fun r hr => h.right r (by simp [hr]), (List.pairwise_cons.1 h.gap).2⟩
theorem Apart.above {x : Ttomb_Range} {l : List Ttomb_Range} (h : Apart (x :: l)) {t : Int} (ht : HasL l t) : x.f1 + 1 < t := by
  obtain ⟨r, hr, _, h1, _⟩ := ht
  have := (List.pairwise_cons.1 h.gap).1 r hr
  omega
theorem Apart.head {x : Ttomb_Range} {l : List Ttomb_Range} (h : Apart (x :: l)) : RightR x := h.right x (by simp)
theorem apart_unique : ∀ {a b : List Ttomb_Range}, Apart a → Apart b → (∀ t, HasL a t ↔ HasL b t) → a = b
  | [], [], _, _, _ => rfl
  | [], y :: b, _, hb, h => absurd ((h y.f0).2 ((hasL_cons ..).2 (.inl ⟨hb.head, by omega, hb.head.2.1⟩))) (hasL_nil _)
  | x :: a, [], ha, _, h => absurd ((h x.f0).1 ((hasL_cons ..).2 (.inl ⟨ha.head, by omega, ha.head.2.1⟩))) (hasL_nil _)
  | x :: a, y :: b, ha, hb, h => by
    have rx := ha.head
    have ry := hb.head
    have k : ∀ t, (x.f0 ≤ t ∧ t ≤ x.f1) ∨ HasL a t ↔ (y.f0 ≤ t ∧ t ≤ y.f1) ∨ HasL b t := fun t => by
      have := h t
      rw [hasL_cons, hasL_cons] at this
      constructor
      · intro q
        rcases this.1 (q.imp (fun q => ⟨rx, q⟩) id) with q | q
        · exact .inl q.2
        · exact .inr q
      · intro q
        rcases this.2 (q.imp (fun q => ⟨ry, q⟩) id) with q | q
        · exact .inl q.2
        · exact .inr q
    have e0 : x.f0 = y.f0 := by
      have h1 : y.f0 ≤ x.f0 := by
        rcases (k x.f0).1 (.inl ⟨by omega, rx.2.1⟩) with q | q
        · exact q.1
        · have := hb.above q; have := ry.2.1; omega
      have h2 : x.f0 ≤ y.f0 := by
        rcases (k y.f0).2 (.inl ⟨by omega, ry.2.1⟩) with q | q
        · exact q.1
        · have := ha.above q; have := rx.2.1; omega
      omega
    have e1 : x.f1 = y.f1 := by
      have h1 : ¬ x.f1 < y.f1 := fun hlt => by
        rcases (k (x.f1 + 1)).2 (.inl ⟨by have := rx.2.1; omega, by omega⟩) with q | q
        · omega
        · have := ha.above q; omega
      have h2 : ¬ y.f1 < x.f1 := fun hlt => by
        rcases (k (y.f1 + 1)).1 (.inl ⟨by have := ry.2.1; omega, by omega⟩) with q | q
        · omega
        · have := hb.above q; omega
      omega
    have e : x = y := by cases x; cases y; simp_all
    subst e
    rw [apart_unique ha.tail hb.tail (fun t => by
      constructor
      · intro q
        rcases (k t).1 (.inr q) with p | p
        · have := ha.above q; omega
        · exact p
      · intro q
        rcases (k t).2 (.inr q) with p | p
        · have := hb.above q; omega
        · exact p)]
theorem apart_concat {l : List Ttomb_Range} {x : Ttomb_Range} (h : Apart (l ++ [x])) : Apart l ∧ RightR x ∧ ∀ r ∈ l, r.f1 + 1 < x.f0 := by
  have g := List.pairwise_append.1 h.gap
  exact ⟨⟨fun r hr => h.right r (by simp [hr]), g.1⟩, h.right x (by simp), fun r hr => g.2.2 r hr x (by simp)⟩
theorem apart_snoc {l : List Ttomb_Range} {x : Ttomb_Range} (h : Apart l) (hx : RightR x) (hg : ∀ r ∈ l, r.f1 + 1 < x.f0) : Apart (l ++ [x]) :=
  ⟨fun r hr => by rcases List.mem_append.1 hr with hr | hr; exact h.right r hr; simp at hr; rw [hr]; exact hx,
   List.pairwise_append.2 ⟨h.gap, List.pairwise_singleton _ _, fun a ha b hb => by simp at hb; rw [hb]; exact hg a ha⟩⟩
def rLt (a b : Ttomb_Range) : Bool := decide (a.f0 < b.f0) || (decide (a.f0 = b.f0) && decide (a.f1 < b.f1))
theorem rLt_swo : SWO rLt := ⟨fun a b h => by simp [rLt] at *; omega, fun a b c h1 h2 => by simp [rLt] at *; omega⟩
end Go.Proofs.Yteogljahemehkaa.PvGC1
set_option linter.unusedVariables false
set_option linter.unusedSimpArgs false
namespace Go.Proofs.Yteogljahemehkaa.PvGC1
open Go Go.Pv Go.Pv.GS
def tot : List TBucket → Int → Int
  | [], _ => 0
  | b :: l, i => (if b.f0 = i then b.f1 else 0) + tot l i
structure Canon (l : List TBucket) : Prop where
  up : l.Pairwise (fun a b => a.f0 < b.f0)
  pos : ∀ b ∈ l, 0 < b.f1
theorem Canon.tail {x : TBucket} {l : List TBucket} (h : Canon (x :: l)) : Canon l := ⟨(List.pairwise_cons.1 h.up).2, fun b hb => h.pos b (by simp [hb])⟩
theorem snoc_at {α : Type} (l : List α) (x : α) (h : l.length < 1000000000000) : at? (l ++ [x]) (IntKind.i64.wrap (((l ++ [x]).length : Int) - 1)) = some x := by
  rw [List.length_append, List.length_singleton, wrap64 (by omega) (by omega)]
  exact at_mid (pre := l) (suf := []) rfl (by omega)
theorem snoc_set {α : Type} (l : List α) (x y : α) (h : l.length < 1000000000000) : (l ++ [x]).set (Int.toNat (IntKind.i64.wrap (((l ++ [x]).length : Int) - 1))) y = l ++ [y] := by
  rw [List.length_append, List.length_singleton, wrap64 (by omega) (by omega), show (((l.length + 1 : Nat) : Int) - 1).toNat = l.length by omega]
  simp
structure TidyI (pre out : List TBucket) : Prop where
  canon : Canon out
  seen : ∀ o ∈ out, ∃ p ∈ pre, p.f0 = o.f0
  tots : ∀ i, tot out i = tot pre i
  u64 : ∀ o ∈ out, U64 o.f1
  len : out.length ≤ pre.length
end Go.Proofs.Yteogljahemehkaa.PvGC1
