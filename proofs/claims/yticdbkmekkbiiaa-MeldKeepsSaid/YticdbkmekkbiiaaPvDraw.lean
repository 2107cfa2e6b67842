import Derived.Test.YticdbkmekkbiiaaPvRegion
set_option linter.unusedVariables false
set_option linter.unusedSimpArgs false
/-! Regions whose order is open: what is unordered is independent, so every order comes to the same. -/
namespace Go.Pv

theorem AState.obj_objput (s : AState) (l : List (Nat × Option MObj)) (k : Nat) : (s.objput l).obj k = (look l k).getD (s.obj k) := by
  simp only [AState.obj, AState.objput, look_append]
  cases look l k <;> simp

def keysOf {α : Type} (l : List (Nat × α)) : List Nat := l.map (·.1)
def isIn (x : Nat) : List Nat → Bool
  | [] => false
  | y :: r => Nat.beq x y || isIn x r
def apart : List Nat → List Nat → Bool
  | [], _ => true
  | x :: l, r => !(isIn x r) && apart l r

theorem isIn_iff {x : Nat} {l : List Nat} : isIn x l = true ↔ x ∈ l := by
  induction l with
  | nil => simp [isIn]
  | cons y r ih => simp [isIn, ih]
theorem apart_iff {l r : List Nat} : apart l r = true ↔ ∀ x ∈ l, x ∉ r := by
  induction l with
  | nil => simp [apart]
  | cons y l ih =>
    have : (isIn y r = false) ↔ y ∉ r := by rw [← isIn_iff]; simp
    simp [apart, ih, this]

def Item.gslot (ops : Array Oper) (it : Item) : List Nat :=
  match it.1.guard with
  | none => []
  | some (j, _) => match (ops[j]?).bind (·.dst) with
    | some d => [d]
    | none => []
def Item.reads (ops : Array Oper) (it : Item) : List Nat :=
  it.gslot ops ++ match it.2 with
    | .skip => []
    | .run sp => keysOf sp.vals
def Item.pre (it : Item) : List Nat := match it.2 with
  | .skip => []
  | .run sp => keysOf sp.pre
def Item.post (it : Item) : List Nat := match it.2 with
  | .skip => []
  | .run sp => keysOf sp.post
def Item.knows (it : Item) (k : Nat) : Bool := match it.2 with
  | .skip => false
  | .run sp => sp.res.has k || isIn k (keysOf sp.post) || sp.post.any fun p => match p.2 with
    | some o => o.has k
    | none => false

def Item.indep (ops : Array Oper) (x y : Item) : Bool :=
  apart x.1.dst.toList (y.reads ops) && apart y.1.dst.toList (x.reads ops) && apart x.1.dst.toList y.1.dst.toList &&
  apart x.post y.pre && apart x.post y.post && apart y.post x.pre && x.news.all fun k => !(y.knows k)

theorem apart_symm {l r : List Nat} (h : apart l r = true) : apart r l = true := by
  rw [apart_iff] at h ⊢
  exact fun x hx hl => h x hl hx

theorem get_step (it : Item) (s : AState) (x : Nat) (h : x ∉ it.1.dst.toList) : (it.step s).get x = s.get x := by
  obtain ⟨o, m⟩ := it
  have key : ∀ (t : AState) (v : AVal), (t.put o.dst v).get x = t.get x := by
    intro t v
    cases hd : o.dst with
    | none => rfl
    | some d => rw [AState.get_put, if_neg (fun e => h (by simp [hd, e]))]
  cases m with
  | skip => exact key s _
  | run sp => exact (key _ _).trans (AState.get_objput ..)

theorem look_none {α : Type} {l : List (Nat × α)} {k : Nat} (h : k ∉ keysOf l) : look l k = none := by
  induction l with
  | nil => rfl
  | cons p l ih =>
    obtain ⟨i, v⟩ := p
    simp only [keysOf, List.map_cons, List.mem_cons, not_or] at h
    rw [look_cons, if_neg (fun e => h.1 e.symm)]
    exact ih h.2

theorem obj_step (it : Item) (s : AState) (k : Nat) (h : k ∉ it.post) : (it.step s).obj k = s.obj k := by
  obtain ⟨o, m⟩ := it
  cases m with
  | skip => exact AState.obj_put ..
  | run sp =>
    show ((s.objput sp.post).put o.dst sp.res).obj k = _
    rw [AState.obj_put, AState.obj_objput, look_none h]; rfl

theorem Item.valid_step {P : Program} {ops : Array Oper} {x y : Item} {s : AState} (hr : apart x.1.dst.toList (y.reads ops) = true) (hp : apart x.post y.pre = true) :
    y.valid P ops (x.step s) ↔ y.valid P ops s := by
  rw [apart_iff] at hr hp
  have hg : ∀ go, goes ops y.1 (x.step s) go ↔ goes ops y.1 s go := by
    intro go
    unfold goes
    cases hgd : y.1.guard with
    | none => rfl
    | some p =>
      obtain ⟨j, want⟩ := p
      refine exists_congr fun d => exists_congr fun b => and_congr_right fun hd => ?_
      rw [get_step x s d (fun hm => hr d hm (by simp [Item.reads, Item.gslot, hgd, hd]))]
  obtain ⟨o, m⟩ := y
  cases m with
  | skip => exact hg false
  | run sp =>
    refine and_congr (hg true) (and_congr ?_ Iff.rfl)
    refine and_congr (forall_congr' fun p => imp_congr_right fun hm => ?_) (forall_congr' fun p => imp_congr_right fun hm => ?_)
    · rw [get_step x s p.1 (fun h => hr p.1 h (by simp only [Item.reads, List.mem_append]; exact .inr (List.mem_map.2 ⟨p, hm, rfl⟩)))]
    · rw [obj_step x s p.1 (fun h => hp p.1 h (List.mem_map.2 ⟨p, hm, rfl⟩))]

theorem Item.valid_eqv {P : Program} {ops : Array Oper} {y : Item} {s t : AState} (e : s.Eqv t) : y.valid P ops s ↔ y.valid P ops t := by
  have hg : ∀ go, goes ops y.1 s go ↔ goes ops y.1 t go := by
    intro go
    unfold goes
    cases y.1.guard with
    | none => rfl
    | some p => simp only [e.1]
  obtain ⟨o, m⟩ := y
  cases m with
  | skip => exact hg false
  | run sp => exact and_congr (hg true) (and_congr (by simp only [Sp.needs, e.1, e.2.1]) Iff.rfl)

theorem AState.Eqv.refl (s : AState) : s.Eqv s := ⟨fun _ => rfl, fun _ => rfl, rfl⟩
theorem AState.Eqv.symm {s t : AState} (e : s.Eqv t) : t.Eqv s := ⟨fun x => (e.1 x).symm, fun k => (e.2.1 k).symm, e.2.2.symm⟩
theorem AState.Eqv.trans {s t u : AState} (e : s.Eqv t) (f : t.Eqv u) : s.Eqv u := ⟨fun x => (e.1 x).trans (f.1 x), fun k => (e.2.1 k).trans (f.2.1 k), e.2.2.trans f.2.2⟩
theorem AState.Eqv.put {s t : AState} (e : s.Eqv t) (d : Option Nat) (v : AVal) : (s.put d v).Eqv (t.put d v) := by
  refine ⟨fun x => ?_, fun k => by rw [AState.obj_put, AState.obj_put]; exact e.2.1 k, by cases d <;> exact e.2.2⟩
  cases d with
  | none => exact e.1 x
  | some d => rw [AState.get_put, AState.get_put, e.1]
theorem AState.Eqv.objput {s t : AState} (e : s.Eqv t) (l : List (Nat × Option MObj)) : (s.objput l).Eqv (t.objput l) :=
  ⟨e.1, fun k => by rw [AState.obj_objput, AState.obj_objput, e.2.1], e.2.2⟩
theorem Item.step_eqv {it : Item} {s t : AState} (e : s.Eqv t) : (it.step s).Eqv (it.step t) := by
  obtain ⟨o, m⟩ := it
  cases m with
  | skip => exact e.put _ _
  | run sp => exact (e.objput _).put _ _
theorem stepAll_eqv {l : List Item} : ∀ {s t : AState}, s.Eqv t → (stepAll l s).Eqv (stepAll l t) := by
  induction l with
  | nil => exact fun e => e
  | cons it r ih => exact fun e => ih (Item.step_eqv e)

def valid0 (P : Program) (ops : Array Oper) : List Item → AState → Prop
  | [], _ => True
  | it :: r, s => it.valid P ops s ∧ valid0 P ops r (it.step s)
theorem valid0_eqv {P : Program} {ops : Array Oper} {l : List Item} : ∀ {s t : AState}, s.Eqv t → valid0 P ops l s → valid0 P ops l t := by
  induction l with
  | nil => exact fun _ _ => trivial
  | cons it r ih => exact fun e h => ⟨(Item.valid_eqv e).1 h.1, ih (Item.step_eqv e) h.2⟩
theorem valid0_of {P : Program} {ops : Array Oper} {l : List Item} : ∀ {s : AState}, validAll P ops l s → valid0 P ops l s := by
  induction l with
  | nil => exact fun _ => trivial
  | cons it r ih => exact fun h => ⟨h.1, ih h.2.2⟩

theorem obj_run (o : Oper) (sp : Sp) (s : AState) (k : Nat) : (Item.step (o, .run sp) s).obj k = (look sp.post k).getD (s.obj k) := by
  show ((s.objput sp.post).put o.dst sp.res).obj k = _
  rw [AState.obj_put, AState.obj_objput]

theorem step_comm {ops : Array Oper} {x y : Item} (h : x.indep ops y = true) (s : AState) : (y.step (x.step s)).Eqv (x.step (y.step s)) := by
  simp only [Item.indep, Bool.and_eq_true] at h
  obtain ⟨⟨⟨⟨⟨⟨h1, h2⟩, h3⟩, h4⟩, h5⟩, h6⟩, h7⟩ := h
  rw [apart_iff] at h3 h5
  have hfl : ∀ (it : Item) (s : AState), (it.step s).floor = s.floor := by
    intro it s
    obtain ⟨o, m⟩ := it
    cases m <;> (simp only [Item.step, Sp.act]; cases o.dst <;> rfl)
  refine ⟨?_, ?_, by rw [hfl, hfl, hfl, hfl]⟩
  · intro z
    by_cases hy : z ∈ y.1.dst.toList
    · have hx : z ∉ x.1.dst.toList := fun hx => h3 z hx hy
      rw [get_step x _ z hx]
      obtain ⟨o, m⟩ := y
      have hd : o.dst = some z := by simpa using hy
      cases m with
      | skip => simp only [Item.step, hd, AState.get_put]; simp
      | run sp => simp only [Item.step, Sp.act, hd, AState.get_put]; simp
    · rw [get_step y _ z hy]
      by_cases hx : z ∈ x.1.dst.toList
      · obtain ⟨o, m⟩ := x
        have hd : o.dst = some z := by simpa using hx
        cases m with
        | skip => simp only [Item.step, hd, AState.get_put]; simp
        | run sp => simp only [Item.step, Sp.act, hd, AState.get_put]; simp
      · rw [get_step x _ z hx, get_step x _ z hx, get_step y _ z hy]
  · intro k
    by_cases hy : k ∈ y.post
    · have hx : k ∉ x.post := fun hx => h5 k hx hy
      rw [obj_step x _ k hx]
      obtain ⟨o, m⟩ := y
      cases m with
      | skip => simp [Item.post] at hy
      | run sp =>
        simp only [Item.step, Sp.act, AState.obj_put, AState.obj_objput]
        have : ∃ v, look sp.post k = some v := by
          have hm : k ∈ keysOf sp.post := hy
          generalize sp.post = l at hm
          induction l with
          | nil => simp [keysOf] at hm
          | cons p l ih =>
            obtain ⟨i, v⟩ := p
            rw [look_cons]
            by_cases e : i = k
            · exact ⟨v, by rw [if_pos e]⟩
            · rw [if_neg e]
              refine ih ?_
              simp only [keysOf, List.map_cons, List.mem_cons] at hm
              exact hm.resolve_left (fun e' => e e'.symm)
        obtain ⟨v, hv⟩ := this
        rw [hv]; rfl
    · rw [obj_step y _ k hy]
      by_cases hx : k ∈ x.post
      · obtain ⟨o, m⟩ := x
        cases m with
        | skip => simp [Item.post] at hx
        | run sp => rw [obj_run, obj_run, obj_step y _ k hy]
      · rw [obj_step x _ k hx, obj_step x _ k hx, obj_step y _ k hy]

theorem to_front {P : Program} {ops : Array Oper} {x : Item} {post : List Item} : ∀ (pre : List Item) (s : AState), (∀ y ∈ pre, y.indep ops x = true) → valid0 P ops (pre ++ x :: post) s →
    x.valid P ops s ∧ valid0 P ops (pre ++ post) (x.step s) ∧ (stepAll (pre ++ x :: post) s).Eqv (stepAll (pre ++ post) (x.step s)) := by
  intro pre
  induction pre with
  | nil => exact fun s _ h => ⟨h.1, h.2, AState.Eqv.refl _⟩
  | cons y pre ih =>
    intro s hi hv
    obtain ⟨h1, h2, h3⟩ := ih (y.step s) (fun z hz => hi z (by simp [hz])) hv.2
    have hyx := hi y (by simp)
    have hyx' := hyx
    simp only [Item.indep, Bool.and_eq_true] at hyx
    obtain ⟨⟨⟨⟨⟨⟨g1, g2⟩, g3⟩, g4⟩, g5⟩, g6⟩, g7⟩ := hyx
    have hc := step_comm hyx' s
    refine ⟨(Item.valid_step g1 g4).1 h1, ⟨(Item.valid_step g2 g6).2 hv.1, valid0_eqv hc h2⟩, ?_⟩
    exact h3.trans (stepAll_eqv hc)


/-! ### Every order -/
def maskOf (acc : List Nat) (o : Oper) : Nat :=
  o.after.toList.foldl (fun m e => if Region.binds .any e then m ||| 2 ^ e.on ||| acc.getD e.on 0 else m) 0
def masks : List Oper → List Nat → List Nat
  | [], acc => acc
  | o :: r, acc => masks r (acc ++ [maskOf acc o])

/-- Each item behind 'done': its edges lead back; it is independent of what it isn't ordered with; nobody ahead knows its keys. -/
def okFrom (ops : Array Oper) (ms : List Nat) : List Item → List Item → Bool
  | _, [] => true
  | done, x :: r =>
    x.1.after.toList.all (fun e => !(Region.binds .any e) || Nat.blt e.on done.length) &&
    okPairs ms done.length x 0 done && okFrom ops ms (done ++ [x]) r
where
  okPairs (ms : List Nat) (i : Nat) (x : Item) : Nat → List Item → Bool
  | _, [] => true
  | j, y :: r => (x.news.all fun k => !(y.knows k)) && ((ms.getD i 0).testBit j || y.indep ops x) && okPairs ms i x (j + 1) r

theorem okPairs_get {ops : Array Oper} {ms : List Nat} {i : Nat} {x : Item} : ∀ {l : List Item} {j : Nat}, okFrom.okPairs ops ms i x j l = true → ∀ m (h : m < l.length),
    (x.news.all fun k => !((l[m]).knows k)) = true ∧ ((ms.getD i 0).testBit (j + m) = true ∨ (l[m]).indep ops x = true) := by
  intro l
  induction l with
  | nil => intro j _ m h; simp at h
  | cons y r ih =>
    intro j hk m h
    simp only [okFrom.okPairs, Bool.and_eq_true, Bool.or_eq_true] at hk
    cases m with
    | zero => exact hk.1
    | succ m =>
      have := ih hk.2 m (by simpa using h)
      rw [show j + 1 + m = j + (m + 1) from by omega] at this
      exact this

theorem okFrom_get {ops : Array Oper} {ms : List Nat} : ∀ {l done : List Item}, okFrom ops ms done l = true → ∀ i (h : i < l.length),
    (∀ e ∈ (l[i]).1.after.toList, Region.binds .any e = true → e.on < done.length + i) ∧
    ∀ j (hj : j < done.length + i), ((l[i]).news.all fun k => !(((done ++ l)[j]'(by simp; omega)).knows k)) = true ∧
      ((ms.getD (done.length + i) 0).testBit j = true ∨ ((done ++ l)[j]'(by simp; omega)).indep ops (l[i]) = true) := by
  intro l
  induction l with
  | nil => intro done _ i h; simp at h
  | cons x r ih =>
    intro done hk i h
    simp only [okFrom, Bool.and_eq_true] at hk
    obtain ⟨⟨h1, h2⟩, h3⟩ := hk
    cases i with
    | zero =>
      refine ⟨fun e he hb => ?_, fun j hj => ?_⟩
      · have := List.all_eq_true.1 h1 e he
        simpa [hb, Nat.blt_eq] using this
      · have := okPairs_get h2 j (by omega)
        simp only [Nat.zero_add] at this
        rw [List.getElem_append_left (by omega)]
        exact this
    | succ i =>
      have := ih h3 i (by simpa using h)
      simp only [List.length_append, List.length_cons, List.length_nil, List.append_assoc, List.cons_append, List.nil_append] at this
      refine ⟨fun e he hb => by have := this.1 e he hb; omega, fun j hj => ?_⟩
      have t := this.2 j (by omega)
      refine ⟨t.1, t.2.imp (fun h => ?_) id⟩
      rw [show done.length + (i + 1) = done.length + (0 + 1) + i from by omega]
      exact h

theorem masks_prefix : ∀ (l : List Oper) (acc : List Nat), ∃ t, masks l acc = acc ++ t := by
  intro l
  induction l with
  | nil => exact fun acc => ⟨[], by simp [masks]⟩
  | cons o r ih =>
    intro acc
    obtain ⟨t, ht⟩ := ih (acc ++ [maskOf acc o])
    exact ⟨maskOf acc o :: t, by rw [masks, ht]; simp⟩

theorem masks_get : ∀ (l : List Oper) (acc : List Nat) (i : Nat) (h : i < l.length), (masks l acc).getD (acc.length + i) 0 = maskOf ((masks l acc).take (acc.length + i)) (l[i]) := by
  intro l
  induction l with
  | nil => intro acc i h; simp at h
  | cons o r ih =>
    intro acc i h
    cases i with
    | zero =>
      obtain ⟨t, ht⟩ := masks_prefix r (acc ++ [maskOf acc o])
      simp only [masks, ht, Nat.add_zero, List.getElem_cons_zero]
      simp [List.getD]
    | succ i =>
      have := ih (acc ++ [maskOf acc o]) i (by simpa using h)
      simp only [List.length_append, List.length_cons, List.length_nil] at this
      rw [show acc.length + (0 + 1) + i = acc.length + (i + 1) from by omega] at this
      simpa [masks] using this

theorem fold_mask {acc : List Nat} {j : Nat} : ∀ (l : List Edge) (m : Nat), (l.foldl (fun m e => if Region.binds .any e then m ||| 2 ^ e.on ||| acc.getD e.on 0 else m) m).testBit j = true →
    m.testBit j = true ∨ ∃ e ∈ l, Region.binds .any e = true ∧ (e.on = j ∨ (acc.getD e.on 0).testBit j = true) := by
  intro l
  induction l with
  | nil => exact fun m h => .inl h
  | cons e r ih =>
    intro m h
    rcases ih _ h with h | ⟨e', he, h⟩
    · dsimp only at h
      by_cases hb : Region.binds .any e = true
      · rw [if_pos hb] at h
        simp only [Nat.testBit_or, Nat.testBit_two_pow, Bool.or_eq_true, decide_eq_true_eq] at h
        rcases h with (h | h) | h
        · exact .inl h
        · exact .inr ⟨e, by simp, hb, .inl h⟩
        · exact .inr ⟨e, by simp, hb, .inr h⟩
      · rw [if_neg hb] at h; exact .inl h
    · exact .inr ⟨e', by simp [he], h⟩

/-- What a mask names is done, where the done are closed and the direct edges' ends are. -/
theorem mask_done {ops : List Oper} {done : Nat → Prop} (hclosed : ∀ i (h : i < ops.length), done i → ∀ e ∈ (ops[i]).after.toList, Region.binds .any e = true → done e.on)
    (hback : ∀ i (h : i < ops.length), ∀ e ∈ (ops[i]).after.toList, Region.binds .any e = true → e.on < i) :
    ∀ n i (h : i < ops.length), i < n → (∀ e ∈ (ops[i]).after.toList, Region.binds .any e = true → done e.on) → ∀ j, ((masks ops []).getD i 0).testBit j = true → done j := by
  intro n
  induction n with
  | zero => intro i h hi; omega
  | succ n ih =>
    intro i h hi hd j hj
    have hm := masks_get ops [] i h
    simp only [List.length_nil, Nat.zero_add] at hm
    rw [hm] at hj
    rcases fold_mask _ _ hj with h0 | ⟨e, he, hb, h1 | h1⟩
    · simp at h0
    · exact h1 ▸ hd e he hb
    · have hlt := hback i h e he hb
      have hde := hd e he hb
      rw [List.getD_eq_getElem?_getD, List.getElem?_take, if_pos hlt, ← List.getD_eq_getElem?_getD] at h1
      exact ih e.on (by omega) (by omega) (hclosed e.on (by omega) hde) j h1


theorem fresh_step {it : Item} {s : AState} {k : Nat} (hf : s.fresh k) (hn : it.knows k = false) : (it.step s).fresh k := by
  obtain ⟨o, m⟩ := it
  obtain ⟨f1, f2, f3, f4⟩ := hf
  have hfl : ∀ (t : AState) (v : AVal), (t.put o.dst v).floor = t.floor := fun t v => by cases o.dst <;> rfl
  have hput : ∀ (t : AState) (v : AVal), (∀ x, (t.get x).has k = false) → v.has k = false → ∀ x, ((t.put o.dst v).get x).has k = false := by
    intro t v ht hv x
    cases hd : o.dst with
    | none => exact ht x
    | some d => rw [AState.get_put]; split
                · exact hv
                · exact ht x
  cases m with
  | skip => exact ⟨hput s _ f1 rfl, fun k' o' h => f2 k' o' (by rwa [← AState.obj_put s o.dst (.im (.sc undef))]), by show (s.put o.dst (.im (.sc undef))).obj k = none; rw [AState.obj_put]; exact f3, by show (s.put o.dst (.im (.sc undef))).floor ≤ k; rw [hfl]; exact f4⟩
  | run sp =>
    simp only [Item.knows, Bool.or_eq_false_iff] at hn
    obtain ⟨⟨n1, n2⟩, n3⟩ := hn
    refine ⟨hput _ _ (fun x => f1 x) n1, fun k' o' h => ?_, ?_, by show ((s.objput sp.post).put o.dst sp.res).floor ≤ k; rw [hfl]; exact f4⟩
    · rw [obj_run] at h
      cases hl : look sp.post k' with
      | none => rw [hl] at h; exact f2 k' o' h
      | some v =>
        rw [hl] at h
        have hv : v = some o' := h
        subst hv
        have hmem : (k', some o') ∈ sp.post := by
          generalize sp.post = l at hl
          induction l with
          | nil => simp [look] at hl
          | cons p l ih =>
            obtain ⟨i, u⟩ := p
            rw [look_cons] at hl
            by_cases e : i = k'
            · rw [if_pos e] at hl; subst e; simp at hl; simp [hl]
            · rw [if_neg e] at hl; exact List.mem_cons_of_mem _ (ih hl)
        have := List.any_eq_false.1 n3 _ hmem
        simpa using this
    · rw [obj_run, look_none]
      · exact f3
      · intro hmem
        rw [isIn_iff.2 hmem] at n2; simp at n2

/-- The items that are left. -/
def left (items : List Item) (listed : Array Bool) : List Item :=
  (items.zipIdx.filter fun p => !(listed.getD p.2 true)).map (·.1)

structure Open (Γ : Ctx) (ops : Array Oper) (items : List Item) (listed : Array Bool) (s : AState) : Prop where
  size : listed.size = items.length
  closed : ∀ i (h : i < items.length), listed.getD i true = true → ∀ e ∈ (items[i]).1.after.toList, Region.binds .any e = true → listed.getD e.on true = true
  valid : valid0 Γ.P ops (left items listed) s
  fresh : ∀ it ∈ left items listed, ∀ k ∈ it.news, s.fresh k

theorem filter_part {α : Type} {f g : α → Bool} {l : List α} {i : Nat} (h : i < l.length) (hi : f (l[i]) = true) (hg : g (l[i]) = false)
    (hfg : ∀ j (hj : j < l.length), j ≠ i → f (l[j]) = g (l[j])) :
    l.filter f = (l.take i).filter f ++ l[i] :: (l.drop (i + 1)).filter f ∧ l.filter g = (l.take i).filter f ++ (l.drop (i + 1)).filter f := by
  have hl : l = l.take i ++ l[i] :: l.drop (i + 1) := by rw [List.getElem_cons_drop]; simp
  have e1 : (l.take i).filter f = (l.take i).filter g := by
    refine List.filter_congr fun x hx => ?_
    obtain ⟨j, hj, rfl⟩ := List.mem_iff_getElem.1 hx
    simp only [List.length_take] at hj
    rw [List.getElem_take]
    exact hfg j (by omega) (by omega)
  have e2 : (l.drop (i + 1)).filter f = (l.drop (i + 1)).filter g := by
    refine List.filter_congr fun x hx => ?_
    obtain ⟨j, hj, rfl⟩ := List.mem_iff_getElem.1 hx
    simp only [List.length_drop] at hj
    rw [List.getElem_drop]
    exact hfg _ (by omega) (by omega)
  constructor
  · conv => lhs; rw [hl]
    rw [List.filter_append, List.filter_cons, if_pos hi]
  · conv => lhs; rw [hl]
    rw [List.filter_append, List.filter_cons, hg, ← e1, ← e2]; simp

theorem wp_open {Γ : Ctx} {items : List Item} {Q : Exit → Act → World → Prop} (hd : ∀ it ∈ items, ∀ d, it.1.dst = some d → d < Γ.n)
    (hok : okFrom (items.map (·.1)).toArray (masks (items.map (·.1)) []) [] items = true) :
    ∀ (fuel : Nat) (listed : Array Bool) (s : AState) (a : Act) (w : World), Open Γ (items.map (·.1)).toArray items listed s → (left items listed).length = fuel → Sat Γ s a w →
      (∀ a' w', Sat Γ (stepAll (left items listed) s) a' w' → Q .normal a' w') → wpAny Γ.P .any (items.map (·.1)).toArray Q fuel listed a w := by
  have hget := okFrom_get hok
  simp only [List.length_nil, Nat.zero_add, List.nil_append] at hget
  have hn : ∀ (j : Nat) (o' : Oper), (items.map (·.1)).toArray[j]? = some o' → ∀ d, o'.dst = some d → d < Γ.n := by
    intro j o' ho d e
    have : o' ∈ items.map (·.1) := by simpa using Array.mem_of_getElem? ho
    obtain ⟨it, hit, rfl⟩ := List.mem_map.1 this
    exact hd it hit d e
  -- who is ready
  have hready : ∀ (listed : Array Bool) i, i ∈ Region.ready .any (items.map (·.1)).toArray listed ↔ ∃ (h : i < items.length), listed.getD i true = false ∧
      ∀ e ∈ (items[i]).1.after.toList, Region.binds .any e = true → listed.getD e.on false = true := by
    intro listed i
    simp only [Region.ready, List.mem_filter, List.mem_range, List.size_toArray, List.length_map, Bool.and_eq_true, Bool.not_eq_true']
    constructor
    · rintro ⟨h, h1, h2⟩
      refine ⟨h, h1, fun e he hb => ?_⟩
      simp only [List.getElem?_toArray, List.getElem?_map, List.getElem?_eq_getElem h, Option.map_some, Option.getD_some, Array.all_eq_true'] at h2
      have := h2 e (by simpa using he)
      simpa [hb] using this
    · rintro ⟨h, h1, h2⟩
      refine ⟨h, h1, ?_⟩
      simp only [List.getElem?_toArray, List.getElem?_map, List.getElem?_eq_getElem h, Option.map_some, Option.getD_some, Array.all_eq_true']
      intro e he
      by_cases hb : Region.binds .any e = true
      · simp [h2 e (by simpa using he) hb]
      · simp [hb]
  intro fuel
  induction fuel with
  | zero =>
    intro listed s a w ho hlen hs hq
    have hnil : left items listed = [] := List.length_eq_zero_iff.1 hlen
    refine ⟨?_, hq _ _ (by rw [hnil]; exact hs)⟩
    refine List.eq_nil_iff_forall_not_mem.2 fun i hi => ?_
    obtain ⟨h, h1, h2⟩ := (hready listed i).1 hi
    have : items[i] ∈ left items listed := by
      refine List.mem_map.2 ⟨(items[i], i), List.mem_filter.2 ⟨?_, by simp [h1]⟩, rfl⟩
      rw [List.mem_zipIdx_iff_getElem?]; simp [h]
    rw [hnil] at this; simp at this
  | succ fuel ih =>
    intro listed s a w ho hlen hs hq
    constructor
    · intro hr
      -- the least that is left is ready
      exfalso
      have hex : ∃ i, ∃ (h : i < items.length), listed.getD i true = false := by
        cases hL : left items listed with
        | nil => rw [hL] at hlen; simp at hlen
        | cons x r =>
          have : x ∈ left items listed := by rw [hL]; simp
          obtain ⟨p, hp, rfl⟩ := List.mem_map.1 this
          obtain ⟨hp1, hp2⟩ := List.mem_filter.1 hp
          rw [List.mem_zipIdx_iff_getElem?] at hp1
          exact ⟨p.2, (List.getElem?_eq_some_iff.1 hp1).1, by simpa using hp2⟩
      have hmin : ∀ n, (∃ i, i < n ∧ ∃ (h : i < items.length), listed.getD i true = false) → ∃ i, ∃ (h : i < items.length), listed.getD i true = false ∧ ∀ j, j < i → listed.getD j true = true := by
        intro n
        induction n with
        | zero => rintro ⟨i, h, _⟩; omega
        | succ n ih =>
          rintro ⟨i, hi, h, hl⟩
          by_cases hb : ∃ j, j < n ∧ ∃ (h : j < items.length), listed.getD j true = false
          · exact ih hb
          · refine ⟨i, h, hl, fun j hj => ?_⟩
            cases e : listed.getD j true with
            | true => rfl
            | false => exact absurd ⟨j, by omega, by omega, e⟩ hb
      obtain ⟨i0, hi0, hl0⟩ := hex
      obtain ⟨i, hi, hl, hlt⟩ := hmin (i0 + 1) ⟨i0, by omega, hi0, hl0⟩
      have : i ∈ Region.ready .any (items.map (·.1)).toArray listed := (hready listed i).2 ⟨hi, hl, fun e he hb => by
        have h1 := (hget i hi).1 e he hb
        have h2 := hlt e.on h1
        have : e.on < listed.size := by rw [ho.size]; omega
        simpa [Array.getD, this] using h2⟩
      rw [hr] at this; simp at this
    · intro i hir
      obtain ⟨hi, hl, he⟩ := (hready listed i).1 hir
      have hlisted : ∀ j, (listed.setIfInBounds i true).getD j true = if j = i then true else listed.getD j true := by
        intro j
        simp only [Array.getD_eq_getD_getElem?, Array.getElem?_setIfInBounds]
        by_cases e : i = j
        · subst e; simp; split <;> simp_all
        · rw [if_neg e, if_neg (fun h : j = i => e h.symm)]
      have hpart := filter_part (l := items.zipIdx) (f := fun p => !(listed.getD p.2 true)) (g := fun p => !((listed.setIfInBounds i true).getD p.2 true)) (i := i) (by simpa using hi)
        (by simp [hl]) (by simp [hlisted]) (fun j hj hne => by simp [hlisted, hne])
      simp only [List.getElem_zipIdx, Nat.zero_add] at hpart
      have hleft : left items listed = ((items.zipIdx.take i).filter fun p => !(listed.getD p.2 true)).map (·.1) ++ items[i] :: ((items.zipIdx.drop (i + 1)).filter fun p => !(listed.getD p.2 true)).map (·.1) := by
        unfold left; rw [hpart.1]; simp
      have hleft' : left items (listed.setIfInBounds i true) = ((items.zipIdx.take i).filter fun p => !(listed.getD p.2 true)).map (·.1) ++ ((items.zipIdx.drop (i + 1)).filter fun p => !(listed.getD p.2 true)).map (·.1) := by
        unfold left; rw [hpart.2]; simp
      generalize hA : ((items.zipIdx.take i).filter fun p => !(listed.getD p.2 true)).map (·.1) = A at hleft hleft'
      generalize hB : ((items.zipIdx.drop (i + 1)).filter fun p => !(listed.getD p.2 true)).map (·.1) = B at hleft hleft'
      have hAin : ∀ y ∈ A, ∃ j, ∃ (h : j < items.length), j < i ∧ items[j] = y ∧ listed.getD j true = false := by
        intro y hy
        rw [← hA] at hy
        obtain ⟨p, hp, rfl⟩ := List.mem_map.1 hy
        obtain ⟨hp1, hp2⟩ := List.mem_filter.1 hp
        obtain ⟨m, hm, rfl⟩ := List.mem_iff_getElem.1 hp1
        simp only [List.length_take, List.length_zipIdx] at hm
        refine ⟨m, by omega, by omega, by simp, by simpa using hp2⟩
      have hback : ∀ (i : Nat) (h : i < (items.map (fun x : Item => x.1)).length), ∀ e ∈ ((items.map (fun x : Item => x.1))[i]).after.toList, Region.binds .any e = true → e.on < i := by
        intro i h e he hb
        simp only [List.length_map] at h
        exact (hget i h).1 e (by simpa using he) hb
      have hindep : ∀ y ∈ A, y.indep (items.map (·.1)).toArray items[i] = true := by
        intro y hy
        obtain ⟨j, hj, hji, rfl, hlj⟩ := hAin y hy
        rcases ((hget i hi).2 j hji).2 with h | h
        · have := mask_done (ops := items.map (·.1)) (done := fun j => listed.getD j true = true)
            (fun i h hd e he hb => ho.closed i (by simpa using h) hd e (by simpa using he) hb) hback (i + 1) i (by simpa using hi) (by omega)
            (fun e he' hb => by
              have h1 := he e (by simpa using he') hb
              have h2 : e.on < listed.size := by rw [ho.size]; have := (hget i hi).1 e (by simpa using he') hb; omega
              simpa [Array.getD, h2] using h1) j h
          rw [hlj] at this; simp at this
        · exact h
      have hfr := to_front A s hindep (hleft ▸ ho.valid)
      obtain ⟨hv, hrest, heqv⟩ := hfr
      have hmem : items[i] ∈ left items listed := by rw [hleft]; simp
      show wpOp Γ.P (items.map (·.1)).toArray Q i _ a w
      have hget? : (items.map (·.1)).toArray[i]? = some (items[i]).1 := by simp [hi]
      simp only [wpOp, hget?]
      refine wp_item (it := items[i]) hn (hd _ (List.getElem_mem hi)) hs hv (ho.fresh _ hmem) (fun a' w' hs' => ?_)
      refine ih _ _ a' w' ⟨by simpa using ho.size, ?_, hleft' ▸ hrest, ?_⟩ ?_ hs' ?_
      · intro j hj hlj e hee hb
        rw [hlisted] at hlj ⊢
        by_cases hij : j = i
        · subst hij
          have h1 := he e hee hb
          have h2 : e.on < listed.size := by rw [ho.size]; have := (hget j hi).1 e hee hb; omega
          split
          · rfl
          · simpa [Array.getD, h2] using h1
        · rw [if_neg hij] at hlj
          split
          · rfl
          · exact ho.closed j hj hlj e hee hb
      · intro y hy k hk
        have hyl : y ∈ left items listed := by
          rw [hleft'] at hy; rw [hleft]
          simp only [List.mem_append, List.mem_cons] at hy ⊢
          rcases hy with h | h
          · exact .inl h
          · exact .inr (.inr h)
        have hf := ho.fresh y hyl k hk
        -- the one that goes ahead doesn't know the key
        have hnk : (items[i]).knows k = false := by
          rw [hleft'] at hy
          rcases List.mem_append.1 hy with h | h
          · have := hindep y h
            simp only [Item.indep, Bool.and_eq_true] at this
            have := List.all_eq_true.1 this.2 k hk
            simpa using this
          · rw [← hB] at h
            obtain ⟨p, hp, rfl⟩ := List.mem_map.1 h
            obtain ⟨hp1, hp2⟩ := List.mem_filter.1 hp
            obtain ⟨m, hm, rfl⟩ := List.mem_iff_getElem.1 hp1
            simp only [List.length_drop, List.length_zipIdx] at hm
            simp only [List.getElem_drop, List.getElem_zipIdx, Nat.zero_add] at hk
            have := ((hget (i + 1 + m) (by omega)).2 i (by omega)).1
            have := List.all_eq_true.1 this k hk
            simpa using this
        exact fresh_step hf hnk
      · rw [hleft']
        rw [hleft] at hlen
        simp only [List.length_append, List.length_cons] at hlen ⊢
        omega
      · rw [hleft']
        intro a'' w'' h''
        refine hq _ _ ?_
        rw [hleft]
        exact h''.eqv heqv.symm

theorem region_draw {Γ : Ctx} {id : Nat} {Q : Exit → AState → Prop} {s : AState} (hm : Γ.P.follows .mixedOrders = true) (items : List Item)
    (hd : items.all (fun it => match it.1.dst with | some d => Nat.blt d Γ.n | none => true) = true)
    (hok : okFrom (items.map (·.1)).toArray (masks (items.map (·.1)) []) [] items = true)
    (hv : validAll Γ.P (items.map (·.1)).toArray items s) (hf : ∀ it ∈ items, ∀ k ∈ it.news, s.fresh k) (hq : Q .normal (stepAll items s)) :
    AWp Γ (.region id (items.map (·.1)).toArray true) Q s := by
  have hl : ∀ it ∈ items, ∀ d, it.1.dst = some d → d < Γ.n := by
    intro it hit d e
    have := List.all_eq_true.1 hd it hit
    rw [e] at this
    simpa [Nat.blt_eq] using this
  have hleft : left items (Array.replicate items.length false) = items := by
    unfold left
    rw [List.filter_eq_self.2]
    · exact List.zipIdx_map_fst 0 items
    · rintro ⟨it, i⟩ hm
      rw [List.mem_zipIdx_iff_getElem?] at hm
      have := (List.getElem?_eq_some_iff.1 hm).1
      simp [Array.getD, this]
  intro a w hs
  have hs' : Sat Γ s a { w with drawn := w.drawn + 1 } := by
    obtain ⟨κ, I, hr⟩ := hs
    have hk : Keeps Γ.M0 Γ.w0 { w with drawn := w.drawn + 1 } := ⟨hr.inv.keep.os, hr.inv.keep.tape, hr.inv.keep.output, hr.inv.keep.size, hr.inv.keep.block⟩
    refine ⟨κ, I, hr.size, hr.defers, fun x => (hr.slots x).mono (fun _ h => h) (fun _ _ => rfl) (fun _ _ => rfl), ?_, hr.inv.inj, hr.inv.disj, hr.inv.bound, hk, hr.inv.ikeep, hr.inv.fromI, hr.inv.fromO, hr.inv.fix⟩
    intro k o hko
    have := hr.inv.objs k o hko
    unfold OAt at this ⊢
    split
    · rename_i e; rw [e] at this; exact this
    · rename_i ki e; rw [e] at this; exact this.mono (fun _ h => h) (fun _ _ => rfl) rfl (fun _ _ => rfl)
  refine wp_region_any hm ?_
  have hsz : (items.map (·.1)).toArray.size = items.length := by simp
  rw [hsz]
  refine wp_open hl hok _ _ s a _ ⟨by simp, ?_, by rw [hleft]; exact valid0_of hv, by rw [hleft]; exact hf⟩ (by rw [hleft]) hs' (fun a' w' h => ⟨_, by rw [hleft] at h; exact h, hq⟩)
  intro i h hl'
  simp [Array.getD, h] at hl'

end Go.Pv
