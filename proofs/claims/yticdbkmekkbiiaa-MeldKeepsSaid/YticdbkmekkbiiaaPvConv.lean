import Derived.Test.YticdbkmekkbiiaaPvAuto3
set_option linter.unusedVariables false
set_option linter.unusedSimpArgs false
/-! A state in another shape: rows that become data, keys renamed, empty slices that become rows of the call's own. -/
namespace Go.Pv

mutual
/-- A value in the shape of another one. -/
def convT (inv : List (Nat × Nat)) (views : List (Nat × List (List Im))) (e0 : List Nat) : AVal → AVal → AVal
  | .own k, .none0 => match isIn k e0 with
    | true => .own k
    | false => .none0
  | .im _, .none0 => .im (.row [])
  | .top, _ => .top
  | .agg ys, .agg xs => .agg (convTL inv views e0 ys xs)
  | _, x => pass inv views x
def convTL (inv : List (Nat × Nat)) (views : List (Nat × List (List Im))) (e0 : List Nat) : List AVal → List AVal → List AVal
  | y :: ys, x :: xs => convT inv views e0 y x :: convTL inv views e0 ys xs
  | _, [] => []
  | [], x :: xs => pass inv views x :: convTL inv views e0 [] xs
end

theorem convTL_get {inv : List (Nat × Nat)} {views : List (Nat × List (List Im))} {e0 : List Nat} : ∀ (xs ys : List AVal), (convTL inv views e0 ys xs).length = xs.length ∧
    ∀ j (h : j < xs.length) (h' : j < (convTL inv views e0 ys xs).length), (∃ y, (convTL inv views e0 ys xs)[j] = convT inv views e0 y (xs[j])) := by
  intro xs
  induction xs with
  | nil => intro ys; cases ys <;> exact ⟨by simp [convTL], fun j h => absurd h (Nat.not_lt_zero _)⟩
  | cons x xs ih =>
    intro ys
    have hpass : ∀ x, ∃ y, pass inv views x = convT inv views e0 y x := fun x => by
      cases x with
      | none0 => exact ⟨.none0, by simp [convT]⟩
      | agg l => exact ⟨.none0, by simp [convT]⟩
      | _ => exact ⟨.none0, by simp [convT]⟩
    cases ys with
    | nil =>
      obtain ⟨h1, h2⟩ := ih []
      refine ⟨by simp [convTL, h1], fun j h h' => ?_⟩
      cases j with
      | zero => simp only [convTL, List.getElem_cons_zero]; exact hpass x
      | succ j => simp only [convTL, List.getElem_cons_succ]; exact h2 j (by simpa using h) (by simpa [convTL] using h')
    | cons y ys =>
      obtain ⟨h1, h2⟩ := ih ys
      refine ⟨by simp [convTL, h1], fun j h h' => ?_⟩
      cases j with
      | zero => exact ⟨y, by simp [convTL]⟩
      | succ j => simp only [convTL, List.getElem_cons_succ]; exact h2 j (by simpa using h) (by simpa [convTL] using h')

theorem convT_rep {w : World} {I I' : Nat → Prop} {κ κ' : Nat → Option KI} {inv : List (Nat × Nat)} {views : List (Nat × List (List Im))} {e0 : List Nat} (hI : ∀ b, I b → I' b)
    (hinv : ∀ k kc, look inv k = some kc → κ' kc = κ k) (hv : ∀ k es, look views k = some es → (∃ sz el, OAt w I κ k (.row sz el es)) ∧ ∀ ki, κ k = some ki → I' ki.b)
    (he0 : ∀ k, isIn k e0 = true → κ' k = none) {x : AVal} {v : Value} (h : Rep w I κ x v) : ∀ y, Rep w I' κ' (convT inv views e0 y x) v := by
  induction h with
  | @agg cells vs hl hr ih =>
    intro y
    cases y with
    | agg ys =>
      simp only [convT]
      obtain ⟨h1, h2⟩ := convTL_get (inv := inv) (views := views) (e0 := e0) cells ys
      refine .agg (by rw [h1]; exact hl) (fun j h h' => ?_)
      obtain ⟨y, e⟩ := h2 j (by omega) h
      rw [e]; exact ih j (by omega) h' y
    | top => exact .top _
    | _ => simp only [convT]; exact pass_rep hI hinv hv (.agg hl hr)
  | none0 base =>
    intro y
    cases y with
    | own k =>
      simp only [convT]
      cases e : isIn k e0 with
      | true => exact .own0 base (he0 k e)
      | false => exact .none0 base
    | im x => simp only [convT]; exact .im (.row0 base 0)
    | top => exact .top _
    | _ => simp only [convT, pass]; exact .none0 base
  | top v => intro y; cases y <;> simp only [convT, pass] <;> exact .top _
  | im h => intro y; cases y <;> simp only [convT] <;> first | exact .top _ | exact pass_rep hI hinv hv (.im h)
  | own0 base e => intro y; cases y <;> simp only [convT] <;> first | exact .top _ | exact pass_rep hI hinv hv (.own0 base e)
  | own e => intro y; cases y <;> simp only [convT] <;> first | exact .top _ | exact pass_rep hI hinv hv (.own e)
  | cut0 base e => intro y; cases y <;> simp only [convT] <;> first | exact .top _ | exact pass_rep hI hinv hv (.cut0 base e)
  | cut e h1 h2 => intro y; cases y <;> simp only [convT] <;> first | exact .top _ | exact pass_rep hI hinv hv (.cut e h1 h2)
  | ptr e => intro y; cases y <;> simp only [convT] <;> first | exact .top _ | exact pass_rep hI hinv hv (.ptr e)
  | ip u hb hc hr => intro y; cases y <;> simp only [convT] <;> first | exact .top _ | exact pass_rep hI hinv hv (.ip u hb hc hr)
  | tup hl hr ih => intro y; cases y <;> simp only [convT] <;> first | exact .top _ | exact pass_rep hI hinv hv (.tup hl hr)
  | fn hl hr ih => intro y; cases y <;> simp only [convT] <;> first | exact .top _ | exact pass_rep hI hinv hv (.fn hl hr)

def convO (inv : List (Nat × Nat)) (views : List (Nat × List (List Im))) (e0 : List Nat) : MObj → MObj → MObj
  | .box _ ys, .box el xs => .box el (convTL inv views e0 ys xs)
  | _, .row sz el es => .row sz el es
  | _, .box el xs => .box el (convTL inv views e0 [] xs)

def emptyRow : MObj → Bool
  | .row _ _ [] => true
  | _ => false

/-- The objects in their new shape. -/
def convObjs (s : AState) (inv : List (Nat × Nat)) (views : List (Nat × List (List Im))) (e0 : List Nat) : List (Nat × Option MObj) → Option (List (Nat × Option MObj))
  | [] => some []
  | (kc, some o) :: r => match isIn kc e0 && emptyRow o, convObjs s inv views e0 r with
    | true, some l => some ((kc, some o) :: l)
    | false, some l => match look (swapL inv) kc with
      | some k => match s.obj k with
        | some os => some ((kc, some (convO inv views e0 o os)) :: l)
        | none => none
      | none => none
    | _, none => none
  | (kc, none) :: r => match convObjs s inv views e0 r with
    | some l => some ((kc, none) :: l)
    | none => none

def convKeysOK (s : AState) (inv : List (Nat × Nat)) (views : List (Nat × List (List Im))) (e0 : List Nat) : Bool :=
  keysOK.distinct (inv.map (·.1)) && keysOK.distinct (inv.map (·.2)) && apart (inv.map (·.1)) (views.map (·.1)) && apart e0 (inv.map (·.2)) && e0.all (fun k => Nat.ble s.floor k) &&
  inv.all (fun p => Nat.beq p.1 p.2 || Nat.ble s.floor p.2)

def convS (s : AState) (inv : List (Nat × Nat)) (vk e0 : List Nat) (t : AState) : Option AState :=
  match viewsOf s vk with
  | some views => match convKeysOK s inv views e0, convObjs s inv views e0 t.objs with
    | true, some objs => some ⟨t.slots.map fun p => (p.1, convT inv views e0 p.2 (s.get p.1)), objs, s.floor⟩
    | _, _ => none
  | none => none

theorem look_map2 {α β : Type} (f : Nat → α → β) : ∀ (l : List (Nat × α)) (x : Nat) (v : β), look (l.map fun p => (p.1, f p.1 p.2)) x = some v → ∃ u, v = f x u := by
  intro l x v h
  obtain ⟨p, _, e⟩ := List.mem_map.1 (look_mem h)
  simp at e
  exact ⟨p.2, by rw [← e.2, e.1]⟩

theorem Sat.conv {Γ : Ctx} {s t t' : AState} {a : Act} {w : World} (inv : List (Nat × Nat)) (vk e0 : List Nat) (h : convS s inv vk e0 t = some t') (hs : Sat Γ s a w) : Sat Γ t' a w := by
  unfold convS at h
  split at h
  · rename_i views hviews
    split at h
    · rename_i objs hk hobjs
      obtain rfl := Option.some.inj h
      obtain ⟨κ, I, hr⟩ := hs
      simp only [convKeysOK, Bool.and_eq_true] at hk
      obtain ⟨⟨⟨⟨⟨k1, k2⟩, k3⟩, k4⟩, k5⟩, k6⟩ := hk
      rw [distinct_iff] at k1 k2
      rw [apart_iff] at k3 k4
      have hk2' : ((swapL inv).map (·.1)).Nodup := by simpa [swapL, Function.comp_def] using k2
      have hvo := viewsOf_ok hviews
      let κ' : Nat → Option KI := fun k => match isIn k e0 with
        | true => none
        | false => match look (swapL inv) k with
          | some k0 => κ k0
          | none => κ k
      let I' : Nat → Prop := fun b => I b ∨ ∃ k es ki, look views k = some es ∧ κ k = some ki ∧ ki.b = b
      have hI : ∀ b, I b → I' b := fun b h => .inl h
      have hview : ∀ k es, look views k = some es → ∃ sz el, s.obj k = some (.row sz el es) := fun k es h => hvo _ (look_mem h)
      have hv : ∀ k es, look views k = some es → (∃ sz el, OAt w I κ k (.row sz el es)) ∧ ∀ ki, κ k = some ki → I' ki.b := by
        intro k es h
        obtain ⟨sz, el, e⟩ := hview k es h
        exact ⟨⟨sz, el, hr.inv.objs k _ e⟩, fun ki hκ => .inr ⟨k, es, ki, h, hκ, rfl⟩⟩
      have hnote0 : ∀ k kc, (k, kc) ∈ inv → isIn kc e0 = false := by
        intro k kc hm
        cases e : isIn kc e0 with
        | false => rfl
        | true => exact absurd (List.mem_map.2 ⟨(k, kc), hm, rfl⟩) (k4 kc (isIn_iff.1 e))
      have hinvm : ∀ k kc, (k, kc) ∈ inv → κ' kc = κ k := by
        intro k kc hm
        have h1 : look (swapL inv) kc = some k := look_of_mem hk2' (List.mem_map.2 ⟨(k, kc), hm, rfl⟩)
        simp only [κ', hnote0 k kc hm, h1]
      have hinv : ∀ k kc, look inv k = some kc → κ' kc = κ k := fun k kc h => hinvm k kc (look_mem h)
      have he0 : ∀ k, isIn k e0 = true → κ' k = none := fun k h => by simp only [κ', h]
      -- the objects in their new shape
      have hobj : ∀ (l l' : List (Nat × Option MObj)), convObjs s inv views e0 l = some l' → ∀ kc o', (kc, some o') ∈ l' → (isIn kc e0 = true ∧ emptyRow o' = true) ∨ ∃ k o y, (k, kc) ∈ inv ∧ s.obj k = some o ∧ o' = convO inv views e0 y o := by
        intro l
        induction l with
        | nil => intro l' h kc o' hm; simp [convObjs] at h; subst h; simp at hm
        | cons p l ih =>
          intro l' h kc o' hm
          obtain ⟨kp, op⟩ := p
          cases op with
          | none =>
            simp only [convObjs] at h
            split at h
            · rename_i l2 h2
              obtain rfl := Option.some.inj h
              rcases List.mem_cons.1 hm with h3 | h3
              · simp at h3
              · exact ih l2 h2 kc o' h3
            · simp at h
          | some o =>
            simp only [convObjs] at h
            split at h
            · rename_i l2 hb h2
              obtain rfl := Option.some.inj h
              simp only [Bool.and_eq_true] at hb
              rcases List.mem_cons.1 hm with h3 | h3
              · simp at h3; obtain ⟨rfl, rfl⟩ := h3; exact .inl hb
              · exact ih l2 h2 kc o' h3
            · rename_i l2 hb h2
              split at h
              · rename_i k hk
                split at h
                · rename_i os hos
                  obtain rfl := Option.some.inj h
                  rcases List.mem_cons.1 hm with h3 | h3
                  · simp at h3; obtain ⟨rfl, rfl⟩ := h3
                    obtain ⟨p, hp, hpe⟩ := List.mem_map.1 (look_mem hk)
                    simp at hpe; obtain ⟨rfl, rfl⟩ := hpe
                    exact .inr ⟨p.1, os, o, hp, hos, rfl⟩
                  · exact ih l2 h2 kc o' h3
                · simp at h
              · simp at h
            · simp at h
      have hobj' : ∀ kc o', (⟨t.slots.map fun p => (p.1, convT inv views e0 p.2 (s.get p.1)), objs, s.floor⟩ : AState).obj kc = some o' →
          (isIn kc e0 = true ∧ emptyRow o' = true) ∨ ∃ k o y, (k, kc) ∈ inv ∧ s.obj k = some o ∧ o' = convO inv views e0 y o := by
        intro kc o' h
        simp only [AState.obj] at h
        cases e : look objs kc with
        | none => rw [e] at h; simp at h
        | some ov => rw [e] at h; have : ov = some o' := h; subst this; exact hobj _ _ hobjs kc o' (look_mem e)
      have hnv : ∀ k kc, (k, kc) ∈ inv → look views k = none := fun k kc hm => look_none (fun h => k3 k (List.mem_map.2 ⟨_, hm, rfl⟩) h)
      refine ⟨κ', I', hr.size, hr.defers, fun x => ?_, ?_, ?_, ?_, ?_, hr.inv.keep, fun b h => .inl (hr.inv.ikeep b h), ?_, ?_, ?_⟩
      · show Rep w I' κ' ((look (t.slots.map fun p => (p.1, convT inv views e0 p.2 (s.get p.1))) x).getD .top) _
        cases e : look (t.slots.map fun p => (p.1, convT inv views e0 p.2 (s.get p.1))) x with
        | none => exact .top _
        | some y =>
          obtain ⟨u, rfl⟩ := look_map2 (fun i u => convT inv views e0 u (s.get i)) t.slots x y e
          exact convT_rep hI hinv hv he0 (hr.slots x) u
      · intro kc o' h
        rcases hobj' kc o' h with ⟨h1, h2⟩ | ⟨k, o, y, hm, ho, rfl⟩
        · simp only [OAt, he0 kc h1]
          cases o' with
          | row sz el es => cases es with
            | nil => exact ⟨sz, el, rfl⟩
            | cons => simp [emptyRow] at h2
          | box => simp [emptyRow] at h2
        · have := hr.inv.objs k o ho
          unfold OAt at this ⊢
          rw [hinvm k kc hm]
          cases eκ : κ k with
          | none => rw [eκ] at this; obtain ⟨sz, el, rfl⟩ := this; exact ⟨sz, el, by cases y <;> rfl⟩
          | some ki =>
            rw [eκ] at this
            cases o with
            | row sz el es =>
              have hrow : convO inv views e0 y (.row sz el es) = .row sz el es := by cases y <;> rfl
              rw [hrow]
              obtain ⟨h1, h2, h3, arr, h4, h5, h6⟩ := this
              exact ⟨h1, h2, h3, arr, h4, h5, fun i hi => ⟨(h6 i hi).1, fun j hj => let ⟨u, a, b⟩ := (h6 i hi).2 j hj; ⟨u, a, b.mono hI (fun _ _ => rfl)⟩⟩⟩
            | box el cells =>
              obtain ⟨ys, hbox⟩ : ∃ ys, convO inv views e0 y (.box el cells) = .box el (convTL inv views e0 ys cells) := by cases y with | box _ ys => exact ⟨ys, rfl⟩ | row => exact ⟨[], rfl⟩
              rw [hbox]
              obtain ⟨h1, h2, arr, h4, h5, h6⟩ := this
              obtain ⟨g1, g2⟩ := convTL_get (inv := inv) (views := views) (e0 := e0) cells ys
              refine ⟨h1, by rw [g1]; exact h2, arr, h4, by rw [g1]; exact h5, fun j hj => ?_⟩
              obtain ⟨u, a, b⟩ := h6 j (by omega)
              obtain ⟨y', e⟩ := g2 j (by omega) hj
              exact ⟨u, a, by rw [e]; exact convT_rep hI hinv hv he0 b y'⟩
      · intro q1 q2 o1 o2 ki1 ki2 h1 h2 f1 f2 hbb
        rcases hobj' q1 o1 h1 with ⟨g1, _⟩ | ⟨k, o, y, hm, ho, rfl⟩
        · rw [he0 q1 g1] at f1; simp at f1
        · rcases hobj' q2 o2 h2 with ⟨g1, _⟩ | ⟨k', o', y', hm', ho', rfl⟩
          · rw [he0 q2 g1] at f2; simp at f2
          · rw [hinvm k q1 hm] at f1; rw [hinvm k' q2 hm'] at f2
            have := hr.inv.inj k k' o o' ki1 ki2 ho ho' f1 f2 hbb
            subst this
            have a1 := look_of_mem k1 hm
            have a2 := look_of_mem k1 hm'
            rw [a1] at a2; exact Option.some.inj a2
      · intro q o' ki h f hIb
        rcases hobj' q o' h with ⟨g1, _⟩ | ⟨k, o, y, hm, ho, rfl⟩
        · rw [he0 q g1] at f; simp at f
        · rw [hinvm k q hm] at f
          rcases hIb with hIb | ⟨k', es, ki', h1, h2, h3⟩
          · exact hr.inv.disj k o ki ho f hIb
          · obtain ⟨sz, el, e4⟩ := hview k' es h1
            have := hr.inv.inj k k' o _ ki ki' ho e4 f h2 h3.symm
            subst this
            rw [hnv k q hm] at h1; simp at h1
      · intro b hb
        rcases hb with hb | ⟨k, es, ki, h1, h2, rfl⟩
        · exact hr.inv.bound b hb
        · obtain ⟨sz, el, e4⟩ := hview k es h1
          have := hr.inv.objs k _ e4
          simp only [OAt, h2, ORep] at this
          obtain ⟨_, _, _, arr, h3, _⟩ := this
          exact (Array.getElem?_eq_some_iff.1 h3).1
      · intro b hb
        rcases hb with hb | ⟨k, es, ki, h1, h2, rfl⟩
        · exact hr.inv.fromI b hb
        · obtain ⟨sz, el, e4⟩ := hview k es h1
          exact .inr (hr.inv.fromO k _ ki e4 h2)
      · intro q o' ki h f
        rcases hobj' q o' h with ⟨g1, _⟩ | ⟨k, o, y, hm, ho, rfl⟩
        · rw [he0 q g1] at f; simp at f
        · rw [hinvm k q hm] at f
          exact hr.inv.fromO k o ki ho f
      · intro k hk
        have hk' : k < s.floor := hk
        have hne0 : isIn k e0 = false := by
          cases e : isIn k e0 with
          | false => rfl
          | true => have := List.all_eq_true.1 k5 k (isIn_iff.1 e); have := Nat.le_of_ble_eq_true this; omega
        rw [← hr.inv.fix k hk']
        simp only [κ', hne0]
        cases e : look (swapL inv) k with
        | none => rfl
        | some k0 =>
          obtain ⟨p, hp, hpe⟩ := List.mem_map.1 (look_mem e)
          simp at hpe; obtain ⟨h1, h2⟩ := hpe
          have := List.all_eq_true.1 k6 p hp
          simp only [Bool.or_eq_true] at this
          rcases this with h3 | h3
          · have h3 := Nat.eq_of_beq_eq_true h3
            simp only
            rw [← h2, h3, h1]
          · have := Nat.le_of_ble_eq_true h3; omega
    · simp at h
  · simp at h

theorem AWp.conv {Γ : Ctx} {c : Code} {Q : Exit → AState → Prop} {s t : AState} (inv : List (Nat × Nat)) (vk e0 : List Nat) (h : convS s inv vk e0 t = some t) (k : AWp Γ c Q t) : AWp Γ c Q s :=
  k.weaken fun _ _ hs => hs.conv inv vk e0 h

end Go.Pv
