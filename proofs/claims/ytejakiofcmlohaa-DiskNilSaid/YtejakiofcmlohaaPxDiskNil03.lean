import Derived.ChangeKeysEq
import Derived.Laws.BytesString
import Derived.Laws.Externs
import Derived.Laws.MakeOwn
import Derived.Laws.StructEq
import Derived.Lib.Builder
import Derived.Lib.Bytealg
import Derived.Lib.MakeNoZero
import Derived.Lib.UnsafeStr
import Derived.Maps.RangeRun
import Derived.Maps.RangeWalk
import Derived.Test.YtejakiofcmlohaaPxDiskNil02
set_option linter.unusedVariables false
set_option linter.unusedSimpArgs false
namespace Go.Pv
mutual
def convT (inv : List (Nat × Nat)) (views : List (Nat × List (List Im))) (e0 : List Nat) : AVal → AVal → AVal
  | .own k, .none0 => match isIn k e0 with
    | true => .own k
    | false => .none0
  | .im _, .none0 => .im (.row [])
  | .top, _ => .top
  | .agg ys, .agg xs => .agg (convTL inv views e0 ys xs)
  | _, x => pass inv views x
def convTL (inv : List (Nat × Nat)) (views : List (Nat × List (List Im))) (e0 : List Nat) : List AVal → List AVal → List AVal
  | y :: ys, x :: xs => convT inv views e0 y x :: convTL inv views e0 ys xs
  | _, [] => []
  | [], x :: xs => pass inv views x :: convTL inv views e0 [] xs
end
theorem convTL_get {inv : List (Nat × Nat)} {views : List (Nat × List (List Im))} {e0 : List Nat} : ∀ (xs ys : List AVal), (convTL inv views e0 ys xs).length = xs.length ∧
    ∀ j (h : j < xs.length) (h' : j < (convTL inv views e0 ys xs).length), (∃ y, (convTL inv views e0 ys xs)[j] = convT inv views e0 y (xs[j])) := by
  intro xs
  induction xs with
  | nil => intro ys; cases ys <;> exact ⟨by simp [convTL], fun j h => absurd h (Nat.not_lt_zero _)⟩
  | cons x xs ih =>
    intro ys
    have hpass : ∀ x, ∃ y, pass inv views x = convT inv views e0 y x := fun x => by
      cases x with
      | none0 => exact ⟨.none0, by simp [convT]⟩
      | agg l => exact ⟨.none0, by simp [convT]⟩
      | _ => exact ⟨.none0, by simp [convT]⟩
    cases ys with
    | nil =>
      obtain ⟨h1, h2⟩ := ih []
      refine ⟨by simp [convTL, h1], fun j h h' => ?_⟩
      cases j with
      | zero => simp only [convTL, List.getElem_cons_zero]; exact hpass x
      | succ j => simp only [convTL, List.getElem_cons_succ]; exact h2 j (by simpa using h) (by simpa [convTL] using h')
    | cons y ys =>
      obtain ⟨h1, h2⟩ := ih ys
      refine ⟨by simp [convTL, h1], fun j h h' => ?_⟩
      cases j with
      | zero => exact ⟨y, by simp [convTL]⟩
      | succ j => simp only [convTL, List.getElem_cons_succ]; exact h2 j (by simpa using h) (by simpa [convTL] using h')
theorem convT_rep {w : World} {I I' : Nat → Prop} {κ κ' : Nat → Option KI} {inv : List (Nat × Nat)} {views : List (Nat × List (List Im))} {e0 : List Nat} (hI : ∀ b, I b → I' b)
    (hinv : ∀ k kc, look inv k = some kc → κ' kc = κ k) (hv : ∀ k es, look views k = some es → (∃ sz el, OAt w I κ k (.row sz el es)) ∧ ∀ ki, κ k = some ki → I' ki.b)
    (he0 : ∀ k, isIn k e0 = true → κ' k = none) {x : AVal} {v : Value} (h : Rep w I κ x v) : ∀ y, Rep w I' κ' (convT inv views e0 y x) v := by
  induction h with
  | @agg cells vs hl hr ih =>
    intro y
    cases y with
    | agg ys =>
      simp only [convT]
      obtain ⟨h1, h2⟩ := convTL_get (inv := inv) (views := views) (e0 := e0) cells ys
      refine .agg (by rw [h1]; exact hl) (fun j h h' => ?_)
      obtain ⟨y, e⟩ := h2 j (by omega) h
      rw [e]; exact ih j (by omega) h' y
    | top => exact .top _
    | _ => simp only [convT]; exact pass_rep hI hinv hv (.agg hl hr)
  | none0 base =>
    intro y
    cases y with
    | own k =>
      simp only [convT]
      cases e : isIn k e0 with
      | true => exact .own0 base (he0 k e)
      | false => exact .none0 base
    | im x => simp only [convT]; exact .im (.row0 base 0)
    | top => exact .top _
    | _ => simp only [convT, pass]; exact .none0 base
  | top v => intro y; cases y <;> simp only [convT, pass] <;> exact .top _
  | im h => intro y; cases y <;> simp only [convT] <;> first | exact .top _ | exact pass_rep hI hinv hv (.im h)
  | own0 base e => intro y; cases y <;> simp only [convT] <;> first | exact .top _ | exact pass_rep hI hinv hv (.own0 base e)
  | own e => intro y; cases y <;> simp only [convT] <;> first | exact .top _ | exact pass_rep hI hinv hv (.own e)
  | mown e => intro y; cases y <;> simp only [convT] <;> first | exact .top _ | exact pass_rep hI hinv hv (.mown e)
  | cut0 base e => intro y; cases y <;> simp only [convT] <;> first | exact .top _ | exact pass_rep hI hinv hv (.cut0 base e)
  | cut e h1 h2 => intro y; cases y <;> simp only [convT] <;> first | exact .top _ | exact pass_rep hI hinv hv (.cut e h1 h2)
  | sub0 base e => intro y; cases y <;> simp only [convT] <;> first | exact .top _ | exact pass_rep hI hinv hv (.sub0 base e)
  | sub e h1 h2 h3 => intro y; cases y <;> simp only [convT] <;> first | exact .top _ | exact pass_rep hI hinv hv (.sub e h1 h2 h3)
  | ptr e => intro y; cases y <;> simp only [convT] <;> first | exact .top _ | exact pass_rep hI hinv hv (.ptr e)
  | ip u hb hc hr => intro y; cases y <;> simp only [convT] <;> first | exact .top _ | exact pass_rep hI hinv hv (.ip u hb hc hr)
  | tup hl hr ih => intro y; cases y <;> simp only [convT] <;> first | exact .top _ | exact pass_rep hI hinv hv (.tup hl hr)
  | fn hl hr ih => intro y; cases y <;> simp only [convT] <;> first | exact .top _ | exact pass_rep hI hinv hv (.fn hl hr)
  | gl g => intro y; cases y <;> simp only [convT] <;> first | exact .top _ | exact pass_rep hI hinv hv (.gl g)
def convTLL (inv : List (Nat × Nat)) (views : List (Nat × List (List Im))) (e0 : List Nat) : List (List AVal) → List (List AVal) → List (List AVal)
  | y :: ys, x :: xs => convTL inv views e0 y x :: convTLL inv views e0 ys xs
  | _, [] => []
  | [], x :: xs => convTL inv views e0 [] x :: convTLL inv views e0 [] xs
theorem convTLL_get {inv : List (Nat × Nat)} {views : List (Nat × List (List Im))} {e0 : List Nat} : ∀ (xs ys : List (List AVal)), (convTLL inv views e0 ys xs).length = xs.length ∧
    ∀ j (h : j < xs.length) (h' : j < (convTLL inv views e0 ys xs).length), (∃ y, (convTLL inv views e0 ys xs)[j] = convTL inv views e0 y (xs[j])) := by
  intro xs
  induction xs with
  | nil => intro ys; cases ys <;> exact ⟨by simp [convTLL], fun j h => absurd h (Nat.not_lt_zero _)⟩
  | cons x xs ih =>
    intro ys
    cases ys with
    | nil =>
      obtain ⟨h1, h2⟩ := ih []
      refine ⟨by simp [convTLL, h1], fun j h h' => ?_⟩
      cases j with
      | zero => exact ⟨[], by simp [convTLL]⟩
      | succ j => simp only [convTLL, List.getElem_cons_succ]; exact h2 j (by simpa using h) (by simpa [convTLL] using h')
    | cons y ys =>
      obtain ⟨h1, h2⟩ := ih ys
      refine ⟨by simp [convTLL, h1], fun j h h' => ?_⟩
      cases j with
      | zero => exact ⟨y, by simp [convTLL]⟩
      | succ j => simp only [convTLL, List.getElem_cons_succ]; exact h2 j (by simpa using h) (by simpa [convTLL] using h')
def datL : List AVal → Option (List Im)
  | [] => some []
  | .im x :: r => match datL r with
    | some l => some (x :: l)
    | none => none
  | _ => none
def datLL : List (List AVal) → Option (List (List Im))
  | [] => some []
  | g :: r => match datL g, datLL r with
    | some c, some l => some (c :: l)
    | _, _ => none
theorem datL_eq : ∀ {l : List AVal} {c : List Im}, datL l = some c → l = c.map .im := by
  intro l
  induction l with
  | nil => intro c h; obtain rfl := Option.some.inj h; rfl
  | cons x r ih =>
    intro c h
    cases x with
    | im x =>
      simp only [datL] at h
      split at h
      · rename_i l e; obtain rfl := Option.some.inj h; rw [List.map_cons, ← ih e]
      · simp at h
    | _ => simp [datL] at h
theorem datLL_eq : ∀ {l : List (List AVal)} {c : List (List Im)}, datLL l = some c → l = imL c := by
  intro l
  induction l with
  | nil => intro c h; obtain rfl := Option.some.inj h; rfl
  | cons x r ih =>
    intro c h
    simp only [datLL] at h
    split at h
    · rename_i d l e1 e2
      obtain rfl := Option.some.inj h
      show x :: r = d.map .im :: imL l
      rw [← datL_eq e1, ← ih e2]
    · simp at h
def tailOf : MObj → List (List AVal)
  | .arow _ _ _ fs => fs
  | _ => []
def keepOf : MObj → Option Nat
  | .arow _ _ _ fs => some fs.length
  | .row _ _ _ => some 0
  | _ => none
def rowOf : MObj → Bool
  | .row _ _ _ => true
  | _ => false
def convA (sz el : Nat) (es : List (List Im)) (fs : List (List AVal)) (keep : Option Nat) (row : Bool) : MObj :=
  match keep with
  | none => .arow sz el es fs
  | some n => match fs.length - n with
    | 0 => match row, fs with
      | true, [] => .row sz el es
      | _, _ => .arow sz el es fs
    | d + 1 => match datLL (fs.take (d + 1)) with
      | none => .arow sz el es fs
      | some c => match row, fs.drop (d + 1) with
        | true, [] => .row sz el (es ++ c)
        | _, gs => .arow sz el (es ++ c) gs
theorem ARow.toRow {w : World} {I : Nat → Prop} {κ : Nat → Option KI} {ki : KI} {sz el : Nat} {es : List (List Im)} (h : ARow w I κ ki sz el (imL es)) : ORep w I κ ki (.row sz el es) := by
  obtain ⟨h1, h2, h3, arr, h4, h5, h6⟩ := h
  rw [imL_length] at h2 h3
  refine ⟨h1, h2, h3, arr, h4, h5, fun i hi => ?_⟩
  obtain ⟨g1, g2⟩ := h6 i (by rw [imL_length]; exact hi)
  simp only [imL_get, List.length_map] at g1 g2
  refine ⟨g1, fun j hj => ?_⟩
  obtain ⟨v, e, r⟩ := g2 j hj
  simp only [List.getElem_map] at r
  cases r with
  | im r => exact ⟨v, e, r⟩
theorem imL_append (a b : List (List Im)) : imL (a ++ b) = imL a ++ imL b := List.map_append ..
theorem convA_ok {w : World} {I : Nat → Prop} {κ : Nat → Option KI} {ki : KI} {sz el : Nat} {es : List (List Im)} {fs : List (List AVal)} {keep : Option Nat} {row : Bool} (h : ARow w I κ ki sz el (imL es ++ fs)) : ORep w I κ ki (convA sz el es fs keep row) := by
  unfold convA
  split
  · exact h
  · rename_i n
    split
    · split
      · rw [List.append_nil] at h; exact ARow.toRow h
      · exact h
    · rename_i d _
      split
      · exact h
      · rename_i c hc
        have e := datLL_eq hc
        have e2 : imL es ++ fs = imL (es ++ c) ++ fs.drop (d + 1) := by rw [imL_append, ← e, List.append_assoc, List.take_append_drop]
        split
        · rename_i hd
          rw [hd, List.append_nil] at e2
          exact ARow.toRow (e2 ▸ h)
        · show ARow w I κ ki sz el (imL (es ++ c) ++ fs.drop (d + 1)); rw [← e2]; exact h
def convO (inv : List (Nat × Nat)) (views : List (Nat × List (List Im))) (e0 : List Nat) : MObj → MObj → MObj
  | .box _ ys, .box el xs => .box el (convTL inv views e0 ys xs)
  | _, .row sz el es => .row sz el es
  | _, .box el xs => .box el (convTL inv views e0 [] xs)
  | _, .map es => .map es
  | _, .dmap es => .dmap es
  | _, .iter m n sn => .iter (m.bind (look inv)) n sn
  | .amap _ ys, .amap ks xs => .amap ks (convTL inv views e0 ys xs)
  | _, .amap ks xs => .amap ks (convTL inv views e0 [] xs)
  | y, .arow sz el es fs => convA sz el es (convTLL inv views e0 (tailOf y) fs) (keepOf y) (rowOf y)
def emptyRow : MObj → Bool
  | .row _ _ [] => true
  | _ => false
def convObjs (s : AState) (inv : List (Nat × Nat)) (views : List (Nat × List (List Im))) (e0 : List Nat) : List (Nat × Option MObj) → Option (List (Nat × Option MObj))
  | [] => some []
  | (kc, some o) :: r => match isIn kc e0 && emptyRow o, convObjs s inv views e0 r with
    | true, some l => some ((kc, some o) :: l)
    | false, some l => match look (swapL inv) kc with
      | some k => match s.obj k with
        | some os => some ((kc, some (convO inv views e0 o os)) :: l)
        | none => none
      | none => none
    | _, none => none
  | (kc, none) :: r => match convObjs s inv views e0 r with
    | some l => some ((kc, none) :: l)
    | none => none
def convKeysOK (s : AState) (inv : List (Nat × Nat)) (views : List (Nat × List (List Im))) (e0 : List Nat) : Bool :=
  keysOK.distinct (inv.map (·.1)) && keysOK.distinct (inv.map (·.2)) && apart (inv.map (·.1)) (views.map (·.1)) && apart e0 (inv.map (·.2)) && e0.all (fun k => Nat.ble s.floor k) &&
  inv.all (fun p => Nat.beq p.1 p.2 || Nat.ble s.floor p.2)
def convS (s : AState) (inv : List (Nat × Nat)) (vk e0 : List Nat) (t : AState) : Option AState :=
  match viewsOf s vk with
  | some views => match convKeysOK s inv views e0, convObjs s inv views e0 t.objs with
    | true, some objs => some ⟨t.slots.map fun p => (p.1, convT inv views e0 p.2 (s.get p.1)), objs, s.floor⟩
    | _, _ => none
  | none => none
theorem look_map2 {α β : Type} (f : Nat → α → β) : ∀ (l : List (Nat × α)) (x : Nat) (v : β), look (l.map fun p => (p.1, f p.1 p.2)) x = some v → ∃ u, v = f x u := by
  intro l x v h
  obtain ⟨p, _, e⟩ := List.mem_map.1 (look_mem h)
  simp at e
  exact ⟨p.2, by rw [← e.2, e.1]⟩
theorem Sat.conv {Γ : Ctx} {s t t' : AState} {a : Act} {w : World} (inv : List (Nat × Nat)) (vk e0 : List Nat) (h : convS s inv vk e0 t = some t') (hs : Sat Γ s a w) : Sat Γ t' a w := by
  unfold convS at h
  split at h
  · rename_i views hviews
    split at h
    · rename_i objs hk hobjs
      obtain rfl := Option.some.inj h
      obtain ⟨κ, I, hr⟩ := hs
      simp only [convKeysOK, Bool.and_eq_true] at hk
      obtain ⟨⟨⟨⟨⟨k1, k2⟩, k3⟩, k4⟩, k5⟩, k6⟩ := hk
      rw [distinct_iff] at k1 k2
      rw [apart_iff] at k3 k4
      have hk2' : ((swapL inv).map (·.1)).Nodup := by simpa [swapL, Function.comp_def] using k2
      have hvo := viewsOf_ok hviews
      let κ' : Nat → Option KI := fun k => match isIn k e0 with
        | true => none
        | false => match look (swapL inv) k with
          | some k0 => κ k0
          | none => κ k
      let I' : Nat → Prop := fun b => I b ∨ ∃ k es ki, look views k = some es ∧ κ k = some ki ∧ ki.b = b
      have hI : ∀ b, I b → I' b := fun b h => .inl h
      have hview : ∀ k es, look views k = some es → ∃ sz el, s.obj k = some (.row sz el es) := fun k es h => hvo _ (look_mem h)
      have hv : ∀ k es, look views k = some es → (∃ sz el, OAt w I κ k (.row sz el es)) ∧ ∀ ki, κ k = some ki → I' ki.b := by
        intro k es h
        obtain ⟨sz, el, e⟩ := hview k es h
        exact ⟨⟨sz, el, hr.inv.objs k _ e⟩, fun ki hκ => .inr ⟨k, es, ki, h, hκ, rfl⟩⟩
      have hnote0 : ∀ k kc, (k, kc) ∈ inv → isIn kc e0 = false := by
        intro k kc hm
        cases e : isIn kc e0 with
        | false => rfl
        | true => exact absurd (List.mem_map.2 ⟨(k, kc), hm, rfl⟩) (k4 kc (isIn_iff.1 e))
      have hinvm : ∀ k kc, (k, kc) ∈ inv → κ' kc = κ k := by
        intro k kc hm
        have h1 : look (swapL inv) kc = some k := look_of_mem hk2' (List.mem_map.2 ⟨(k, kc), hm, rfl⟩)
        simp only [κ', hnote0 k kc hm, h1]
      have hinv : ∀ k kc, look inv k = some kc → κ' kc = κ k := fun k kc h => hinvm k kc (look_mem h)
      have he0 : ∀ k, isIn k e0 = true → κ' k = none := fun k h => by simp only [κ', h]
      have hobj : ∀ (l l' : List (Nat × Option MObj)), convObjs s inv views e0 l = some l' → ∀ kc o', (kc, some o') ∈ l' → (isIn kc e0 = true ∧ emptyRow o' = true) ∨ ∃ k o y, (k, kc) ∈ inv ∧ s.obj k = some o ∧ o' = convO inv views e0 y o := by
        intro l
        induction l with
        | nil => intro l' h kc o' hm; simp [convObjs] at h; subst h; simp at hm
        | cons p l ih =>
          intro l' h kc o' hm
          obtain ⟨kp, op⟩ := p
          cases op with
          | none =>
            simp only [convObjs] at h
            split at h
            · rename_i l2 h2
              obtain rfl := Option.some.inj h
              rcases List.mem_cons.1 hm with h3 | h3
              · simp at h3
              · exact ih l2 h2 kc o' h3
            · simp at h
          | some o =>
            simp only [convObjs] at h
            split at h
            · rename_i l2 hb h2
              obtain rfl := Option.some.inj h
              simp only [Bool.and_eq_true] at hb
              rcases List.mem_cons.1 hm with h3 | h3
              · simp at h3; obtain ⟨rfl, rfl⟩ := h3; exact .inl hb
              · exact ih l2 h2 kc o' h3
            · rename_i l2 hb h2
              split at h
              · rename_i k hk
                split at h
                · rename_i os hos
                  obtain rfl := Option.some.inj h
                  rcases List.mem_cons.1 hm with h3 | h3
                  · simp at h3; obtain ⟨rfl, rfl⟩ := h3
                    obtain ⟨p, hp, hpe⟩ := List.mem_map.1 (look_mem hk)
                    simp at hpe; obtain ⟨rfl, rfl⟩ := hpe
                    exact .inr ⟨p.1, os, o, hp, hos, rfl⟩
                  · exact ih l2 h2 kc o' h3
                · simp at h
              · simp at h
            · simp at h
      have hobj' : ∀ kc o', (⟨t.slots.map fun p => (p.1, convT inv views e0 p.2 (s.get p.1)), objs, s.floor⟩ : AState).obj kc = some o' →
          (isIn kc e0 = true ∧ emptyRow o' = true) ∨ ∃ k o y, (k, kc) ∈ inv ∧ s.obj k = some o ∧ o' = convO inv views e0 y o := by
        intro kc o' h
        simp only [AState.obj] at h
        cases e : look objs kc with
        | none => rw [e] at h; simp at h
        | some ov => rw [e] at h; have : ov = some o' := h; subst this; exact hobj _ _ hobjs kc o' (look_mem e)
      have hnv : ∀ k kc, (k, kc) ∈ inv → look views k = none := fun k kc hm => look_none (fun h => k3 k (List.mem_map.2 ⟨_, hm, rfl⟩) h)
      refine ⟨κ', I', hr.size, hr.defers, fun x => ?_, ?_, ?_, ?_, ?_, hr.inv.keep, fun b h => .inl (hr.inv.ikeep b h), ?_, ?_, ?_⟩
      · show Rep w I' κ' ((look (t.slots.map fun p => (p.1, convT inv views e0 p.2 (s.get p.1))) x).getD .top) _
        cases e : look (t.slots.map fun p => (p.1, convT inv views e0 p.2 (s.get p.1))) x with
        | none => exact .top _
        | some y =>
          obtain ⟨u, rfl⟩ := look_map2 (fun i u => convT inv views e0 u (s.get i)) t.slots x y e
          exact convT_rep hI hinv hv he0 (hr.slots x) u
      · intro kc o' h
        rcases hobj' kc o' h with ⟨h1, h2⟩ | ⟨k, o, y, hm, ho, rfl⟩
        · simp only [OAt, he0 kc h1]
          cases o' with
          | row sz el es => cases es with
            | nil => exact ⟨sz, el, rfl⟩
            | cons => simp [emptyRow] at h2
          | box => simp [emptyRow] at h2
          | map => simp [emptyRow] at h2
          | iter => simp [emptyRow] at h2
          | arow => simp [emptyRow] at h2
          | amap => simp [emptyRow] at h2
          | dmap => simp [emptyRow] at h2
        · have := hr.inv.objs k o ho
          unfold OAt at this ⊢
          rw [hinvm k kc hm]
          cases eκ : κ k with
          | none => rw [eκ] at this; obtain ⟨sz, el, rfl⟩ := this; exact ⟨sz, el, by cases y <;> rfl⟩
          | some ki =>
            rw [eκ] at this
            cases o with
            | row sz el es =>
              have hrow : convO inv views e0 y (.row sz el es) = .row sz el es := by cases y <;> rfl
              rw [hrow]
              obtain ⟨h1, h2, h3, arr, h4, h5, h6⟩ := this
              exact ⟨h1, h2, h3, arr, h4, h5, fun i hi => ⟨(h6 i hi).1, fun j hj => let ⟨u, a, b⟩ := (h6 i hi).2 j hj; ⟨u, a, b.mono hI (fun _ _ => rfl)⟩⟩⟩
            | box el cells =>
              obtain ⟨ys, hbox⟩ : ∃ ys, convO inv views e0 y (.box el cells) = .box el (convTL inv views e0 ys cells) := by cases y with | box _ ys => exact ⟨ys, rfl⟩ | _ => exact ⟨[], rfl⟩
              rw [hbox]
              obtain ⟨h1, h2, arr, h4, h5, h6⟩ := this
              obtain ⟨g1, g2⟩ := convTL_get (inv := inv) (views := views) (e0 := e0) cells ys
              refine ⟨h1, by rw [g1]; exact h2, arr, h4, by rw [g1]; exact h5, fun j hj => ?_⟩
              obtain ⟨u, a, b⟩ := h6 j (by omega)
              obtain ⟨y', e⟩ := g2 j (by omega) hj
              exact ⟨u, a, by rw [e]; exact convT_rep hI hinv hv he0 b y'⟩
            | map es =>
              have hmap : convO inv views e0 y (.map es) = .map es := by cases y <;> rfl
              rw [hmap]
              obtain ⟨arr, h1, h2, h3⟩ := this
              exact ⟨arr, h1, h2, fun i hi => let ⟨e, g1, g2, g3, g4⟩ := h3 i hi; ⟨e, g1, g2, g3, g4.mono hI (fun _ _ => rfl)⟩⟩
            | dmap es =>
              have hmap : convO inv views e0 y (.dmap es) = .dmap es := by cases y <;> rfl
              rw [hmap]
              obtain ⟨arr, h1, h2, h3⟩ := this
              exact ⟨arr, h1, h2, fun i hi => let ⟨e, g1, g2, g3, g4⟩ := h3 i hi; ⟨e, g1, g2, g3, g4.mono hI (fun _ _ => rfl) (fun _ _ => rfl)⟩⟩
            | iter m n sn =>
              have hit : convO inv views e0 y (.iter m n sn) = .iter (m.bind (look inv)) n sn := by cases y <;> rfl
              rw [hit]
              obtain ⟨bm, h1, h2⟩ := this
              refine ⟨bm, h1, fun m' e => ?_⟩
              cases m with
              | none => simp at e
              | some m0 =>
                obtain ⟨km, g1, g2⟩ := h2 m0 rfl
                exact ⟨km, (hinv m0 m' e).trans g1, g2⟩
            | amap ks xs =>
              obtain ⟨ys, hmap⟩ : ∃ ys, convO inv views e0 y (.amap ks xs) = .amap ks (convTL inv views e0 ys xs) := by cases y with | amap _ ys => exact ⟨ys, rfl⟩ | _ => exact ⟨[], rfl⟩
              rw [hmap]
              obtain ⟨h0, arr, h1, h2, h3⟩ := this
              obtain ⟨g1, g2⟩ := convTL_get (inv := inv) (views := views) (e0 := e0) xs ys
              refine ⟨by rw [g1]; exact h0, arr, h1, h2, fun i hi => ?_⟩
              obtain ⟨e, f1, f2, f3, f4⟩ := h3 i hi
              refine ⟨e, f1, f2, f3, fun h' => ?_⟩
              obtain ⟨y', e'⟩ := g2 i (by omega) h'
              rw [e']; exact convT_rep hI hinv hv he0 (f4 (by omega)) y'
            | arow sz el es fs =>
              have har : convO inv views e0 y (.arow sz el es fs) = convA sz el es (convTLL inv views e0 (tailOf y) fs) (keepOf y) (rowOf y) := by cases y <;> rfl
              rw [har]
              refine convA_ok ?_
              obtain ⟨c1, c2⟩ := convTLL_get (inv := inv) (views := views) (e0 := e0) fs (tailOf y)
              refine ARow.tail this hI (fun _ _ => rfl) c1 (fun i hi hi' => ?_) rfl
              obtain ⟨ys, e⟩ := c2 i hi hi'
              obtain ⟨g1, g2⟩ := convTL_get (inv := inv) (views := views) (e0 := e0) (fs[i]) ys
              refine ⟨by rw [e, g1], fun j g g' v r => ?_⟩
              obtain ⟨y', e'⟩ := g2 j g (by rw [g1]; exact g)
              simp only [e, e']
              exact convT_rep hI hinv hv he0 r y'
      · intro q1 q2 o1 o2 ki1 ki2 h1 h2 f1 f2 hbb
        rcases hobj' q1 o1 h1 with ⟨g1, _⟩ | ⟨k, o, y, hm, ho, rfl⟩
        · rw [he0 q1 g1] at f1; simp at f1
        · rcases hobj' q2 o2 h2 with ⟨g1, _⟩ | ⟨k', o', y', hm', ho', rfl⟩
          · rw [he0 q2 g1] at f2; simp at f2
          · rw [hinvm k q1 hm] at f1; rw [hinvm k' q2 hm'] at f2
            have := hr.inv.inj k k' o o' ki1 ki2 ho ho' f1 f2 hbb
            subst this
            have a1 := look_of_mem k1 hm
            have a2 := look_of_mem k1 hm'
            rw [a1] at a2; exact Option.some.inj a2
      · intro q o' ki h f hIb
        rcases hobj' q o' h with ⟨g1, _⟩ | ⟨k, o, y, hm, ho, rfl⟩
        · rw [he0 q g1] at f; simp at f
        · rw [hinvm k q hm] at f
          rcases hIb with hIb | ⟨k', es, ki', h1, h2, h3⟩
          · exact hr.inv.disj k o ki ho f hIb
          · obtain ⟨sz, el, e4⟩ := hview k' es h1
            have := hr.inv.inj k k' o _ ki ki' ho e4 f h2 h3.symm
            subst this
            rw [hnv k q hm] at h1; simp at h1
      · intro b hb
        rcases hb with hb | ⟨k, es, ki, h1, h2, rfl⟩
        · exact hr.inv.bound b hb
        · obtain ⟨sz, el, e4⟩ := hview k es h1
          have := hr.inv.objs k _ e4
          simp only [OAt, h2, ORep] at this
          obtain ⟨_, _, _, arr, h3, _⟩ := this
          exact (Array.getElem?_eq_some_iff.1 h3).1
      · intro b hb
        rcases hb with hb | ⟨k, es, ki, h1, h2, rfl⟩
        · exact hr.inv.fromI b hb
        · obtain ⟨sz, el, e4⟩ := hview k es h1
          exact .inr (hr.inv.fromO k _ ki e4 h2)
      · intro q o' ki h f
        rcases hobj' q o' h with ⟨g1, _⟩ | ⟨k, o, y, hm, ho, rfl⟩
        · rw [he0 q g1] at f; simp at f
        · rw [hinvm k q hm] at f
          exact hr.inv.fromO k o ki ho f
      · intro k hk
        have hk' : k < s.floor := hk
        have hne0 : isIn k e0 = false := by
          cases e : isIn k e0 with
          | false => rfl
          | true => have := List.all_eq_true.1 k5 k (isIn_iff.1 e); have := Nat.le_of_ble_eq_true this; omega
        rw [← hr.inv.fix k hk']
        simp only [κ', hne0]
        cases e : look (swapL inv) k with
        | none => rfl
        | some k0 =>
          obtain ⟨p, hp, hpe⟩ := List.mem_map.1 (look_mem e)
          simp at hpe; obtain ⟨h1, h2⟩ := hpe
          have := List.all_eq_true.1 k6 p hp
          simp only [Bool.or_eq_true] at this
          rcases this with h3 | h3
          · have h3 := Nat.eq_of_beq_eq_true h3
            simp only
            rw [← h2, h3, h1]
          · have := Nat.le_of_ble_eq_true h3; omega
    · simp at h
  · simp at h
theorem AWp.conv {Γ : Ctx} {c : Code} {Q : Exit → AState → Prop} {s t : AState} (inv : List (Nat × Nat)) (vk e0 : List Nat) (h : convS s inv vk e0 t = some t) (k : AWp Γ c Q t) : AWp Γ c Q s :=
  k.weaken fun _ _ hs => hs.conv inv vk e0 h
end Go.Pv
set_option linter.unusedVariables false
set_option linter.unusedSimpArgs false
namespace Go.Pv
def chk (p : Prop) [Decidable p] : Option Unit := if p then some () else none
def at? {α : Type} (xs : List α) (i : Int) : Option α := if 0 ≤ i then xs[i.toNat]? else none
inductive Flow (ρ σ : Type) where
  | ret (r : ρ)
  | out (s : σ)
theorem chk_of {p : Prop} [Decidable p] {α : Type} {f : Unit → Option α} {r : α} (h : (chk p >>= f) = some r) : p ∧ f () = some r := by
  unfold chk at h
  split at h
  · rename_i hp; exact ⟨hp, h⟩
  · simp at h
theorem at_of {α β : Type} {xs : List α} {i : Int} {f : α → Option β} {r : β} (h : (at? xs i >>= f) = some r) : ∃ b, 0 ≤ i ∧ xs[i.toNat]? = some b ∧ f b = some r := by
  unfold at? at h
  split at h
  · rename_i h0
    cases e : xs[i.toNat]? with
    | none => rw [e] at h; simp at h
    | some b => rw [e] at h; exact ⟨b, h0, rfl, h⟩
  · simp at h
theorem bind_of {α β : Type} {x : Option α} {f : α → Option β} {r : β} (h : (x >>= f) = some r) : ∃ b, x = some b ∧ f b = some r := by
  cases x with
  | none => simp at h
  | some b => exact ⟨b, rfl, h⟩
theorem el_map {α : Type} {xs : List α} {i : Nat} {b : α} (f : α → List Im) (h : xs[i]? = some b) : (xs.map f)[i]? = some (f b) := by rw [List.getElem?_map, h]; rfl
theorem all_len {α : Type} (xs : List α) (f : α → List Im) (n : Nat) (h : ∀ x, (f x).length = n) : ∀ c ∈ xs.map f, c.length = n := by
  intro c hc; obtain ⟨x, _, rfl⟩ := List.mem_map.1 hc; exact h x
theorem all_leaf {α : Type} (xs : List α) (f : α → List Im) (h : ∀ x, leaves ((f x).map .im) = true) : ∀ c ∈ xs.map f, leaves (c.map .im) = true := by
  intro c hc; obtain ⟨x, _, rfl⟩ := List.mem_map.1 hc; exact h x
theorem app2 {α : Type} (xs ys : List α) (f : α → List Im) : (xs ++ ys).map f = xs.map f ++ ys.map f := by simp
theorem set1 {α : Type} (xs : List α) (i : Nat) (y : α) (f : α → List Im) : (xs.set i y).map f = (xs.map f).set i (f y) := by rw [List.map_set]
theorem cut1 {α : Type} (xs : List α) (l n : Nat) (f : α → List Im) : ((xs.drop l).take n).map f = ((xs.map f).drop l).take n := by rw [List.map_take, List.map_drop]
abbrev iV (k : IntKind) (n : Int) : AVal := .im (.sc (.int k n))
abbrev bV (b : Bool) : AVal := .im (.sc (.bool b))
abbrev sV (s : ByteArray) : AVal := .im (.sc (.string s))
abbrev iI (k : IntKind) (n : Int) : Im := .sc (.int k n)
abbrev sI (s : ByteArray) : Im := .sc (.string s)
theorem reg {P : Program} {n : Nat} {Γ : Ctx} (hP : Γ.P = P) (hn : Γ.n = n) (hm : P.follows .mixedOrders = true) {id : Nat} {draw : Bool} {Q : Exit → AState → Prop} {s : AState} {ops : List Oper} (hints : List (Nat × Hint)) (live keeps : List Nat) (s' : AState) (ps : List Prop)
    (h : regionRun P n draw ops hints live keeps s = some (s', ps)) (hp : AllP ps) (hq : Q .normal s') : AWp Γ (.region id ops.toArray draw) Q s := by
  subst hP; subst hn; exact AWp.region hints live keeps s' ps hm h hp hq
theorem iT {α : Type} {b : Bool} {x y z : α} (c : b = true) (H : (if b = true then x else y) = z) : x = z := by rw [if_pos c] at H; exact H
theorem iF {α : Type} {b : Bool} {x y z : α} (c : b = false) (H : (if b = true then x else y) = z) : y = z := by rw [if_neg (by simp [c])] at H; exact H
def up (s : AState) (ch : List (Nat × AVal)) (live : List Nat) (oc : List (Nat × Option MObj)) (keeps : List Nat) : AState :=
  ⟨live.map fun x => (x, match look ch x with
    | some v => v
    | none => s.get x), keeps.map fun k => (k, match look oc k with
    | some o => o
    | none => s.obj k), s.floor⟩
theorem rg {P : Program} {n : Nat} {Γ : Ctx} (hP : Γ.P = P) (hn : Γ.n = n) (hm : P.follows .mixedOrders = true) {id : Nat} {draw : Bool} {Q : Exit → AState → Prop} {s : AState} {ops : List Oper} (hints : List (Nat × Hint)) (ch : List (Nat × AVal)) (live : List Nat) (oc : List (Nat × Option MObj)) (keeps : List Nat) (ps : List Prop)
    (h : regionRun P n draw ops hints live keeps s = some (up s ch live oc keeps, ps)) (hp : AllP ps) (hq : Q .normal (up s ch live oc keeps)) : AWp Γ (.region id ops.toArray draw) Q s := reg hP hn hm hints live keeps _ ps h hp hq
theorem rG {P : Program} {n : Nat} {Γ : Ctx} (hP : Γ.P = P) (hn : Γ.n = n) (hm : P.follows .mixedOrders = true) {id : Nat} {draw : Bool} {Q : Exit → AState → Prop} {s : AState} {ops : List Oper} (hints : List (Nat × Hint)) (ch : List (Nat × AVal)) (live : List Nat) (oc : List (Nat × Option MObj)) (keeps : List Nat) (ps : List Prop) (hp : AllP ps) (hq : Q .normal (up s ch live oc keeps))
    (h : regionRun P n draw ops hints live keeps s = some (up s ch live oc keeps, ps) := by kernel_rfl) : AWp Γ (.region id ops.toArray draw) Q s := reg hP hn hm hints live keeps _ ps h hp hq
theorem sR {P : Program} {n : Nat} {Γ : Ctx} (hP : Γ.P = P) (hn : Γ.n = n) (hm : P.follows .mixedOrders = true) {id : Nat} {draw : Bool} {y : Code} {Q : Exit → AState → Prop} {s : AState} {ops : List Oper} (hints : List (Nat × Hint)) (ch : List (Nat × AVal)) (live : List Nat) (oc : List (Nat × Option MObj)) (keeps : List Nat) (ps : List Prop) (hp : AllP ps) (hq : AWp Γ y Q (up s ch live oc keeps))
    (h : regionRun P n draw ops hints live keeps s = some (up s ch live oc keeps, ps) := by kernel_rfl) : AWp Γ (.seq (.region id ops.toArray draw) y) Q s := AWp.seq (reg hP hn hm hints live keeps _ ps h hp hq)
theorem rO {P : Program} {n : Nat} {Γ : Ctx} (hP : Γ.P = P) (hn : Γ.n = n) (hm : P.follows .mixedOrders = true) {id : Nat} {draw : Bool} {Q : Exit → AState → Prop} {s : AState} {ops : List Oper} (hints : List (Nat × Hint)) (ch : List (Nat × AVal)) (live : List Nat) (oc : List (Nat × Option MObj)) (keeps : List Nat) (hq : Q .normal (up s ch live oc keeps))
    (h : regionRun P n draw ops hints live keeps s = some (up s ch live oc keeps, []) := by kernel_rfl) : AWp Γ (.region id ops.toArray draw) Q s := reg hP hn hm hints live keeps _ [] h trivial hq
theorem sO {P : Program} {n : Nat} {Γ : Ctx} (hP : Γ.P = P) (hn : Γ.n = n) (hm : P.follows .mixedOrders = true) {id : Nat} {draw : Bool} {y : Code} {Q : Exit → AState → Prop} {s : AState} {ops : List Oper} (hints : List (Nat × Hint)) (ch : List (Nat × AVal)) (live : List Nat) (oc : List (Nat × Option MObj)) (keeps : List Nat) (hq : AWp Γ y Q (up s ch live oc keeps))
    (h : regionRun P n draw ops hints live keeps s = some (up s ch live oc keeps, []) := by kernel_rfl) : AWp Γ (.seq (.region id ops.toArray draw) y) Q s := AWp.seq (reg hP hn hm hints live keeps _ [] h trivial hq)
theorem sj {α : Type} {a b : α} (h : some a = some b) : a = b := Option.some.inj h
theorem LWp.conv {Γ : Ctx} {c : Code} {Q : Exit → AState → Prop} {s t : AState} (inv : List (Nat × Nat)) (vk e0 : List Nat) (h : convS s inv vk e0 t = some t) (k : LWp Γ c Q t) : LWp Γ c Q s :=
  fun a w hs => k a w (hs.conv inv vk e0 h)
theorem LWp.mono {Γ : Ctx} {c : Code} {Q Q' : Exit → AState → Prop} {s : AState} (h : LWp Γ c Q s) (hq : ∀ e s, Q e s → Q' e s) : LWp Γ c Q' s :=
  fun a w hs b k cs => let ⟨e, a', w', ⟨s', h1, h2⟩, h3⟩ := h a w hs b k cs; ⟨e, a', w', ⟨s', h1, hq _ _ h2⟩, h3⟩
def Cv (Γ : Ctx) (s t : AState) : Prop := ∀ a w, Sat Γ s a w → Sat Γ t a w
theorem rl {Γ : Ctx} {s : AState} {A : Prop} {F R O : AState → Prop} (a : A) (f : F s) (r : R s) (o : O s) : ∃ t, Cv Γ s t ∧ A ∧ F t ∧ R t ∧ O t := ⟨s, fun _ _ h => h, a, f, r, o⟩
theorem AWp.cv {Γ : Ctx} {c : Code} {Q : Exit → AState → Prop} {s : AState} (h : AWp Γ c (fun e s' => ∃ t, Cv Γ s' t ∧ Q e t) s) : AWp Γ c Q s :=
  fun a w hs => Code.wp_mono (fun e a w ⟨s', h1, t, h2, h3⟩ => ⟨t, h2 a w h1, h3⟩) (h a w hs)
theorem LWp.cv {Γ : Ctx} {c : Code} {Q : Exit → AState → Prop} {s : AState} (h : LWp Γ c (fun e s' => ∃ t, Cv Γ s' t ∧ Q e t) s) : LWp Γ c Q s :=
  fun a w hs b k cs => let ⟨e, a', w', ⟨s', h1, t, h2, h3⟩, h4⟩ := h a w hs b k cs; ⟨e, a', w', ⟨t, h2 a' w' h1, h3⟩, h4⟩
def RetK (P : Program) (fn : Func) (floor : Nat) (keys : List Nat) (x : AVal) (o : List (Nat × Option MObj)) (e : Exit) (s : AState) : Prop :=
  (e = .ret ∨ e = .normal) ∧ s.floor = floor ∧ resOf P fn s = some x ∧ (keys.map fun k => (k, s.obj k)) = o
theorem look_keys (s : AState) : ∀ (keys : List Nat) (k : Nat) (o : MObj), (look (keys.map fun k => (k, s.obj k)) k).getD none = some o → s.obj k = some o := by
  intro keys
  induction keys with
  | nil => intro k o h; simp [look] at h
  | cons q r ih =>
    intro k o h
    rw [List.map_cons, look_cons] at h
    split at h
    · rename_i e; subst e; exact h
    · exact ih k o h
theorem Fn.bodyK {P : Program} {f : FuncId} {fn : Func} {c : Code} {args : List AVal} {objs : List (Nat × Option MObj)} {floor : Nat} {x : AVal} {o : List (Nat × Option MObj)} (keys : List Nat)
    (hf : P.funcs[f]? = some fn) (hb : fn.body = some c) (hn : Nat.ble args.length fn.ntmps = true)
    (h : ∀ Γ : Ctx, Γ.P = P → Γ.n = fn.ntmps → AWp Γ c (fun e s' => ∃ t, Cv Γ s' t ∧ RetK P fn floor keys x o e t) ⟨argSlots args 0, objs, floor⟩) : Fn P f args objs floor (fun r o' => r = x ∧ o' = o) := by
  have h1 : Fn P f args objs floor (fun r o' => r = x ∧ (keys.map fun k => (k, (⟨[], o', floor⟩ : AState).obj k)) = o) := Fn.body hf hb hn (fun Γ hP hΓ => ((h Γ hP hΓ).cv).mono fun e s ⟨he, hfl, hr, ho⟩ => ⟨he, hfl, x, hr, rfl, ho⟩)
  intro κ I w vs hl hreps hg hinv
  refine (h1 κ I w vs hl hreps hg hinv).mono fun e w' ⟨v, r, o', κ', I', e1, ⟨e2, e5⟩, e3, e4⟩ => ⟨v, r, o, κ', I', e1, ⟨e2, rfl⟩, e3, e4.eqv (fun k q hk => ?_) rfl⟩
  subst e5
  exact look_keys ⟨[], o', floor⟩ keys k q hk
abbrev encInt (k : IntKind) (n : Int) : List Im := [.sc (.int k n)]
abbrev encStr (s : ByteArray) : List Im := [.sc (.string s)]
abbrev I64 (n : Int) : Prop := -9223372036854775808 ≤ n ∧ n < 9223372036854775808
end Go.Pv
set_option linter.unusedVariables false
set_option linter.unusedSimpArgs false
namespace Go.Pv
structure PL where
  ps : List Prop
  ok : AllP ps
abbrev PL.n : PL := ⟨[], trivial⟩
abbrev PL.c {p : Prop} (h : p) (l : PL) : PL := ⟨p :: l.ps, h, l.ok⟩
structure HI where
  h : Hint
  l : PL
def hintsOf : List (Nat × HI) → List (Nat × Hint)
  | [] => []
  | (i, x) :: r => (i, x.h) :: hintsOf r
def appP : List Prop → List Prop → List Prop
  | [], l => l
  | p :: r, l => p :: appP r l
def propsOf : List (Nat × HI) → List Prop
  | [] => []
  | (_, x) :: r => appP x.l.ps (propsOf r)
theorem appP_ok : ∀ {a b : List Prop}, AllP a → AllP b → AllP (appP a b)
  | [], _, _, h => h
  | _ :: _, _, h, k => ⟨h.1, appP_ok h.2 k⟩
theorem propsOf_ok : ∀ l : List (Nat × HI), AllP (propsOf l)
  | [] => trivial
  | (_, x) :: r => appP_ok x.l.ok (propsOf_ok r)
def regionAll (P : Program) (n : Nat) (draw : Bool) (ops : List Oper) (hints : List (Nat × Hint)) (s : AState) : Option (AState × List Prop) :=
  match runOps P n ops.toArray hints ops 0 s with
  | some (its, s', ps) => match draw with
    | false => some (s', ps)
    | true => match okFrom ops.toArray (masks ops []) [] its && newsAll its s with
      | true => some (s', ps)
      | false => none
  | none => none
theorem AWp.regionAll {Γ : Ctx} {id : Nat} {draw : Bool} {Q : Exit → AState → Prop} {s : AState} {ops : List Oper} (hints : List (Nat × Hint)) (s' : AState) (ps : List Prop)
    (hm : Γ.P.follows .mixedOrders = true) (h : Pv.regionAll Γ.P Γ.n draw ops hints s = some (s', ps)) (hp : AllP ps) (hq : Q .normal s') : AWp Γ (.region id ops.toArray draw) Q s := by
  unfold Pv.regionAll at h
  split at h
  · rename_i its s2 ps2 hr
    have key : ∀ ps', AllP ps' → ps' = ps2 → its.map (·.1) = ops ∧ validAll Γ.P ops.toArray its s ∧ stepAll its s = s2 ∧ its.all (fun it => match it.1.dst with | some d => Nat.blt d Γ.n | none => true) = true :=
      fun ps' hp' e => runOps_ok hr (e ▸ hp')
    have fin : s' = s2 → ps = ps2 → (draw = true → okFrom ops.toArray (masks ops []) [] its = true ∧ newsAll its s = true) → AWp Γ (.region id ops.toArray draw) Q s := by
      intro e1 e2 hdraw
      obtain ⟨g1, g2, g3, g4⟩ := key ps hp e2
      have hq' : ∀ a w, Sat Γ s2 a w → ∃ s3, Sat Γ s3 a w ∧ Q .normal s3 := fun a w h => ⟨s', e1 ▸ h, hq⟩
      subst g1
      cases draw with
      | false =>
        intro a w hs
        exact Code.wp_mono (fun e a w ⟨s3, h1, h2⟩ => by
          cases e with
          | normal => simp only at h2; subst h2; exact hq' a w (g3 ▸ h1)
          | _ => exact h2.elim) (region_plain (Q := fun e s3 => match e with | .normal => s3 = stepAll its s | _ => False) its g4 g2 rfl a w hs)
      | true =>
        obtain ⟨d1, d2⟩ := hdraw rfl
        have hf : ∀ it ∈ its, ∀ k ∈ it.news, s.fresh k := fun it hit k hk => freshB_ok (List.all_eq_true.1 (List.all_eq_true.1 d2 it hit) k hk)
        intro a w hs
        exact Code.wp_mono (fun e a w ⟨s3, h1, h2⟩ => by
          cases e with
          | normal => simp only at h2; subst h2; exact hq' a w (g3 ▸ h1)
          | _ => exact h2.elim) (region_draw (Q := fun e s3 => match e with | .normal => s3 = stepAll its s | _ => False) hm its g4 d1 g2 hf rfl a w hs)
    split at h
    · simp at h; exact fin h.1.symm h.2.symm (fun e => by simp at e)
    · split at h
      · rename_i hb
        simp only [Bool.and_eq_true] at hb
        simp at h; exact fin h.1.symm h.2.symm (fun _ => hb)
      · simp at h
  · simp at h
inductive Fr where
  | s (c : Code)
  | b (id : Nat)
def Qof (Γ : Ctx) : List Fr → (Exit → AState → Prop) → Exit → AState → Prop
  | [], Q => Q
  | .s y :: K, Q => seqQ (AWp Γ y (Qof Γ K Q)) (Qof Γ K Q)
  | .b id :: K, Q => blockQ id (Qof Γ K Q)
def Pt (Γ : Ctx) (Q : Exit → AState → Prop) (s : AState) : Code → Prop
  | .skip => Q .normal s
  | .exit id => Q (.exit id) s
  | .ret => Q .ret s
  | c => AWp Γ c Q s
theorem Pt.awp {Γ : Ctx} {Q : Exit → AState → Prop} {s : AState} {c : Code} (h : Pt Γ Q s c) : AWp Γ c Q s := by
  cases c with
  | skip => exact .skip h
  | exit id => exact .exit h
  | ret => exact .ret h
  | _ => exact h
def norm : Nat → Code → List Fr → Code × List Fr
  | 0, c, K => (c, K)
  | f + 1, c, K => match c with
    | .skip => match K with
      | [] => (.skip, [])
      | .s y :: K => norm f y K
      | .b _ :: K => norm f .skip K
    | .exit id => match K with
      | [] => (.exit id, [])
      | .s _ :: K => norm f (.exit id) K
      | .b i :: K => match Nat.beq id i with
        | true => norm f .skip K
        | false => norm f (.exit id) K
    | .ret => (.ret, [])
    | .seq x y => norm f x (.s y :: K)
    | c => (c, K)
theorem Qof_ret (Γ : Ctx) (Q : Exit → AState → Prop) (s : AState) : ∀ K, Qof Γ K Q .ret s = Q .ret s
  | [] => rfl
  | .s _ :: K => Qof_ret Γ Q s K
  | .b _ :: K => Qof_ret Γ Q s K
theorem norm_ok {Γ : Ctx} {Q : Exit → AState → Prop} {s : AState} : ∀ (f : Nat) (c : Code) (K : List Fr), Pt Γ (Qof Γ (norm f c K).2 Q) s (norm f c K).1 → Pt Γ (Qof Γ K Q) s c := by
  intro f
  induction f with
  | zero => intro c K h; exact h
  | succ f ih =>
    intro c K h
    cases c with
    | skip =>
      cases K with
      | nil => exact h
      | cons x K =>
        cases x with
        | s y => exact (ih y K h).awp
        | b i => exact ih .skip K h
    | exit id =>
      cases K with
      | nil => exact h
      | cons x K =>
        cases x with
        | s y => exact ih (.exit id) K h
        | b i =>
          show (if id = i then Qof Γ K Q .normal s else Qof Γ K Q (.exit id) s)
          simp only [norm] at h
          split at h
          · rename_i e; rw [if_pos (Nat.eq_of_beq_eq_true e)]; exact ih .skip K h
          · rename_i e; rw [if_neg (Nat.ne_of_beq_eq_false e)]; exact ih (.exit id) K h
    | ret => simp only [norm] at h; show Qof Γ K Q .ret s; rw [Qof_ret]; exact h
    | seq x y => exact AWp.seq (ih x (.s y :: K) h).awp
    | _ => exact h
inductive Tgt where
  | st (e : Exit) (s : AState)
  | ret (x : AVal) (o : List (Nat × Option MObj))
structure Lp (X O : Type) where
  F : (X → Option O) → X → Option O
  l : X → Option O
  pc : ∀ M : X → O → Prop, (∀ g, (∀ x o, g x = some o → M x o) → ∀ x o, F g x = some o → M x o) → ∀ x o, l x = some o → M x o
abbrev CI := List (Nat × Nat)
mutual
inductive HT : {ρ X : Type} → (X → Option ρ) → Option ρ → Type 1
  | no {ρ X : Type} {g : X → Option ρ} : HT g none
  | ck {ρ X : Type} {g : X → Option ρ} {p : Prop} [Decidable p] {f : Unit → Option ρ} (k : p → HT g (f ())) : HT g (chk p >>= f)
  | el {ρ X : Type} {g : X → Option ρ} {α : Type} {xs : List α} {i : Int} {f : α → Option ρ} (k : ∀ b, 0 ≤ i → xs[i.toNat]? = some b → HT g (f b)) : HT g (at? xs i >>= f)
  | bd {ρ X : Type} {g : X → Option ρ} {α : Type} {m : Option α} {f : α → Option ρ} (k : ∀ t, m = some t → HT g (f t)) : HT g (m >>= f)
  | sp {ρ X : Type} {g : X → Option ρ} {b : Bool} {x y : Option ρ} (t : b = true → HT g x) (e : b = false → HT g y) : HT g (if b = true then x else y)
  | cd {ρ X : Type} {g : X → Option ρ} {b : Bool} {x y : Option ρ} (t : b = true → HT g x) (e : b = false → HT g y) : HT g (if b = true then x else y)
  | cl {ρ X : Type} {g : X → Option ρ} {x : Option ρ} {b v : Bool} (h : b = v) (k : HT g x) : HT g x
  | rg {ρ X : Type} {g : X → Option ρ} {x : Option ρ} (hs : List (Nat × HI)) (k : HT g x) : HT g x
  | bl {ρ X : Type} {g : X → Option ρ} {x : Option ρ} (k : HT g x) : HT g x
  | cv {ρ X : Type} {g : X → Option ρ} {x : Option ρ} (inv : CI) (vk e0 : List Nat) (t : AState) (k : HT g x) : HT g x
  | out {ρ X : Type} {g : X → Option ρ} {o : ρ} (inv : CI) (vk e0 : List Nat) : HT g (some o)
  | ret {ρ X : Type} {g : X → Option ρ} {o : ρ} (inv : CI) (vk e0 : List Nat) (t : AState) : HT g (some o)
  | back {ρ X : Type} {g : X → Option ρ} {y : Option ρ} {x : X} (inv : CI) (vk e0 : List Nat) (h : y = g x) : HT g y
  | join {ρ X : Type} {g : X → Option ρ} {O : Type} {m : Option O} {f : O → Option ρ} (sub : HT (fun x : Empty => (nomatch x : Option O)) m) (a : Arm g f) : HT g (m >>= f)
  | loop {ρ X : Type} {g : X → Option ρ} {Y O : Type} {f : O → Option ρ} (lp : Lp Y O) (x0 : Y) (inv : CI) (vk e0 : List Nat) (b : ∀ g', Bd g' (lp.F g')) (a : Arm g f) : HT g (lp.l x0 >>= f)
inductive Arm : {ρ X O : Type} → (X → Option ρ) → (O → Option ρ) → Type 1
  | st {ρ X O : Type} {g : X → Option ρ} {f : O → Option ρ} (e : Exit) (s : O → AState) (k : ∀ o, HT g (f o)) : Arm g f
  | pr {ρ X A B : Type} {g : X → Option ρ} {f : A × B → Option ρ} (k : ∀ a, Arm g (fun b => f (a, b))) : Arm g f
  | sm {ρ X A B : Type} {g : X → Option ρ} {f : A ⊕ B → Option ρ} (a : Arm g (fun x => f (.inl x))) (b : Arm g (fun x => f (.inr x))) : Arm g f
  | rt {ρ X O : Type} {g : X → Option ρ} {h : O → ρ} (x : O → AVal) (o : O → List (Nat × Option MObj)) : Arm g (fun q => some (h q))
inductive Bd : {ρ X Y : Type} → (X → Option ρ) → (Y → Option ρ) → Type 1
  | one {ρ X Y : Type} {g : X → Option ρ} {F : Y → Option ρ} (s : Y → AState) (k : ∀ y, HT g (F y)) : Bd g F
  | pr {ρ X A B : Type} {g : X → Option ρ} {F : A × B → Option ρ} (k : ∀ a, Bd g (fun b => F (a, b))) : Bd g F
end
def Arm.tau : {ρ X O : Type} → {g : X → Option ρ} → {f : O → Option ρ} → Arm g f → O → Tgt
  | _, _, _, _, _, .st e s _, o => .st e (s o)
  | _, _, _, _, _, .pr k, o => (k o.1).tau o.2
  | _, _, _, _, _, .sm a b, o => match o with
    | .inl x => a.tau x
    | .inr y => b.tau y
  | _, _, _, _, _, .rt x o, q => .ret (x q) (o q)
def Bd.S : {ρ X Y : Type} → {g : X → Option ρ} → {F : Y → Option ρ} → Bd g F → Y → AState
  | _, _, _, _, _, .one s _, y => s y
  | _, _, _, _, _, .pr k, y => (k y.1).S y.2
end Go.Pv
set_option linter.unusedVariables false
set_option linter.unusedSimpArgs false
namespace Go.Pv
structure En where
  P : Program
  n : Nat
  fn : Func
  floor : Nat
  keys : List Nat
def codeOf : Exit → Code
  | .normal => .skip
  | .exit id => .exit id
  | _ => .ret
def exitOf : Code → Option Exit
  | .skip => some .normal
  | .exit id => some (.exit id)
  | .ret => some .ret
  | _ => none
def okE : Nat → Exit → Bool
  | 2, .normal => false
  | _, .normal => true
  | _, .exit _ => true
  | _, _ => false
def okR : Nat → Code → Bool
  | _, .ret => true
  | 0, .skip => true
  | _, _ => false
def isC : Code → Bool
  | .skip => false
  | .exit _ => false
  | .ret => false
  | _ => true
abbrev nm (c : Code) (K : List Fr) : Code × List Fr := norm 1000 c K
def chkOut (m : Nat) (t : Tgt) (inv : CI) (vk e0 : List Nat) (s : AState) : Code × List Fr → Prop
  | (c, []) => match t with
    | .st e u => exitOf c = some e ∧ okE m e = true ∧ convS s inv vk e0 u = some u
    | .ret _ _ => False
  | _ => False
def chkRet (E : En) (m : Nat) (t : Tgt) (inv : CI) (vk e0 : List Nat) (u s : AState) : Code × List Fr → Prop
  | (c, []) => match t with
    | .ret x o => okR m c = true ∧ convS s inv vk e0 u = some u ∧ u.floor = E.floor ∧ resOf E.P E.fn u = some x ∧ (E.keys.map fun k => (k, u.obj k)) = o
    | .st _ _ => False
  | _ => False
def chkBack (S : AState) (inv : CI) (vk e0 : List Nat) (s : AState) : Code × List Fr → Prop
  | (.skip, []) => convS s inv vk e0 S = some S
  | _ => False
def chkReg (ps : List Prop) (Q : List Fr → AState → Prop) (K : List Fr) : Option (AState × List Prop) → Prop
  | some (s', ps') => ps' = ps ∧ Q K s'
  | none => False
mutual
def HT.chk (E : En) : {ρ X : Type} → {g : X → Option ρ} → {x : Option ρ} → HT g x → Nat → (ρ → Tgt) → (X → AState) → Code → List Fr → AState → Prop
  | _, _, _, _, .no, _, _, _, _, _, _ => True
  | _, _, _, _, @HT.ck _ _ _ _ _ _ k, m, τ, S, c, K, s => ∀ h, (k h).chk E m τ S c K s
  | _, _, _, _, .el k, m, τ, S, c, K, s => ∀ b h0 h1, (k b h0 h1).chk E m τ S c K s
  | _, _, _, _, .bd k, m, τ, S, c, K, s => ∀ t h, (k t h).chk E m τ S c K s
  | _, _, _, _, .sp t e, m, τ, S, c, K, s => (∀ h, (t h).chk E m τ S c K s) ∧ (∀ h, (e h).chk E m τ S c K s)
  | _, _, _, _, .cd (b := b) t e, m, τ, S, c, K, s => match nm c K with
    | (.cond o x y, K') => s.eval o = .im (.sc (.bool b)) ∧ (∀ h, (t h).chk E m τ S x K' s) ∧ (∀ h, (e h).chk E m τ S y K' s)
    | _ => False
  | _, _, _, _, .cl (b := b) (v := v) h k, m, τ, S, c, K, s => match nm c K with
    | (.cond o x y, K') => s.eval o = .im (.sc (.bool b)) ∧ match v with
      | true => k.chk E m τ S x K' s
      | false => k.chk E m τ S y K' s
    | _ => False
  | _, _, _, _, .rg hs k, m, τ, S, c, K, s => match nm c K with
    | (.region _ ⟨ops⟩ draw, K') => chkReg (propsOf hs) (fun K' s' => k.chk E m τ S .skip K' s') K' (regionAll E.P E.n draw ops (hintsOf hs) s)
    | _ => False
  | _, _, _, _, .bl k, m, τ, S, c, K, s => match nm c K with
    | (.block id b, K') => k.chk E m τ S b (.b id :: K') s
    | _ => False
  | _, _, _, _, .cv inv vk e0 t k, m, τ, S, c, K, s => match nm c K with
    | (c', K') => isC c' = true ∧ convS s inv vk e0 t = some t ∧ k.chk E m τ S c' K' t
  | _, _, _, _, .out (o := o) inv vk e0, m, τ, S, c, K, s => chkOut m (τ o) inv vk e0 s (nm c K)
  | _, _, _, _, .ret (o := o) inv vk e0 t, m, τ, S, c, K, s => chkRet E m (τ o) inv vk e0 t s (nm c K)
  | _, _, _, _, .back (x := x) inv vk e0 _, m, τ, S, c, K, s => chkBack (S x) inv vk e0 s (nm c K)
  | _, _, _, _, .join sub a, m, τ, S, c, K, s => match nm c K with
    | (c', K') => isC c' = true ∧ sub.chk E 1 a.tau (fun x => nomatch x) c' [] s ∧ a.chk E m τ S K'
  | _, _, _, _, .loop lp x0 inv vk e0 b a, m, τ, S, c, K, s => match nm c K with
    | (.loop c', K') => convS s inv vk e0 ((b lp.l).S x0) = some ((b lp.l).S x0) ∧ (∀ g', (b g').chk E a.tau (b lp.l).S (b lp.l).S c') ∧ a.chk E m τ S K'
    | _ => False
def Arm.chk (E : En) : {ρ X O : Type} → {g : X → Option ρ} → {f : O → Option ρ} → Arm g f → Nat → (ρ → Tgt) → (X → AState) → List Fr → Prop
  | _, _, _, _, _, .st e s k, m, τ, S, K => ∀ o, (k o).chk E m τ S (codeOf e) K (s o)
  | _, _, _, _, _, .pr k, m, τ, S, K => ∀ a, (k a).chk E m τ S K
  | _, _, _, _, _, .sm a b, m, τ, S, K => a.chk E m τ S K ∧ b.chk E m τ S K
  | _, _, _, _, _, .rt (h := h) x o, m, τ, S, K => ∀ q, τ (h q) = .ret (x q) (o q)
def Bd.chk (E : En) : {ρ X Y : Type} → {g : X → Option ρ} → {F : Y → Option ρ} → Bd g F → (ρ → Tgt) → (X → AState) → (Y → AState) → Code → Prop
  | _, _, _, _, _, .one s k, τ, S, T, c => ∀ y, s y = T y ∧ (k y).chk E 2 τ S c [] (s y)
  | _, _, _, _, _, .pr k, τ, S, T, c => ∀ a, (k a).chk E τ S (fun b => T (a, b)) c
end
def skOut (m : Nat) (t : Tgt) : Prop := match t with
  | .st e u => some e = some e ∧ true = true ∧ some u = some u
  | .ret _ _ => True
def skRet (E : En) (t : Tgt) (u : AState) : Prop := match t with
  | .ret x o => true = true ∧ some u = some u ∧ u.floor = u.floor ∧ some x = some x ∧ o = o
  | .st _ _ => True
mutual
def HT.sk (E : En) : {ρ X : Type} → {g : X → Option ρ} → {x : Option ρ} → HT g x → Nat → (ρ → Tgt) → (X → AState) → Prop
  | _, _, _, _, .no, _, _, _ => True
  | _, _, _, _, @HT.ck _ _ _ _ _ _ k, m, τ, S => ∀ h, (k h).sk E m τ S
  | _, _, _, _, .el k, m, τ, S => ∀ b h0 h1, (k b h0 h1).sk E m τ S
  | _, _, _, _, .bd k, m, τ, S => ∀ t h, (k t h).sk E m τ S
  | _, _, _, _, .sp t e, m, τ, S => (∀ h, (t h).sk E m τ S) ∧ (∀ h, (e h).sk E m τ S)
  | _, _, _, _, .cd (b := b) t e, m, τ, S => AVal.im (.sc (.bool b)) = .im (.sc (.bool b)) ∧ (∀ h, (t h).sk E m τ S) ∧ (∀ h, (e h).sk E m τ S)
  | _, _, _, _, .cl (b := b) h k, m, τ, S => AVal.im (.sc (.bool b)) = .im (.sc (.bool b)) ∧ k.sk E m τ S
  | _, _, _, _, .rg hs k, m, τ, S => propsOf hs = propsOf hs ∧ k.sk E m τ S
  | _, _, _, _, .bl k, m, τ, S => k.sk E m τ S
  | _, _, _, _, .cv inv vk e0 t k, m, τ, S => true = true ∧ some t = some t ∧ k.sk E m τ S
  | _, _, _, _, .out (o := o) inv vk e0, m, τ, S => skOut m (τ o)
  | _, _, _, _, .ret (o := o) inv vk e0 t, m, τ, S => skRet E (τ o) t
  | _, _, _, _, .back (x := x) inv vk e0 _, m, τ, S => some (S x) = some (S x)
  | _, _, _, _, .join sub a, m, τ, S => true = true ∧ sub.sk E 1 a.tau (fun x => nomatch x) ∧ a.sk E m τ S
  | _, _, _, _, .loop lp x0 inv vk e0 b a, m, τ, S => some ((b lp.l).S x0) = some ((b lp.l).S x0) ∧ (∀ g', (b g').sk E a.tau (b lp.l).S (b lp.l).S) ∧ a.sk E m τ S
def Arm.sk (E : En) : {ρ X O : Type} → {g : X → Option ρ} → {f : O → Option ρ} → Arm g f → Nat → (ρ → Tgt) → (X → AState) → Prop
  | _, _, _, _, _, .st e s k, m, τ, S => ∀ o, (k o).sk E m τ S
  | _, _, _, _, _, .pr k, m, τ, S => ∀ a, (k a).sk E m τ S
  | _, _, _, _, _, .sm a b, m, τ, S => a.sk E m τ S ∧ b.sk E m τ S
  | _, _, _, _, _, .rt (h := h) x o, m, τ, S => ∀ q, τ (h q) = τ (h q)
def Bd.sk (E : En) : {ρ X Y : Type} → {g : X → Option ρ} → {F : Y → Option ρ} → Bd g F → (ρ → Tgt) → (X → AState) → (Y → AState) → Prop
  | _, _, _, _, _, .one s k, τ, S, T => ∀ y, T y = T y ∧ (k y).sk E 2 τ S
  | _, _, _, _, _, .pr k, τ, S, T => ∀ a, (k a).sk E τ S (fun b => T (a, b))
end
theorem skOut_ok (m : Nat) (t : Tgt) : skOut m t := by cases t <;> simp [skOut]
theorem skRet_ok (E : En) (t : Tgt) (u : AState) : skRet E t u := by cases t <;> simp [skRet]
mutual
theorem HT.sk_ok (E : En) : ∀ {ρ X : Type} {g : X → Option ρ} {x : Option ρ} (t : HT g x) (m : Nat) (τ : ρ → Tgt) (S : X → AState), t.sk E m τ S
  | _, _, _, _, .no, m, τ, S => trivial
  | _, _, _, _, @HT.ck _ _ _ _ _ _ k, m, τ, S => fun h => (k h).sk_ok E m τ S
  | _, _, _, _, .el k, m, τ, S => fun b h0 h1 => (k b h0 h1).sk_ok E m τ S
  | _, _, _, _, .bd k, m, τ, S => fun t h => (k t h).sk_ok E m τ S
  | _, _, _, _, .sp t e, m, τ, S => ⟨fun h => (t h).sk_ok E m τ S, fun h => (e h).sk_ok E m τ S⟩
  | _, _, _, _, .cd t e, m, τ, S => ⟨rfl, fun h => (t h).sk_ok E m τ S, fun h => (e h).sk_ok E m τ S⟩
  | _, _, _, _, .cl h k, m, τ, S => ⟨rfl, k.sk_ok E m τ S⟩
  | _, _, _, _, .rg hs k, m, τ, S => ⟨rfl, k.sk_ok E m τ S⟩
  | _, _, _, _, .bl k, m, τ, S => k.sk_ok E m τ S
  | _, _, _, _, .cv inv vk e0 t k, m, τ, S => ⟨rfl, rfl, k.sk_ok E m τ S⟩
  | _, _, _, _, .out inv vk e0, m, τ, S => skOut_ok m _
  | _, _, _, _, .ret inv vk e0 t, m, τ, S => skRet_ok E _ t
  | _, _, _, _, .back (x := x) inv vk e0 _, m, τ, S => rfl
  | _, _, _, _, .join sub a, m, τ, S => ⟨rfl, sub.sk_ok E 1 a.tau _, a.sk_ok E m τ S⟩
  | _, _, _, _, .loop lp x0 inv vk e0 b a, m, τ, S => ⟨rfl, fun g' => (b g').sk_ok E a.tau _ _, a.sk_ok E m τ S⟩
theorem Arm.sk_ok (E : En) : ∀ {ρ X O : Type} {g : X → Option ρ} {f : O → Option ρ} (a : Arm g f) (m : Nat) (τ : ρ → Tgt) (S : X → AState), a.sk E m τ S
  | _, _, _, _, _, .st e s k, m, τ, S => fun o => (k o).sk_ok E m τ S
  | _, _, _, _, _, .pr k, m, τ, S => fun a => (k a).sk_ok E m τ S
  | _, _, _, _, _, .sm a b, m, τ, S => ⟨a.sk_ok E m τ S, b.sk_ok E m τ S⟩
  | _, _, _, _, _, .rt x o, m, τ, S => fun q => rfl
theorem Bd.sk_ok (E : En) : ∀ {ρ X Y : Type} {g : X → Option ρ} {F : Y → Option ρ} (b : Bd g F) (τ : ρ → Tgt) (S : X → AState) (T : Y → AState), b.sk E τ S T
  | _, _, _, _, _, .one s k, τ, S, T => fun y => ⟨rfl, (k y).sk_ok E 2 τ S⟩
  | _, _, _, _, _, .pr k, τ, S, T => fun a => (k a).sk_ok E τ S _
end
end Go.Pv
set_option linter.unusedVariables false
set_option linter.unusedSimpArgs false
namespace Go.Pv
def hold (E : En) (m : Nat) : Tgt → Exit → AState → Prop
  | .st e u, e', t => e' = e ∧ t = u ∧ okE m e = true
  | .ret x o, e', t => (e' = .ret ∨ (m = 0 ∧ e' = .normal)) ∧ t.floor = E.floor ∧ resOf E.P E.fn t = some x ∧ (E.keys.map fun k => (k, t.obj k)) = o
theorem Cv.rfl' {Γ : Ctx} {s : AState} : Cv Γ s s := fun _ _ h => h
theorem Cv.conv {Γ : Ctx} {s t : AState} {inv : CI} {vk e0 : List Nat} (h : convS s inv vk e0 t = some t) : Cv Γ s t := fun a w hs => hs.conv inv vk e0 h
theorem Pt.of_exit {Γ : Ctx} {Q : Exit → AState → Prop} {s : AState} {c : Code} {e : Exit} (h : exitOf c = some e) (hq : Q e s) : Pt Γ Q s c := by
  cases c <;> simp [exitOf] at h <;> subst h <;> exact hq
theorem Pt.to_exit {Γ : Ctx} {Q : Exit → AState → Prop} {s : AState} {e : Exit} (m : Nat) (he : okE m e = true) (h : Pt Γ Q s (codeOf e)) : Q e s := by
  cases e with
  | normal => exact h
  | exit id => exact h
  | goto l => simp [okE] at he
  | ret => simp [okE] at he
  | panic l => simp [okE] at he
  | outgrown => simp [okE] at he
theorem Pt.of_awp {Γ : Ctx} {Q : Exit → AState → Prop} {s : AState} {c : Code} (h : isC c = true) (hq : AWp Γ c Q s) : Pt Γ Q s c := by
  cases c <;> first | exact hq | simp [isC] at h
abbrev Goal (E : En) (Γ : Ctx) {ρ X : Type} (g : X → Option ρ) (m : Nat) (τ : ρ → Tgt) (S : X → AState) (r : ρ) (P : (Exit → AState → Prop) → Prop) : Prop :=
  ∀ (Q : Exit → AState → Prop), (∀ x', g x' = some r → ∀ s, Cv Γ s (S x') → Q .normal s) → (∀ e s t, Cv Γ s t → hold E m (τ r) e t → Q e s) → P Q
theorem AWp.of_Cv {Γ : Ctx} {Q : Exit → AState → Prop} {s t : AState} {c : Code} (hc : Cv Γ s t) (h : AWp Γ c Q t) : AWp Γ c Q s := fun a w hs => h a w (hc a w hs)
theorem LWp.of_Cv {Γ : Ctx} {Q : Exit → AState → Prop} {s t : AState} {c : Code} (hc : Cv Γ s t) (h : LWp Γ c Q t) : LWp Γ c Q s := fun a w hs => h a w (hc a w hs)
mutual
theorem HT.sound {E : En} {Γ : Ctx} (hP : Γ.P = E.P) (hn : Γ.n = E.n) (hm : E.P.follows .mixedOrders = true) : ∀ {ρ X : Type} {g : X → Option ρ} {x : Option ρ} (t : HT g x) (m : Nat) (τ : ρ → Tgt) (S : X → AState) (c : Code) (K : List Fr) (s : AState), t.chk E m τ S c K s →
    ∀ (r : ρ), x = some r → Goal E Γ g m τ S r (fun Q => AWp Γ c (Qof Γ K Q) s ∧ Pt Γ (Qof Γ K Q) s c)
  | _, _, _, _, .no, m, τ, S, c, K, s, h, r, e => fun Q hb hl => nomatch e
  | _, _, _, _, @HT.ck _ _ _ p _ f k, m, τ, S, c, K, s, h, r, e => fun Q hb hl => by
    obtain ⟨hp, e⟩ := chk_of e
    exact HT.sound hP hn hm (k hp) m τ S c K s (h hp) r e Q hb hl
  | _, _, _, _, .el k, m, τ, S, c, K, s, h, r, e => fun Q hb hl => by
    obtain ⟨b, h0, h1, e⟩ := at_of e
    exact HT.sound hP hn hm (k b h0 h1) m τ S c K s (h b h0 h1) r e Q hb hl
  | _, _, _, _, .bd k, m, τ, S, c, K, s, h, r, e => fun Q hb hl => by
    obtain ⟨t, ht, e⟩ := bind_of e
    exact HT.sound hP hn hm (k t ht) m τ S c K s (h t ht) r e Q hb hl
  | _, _, _, _, .sp (b := b) t el, m, τ, S, c, K, s, h, r, e => fun Q hb hl => by
    rcases Bool.eq_false_or_eq_true b with c1 | c1
    · exact HT.sound hP hn hm (t c1) m τ S c K s (h.1 c1) r (iT c1 e) Q hb hl
    · exact HT.sound hP hn hm (el c1) m τ S c K s (h.2 c1) r (iF c1 e) Q hb hl
  | _, _, _, _, .cd (b := b) t el, m, τ, S, c, K, s, h, r, e => fun Q hb hl => by
    have key : Pt Γ (Qof Γ K Q) s c := by
      refine norm_ok 1000 c K ?_
      simp only [HT.chk, nm] at h
      generalize norm 1000 c K = q at h ⊢
      obtain ⟨c', K'⟩ := q
      cases c' <;> first | exact h.elim | skip
      rename_i o x y
      obtain ⟨h1, h2, h3⟩ := h
      refine AWp.cond b h1 (fun c1 => ?_) (fun c1 => ?_)
      · exact (HT.sound hP hn hm (t c1) m τ S x K' s (h2 c1) r (iT c1 e) Q hb hl).1
      · exact (HT.sound hP hn hm (el c1) m τ S y K' s (h3 c1) r (iF c1 e) Q hb hl).1
    exact ⟨key.awp, key⟩
  | _, _, _, _, .cl (b := b) (v := v) hv k, m, τ, S, c, K, s, h, r, e => fun Q hb hl => by
    have key : Pt Γ (Qof Γ K Q) s c := by
      refine norm_ok 1000 c K ?_
      simp only [HT.chk, nm] at h
      generalize norm 1000 c K = q at h ⊢
      obtain ⟨c', K'⟩ := q
      cases c' <;> first | exact h.elim | skip
      rename_i o x y
      obtain ⟨h1, h2⟩ := h
      subst hv
      refine AWp.cond b h1 (fun c1 => ?_) (fun c1 => ?_)
      · subst c1; exact (HT.sound hP hn hm k m τ S x K' s h2 r e Q hb hl).1
      · subst c1; exact (HT.sound hP hn hm k m τ S y K' s h2 r e Q hb hl).1
    exact ⟨key.awp, key⟩
  | _, _, _, _, .rg hs k, m, τ, S, c, K, s, h, r, e => fun Q hb hl => by
    have key : Pt Γ (Qof Γ K Q) s c := by
      refine norm_ok 1000 c K ?_
      simp only [HT.chk, nm] at h
      generalize norm 1000 c K = q at h ⊢
      obtain ⟨c', K'⟩ := q
      cases c' <;> first | exact h.elim | skip
      rename_i id ops draw
      obtain ⟨ops⟩ := ops
      simp only at h
      generalize hr : regionAll E.P E.n draw ops (hintsOf hs) s = q at h
      cases q with
      | none => exact h.elim
      | some q =>
        obtain ⟨s', ps⟩ := q
        obtain ⟨h1, h2⟩ := h
        subst h1
        refine AWp.regionAll (hintsOf hs) s' _ (by rw [hP]; exact hm) (by rw [hP, hn]; exact hr) (propsOf_ok hs) ?_
        exact (HT.sound hP hn hm k m τ S .skip K' s' h2 r e Q hb hl).2
    exact ⟨key.awp, key⟩
  | _, _, _, _, .bl k, m, τ, S, c, K, s, h, r, e => fun Q hb hl => by
    have key : Pt Γ (Qof Γ K Q) s c := by
      refine norm_ok 1000 c K ?_
      simp only [HT.chk, nm] at h
      generalize norm 1000 c K = q at h ⊢
      obtain ⟨c', K'⟩ := q
      cases c' <;> first | exact h.elim | skip
      rename_i id b
      exact AWp.block (HT.sound hP hn hm k m τ S b (.b id :: K') s h r e Q hb hl).1
    exact ⟨key.awp, key⟩
  | _, _, _, _, .cv inv vk e0 t k, m, τ, S, c, K, s, h, r, e => fun Q hb hl => by
    have key : Pt Γ (Qof Γ K Q) s c := by
      refine norm_ok 1000 c K ?_
      simp only [HT.chk, nm] at h
      generalize norm 1000 c K = q at h ⊢
      obtain ⟨c', K'⟩ := q
      obtain ⟨h0, h1, h2⟩ := h
      exact Pt.of_awp h0 (AWp.of_Cv (Cv.conv h1) (HT.sound hP hn hm k m τ S c' K' t h2 r e Q hb hl).1)
    exact ⟨key.awp, key⟩
  | _, _, _, _, .out (o := o) inv vk e0, m, τ, S, c, K, s, h, r, e => fun Q hb hl => by
    have key : Pt Γ (Qof Γ K Q) s c := by
      refine norm_ok 1000 c K ?_
      simp only [HT.chk, nm] at h
      generalize norm 1000 c K = q at h ⊢
      obtain ⟨c', K'⟩ := q
      obtain rfl := Option.some.inj e
      cases K' with
      | cons _ _ => exact h.elim
      | nil =>
        simp only [chkOut] at h
        generalize ht : τ o = q at h
        cases q with
        | ret _ _ => exact h.elim
        | st e' u =>
          obtain ⟨h1, h2, h3⟩ := h
          exact Pt.of_exit h1 (hl e' s u (Cv.conv h3) (by rw [ht]; exact ⟨rfl, rfl, h2⟩))
    exact ⟨key.awp, key⟩
  | _, _, _, _, .ret (o := o) inv vk e0 t, m, τ, S, c, K, s, h, r, e => fun Q hb hl => by
    have key : Pt Γ (Qof Γ K Q) s c := by
      refine norm_ok 1000 c K ?_
      simp only [HT.chk, nm] at h
      generalize norm 1000 c K = q at h ⊢
      obtain ⟨c', K'⟩ := q
      obtain rfl := Option.some.inj e
      cases K' with
      | cons _ _ => exact h.elim
      | nil =>
        simp only [chkRet] at h
        generalize ht : τ o = q at h
        cases q with
        | st _ _ => exact h.elim
        | ret x objs =>
          obtain ⟨h1, h2, h3, h4, h5⟩ := h
          cases c' <;> first | (simp [okR] at h1; done) | skip
          · have hm0 : m = 0 := by
              cases m with
              | zero => rfl
              | succ m => simp [okR] at h1
            exact hl .normal s t (Cv.conv h2) (by rw [ht]; exact ⟨.inr ⟨hm0, rfl⟩, h3, h4, h5⟩)
          · exact hl .ret s t (Cv.conv h2) (by rw [ht]; exact ⟨.inl rfl, h3, h4, h5⟩)
    exact ⟨key.awp, key⟩
  | _, _, _, _, .back (x := x) inv vk e0 hy, m, τ, S, c, K, s, h, r, e => fun Q hb hl => by
    have key : Pt Γ (Qof Γ K Q) s c := by
      refine norm_ok 1000 c K ?_
      simp only [HT.chk, nm] at h
      generalize norm 1000 c K = q at h ⊢
      obtain ⟨c', K'⟩ := q
      cases K' with
      | cons _ _ => cases c' <;> exact h.elim
      | nil =>
        cases c' <;> first | exact h.elim | skip
        exact hb x (hy ▸ e) s (Cv.conv h)
    exact ⟨key.awp, key⟩
  | _, _, _, _, .join (m := mm) (f := f) sub a, m, τ, S, c, K, s, h, r, e => fun Q hb hl => by
    have key : Pt Γ (Qof Γ K Q) s c := by
      obtain ⟨o, ho, e⟩ := bind_of e
      refine norm_ok 1000 c K ?_
      simp only [HT.chk, nm] at h
      generalize norm 1000 c K = q at h ⊢
      obtain ⟨c', K'⟩ := q
      obtain ⟨h0, h1, h2⟩ := h
      have q1 := (HT.sound hP hn hm sub 1 a.tau (fun x => nomatch x) c' [] s h1 o ho (fun e s => ∃ t, Cv Γ s t ∧ hold E 1 (a.tau o) e t) (fun x' => nomatch x') (fun e s t h1 h2 => ⟨t, h1, h2⟩)).1
      have q2 : AWp Γ c' (fun e s => hold E 1 (a.tau o) e s) s := AWp.cv q1
      have q3 : AWp Γ c' (Qof Γ K' Q) s := q2.mono fun e' t ht => Arm.sound hP hn hm a m τ S K' h2 o r e Q hb hl 1 e' t ht (by omega)
      exact Pt.of_awp h0 q3
    exact ⟨key.awp, key⟩
  | _, _, _, _, .loop lp x0 inv vk e0 b a, m, τ, S, c, K, s, h, r, e => fun Q hb hl => by
    have key : Pt Γ (Qof Γ K Q) s c := by
      obtain ⟨o, ho, e⟩ := bind_of e
      refine norm_ok 1000 c K ?_
      simp only [HT.chk, nm] at h
      generalize norm 1000 c K = q at h ⊢
      obtain ⟨c', K'⟩ := q
      cases c' <;> first | exact h.elim | skip
      rename_i c'
      obtain ⟨h0, h1, h2⟩ := h
      have main : ∀ x o, lp.l x = some o → LWp Γ c' (fun e s => ∃ t, Cv Γ s t ∧ hold E 2 (a.tau o) e t) ((b lp.l).S x) := by
        refine lp.pc (fun x o => LWp Γ c' (fun e s => ∃ t, Cv Γ s t ∧ hold E 2 (a.tau o) e t) ((b lp.l).S x)) (fun g' ih x o hx => ?_)
        refine LWp.round ?_
        refine Bd.sound hP hn hm (b g') a.tau (b lp.l).S (b lp.l).S c' (h1 g') x o hx _ (fun x' hx' s hs => ?_) (fun e s t hs ht => ?_)
        · exact LWp.of_Cv hs (ih x' o hx')
        · cases e with
          | normal =>
            exfalso
            generalize a.tau o = q at ht
            cases q with
            | st e u => obtain ⟨q1, _, q2⟩ := ht; subst q1; simp [okE] at q2
            | ret x o => obtain ⟨q1 | ⟨q1, _⟩, _⟩ := ht <;> simp at q1
          | _ => exact ⟨t, hs, ht⟩
      refine AWp.loop (LWp.of_Cv (Cv.conv h0) ?_)
      refine LWp.mono (LWp.cv (main x0 o ho)) (fun e' t ht => Arm.sound hP hn hm a m τ S K' h2 o r e Q hb hl 2 e' t ht (by omega))
    exact ⟨key.awp, key⟩
theorem Arm.sound {E : En} {Γ : Ctx} (hP : Γ.P = E.P) (hn : Γ.n = E.n) (hm : E.P.follows .mixedOrders = true) : ∀ {ρ X O : Type} {g : X → Option ρ} {f : O → Option ρ} (a : Arm g f) (m : Nat) (τ : ρ → Tgt) (S : X → AState) (K : List Fr), a.chk E m τ S K → ∀ (o : O) (r : ρ), f o = some r →
    Goal E Γ g m τ S r (fun Q => ∀ (m' : Nat) (e : Exit) (t : AState), hold E m' (a.tau o) e t → 0 < m' → Qof Γ K Q e t)
  | _, _, _, _, _, .st e' s k, m, τ, S, K, h, o, r, e => fun Q hb hl m' e2 t ht hm' => by
    obtain ⟨rfl, rfl, h3⟩ := ht
    exact Pt.to_exit m' h3 (HT.sound hP hn hm (k o) m τ S (codeOf e2) K (s o) (h o) r e Q hb hl).2
  | _, _, _, _, _, .pr k, m, τ, S, K, h, o, r, e => fun Q hb hl m' e2 t ht hm' => Arm.sound hP hn hm (k o.1) m τ S K (h o.1) o.2 r e Q hb hl m' e2 t ht hm'
  | _, _, _, _, _, .sm a b, m, τ, S, K, h, o, r, e => fun Q hb hl m' e2 t ht hm' => by
    cases o with
    | inl x => exact Arm.sound hP hn hm a m τ S K h.1 x r e Q hb hl m' e2 t ht hm'
    | inr x => exact Arm.sound hP hn hm b m τ S K h.2 x r e Q hb hl m' e2 t ht hm'
  | _, _, _, _, _, .rt (h := hh) x o, m, τ, S, K, h, q, r, e => fun Q hb hl m' e2 t ht hm' => by
    obtain ⟨h1, h2⟩ := ht
    have h1' : e2 = .ret := by
      rcases h1 with h1 | ⟨h1, _⟩
      · exact h1
      · omega
    subst h1'
    rw [Qof_ret]
    obtain rfl := Option.some.inj e
    refine hl .ret t t Cv.rfl' ?_
    rw [show τ (hh q) = .ret (x q) (o q) from h q]
    exact ⟨.inl rfl, h2⟩
theorem Bd.sound {E : En} {Γ : Ctx} (hP : Γ.P = E.P) (hn : Γ.n = E.n) (hm : E.P.follows .mixedOrders = true) : ∀ {ρ X Y : Type} {g : X → Option ρ} {F : Y → Option ρ} (b : Bd g F) (τ : ρ → Tgt) (S : X → AState) (T : Y → AState) (c : Code), b.chk E τ S T c → ∀ (y : Y) (r : ρ), F y = some r →
    Goal E Γ g 2 τ S r (fun Q => AWp Γ c Q (T y))
  | _, _, _, _, _, .one s k, τ, S, T, c, h, y, r, e => fun Q hb hl => by
    obtain ⟨h1, h2⟩ := h y
    rw [← h1]
    exact (HT.sound hP hn hm (k y) 2 τ S c [] (s y) h2 r e Q hb hl).1
  | _, _, _, _, _, .pr k, τ, S, T, c, h, y, r, e => fun Q hb hl => Bd.sound hP hn hm (k y.1) τ S (fun b => T (y.1, b)) c (h y.1) y.2 r e Q hb hl
end
theorem HT.fn {P : Program} {f : FuncId} {fn : Func} {c : Code} {args : List AVal} {objs : List (Nat × Option MObj)} {floor : Nat} {Q : AVal → List (Nat × Option MObj) → Prop} {ρ : Type} {y : Option ρ} {r : ρ} (H : y = some r) (x : ρ → AVal) (o : ρ → List (Nat × Option MObj)) (keys : List Nat)
    (hf : P.funcs[f]? = some fn) (hb : fn.body = some c) (hn : Nat.ble args.length fn.ntmps = true) (hm : P.follows .mixedOrders = true)
    (t : HT (fun q : Empty => (nomatch q : Option ρ)) y)
    (hk : t.chk ⟨P, fn.ntmps, fn, floor, keys⟩ 0 (fun r => .ret (x r) (o r)) (fun q => nomatch q) c [] ⟨argSlots args 0, objs, floor⟩ = t.sk ⟨P, fn.ntmps, fn, floor, keys⟩ 0 (fun r => .ret (x r) (o r)) (fun q => nomatch q) := by kernel_rfl)
    (hQ : (fun r' o' => r' = x r ∧ o' = o r) = Q := by rfl) : Fn P f args objs floor Q := by
  subst hQ
  refine Fn.bodyK keys hf hb hn (fun Γ hP hn => ?_)
  have h := hk ▸ t.sk_ok ⟨P, fn.ntmps, fn, floor, keys⟩ 0 (fun r => .ret (x r) (o r)) (fun q => nomatch q)
  refine (HT.sound (E := ⟨P, fn.ntmps, fn, floor, keys⟩) hP hn hm t 0 (fun r => .ret (x r) (o r)) (fun q => nomatch q) c [] _ h r H _ (fun q => nomatch q) (fun e s t hc ht => ?_)).1
  obtain ⟨h1, h2, h3, h4⟩ := ht
  refine ⟨t, hc, ?_, h2, h3, h4⟩
  rcases h1 with h1 | ⟨_, h1⟩
  · exact .inl h1
  · exact .inr h1
end Go.Pv
set_option linter.unusedVariables false
set_option linter.unusedSimpArgs false
namespace Go.Pv
theorem agg_sc {w : World} {I : Nat → Prop} {κ : Nat → Option KI} {cells : List AVal} {vs : List Value} {v : Value} (h : scVals cells = some vs) (hr : Rep w I κ (.agg cells) v) : v = .agg vs.toArray := by
  obtain rfl := scVals_eq h
  cases hr with
  | @agg _ us hl hreps =>
    congr 2
    apply List.ext_getElem (by simpa using hl)
    intro i h1 h2
    have := hreps i (by simpa using h2) h1
    rw [List.getElem_map] at this
    exact this.sc_inv
def strOf (xs : List Int) : ByteArray := xs.foldl (fun r n => r.push (UInt8.ofNat n.toNat)) ByteArray.empty
def xStr (xs : List Int) : Ext where
  f P o s := match o.op with
    | .convert st t x => match elemP P st, P.underlying t with
      | some (e, sz), some .string => match P.underlying e, srcA s (s.eval x), Nat.beq sz 1 with
        | some (.int .u8), some (skeys, es, ksz), true => match (match ksz with | some z => Nat.beq z 1 | none => true) with
          | true => some ⟨skeys, [], .im (.sc (.string (strOf xs))), [], [es = xs.map (encInt .u8)]⟩
          | false => none
        | _, _, _ => none
      | _, _ => none
    | _ => none
  ok P o s e he hp := by
    split at he
    · rename_i st t x ho
      split at he
      · rename_i el sz hel ht
        obtain ⟨hu, _⟩ := elemP_inv hel
        split at he
        · rename_i skeys es ksz hu8 hsrc hsz1
          split at he
          · rename_i hks
            obtain rfl := Option.some.inj he
            obtain ⟨rfl, _⟩ := hp
            have hS : Src s skeys (s.eval x) (xs.map (encInt .u8)) ∧ ∀ k sz' el' es'', s.eval x = .own k → s.obj k = some (.row sz' el' es'') → sz' = 1 := by
              unfold srcA at hsrc
              split at hsrc
              · rename_i es hy; simp at hsrc; obtain ⟨rfl, rfl, rfl⟩ := hsrc; rw [hy]; exact ⟨.im _, fun k _ _ _ e => by simp at e⟩
              · rename_i hy; simp at hsrc; obtain ⟨rfl, e2, rfl⟩ := hsrc; rw [hy]; subst e2; exact ⟨.none0, fun k _ _ _ e => by simp at e⟩
              · rename_i k hy
                split at hsrc
                · rename_i sz3 el3 es hk
                  simp at hsrc; obtain ⟨rfl, rfl, rfl⟩ := hsrc
                  rw [hy]
                  refine ⟨.own k _ _ _ (by simp) hk, fun k' sz' el' es'' e1 e2 => ?_⟩
                  simp at e1; subst e1
                  rw [hk] at e2; simp at e2
                  obtain ⟨rfl, _⟩ := e2
                  exact Nat.eq_of_beq_eq_true hks
                · simp at hsrc
              · simp at hsrc
            refine .quiet rfl fun Γ κ I s2 a w hP hrel hn => ?_
            have g := opd hrel hn x (by simp [ho, Op.operands]) rfl
            obtain ⟨base, cap, vs, hv, hfl, hcells⟩ := src_cells (P := P) (sz := 1) hrel.inv (fun k hk => needs_obj hn k hk) hS.1 g (by intro c hc; obtain ⟨_, _, rfl⟩ := List.mem_map.1 hc; rfl) hS.2
            have hvs : vs = xs.map (Value.int .u8) := by
              apply List.ext_getElem (by simpa using hfl.len)
              intro i h1 h2
              simp only [List.length_map] at h2
              obtain ⟨v, e1, e2⟩ := hfl.at_ i (by simpa using h2) 0 (by simp)
              rw [Nat.mul_one, Nat.add_zero, List.getElem?_eq_getElem h1] at e1
              obtain rfl := Option.some.inj e1
              simp only [List.getElem_map, encInt, List.getElem_cons_zero] at e2
              rw [List.getElem_map]
              revert e2
              generalize vs[i] = q
              intro e2
              cases e2; rfl
            subst hvs
            refine ⟨.string (strOf xs), ?_, .im (.sc _)⟩
            have hrun := hcells w rfl
            rw [hv] at hrun
            simp only [execOp, ho, hv]
            simp only [Sem.run_bind, run_convert_bytes_string w st t el _ _ _ hu hu8 ht]
            cases base with
            | none =>
              simp only [Builtin.firstCells, Sem.run_pure, Result.ok.injEq, and_true] at hrun
              have : xs = [] := by cases xs with | nil => rfl | cons a l => simp at hrun
              subst this
              rfl
            | some a0 =>
              simp only [Builtin.firstCells, Nat.mul_one] at hrun
              rw [run_bytesToString w a0 _ _ xs (by simpa using hrun)]
              rfl
          · simp at he
        · simp at he
      · simp at he
    · simp at he
end Go.Pv
set_option linter.unusedVariables false
set_option linter.unusedSimpArgs false
namespace Go.Pv
theorem run_eql_slice {P : Program} {t e : TypeId} (ht : P.underlying t = some (.slice e)) (b : Option Addr) (n c n' c' : Nat) (w : World) :
    (binOp .eql t (.slice b n c) (.slice none n' c')).run P w = .ok (.bool b.isNone) w := by
  have h : (Op.equal t (.slice b n c) (.slice none n' c')).run P w = .ok b.isNone w := by
    unfold Op.equal Op.maxDepth
    rw [Op.equalIn]
    cases b <;> simp only [Sem.run_bind, run_underlying' ht, Result.andThen_ok, Sem.run_pure] <;> rfl
  show (do pure (.bool (← Op.equal t (.slice b n c) (.slice none n' c'))) : Sem Value).run P w = _
  rw [Sem.run_bind, h]; rfl
def nilA : AVal → Option Bool
  | .im (.row (_ :: _)) => some false
  | .im (.sc (.slice (some _) _ _)) => some false
  | .im (.sc (.slice none _ _)) => some true
  | _ => none
theorem nilA_rep {w : World} {I : Nat → Prop} {κ : Nat → Option KI} {x : AVal} {v : Value} {r : Bool} (h : nilA x = some r) (hr : Rep w I κ x v) : ∃ b n c, v = .slice b n c ∧ b.isNone = r := by
  unfold nilA at h
  split at h
  · obtain rfl := Option.some.inj h
    cases hr with
    | im h => cases h with
      | row u hn => exact ⟨_, _, _, rfl, rfl⟩
  · obtain rfl := Option.some.inj h; exact ⟨_, _, _, hr.sc_inv, rfl⟩
  · obtain rfl := Option.some.inj h; exact ⟨_, _, _, hr.sc_inv, rfl⟩
  · simp at h
def xNil : Ext where
  f P o s := match o.op with
    | .binOp .eql t x (.const (.slice none _ _)) _ => match P.underlying t, nilA (s.eval x) with
      | some (.slice _), some r => some ⟨[], [], .im (.sc (.bool r)), [], []⟩
      | _, _ => none
    | _ => none
  ok P o s e he hp := by
    split at he
    · rename_i t x n' c' _ ho
      split at he
      · rename_i el r ht hr
        obtain rfl := Option.some.inj he
        refine .quiet rfl fun Γ κ I s2 a w hP hrel hn => ?_
        have g := opd hrel hn x (by simp [ho, Op.operands]) rfl
        obtain ⟨b, n, c, e, rfl⟩ := nilA_rep hr g
        refine ⟨.bool b.isNone, ?_, .im (.sc _)⟩
        have hc : a.eval (.const (.slice none n' c')) = .slice none n' c' := rfl
        simp only [execOp, ho, e, hc, eqGuard]
        simp [run_eql_slice ht]
      · simp at he
    · simp at he
theorem AWp.nilSplit {Γ : Ctx} {c : Code} {Q : Exit → AState → Prop} {s : AState} (x : Nat) (hx : s.get x = .im (.row [])) (h : ∀ b n, AWp Γ c Q (s.put (some x) (.im (.sc (.slice b 0 n))))) : AWp Γ c Q s := by
  intro a w hs
  obtain ⟨κ, I, hr⟩ := hs
  have g := hr.slots x
  rw [hx] at g
  have : ∃ b n, a.tmps.getD x undef = .slice b 0 n := by
    generalize a.tmps.getD x undef = v at g
    cases g with
    | im h => cases h with
      | row0 b n => exact ⟨b, n, rfl⟩
      | row u hn => subst hn; exact ⟨_, _, rfl⟩
  obtain ⟨b, n, e⟩ := this
  refine h b n a w ⟨κ, I, hr.size, hr.defers, fun y => ?_, hr.inv.eqv (fun k o hk => by rwa [AState.obj_put] at hk) rfl⟩
  rw [AState.get_put]
  split
  · rename_i hxy; subst hxy; rw [e]; exact .im (.sc _)
  · exact hr.slots y
theorem AWp.unsplit {Γ : Ctx} {c : Code} {Q : Exit → AState → Prop} {s : AState} (x : Nat) {b : Option Addr} {n : Nat} (hx : s.get x = .im (.sc (.slice b 0 n))) (h : AWp Γ c Q (s.put (some x) (.im (.row [])))) : AWp Γ c Q s := by
  intro a w hs
  obtain ⟨κ, I, hr⟩ := hs
  have g := hr.slots x
  rw [hx] at g
  have e := g.sc_inv
  refine h a w ⟨κ, I, hr.size, hr.defers, fun y => ?_, hr.inv.eqv (fun k o hk => by rwa [AState.obj_put] at hk) rfl⟩
  rw [AState.get_put]
  split
  · rename_i hxy; subst hxy; rw [e]; exact .im (.row0 b n)
  · exact hr.slots y
end Go.Pv
set_option linter.unusedVariables false
set_option linter.unusedSimpArgs false
namespace Go.Pv
abbrev Lp.one {X O : Type} {F : (X → Option O) → X → Option O} {l : X → Option O}
    (pc : ∀ M : X → O → Prop, (∀ g : X → Option O, (∀ x r, g x = some r → M x r) → ∀ x r, F g x = some r → M x r) → ∀ x r, l x = some r → M x r) : Lp X O := ⟨F, l, pc⟩
abbrev Lp.no {X O : Type} (l : X → Option O) : Lp X O := ⟨fun _ => l, l, fun M h x o hx => h (fun _ => none) (fun _ _ e => nomatch e) x o hx⟩
abbrev Lp.c2 {A B O : Type} {F : (A → B → Option O) → A → B → Option O} {l : A → B → Option O}
    (pc : ∀ M : A → B → O → Prop, (∀ g : A → B → Option O, (∀ x0 x1 r, g x0 x1 = some r → M x0 x1 r) → ∀ x0 x1 r, F g x0 x1 = some r → M x0 x1 r) → ∀ x0 x1 r, l x0 x1 = some r → M x0 x1 r) : Lp (A × B) O :=
  ⟨fun g p => F (fun x0 x1 => g (x0, x1)) p.1 p.2, fun p => l p.1 p.2,
    fun M h p o hp => pc (fun x0 x1 o => M (x0, x1) o) (fun g ih x0 x1 r e => h (fun p => g p.1 p.2) (fun p o e => ih p.1 p.2 o e) (x0, x1) r e) p.1 p.2 o hp⟩
abbrev p1 {p : Prop} (h : p) : PL := .c h .n
abbrev p2 {p q : Prop} (h : p ∧ q) : PL := .c h.1 (.c h.2 .n)
abbrev hM (x : Ext) (l : PL) : HI := ⟨.more x, l⟩
abbrev hB {b v : Bool} (h : b = v) : HI := ⟨.b v, .c h .n⟩
abbrev hA {α : Type} {xs : List α} {i : Int} {b : α} (f : α → List Im) (h0 : 0 ≤ i) (h1 : xs[i.toNat]? = some b) : HI := ⟨.c (f b), .c h0 (.c (el_map f h1) .n)⟩
abbrev hS {α : Type} {xs : List α} {i : Nat} {b : α} (f : α → List Im) (y : α) (j : Nat) (cs : List Im) (h1 : xs[i]? = some b) (h2 : f y = splice (f b) j cs := by kernel_rfl) : HI :=
  ⟨.put (f b) ((xs.set i y).map f), .c (el_map f h1) (.c (p := (xs.set i y).map f = (xs.map f).set i (splice (f b) j cs)) (h2 ▸ set1 xs i y f) .n)⟩
theorem room_map {α : Type} (f : α → List Im) {old new : List α} {k n : Nat} (c : (old.length + new.length) * k ≤ n) : ((old.map f).length + (new.map f).length) * k ≤ n := by rw [List.length_map, List.length_map]; exact c
abbrev hP {α : Type} {old new : List α} {by_ : Nat} (k : Nat) (f : α → List Im) (sz : Nat) (c : (old.length + new.length) * by_ ≤ 140737488355328) (h1 : ∀ x, (f x).length = sz := by exact fun _ => rfl) (h2 : ∀ x, leaves ((f x).map .im) = true := by exact fun _ => rfl) : HI :=
  ⟨.app k ((old ++ new).map f), .c (app2 old new f) (.c (all_len new f sz h1) (.c (all_leaf new f h2) (.c (room_map f c) .n)))⟩
theorem len_le {α : Type} (f : α → List Im) {xs : List α} {u : Int} (h : u ≤ (xs.length : Int)) : u ≤ (((xs.map f).length : Nat) : Int) := by rw [List.length_map]; exact h
abbrev hR {α : Type} {xs : List α} {l u : Int} (f : α → List Im) (sz : Nat) (c : 0 ≤ l ∧ l ≤ u ∧ u ≤ (xs.length : Int)) (h : ∀ x, (f x).length = sz := by exact fun _ => rfl) : HI :=
  ⟨.rows (((xs.drop l.toNat).take (u.toNat - l.toNat)).map f), .c c.1 (.c c.2.1 (.c (len_le f c.2.2) (.c (all_len xs f sz h) (.c (cut1 xs l.toNat (u.toNat - l.toNat) f) .n))))⟩
abbrev hK (n : Int) (h : 0 ≤ n := by decide) : HI := ⟨.none, .c h .n⟩
abbrev HT.o {ρ X : Type} {g : X → Option ρ} {o : ρ} (inv : CI) : HT g (some o) := .out inv [] []
abbrev HT.r0 {ρ X : Type} {g : X → Option ρ} {x : Option ρ} (k : HT g x) : HT g x := .rg [] k
end Go.Pv
set_option linter.unusedVariables false
set_option linter.unusedSimpArgs false
namespace Go.Pv
def xFunc : Ext where
  f P o s := match o.op with
    | .makeFunc (.func g) ⟨[]⟩ caps => some ⟨[], [], .fn g (caps.toList.map s.eval), [], []⟩
    | _ => none
  ok P o s e he hp := by
    split at he
    · rename_i g caps ho
      obtain rfl := Option.some.inj he
      refine .quiet rfl fun Γ κ I s2 a w hP hrel hn => ?_
      refine ⟨.func (.func g) #[] (caps.toList.map a.eval).toArray, ?_, .fn (by simp) (fun j h h' => ?_)⟩
      · simp [execOp, ho, Instr.makeFunc]
        rw [← Array.toList_inj]; simp
      · rw [List.getElem_map, List.getElem_map]
        exact opd hrel hn _ (by simp [ho, Op.operands]) rfl
    · simp at he
def bytesOK (xs : List Int) : Prop := ∀ x ∈ xs, 0 ≤ x ∧ x < 256
instance (xs : List Int) : Decidable (bytesOK xs) := inferInstanceAs (Decidable (∀ x ∈ xs, 0 ≤ x ∧ x < 256))
theorem Inv.freezeBlock {Γ : Ctx} {κ : Nat → Option KI} {I : Nat → Prop} {s : AState} {w w' : World} {k : Nat} {o : MObj} {ki : KI} (h : Inv Γ κ I s w) (hk : s.obj k = some o) (hκ : κ k = some ki)
    (h1 : ∀ c, c ≠ ki.b → w'.heap[c]? = w.heap[c]?) (h2 : w'.heap.size = w.heap.size) (h3 : w'.os = w.os) (h4 : w'.tape = w.tape) (h5 : w'.output = w.output) :
    Inv Γ κ I (s.objput [(k, none)]) w' ∧ ∀ b, I b → w'.heap[b]? = w.heap[b]? := by
  have hI : ∀ b, I b → w'.heap[b]? = w.heap[b]? := fun b hb => h1 b (fun e => by subst e; exact h.disj k o ki hk hκ hb)
  have hold : ∀ k' q, (s.objput [(k, none)]).obj k' = some q → k' ≠ k ∧ s.obj k' = some q := by
    intro k' q hq
    change (look ((k, none) :: s.objs) k').getD none = _ at hq
    change _ ∧ (look s.objs k').getD none = _
    rw [look_cons] at hq
    by_cases e : k = k'
    · rw [if_pos e] at hq; simp at hq
    · rw [if_neg e] at hq; exact ⟨fun h => e h.symm, hq⟩
  refine ⟨⟨?_, ?_, ?_, ?_, ?_, h.ikeep, h.fromI, ?_, h.fix⟩, hI⟩
  · intro k' q hq
    obtain ⟨hne, hq⟩ := hold k' q hq
    have := h.objs k' q hq
    unfold OAt at this ⊢
    cases e : κ k' with
    | none => rw [e] at this; exact this
    | some ki' => rw [e] at this; exact this.mono (fun _ h => h) hI (h1 _ (fun hb => hne (h.inj k' k q o ki' ki hq hk e hκ hb))) (fun _ _ => rfl)
  · intro q1 q2 o1 o2 ki1 ki2 g1 g2 f1 f2 hb
    exact h.inj q1 q2 o1 o2 ki1 ki2 (hold q1 o1 g1).2 (hold q2 o2 g2).2 f1 f2 hb
  · intro q o' ki' hq f hIb
    exact h.disj q o' ki' (hold q o' hq).2 f hIb
  · intro b hb; rw [h2]; exact h.bound b hb
  · refine ⟨h3.trans h.keep.os, h4.trans h.keep.tape, h5.trans h.keep.output, by rw [h2]; exact h.keep.size, fun b hb hM => ?_⟩
    rw [h1 b (fun e => ?_)]
    · exact h.keep.block b hb hM
    · subst e
      rcases h.fromO k o ki hk hκ with g | g
      · exact hM g
      · omega
  · intro q o' ki' hq f
    exact h.fromO q o' ki' (hold q o' hq).2 f
end Go.Pv
set_option linter.unusedVariables false
set_option linter.unusedSimpArgs false
namespace Go.Pv
open Go.Instr
def hit {K : Type} [DecidableEq K] (a : K) : List K → List MapEntry → Nat → Option (Nat × Value)
  | k :: ks, e :: es, i => if k = a then some (i, e.val) else hit a ks es (i + 1)
  | _, _, _ => none
structure KeyOK (P : Program) (t : TypeId) {K : Type} [DecidableEq K] (vk : K → Value) : Prop where
  check : ∀ b a w, (checkKey b 10000 t (vk a)).run P w = .ok () w
  find : ∀ a (es : List MapEntry) (ks : List K) w, es.map (·.key) = ks.map vk → (findKey t (vk a) es).run P w = .ok (hit a ks es 0) w
  same : ∀ a w, (keyThatStays (vk a) (vk a)).run P w = .ok (vk a) w
theorem findNow_ok {K : Type} [DecidableEq K] {d : TypeDesc} {vk : K → Value} (h : ∀ a b, sameNow d (vk a) (vk b) = some (decide (b = a))) (a : K) : ∀ (es : List MapEntry) (ks : List K) (i : Nat), es.map (·.key) = ks.map vk → findNow d (vk a) es i = some (hit a ks es i)
  | [], [], i, _ => by simp [findNow, hit]
  | [], k :: ks, i, e => by simp at e
  | e :: es, [], i, q => by simp at q
  | e :: es, k :: ks, i, q => by
    simp only [List.map_cons, List.cons.injEq] at q
    rw [findNow, q.1, h, hit]
    by_cases c : k = a
    · simp [c]
    · simp [c, findNow_ok h a es ks (i + 1) q.2]
theorem key_plain {K : Type} [DecidableEq K] {P : Program} {t : TypeId} {d : TypeDesc} {vk : K → Value} (ht : P.underlying t = some d) (hc : ∀ b a w, (checkKey b 10000 t (vk a)).run P w = .ok () w) (h : ∀ a b, sameNow d (vk a) (vk b) = some (decide (b = a)))
    (hs : ∀ a, sameBits 10000 (vk a) (vk a) = true) : KeyOK P t vk where
  check := hc
  find a es ks w q := by
    simp only [findKey, Sem.run_bind, run_underlying' ht, Result.andThen_ok, findNow_ok h a es ks 0 q, Sem.run_pure]
  same a w := by simp [keyThatStays, hs]
end Go.Pv
set_option linter.unusedVariables false
set_option linter.unusedSimpArgs false
namespace Go.Pv
open Go.Instr
def mput {K V : Type} [DecidableEq K] : List (K × V) → K → V → List (K × V)
  | [], k, v => [(k, v)]
  | p :: l, k, v => if p.1 = k then (k, v) :: l else p :: mput l k v
def mget {K V : Type} [DecidableEq K] : List (K × V) → K → Option V
  | [], _ => none
  | p :: l, k => if p.1 = k then some p.2 else mget l k
theorem hit_ok {K V : Type} [DecidableEq K] (k : K) : ∀ (l : List (K × V)) (E : List MapEntry) (off : Nat), E.length = l.length →
    (hit k (l.map (·.1)) E off = none ∧ mget l k = none ∧ ∀ v, mput l k v = l ++ [(k, v)]) ∨
    ∃ i e p, E[i]? = some e ∧ l[i]? = some p ∧ p.1 = k ∧ hit k (l.map (·.1)) E off = some (off + i, e.val) ∧ mget l k = some p.2 ∧ ∀ v, mput l k v = l.set i (k, v)
  | [], E, off, _ => .inl ⟨by simp [hit], rfl, fun v => rfl⟩
  | p :: l, [], off, h => by simp at h
  | p :: l, e :: E, off, h => by
    by_cases c : p.1 = k
    · exact .inr ⟨0, e, p, rfl, rfl, c, by simp [hit, c], by simp [mget, c], fun v => by simp [mput, c]⟩
    · rcases hit_ok k l E (off + 1) (by simpa using h) with ⟨h1, h2, h3⟩ | ⟨i, e', p', h1, h2, h3, h4, h5, h6⟩
      · exact .inl ⟨by simp [hit, c, h1], by simp [mget, c, h2], fun v => by simp [mput, c, h3]⟩
      · exact .inr ⟨i + 1, e', p', by simpa using h1, by simpa using h2, h3, by simp [hit, c, h4]; omega, by simp [mget, c, h5], fun v => by simp [mput, c, h6]⟩
theorem run_getMap {P : Program} {w : World} {b : Nat} {arr : Array MapEntry} {c : Nat} (hb : w.heap[b]? = some (.map arr c)) : (getObj b).run P w = .ok (.map arr c) w := by simp [getObj, Sem.run, hb]
theorem run_setMap {P : Program} {w : World} {b : Nat} {arr : Array MapEntry} {c : Nat} {o' : Obj} (hb : w.heap[b]? = some (.map arr c)) : (setObj b o').run P w = .ok () (World.setBlock w b o') := by simp [setObj, Sem.run, hb, World.setBlock]
theorem run_mlook {P : Program} {t kt et : TypeId} {K : Type} [DecidableEq K] {vk : K → Value} {w : World} {b : Nat} {arr : Array MapEntry} {clock : Nat} {ks : List K} {z : Value} {c : Bool} {k : K} (ht : P.underlying t = some (.map kt et)) (hk : KeyOK P kt vk)
    (hb : w.heap[b]? = some (.map arr clock)) (hks : arr.toList.map (·.key) = ks.map vk) (hz : (zeroValue et).run P w = .ok z w) :
    (lookup t (.map (some b)) (vk k) c).run P w = .ok (if c then .tuple #[((hit k ks arr.toList 0).map (·.2)).getD z, .bool (hit k ks arr.toList 0).isSome] else ((hit k ks arr.toList 0).map (·.2)).getD z) w := by
  simp only [lookup, Sem.run_bind, run_underlying' ht, Result.andThen_ok, run_getMap hb, Sem.run_pure, hk.check, hk.find k arr.toList ks w hks]
  cases hit k ks arr.toList 0 with
  | none => simp [hz]
  | some p => simp
theorem run_mput {P : Program} {t kt et : TypeId} {K : Type} [DecidableEq K] {vk : K → Value} {w : World} {b : Nat} {arr : Array MapEntry} {clock : Nat} {ks : List K} {k : K} {v : Value} (ht : P.underlying t = some (.map kt et)) (hk : KeyOK P kt vk)
    (hb : w.heap[b]? = some (.map arr clock)) (hks : arr.toList.map (·.key) = ks.map vk) :
    (hit k ks arr.toList 0 = none → (mapUpdate t (.map (some b)) (vk k) v).run P w = .ok () (World.setBlock w b (.map (arr.push ⟨vk k, v, clock⟩) (clock + 1)))) ∧
    ∀ i u e, hit k ks arr.toList 0 = some (i, u) → arr[i]? = some e → e.key = vk k → (mapUpdate t (.map (some b)) (vk k) v).run P w = .ok () (World.setBlock w b (.map (arr.modify i fun e => { e with key := vk k, val := v }) clock)) := by
  constructor
  · intro h
    simp only [mapUpdate, Sem.run_bind, run_underlying' ht, Result.andThen_ok, run_getMap hb, hk.check, hk.find k arr.toList ks w hks, h, run_setMap hb]
  · intro i u e h he hkey
    simp only [mapUpdate, Sem.run_bind, run_underlying' ht, Result.andThen_ok, run_getMap hb, hk.check, hk.find k arr.toList ks w hks, h, he, Option.map_some, Option.getD_some, hkey, hk.same, run_setMap hb]
theorem map_at {w : World} {I : Nat → Prop} {κ : Nat → Option KI} {k : Nat} {es : List (Value × Im)} (h : OAt w I κ k (.map es)) : ∃ ki arr, κ k = some ki ∧ w.heap[ki.b]? = some (.map arr es.length) ∧ arr.size = es.length ∧
    ∀ i (h : i < es.length), ∃ e, arr[i]? = some e ∧ e.born = i ∧ e.key = (es[i]).1 ∧ IRep w I (es[i]).2 e.val := by
  unfold OAt at h
  cases e : κ k with
  | none => rw [e] at h; obtain ⟨_, _, h⟩ := h; simp at h
  | some ki => rw [e] at h; obtain ⟨arr, h1, h2, h3⟩ := h; exact ⟨ki, arr, rfl, h1, h2, h3⟩
theorem mown_inv {w : World} {I : Nat → Prop} {κ : Nat → Option KI} {k : Nat} {v : Value} (h : Rep w I κ (.mown k) v) : ∃ ki, κ k = some ki ∧ v = .map (some ki.b) := by
  cases h with
  | mown e => exact ⟨_, e, rfl⟩
def valA : AVal → Option Value
  | .im (.sc v) => some v
  | .agg cells => (scVals cells).map fun vs => .agg vs.toArray
  | _ => none
theorem valA_rep {w : World} {I : Nat → Prop} {κ : Nat → Option KI} {x : AVal} {v u : Value} (h : valA x = some v) (hr : Rep w I κ x u) : u = v := by
  unfold valA at h
  split at h
  · obtain rfl := Option.some.inj h; exact hr.sc_inv
  · rename_i cells
    cases e : scVals cells with
    | none => rw [e] at h; simp at h
    | some vs => rw [e] at h; simp at h; rw [← h]; exact agg_sc e hr
  · simp at h
def putOp : Op → Option (TypeId × Operand × Operand × Operand)
  | .mapUpdate t m k x => some (t, m, k, x)
  | .insert t m k x => some (t, m, k, x)
  | _ => none
theorem putOp_of {o : Op} {t : TypeId} {x y z : Operand} (h : putOp o = some (t, x, y, z)) : o = .mapUpdate t x y z ∨ o = .insert t x y z := by
  unfold putOp at h
  split at h
  · simp at h; obtain ⟨rfl, rfl, rfl, rfl⟩ := h; exact .inl rfl
  · simp at h; obtain ⟨rfl, rfl, rfl, rfl⟩ := h; exact .inr rfl
  · simp at h
end Go.Pv
set_option linter.unusedVariables false
set_option linter.unusedSimpArgs false
namespace Go.Pv
open Go.Instr
theorem valA_mk {w : World} {I : Nat → Prop} {κ : Nat → Option KI} {x : AVal} {v : Value} (h : valA x = some v) : Rep w I κ x v := by
  unfold valA at h
  split at h
  · obtain rfl := Option.some.inj h; exact .im (.sc _)
  · rename_i cells
    cases e : scVals cells with
    | none => rw [e] at h; simp at h
    | some vs =>
      rw [e] at h; simp at h; rw [← h]
      obtain rfl := scVals_eq e
      exact .agg (by simp) (fun j h h' => by rw [List.getElem_map]; exact .im (.sc _))
  · simp at h
theorem iter_at {w : World} {I : Nat → Prop} {κ : Nat → Option KI} {k : Nat} {m : Option Nat} {n : Nat} {sn : List Nat} (h : OAt w I κ k (.iter m n sn)) : ∃ ki bm, κ k = some ki ∧ w.heap[ki.b]? = some (.mapIter (some bm) n sn.toArray n) ∧
    ∀ m', m = some m' → ∃ km, κ m' = some km ∧ km.b = bm := by
  unfold OAt at h
  cases e : κ k with
  | none => rw [e] at h; obtain ⟨_, _, h⟩ := h; simp at h
  | some ki => rw [e] at h; obtain ⟨bm, h1, h2⟩ := h; exact ⟨ki, bm, rfl, h1, h2⟩
theorem ptr00 {w : World} {I : Nat → Prop} {κ : Nat → Option KI} {k : Nat} {ki : KI} {v : Value} (h : Rep w I κ (.ptr k 0 0) v) (e : κ k = some ki) : v = .pointer (some ⟨ki.b, 0, none⟩) := by
  cases h with
  | ptr e' => rw [e] at e'; obtain rfl := Option.some.inj e'; simp
theorem born_nodup {arr : Array MapEntry} (h : ∀ (i : Nat) (e : MapEntry), arr[i]? = some e → e.born = i) : (arr.toList.map (·.born)).Nodup := by
  have : arr.toList.map (·.born) = List.range arr.size := by
    apply List.ext_getElem (by simp)
    intro i h1 h2
    simp only [List.length_map, Array.length_toList] at h1
    have := h i arr[i] (Array.getElem?_eq_getElem h1)
    simp [this]
  rw [this]; exact List.nodup_range
def remI (n : Nat) (sn : List Nat) : List Nat := (List.range n).filter fun i => !sn.contains i
theorem remI_push {n : Nat} {sn : List Nat} {i : Nat} (hi : i ∈ remI n sn) : ∃ A B, remI n sn = A ++ i :: B ∧ remI n (sn ++ [i]) = A ++ B := by
  obtain ⟨h1, h2⟩ := List.mem_filter.1 hi
  have hin : i < n := by simpa using h1
  have := filter_part (l := List.range n) (f := fun j => !sn.contains j) (g := fun j => !(sn ++ [i]).contains j) (i := i) (by simpa using hin) (by simpa using h2) (by simp) (fun j hj hne => by simp [hne])
  simp only [List.getElem_range] at this
  exact ⟨_, _, this.1, this.2⟩
theorem Sat.drew {Γ : Ctx} {s : AState} {a : Act} {w : World} (hs : Sat Γ s a w) : Sat Γ s a w.drew := by
  obtain ⟨κ, I, hr⟩ := hs
  have hk : Keeps Γ.M0 Γ.w0 w.drew := ⟨hr.inv.keep.os, hr.inv.keep.tape, hr.inv.keep.output, hr.inv.keep.size, hr.inv.keep.block⟩
  refine ⟨κ, I, hr.size, hr.defers, fun x => (hr.slots x).mono (fun _ h => h) (fun _ _ => rfl) (fun _ _ => rfl), ?_, hr.inv.inj, hr.inv.disj, hr.inv.bound, hk, hr.inv.ikeep, hr.inv.fromI, hr.inv.fromO, hr.inv.fix⟩
  intro k o hko
  have := hr.inv.objs k o hko
  unfold OAt at this ⊢
  split
  · rename_i e; rw [e] at this; exact this
  · rename_i ki e; rw [e] at this; exact this.mono (fun _ h => h) (fun _ _ => rfl) rfl (fun _ _ => rfl)
theorem Sat.putv {Γ : Ctx} {s : AState} {a : Act} {w : World} {κ : Nat → Option KI} {I : Nat → Prop} (hr : Rel Γ κ I s a w) (d : Nat) (hd : d < Γ.n) {x : AVal} {v : Value} (hx : Rep w I κ x v) : Rel Γ κ I (s.put (some d) x) (a.put (some d) v) w := by
  refine ⟨by simpa [Act.put] using hr.size, hr.defers, fun y => ?_, hr.inv.eqv (fun k o hk => by rw [AState.obj_put] at hk; exact hk) rfl⟩
  rw [AState.get_put]
  by_cases e : d = y
  · rw [if_pos e]
    have hsz : d < a.tmps.size := by rw [hr.size]; exact hd
    have : (a.put (some d) v).tmps.getD y undef = v := by subst e; simp [Act.put, hsz]
    rw [this]; exact hx
  · rw [if_neg e]
    have : (a.put (some d) v).tmps.getD y undef = a.tmps.getD y undef := by simp [Act.put, Array.getD_eq_getD_getElem?, Array.getElem?_setIfInBounds, e]
    rw [this]; exact hr.slots y
theorem AWp.next {Γ : Ctx} {P : Program} {id : Nat} {o1 o2 : Oper} {Q : Exit → AState → Prop} {s : AState} {x : Operand} (d1 d2 k m : Nat) {n : Nat} {sn : List Nat} {es : List (Value × Im)} (hP : Γ.P = P)
    (h1 : o1.op = .next x false) (h2 : o2.op = .extract (.tmp d1) 0) (g1 : o1.guard = none) (g2 : o2.guard = none) (e1 : o1.dst = some d1) (e2 : o2.dst = some d2) (l1 : d1 < Γ.n) (l2 : d2 < Γ.n)
    (hx : s.eval x = .ptr k 0 0) (hk : s.obj k = some (.iter (some m) n sn)) (hm : s.obj m = some (.map es)) (hn : n = es.length)
    (h0 : remI n sn = [] → Q .normal ((s.put (some d1) .top).put (some d2) (.im (.sc (.bool false)))))
    (hi : ∀ i A B, remI n sn = A ++ i :: B → remI n (sn ++ [i]) = A ++ B → i < n → Q .normal (((s.objput [(k, some (.iter (some m) n (sn ++ [i])))]).put (some d1) .top).put (some d2) (.im (.sc (.bool true))))) :
    AWp Γ (.region id #[o1, o2] false) Q s := by
  subst hP
  intro a w hs
  refine wp_region_lit ?_
  refine wpList_plain g1 fun K hK => ?_
  obtain ⟨κ, I, hr⟩ := hs
  obtain ⟨km, arr, eκ, q1, q2, q3⟩ := map_at (hr.inv.objs m _ hm)
  obtain ⟨ki, bm, eκ2, r1, r2⟩ := iter_at (hr.inv.objs k _ hk)
  obtain ⟨km', e', rfl⟩ := r2 m rfl
  rw [eκ] at e'; obtain rfl := Option.some.inj e'
  have hrx := hr.eval x
  rw [hx] at hrx
  have ex := ptr00 hrx eκ2
  have hborn : ∀ e ∈ arr.toList, ∃ i, arr[i]? = some e ∧ e.born = i ∧ i < n := by
    intro e he
    obtain ⟨i, hi, rfl⟩ := List.mem_iff_getElem.1 he
    simp only [Array.length_toList] at hi
    obtain ⟨e2, b1, b2, _⟩ := q3 i (by omega)
    have : arr[i]? = some arr[i] := Array.getElem?_eq_getElem hi
    rw [this] at b1; obtain rfl := Option.some.inj b1
    exact ⟨i, by simp, by simpa using b2, by omega⟩
  have step2 : ∀ (s1 : AState) (a1 : Act) (w1 : World) (b : Bool) (vs : List Value), Sat Γ s1 (a1.put (some d1) (.tuple ((.bool b) :: vs).toArray)) w1 → d1 < a1.tmps.size → Q .normal (s1.put (some d2) (.im (.sc (.bool b)))) →
      wpList Γ.P #[o1, o2] (fun e a' w' => ∃ s', Sat Γ s' a' w' ∧ Q e s') [o2] (a1.put (some d1) (.tuple ((.bool b) :: vs).toArray)) w1 := by
    intro s1 a1 w1 b vs hs1 hsz hq
    refine wpList_plain g2 fun K hK => ?_
    have hval : (a1.put (some d1) (.tuple ((.bool b) :: vs).toArray)).eval (.tmp d1) = .tuple ((.bool b) :: vs).toArray := by simp [Act.put, Act.eval, hsz]
    have hgoal := hK ((a1.put (some d1) (.tuple ((.bool b) :: vs).toArray)).put o2.dst (.bool b)) w1 (by
      refine ⟨_, ?_, hq⟩
      rw [e2]
      obtain ⟨κ1, I1, hr1⟩ := hs1
      exact ⟨κ1, I1, Sat.putv hr1 d2 l2 (.im (.sc _))⟩)
    unfold Oper.wp
    simp [execOp, h2, hval, Instr.extract, Result.andThen]
    exact hgoal
  have hmemI : ∀ e, e ∈ (leftOf arr sn.toArray).toList ↔ ∃ i, arr[i]? = some e ∧ e.born = i ∧ i ∈ remI n sn := by
    intro e
    constructor
    · intro he
      have he' : e ∈ arr ∧ e.born ∉ sn := by simpa [leftOf] using he
      obtain ⟨i, b1, b2, b3⟩ := hborn e (by simpa using he'.1)
      refine ⟨i, b1, b2, List.mem_filter.2 ⟨by simpa using b3, ?_⟩⟩
      rw [b2] at he'; simpa using he'.2
    · rintro ⟨i, b1, b2, b3⟩
      obtain ⟨_, b4⟩ := List.mem_filter.1 b3
      have := Array.mem_of_getElem? b1
      have hb4 : i ∉ sn := by simpa using b4
      simp [leftOf, this, b2, hb4]
  have hsz1 : d1 < a.tmps.size := by rw [hr.size]; exact l1
  rcases run_next_at (P := Γ.P) w o1.type ki.b km.b n n sn.toArray arr es.length r1 q1 (fun e he => by obtain ⟨i, _, b2, b3⟩ := hborn e he; omega) (by omega) with ⟨c0, hrun⟩ | ⟨e, he, w1, hw1, hrun⟩
  · have hrem : remI n sn = [] := by
      refine List.eq_nil_iff_forall_not_mem.2 fun i hi' => ?_
      have hin : i < n := by have := (List.mem_filter.1 hi').1; simpa using this
      obtain ⟨e, b1, b2, _⟩ := q3 i (by omega)
      have := (hmemI e).2 ⟨i, b1, b2, hi'⟩
      have h00 : (leftOf arr sn.toArray).toList = [] := by rw [← List.length_eq_zero_iff]; simpa using c0
      rw [h00] at this; simp at this
    have hg := hK (a.put o1.dst (.tuple #[.bool false])) w (by
      rw [e1]
      exact step2 (s.put (some d1) .top) a w false [] ⟨κ, I, Sat.putv hr d1 l1 (.top _)⟩ hsz1 (h0 hrem))
    unfold Oper.wp
    simp [execOp, h1, ex, hrun, Result.andThen]
    exact hg
  · obtain ⟨i, b1, b2, b3⟩ := (hmemI e).1 he
    obtain ⟨A, B, p1, p2⟩ := remI_push b3
    have hin : i < n := by have := (List.mem_filter.1 b3).1; simpa using this
    have hs1 : ∃ κ I, Rel Γ κ I s a w1 ∧ κ k = some ki ∧ κ m = some km ∧ w1.heap = w.heap := by
      rcases hw1 with rfl | rfl
      · exact ⟨κ, I, hr, eκ2, eκ, rfl⟩
      · have hk' : Keeps Γ.M0 Γ.w0 w.drew := ⟨hr.inv.keep.os, hr.inv.keep.tape, hr.inv.keep.output, hr.inv.keep.size, hr.inv.keep.block⟩
        refine ⟨κ, I, ⟨hr.size, hr.defers, fun x => (hr.slots x).mono (fun _ h => h) (fun _ _ => rfl) (fun _ _ => rfl), ⟨fun k o hko => ?_, hr.inv.inj, hr.inv.disj, hr.inv.bound, hk', hr.inv.ikeep, hr.inv.fromI, hr.inv.fromO, hr.inv.fix⟩⟩, eκ2, eκ, rfl⟩
        have := hr.inv.objs k o hko
        unfold OAt at this ⊢
        split
        · rename_i e; rw [e] at this; exact this
        · rename_i ki e; rw [e] at this; exact this.mono (fun _ h => h) (fun _ _ => rfl) rfl (fun _ _ => rfl)
    obtain ⟨κ1, I1, hr1, f1, f2, f3⟩ := hs1
    let ob : Obj := .mapIter (some km.b) n (sn ++ [e.born]).toArray es.length
    have hb : ki.b < w1.heap.size := by rw [f3]; exact (Array.getElem?_eq_some_iff.1 r1).1
    have hO : ORep (World.setBlock w1 ki.b ob) I1 κ1 ki (.iter (some m) n (sn ++ [i])) := by
      refine ⟨km.b, by rw [setBlock_get _ _ _ _ hb, if_pos rfl]; simp [ob, b2, hn], fun m' e => by obtain rfl := Option.some.inj e; exact ⟨km, f2, rfl⟩⟩
    obtain ⟨u1, u2⟩ := hr1.inv.update hk f1 hO
    have hr2 : Rel Γ κ1 I1 (s.objput [(k, some (.iter (some m) n (sn ++ [i])))]) a (World.setBlock w1 ki.b ob) :=
      ⟨hr1.size, hr1.defers, fun y => (hr1.slots y).mono (fun _ h => h) u2 (fun _ _ => rfl), u1⟩
    have hg := hK (a.put o1.dst (.tuple #[.bool true, e.key, e.val])) (World.setBlock w1 ki.b ob) (by
      rw [e1]
      exact step2 _ a _ true [e.key, e.val] ⟨κ1, I1, Sat.putv hr2 d1 l1 (.top _)⟩ hsz1 (hi i A B p1 p2 hin))
    unfold Oper.wp
    simp [execOp, h1, ex, hrun, Result.andThen]
    exact hg
end Go.Pv
