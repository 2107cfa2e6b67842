import Derived.ChangeKeysEq
import Derived.Laws.BytesString
import Derived.Laws.Externs
import Derived.Laws.StructEq
import Derived.Lib.Builder
import Derived.Lib.Bytealg
import Derived.Lib.UnsafeStr
import Derived.Test.YtppfbpckgfkhfaaGreatDoorPxReportNames02
set_option linter.unusedVariables false
set_option linter.unusedSimpArgs false
namespace Go.Pv
mutual
def convT (inv : List (Nat × Nat)) (views : List (Nat × List (List Im))) (e0 : List Nat) : AVal → AVal → AVal
  | .own k, .none0 => match isIn k e0 with
    | true => .own k
    | false => .none0
  | .im _, .none0 => .im (.row [])
  | .top, _ => .top
  | .agg ys, .agg xs => .agg (convTL inv views e0 ys xs)
  | _, x => pass inv views x
def convTL (inv : List (Nat × Nat)) (views : List (Nat × List (List Im))) (e0 : List Nat) : List AVal → List AVal → List AVal
  | y :: ys, x :: xs => convT inv views e0 y x :: convTL inv views e0 ys xs
  | _, [] => []
  | [], x :: xs => pass inv views x :: convTL inv views e0 [] xs
end
theorem convTL_get {inv : List (Nat × Nat)} {views : List (Nat × List (List Im))} {e0 : List Nat} : ∀ (xs ys : List AVal), (convTL inv views e0 ys xs).length = xs.length ∧
    ∀ j (h : j < xs.length) (h' : j < (convTL inv views e0 ys xs).length), (∃ y, (convTL inv views e0 ys xs)[j] = convT inv views e0 y (xs[j])) := by
  intro xs
  induction xs with
  | nil => intro ys; cases ys <;> exact ⟨by simp [convTL], fun j h => absurd h (Nat.not_lt_zero _)⟩
  | cons x xs ih =>
    intro ys
    have hpass : ∀ x, ∃ y, pass inv views x = convT inv views e0 y x := fun x => by
      cases x with
      | none0 => exact ⟨.none0, by simp [convT]⟩
      | agg l => exact ⟨.none0, by simp [convT]⟩
      | _ => exact ⟨.none0, by simp [convT]⟩
    cases ys with
    | nil =>
      obtain ⟨h1, h2⟩ := ih []
      refine ⟨by simp [convTL, h1], fun j h h' => ?_⟩
      cases j with
      | zero => simp only [convTL, List.getElem_cons_zero]; exact hpass x
      | succ j => simp only [convTL, List.getElem_cons_succ]; exact h2 j (by simpa using h) (by simpa [convTL] using h')
    | cons y ys =>
      obtain ⟨h1, h2⟩ := ih ys
      refine ⟨by simp [convTL, h1], fun j h h' => ?_⟩
      cases j with
      | zero => exact ⟨y, by simp [convTL]⟩
      | succ j => simp only [convTL, List.getElem_cons_succ]; exact h2 j (by simpa using h) (by simpa [convTL] using h')
theorem convT_rep {w : World} {I I' : Nat → Prop} {κ κ' : Nat → Option KI} {inv : List (Nat × Nat)} {views : List (Nat × List (List Im))} {e0 : List Nat} (hI : ∀ b, I b → I' b)
    (hinv : ∀ k kc, look inv k = some kc → κ' kc = κ k) (hv : ∀ k es, look views k = some es → (∃ sz el, OAt w I κ k (.row sz el es)) ∧ ∀ ki, κ k = some ki → I' ki.b)
    (he0 : ∀ k, isIn k e0 = true → κ' k = none) {x : AVal} {v : Value} (h : Rep w I κ x v) : ∀ y, Rep w I' κ' (convT inv views e0 y x) v := by
  induction h with
  | @agg cells vs hl hr ih =>
    intro y
    cases y with
    | agg ys =>
      simp only [convT]
      obtain ⟨h1, h2⟩ := convTL_get (inv := inv) (views := views) (e0 := e0) cells ys
      refine .agg (by rw [h1]; exact hl) (fun j h h' => ?_)
      obtain ⟨y, e⟩ := h2 j (by omega) h
      rw [e]; exact ih j (by omega) h' y
    | top => exact .top _
    | _ => simp only [convT]; exact pass_rep hI hinv hv (.agg hl hr)
  | none0 base =>
    intro y
    cases y with
    | own k =>
      simp only [convT]
      cases e : isIn k e0 with
      | true => exact .own0 base (he0 k e)
      | false => exact .none0 base
    | im x => simp only [convT]; exact .im (.row0 base 0)
    | top => exact .top _
    | _ => simp only [convT, pass]; exact .none0 base
  | top v => intro y; cases y <;> simp only [convT, pass] <;> exact .top _
  | im h => intro y; cases y <;> simp only [convT] <;> first | exact .top _ | exact pass_rep hI hinv hv (.im h)
  | own0 base e => intro y; cases y <;> simp only [convT] <;> first | exact .top _ | exact pass_rep hI hinv hv (.own0 base e)
  | own e => intro y; cases y <;> simp only [convT] <;> first | exact .top _ | exact pass_rep hI hinv hv (.own e)
  | mown e => intro y; cases y <;> simp only [convT] <;> first | exact .top _ | exact pass_rep hI hinv hv (.mown e)
  | cut0 base e => intro y; cases y <;> simp only [convT] <;> first | exact .top _ | exact pass_rep hI hinv hv (.cut0 base e)
  | cut e h1 h2 => intro y; cases y <;> simp only [convT] <;> first | exact .top _ | exact pass_rep hI hinv hv (.cut e h1 h2)
  | sub0 base e => intro y; cases y <;> simp only [convT] <;> first | exact .top _ | exact pass_rep hI hinv hv (.sub0 base e)
  | sub e h1 h2 h3 => intro y; cases y <;> simp only [convT] <;> first | exact .top _ | exact pass_rep hI hinv hv (.sub e h1 h2 h3)
  | ptr e => intro y; cases y <;> simp only [convT] <;> first | exact .top _ | exact pass_rep hI hinv hv (.ptr e)
  | ip u hb hc hr => intro y; cases y <;> simp only [convT] <;> first | exact .top _ | exact pass_rep hI hinv hv (.ip u hb hc hr)
  | tup hl hr ih => intro y; cases y <;> simp only [convT] <;> first | exact .top _ | exact pass_rep hI hinv hv (.tup hl hr)
  | fn hl hr ih => intro y; cases y <;> simp only [convT] <;> first | exact .top _ | exact pass_rep hI hinv hv (.fn hl hr)
  | gl g => intro y; cases y <;> simp only [convT] <;> first | exact .top _ | exact pass_rep hI hinv hv (.gl g)
def convTLL (inv : List (Nat × Nat)) (views : List (Nat × List (List Im))) (e0 : List Nat) : List (List AVal) → List (List AVal) → List (List AVal)
  | y :: ys, x :: xs => convTL inv views e0 y x :: convTLL inv views e0 ys xs
  | _, [] => []
  | [], x :: xs => convTL inv views e0 [] x :: convTLL inv views e0 [] xs
theorem convTLL_get {inv : List (Nat × Nat)} {views : List (Nat × List (List Im))} {e0 : List Nat} : ∀ (xs ys : List (List AVal)), (convTLL inv views e0 ys xs).length = xs.length ∧
    ∀ j (h : j < xs.length) (h' : j < (convTLL inv views e0 ys xs).length), (∃ y, (convTLL inv views e0 ys xs)[j] = convTL inv views e0 y (xs[j])) := by
  intro xs
  induction xs with
  | nil => intro ys; cases ys <;> exact ⟨by simp [convTLL], fun j h => absurd h (Nat.not_lt_zero _)⟩
  | cons x xs ih =>
    intro ys
    cases ys with
    | nil =>
      obtain ⟨h1, h2⟩ := ih []
      refine ⟨by simp [convTLL, h1], fun j h h' => ?_⟩
      cases j with
      | zero => exact ⟨[], by simp [convTLL]⟩
      | succ j => simp only [convTLL, List.getElem_cons_succ]; exact h2 j (by simpa using h) (by simpa [convTLL] using h')
    | cons y ys =>
      obtain ⟨h1, h2⟩ := ih ys
      refine ⟨by simp [convTLL, h1], fun j h h' => ?_⟩
      cases j with
      | zero => exact ⟨y, by simp [convTLL]⟩
      | succ j => simp only [convTLL, List.getElem_cons_succ]; exact h2 j (by simpa using h) (by simpa [convTLL] using h')
def datL : List AVal → Option (List Im)
  | [] => some []
  | .im x :: r => match datL r with
    | some l => some (x :: l)
    | none => none
  | _ => none
def datLL : List (List AVal) → Option (List (List Im))
  | [] => some []
  | g :: r => match datL g, datLL r with
    | some c, some l => some (c :: l)
    | _, _ => none
theorem datL_eq : ∀ {l : List AVal} {c : List Im}, datL l = some c → l = c.map .im := by
  intro l
  induction l with
  | nil => intro c h; obtain rfl := Option.some.inj h; rfl
  | cons x r ih =>
    intro c h
    cases x with
    | im x =>
      simp only [datL] at h
      split at h
      · rename_i l e; obtain rfl := Option.some.inj h; rw [List.map_cons, ← ih e]
      · simp at h
    | _ => simp [datL] at h
theorem datLL_eq : ∀ {l : List (List AVal)} {c : List (List Im)}, datLL l = some c → l = imL c := by
  intro l
  induction l with
  | nil => intro c h; obtain rfl := Option.some.inj h; rfl
  | cons x r ih =>
    intro c h
    simp only [datLL] at h
    split at h
    · rename_i d l e1 e2
      obtain rfl := Option.some.inj h
      show x :: r = d.map .im :: imL l
      rw [← datL_eq e1, ← ih e2]
    · simp at h
def tailOf : MObj → List (List AVal)
  | .arow _ _ _ fs => fs
  | _ => []
def keepOf : MObj → Option Nat
  | .arow _ _ _ fs => some fs.length
  | .row _ _ _ => some 0
  | _ => none
def rowOf : MObj → Bool
  | .row _ _ _ => true
  | _ => false
def convA (sz el : Nat) (es : List (List Im)) (fs : List (List AVal)) (keep : Option Nat) (row : Bool) : MObj :=
  match keep with
  | none => .arow sz el es fs
  | some n => match fs.length - n with
    | 0 => match row, fs with
      | true, [] => .row sz el es
      | _, _ => .arow sz el es fs
    | d + 1 => match datLL (fs.take (d + 1)) with
      | none => .arow sz el es fs
      | some c => match row, fs.drop (d + 1) with
        | true, [] => .row sz el (es ++ c)
        | _, gs => .arow sz el (es ++ c) gs
theorem ARow.toRow {w : World} {I : Nat → Prop} {κ : Nat → Option KI} {ki : KI} {sz el : Nat} {es : List (List Im)} (h : ARow w I κ ki sz el (imL es)) : ORep w I κ ki (.row sz el es) := by
  obtain ⟨h1, h2, h3, arr, h4, h5, h6⟩ := h
  rw [imL_length] at h2 h3
  refine ⟨h1, h2, h3, arr, h4, h5, fun i hi => ?_⟩
  obtain ⟨g1, g2⟩ := h6 i (by rw [imL_length]; exact hi)
  simp only [imL_get, List.length_map] at g1 g2
  refine ⟨g1, fun j hj => ?_⟩
  obtain ⟨v, e, r⟩ := g2 j hj
  simp only [List.getElem_map] at r
  cases r with
  | im r => exact ⟨v, e, r⟩
theorem imL_append (a b : List (List Im)) : imL (a ++ b) = imL a ++ imL b := List.map_append ..
theorem convA_ok {w : World} {I : Nat → Prop} {κ : Nat → Option KI} {ki : KI} {sz el : Nat} {es : List (List Im)} {fs : List (List AVal)} {keep : Option Nat} {row : Bool} (h : ARow w I κ ki sz el (imL es ++ fs)) : ORep w I κ ki (convA sz el es fs keep row) := by
  unfold convA
  split
  · exact h
  · rename_i n
    split
    · split
      · rw [List.append_nil] at h; exact ARow.toRow h
      · exact h
    · rename_i d _
      split
      · exact h
      · rename_i c hc
        have e := datLL_eq hc
        have e2 : imL es ++ fs = imL (es ++ c) ++ fs.drop (d + 1) := by rw [imL_append, ← e, List.append_assoc, List.take_append_drop]
        split
        · rename_i hd
          rw [hd, List.append_nil] at e2
          exact ARow.toRow (e2 ▸ h)
        · show ARow w I κ ki sz el (imL (es ++ c) ++ fs.drop (d + 1)); rw [← e2]; exact h
def convO (inv : List (Nat × Nat)) (views : List (Nat × List (List Im))) (e0 : List Nat) : MObj → MObj → MObj
  | .box _ ys, .box el xs => .box el (convTL inv views e0 ys xs)
  | _, .row sz el es => .row sz el es
  | _, .box el xs => .box el (convTL inv views e0 [] xs)
  | _, .map es => .map es
  | _, .dmap es => .dmap es
  | .gmap _ ys _ _, .gmap ks xs bs c => .gmap ks (convTL inv views e0 ys xs) bs c
  | _, .gmap ks xs bs c => .gmap ks (convTL inv views e0 [] xs) bs c
  | _, .niter => .niter
  | _, .iter m n sn => .iter (m.bind (look inv)) n sn
  | .amap _ ys, .amap ks xs => .amap ks (convTL inv views e0 ys xs)
  | _, .amap ks xs => .amap ks (convTL inv views e0 [] xs)
  | y, .arow sz el es fs => convA sz el es (convTLL inv views e0 (tailOf y) fs) (keepOf y) (rowOf y)
def emptyRow : MObj → Bool
  | .row _ _ [] => true
  | _ => false
def convObjs (s : AState) (inv : List (Nat × Nat)) (views : List (Nat × List (List Im))) (e0 : List Nat) : List (Nat × Option MObj) → Option (List (Nat × Option MObj))
  | [] => some []
  | (kc, some o) :: r => match isIn kc e0 && emptyRow o, convObjs s inv views e0 r with
    | true, some l => some ((kc, some o) :: l)
    | false, some l => match look (swapL inv) kc with
      | some k => match s.obj k with
        | some os => some ((kc, some (convO inv views e0 o os)) :: l)
        | none => none
      | none => none
    | _, none => none
  | (kc, none) :: r => match convObjs s inv views e0 r with
    | some l => some ((kc, none) :: l)
    | none => none
def convKeysOK (s : AState) (inv : List (Nat × Nat)) (views : List (Nat × List (List Im))) (e0 : List Nat) : Bool :=
  keysOK.distinct (inv.map (·.1)) && keysOK.distinct (inv.map (·.2)) && apart (inv.map (·.1)) (views.map (·.1)) && apart e0 (inv.map (·.2)) && e0.all (fun k => Nat.ble s.floor k) &&
  inv.all (fun p => Nat.beq p.1 p.2 || Nat.ble s.floor p.2)
def convS (s : AState) (inv : List (Nat × Nat)) (vk e0 : List Nat) (t : AState) : Option AState :=
  match viewsOf s vk with
  | some views => match convKeysOK s inv views e0, convObjs s inv views e0 t.objs with
    | true, some objs => some ⟨t.slots.map fun p => (p.1, convT inv views e0 p.2 (s.get p.1)), objs, s.floor⟩
    | _, _ => none
  | none => none
theorem look_map2 {α β : Type} (f : Nat → α → β) : ∀ (l : List (Nat × α)) (x : Nat) (v : β), look (l.map fun p => (p.1, f p.1 p.2)) x = some v → ∃ u, v = f x u := by
  intro l x v h
  obtain ⟨p, _, e⟩ := List.mem_map.1 (look_mem h)
  simp at e
  exact ⟨p.2, by rw [← e.2, e.1]⟩
theorem Sat.conv {Γ : Ctx} {s t t' : AState} {a : Act} {w : World} (inv : List (Nat × Nat)) (vk e0 : List Nat) (h : convS s inv vk e0 t = some t') (hs : Sat Γ s a w) : Sat Γ t' a w := by
  unfold convS at h
  split at h
  · rename_i views hviews
    split at h
    · rename_i objs hk hobjs
      obtain rfl := Option.some.inj h
      obtain ⟨κ, I, hr⟩ := hs
      simp only [convKeysOK, Bool.and_eq_true] at hk
      obtain ⟨⟨⟨⟨⟨k1, k2⟩, k3⟩, k4⟩, k5⟩, k6⟩ := hk
      rw [distinct_iff] at k1 k2
      rw [apart_iff] at k3 k4
      have hk2' : ((swapL inv).map (·.1)).Nodup := by simpa [swapL, Function.comp_def] using k2
      have hvo := viewsOf_ok hviews
      let κ' : Nat → Option KI := fun k => match isIn k e0 with
        | true => none
        | false => match look (swapL inv) k with
          | some k0 => κ k0
          | none => κ k
      let I' : Nat → Prop := fun b => I b ∨ ∃ k es ki, look views k = some es ∧ κ k = some ki ∧ ki.b = b
      have hI : ∀ b, I b → I' b := fun b h => .inl h
      have hview : ∀ k es, look views k = some es → ∃ sz el, s.obj k = some (.row sz el es) := fun k es h => hvo _ (look_mem h)
      have hv : ∀ k es, look views k = some es → (∃ sz el, OAt w I κ k (.row sz el es)) ∧ ∀ ki, κ k = some ki → I' ki.b := by
        intro k es h
        obtain ⟨sz, el, e⟩ := hview k es h
        exact ⟨⟨sz, el, hr.inv.objs k _ e⟩, fun ki hκ => .inr ⟨k, es, ki, h, hκ, rfl⟩⟩
      have hnote0 : ∀ k kc, (k, kc) ∈ inv → isIn kc e0 = false := by
        intro k kc hm
        cases e : isIn kc e0 with
        | false => rfl
        | true => exact absurd (List.mem_map.2 ⟨(k, kc), hm, rfl⟩) (k4 kc (isIn_iff.1 e))
      have hinvm : ∀ k kc, (k, kc) ∈ inv → κ' kc = κ k := by
        intro k kc hm
        have h1 : look (swapL inv) kc = some k := look_of_mem hk2' (List.mem_map.2 ⟨(k, kc), hm, rfl⟩)
        simp only [κ', hnote0 k kc hm, h1]
      have hinv : ∀ k kc, look inv k = some kc → κ' kc = κ k := fun k kc h => hinvm k kc (look_mem h)
      have he0 : ∀ k, isIn k e0 = true → κ' k = none := fun k h => by simp only [κ', h]
      have hobj : ∀ (l l' : List (Nat × Option MObj)), convObjs s inv views e0 l = some l' → ∀ kc o', (kc, some o') ∈ l' → (isIn kc e0 = true ∧ emptyRow o' = true) ∨ ∃ k o y, (k, kc) ∈ inv ∧ s.obj k = some o ∧ o' = convO inv views e0 y o := by
        intro l
        induction l with
        | nil => intro l' h kc o' hm; simp [convObjs] at h; subst h; simp at hm
        | cons p l ih =>
          intro l' h kc o' hm
          obtain ⟨kp, op⟩ := p
          cases op with
          | none =>
            simp only [convObjs] at h
            split at h
            · rename_i l2 h2
              obtain rfl := Option.some.inj h
              rcases List.mem_cons.1 hm with h3 | h3
              · simp at h3
              · exact ih l2 h2 kc o' h3
            · simp at h
          | some o =>
            simp only [convObjs] at h
            split at h
            · rename_i l2 hb h2
              obtain rfl := Option.some.inj h
              simp only [Bool.and_eq_true] at hb
              rcases List.mem_cons.1 hm with h3 | h3
              · simp at h3; obtain ⟨rfl, rfl⟩ := h3; exact .inl hb
              · exact ih l2 h2 kc o' h3
            · rename_i l2 hb h2
              split at h
              · rename_i k hk
                split at h
                · rename_i os hos
                  obtain rfl := Option.some.inj h
                  rcases List.mem_cons.1 hm with h3 | h3
                  · simp at h3; obtain ⟨rfl, rfl⟩ := h3
                    obtain ⟨p, hp, hpe⟩ := List.mem_map.1 (look_mem hk)
                    simp at hpe; obtain ⟨rfl, rfl⟩ := hpe
                    exact .inr ⟨p.1, os, o, hp, hos, rfl⟩
                  · exact ih l2 h2 kc o' h3
                · simp at h
              · simp at h
            · simp at h
      have hobj' : ∀ kc o', (⟨t.slots.map fun p => (p.1, convT inv views e0 p.2 (s.get p.1)), objs, s.floor⟩ : AState).obj kc = some o' →
          (isIn kc e0 = true ∧ emptyRow o' = true) ∨ ∃ k o y, (k, kc) ∈ inv ∧ s.obj k = some o ∧ o' = convO inv views e0 y o := by
        intro kc o' h
        simp only [AState.obj] at h
        cases e : look objs kc with
        | none => rw [e] at h; simp at h
        | some ov => rw [e] at h; have : ov = some o' := h; subst this; exact hobj _ _ hobjs kc o' (look_mem e)
      have hnv : ∀ k kc, (k, kc) ∈ inv → look views k = none := fun k kc hm => look_none (fun h => k3 k (List.mem_map.2 ⟨_, hm, rfl⟩) h)
      refine ⟨κ', I', hr.size, hr.defers, fun x => ?_, ?_, ?_, ?_, ?_, hr.inv.keep, fun b h => .inl (hr.inv.ikeep b h), ?_, ?_, ?_⟩
      · show Rep w I' κ' ((look (t.slots.map fun p => (p.1, convT inv views e0 p.2 (s.get p.1))) x).getD .top) _
        cases e : look (t.slots.map fun p => (p.1, convT inv views e0 p.2 (s.get p.1))) x with
        | none => exact .top _
        | some y =>
          obtain ⟨u, rfl⟩ := look_map2 (fun i u => convT inv views e0 u (s.get i)) t.slots x y e
          exact convT_rep hI hinv hv he0 (hr.slots x) u
      · intro kc o' h
        rcases hobj' kc o' h with ⟨h1, h2⟩ | ⟨k, o, y, hm, ho, rfl⟩
        · simp only [OAt, he0 kc h1]
          cases o' with
          | row sz el es => cases es with
            | nil => exact ⟨sz, el, rfl⟩
            | cons => simp [emptyRow] at h2
          | box => simp [emptyRow] at h2
          | map => simp [emptyRow] at h2
          | iter => simp [emptyRow] at h2
          | arow => simp [emptyRow] at h2
          | amap => simp [emptyRow] at h2
          | dmap => simp [emptyRow] at h2
          | gmap => simp [emptyRow] at h2
          | niter => simp [emptyRow] at h2
        · have := hr.inv.objs k o ho
          unfold OAt at this ⊢
          rw [hinvm k kc hm]
          cases eκ : κ k with
          | none => rw [eκ] at this; obtain ⟨sz, el, rfl⟩ := this; exact ⟨sz, el, by cases y <;> rfl⟩
          | some ki =>
            rw [eκ] at this
            cases o with
            | row sz el es =>
              have hrow : convO inv views e0 y (.row sz el es) = .row sz el es := by cases y <;> rfl
              rw [hrow]
              obtain ⟨h1, h2, h3, arr, h4, h5, h6⟩ := this
              exact ⟨h1, h2, h3, arr, h4, h5, fun i hi => ⟨(h6 i hi).1, fun j hj => let ⟨u, a, b⟩ := (h6 i hi).2 j hj; ⟨u, a, b.mono hI (fun _ _ => rfl)⟩⟩⟩
            | box el cells =>
              obtain ⟨ys, hbox⟩ : ∃ ys, convO inv views e0 y (.box el cells) = .box el (convTL inv views e0 ys cells) := by cases y with | box _ ys => exact ⟨ys, rfl⟩ | _ => exact ⟨[], rfl⟩
              rw [hbox]
              obtain ⟨h1, h2, arr, h4, h5, h6⟩ := this
              obtain ⟨g1, g2⟩ := convTL_get (inv := inv) (views := views) (e0 := e0) cells ys
              refine ⟨h1, by rw [g1]; exact h2, arr, h4, by rw [g1]; exact h5, fun j hj => ?_⟩
              obtain ⟨u, a, b⟩ := h6 j (by omega)
              obtain ⟨y', e⟩ := g2 j (by omega) hj
              exact ⟨u, a, by rw [e]; exact convT_rep hI hinv hv he0 b y'⟩
            | map es =>
              have hmap : convO inv views e0 y (.map es) = .map es := by cases y <;> rfl
              rw [hmap]
              obtain ⟨arr, h1, h2, h3⟩ := this
              exact ⟨arr, h1, h2, fun i hi => let ⟨e, g1, g2, g3, g4⟩ := h3 i hi; ⟨e, g1, g2, g3, g4.mono hI (fun _ _ => rfl)⟩⟩
            | dmap es =>
              have hmap : convO inv views e0 y (.dmap es) = .dmap es := by cases y <;> rfl
              rw [hmap]
              obtain ⟨arr, h1, h2, h3⟩ := this
              exact ⟨arr, h1, h2, fun i hi => let ⟨e, g1, g2, g3, g4⟩ := h3 i hi; ⟨e, g1, g2, g3, g4.mono hI (fun _ _ => rfl) (fun _ _ => rfl)⟩⟩
            | iter m n sn =>
              have hit : convO inv views e0 y (.iter m n sn) = .iter (m.bind (look inv)) n sn := by cases y <;> rfl
              rw [hit]
              obtain ⟨bm, h1, h2⟩ := this
              refine ⟨bm, h1, fun m' e => ?_⟩
              cases m with
              | none => simp at e
              | some m0 =>
                obtain ⟨km, g1, g2⟩ := h2 m0 rfl
                exact ⟨km, (hinv m0 m' e).trans g1, g2⟩
            | niter =>
              have hmap : convO inv views e0 y .niter = .niter := by cases y <;> rfl
              rw [hmap]; exact this
            | gmap ks xs bs c =>
              obtain ⟨ys, hmap⟩ : ∃ ys, convO inv views e0 y (.gmap ks xs bs c) = .gmap ks (convTL inv views e0 ys xs) bs c := by cases y with | gmap _ ys _ _ => exact ⟨ys, rfl⟩ | _ => exact ⟨[], rfl⟩
              rw [hmap]
              obtain ⟨h0, p1, p2, p3, p4, arr, h1, h2, h3⟩ := this
              obtain ⟨g1, g2⟩ := convTL_get (inv := inv) (views := views) (e0 := e0) xs ys
              refine ⟨by rw [g1]; exact h0, p1, p2, p3, p4, arr, h1, h2, fun i hi => ?_⟩
              obtain ⟨e, f1, f2, f3, f4⟩ := h3 i hi
              refine ⟨e, f1, f2, f3, fun h' => ?_⟩
              obtain ⟨y', e'⟩ := g2 i (by omega) h'
              rw [e']; exact convT_rep hI hinv hv he0 (f4 (by omega)) y'
            | amap ks xs =>
              obtain ⟨ys, hmap⟩ : ∃ ys, convO inv views e0 y (.amap ks xs) = .amap ks (convTL inv views e0 ys xs) := by cases y with | amap _ ys => exact ⟨ys, rfl⟩ | _ => exact ⟨[], rfl⟩
              rw [hmap]
              obtain ⟨h0, arr, h1, h2, h3⟩ := this
              obtain ⟨g1, g2⟩ := convTL_get (inv := inv) (views := views) (e0 := e0) xs ys
              refine ⟨by rw [g1]; exact h0, arr, h1, h2, fun i hi => ?_⟩
              obtain ⟨e, f1, f2, f3, f4⟩ := h3 i hi
              refine ⟨e, f1, f2, f3, fun h' => ?_⟩
              obtain ⟨y', e'⟩ := g2 i (by omega) h'
              rw [e']; exact convT_rep hI hinv hv he0 (f4 (by omega)) y'
            | arow sz el es fs =>
              have har : convO inv views e0 y (.arow sz el es fs) = convA sz el es (convTLL inv views e0 (tailOf y) fs) (keepOf y) (rowOf y) := by cases y <;> rfl
              rw [har]
              refine convA_ok ?_
              obtain ⟨c1, c2⟩ := convTLL_get (inv := inv) (views := views) (e0 := e0) fs (tailOf y)
              refine ARow.tail this hI (fun _ _ => rfl) c1 (fun i hi hi' => ?_) rfl
              obtain ⟨ys, e⟩ := c2 i hi hi'
              obtain ⟨g1, g2⟩ := convTL_get (inv := inv) (views := views) (e0 := e0) (fs[i]) ys
              refine ⟨by rw [e, g1], fun j g g' v r => ?_⟩
              obtain ⟨y', e'⟩ := g2 j g (by rw [g1]; exact g)
              simp only [e, e']
              exact convT_rep hI hinv hv he0 r y'
      · intro q1 q2 o1 o2 ki1 ki2 h1 h2 f1 f2 hbb
        rcases hobj' q1 o1 h1 with ⟨g1, _⟩ | ⟨k, o, y, hm, ho, rfl⟩
        · rw [he0 q1 g1] at f1; simp at f1
        · rcases hobj' q2 o2 h2 with ⟨g1, _⟩ | ⟨k', o', y', hm', ho', rfl⟩
          · rw [he0 q2 g1] at f2; simp at f2
          · rw [hinvm k q1 hm] at f1; rw [hinvm k' q2 hm'] at f2
            have := hr.inv.inj k k' o o' ki1 ki2 ho ho' f1 f2 hbb
            subst this
            have a1 := look_of_mem k1 hm
            have a2 := look_of_mem k1 hm'
            rw [a1] at a2; exact Option.some.inj a2
      · intro q o' ki h f hIb
        rcases hobj' q o' h with ⟨g1, _⟩ | ⟨k, o, y, hm, ho, rfl⟩
        · rw [he0 q g1] at f; simp at f
        · rw [hinvm k q hm] at f
          rcases hIb with hIb | ⟨k', es, ki', h1, h2, h3⟩
          · exact hr.inv.disj k o ki ho f hIb
          · obtain ⟨sz, el, e4⟩ := hview k' es h1
            have := hr.inv.inj k k' o _ ki ki' ho e4 f h2 h3.symm
            subst this
            rw [hnv k q hm] at h1; simp at h1
      · intro b hb
        rcases hb with hb | ⟨k, es, ki, h1, h2, rfl⟩
        · exact hr.inv.bound b hb
        · obtain ⟨sz, el, e4⟩ := hview k es h1
          have := hr.inv.objs k _ e4
          simp only [OAt, h2, ORep] at this
          obtain ⟨_, _, _, arr, h3, _⟩ := this
          exact (Array.getElem?_eq_some_iff.1 h3).1
      · intro b hb
        rcases hb with hb | ⟨k, es, ki, h1, h2, rfl⟩
        · exact hr.inv.fromI b hb
        · obtain ⟨sz, el, e4⟩ := hview k es h1
          exact .inr (hr.inv.fromO k _ ki e4 h2)
      · intro q o' ki h f
        rcases hobj' q o' h with ⟨g1, _⟩ | ⟨k, o, y, hm, ho, rfl⟩
        · rw [he0 q g1] at f; simp at f
        · rw [hinvm k q hm] at f
          exact hr.inv.fromO k o ki ho f
      · intro k hk
        have hk' : k < s.floor := hk
        have hne0 : isIn k e0 = false := by
          cases e : isIn k e0 with
          | false => rfl
          | true => have := List.all_eq_true.1 k5 k (isIn_iff.1 e); have := Nat.le_of_ble_eq_true this; omega
        rw [← hr.inv.fix k hk']
        simp only [κ', hne0]
        cases e : look (swapL inv) k with
        | none => rfl
        | some k0 =>
          obtain ⟨p, hp, hpe⟩ := List.mem_map.1 (look_mem e)
          simp at hpe; obtain ⟨h1, h2⟩ := hpe
          have := List.all_eq_true.1 k6 p hp
          simp only [Bool.or_eq_true] at this
          rcases this with h3 | h3
          · have h3 := Nat.eq_of_beq_eq_true h3
            simp only
            rw [← h2, h3, h1]
          · have := Nat.le_of_ble_eq_true h3; omega
    · simp at h
  · simp at h
theorem AWp.conv {Γ : Ctx} {c : Code} {Q : Exit → AState → Prop} {s t : AState} (inv : List (Nat × Nat)) (vk e0 : List Nat) (h : convS s inv vk e0 t = some t) (k : AWp Γ c Q t) : AWp Γ c Q s :=
  k.weaken fun _ _ hs => hs.conv inv vk e0 h
end Go.Pv
set_option linter.unusedVariables false
set_option linter.unusedSimpArgs false
namespace Go.Pv
def chk (p : Prop) [Decidable p] : Option Unit := if p then some () else none
def at? {α : Type} (xs : List α) (i : Int) : Option α := if 0 ≤ i then xs[i.toNat]? else none
inductive Flow (ρ σ : Type) where
  | ret (r : ρ)
  | out (s : σ)
theorem chk_of {p : Prop} [Decidable p] {α : Type} {f : Unit → Option α} {r : α} (h : (chk p >>= f) = some r) : p ∧ f () = some r := by
  unfold chk at h
  split at h
  · rename_i hp; exact ⟨hp, h⟩
  · simp at h
theorem at_of {α β : Type} {xs : List α} {i : Int} {f : α → Option β} {r : β} (h : (at? xs i >>= f) = some r) : ∃ b, 0 ≤ i ∧ xs[i.toNat]? = some b ∧ f b = some r := by
  unfold at? at h
  split at h
  · rename_i h0
    cases e : xs[i.toNat]? with
    | none => rw [e] at h; simp at h
    | some b => rw [e] at h; exact ⟨b, h0, rfl, h⟩
  · simp at h
theorem bind_of {α β : Type} {x : Option α} {f : α → Option β} {r : β} (h : (x >>= f) = some r) : ∃ b, x = some b ∧ f b = some r := by
  cases x with
  | none => simp at h
  | some b => exact ⟨b, rfl, h⟩
theorem el_map {α : Type} {xs : List α} {i : Nat} {b : α} (f : α → List Im) (h : xs[i]? = some b) : (xs.map f)[i]? = some (f b) := by rw [List.getElem?_map, h]; rfl
theorem len_map {α : Type} (xs : List α) (f : α → List Im) : (xs.map f).length = xs.length := List.length_map ..
theorem all_len {α : Type} (xs : List α) (f : α → List Im) (n : Nat) (h : ∀ x, (f x).length = n) : ∀ c ∈ xs.map f, c.length = n := by
  intro c hc; obtain ⟨x, _, rfl⟩ := List.mem_map.1 hc; exact h x
theorem all_leaf {α : Type} (xs : List α) (f : α → List Im) (h : ∀ x, leaves ((f x).map .im) = true) : ∀ c ∈ xs.map f, leaves (c.map .im) = true := by
  intro c hc; obtain ⟨x, _, rfl⟩ := List.mem_map.1 hc; exact h x
theorem app2 {α : Type} (xs ys : List α) (f : α → List Im) : (xs ++ ys).map f = xs.map f ++ ys.map f := by simp
theorem set1 {α : Type} (xs : List α) (i : Nat) (y : α) (f : α → List Im) : (xs.set i y).map f = (xs.map f).set i (f y) := by rw [List.map_set]
theorem cut1 {α : Type} (xs : List α) (l n : Nat) (f : α → List Im) : ((xs.drop l).take n).map f = ((xs.map f).drop l).take n := by rw [List.map_take, List.map_drop]
abbrev iV (k : IntKind) (n : Int) : AVal := .im (.sc (.int k n))
abbrev bV (b : Bool) : AVal := .im (.sc (.bool b))
abbrev sV (s : ByteArray) : AVal := .im (.sc (.string s))
abbrev iI (k : IntKind) (n : Int) : Im := .sc (.int k n)
abbrev sI (s : ByteArray) : Im := .sc (.string s)
theorem reg {P : Program} {n : Nat} {Γ : Ctx} (hP : Γ.P = P) (hn : Γ.n = n) (hm : P.follows .mixedOrders = true) {id : Nat} {draw : Bool} {Q : Exit → AState → Prop} {s : AState} {ops : List Oper} (hints : List (Nat × Hint)) (live keeps : List Nat) (s' : AState) (ps : List Prop)
    (h : regionRun P n draw ops hints live keeps s = some (s', ps)) (hp : AllP ps) (hq : Q .normal s') : AWp Γ (.region id ops.toArray draw) Q s := by
  subst hP; subst hn; exact AWp.region hints live keeps s' ps hm h hp hq
theorem iT {α : Type} {b : Bool} {x y z : α} (c : b = true) (H : (if b = true then x else y) = z) : x = z := by rw [if_pos c] at H; exact H
theorem iF {α : Type} {b : Bool} {x y z : α} (c : b = false) (H : (if b = true then x else y) = z) : y = z := by rw [if_neg (by simp [c])] at H; exact H
def up (s : AState) (ch : List (Nat × AVal)) (live : List Nat) (oc : List (Nat × Option MObj)) (keeps : List Nat) : AState :=
  ⟨live.map fun x => (x, match look ch x with
    | some v => v
    | none => s.get x), keeps.map fun k => (k, match look oc k with
    | some o => o
    | none => s.obj k), s.floor⟩
theorem rg {P : Program} {n : Nat} {Γ : Ctx} (hP : Γ.P = P) (hn : Γ.n = n) (hm : P.follows .mixedOrders = true) {id : Nat} {draw : Bool} {Q : Exit → AState → Prop} {s : AState} {ops : List Oper} (hints : List (Nat × Hint)) (ch : List (Nat × AVal)) (live : List Nat) (oc : List (Nat × Option MObj)) (keeps : List Nat) (ps : List Prop)
    (h : regionRun P n draw ops hints live keeps s = some (up s ch live oc keeps, ps)) (hp : AllP ps) (hq : Q .normal (up s ch live oc keeps)) : AWp Γ (.region id ops.toArray draw) Q s := reg hP hn hm hints live keeps _ ps h hp hq
theorem rG {P : Program} {n : Nat} {Γ : Ctx} (hP : Γ.P = P) (hn : Γ.n = n) (hm : P.follows .mixedOrders = true) {id : Nat} {draw : Bool} {Q : Exit → AState → Prop} {s : AState} {ops : List Oper} (hints : List (Nat × Hint)) (ch : List (Nat × AVal)) (live : List Nat) (oc : List (Nat × Option MObj)) (keeps : List Nat) (ps : List Prop) (hp : AllP ps) (hq : Q .normal (up s ch live oc keeps))
    (h : regionRun P n draw ops hints live keeps s = some (up s ch live oc keeps, ps) := by kernel_rfl) : AWp Γ (.region id ops.toArray draw) Q s := reg hP hn hm hints live keeps _ ps h hp hq
theorem sR {P : Program} {n : Nat} {Γ : Ctx} (hP : Γ.P = P) (hn : Γ.n = n) (hm : P.follows .mixedOrders = true) {id : Nat} {draw : Bool} {y : Code} {Q : Exit → AState → Prop} {s : AState} {ops : List Oper} (hints : List (Nat × Hint)) (ch : List (Nat × AVal)) (live : List Nat) (oc : List (Nat × Option MObj)) (keeps : List Nat) (ps : List Prop) (hp : AllP ps) (hq : AWp Γ y Q (up s ch live oc keeps))
    (h : regionRun P n draw ops hints live keeps s = some (up s ch live oc keeps, ps) := by kernel_rfl) : AWp Γ (.seq (.region id ops.toArray draw) y) Q s := AWp.seq (reg hP hn hm hints live keeps _ ps h hp hq)
theorem rO {P : Program} {n : Nat} {Γ : Ctx} (hP : Γ.P = P) (hn : Γ.n = n) (hm : P.follows .mixedOrders = true) {id : Nat} {draw : Bool} {Q : Exit → AState → Prop} {s : AState} {ops : List Oper} (hints : List (Nat × Hint)) (ch : List (Nat × AVal)) (live : List Nat) (oc : List (Nat × Option MObj)) (keeps : List Nat) (hq : Q .normal (up s ch live oc keeps))
    (h : regionRun P n draw ops hints live keeps s = some (up s ch live oc keeps, []) := by kernel_rfl) : AWp Γ (.region id ops.toArray draw) Q s := reg hP hn hm hints live keeps _ [] h trivial hq
theorem sO {P : Program} {n : Nat} {Γ : Ctx} (hP : Γ.P = P) (hn : Γ.n = n) (hm : P.follows .mixedOrders = true) {id : Nat} {draw : Bool} {y : Code} {Q : Exit → AState → Prop} {s : AState} {ops : List Oper} (hints : List (Nat × Hint)) (ch : List (Nat × AVal)) (live : List Nat) (oc : List (Nat × Option MObj)) (keeps : List Nat) (hq : AWp Γ y Q (up s ch live oc keeps))
    (h : regionRun P n draw ops hints live keeps s = some (up s ch live oc keeps, []) := by kernel_rfl) : AWp Γ (.seq (.region id ops.toArray draw) y) Q s := AWp.seq (reg hP hn hm hints live keeps _ [] h trivial hq)
theorem sj {α : Type} {a b : α} (h : some a = some b) : a = b := Option.some.inj h
theorem LWp.conv {Γ : Ctx} {c : Code} {Q : Exit → AState → Prop} {s t : AState} (inv : List (Nat × Nat)) (vk e0 : List Nat) (h : convS s inv vk e0 t = some t) (k : LWp Γ c Q t) : LWp Γ c Q s :=
  fun a w hs => k a w (hs.conv inv vk e0 h)
theorem LWp.mono {Γ : Ctx} {c : Code} {Q Q' : Exit → AState → Prop} {s : AState} (h : LWp Γ c Q s) (hq : ∀ e s, Q e s → Q' e s) : LWp Γ c Q' s :=
  fun a w hs b k cs => let ⟨e, a', w', ⟨s', h1, h2⟩, h3⟩ := h a w hs b k cs; ⟨e, a', w', ⟨s', h1, hq _ _ h2⟩, h3⟩
def Cv (Γ : Ctx) (s t : AState) : Prop := ∀ a w, Sat Γ s a w → Sat Γ t a w
theorem rl {Γ : Ctx} {s : AState} {A : Prop} {F R O : AState → Prop} (a : A) (f : F s) (r : R s) (o : O s) : ∃ t, Cv Γ s t ∧ A ∧ F t ∧ R t ∧ O t := ⟨s, fun _ _ h => h, a, f, r, o⟩
theorem AWp.cv {Γ : Ctx} {c : Code} {Q : Exit → AState → Prop} {s : AState} (h : AWp Γ c (fun e s' => ∃ t, Cv Γ s' t ∧ Q e t) s) : AWp Γ c Q s :=
  fun a w hs => Code.wp_mono (fun e a w ⟨s', h1, t, h2, h3⟩ => ⟨t, h2 a w h1, h3⟩) (h a w hs)
theorem LWp.cv {Γ : Ctx} {c : Code} {Q : Exit → AState → Prop} {s : AState} (h : LWp Γ c (fun e s' => ∃ t, Cv Γ s' t ∧ Q e t) s) : LWp Γ c Q s :=
  fun a w hs b k cs => let ⟨e, a', w', ⟨s', h1, t, h2, h3⟩, h4⟩ := h a w hs b k cs; ⟨e, a', w', ⟨t, h2 a' w' h1, h3⟩, h4⟩
def RetIs (P : Program) (fn : Func) (floor : Nat) (x : AVal) (e : Exit) (s : AState) : Prop := (e = .ret ∨ e = .normal) ∧ s.floor = floor ∧ resOf P fn s = some x
def RetK (P : Program) (fn : Func) (floor : Nat) (keys : List Nat) (x : AVal) (o : List (Nat × Option MObj)) (e : Exit) (s : AState) : Prop :=
  (e = .ret ∨ e = .normal) ∧ s.floor = floor ∧ resOf P fn s = some x ∧ (keys.map fun k => (k, s.obj k)) = o
theorem look_keys (s : AState) : ∀ (keys : List Nat) (k : Nat) (o : MObj), (look (keys.map fun k => (k, s.obj k)) k).getD none = some o → s.obj k = some o := by
  intro keys
  induction keys with
  | nil => intro k o h; simp [look] at h
  | cons q r ih =>
    intro k o h
    rw [List.map_cons, look_cons] at h
    split at h
    · rename_i e; subst e; exact h
    · exact ih k o h
theorem Fn.bodyK {P : Program} {f : FuncId} {fn : Func} {c : Code} {args : List AVal} {objs : List (Nat × Option MObj)} {floor : Nat} {x : AVal} {o : List (Nat × Option MObj)} (keys : List Nat)
    (hf : P.funcs[f]? = some fn) (hb : fn.body = some c) (hn : Nat.ble args.length fn.ntmps = true)
    (h : ∀ Γ : Ctx, Γ.P = P → Γ.n = fn.ntmps → AWp Γ c (fun e s' => ∃ t, Cv Γ s' t ∧ RetK P fn floor keys x o e t) ⟨argSlots args 0, objs, floor⟩) : Fn P f args objs floor (fun r o' => r = x ∧ o' = o) := by
  have h1 : Fn P f args objs floor (fun r o' => r = x ∧ (keys.map fun k => (k, (⟨[], o', floor⟩ : AState).obj k)) = o) := Fn.body hf hb hn (fun Γ hP hΓ => ((h Γ hP hΓ).cv).mono fun e s ⟨he, hfl, hr, ho⟩ => ⟨he, hfl, x, hr, rfl, ho⟩)
  intro κ I w vs hl hreps hg hinv
  refine (h1 κ I w vs hl hreps hg hinv).mono fun e w' ⟨v, r, o', κ', I', e1, ⟨e2, e5⟩, e3, e4⟩ => ⟨v, r, o, κ', I', e1, ⟨e2, rfl⟩, e3, e4.eqv (fun k q hk => ?_) rfl⟩
  subst e5
  exact look_keys ⟨[], o', floor⟩ keys k q hk
theorem Fn.body0 {P : Program} {f : FuncId} {fn : Func} {c : Code} {args : List AVal} {objs : List (Nat × Option MObj)} {floor : Nat} {x : AVal}
    (hf : P.funcs[f]? = some fn) (hb : fn.body = some c) (hn : Nat.ble args.length fn.ntmps = true)
    (h : ∀ Γ : Ctx, Γ.P = P → Γ.n = fn.ntmps → AWp Γ c (RetIs P fn floor x) ⟨argSlots args 0, objs, floor⟩) : Fn P f args objs floor (fun r o => r = x ∧ o = []) := by
  have h1 : Fn P f args objs floor (fun r _ => r = x) := Fn.body hf hb hn (fun Γ hP hΓ => (h Γ hP hΓ).mono fun e s ⟨he, hfl, hr⟩ => ⟨he, hfl, x, hr, rfl⟩)
  intro κ I w vs hl hreps hg hinv
  refine (h1 κ I w vs hl hreps hg hinv).mono fun e w' ⟨v, r, o, κ', I', e1, e2, e3, e4⟩ => ⟨v, r, [], κ', I', e1, ⟨e2, rfl⟩, e3, e4.eqv (fun k o' hk => by simp [AState.obj, look] at hk) rfl⟩
abbrev encInt (k : IntKind) (n : Int) : List Im := [.sc (.int k n)]
abbrev encStr (s : ByteArray) : List Im := [.sc (.string s)]
abbrev encRow {α : Type} (f : α → List Im) (xs : List α) : List Im := [.row (xs.map f)]
theorem withBody {Γ : Ctx} {c : Code} {Q : Exit → AState → Prop} {s : AState} (h : ∀ c', c' = c → LWp Γ c' Q s) : LWp Γ c Q s := h c rfl
abbrev I64 (n : Int) : Prop := -9223372036854775808 ≤ n ∧ n < 9223372036854775808
end Go.Pv
set_option linter.unusedVariables false
set_option linter.unusedSimpArgs false
namespace Go.Pv
structure PL where
  ps : List Prop
  ok : AllP ps
abbrev PL.n : PL := ⟨[], trivial⟩
abbrev PL.c {p : Prop} (h : p) (l : PL) : PL := ⟨p :: l.ps, h, l.ok⟩
structure HI where
  h : Hint
  l : PL
def hintsOf : List (Nat × HI) → List (Nat × Hint)
  | [] => []
  | (i, x) :: r => (i, x.h) :: hintsOf r
def appP : List Prop → List Prop → List Prop
  | [], l => l
  | p :: r, l => p :: appP r l
def propsOf : List (Nat × HI) → List Prop
  | [] => []
  | (_, x) :: r => appP x.l.ps (propsOf r)
theorem appP_ok : ∀ {a b : List Prop}, AllP a → AllP b → AllP (appP a b)
  | [], _, _, h => h
  | _ :: _, _, h, k => ⟨h.1, appP_ok h.2 k⟩
theorem propsOf_ok : ∀ l : List (Nat × HI), AllP (propsOf l)
  | [] => trivial
  | (_, x) :: r => appP_ok x.l.ok (propsOf_ok r)
def regionAll (P : Program) (n : Nat) (draw : Bool) (ops : List Oper) (hints : List (Nat × Hint)) (s : AState) : Option (AState × List Prop) :=
  match runOps P n ops.toArray hints ops 0 s with
  | some (its, s', ps) => match draw with
    | false => some (s', ps)
    | true => match okFrom ops.toArray (masks ops []) [] its && newsAll its s with
      | true => some (s', ps)
      | false => none
  | none => none
theorem AWp.regionAll {Γ : Ctx} {id : Nat} {draw : Bool} {Q : Exit → AState → Prop} {s : AState} {ops : List Oper} (hints : List (Nat × Hint)) (s' : AState) (ps : List Prop)
    (hm : Γ.P.follows .mixedOrders = true) (h : Pv.regionAll Γ.P Γ.n draw ops hints s = some (s', ps)) (hp : AllP ps) (hq : Q .normal s') : AWp Γ (.region id ops.toArray draw) Q s := by
  unfold Pv.regionAll at h
  split at h
  · rename_i its s2 ps2 hr
    have key : ∀ ps', AllP ps' → ps' = ps2 → its.map (·.1) = ops ∧ validAll Γ.P ops.toArray its s ∧ stepAll its s = s2 ∧ its.all (fun it => match it.1.dst with | some d => Nat.blt d Γ.n | none => true) = true :=
      fun ps' hp' e => runOps_ok hr (e ▸ hp')
    have fin : s' = s2 → ps = ps2 → (draw = true → okFrom ops.toArray (masks ops []) [] its = true ∧ newsAll its s = true) → AWp Γ (.region id ops.toArray draw) Q s := by
      intro e1 e2 hdraw
      obtain ⟨g1, g2, g3, g4⟩ := key ps hp e2
      have hq' : ∀ a w, Sat Γ s2 a w → ∃ s3, Sat Γ s3 a w ∧ Q .normal s3 := fun a w h => ⟨s', e1 ▸ h, hq⟩
      subst g1
      cases draw with
      | false =>
        intro a w hs
        exact Code.wp_mono (fun e a w ⟨s3, h1, h2⟩ => by
          cases e with
          | normal => simp only at h2; subst h2; exact hq' a w (g3 ▸ h1)
          | _ => exact h2.elim) (region_plain (Q := fun e s3 => match e with | .normal => s3 = stepAll its s | _ => False) its g4 g2 rfl a w hs)
      | true =>
        obtain ⟨d1, d2⟩ := hdraw rfl
        have hf : ∀ it ∈ its, ∀ k ∈ it.news, s.fresh k := fun it hit k hk => freshB_ok (List.all_eq_true.1 (List.all_eq_true.1 d2 it hit) k hk)
        intro a w hs
        exact Code.wp_mono (fun e a w ⟨s3, h1, h2⟩ => by
          cases e with
          | normal => simp only at h2; subst h2; exact hq' a w (g3 ▸ h1)
          | _ => exact h2.elim) (region_draw (Q := fun e s3 => match e with | .normal => s3 = stepAll its s | _ => False) hm its g4 d1 g2 hf rfl a w hs)
    split at h
    · simp at h; exact fin h.1.symm h.2.symm (fun e => by simp at e)
    · split at h
      · rename_i hb
        simp only [Bool.and_eq_true] at hb
        simp at h; exact fin h.1.symm h.2.symm (fun _ => hb)
      · simp at h
  · simp at h
inductive Fr where
  | s (c : Code)
  | b (id : Nat)
def Qof (Γ : Ctx) : List Fr → (Exit → AState → Prop) → Exit → AState → Prop
  | [], Q => Q
  | .s y :: K, Q => seqQ (AWp Γ y (Qof Γ K Q)) (Qof Γ K Q)
  | .b id :: K, Q => blockQ id (Qof Γ K Q)
def Pt (Γ : Ctx) (Q : Exit → AState → Prop) (s : AState) : Code → Prop
  | .skip => Q .normal s
  | .exit id => Q (.exit id) s
  | .ret => Q .ret s
  | c => AWp Γ c Q s
theorem Pt.awp {Γ : Ctx} {Q : Exit → AState → Prop} {s : AState} {c : Code} (h : Pt Γ Q s c) : AWp Γ c Q s := by
  cases c with
  | skip => exact .skip h
  | exit id => exact .exit h
  | ret => exact .ret h
  | _ => exact h
def norm : Nat → Code → List Fr → Code × List Fr
  | 0, c, K => (c, K)
  | f + 1, c, K => match c with
    | .skip => match K with
      | [] => (.skip, [])
      | .s y :: K => norm f y K
      | .b _ :: K => norm f .skip K
    | .exit id => match K with
      | [] => (.exit id, [])
      | .s _ :: K => norm f (.exit id) K
      | .b i :: K => match Nat.beq id i with
        | true => norm f .skip K
        | false => norm f (.exit id) K
    | .ret => (.ret, [])
    | .seq x y => norm f x (.s y :: K)
    | c => (c, K)
theorem Qof_ret (Γ : Ctx) (Q : Exit → AState → Prop) (s : AState) : ∀ K, Qof Γ K Q .ret s = Q .ret s
  | [] => rfl
  | .s _ :: K => Qof_ret Γ Q s K
  | .b _ :: K => Qof_ret Γ Q s K
theorem norm_ok {Γ : Ctx} {Q : Exit → AState → Prop} {s : AState} : ∀ (f : Nat) (c : Code) (K : List Fr), Pt Γ (Qof Γ (norm f c K).2 Q) s (norm f c K).1 → Pt Γ (Qof Γ K Q) s c := by
  intro f
  induction f with
  | zero => intro c K h; exact h
  | succ f ih =>
    intro c K h
    cases c with
    | skip =>
      cases K with
      | nil => exact h
      | cons x K =>
        cases x with
        | s y => exact (ih y K h).awp
        | b i => exact ih .skip K h
    | exit id =>
      cases K with
      | nil => exact h
      | cons x K =>
        cases x with
        | s y => exact ih (.exit id) K h
        | b i =>
          show (if id = i then Qof Γ K Q .normal s else Qof Γ K Q (.exit id) s)
          simp only [norm] at h
          split at h
          · rename_i e; rw [if_pos (Nat.eq_of_beq_eq_true e)]; exact ih .skip K h
          · rename_i e; rw [if_neg (Nat.ne_of_beq_eq_false e)]; exact ih (.exit id) K h
    | ret => simp only [norm] at h; show Qof Γ K Q .ret s; rw [Qof_ret]; exact h
    | seq x y => exact AWp.seq (ih x (.s y :: K) h).awp
    | _ => exact h
inductive Tgt where
  | st (e : Exit) (s : AState)
  | ret (x : AVal) (o : List (Nat × Option MObj))
structure Lp (X O : Type) where
  F : (X → Option O) → X → Option O
  l : X → Option O
  pc : ∀ M : X → O → Prop, (∀ g, (∀ x o, g x = some o → M x o) → ∀ x o, F g x = some o → M x o) → ∀ x o, l x = some o → M x o
abbrev CI := List (Nat × Nat)
mutual
inductive HT : {ρ X : Type} → (X → Option ρ) → Option ρ → Type 1
  | no {ρ X : Type} {g : X → Option ρ} : HT g none
  | ck {ρ X : Type} {g : X → Option ρ} {p : Prop} [Decidable p] {f : Unit → Option ρ} (k : p → HT g (f ())) : HT g (chk p >>= f)
  | el {ρ X : Type} {g : X → Option ρ} {α : Type} {xs : List α} {i : Int} {f : α → Option ρ} (k : ∀ b, 0 ≤ i → xs[i.toNat]? = some b → HT g (f b)) : HT g (at? xs i >>= f)
  | bd {ρ X : Type} {g : X → Option ρ} {α : Type} {m : Option α} {f : α → Option ρ} (k : ∀ t, m = some t → HT g (f t)) : HT g (m >>= f)
  | sp {ρ X : Type} {g : X → Option ρ} {b : Bool} {x y : Option ρ} (t : b = true → HT g x) (e : b = false → HT g y) : HT g (if b = true then x else y)
  | cd {ρ X : Type} {g : X → Option ρ} {b : Bool} {x y : Option ρ} (t : b = true → HT g x) (e : b = false → HT g y) : HT g (if b = true then x else y)
  | cl {ρ X : Type} {g : X → Option ρ} {x : Option ρ} {b v : Bool} (h : b = v) (k : HT g x) : HT g x
  | rg {ρ X : Type} {g : X → Option ρ} {x : Option ρ} (hs : List (Nat × HI)) (k : HT g x) : HT g x
  | bl {ρ X : Type} {g : X → Option ρ} {x : Option ρ} (k : HT g x) : HT g x
  | cv {ρ X : Type} {g : X → Option ρ} {x : Option ρ} (inv : CI) (vk e0 : List Nat) (t : AState) (k : HT g x) : HT g x
  | out {ρ X : Type} {g : X → Option ρ} {o : ρ} (inv : CI) (vk e0 : List Nat) : HT g (some o)
  | ret {ρ X : Type} {g : X → Option ρ} {o : ρ} (inv : CI) (vk e0 : List Nat) (t : AState) : HT g (some o)
  | back {ρ X : Type} {g : X → Option ρ} {y : Option ρ} {x : X} (inv : CI) (vk e0 : List Nat) (h : y = g x) : HT g y
  | join {ρ X : Type} {g : X → Option ρ} {O : Type} {m : Option O} {f : O → Option ρ} (sub : HT (fun x : Empty => (nomatch x : Option O)) m) (a : Arm g f) : HT g (m >>= f)
  | loop {ρ X : Type} {g : X → Option ρ} {Y O : Type} {f : O → Option ρ} (lp : Lp Y O) (x0 : Y) (inv : CI) (vk e0 : List Nat) (b : ∀ g', Bd g' (lp.F g')) (a : Arm g f) : HT g (lp.l x0 >>= f)
inductive Arm : {ρ X O : Type} → (X → Option ρ) → (O → Option ρ) → Type 1
  | st {ρ X O : Type} {g : X → Option ρ} {f : O → Option ρ} (e : Exit) (s : O → AState) (k : ∀ o, HT g (f o)) : Arm g f
  | pr {ρ X A B : Type} {g : X → Option ρ} {f : A × B → Option ρ} (k : ∀ a, Arm g (fun b => f (a, b))) : Arm g f
  | sm {ρ X A B : Type} {g : X → Option ρ} {f : A ⊕ B → Option ρ} (a : Arm g (fun x => f (.inl x))) (b : Arm g (fun x => f (.inr x))) : Arm g f
  | rt {ρ X O : Type} {g : X → Option ρ} {h : O → ρ} (x : O → AVal) (o : O → List (Nat × Option MObj)) : Arm g (fun q => some (h q))
inductive Bd : {ρ X Y : Type} → (X → Option ρ) → (Y → Option ρ) → Type 1
  | one {ρ X Y : Type} {g : X → Option ρ} {F : Y → Option ρ} (s : Y → AState) (k : ∀ y, HT g (F y)) : Bd g F
  | pr {ρ X A B : Type} {g : X → Option ρ} {F : A × B → Option ρ} (k : ∀ a, Bd g (fun b => F (a, b))) : Bd g F
end
def Arm.tau : {ρ X O : Type} → {g : X → Option ρ} → {f : O → Option ρ} → Arm g f → O → Tgt
  | _, _, _, _, _, .st e s _, o => .st e (s o)
  | _, _, _, _, _, .pr k, o => (k o.1).tau o.2
  | _, _, _, _, _, .sm a b, o => match o with
    | .inl x => a.tau x
    | .inr y => b.tau y
  | _, _, _, _, _, .rt x o, q => .ret (x q) (o q)
def Bd.S : {ρ X Y : Type} → {g : X → Option ρ} → {F : Y → Option ρ} → Bd g F → Y → AState
  | _, _, _, _, _, .one s _, y => s y
  | _, _, _, _, _, .pr k, y => (k y.1).S y.2
end Go.Pv
set_option linter.unusedVariables false
set_option linter.unusedSimpArgs false
namespace Go.Pv
structure En where
  P : Program
  n : Nat
  fn : Func
  floor : Nat
  keys : List Nat
def codeOf : Exit → Code
  | .normal => .skip
  | .exit id => .exit id
  | _ => .ret
def exitOf : Code → Option Exit
  | .skip => some .normal
  | .exit id => some (.exit id)
  | .ret => some .ret
  | _ => none
def okE : Nat → Exit → Bool
  | 2, .normal => false
  | _, .normal => true
  | _, .exit _ => true
  | _, _ => false
def okR : Nat → Code → Bool
  | _, .ret => true
  | 0, .skip => true
  | _, _ => false
def isC : Code → Bool
  | .skip => false
  | .exit _ => false
  | .ret => false
  | _ => true
abbrev nm (c : Code) (K : List Fr) : Code × List Fr := norm 1000 c K
def chkOut (m : Nat) (t : Tgt) (inv : CI) (vk e0 : List Nat) (s : AState) : Code × List Fr → Prop
  | (c, []) => match t with
    | .st e u => exitOf c = some e ∧ okE m e = true ∧ convS s inv vk e0 u = some u
    | .ret _ _ => False
  | _ => False
def chkRet (E : En) (m : Nat) (t : Tgt) (inv : CI) (vk e0 : List Nat) (u s : AState) : Code × List Fr → Prop
  | (c, []) => match t with
    | .ret x o => okR m c = true ∧ convS s inv vk e0 u = some u ∧ u.floor = E.floor ∧ resOf E.P E.fn u = some x ∧ (E.keys.map fun k => (k, u.obj k)) = o
    | .st _ _ => False
  | _ => False
def chkBack (S : AState) (inv : CI) (vk e0 : List Nat) (s : AState) : Code × List Fr → Prop
  | (.skip, []) => convS s inv vk e0 S = some S
  | _ => False
def chkReg (ps : List Prop) (Q : List Fr → AState → Prop) (K : List Fr) : Option (AState × List Prop) → Prop
  | some (s', ps') => ps' = ps ∧ Q K s'
  | none => False
mutual
def HT.chk (E : En) : {ρ X : Type} → {g : X → Option ρ} → {x : Option ρ} → HT g x → Nat → (ρ → Tgt) → (X → AState) → Code → List Fr → AState → Prop
  | _, _, _, _, .no, _, _, _, _, _, _ => True
  | _, _, _, _, @HT.ck _ _ _ _ _ _ k, m, τ, S, c, K, s => ∀ h, (k h).chk E m τ S c K s
  | _, _, _, _, .el k, m, τ, S, c, K, s => ∀ b h0 h1, (k b h0 h1).chk E m τ S c K s
  | _, _, _, _, .bd k, m, τ, S, c, K, s => ∀ t h, (k t h).chk E m τ S c K s
  | _, _, _, _, .sp t e, m, τ, S, c, K, s => (∀ h, (t h).chk E m τ S c K s) ∧ (∀ h, (e h).chk E m τ S c K s)
  | _, _, _, _, .cd (b := b) t e, m, τ, S, c, K, s => match nm c K with
    | (.cond o x y, K') => s.eval o = .im (.sc (.bool b)) ∧ (∀ h, (t h).chk E m τ S x K' s) ∧ (∀ h, (e h).chk E m τ S y K' s)
    | _ => False
  | _, _, _, _, .cl (b := b) (v := v) h k, m, τ, S, c, K, s => match nm c K with
    | (.cond o x y, K') => s.eval o = .im (.sc (.bool b)) ∧ match v with
      | true => k.chk E m τ S x K' s
      | false => k.chk E m τ S y K' s
    | _ => False
  | _, _, _, _, .rg hs k, m, τ, S, c, K, s => match nm c K with
    | (.region _ ⟨ops⟩ draw, K') => chkReg (propsOf hs) (fun K' s' => k.chk E m τ S .skip K' s') K' (regionAll E.P E.n draw ops (hintsOf hs) s)
    | _ => False
  | _, _, _, _, .bl k, m, τ, S, c, K, s => match nm c K with
    | (.block id b, K') => k.chk E m τ S b (.b id :: K') s
    | _ => False
  | _, _, _, _, .cv inv vk e0 t k, m, τ, S, c, K, s => match nm c K with
    | (c', K') => isC c' = true ∧ convS s inv vk e0 t = some t ∧ k.chk E m τ S c' K' t
  | _, _, _, _, .out (o := o) inv vk e0, m, τ, S, c, K, s => chkOut m (τ o) inv vk e0 s (nm c K)
  | _, _, _, _, .ret (o := o) inv vk e0 t, m, τ, S, c, K, s => chkRet E m (τ o) inv vk e0 t s (nm c K)
  | _, _, _, _, .back (x := x) inv vk e0 _, m, τ, S, c, K, s => chkBack (S x) inv vk e0 s (nm c K)
  | _, _, _, _, .join sub a, m, τ, S, c, K, s => match nm c K with
    | (c', K') => isC c' = true ∧ sub.chk E 1 a.tau (fun x => nomatch x) c' [] s ∧ a.chk E m τ S K'
  | _, _, _, _, .loop lp x0 inv vk e0 b a, m, τ, S, c, K, s => match nm c K with
    | (.loop c', K') => convS s inv vk e0 ((b lp.l).S x0) = some ((b lp.l).S x0) ∧ (∀ g', (b g').chk E a.tau (b lp.l).S (b lp.l).S c') ∧ a.chk E m τ S K'
    | _ => False
def Arm.chk (E : En) : {ρ X O : Type} → {g : X → Option ρ} → {f : O → Option ρ} → Arm g f → Nat → (ρ → Tgt) → (X → AState) → List Fr → Prop
  | _, _, _, _, _, .st e s k, m, τ, S, K => ∀ o, (k o).chk E m τ S (codeOf e) K (s o)
  | _, _, _, _, _, .pr k, m, τ, S, K => ∀ a, (k a).chk E m τ S K
  | _, _, _, _, _, .sm a b, m, τ, S, K => a.chk E m τ S K ∧ b.chk E m τ S K
  | _, _, _, _, _, .rt (h := h) x o, m, τ, S, K => ∀ q, τ (h q) = .ret (x q) (o q)
def Bd.chk (E : En) : {ρ X Y : Type} → {g : X → Option ρ} → {F : Y → Option ρ} → Bd g F → (ρ → Tgt) → (X → AState) → (Y → AState) → Code → Prop
  | _, _, _, _, _, .one s k, τ, S, T, c => ∀ y, s y = T y ∧ (k y).chk E 2 τ S c [] (s y)
  | _, _, _, _, _, .pr k, τ, S, T, c => ∀ a, (k a).chk E τ S (fun b => T (a, b)) c
end
def skOut (m : Nat) (t : Tgt) : Prop := match t with
  | .st e u => some e = some e ∧ true = true ∧ some u = some u
  | .ret _ _ => True
def skRet (E : En) (t : Tgt) (u : AState) : Prop := match t with
  | .ret x o => true = true ∧ some u = some u ∧ u.floor = u.floor ∧ some x = some x ∧ o = o
  | .st _ _ => True
mutual
def HT.sk (E : En) : {ρ X : Type} → {g : X → Option ρ} → {x : Option ρ} → HT g x → Nat → (ρ → Tgt) → (X → AState) → Prop
  | _, _, _, _, .no, _, _, _ => True
  | _, _, _, _, @HT.ck _ _ _ _ _ _ k, m, τ, S => ∀ h, (k h).sk E m τ S
  | _, _, _, _, .el k, m, τ, S => ∀ b h0 h1, (k b h0 h1).sk E m τ S
  | _, _, _, _, .bd k, m, τ, S => ∀ t h, (k t h).sk E m τ S
  | _, _, _, _, .sp t e, m, τ, S => (∀ h, (t h).sk E m τ S) ∧ (∀ h, (e h).sk E m τ S)
  | _, _, _, _, .cd (b := b) t e, m, τ, S => AVal.im (.sc (.bool b)) = .im (.sc (.bool b)) ∧ (∀ h, (t h).sk E m τ S) ∧ (∀ h, (e h).sk E m τ S)
  | _, _, _, _, .cl (b := b) h k, m, τ, S => AVal.im (.sc (.bool b)) = .im (.sc (.bool b)) ∧ k.sk E m τ S
  | _, _, _, _, .rg hs k, m, τ, S => propsOf hs = propsOf hs ∧ k.sk E m τ S
  | _, _, _, _, .bl k, m, τ, S => k.sk E m τ S
  | _, _, _, _, .cv inv vk e0 t k, m, τ, S => true = true ∧ some t = some t ∧ k.sk E m τ S
  | _, _, _, _, .out (o := o) inv vk e0, m, τ, S => skOut m (τ o)
  | _, _, _, _, .ret (o := o) inv vk e0 t, m, τ, S => skRet E (τ o) t
  | _, _, _, _, .back (x := x) inv vk e0 _, m, τ, S => some (S x) = some (S x)
  | _, _, _, _, .join sub a, m, τ, S => true = true ∧ sub.sk E 1 a.tau (fun x => nomatch x) ∧ a.sk E m τ S
  | _, _, _, _, .loop lp x0 inv vk e0 b a, m, τ, S => some ((b lp.l).S x0) = some ((b lp.l).S x0) ∧ (∀ g', (b g').sk E a.tau (b lp.l).S (b lp.l).S) ∧ a.sk E m τ S
def Arm.sk (E : En) : {ρ X O : Type} → {g : X → Option ρ} → {f : O → Option ρ} → Arm g f → Nat → (ρ → Tgt) → (X → AState) → Prop
  | _, _, _, _, _, .st e s k, m, τ, S => ∀ o, (k o).sk E m τ S
  | _, _, _, _, _, .pr k, m, τ, S => ∀ a, (k a).sk E m τ S
  | _, _, _, _, _, .sm a b, m, τ, S => a.sk E m τ S ∧ b.sk E m τ S
  | _, _, _, _, _, .rt (h := h) x o, m, τ, S => ∀ q, τ (h q) = τ (h q)
def Bd.sk (E : En) : {ρ X Y : Type} → {g : X → Option ρ} → {F : Y → Option ρ} → Bd g F → (ρ → Tgt) → (X → AState) → (Y → AState) → Prop
  | _, _, _, _, _, .one s k, τ, S, T => ∀ y, T y = T y ∧ (k y).sk E 2 τ S
  | _, _, _, _, _, .pr k, τ, S, T => ∀ a, (k a).sk E τ S (fun b => T (a, b))
end
theorem skOut_ok (m : Nat) (t : Tgt) : skOut m t := by cases t <;> simp [skOut]
theorem skRet_ok (E : En) (t : Tgt) (u : AState) : skRet E t u := by cases t <;> simp [skRet]
mutual
theorem HT.sk_ok (E : En) : ∀ {ρ X : Type} {g : X → Option ρ} {x : Option ρ} (t : HT g x) (m : Nat) (τ : ρ → Tgt) (S : X → AState), t.sk E m τ S
  | _, _, _, _, .no, m, τ, S => trivial
  | _, _, _, _, @HT.ck _ _ _ _ _ _ k, m, τ, S => fun h => (k h).sk_ok E m τ S
  | _, _, _, _, .el k, m, τ, S => fun b h0 h1 => (k b h0 h1).sk_ok E m τ S
  | _, _, _, _, .bd k, m, τ, S => fun t h => (k t h).sk_ok E m τ S
  | _, _, _, _, .sp t e, m, τ, S => ⟨fun h => (t h).sk_ok E m τ S, fun h => (e h).sk_ok E m τ S⟩
  | _, _, _, _, .cd t e, m, τ, S => ⟨rfl, fun h => (t h).sk_ok E m τ S, fun h => (e h).sk_ok E m τ S⟩
  | _, _, _, _, .cl h k, m, τ, S => ⟨rfl, k.sk_ok E m τ S⟩
  | _, _, _, _, .rg hs k, m, τ, S => ⟨rfl, k.sk_ok E m τ S⟩
  | _, _, _, _, .bl k, m, τ, S => k.sk_ok E m τ S
  | _, _, _, _, .cv inv vk e0 t k, m, τ, S => ⟨rfl, rfl, k.sk_ok E m τ S⟩
  | _, _, _, _, .out inv vk e0, m, τ, S => skOut_ok m _
  | _, _, _, _, .ret inv vk e0 t, m, τ, S => skRet_ok E _ t
  | _, _, _, _, .back (x := x) inv vk e0 _, m, τ, S => rfl
  | _, _, _, _, .join sub a, m, τ, S => ⟨rfl, sub.sk_ok E 1 a.tau _, a.sk_ok E m τ S⟩
  | _, _, _, _, .loop lp x0 inv vk e0 b a, m, τ, S => ⟨rfl, fun g' => (b g').sk_ok E a.tau _ _, a.sk_ok E m τ S⟩
theorem Arm.sk_ok (E : En) : ∀ {ρ X O : Type} {g : X → Option ρ} {f : O → Option ρ} (a : Arm g f) (m : Nat) (τ : ρ → Tgt) (S : X → AState), a.sk E m τ S
  | _, _, _, _, _, .st e s k, m, τ, S => fun o => (k o).sk_ok E m τ S
  | _, _, _, _, _, .pr k, m, τ, S => fun a => (k a).sk_ok E m τ S
  | _, _, _, _, _, .sm a b, m, τ, S => ⟨a.sk_ok E m τ S, b.sk_ok E m τ S⟩
  | _, _, _, _, _, .rt x o, m, τ, S => fun q => rfl
theorem Bd.sk_ok (E : En) : ∀ {ρ X Y : Type} {g : X → Option ρ} {F : Y → Option ρ} (b : Bd g F) (τ : ρ → Tgt) (S : X → AState) (T : Y → AState), b.sk E τ S T
  | _, _, _, _, _, .one s k, τ, S, T => fun y => ⟨rfl, (k y).sk_ok E 2 τ S⟩
  | _, _, _, _, _, .pr k, τ, S, T => fun a => (k a).sk_ok E τ S _
end
end Go.Pv
set_option linter.unusedVariables false
set_option linter.unusedSimpArgs false
namespace Go.Pv
def hold (E : En) (m : Nat) : Tgt → Exit → AState → Prop
  | .st e u, e', t => e' = e ∧ t = u ∧ okE m e = true
  | .ret x o, e', t => (e' = .ret ∨ (m = 0 ∧ e' = .normal)) ∧ t.floor = E.floor ∧ resOf E.P E.fn t = some x ∧ (E.keys.map fun k => (k, t.obj k)) = o
theorem Cv.rfl' {Γ : Ctx} {s : AState} : Cv Γ s s := fun _ _ h => h
theorem Cv.conv {Γ : Ctx} {s t : AState} {inv : CI} {vk e0 : List Nat} (h : convS s inv vk e0 t = some t) : Cv Γ s t := fun a w hs => hs.conv inv vk e0 h
theorem Pt.of_exit {Γ : Ctx} {Q : Exit → AState → Prop} {s : AState} {c : Code} {e : Exit} (h : exitOf c = some e) (hq : Q e s) : Pt Γ Q s c := by
  cases c <;> simp [exitOf] at h <;> subst h <;> exact hq
theorem Pt.to_exit {Γ : Ctx} {Q : Exit → AState → Prop} {s : AState} {e : Exit} (m : Nat) (he : okE m e = true) (h : Pt Γ Q s (codeOf e)) : Q e s := by
  cases e with
  | normal => exact h
  | exit id => exact h
  | goto l => simp [okE] at he
  | ret => simp [okE] at he
  | panic l => simp [okE] at he
  | outgrown => simp [okE] at he
theorem Pt.of_awp {Γ : Ctx} {Q : Exit → AState → Prop} {s : AState} {c : Code} (h : isC c = true) (hq : AWp Γ c Q s) : Pt Γ Q s c := by
  cases c <;> first | exact hq | simp [isC] at h
abbrev Goal (E : En) (Γ : Ctx) {ρ X : Type} (g : X → Option ρ) (m : Nat) (τ : ρ → Tgt) (S : X → AState) (r : ρ) (P : (Exit → AState → Prop) → Prop) : Prop :=
  ∀ (Q : Exit → AState → Prop), (∀ x', g x' = some r → ∀ s, Cv Γ s (S x') → Q .normal s) → (∀ e s t, Cv Γ s t → hold E m (τ r) e t → Q e s) → P Q
theorem AWp.of_Cv {Γ : Ctx} {Q : Exit → AState → Prop} {s t : AState} {c : Code} (hc : Cv Γ s t) (h : AWp Γ c Q t) : AWp Γ c Q s := fun a w hs => h a w (hc a w hs)
theorem LWp.of_Cv {Γ : Ctx} {Q : Exit → AState → Prop} {s t : AState} {c : Code} (hc : Cv Γ s t) (h : LWp Γ c Q t) : LWp Γ c Q s := fun a w hs => h a w (hc a w hs)
mutual
theorem HT.sound {E : En} {Γ : Ctx} (hP : Γ.P = E.P) (hn : Γ.n = E.n) (hm : E.P.follows .mixedOrders = true) : ∀ {ρ X : Type} {g : X → Option ρ} {x : Option ρ} (t : HT g x) (m : Nat) (τ : ρ → Tgt) (S : X → AState) (c : Code) (K : List Fr) (s : AState), t.chk E m τ S c K s →
    ∀ (r : ρ), x = some r → Goal E Γ g m τ S r (fun Q => AWp Γ c (Qof Γ K Q) s ∧ Pt Γ (Qof Γ K Q) s c)
  | _, _, _, _, .no, m, τ, S, c, K, s, h, r, e => fun Q hb hl => nomatch e
  | _, _, _, _, @HT.ck _ _ _ p _ f k, m, τ, S, c, K, s, h, r, e => fun Q hb hl => by
    obtain ⟨hp, e⟩ := chk_of e
    exact HT.sound hP hn hm (k hp) m τ S c K s (h hp) r e Q hb hl
  | _, _, _, _, .el k, m, τ, S, c, K, s, h, r, e => fun Q hb hl => by
    obtain ⟨b, h0, h1, e⟩ := at_of e
    exact HT.sound hP hn hm (k b h0 h1) m τ S c K s (h b h0 h1) r e Q hb hl
  | _, _, _, _, .bd k, m, τ, S, c, K, s, h, r, e => fun Q hb hl => by
    obtain ⟨t, ht, e⟩ := bind_of e
    exact HT.sound hP hn hm (k t ht) m τ S c K s (h t ht) r e Q hb hl
  | _, _, _, _, .sp (b := b) t el, m, τ, S, c, K, s, h, r, e => fun Q hb hl => by
    rcases Bool.eq_false_or_eq_true b with c1 | c1
    · exact HT.sound hP hn hm (t c1) m τ S c K s (h.1 c1) r (iT c1 e) Q hb hl
    · exact HT.sound hP hn hm (el c1) m τ S c K s (h.2 c1) r (iF c1 e) Q hb hl
  | _, _, _, _, .cd (b := b) t el, m, τ, S, c, K, s, h, r, e => fun Q hb hl => by
    have key : Pt Γ (Qof Γ K Q) s c := by
      refine norm_ok 1000 c K ?_
      simp only [HT.chk, nm] at h
      generalize norm 1000 c K = q at h ⊢
      obtain ⟨c', K'⟩ := q
      cases c' <;> first | exact h.elim | skip
      rename_i o x y
      obtain ⟨h1, h2, h3⟩ := h
      refine AWp.cond b h1 (fun c1 => ?_) (fun c1 => ?_)
      · exact (HT.sound hP hn hm (t c1) m τ S x K' s (h2 c1) r (iT c1 e) Q hb hl).1
      · exact (HT.sound hP hn hm (el c1) m τ S y K' s (h3 c1) r (iF c1 e) Q hb hl).1
    exact ⟨key.awp, key⟩
  | _, _, _, _, .cl (b := b) (v := v) hv k, m, τ, S, c, K, s, h, r, e => fun Q hb hl => by
    have key : Pt Γ (Qof Γ K Q) s c := by
      refine norm_ok 1000 c K ?_
      simp only [HT.chk, nm] at h
      generalize norm 1000 c K = q at h ⊢
      obtain ⟨c', K'⟩ := q
      cases c' <;> first | exact h.elim | skip
      rename_i o x y
      obtain ⟨h1, h2⟩ := h
      subst hv
      refine AWp.cond b h1 (fun c1 => ?_) (fun c1 => ?_)
      · subst c1; exact (HT.sound hP hn hm k m τ S x K' s h2 r e Q hb hl).1
      · subst c1; exact (HT.sound hP hn hm k m τ S y K' s h2 r e Q hb hl).1
    exact ⟨key.awp, key⟩
  | _, _, _, _, .rg hs k, m, τ, S, c, K, s, h, r, e => fun Q hb hl => by
    have key : Pt Γ (Qof Γ K Q) s c := by
      refine norm_ok 1000 c K ?_
      simp only [HT.chk, nm] at h
      generalize norm 1000 c K = q at h ⊢
      obtain ⟨c', K'⟩ := q
      cases c' <;> first | exact h.elim | skip
      rename_i id ops draw
      obtain ⟨ops⟩ := ops
      simp only at h
      generalize hr : regionAll E.P E.n draw ops (hintsOf hs) s = q at h
      cases q with
      | none => exact h.elim
      | some q =>
        obtain ⟨s', ps⟩ := q
        obtain ⟨h1, h2⟩ := h
        subst h1
        refine AWp.regionAll (hintsOf hs) s' _ (by rw [hP]; exact hm) (by rw [hP, hn]; exact hr) (propsOf_ok hs) ?_
        exact (HT.sound hP hn hm k m τ S .skip K' s' h2 r e Q hb hl).2
    exact ⟨key.awp, key⟩
  | _, _, _, _, .bl k, m, τ, S, c, K, s, h, r, e => fun Q hb hl => by
    have key : Pt Γ (Qof Γ K Q) s c := by
      refine norm_ok 1000 c K ?_
      simp only [HT.chk, nm] at h
      generalize norm 1000 c K = q at h ⊢
      obtain ⟨c', K'⟩ := q
      cases c' <;> first | exact h.elim | skip
      rename_i id b
      exact AWp.block (HT.sound hP hn hm k m τ S b (.b id :: K') s h r e Q hb hl).1
    exact ⟨key.awp, key⟩
  | _, _, _, _, .cv inv vk e0 t k, m, τ, S, c, K, s, h, r, e => fun Q hb hl => by
    have key : Pt Γ (Qof Γ K Q) s c := by
      refine norm_ok 1000 c K ?_
      simp only [HT.chk, nm] at h
      generalize norm 1000 c K = q at h ⊢
      obtain ⟨c', K'⟩ := q
      obtain ⟨h0, h1, h2⟩ := h
      exact Pt.of_awp h0 (AWp.of_Cv (Cv.conv h1) (HT.sound hP hn hm k m τ S c' K' t h2 r e Q hb hl).1)
    exact ⟨key.awp, key⟩
  | _, _, _, _, .out (o := o) inv vk e0, m, τ, S, c, K, s, h, r, e => fun Q hb hl => by
    have key : Pt Γ (Qof Γ K Q) s c := by
      refine norm_ok 1000 c K ?_
      simp only [HT.chk, nm] at h
      generalize norm 1000 c K = q at h ⊢
      obtain ⟨c', K'⟩ := q
      obtain rfl := Option.some.inj e
      cases K' with
      | cons _ _ => exact h.elim
      | nil =>
        simp only [chkOut] at h
        generalize ht : τ o = q at h
        cases q with
        | ret _ _ => exact h.elim
        | st e' u =>
          obtain ⟨h1, h2, h3⟩ := h
          exact Pt.of_exit h1 (hl e' s u (Cv.conv h3) (by rw [ht]; exact ⟨rfl, rfl, h2⟩))
    exact ⟨key.awp, key⟩
  | _, _, _, _, .ret (o := o) inv vk e0 t, m, τ, S, c, K, s, h, r, e => fun Q hb hl => by
    have key : Pt Γ (Qof Γ K Q) s c := by
      refine norm_ok 1000 c K ?_
      simp only [HT.chk, nm] at h
      generalize norm 1000 c K = q at h ⊢
      obtain ⟨c', K'⟩ := q
      obtain rfl := Option.some.inj e
      cases K' with
      | cons _ _ => exact h.elim
      | nil =>
        simp only [chkRet] at h
        generalize ht : τ o = q at h
        cases q with
        | st _ _ => exact h.elim
        | ret x objs =>
          obtain ⟨h1, h2, h3, h4, h5⟩ := h
          cases c' <;> first | (simp [okR] at h1; done) | skip
          · have hm0 : m = 0 := by
              cases m with
              | zero => rfl
              | succ m => simp [okR] at h1
            exact hl .normal s t (Cv.conv h2) (by rw [ht]; exact ⟨.inr ⟨hm0, rfl⟩, h3, h4, h5⟩)
          · exact hl .ret s t (Cv.conv h2) (by rw [ht]; exact ⟨.inl rfl, h3, h4, h5⟩)
    exact ⟨key.awp, key⟩
  | _, _, _, _, .back (x := x) inv vk e0 hy, m, τ, S, c, K, s, h, r, e => fun Q hb hl => by
    have key : Pt Γ (Qof Γ K Q) s c := by
      refine norm_ok 1000 c K ?_
      simp only [HT.chk, nm] at h
      generalize norm 1000 c K = q at h ⊢
      obtain ⟨c', K'⟩ := q
      cases K' with
      | cons _ _ => cases c' <;> exact h.elim
      | nil =>
        cases c' <;> first | exact h.elim | skip
        exact hb x (hy ▸ e) s (Cv.conv h)
    exact ⟨key.awp, key⟩
  | _, _, _, _, .join (m := mm) (f := f) sub a, m, τ, S, c, K, s, h, r, e => fun Q hb hl => by
    have key : Pt Γ (Qof Γ K Q) s c := by
      obtain ⟨o, ho, e⟩ := bind_of e
      refine norm_ok 1000 c K ?_
      simp only [HT.chk, nm] at h
      generalize norm 1000 c K = q at h ⊢
      obtain ⟨c', K'⟩ := q
      obtain ⟨h0, h1, h2⟩ := h
      have q1 := (HT.sound hP hn hm sub 1 a.tau (fun x => nomatch x) c' [] s h1 o ho (fun e s => ∃ t, Cv Γ s t ∧ hold E 1 (a.tau o) e t) (fun x' => nomatch x') (fun e s t h1 h2 => ⟨t, h1, h2⟩)).1
      have q2 : AWp Γ c' (fun e s => hold E 1 (a.tau o) e s) s := AWp.cv q1
      have q3 : AWp Γ c' (Qof Γ K' Q) s := q2.mono fun e' t ht => Arm.sound hP hn hm a m τ S K' h2 o r e Q hb hl 1 e' t ht (by omega)
      exact Pt.of_awp h0 q3
    exact ⟨key.awp, key⟩
  | _, _, _, _, .loop lp x0 inv vk e0 b a, m, τ, S, c, K, s, h, r, e => fun Q hb hl => by
    have key : Pt Γ (Qof Γ K Q) s c := by
      obtain ⟨o, ho, e⟩ := bind_of e
      refine norm_ok 1000 c K ?_
      simp only [HT.chk, nm] at h
      generalize norm 1000 c K = q at h ⊢
      obtain ⟨c', K'⟩ := q
      cases c' <;> first | exact h.elim | skip
      rename_i c'
      obtain ⟨h0, h1, h2⟩ := h
      have main : ∀ x o, lp.l x = some o → LWp Γ c' (fun e s => ∃ t, Cv Γ s t ∧ hold E 2 (a.tau o) e t) ((b lp.l).S x) := by
        refine lp.pc (fun x o => LWp Γ c' (fun e s => ∃ t, Cv Γ s t ∧ hold E 2 (a.tau o) e t) ((b lp.l).S x)) (fun g' ih x o hx => ?_)
        refine LWp.round ?_
        refine Bd.sound hP hn hm (b g') a.tau (b lp.l).S (b lp.l).S c' (h1 g') x o hx _ (fun x' hx' s hs => ?_) (fun e s t hs ht => ?_)
        · exact LWp.of_Cv hs (ih x' o hx')
        · cases e with
          | normal =>
            exfalso
            generalize a.tau o = q at ht
            cases q with
            | st e u => obtain ⟨q1, _, q2⟩ := ht; subst q1; simp [okE] at q2
            | ret x o => obtain ⟨q1 | ⟨q1, _⟩, _⟩ := ht <;> simp at q1
          | _ => exact ⟨t, hs, ht⟩
      refine AWp.loop (LWp.of_Cv (Cv.conv h0) ?_)
      refine LWp.mono (LWp.cv (main x0 o ho)) (fun e' t ht => Arm.sound hP hn hm a m τ S K' h2 o r e Q hb hl 2 e' t ht (by omega))
    exact ⟨key.awp, key⟩
theorem Arm.sound {E : En} {Γ : Ctx} (hP : Γ.P = E.P) (hn : Γ.n = E.n) (hm : E.P.follows .mixedOrders = true) : ∀ {ρ X O : Type} {g : X → Option ρ} {f : O → Option ρ} (a : Arm g f) (m : Nat) (τ : ρ → Tgt) (S : X → AState) (K : List Fr), a.chk E m τ S K → ∀ (o : O) (r : ρ), f o = some r →
    Goal E Γ g m τ S r (fun Q => ∀ (m' : Nat) (e : Exit) (t : AState), hold E m' (a.tau o) e t → 0 < m' → Qof Γ K Q e t)
  | _, _, _, _, _, .st e' s k, m, τ, S, K, h, o, r, e => fun Q hb hl m' e2 t ht hm' => by
    obtain ⟨rfl, rfl, h3⟩ := ht
    exact Pt.to_exit m' h3 (HT.sound hP hn hm (k o) m τ S (codeOf e2) K (s o) (h o) r e Q hb hl).2
  | _, _, _, _, _, .pr k, m, τ, S, K, h, o, r, e => fun Q hb hl m' e2 t ht hm' => Arm.sound hP hn hm (k o.1) m τ S K (h o.1) o.2 r e Q hb hl m' e2 t ht hm'
  | _, _, _, _, _, .sm a b, m, τ, S, K, h, o, r, e => fun Q hb hl m' e2 t ht hm' => by
    cases o with
    | inl x => exact Arm.sound hP hn hm a m τ S K h.1 x r e Q hb hl m' e2 t ht hm'
    | inr x => exact Arm.sound hP hn hm b m τ S K h.2 x r e Q hb hl m' e2 t ht hm'
  | _, _, _, _, _, .rt (h := hh) x o, m, τ, S, K, h, q, r, e => fun Q hb hl m' e2 t ht hm' => by
    obtain ⟨h1, h2⟩ := ht
    have h1' : e2 = .ret := by
      rcases h1 with h1 | ⟨h1, _⟩
      · exact h1
      · omega
    subst h1'
    rw [Qof_ret]
    obtain rfl := Option.some.inj e
    refine hl .ret t t Cv.rfl' ?_
    rw [show τ (hh q) = .ret (x q) (o q) from h q]
    exact ⟨.inl rfl, h2⟩
theorem Bd.sound {E : En} {Γ : Ctx} (hP : Γ.P = E.P) (hn : Γ.n = E.n) (hm : E.P.follows .mixedOrders = true) : ∀ {ρ X Y : Type} {g : X → Option ρ} {F : Y → Option ρ} (b : Bd g F) (τ : ρ → Tgt) (S : X → AState) (T : Y → AState) (c : Code), b.chk E τ S T c → ∀ (y : Y) (r : ρ), F y = some r →
    Goal E Γ g 2 τ S r (fun Q => AWp Γ c Q (T y))
  | _, _, _, _, _, .one s k, τ, S, T, c, h, y, r, e => fun Q hb hl => by
    obtain ⟨h1, h2⟩ := h y
    rw [← h1]
    exact (HT.sound hP hn hm (k y) 2 τ S c [] (s y) h2 r e Q hb hl).1
  | _, _, _, _, _, .pr k, τ, S, T, c, h, y, r, e => fun Q hb hl => Bd.sound hP hn hm (k y.1) τ S (fun b => T (y.1, b)) c (h y.1) y.2 r e Q hb hl
end
theorem HT.fn {P : Program} {f : FuncId} {fn : Func} {c : Code} {args : List AVal} {objs : List (Nat × Option MObj)} {floor : Nat} {Q : AVal → List (Nat × Option MObj) → Prop} {ρ : Type} {y : Option ρ} {r : ρ} (H : y = some r) (x : ρ → AVal) (o : ρ → List (Nat × Option MObj)) (keys : List Nat)
    (hf : P.funcs[f]? = some fn) (hb : fn.body = some c) (hn : Nat.ble args.length fn.ntmps = true) (hm : P.follows .mixedOrders = true)
    (t : HT (fun q : Empty => (nomatch q : Option ρ)) y)
    (hk : t.chk ⟨P, fn.ntmps, fn, floor, keys⟩ 0 (fun r => .ret (x r) (o r)) (fun q => nomatch q) c [] ⟨argSlots args 0, objs, floor⟩ = t.sk ⟨P, fn.ntmps, fn, floor, keys⟩ 0 (fun r => .ret (x r) (o r)) (fun q => nomatch q) := by kernel_rfl)
    (hQ : (fun r' o' => r' = x r ∧ o' = o r) = Q := by rfl) : Fn P f args objs floor Q := by
  subst hQ
  refine Fn.bodyK keys hf hb hn (fun Γ hP hn => ?_)
  have h := hk ▸ t.sk_ok ⟨P, fn.ntmps, fn, floor, keys⟩ 0 (fun r => .ret (x r) (o r)) (fun q => nomatch q)
  refine (HT.sound (E := ⟨P, fn.ntmps, fn, floor, keys⟩) hP hn hm t 0 (fun r => .ret (x r) (o r)) (fun q => nomatch q) c [] _ h r H _ (fun q => nomatch q) (fun e s t hc ht => ?_)).1
  obtain ⟨h1, h2, h3, h4⟩ := ht
  refine ⟨t, hc, ?_, h2, h3, h4⟩
  rcases h1 with h1 | ⟨_, h1⟩
  · exact .inl h1
  · exact .inr h1
end Go.Pv
set_option linter.unusedVariables false
set_option linter.unusedSimpArgs false
namespace Go.Pv
theorem agg_sc {w : World} {I : Nat → Prop} {κ : Nat → Option KI} {cells : List AVal} {vs : List Value} {v : Value} (h : scVals cells = some vs) (hr : Rep w I κ (.agg cells) v) : v = .agg vs.toArray := by
  obtain rfl := scVals_eq h
  cases hr with
  | @agg _ us hl hreps =>
    congr 2
    apply List.ext_getElem (by simpa using hl)
    intro i h1 h2
    have := hreps i (by simpa using h2) h1
    rw [List.getElem_map] at this
    exact this.sc_inv
def strOf (xs : List Int) : ByteArray := xs.foldl (fun r n => r.push (UInt8.ofNat n.toNat)) ByteArray.empty
def bytesL (b : ByteArray) : List Int := b.data.toList.map fun c => (c.toNat : Int)
def xAppStr (k2 : Nat) (es' : List (List Im)) : Ext where
  f P o s := match o.op with
    | .call { callee := .builtin .append, args := ⟨[x, y]⟩, argTypes := ts } => match ts[0]? with
      | some st => match elemP P st, s.eval y with
        | some (e, sz), .im (.sc (.string b)) => match bytesP P e, Nat.beq sz 1, P.underlying e, notInt P ts with
          | some (by_, sz2), true, some (.int .u8), true => match Nat.beq sz2 1 && Nat.blt 0 by_ with
            | true => match s.eval x with
              | .none0 => some ⟨[], [k2], .own k2, [(k2, some (.row 1 e es'))], [es' = (bytesL b).map (encInt .u8), (0 + b.size) * by_ ≤ 140737488355328]⟩
              | .own k => match s.obj k with
                | some (.row sz' e' old) => match Nat.beq sz' 1 && Nat.beq e' e with
                  | true => some ⟨[k], [k2], .own k2, [(k2, some (.row 1 e es')), (k, none)], [es' = old ++ (bytesL b).map (encInt .u8), (old.length + b.size) * by_ ≤ 140737488355328]⟩
                  | false => none
                | _ => none
              | _ => none
            | false => none
          | _, _, _, _ => none
        | _, _ => none
      | none => none
    | _ => none
  ok P o s e he hp := by
    split at he
    · rename_i x y ts ho
      split at he
      · rename_i st hts
        split at he
        · rename_i el sz b hel hy
          obtain ⟨hu, _⟩ := elemP_inv hel
          split at he
          · rename_i by_ sz2 hby hsz hu8 hni
            split at he
            · rename_i hb
              simp only [Bool.and_eq_true, Nat.blt_eq] at hb
              obtain ⟨hb1, hb0⟩ := hb
              obtain rfl := Nat.eq_of_beq_eq_true hb1
              have hlen : ((bytesL b).map (encInt .u8)).length = b.size := by rw [List.length_map]; simp only [bytesL, List.length_map, Array.length_toList]; rfl
              have hfl : ∀ (w : World) (I : Nat → Prop), Flat w I 1 ((bytesL b).map (encInt .u8)) ((bytesL b).map (Value.int .u8)) := fun w I =>
                ⟨by simp, fun i h => by simp, fun i h j h' => by
                  simp only [List.length_map] at h
                  simp only [List.getElem_map, encInt, List.length_cons, List.length_nil] at h'
                  obtain rfl : j = 0 := by omega
                  refine ⟨.int .u8 (bytesL b)[i], by simp [h], ?_⟩
                  simp only [List.getElem_map, encInt, List.getElem_cons_zero]
                  exact .sc _⟩
              have hleaf : ∀ v ∈ (bytesL b).map (Value.int .u8), leafV v = true := by
                intro v hv; obtain ⟨n, _, rfl⟩ := List.mem_map.1 hv; rfl
              have main : ∀ (old : List (List Im)) (kold : List Nat), ((s.eval x = .none0 ∧ old = [] ∧ kold = []) ∨ ∃ k, s.eval x = .own k ∧ kold = [k] ∧ s.obj k = some (.row 1 el old)) → (old.length + b.size) * by_ ≤ 140737488355328 →
                  OpOK P o (mkSp s o kold [k2] (.own k2) ((k2, some (.row 1 el (old ++ (bytesL b).map (encInt .u8)))) :: kold.map (·, none))) := by
                intro old kold hold hroom
                refine .of fun Γ κ I s2 a w hP hr hn hf => ?_
                have hfk := hf k2 (by simp [mkSp])
                have g1 := opd hr hn x (by simp [ho, Op.operands, Call.operands]) rfl
                have g2 := (opd hr hn y (by simp [ho, Op.operands, Call.operands]) hy).sc_inv
                obtain ⟨v, w', κ', h1, h2, h3, h4, h5⟩ := append_core (P := P) (ts := ts) (ty := o.type) (sv := a.eval x) (xv := a.eval y) (news := (bytesL b).map (Value.int .u8)) (kold := kold) (new := (bytesL b).map (encInt .u8)) (old := old) hr.inv hfk hts hni hu hby hb0 (by
                  rcases hold with ⟨e1, rfl, rfl⟩ | ⟨k, e1, rfl, hk⟩
                  · rw [e1] at g1; obtain ⟨base, e⟩ := none0_inv g1; exact .inl ⟨base, e, rfl, rfl⟩
                  · rw [e1] at g1; exact .inr ⟨k, rfl, (needs_obj hn k (by simp)).trans hk, g1⟩) (fun w2 _ => by rw [g2, hlen]; simp [Builtin.lenOf]) (fun w2 _ => by
                    rw [g2, hlen]
                    simp only [Builtin.firstCells, Sem.run_pure]
                    congr 1
                    have hx0 : (b.extract 0 b.size).data = b.data := by rw [ByteArray.data_extract]; exact Array.extract_size
                    rw [hx0, ← Array.toList_inj, Array.toList_map, List.toList_toArray]
                    simp only [bytesL, List.map_map]
                    rfl) (hfl w I) hleaf (by rw [hlen]; exact hroom)
                exact ⟨v, _, w', κ', I, .inl rfl, by simp [execOp, ho, resolve, invoke, builtin, h1], h2, fun _ h => h, h3, h4, h5⟩
              split at he
              · rename_i hx
                obtain rfl := Option.some.inj he
                obtain ⟨rfl, h2, _⟩ := hp
                exact main [] [] (.inl ⟨hx, rfl, rfl⟩) (by simpa using h2)
              · rename_i k hx
                split at he
                · rename_i sz' e' old hk
                  split at he
                  · rename_i hb2
                    simp only [Bool.and_eq_true] at hb2
                    obtain ⟨q1, q2⟩ := hb2
                    obtain rfl := Nat.eq_of_beq_eq_true q1
                    obtain rfl := Nat.eq_of_beq_eq_true q2
                    obtain rfl := Option.some.inj he
                    obtain ⟨rfl, h2, _⟩ := hp
                    exact main old [k] (.inr ⟨k, hx, rfl, hk⟩) h2
                  · simp at he
                · simp at he
              · simp at he
            · simp at he
          · simp at he
        · simp at he
      · simp at he
    · simp at he
end Go.Pv
set_option linter.unusedVariables false
set_option linter.unusedSimpArgs false
namespace Go.Pv
theorem run_eql_slice {P : Program} {t e : TypeId} (ht : P.underlying t = some (.slice e)) (b : Option Addr) (n c n' c' : Nat) (w : World) :
    (binOp .eql t (.slice b n c) (.slice none n' c')).run P w = .ok (.bool b.isNone) w := by
  have h : (Op.equal t (.slice b n c) (.slice none n' c')).run P w = .ok b.isNone w := by
    unfold Op.equal Op.maxDepth
    rw [Op.equalIn]
    cases b <;> simp only [Sem.run_bind, run_underlying' ht, Result.andThen_ok, Sem.run_pure] <;> rfl
  show (do pure (.bool (← Op.equal t (.slice b n c) (.slice none n' c'))) : Sem Value).run P w = _
  rw [Sem.run_bind, h]; rfl
def nilA : AVal → Option Bool
  | .im (.row (_ :: _)) => some false
  | .im (.sc (.slice (some _) _ _)) => some false
  | .im (.sc (.slice none _ _)) => some true
  | _ => none
theorem nilA_rep {w : World} {I : Nat → Prop} {κ : Nat → Option KI} {x : AVal} {v : Value} {r : Bool} (h : nilA x = some r) (hr : Rep w I κ x v) : ∃ b n c, v = .slice b n c ∧ b.isNone = r := by
  unfold nilA at h
  split at h
  · obtain rfl := Option.some.inj h
    cases hr with
    | im h => cases h with
      | row u hn => exact ⟨_, _, _, rfl, rfl⟩
  · obtain rfl := Option.some.inj h; exact ⟨_, _, _, hr.sc_inv, rfl⟩
  · obtain rfl := Option.some.inj h; exact ⟨_, _, _, hr.sc_inv, rfl⟩
  · simp at h
def xNil : Ext where
  f P o s := match o.op with
    | .binOp .eql t x (.const (.slice none _ _)) _ => match P.underlying t, nilA (s.eval x) with
      | some (.slice _), some r => some ⟨[], [], .im (.sc (.bool r)), [], []⟩
      | _, _ => none
    | _ => none
  ok P o s e he hp := by
    split at he
    · rename_i t x n' c' _ ho
      split at he
      · rename_i el r ht hr
        obtain rfl := Option.some.inj he
        refine .quiet rfl fun Γ κ I s2 a w hP hrel hn => ?_
        have g := opd hrel hn x (by simp [ho, Op.operands]) rfl
        obtain ⟨b, n, c, e, rfl⟩ := nilA_rep hr g
        refine ⟨.bool b.isNone, ?_, .im (.sc _)⟩
        have hc : a.eval (.const (.slice none n' c')) = .slice none n' c' := rfl
        simp only [execOp, ho, e, hc, eqGuard]
        simp [run_eql_slice ht]
      · simp at he
    · simp at he
theorem AWp.nilSplit {Γ : Ctx} {c : Code} {Q : Exit → AState → Prop} {s : AState} (x : Nat) (hx : s.get x = .im (.row [])) (h : ∀ b n, AWp Γ c Q (s.put (some x) (.im (.sc (.slice b 0 n))))) : AWp Γ c Q s := by
  intro a w hs
  obtain ⟨κ, I, hr⟩ := hs
  have g := hr.slots x
  rw [hx] at g
  have : ∃ b n, a.tmps.getD x undef = .slice b 0 n := by
    generalize a.tmps.getD x undef = v at g
    cases g with
    | im h => cases h with
      | row0 b n => exact ⟨b, n, rfl⟩
      | row u hn => subst hn; exact ⟨_, _, rfl⟩
  obtain ⟨b, n, e⟩ := this
  refine h b n a w ⟨κ, I, hr.size, hr.defers, fun y => ?_, hr.inv.eqv (fun k o hk => by rwa [AState.obj_put] at hk) rfl⟩
  rw [AState.get_put]
  split
  · rename_i hxy; subst hxy; rw [e]; exact .im (.sc _)
  · exact hr.slots y
theorem AWp.unsplit {Γ : Ctx} {c : Code} {Q : Exit → AState → Prop} {s : AState} (x : Nat) {b : Option Addr} {n : Nat} (hx : s.get x = .im (.sc (.slice b 0 n))) (h : AWp Γ c Q (s.put (some x) (.im (.row [])))) : AWp Γ c Q s := by
  intro a w hs
  obtain ⟨κ, I, hr⟩ := hs
  have g := hr.slots x
  rw [hx] at g
  have e := g.sc_inv
  refine h a w ⟨κ, I, hr.size, hr.defers, fun y => ?_, hr.inv.eqv (fun k o hk => by rwa [AState.obj_put] at hk) rfl⟩
  rw [AState.get_put]
  split
  · rename_i hxy; subst hxy; rw [e]; exact .im (.row0 b n)
  · exact hr.slots y
theorem OpOK.frozen {P : Program} {o : Oper} {s : AState} {keys news : List Nat} {post : List (Nat × Option MObj)} {k sz el : Nat} {es : List (List Im)} (h : OpOK P o (mkSp s o keys news (.own k) post))
    (hk : look post k = some (some (.row sz el es))) : OpOK P o (mkSp s o keys news (.im (.row es)) ((k, none) :: post)) := by
  intro Γ hP hd s2 a w hs hn hf K Q hK
  refine h Γ hP hd s2 a w hs hn hf K Q (fun a' w' hs' => hK a' w' ?_)
  obtain ⟨κ, I, hr⟩ := hs'
  have hact : ∀ (res : AVal) (post : List (Nat × Option MObj)) (q : Nat), ((mkSp s o keys news res post).act o.dst s2).obj q = (s2.objput post).obj q := fun res post q => AState.obj_put _ _ _ _
  have hobjk : ((mkSp s o keys news (.own k) post).act o.dst s2).obj k = some (.row sz el es) := by
    rw [hact]; show (look (post ++ s2.objs) k).getD none = _
    rw [look_append, hk]; rfl
  have hO := hr.inv.objs k _ hobjk
  let I' : Nat → Prop := fun b => I b ∨ ∃ ki, κ k = some ki ∧ ki.b = b
  have hI : ∀ b, I b → I' b := fun b h => .inl h
  have hold : ∀ k' q, ((mkSp s o keys news (.im (.row es)) ((k, none) :: post)).act o.dst s2).obj k' = some q → k' ≠ k ∧ ((mkSp s o keys news (.own k) post).act o.dst s2).obj k' = some q := by
    intro k' q hq
    rw [hact] at hq ⊢
    change (look ((k, none) :: (post ++ s2.objs)) k').getD none = _ at hq
    change _ ∧ (look (post ++ s2.objs) k').getD none = _
    rw [look_cons] at hq
    by_cases e : k = k'
    · rw [if_pos e] at hq; simp at hq
    · rw [if_neg e] at hq; exact ⟨fun h => e h.symm, hq⟩
  have hnot : ∀ k' q ki ki', k' ≠ k → ((mkSp s o keys news (.own k) post).act o.dst s2).obj k' = some q → κ k' = some ki' → κ k = some ki → ki'.b ≠ ki.b := by
    intro k' q ki ki' hne hq e1 e2 hb
    exact hne (hr.inv.inj k' k q _ ki' ki hq hobjk e1 e2 hb)
  refine ⟨κ, I', hr.size, hr.defers, fun x => ?_, ?_, ?_, ?_, ?_, hr.inv.keep, fun b h => .inl (hr.inv.ikeep b h), ?_, ?_, ?_⟩
  · have g := hr.slots x
    revert g
    simp only [Sp.act, mkSp]
    cases o.dst with
    | none => exact fun g => g.mono hI (fun _ _ => rfl) (fun _ _ => rfl)
    | some d =>
      rw [AState.get_put, AState.get_put]
      by_cases e : d = x
      · rw [if_pos e, if_pos e]
        intro g
        have := pass_rep (I' := I') (κc := κ) (inv := []) (views := [(k, es)]) hI (by intro a b h; simp [look] at h) (fun k' es' h => by
          rw [look_cons] at h
          split at h
          · rename_i e'; subst e'; simp at h; subst h
            exact ⟨⟨sz, el, hO⟩, fun ki e => .inr ⟨ki, e, rfl⟩⟩
          · simp [look] at h) g
        simpa [pass, look] using this
      · rw [if_neg e, if_neg e]
        exact fun g => g.mono hI (fun _ _ => rfl) (fun _ _ => rfl)
  · intro k' q hq
    obtain ⟨hne, hq⟩ := hold k' q hq
    have := hr.inv.objs k' q hq
    unfold OAt at this ⊢
    cases e : κ k' with
    | none => rw [e] at this; exact this
    | some ki => rw [e] at this; exact this.mono hI (fun _ _ => rfl) rfl (fun _ _ => rfl)
  · intro q1 q2 o1 o2 ki1 ki2 h1 h2 f1 f2 hb
    exact hr.inv.inj q1 q2 o1 o2 ki1 ki2 (hold q1 o1 h1).2 (hold q2 o2 h2).2 f1 f2 hb
  · intro q o' ki hq f hIb
    obtain ⟨hne, hq⟩ := hold q o' hq
    rcases hIb with hIb | ⟨ki', e1, e2⟩
    · exact hr.inv.disj q o' ki hq f hIb
    · exact hnot q o' ki' ki hne hq f e1 e2.symm
  · intro b hIb
    rcases hIb with hIb | ⟨ki, e1, rfl⟩
    · exact hr.inv.bound b hIb
    · have := hO
      simp only [OAt, e1] at this
      obtain ⟨_, _, _, arr, h3, _⟩ := this
      exact (Array.getElem?_eq_some_iff.1 h3).1
  · intro b hIb
    rcases hIb with hIb | ⟨ki, e1, rfl⟩
    · exact hr.inv.fromI b hIb
    · rcases hr.inv.fromO k _ ki hobjk e1 with h | h
      · exact .inr (.inl h)
      · exact .inr (.inr h)
  · intro q o' ki hq f
    exact hr.inv.fromO q o' ki (hold q o' hq).2 f
  · intro q hq
    refine hr.inv.fix q ?_
    have e1 : ((mkSp s o keys news (.im (.row es)) ((k, none) :: post)).act o.dst s2).floor = s2.floor := by cases o.dst <;> rfl
    have e2 : ((mkSp s o keys news (.own k) post).act o.dst s2).floor = s2.floor := by cases o.dst <;> rfl
    rw [e1] at hq; rw [e2]; exact hq
def xFz (h : Hint) : Ext where
  f P o s := match autoOp P h o s with
    | some e => match e.res with
      | .own k => match look e.post k with
        | some (some (.row sz el es)) => some ⟨e.keys, e.news, .im (.row es), (k, none) :: e.post, e.props⟩
        | _ => none
      | _ => none
    | none => none
  ok P o s e he hp := by
    split at he
    · rename_i e0 h0
      split at he
      · rename_i k hk
        split at he
        · rename_i sz el es hl
          obtain rfl := Option.some.inj he
          have := autoOp_ok h0 hp
          rw [hk] at this
          exact this.frozen hl
        · simp at he
      · simp at he
    · simp at he
end Go.Pv
set_option linter.unusedVariables false
set_option linter.unusedSimpArgs false
namespace Go.Pv
abbrev Lp.one {X O : Type} {F : (X → Option O) → X → Option O} {l : X → Option O}
    (pc : ∀ M : X → O → Prop, (∀ g : X → Option O, (∀ x r, g x = some r → M x r) → ∀ x r, F g x = some r → M x r) → ∀ x r, l x = some r → M x r) : Lp X O := ⟨F, l, pc⟩
abbrev Lp.no {X O : Type} (l : X → Option O) : Lp X O := ⟨fun _ => l, l, fun M h x o hx => h (fun _ => none) (fun _ _ e => nomatch e) x o hx⟩
abbrev Lp.c2 {A B O : Type} {F : (A → B → Option O) → A → B → Option O} {l : A → B → Option O}
    (pc : ∀ M : A → B → O → Prop, (∀ g : A → B → Option O, (∀ x0 x1 r, g x0 x1 = some r → M x0 x1 r) → ∀ x0 x1 r, F g x0 x1 = some r → M x0 x1 r) → ∀ x0 x1 r, l x0 x1 = some r → M x0 x1 r) : Lp (A × B) O :=
  ⟨fun g p => F (fun x0 x1 => g (x0, x1)) p.1 p.2, fun p => l p.1 p.2,
    fun M h p o hp => pc (fun x0 x1 o => M (x0, x1) o) (fun g ih x0 x1 r e => h (fun p => g p.1 p.2) (fun p o e => ih p.1 p.2 o e) (x0, x1) r e) p.1 p.2 o hp⟩
abbrev Lp.c3 {A B C O : Type} {F : (A → B → C → Option O) → A → B → C → Option O} {l : A → B → C → Option O}
    (pc : ∀ M : A → B → C → O → Prop, (∀ g : A → B → C → Option O, (∀ x0 x1 x2 r, g x0 x1 x2 = some r → M x0 x1 x2 r) → ∀ x0 x1 x2 r, F g x0 x1 x2 = some r → M x0 x1 x2 r) → ∀ x0 x1 x2 r, l x0 x1 x2 = some r → M x0 x1 x2 r) : Lp (A × B × C) O :=
  ⟨fun g p => F (fun x0 x1 x2 => g (x0, x1, x2)) p.1 p.2.1 p.2.2, fun p => l p.1 p.2.1 p.2.2,
    fun M h p o hp => pc (fun x0 x1 x2 o => M (x0, x1, x2) o) (fun g ih x0 x1 x2 r e => h (fun p => g p.1 p.2.1 p.2.2) (fun p o e => ih p.1 p.2.1 p.2.2 o e) (x0, x1, x2) r e) p.1 p.2.1 p.2.2 o hp⟩
abbrev Lp.c4 {A B C D O : Type} {F : (A → B → C → D → Option O) → A → B → C → D → Option O} {l : A → B → C → D → Option O}
    (pc : ∀ M : A → B → C → D → O → Prop, (∀ g : A → B → C → D → Option O, (∀ x0 x1 x2 x3 r, g x0 x1 x2 x3 = some r → M x0 x1 x2 x3 r) → ∀ x0 x1 x2 x3 r, F g x0 x1 x2 x3 = some r → M x0 x1 x2 x3 r) → ∀ x0 x1 x2 x3 r, l x0 x1 x2 x3 = some r → M x0 x1 x2 x3 r) : Lp (A × B × C × D) O :=
  ⟨fun g p => F (fun x0 x1 x2 x3 => g (x0, x1, x2, x3)) p.1 p.2.1 p.2.2.1 p.2.2.2, fun p => l p.1 p.2.1 p.2.2.1 p.2.2.2,
    fun M h p o hp => pc (fun x0 x1 x2 x3 o => M (x0, x1, x2, x3) o) (fun g ih x0 x1 x2 x3 r e => h (fun p => g p.1 p.2.1 p.2.2.1 p.2.2.2) (fun p o e => ih p.1 p.2.1 p.2.2.1 p.2.2.2 o e) (x0, x1, x2, x3) r e) p.1 p.2.1 p.2.2.1 p.2.2.2 o hp⟩
abbrev Lp.c5 {A B C D E O : Type} {F : (A → B → C → D → E → Option O) → A → B → C → D → E → Option O} {l : A → B → C → D → E → Option O}
    (pc : ∀ M : A → B → C → D → E → O → Prop, (∀ g : A → B → C → D → E → Option O, (∀ x0 x1 x2 x3 x4 r, g x0 x1 x2 x3 x4 = some r → M x0 x1 x2 x3 x4 r) → ∀ x0 x1 x2 x3 x4 r, F g x0 x1 x2 x3 x4 = some r → M x0 x1 x2 x3 x4 r) → ∀ x0 x1 x2 x3 x4 r, l x0 x1 x2 x3 x4 = some r → M x0 x1 x2 x3 x4 r) : Lp (A × B × C × D × E) O :=
  ⟨fun g p => F (fun x0 x1 x2 x3 x4 => g (x0, x1, x2, x3, x4)) p.1 p.2.1 p.2.2.1 p.2.2.2.1 p.2.2.2.2, fun p => l p.1 p.2.1 p.2.2.1 p.2.2.2.1 p.2.2.2.2,
    fun M h p o hp => pc (fun x0 x1 x2 x3 x4 o => M (x0, x1, x2, x3, x4) o) (fun g ih x0 x1 x2 x3 x4 r e => h (fun p => g p.1 p.2.1 p.2.2.1 p.2.2.2.1 p.2.2.2.2) (fun p o e => ih p.1 p.2.1 p.2.2.1 p.2.2.2.1 p.2.2.2.2 o e) (x0, x1, x2, x3, x4) r e) p.1 p.2.1 p.2.2.1 p.2.2.2.1 p.2.2.2.2 o hp⟩
abbrev p1 {p : Prop} (h : p) : PL := .c h .n
abbrev p2 {p q : Prop} (h : p ∧ q) : PL := .c h.1 (.c h.2 .n)
abbrev p3 {p q r : Prop} (h : p ∧ q ∧ r) : PL := .c h.1 (.c h.2.1 (.c h.2.2 .n))
abbrev hN (l : PL) : HI := ⟨.none, l⟩
abbrev hM (x : Ext) (l : PL) : HI := ⟨.more x, l⟩
abbrev hB {b v : Bool} (h : b = v) : HI := ⟨.b v, .c h .n⟩
abbrev hC {P : Program} {g : Nat} {args : List AVal} {ob : List (Nat × Option MObj)} {floor : Nat} {r : AVal} {o : List (Nat × Option MObj)} (inv out : List (Nat × Nat)) (vk news : List Nat) (h1 : Enters P g) (h2 : Fn P g args ob floor (fun x y => x = r ∧ y = o)) : HI :=
  ⟨.call inv out vk news floor r o, .c h1 (.c h2 .n)⟩
abbrev hA {α : Type} {xs : List α} {i : Int} {b : α} (f : α → List Im) (h0 : 0 ≤ i) (h1 : xs[i.toNat]? = some b) : HI := ⟨.c (f b), .c h0 (.c (el_map f h1) .n)⟩
abbrev hL {α : Type} {xs : List α} {i : Nat} {b : α} (f : α → List Im) (h1 : xs[i]? = some b) : HI := ⟨.c (f b), .c (el_map f h1) .n⟩
abbrev hS {α : Type} {xs : List α} {i : Nat} {b : α} (f : α → List Im) (y : α) (j : Nat) (cs : List Im) (h1 : xs[i]? = some b) (h2 : f y = splice (f b) j cs := by kernel_rfl) : HI :=
  ⟨.put (f b) ((xs.set i y).map f), .c (el_map f h1) (.c (p := (xs.set i y).map f = (xs.map f).set i (splice (f b) j cs)) (h2 ▸ set1 xs i y f) .n)⟩
theorem room_map {α : Type} (f : α → List Im) {old new : List α} {k n : Nat} (c : (old.length + new.length) * k ≤ n) : ((old.map f).length + (new.map f).length) * k ≤ n := by rw [List.length_map, List.length_map]; exact c
abbrev hP {α : Type} {old new : List α} {by_ : Nat} (k : Nat) (f : α → List Im) (sz : Nat) (c : (old.length + new.length) * by_ ≤ 140737488355328) (h1 : ∀ x, (f x).length = sz := by exact fun _ => rfl) (h2 : ∀ x, leaves ((f x).map .im) = true := by exact fun _ => rfl) : HI :=
  ⟨.app k ((old ++ new).map f), .c (app2 old new f) (.c (all_len new f sz h1) (.c (all_leaf new f h2) (.c (room_map f c) .n)))⟩
theorem len_le {α : Type} (f : α → List Im) {xs : List α} {u : Int} (h : u ≤ (xs.length : Int)) : u ≤ (((xs.map f).length : Nat) : Int) := by rw [List.length_map]; exact h
abbrev hR {α : Type} {xs : List α} {l u : Int} (f : α → List Im) (sz : Nat) (c : 0 ≤ l ∧ l ≤ u ∧ u ≤ (xs.length : Int)) (h : ∀ x, (f x).length = sz := by exact fun _ => rfl) : HI :=
  ⟨.rows (((xs.drop l.toNat).take (u.toNat - l.toNat)).map f), .c c.1 (.c c.2.1 (.c (len_le f c.2.2) (.c (all_len xs f sz h) (.c (cut1 xs l.toNat (u.toNat - l.toNat) f) .n))))⟩
abbrev hK (n : Int) (h : 0 ≤ n := by decide) : HI := ⟨.none, .c h .n⟩
abbrev HT.o {ρ X : Type} {g : X → Option ρ} {o : ρ} (inv : CI) : HT g (some o) := .out inv [] []
abbrev HT.r0 {ρ X : Type} {g : X → Option ρ} {x : Option ρ} (k : HT g x) : HT g x := .rg [] k
end Go.Pv
set_option linter.unusedVariables false
set_option linter.unusedSimpArgs false
namespace Go.Pv
def xMax : Ext where
  f P o s := match o.op with
    | .call { callee := .builtin .max, args := ⟨[x, y]⟩, argTypes := ts } => match s.eval x, s.eval y with
      | .im (.sc (.int k a)), .im (.sc (.int _ b)) => some ⟨[], [], .im (.sc (.int k (if b > a then b else a))), [], []⟩
      | _, _ => none
    | _ => none
  ok P o s e he hp := by
    split at he
    · rename_i x y ts ho
      split at he
      · rename_i k a k' b hx hy
        obtain rfl := Option.some.inj he
        exact ok_pure _ [(x, .int k a), (y, .int k' b)] (by simp [ho, Op.operands, Call.operands, hx, hy]) (fun ρ hρ w => by
          have h1 := hρ (x, .int k a) (by simp)
          have h2 := hρ (y, .int k' b) (by simp)
          simp only at h1 h2
          simp [execOp, ho, resolve, invoke, builtin, h1, h2, Builtin.max_, Builtin.max2])
      · simp at he
    · simp at he
def xMin : Ext where
  f P o s := match o.op with
    | .call { callee := .builtin .min, args := ⟨[x, y]⟩, argTypes := ts } => match s.eval x, s.eval y with
      | .im (.sc (.int k a)), .im (.sc (.int _ b)) => some ⟨[], [], .im (.sc (.int k (if b < a then b else a))), [], []⟩
      | _, _ => none
    | _ => none
  ok P o s e he hp := by
    split at he
    · rename_i x y ts ho
      split at he
      · rename_i k a k' b hx hy
        obtain rfl := Option.some.inj he
        exact ok_pure _ [(x, .int k a), (y, .int k' b)] (by simp [ho, Op.operands, Call.operands, hx, hy]) (fun ρ hρ w => by
          have h1 := hρ (x, .int k a) (by simp)
          have h2 := hρ (y, .int k' b) (by simp)
          simp only at h1 h2
          simp [execOp, ho, resolve, invoke, builtin, h1, h2, Builtin.min_, Builtin.min2])
      · simp at he
    · simp at he
def xFunc : Ext where
  f P o s := match o.op with
    | .makeFunc (.func g) ⟨[]⟩ caps => some ⟨[], [], .fn g (caps.toList.map s.eval), [], []⟩
    | _ => none
  ok P o s e he hp := by
    split at he
    · rename_i g caps ho
      obtain rfl := Option.some.inj he
      refine .quiet rfl fun Γ κ I s2 a w hP hrel hn => ?_
      refine ⟨.func (.func g) #[] (caps.toList.map a.eval).toArray, ?_, .fn (by simp) (fun j h h' => ?_)⟩
      · simp [execOp, ho, Instr.makeFunc]
        rw [← Array.toList_inj]; simp
      · rw [List.getElem_map, List.getElem_map]
        exact opd hrel hn _ (by simp [ho, Op.operands]) rfl
    · simp at he
theorem box_shape {w : World} {I : Nat → Prop} {κ : Nat → Option KI} {k j el : Nat} {cells : List AVal} {v : Value} (h : OAt w I κ k (.box el cells)) (hv : Rep w I κ (.ptr k 0 j) v) :
    ∃ b, v = .pointer (some ⟨b, j, none⟩) ∧ w.shape? b = some (el, cells.length) := by
  cases hv with
  | @ptr _ _ _ ki e =>
    simp only [OAt, e] at h
    obtain ⟨h1, h2, arr, h3, h4, _⟩ := h
    exact ⟨ki.b, by simp, by simp [World.shape?, h3, h4]⟩
def xUnsafe : Ext where
  f P o s := match o.op with
    | .convert st t x => match s.eval x with
      | .ptr k 0 j => match s.obj k with
        | some (.box el cells) => match P.underlying st, P.underlying t with
          | some (.pointer u), some .unsafePointer => match P.info? u with
            | some i => match Nat.blt 0 i.size && Nat.blt j cells.length with
              | true => some ⟨[k], [], .ptr k 0 j, [], []⟩
              | false => none
            | none => none
          | some .unsafePointer, some (.pointer u) => match P.info? u with
            | some i => match liesAt P P.depth el (cells.length / P.cellsOf el) j u 1 with
              | true => some ⟨[k], [], .ptr k 0 j, [], []⟩
              | false => none
            | none => none
          | _, _ => none
        | _ => none
      | _ => none
    | _ => none
  ok P o s e he hp := by
    split at he
    · rename_i st t x ho
      split at he
      · rename_i k j hx
        split at he
        · rename_i el cells hk
          split at he
          · rename_i u hs ht
            split at he
            · rename_i i hi
              split at he
              · rename_i hb
                obtain rfl := Option.some.inj he
                simp only [Bool.and_eq_true, Nat.blt_eq] at hb
                refine .quiet rfl fun Γ κ I s2 a w hP hrel hn => ?_
                have g := opd hrel hn x (by simp [ho, Op.operands]) hx
                obtain ⟨b, e1, e2⟩ := box_shape (hrel.inv.objs k _ ((needs_obj hn k (by simp)).trans hk)) g
                refine ⟨a.eval x, ?_, g⟩
                rw [e1]
                simp only [execOp, ho, e1]
                rw [Sem.run_bind, Lib.run_to_unsafe w ⟨b, j, none⟩ hs ht hi (by omega) e2 hb.2]
                rfl
              · simp at he
            · simp at he
          · rename_i u hs ht
            split at he
            · rename_i i hi
              split at he
              · rename_i hb
                obtain rfl := Option.some.inj he
                refine .quiet rfl fun Γ κ I s2 a w hP hrel hn => ?_
                have g := opd hrel hn x (by simp [ho, Op.operands]) hx
                obtain ⟨b, e1, e2⟩ := box_shape (hrel.inv.objs k _ ((needs_obj hn k (by simp)).trans hk)) g
                refine ⟨a.eval x, ?_, g⟩
                rw [e1]
                simp only [execOp, ho, e1]
                rw [Sem.run_bind, Lib.run_from_unsafe w ⟨b, j, none⟩ hs ht hi e2 hb]
                rfl
              · simp at he
            · simp at he
          · simp at he
        · simp at he
      · simp at he
    · simp at he
theorem x_noEscape {P : Program} {g : FuncId} {fn : Func} (hf : P.funcs[g]? = some fn) (hname : (fn.name == "runtime.NumGoroutine") = false) (hb : fn.body.isNone = true) (hn : Extern.findNext fn = none) (he : Extern.find fn = some Extern.AbiNoEscape.same) (v : Value) (w : World) :
    (callFunc g #[v]).run P w = .ok (.value v) w := by
  rw [run_callFunc_extern hf hname hb hn he, Lib.run_noEscape]
  rfl
def xSame (g : Nat) : Ext where
  f P o s := match o.op with
    | .call { callee := .value fo, args := ⟨[x]⟩, argTypes := ts } => match s.eval fo with
      | .im (.sc (.func (.func g') ⟨[]⟩ ⟨[]⟩)) => match Nat.beq g g' with
        | true => some ⟨[], [], s.eval x, [], [∀ v w, (callFunc g #[v]).run P w = .ok (.value v) w]⟩
        | false => none
      | _ => none
    | _ => none
  ok P o s e he hp := by
    split at he
    · rename_i fo x ts ho
      split at he
      · rename_i g' hfo
        split at he
        · rename_i hb
          obtain rfl := Nat.eq_of_beq_eq_true hb
          obtain rfl := Option.some.inj he
          refine .quiet rfl fun Γ κ I s2 a w hP hrel hn => ?_
          have h1 := (opd hrel hn fo (by simp [ho, Op.operands, Call.operands]) hfo).sc_inv
          refine ⟨a.eval x, ?_, opd hrel hn x (by simp [ho, Op.operands, Call.operands]) rfl⟩
          simp only [execOp, ho, resolve, h1, Deferred.ofValue, Sem.run_bind, Sem.run_pure, Result.andThen_ok, invoke]
          have := hp.1 (a.eval x) w
          simpa using this
        · simp at he
      · simp at he
    · simp at he
def xSliceData : Ext where
  f P o s := match o.op with
    | .call { callee := .builtin .unsafeSliceData, args := ⟨[x]⟩, argTypes := ts } => match s.eval x with
      | .own k => match s.obj k with
        | some (.row sz el es) => some ⟨[k], [], .ptr k 0 0, [], [es ≠ []]⟩
        | _ => none
      | _ => none
    | _ => none
  ok P o s e he hp := by
    split at he
    · rename_i x ts ho
      split at he
      · rename_i k hx
        split at he
        · rename_i sz el es hk
          obtain rfl := Option.some.inj he
          obtain ⟨hne, _⟩ := hp
          refine .quiet rfl fun Γ κ I s2 a w hP hrel hn => ?_
          have g := opd hrel hn x (by simp [ho, Op.operands, Call.operands]) hx
          have hO := hrel.inv.objs k _ ((needs_obj hn k (by simp)).trans hk)
          generalize ha : a.eval x = v at g
          cases g with
          | own0 base e => simp only [OAt, e] at hO; obtain ⟨_, _, e'⟩ := hO; simp at e'; exact absurd e'.2.2 hne
          | @own _ ki e =>
            simp only [OAt, e] at hO
            obtain ⟨h1, h2, h3, _⟩ := hO
            have hpos : 0 < es.length := by cases es with | nil => exact absurd rfl hne | cons => simp
            refine ⟨.pointer (some ⟨ki.b, 0, none⟩), ?_, by have := Rep.ptr (w := w) (I := I) (e := 0) (j := 0) e; show Rep w I κ (.ptr k 0 0) _; simpa using this⟩
            have hc : ki.cap ≠ 0 := by omega
            have hdef : ∀ ts ty, (Builtin.unsafeSliceData_ ts ty #[.slice (some ⟨ki.b, 0, none⟩) ki.len ki.cap]).run P w = .ok (.pointer (some ⟨ki.b, 0, none⟩)) w := fun ts ty => by
              show (do
                if ki.cap ≠ 0 then pure (.pointer (some ⟨ki.b, 0, none⟩))
                else if (← viewAt ki.b).isSome then pure (.pointer (some ⟨ki.b, 0, none⟩))
                else pure (.pointer (some ⟨← newObj (.view ⟨ki.b, 0, none⟩ (← elemOf ty)), 0, none⟩)) : Sem Value).run P w = _
              rw [if_pos hc]; rfl
            simp [execOp, ho, resolve, invoke, builtin, ha, hdef]
        · simp at he
      · simp at he
    · simp at he
def bytesOK (xs : List Int) : Prop := ∀ x ∈ xs, 0 ≤ x ∧ x < 256
instance (xs : List Int) : Decidable (bytesOK xs) := inferInstanceAs (Decidable (∀ x ∈ xs, 0 ≤ x ∧ x < 256))
def toB (xs : List Int) : List UInt8 := xs.map fun x => UInt8.ofNat x.toNat
theorem toB_get {xs : List Int} (h : bytesOK xs) {j : Nat} {x : UInt8} (hj : (toB xs)[j]? = some x) : xs[j]? = some (x.toNat : Int) := by
  unfold toB at hj
  rw [List.getElem?_map] at hj
  cases e : xs[j]? with
  | none => rw [e] at hj; simp at hj
  | some y =>
    rw [e] at hj
    simp at hj
    subst hj
    obtain ⟨h0, h1⟩ := h y (List.mem_of_getElem? e)
    congr 1
    simp
    omega
theorem strOf_eq (xs : List Int) : strOf xs = ⟨(toB xs).toArray⟩ := by
  have key : ∀ (xs : List Int) (r : ByteArray), xs.foldl (fun r n => r.push (UInt8.ofNat n.toNat)) r = ⟨(r.data.toList ++ toB xs).toArray⟩ := by
    intro xs
    induction xs with
    | nil => intro r; simp [toB]
    | cons x xs ih =>
      intro r
      rw [List.foldl_cons, ih]
      simp [toB, ByteArray.push]
  rw [strOf, key]
  rfl
theorem freeze_other {w : World} {b n : Nat} : (∀ c, c ≠ b → (w.freeze ⟨b, 0, none⟩ n).heap[c]? = w.heap[c]?) ∧ (w.freeze ⟨b, 0, none⟩ n).heap.size = w.heap.size ∧ (w.freeze ⟨b, 0, none⟩ n).os = w.os ∧ (w.freeze ⟨b, 0, none⟩ n).tape = w.tape ∧ (w.freeze ⟨b, 0, none⟩ n).output = w.output := by
  unfold World.freeze
  split
  · exact ⟨fun _ _ => rfl, rfl, rfl, rfl, rfl⟩
  · exact ⟨fun c hc => by simp [Array.getElem?_modify, Ne.symm hc], by simp, rfl, rfl, rfl⟩
theorem Inv.freezeBlock {Γ : Ctx} {κ : Nat → Option KI} {I : Nat → Prop} {s : AState} {w w' : World} {k : Nat} {o : MObj} {ki : KI} (h : Inv Γ κ I s w) (hk : s.obj k = some o) (hκ : κ k = some ki)
    (h1 : ∀ c, c ≠ ki.b → w'.heap[c]? = w.heap[c]?) (h2 : w'.heap.size = w.heap.size) (h3 : w'.os = w.os) (h4 : w'.tape = w.tape) (h5 : w'.output = w.output) :
    Inv Γ κ I (s.objput [(k, none)]) w' ∧ ∀ b, I b → w'.heap[b]? = w.heap[b]? := by
  have hI : ∀ b, I b → w'.heap[b]? = w.heap[b]? := fun b hb => h1 b (fun e => by subst e; exact h.disj k o ki hk hκ hb)
  have hold : ∀ k' q, (s.objput [(k, none)]).obj k' = some q → k' ≠ k ∧ s.obj k' = some q := by
    intro k' q hq
    change (look ((k, none) :: s.objs) k').getD none = _ at hq
    change _ ∧ (look s.objs k').getD none = _
    rw [look_cons] at hq
    by_cases e : k = k'
    · rw [if_pos e] at hq; simp at hq
    · rw [if_neg e] at hq; exact ⟨fun h => e h.symm, hq⟩
  refine ⟨⟨?_, ?_, ?_, ?_, ?_, h.ikeep, h.fromI, ?_, h.fix⟩, hI⟩
  · intro k' q hq
    obtain ⟨hne, hq⟩ := hold k' q hq
    have := h.objs k' q hq
    unfold OAt at this ⊢
    cases e : κ k' with
    | none => rw [e] at this; exact this
    | some ki' => rw [e] at this; exact this.mono (fun _ h => h) hI (h1 _ (fun hb => hne (h.inj k' k q o ki' ki hq hk e hκ hb))) (fun _ _ => rfl)
  · intro q1 q2 o1 o2 ki1 ki2 g1 g2 f1 f2 hb
    exact h.inj q1 q2 o1 o2 ki1 ki2 (hold q1 o1 g1).2 (hold q2 o2 g2).2 f1 f2 hb
  · intro q o' ki' hq f hIb
    exact h.disj q o' ki' (hold q o' hq).2 f hIb
  · intro b hb; rw [h2]; exact h.bound b hb
  · refine ⟨h3.trans h.keep.os, h4.trans h.keep.tape, h5.trans h.keep.output, by rw [h2]; exact h.keep.size, fun b hb hM => ?_⟩
    rw [h1 b (fun e => ?_)]
    · exact h.keep.block b hb hM
    · subst e
      rcases h.fromO k o ki hk hκ with g | g
      · exact hM g
      · omega
  · intro q o' ki' hq f
    exact h.fromO q o' ki' (hold q o' hq).2 f
def xUString (xs : List Int) : Ext where
  f P o s := match o.op with
    | .call { callee := .builtin .unsafeString, args := ⟨[x, y]⟩, argTypes := ⟨[pt, it]⟩ } => match P.underlying pt, s.eval x, s.eval y with
      | some (.pointer e), .ptr k 0 0, .im (.sc (.int .i64 n)) => match s.obj k with
        | some (.row sz el es) => match Nat.beq sz 1 && Nat.beq el e && Nat.beq (P.cellsOf e) 1 with
          | true => some ⟨[k], [], .im (.sc (.string (strOf xs))), [(k, none)], [es = xs.map (encInt .u8), n = (xs.length : Int), xs ≠ [] ∧ xs.length ≤ 9223372036854775807 ∧ bytesOK xs]⟩
          | false => none
        | _ => none
      | _, _, _ => none
    | _ => none
  ok P o s e he hp := by
    split at he
    · rename_i x y pt it ho
      split at he
      · rename_i e k n hpt hx hy
        split at he
        · rename_i sz el es hk
          split at he
          · rename_i hb
            simp only [Bool.and_eq_true] at hb
            obtain ⟨⟨b1, b2⟩, b3⟩ := hb
            obtain rfl := Nat.eq_of_beq_eq_true b1
            obtain rfl := Nat.eq_of_beq_eq_true b2
            have hc := Nat.eq_of_beq_eq_true b3
            obtain rfl := Option.some.inj he
            obtain ⟨rfl, rfl, ⟨hne, hlen, hbytes⟩, _⟩ := hp
            refine .of fun Γ κ I s2 a w hP hrel hn hf => ?_
            have g := opd hrel hn x (by simp [ho, Op.operands, Call.operands]) hx
            have g2 := (opd hrel hn y (by simp [ho, Op.operands, Call.operands]) hy).sc_inv
            have hk2 := (needs_obj hn k (by simp)).trans hk
            have hO := hrel.inv.objs k _ hk2
            generalize ha : a.eval x = v at g
            cases g with
            | @ptr _ _ _ ki e =>
              simp only [OAt, e] at hO
              obtain ⟨h1, h2, h3, arr, h4, h5, h6⟩ := hO
              simp only [List.length_map] at h2 h3 h6
              have hl : (toB xs).length = xs.length := by simp [toB]
              have hrun := Lib.run_unsafeString_row (P := P) w pt it o.type el hpt hc ki.b arr.size (by simp [World.shape?, h4]) (toB xs) (by simpa [toB] using hne) (by rw [hl, h5]; omega) (by rw [hl]; exact hlen) (fun j x hj => by
                have hx := toB_get hbytes hj
                obtain ⟨hjl, hxe⟩ := List.getElem?_eq_some_iff.1 hx
                obtain ⟨q1, q2⟩ := h6 j hjl
                obtain ⟨u, u1, u2⟩ := q2 0 (by simp)
                simp only [List.getElem_map, encInt, List.getElem_cons_zero] at u2
                rw [hxe] at u2
                cases u2
                rw [show (⟨ki.b, 0, none⟩ : Addr).add j = ⟨ki.b, j, none⟩ from by rw [addr_add, Nat.zero_add], cell_of h4]
                simpa using u1)
              obtain ⟨f1, f2, f3, f4, f5⟩ := freeze_other (w := w) (b := ki.b) (n := (toB xs).length)
              obtain ⟨i1, i2⟩ := hrel.inv.freezeBlock hk2 e f1 f2 f3 f4 f5
              refine ⟨.string (strOf xs), _, w.freeze ⟨ki.b, 0, none⟩ (toB xs).length, κ, I, .inl rfl, ?_, i1, fun _ h => h, i2, fun _ _ _ => rfl, .im (.sc _)⟩
              rw [hl] at hrun
              simp only [execOp, ho, resolve, invoke, builtin]
              simp [ha, g2, hrun, strOf_eq, hl]
          · simp at he
        · simp at he
      · simp at he
    · simp at he
end Go.Pv
