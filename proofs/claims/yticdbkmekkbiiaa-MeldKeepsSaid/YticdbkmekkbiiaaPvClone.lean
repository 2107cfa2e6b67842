import Derived.Test.YticdbkmekkbiiaaPvMore
set_option linter.unusedVariables false
set_option linter.unusedSimpArgs false
/-! Slices held against nil; slices.Clone. -/
namespace Go.Pv

theorem run_eql_slice {P : Program} {t e : TypeId} (ht : P.underlying t = some (.slice e)) (b : Option Addr) (n c n' c' : Nat) (w : World) :
    (binOp .eql t (.slice b n c) (.slice none n' c')).run P w = .ok (.bool b.isNone) w := by
  have h : (Op.equal t (.slice b n c) (.slice none n' c')).run P w = .ok b.isNone w := by
    unfold Op.equal Op.maxDepth
    rw [Op.equalIn]
    cases b <;> simp only [Sem.run_bind, run_underlying' ht, Result.andThen_ok, Sem.run_pure] <;> rfl
  show (do pure (.bool (← Op.equal t (.slice b n c) (.slice none n' c'))) : Sem Value).run P w = _
  rw [Sem.run_bind, h]; rfl

def nilA : AVal → Option Bool
  | .im (.row (_ :: _)) => some false
  | .im (.sc (.slice (some _) _ _)) => some false
  | .im (.sc (.slice none _ _)) => some true
  | _ => none

theorem nilA_rep {w : World} {I : Nat → Prop} {κ : Nat → Option KI} {x : AVal} {v : Value} {r : Bool} (h : nilA x = some r) (hr : Rep w I κ x v) : ∃ b n c, v = .slice b n c ∧ b.isNone = r := by
  unfold nilA at h
  split at h
  · obtain rfl := Option.some.inj h
    cases hr with
    | im h => cases h with
      | row u hn => exact ⟨_, _, _, rfl, rfl⟩
  · obtain rfl := Option.some.inj h; exact ⟨_, _, _, hr.sc_inv, rfl⟩
  · obtain rfl := Option.some.inj h; exact ⟨_, _, _, hr.sc_inv, rfl⟩
  · simp at h

def xNil : Ext where
  f P o s := match o.op with
    | .binOp .eql t x (.const (.slice none _ _)) _ => match P.underlying t, nilA (s.eval x) with
      | some (.slice _), some r => some ⟨[], [], .im (.sc (.bool r)), [], []⟩
      | _, _ => none
    | _ => none
  ok P o s e he hp := by
    split at he
    · rename_i t x n' c' _ ho
      split at he
      · rename_i el r ht hr
        obtain rfl := Option.some.inj he
        refine .quiet rfl fun Γ κ I s2 a w hP hrel hn => ?_
        have g := opd hrel hn x (by simp [ho, Op.operands]) rfl
        obtain ⟨b, n, c, e, rfl⟩ := nilA_rep hr g
        refine ⟨.bool b.isNone, ?_, .im (.sc _)⟩
        have hc : a.eval (.const (.slice none n' c')) = .slice none n' c' := rfl
        simp only [execOp, ho, e, hc, eqGuard]
        simp [run_eql_slice ht]
      · simp at he
    · simp at he

/-- An empty slice, as it is. -/
theorem AWp.nilSplit {Γ : Ctx} {c : Code} {Q : Exit → AState → Prop} {s : AState} (x : Nat) (hx : s.get x = .im (.row [])) (h : ∀ b n, AWp Γ c Q (s.put (some x) (.im (.sc (.slice b 0 n))))) : AWp Γ c Q s := by
  intro a w hs
  obtain ⟨κ, I, hr⟩ := hs
  have g := hr.slots x
  rw [hx] at g
  have : ∃ b n, a.tmps.getD x undef = .slice b 0 n := by
    generalize a.tmps.getD x undef = v at g
    cases g with
    | im h => cases h with
      | row0 b n => exact ⟨b, n, rfl⟩
      | row u hn => subst hn; exact ⟨_, _, rfl⟩
  obtain ⟨b, n, e⟩ := this
  refine h b n a w ⟨κ, I, hr.size, hr.defers, fun y => ?_, hr.inv.eqv (fun k o hk => by rwa [AState.obj_put] at hk) rfl⟩
  rw [AState.get_put]
  split
  · rename_i hxy; subst hxy; rw [e]; exact .im (.sc _)
  · exact hr.slots y

theorem AWp.unsplit {Γ : Ctx} {c : Code} {Q : Exit → AState → Prop} {s : AState} (x : Nat) {b : Option Addr} {n : Nat} (hx : s.get x = .im (.sc (.slice b 0 n))) (h : AWp Γ c Q (s.put (some x) (.im (.row [])))) : AWp Γ c Q s := by
  intro a w hs
  obtain ⟨κ, I, hr⟩ := hs
  have g := hr.slots x
  rw [hx] at g
  have e := g.sc_inv
  refine h a w ⟨κ, I, hr.size, hr.defers, fun y => ?_, hr.inv.eqv (fun k o hk => by rwa [AState.obj_put] at hk) rfl⟩
  rw [AState.get_put]
  split
  · rename_i hxy; subst hxy; rw [e]; exact .im (.row0 b n)
  · exact hr.slots y

/-! ### What comes out becomes data at once -/
theorem OpOK.frozen {P : Program} {o : Oper} {s : AState} {keys news : List Nat} {post : List (Nat × Option MObj)} {k sz el : Nat} {es : List (List Im)} (h : OpOK P o (mkSp s o keys news (.own k) post))
    (hk : look post k = some (some (.row sz el es))) : OpOK P o (mkSp s o keys news (.im (.row es)) ((k, none) :: post)) := by
  intro Γ hP hd s2 a w hs hn hf K Q hK
  refine h Γ hP hd s2 a w hs hn hf K Q (fun a' w' hs' => hK a' w' ?_)
  obtain ⟨κ, I, hr⟩ := hs'
  have hact : ∀ (res : AVal) (post : List (Nat × Option MObj)) (q : Nat), ((mkSp s o keys news res post).act o.dst s2).obj q = (s2.objput post).obj q := fun res post q => AState.obj_put _ _ _ _
  have hobjk : ((mkSp s o keys news (.own k) post).act o.dst s2).obj k = some (.row sz el es) := by
    rw [hact]; show (look (post ++ s2.objs) k).getD none = _
    rw [look_append, hk]; rfl
  have hO := hr.inv.objs k _ hobjk
  let I' : Nat → Prop := fun b => I b ∨ ∃ ki, κ k = some ki ∧ ki.b = b
  have hI : ∀ b, I b → I' b := fun b h => .inl h
  have hold : ∀ k' q, ((mkSp s o keys news (.im (.row es)) ((k, none) :: post)).act o.dst s2).obj k' = some q → k' ≠ k ∧ ((mkSp s o keys news (.own k) post).act o.dst s2).obj k' = some q := by
    intro k' q hq
    rw [hact] at hq ⊢
    change (look ((k, none) :: (post ++ s2.objs)) k').getD none = _ at hq
    change _ ∧ (look (post ++ s2.objs) k').getD none = _
    rw [look_cons] at hq
    by_cases e : k = k'
    · rw [if_pos e] at hq; simp at hq
    · rw [if_neg e] at hq; exact ⟨fun h => e h.symm, hq⟩
  have hnot : ∀ k' q ki ki', k' ≠ k → ((mkSp s o keys news (.own k) post).act o.dst s2).obj k' = some q → κ k' = some ki' → κ k = some ki → ki'.b ≠ ki.b := by
    intro k' q ki ki' hne hq e1 e2 hb
    exact hne (hr.inv.inj k' k q _ ki' ki hq hobjk e1 e2 hb)
  refine ⟨κ, I', hr.size, hr.defers, fun x => ?_, ?_, ?_, ?_, ?_, hr.inv.keep, fun b h => .inl (hr.inv.ikeep b h), ?_, ?_, ?_⟩
  · have g := hr.slots x
    revert g
    simp only [Sp.act, mkSp]
    cases o.dst with
    | none => exact fun g => g.mono hI (fun _ _ => rfl) (fun _ _ => rfl)
    | some d =>
      rw [AState.get_put, AState.get_put]
      by_cases e : d = x
      · rw [if_pos e, if_pos e]
        intro g
        have := pass_rep (I' := I') (κc := κ) (inv := []) (views := [(k, es)]) hI (by intro a b h; simp [look] at h) (fun k' es' h => by
          rw [look_cons] at h
          split at h
          · rename_i e'; subst e'; simp at h; subst h
            exact ⟨⟨sz, el, hO⟩, fun ki e => .inr ⟨ki, e, rfl⟩⟩
          · simp [look] at h) g
        simpa [pass, look] using this
      · rw [if_neg e, if_neg e]
        exact fun g => g.mono hI (fun _ _ => rfl) (fun _ _ => rfl)
  · intro k' q hq
    obtain ⟨hne, hq⟩ := hold k' q hq
    have := hr.inv.objs k' q hq
    unfold OAt at this ⊢
    cases e : κ k' with
    | none => rw [e] at this; exact this
    | some ki => rw [e] at this; exact this.mono hI (fun _ _ => rfl) rfl (fun _ _ => rfl)
  · intro q1 q2 o1 o2 ki1 ki2 h1 h2 f1 f2 hb
    exact hr.inv.inj q1 q2 o1 o2 ki1 ki2 (hold q1 o1 h1).2 (hold q2 o2 h2).2 f1 f2 hb
  · intro q o' ki hq f hIb
    obtain ⟨hne, hq⟩ := hold q o' hq
    rcases hIb with hIb | ⟨ki', e1, e2⟩
    · exact hr.inv.disj q o' ki hq f hIb
    · exact hnot q o' ki' ki hne hq f e1 e2.symm
  · intro b hIb
    rcases hIb with hIb | ⟨ki, e1, rfl⟩
    · exact hr.inv.bound b hIb
    · have := hO
      simp only [OAt, e1] at this
      obtain ⟨_, _, _, arr, h3, _⟩ := this
      exact (Array.getElem?_eq_some_iff.1 h3).1
  · intro b hIb
    rcases hIb with hIb | ⟨ki, e1, rfl⟩
    · exact hr.inv.fromI b hIb
    · rcases hr.inv.fromO k _ ki hobjk e1 with h | h
      · exact .inr (.inl h)
      · exact .inr (.inr h)
  · intro q o' ki hq f
    exact hr.inv.fromO q o' ki (hold q o' hq).2 f
  · intro q hq
    refine hr.inv.fix q ?_
    have e1 : ((mkSp s o keys news (.im (.row es)) ((k, none) :: post)).act o.dst s2).floor = s2.floor := by cases o.dst <;> rfl
    have e2 : ((mkSp s o keys news (.own k) post).act o.dst s2).floor = s2.floor := by cases o.dst <;> rfl
    rw [e1] at hq; rw [e2]; exact hq

/-- An operation whose row becomes data at once. -/
def xFz (h : Hint) : Ext where
  f P o s := match autoOp P h o s with
    | some e => match e.res with
      | .own k => match look e.post k with
        | some (some (.row sz el es)) => some ⟨e.keys, e.news, .im (.row es), (k, none) :: e.post, e.props⟩
        | _ => none
      | _ => none
    | none => none
  ok P o s e he hp := by
    split at he
    · rename_i e0 h0
      split at he
      · rename_i k hk
        split at he
        · rename_i sz el es hl
          obtain rfl := Option.some.inj he
          have := autoOp_ok h0 hp
          rw [hk] at this
          exact this.frozen hl
        · simp at he
      · simp at he
    · simp at he

end Go.Pv
