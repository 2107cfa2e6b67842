import Derived.Test.YticdbkmekkbiiaaPvAuto
set_option linter.unusedVariables false
set_option linter.unusedSimpArgs false
namespace Go.Pv

def Enters (P : Program) (g : Nat) : Prop := ∀ (args : Array Value) (w : World), (callFunc g args).run P w = .ok (.enter g args) w

def viewsOf (s : AState) : List Nat → Option (List (Nat × List (List Im)))
  | [] => some []
  | k :: r => match s.obj k, viewsOf s r with
    | some (.row _ _ es), some l => some ((k, es) :: l)
    | _, _ => none

theorem viewsOf_ok {s : AState} : ∀ {l : List Nat} {v : List (Nat × List (List Im))}, viewsOf s l = some v → ∀ p ∈ v, ∃ sz el, s.obj p.1 = some (.row sz el p.2) := by
  intro l
  induction l with
  | nil => intro v h; obtain rfl := Option.some.inj h; intro p hp; simp at hp
  | cons k r ih =>
    intro v h
    simp only [viewsOf] at h
    split at h
    · rename_i sz el es l' hk hl
      obtain rfl := Option.some.inj h
      intro p hp
      rcases List.mem_cons.1 hp with rfl | hp
      · exact ⟨sz, el, hk⟩
      · exact ih hl p hp
    · simp at h

def autoCall (P : Program) (h : Hint) (s : AState) (fo : Operand) (as : Array Operand) : Option Eff :=
  match h, funOf (s.eval fo) with
  | .call inv out vk news floor r objs, some (g, caps) => match viewsOf s vk with
   | some views => match keysOK inv out views news floor && inv.all (fun p => (s.obj p.1).isSome) with
    | true => some ⟨inv.map (·.1) ++ views.map (·.1), news, pass out [] r, outObjs ⟨[], objs, 0⟩ out inv (views.map (·.1)) (callKeeps inv out r),
        [Enters P g, Fn P g ((as.toList.map s.eval ++ caps).map (fun x => rowed (pass inv views x))) (inObjs s inv views) floor (fun r' o' => r' = r ∧ o' = objs)]⟩
    | false => none
   | none => none
  | _, _ => none

theorem autoCall_ok {P : Program} {h : Hint} {o : Oper} {s : AState} {fo : Operand} {as : Array Operand} {ts : Array TypeId} {e : Eff} (ho : o.op = .call { callee := .value fo, args := as, argTypes := ts })
    (he : autoCall P h s fo as = some e) (hp : AllP e.props) : OpOK P o (mkSp s o e.keys e.news e.res e.post) := by
  unfold autoCall at he
  split at he
  · rename_i inv out vs news floor r objs g caps hfo
    split at he
    · rename_i views hv
      split at he
      · rename_i hb
        simp only [Bool.and_eq_true] at hb
        obtain ⟨b1, b2⟩ := hb
        obtain rfl := Option.some.inj he
        simp only [AllP] at hp
        exact ok_call inv out views news floor ho hfo hp.1 rfl (viewsOf_ok hv) b2 b1 hp.2.1
      · simp at he
    · simp at he
  · simp at he

/-- A call of a function without a body, or of one that is known to come to a value. -/
theorem ok_extern {P : Program} {o : Oper} {s : AState} {fo : Operand} {as : Array Operand} {ts : Array TypeId} {g : Nat} {vs : List Value} (ra : AVal) (r : Value) (ho : o.op = .call { callee := .value fo, args := as, argTypes := ts })
    (hfo : s.eval fo = .im (.sc (.func (.func g) #[] #[]))) (hvs : as.toList.map s.eval = vs.map fun v => .im (.sc v)) (hr : ∀ w I κ, Rep w I κ ra r)
    (hrun : ∀ w, (callFunc g vs.toArray).run P w = .ok (.value r) w) : OpOK P o (mkSp s o [] [] ra []) :=
  .quiet rfl fun Γ κ I s2 a w hP hrel hn => by
    have h1 := (opd hrel hn fo (by simp [ho, Op.operands, Call.operands]) hfo).sc_inv
    have h2 : as.map a.eval = vs.toArray := by
      rw [← Array.toList_inj]
      simp only [Array.toList_map]
      apply List.ext_getElem
      · have := congrArg List.length hvs; simpa using this
      · intro i hi hi'
        have hlen := congrArg List.length hvs
        simp only [List.length_map, Array.length_toList] at hi hlen hi'
        have := List.getElem_of_eq hvs (i := i) (by simpa using hi)
        simp only [List.getElem_map, Array.getElem_toList] at this
        have h3 := opd hrel hn as[i] (by simp [ho, Op.operands, Call.operands]) this
        simp only [List.getElem_map, Array.getElem_toList]
        exact h3.sc_inv
    refine ⟨r, ?_, hr w I κ⟩
    simp only [execOp, ho, resolve, h1, Deferred.ofValue, Sem.run_bind, Sem.run_pure, Result.andThen_ok, invoke, h2]
    simpa using hrun w

def scVals : List AVal → Option (List Value)
  | [] => some []
  | .im (.sc v) :: r => match scVals r with
    | some l => some (v :: l)
    | none => none
  | _ => none
theorem scVals_eq : ∀ {l : List AVal} {r : List Value}, scVals l = some r → l = r.map fun v => .im (.sc v) := by
  intro l
  induction l with
  | nil => intro r h; obtain rfl := Option.some.inj h; rfl
  | cons x l ih =>
    intro r h
    unfold scVals at h
    split at h
    · simp at *
    · rename_i v r' heq
      simp only [List.cons.injEq] at heq
      obtain ⟨rfl, rfl⟩ := heq
      split at h
      · rename_i l' hl; obtain rfl := Option.some.inj h; rw [ih hl]; rfl
      · simp at h
    · simp at h

/-- Scalars, or a tuple of them, as a value. -/
def scOf : AVal → Option Value
  | .im (.sc v) => some v
  | .tup l => match scVals l with
    | some vs => some (.tuple vs.toArray)
    | none => none
  | _ => none
theorem scOf_rep {x : AVal} {v : Value} (h : scOf x = some v) (w : World) (I : Nat → Prop) (κ : Nat → Option KI) : Rep w I κ x v := by
  unfold scOf at h
  split at h
  · simp at h; subst h; exact .im (.sc _)
  · rename_i l
    split at h
    · rename_i vs hvs
      simp at h; subst h
      rw [scVals_eq hvs]
      exact .tup (by simp) (fun j h h' => by rw [List.getElem_map]; exact .im (.sc _))
    · simp at h
  · simp at h

def autoExtern (P : Program) (s : AState) (fo : Operand) (as : Array Operand) (ra : AVal) : Option Eff :=
  match s.eval fo, scVals (as.toList.map s.eval), scOf ra with
  | .im (.sc (.func (.func g) ⟨[]⟩ ⟨[]⟩)), some vs, some r => some ⟨[], [], ra, [], [∀ w, (callFunc g vs.toArray).run P w = .ok (.value r) w]⟩
  | _, _, _ => none

theorem autoExtern_ok {P : Program} {o : Oper} {s : AState} {fo : Operand} {as : Array Operand} {ts : Array TypeId} {ra : AVal} {e : Eff} (ho : o.op = .call { callee := .value fo, args := as, argTypes := ts })
    (he : autoExtern P s fo as ra = some e) (hp : AllP e.props) : OpOK P o (mkSp s o e.keys e.news e.res e.post) := by
  unfold autoExtern at he
  split at he
  · rename_i g vs r hfo hvs hr
    obtain rfl := Option.some.inj he
    exact ok_extern ra r ho hfo (scVals_eq hvs) (scOf_rep hr) hp.1
  · simp at he

end Go.Pv
