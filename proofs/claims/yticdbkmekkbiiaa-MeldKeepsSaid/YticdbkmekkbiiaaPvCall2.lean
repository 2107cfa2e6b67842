import Derived.Test.YticdbkmekkbiiaaPvCall
set_option linter.unusedVariables false
set_option linter.unusedSimpArgs false
namespace Go.Pv

mutual
/-- A value as the callee knows it: rows that are only looked at become data, keys are renamed. -/
def pass (inv : List (Nat × Nat)) (views : List (Nat × List (List Im))) : AVal → AVal
  | .own k => match look views k with
    | some es => .im (.row es)
    | none => match look inv k with
      | some kc => .own kc
      | none => .top
  | .cut k lo n => match look inv k with
    | some kc => .cut kc lo n
    | none => .top
  | .ptr k e j => match look inv k with
    | some kc => .ptr kc e j
    | none => .top
  | .agg l => .agg (passL inv views l)
  | .tup l => .tup (passL inv views l)
  | .fn g l => .fn g (passL inv views l)
  | .top => .top
  | .im x => .im x
  | .none0 => .none0
  | .ip c => .ip c
def passL (inv : List (Nat × Nat)) (views : List (Nat × List (List Im))) : List AVal → List AVal
  | [] => []
  | x :: r => pass inv views x :: passL inv views r
end
theorem passL_eq (inv : List (Nat × Nat)) (views : List (Nat × List (List Im))) : ∀ l, passL inv views l = l.map (pass inv views)
  | [] => rfl
  | x :: r => by rw [passL, passL_eq inv views r, List.map_cons]

def MObj.pass (inv : List (Nat × Nat)) (views : List (Nat × List (List Im))) : MObj → MObj
  | .row sz el es => .row sz el es
  | .box el cells => .box el (passL inv views cells)

theorem pass_rep {w : World} {I I' : Nat → Prop} {κ κc : Nat → Option KI} {inv : List (Nat × Nat)} {views : List (Nat × List (List Im))} (hI : ∀ b, I b → I' b)
    (hinv : ∀ k kc, look inv k = some kc → κc kc = κ k) (hv : ∀ k es, look views k = some es → (∃ sz el, OAt w I κ k (.row sz el es)) ∧ ∀ ki, κ k = some ki → I' ki.b) {x : AVal} {v : Value}
    (h : Rep w I κ x v) : Rep w I' κc (pass inv views x) v := by
  induction h with
  | top v => exact .top v
  | im h => exact .im (h.mono hI (fun _ _ => rfl))
  | none0 base => exact .none0 base
  | @own0 k base e =>
    simp only [pass]
    cases e1 : look views k with
    | some es =>
      obtain ⟨⟨sz, el, ho⟩, _⟩ := hv k es e1
      simp only [OAt, e] at ho
      obtain ⟨sz', el', ho⟩ := ho
      simp only [MObj.row.injEq] at ho
      obtain ⟨_, _, rfl⟩ := ho
      exact .im (.row0 base 0)
    | none =>
      dsimp only
      cases e2 : look inv k with
      | some kc => exact .own0 base ((hinv _ _ e2).trans e)
      | none => exact .top _
  | @own k ki e =>
    simp only [pass]
    cases e1 : look views k with
    | some es =>
      obtain ⟨⟨sz, el, ho⟩, hb⟩ := hv k es e1
      simp only [OAt, e, ORep] at ho
      obtain ⟨h1, h2, h3, arr, h4, h5, h6⟩ := ho
      refine .im (.row (sz := sz) (fun i j => arr[i * sz + j]?.getD undef) h2 (hb ki e) (by omega) (fun i h => (h6 i h).1) (fun i j hi hj => ?_) (fun i h j h' => ?_))
      · obtain ⟨g1, g2⟩ := h6 i hi
        obtain ⟨u, g3, g4⟩ := g2 j (by omega)
        rw [cell_of h4, Nat.zero_add]; simp [g3]
      · obtain ⟨u, g3, g4⟩ := (h6 i h).2 j h'
        simp only [g3, Option.getD_some]; exact g4.mono hI (fun _ _ => rfl)
    | none =>
      dsimp only
      cases e2 : look inv k with
      | some kc => exact .own ((hinv _ _ e2).trans e)
      | none => exact .top _
  | @cut0 k base e =>
    simp only [pass]
    cases e2 : look inv k with
    | some kc => exact .cut0 base ((hinv _ _ e2).trans e)
    | none => exact .top _
  | @cut k lo n off ki e h1 h2 =>
    simp only [pass]
    cases e2 : look inv k with
    | some kc => exact .cut ((hinv _ _ e2).trans e) h1 h2
    | none => exact .top _
  | @ptr k e j ki ek =>
    simp only [pass]
    cases e2 : look inv k with
    | some kc => exact .ptr ((hinv _ _ e2).trans ek)
    | none => exact .top _
  | ip u hb hc hr => exact .ip u (hI _ hb) hc (fun j h => (hr j h).mono hI (fun _ _ => rfl))
  | agg hl hr ih => simp only [pass, passL_eq]; exact .agg (by simpa using hl) (fun j h h' => by rw [List.getElem_map]; exact ih j (by simpa using h) h')
  | tup hl hr ih => simp only [pass, passL_eq]; exact .tup (by simpa using hl) (fun j h h' => by rw [List.getElem_map]; exact ih j (by simpa using h) h')
  | fn hl hr ih => simp only [pass, passL_eq]; exact .fn (by simpa using hl) (fun j h h' => by rw [List.getElem_map]; exact ih j (by simpa using h) h')

theorem pass_obj {w : World} {I I' : Nat → Prop} {κ κc : Nat → Option KI} {inv : List (Nat × Nat)} {views : List (Nat × List (List Im))} (hI : ∀ b, I b → I' b)
    (hinv : ∀ k kc, look inv k = some kc → κc kc = κ k) (hv : ∀ k es, look views k = some es → (∃ sz el, OAt w I κ k (.row sz el es)) ∧ ∀ ki, κ k = some ki → I' ki.b) {k kc : Nat} {o : MObj}
    (hk : κc kc = κ k) (h : OAt w I κ k o) : OAt w I' κc kc (o.pass inv views) := by
  unfold OAt at h ⊢
  rw [hk]
  cases e : κ k with
  | none => rw [e] at h; obtain ⟨sz, el, rfl⟩ := h; exact ⟨sz, el, rfl⟩
  | some ki =>
    rw [e] at h
    cases o with
    | row sz el es =>
      obtain ⟨h1, h2, h3, arr, h4, h5, h6⟩ := h
      exact ⟨h1, h2, h3, arr, h4, h5, fun i hi => ⟨(h6 i hi).1, fun j hj => let ⟨u, a, b⟩ := (h6 i hi).2 j hj; ⟨u, a, b.mono hI (fun _ _ => rfl)⟩⟩⟩
    | box el cells =>
      obtain ⟨h1, h2, arr, h4, h5, h6⟩ := h
      simp only [MObj.pass, passL_eq]
      refine ⟨h1, by simpa using h2, arr, h4, by simpa using h5, fun j hj => ?_⟩
      rw [List.length_map] at hj
      obtain ⟨u, a, b⟩ := h6 j hj
      exact ⟨u, a, by rw [List.getElem_map]; exact pass_rep hI hinv hv b⟩

def AVal.flat : AVal → Bool
  | .im (.sc _) => true
  | .none0 => true
  | .top => true
  | .tup l => flatL l
  | .agg l => flatL l
  | _ => false
where flatL : List AVal → Bool
  | [] => true
  | .im (.sc _) :: r => flatL r
  | .none0 :: r => flatL r
  | .top :: r => flatL r
  | _ => false

theorem flatL_get : ∀ {l : List AVal}, AVal.flat.flatL l = true → ∀ j (h : j < l.length), (∃ v, l[j] = .im (.sc v)) ∨ l[j] = .none0 ∨ l[j] = .top := by
  intro l
  induction l with
  | nil => intro _ j h; simp at h
  | cons x r ih =>
    intro hf j h
    have : ((∃ v, x = .im (.sc v)) ∨ x = .none0 ∨ x = .top) ∧ AVal.flat.flatL r = true := by
      cases x with
      | im y => cases y <;> simp [AVal.flat.flatL] at hf ⊢; exact hf
      | _ => simp [AVal.flat.flatL] at hf ⊢ <;> exact hf
    cases j with
    | zero => exact this.1
    | succ j => exact ih this.2 j (by simpa using h)

theorem pass_flat {inv : List (Nat × Nat)} {views : List (Nat × List (List Im))} {x : AVal} (h : x.flat = true) : (pass inv views x).flat = true := by
  have key : ∀ l, AVal.flat.flatL l = true → AVal.flat.flatL (passL inv views l) = true := by
    intro l
    induction l with
    | nil => exact fun _ => rfl
    | cons x r ih =>
      intro hf
      cases x with
      | im y => cases y <;> simp [AVal.flat.flatL] at hf; simp [passL, pass, AVal.flat.flatL, ih hf]
      | none0 => simp [AVal.flat.flatL] at hf; simp [passL, pass, AVal.flat.flatL, ih hf]
      | top => simp [AVal.flat.flatL] at hf; simp [passL, pass, AVal.flat.flatL, ih hf]
      | _ => simp [AVal.flat.flatL] at hf
  cases x with
  | im y => exact h
  | agg l => exact key l h
  | tup l => exact key l h
  | top => rfl
  | none0 => rfl
  | _ => simp [AVal.flat] at h

theorem none0_inv {w : World} {I : Nat → Prop} {κ : Nat → Option KI} {v : Value} (h : Rep w I κ .none0 v) : ∃ base, v = .slice base 0 0 := by
  cases h; exact ⟨_, rfl⟩

theorem flat_rep {w w' : World} {I I' : Nat → Prop} {κ κ' : Nat → Option KI} {x : AVal} {v : Value} (h : Rep w I κ x v) (hf : x.flat = true) : Rep w' I' κ' x v := by
  cases h with
  | top v => exact .top v
  | im h => cases h with
    | sc v => exact .im (.sc v)
    | _ => simp [AVal.flat] at hf
  | none0 b => exact .none0 b
  | agg hl hr =>
    refine .agg hl (fun j h h' => ?_)
    have := hr j h h'
    rcases flatL_get hf j h with ⟨v, e⟩ | e | e <;> rw [e] at this ⊢
    · rw [this.sc_inv]; exact .im (.sc v)
    · obtain ⟨base, e'⟩ := none0_inv this; rw [e']; exact .none0 _
    · exact .top _
  | tup hl hr =>
    refine .tup hl (fun j h h' => ?_)
    have := hr j h h'
    rcases flatL_get hf j h with ⟨v, e⟩ | e | e <;> rw [e] at this ⊢
    · rw [this.sc_inv]; exact .im (.sc v)
    · obtain ⟨base, e'⟩ := none0_inv this; rw [e']; exact .none0 _
    · exact .top _
  | _ => simp [AVal.flat] at hf


/-! ### A call -/
def swapL (l : List (Nat × Nat)) : List (Nat × Nat) := l.map fun p => (p.2, p.1)

/-- Callee's keys for the objects that are handed over. -/
def inObjs (s : AState) (inv : List (Nat × Nat)) (views : List (Nat × List (List Im))) : List (Nat × Option MObj) :=
  inv.map fun p => (p.2, (s.obj p.1).map (MObj.pass inv views))

def isNil {α : Type} : List α → Bool
  | [] => true
  | _ => false

/-- The rows that were looked at stay the caller's own, if nothing that comes back can lead to them. -/
def callKeeps (inv out : List (Nat × Nat)) (r : AVal) : Bool := isNil out && isNil inv && r.flat

def vkills : Bool → List Nat → List (Nat × Option MObj)
  | true, _ => []
  | false, vk => vk.map fun k => (k, none)

def outObjs (objs : AState) (out : List (Nat × Nat)) (inv : List (Nat × Nat)) (vk : List Nat) (keep : Bool) : List (Nat × Option MObj) :=
  (out.map fun p => (p.2, (objs.obj p.1).map (MObj.pass out []))) ++ (inv.map fun p => (p.1, none)) ++ vkills keep vk

/-- The keys fit: what is handed over has one callee's key each; what comes back has its elder key or a new one. -/
def keysOK (inv out : List (Nat × Nat)) (views : List (Nat × List (List Im))) (news : List Nat) (floor : Nat) : Bool :=
  distinct (inv.map (·.1)) && distinct (inv.map (·.2)) && distinct (out.map (·.1)) && distinct (out.map (·.2)) && inv.all (fun p => Nat.blt p.2 floor) &&
  out.all (fun p => match Nat.blt p.1 floor with
    | true => match look inv p.2 with
      | some kc => Nat.beq kc p.1
      | none => false
    | false => isIn p.2 news) && apart (inv.map (·.1)) (views.map (·.1))
where distinct : List Nat → Bool
  | [] => true
  | x :: r => !(isIn x r) && distinct r

theorem distinct_iff : ∀ {l : List Nat}, keysOK.distinct l = true ↔ l.Nodup := by
  intro l
  induction l with
  | nil => simp [keysOK.distinct]
  | cons x r ih =>
    have : isIn x r = false ↔ x ∉ r := by rw [← isIn_iff]; simp
    simp [keysOK.distinct, ih, this]

theorem look_mem {α : Type} {l : List (Nat × α)} {k : Nat} {v : α} (h : look l k = some v) : (k, v) ∈ l := by
  induction l with
  | nil => simp [look] at h
  | cons p l ih =>
    obtain ⟨i, u⟩ := p
    rw [look_cons] at h
    by_cases e : i = k
    · rw [if_pos e] at h; simp at h; simp [e, h]
    · rw [if_neg e] at h; exact List.mem_cons_of_mem _ (ih h)
theorem look_of_mem {α : Type} {l : List (Nat × α)} (hn : (l.map (·.1)).Nodup) {k : Nat} {v : α} (h : (k, v) ∈ l) : look l k = some v := by
  induction l with
  | nil => simp at h
  | cons p l ih =>
    obtain ⟨i, u⟩ := p
    simp only [List.map_cons, List.nodup_cons] at hn
    rw [look_cons]
    rcases List.mem_cons.1 h with h | h
    · simp at h; rw [if_pos h.1.symm, h.2]
    · rw [if_neg, ih hn.2 h]
      rintro rfl
      exact hn.1 (List.mem_map.2 ⟨_, h, rfl⟩)

def funOf (v : AVal) : Option (Nat × List AVal) :=
  match v with
  | .im (.sc (.func (.func g) ⟨[]⟩ ⟨[]⟩)) => some (g, [])
  | .fn g caps => some (g, caps)
  | _ => none

theorem run_callee {P : Program} {g : Nat} {fn : Func} {c : Code} (hf : P.funcs[g]? = some fn) (hb : fn.body = some c) (hname : (fn.name == "runtime.NumGoroutine") = false)
    (args : Array Value) (w : World) : (callFunc g args).run P w = .ok (.enter g args) w := by
  have h : ¬ fn.name = "runtime.NumGoroutine" := by simpa using hname
  unfold callFunc
  simp [program, Sem.run, hf, hb, h]

theorem funOf_rep {w : World} {I : Nat → Prop} {κ : Nat → Option KI} {x : AVal} {v : Value} {g : Nat} {caps : List AVal} (h : Rep w I κ x v) (hx : funOf x = some (g, caps)) :
    ∃ vs : List Value, v = .func (.func g) #[] vs.toArray ∧ vs.length = caps.length ∧ ∀ j (h : j < caps.length) (h' : j < vs.length), Rep w I κ (caps[j]) (vs[j]) := by
  unfold funOf at hx
  split at hx
  · simp at hx; obtain ⟨rfl, rfl⟩ := hx
    exact ⟨[], h.sc_inv, rfl, fun j h => absurd h (Nat.not_lt_zero _)⟩
  · simp at hx; obtain ⟨rfl, rfl⟩ := hx
    cases h with
    | fn hl hr => exact ⟨_, rfl, hl, hr⟩
  · simp at hx


mutual
/-- Empty slices as data. -/
def rowed : AVal → AVal
  | .none0 => .im (.row [])
  | .agg l => .agg (rowedL l)
  | x => x
def rowedL : List AVal → List AVal
  | [] => []
  | x :: r => rowed x :: rowedL r
end
theorem rowedL_eq : ∀ l, rowedL l = l.map rowed
  | [] => rfl
  | x :: r => by rw [rowedL, rowedL_eq r, List.map_cons]
theorem rowed_rep {w : World} {I : Nat → Prop} {κ : Nat → Option KI} {x : AVal} {v : Value} (h : Rep w I κ x v) : Rep w I κ (rowed x) v := by
  induction h with
  | none0 base => exact .im (.row0 base 0)
  | @agg cells vs hl hr ih =>
    simp only [rowed, rowedL_eq]
    refine .agg (by simpa using hl) (fun j h h' => ?_)
    rw [List.getElem_map]
    exact ih j (by simpa using h) h'
  | top v => exact .top v
  | im h => exact .im h
  | own0 base e => exact .own0 base e
  | own e => exact .own e
  | cut0 base e => exact .cut0 base e
  | cut e h1 h2 => exact .cut e h1 h2
  | ptr e => exact .ptr e
  | ip u hb hc hr => exact .ip u hb hc hr
  | tup hl hr => exact .tup hl hr
  | fn hl hr => exact .fn hl hr

theorem ok_call {P : Program} {o : Oper} {s : AState} {fo : Operand} {as : Array Operand} {ts : Array TypeId} {g : Nat} {caps : List AVal}
    (inv out : List (Nat × Nat)) (views : List (Nat × List (List Im))) (news : List Nat) (floor : Nat) {args' : List AVal} {r : AVal} {objs' : List (Nat × Option MObj)}
    (ho : o.op = .call { callee := .value fo, args := as, argTypes := ts }) (hfo : funOf (s.eval fo) = some (g, caps)) (henter : ∀ (args : Array Value) (w : World), (callFunc g args).run P w = .ok (.enter g args) w) (hargs : args' = (as.toList.map s.eval ++ caps).map (fun x => rowed (pass inv views x)))
    (hviews : ∀ p ∈ views, ∃ sz el, s.obj p.1 = some (.row sz el p.2)) (hlive : inv.all (fun p => (s.obj p.1).isSome) = true) (hkeys : keysOK inv out views news floor = true)
    (hfn : Fn P g args' (inObjs s inv views) floor (fun r' o' => r' = r ∧ o' = objs')) :
    OpOK P o (mkSp s o (inv.map (·.1) ++ views.map (·.1)) news (pass out [] r) (outObjs ⟨[], objs', 0⟩ out inv (views.map (·.1)) (callKeeps inv out r))) := by
  intro Γ hP hd s2 a w ⟨κ, I, hr⟩ hn hfresh K Q hK
  -- what the machine does
  have hevalfo := hr.eval fo
  rw [needs_eval hn fo (by simp [ho, Op.operands, Call.operands])] at hevalfo
  obtain ⟨cvs, hfv, hclen, hcreps⟩ := funOf_rep hevalfo hfo
  have hrun : (execOp a.eval o).run P w = .ok (.enter g ((as.toList.map a.eval ++ cvs).toArray)) w := by
    simp only [execOp, ho, resolve, hfv, Deferred.ofValue, Sem.run_bind, Sem.run_pure, Result.andThen_ok, invoke]
    rw [henter]
    congr 2
    rw [Array.empty_append, ← Array.toList_inj]; simp
  show o.upon P a K Q ((execOp a.eval o).run P w)
  rw [hrun]
  show Calls P g _ w _
  -- the keys
  simp only [keysOK, Bool.and_eq_true] at hkeys
  obtain ⟨⟨⟨⟨⟨⟨k1, k2⟩, k3⟩, k4⟩, k5⟩, k6⟩, k7⟩ := hkeys
  rw [distinct_iff] at k1 k2 k3 k4
  rw [apart_iff] at k7
  have hobj2 : ∀ k, k ∈ inv.map (·.1) ++ views.map (·.1) → s2.obj k = s.obj k := fun k hk => needs_obj hn k hk
  have hk2' : ((swapL inv).map (·.1)).Nodup := by simpa [swapL, Function.comp_def] using k2
  let κc : Nat → Option KI := fun kc => match look (swapL inv) kc with
    | some k => κ k
    | none => none
  have hκc : ∀ k kc, look inv k = some kc → κc kc = κ k := by
    intro k kc h
    have : look (swapL inv) kc = some k := look_of_mem hk2' (List.mem_map.2 ⟨(k, kc), look_mem h, rfl⟩)
    simp only [κc, this]
  let Ic : Nat → Prop := fun b => I b ∨ ∃ k es ki, look views k = some es ∧ κ k = some ki ∧ ki.b = b
  have hIc : ∀ b, I b → Ic b := fun b h => .inl h
  have hviewO : ∀ k es, look views k = some es → ∃ sz el, s2.obj k = some (.row sz el es) := by
    intro k es h
    have hm := look_mem h
    obtain ⟨sz, el, e⟩ := hviews _ hm
    exact ⟨sz, el, (hobj2 k (by simp only [List.mem_append]; exact .inr (List.mem_map.2 ⟨_, hm, rfl⟩))).trans e⟩
  have hv : ∀ k es, look views k = some es → (∃ sz el, OAt w I κ k (.row sz el es)) ∧ ∀ ki, κ k = some ki → Ic ki.b := by
    intro k es h
    obtain ⟨sz, el, e⟩ := hviewO k es h
    exact ⟨⟨sz, el, hr.inv.objs k _ e⟩, fun ki hκ => .inr ⟨k, es, ki, h, hκ, rfl⟩⟩
  have hinvO : ∀ k kc, (k, kc) ∈ inv → ∃ o, s2.obj k = some o ∧ s.obj k = some o := by
    intro k kc hm
    have := List.all_eq_true.1 hlive _ hm
    obtain ⟨o, e⟩ := Option.isSome_iff_exists.1 this
    exact ⟨o, (hobj2 k (by simp only [List.mem_append]; exact .inl (List.mem_map.2 ⟨_, hm, rfl⟩))).trans e, e⟩
  have hnotview : ∀ k kc, (k, kc) ∈ inv → look views k = none := by
    intro k kc hm
    exact look_none (fun h => k7 k (List.mem_map.2 ⟨_, hm, rfl⟩) h)
  -- the callee's objects
  have hin : ∀ kc o, (⟨[], inObjs s inv views, floor⟩ : AState).obj kc = some o → ∃ k oc, look inv k = some kc ∧ (k, kc) ∈ inv ∧ s2.obj k = some oc ∧ o = oc.pass inv views := by
    intro kc o h
    simp only [AState.obj] at h
    cases e : look (inObjs s inv views) kc with
    | none => rw [e] at h; simp at h
    | some ov =>
      rw [e] at h
      have hm := look_mem e
      obtain ⟨p, hp, hpe⟩ := List.mem_map.1 hm
      simp only [Prod.mk.injEq] at hpe
      obtain ⟨rfl, rfl⟩ := hpe
      obtain ⟨oc, e1, e2⟩ := hinvO p.1 p.2 hp
      rw [e2] at h
      exact ⟨p.1, oc, look_of_mem k1 hp, hp, e1, by simpa using h.symm⟩
  have hblock : ∀ k o ki, s2.obj k = some o → κ k = some ki → ki.b < w.heap.size := by
    intro k o ki e eκ
    have := hr.inv.objs k o e
    simp only [OAt, eκ] at this
    cases o with
    | row => obtain ⟨_, _, _, arr, h3, _⟩ := this; exact (Array.getElem?_eq_some_iff.1 h3).1
    | box => obtain ⟨_, _, arr, h3, _⟩ := this; exact (Array.getElem?_eq_some_iff.1 h3).1
  have hentry : Inv (entryCtx P 0 κc Ic ⟨[], inObjs s inv views, floor⟩ w) κc Ic ⟨[], inObjs s inv views, floor⟩ w := by
    refine ⟨?_, ?_, ?_, ?_, Keeps.refl _ _, fun _ h => h, fun b h => .inl h, ?_, fun _ _ => rfl⟩
    · intro kc o h
      obtain ⟨k, oc, e1, e2, e3, rfl⟩ := hin kc o h
      exact pass_obj hIc hκc hv (hκc k kc e1) (hr.inv.objs k oc e3)
    · intro kc kc' o o' ki ki' h h' f f' hb
      obtain ⟨k, oc, e1, e2, e3, rfl⟩ := hin kc o h
      obtain ⟨k', oc', e1', e2', e3', rfl⟩ := hin kc' o' h'
      rw [hκc k kc e1] at f; rw [hκc k' kc' e1'] at f'
      have := hr.inv.inj k k' oc oc' ki ki' e3 e3' f f' hb
      subst this
      rw [e1] at e1'; exact Option.some.inj e1'
    · intro kc o ki h f hI
      obtain ⟨k, oc, e1, e2, e3, rfl⟩ := hin kc o h
      rw [hκc k kc e1] at f
      rcases hI with hI | ⟨k', es, ki', h1, h2, h3⟩
      · exact hr.inv.disj k oc ki e3 f hI
      · obtain ⟨sz, el, e4⟩ := hviewO k' es h1
        have := hr.inv.inj k k' oc _ ki ki' e3 e4 f h2 h3.symm
        subst this
        rw [hnotview k kc e2] at h1; simp at h1
    · intro b hI
      rcases hI with hI | ⟨k', es, ki', h1, h2, rfl⟩
      · exact hr.inv.bound b hI
      · obtain ⟨sz, el, e4⟩ := hviewO k' es h1
        exact hblock k' _ ki' e4 h2
    · intro kc o ki h f
      exact .inl ⟨kc, o, ki, h, f, rfl⟩
  have hM : ∀ b, (∃ kc o ki, (⟨[], inObjs s inv views, floor⟩ : AState).obj kc = some o ∧ κc kc = some ki ∧ ki.b = b) → ∃ k o ki, s2.obj k = some o ∧ κ k = some ki ∧ ki.b = b ∧ k ∈ inv.map (·.1) := by
    rintro b ⟨kc, o, ki, h, f, rfl⟩
    obtain ⟨k, oc, e1, e2, e3, rfl⟩ := hin kc o h
    rw [hκc k kc e1] at f
    exact ⟨k, oc, ki, e3, f, rfl, List.mem_map.2 ⟨_, e2, rfl⟩⟩
  -- the call
  have hlenargs : (as.toList.map a.eval ++ cvs).length = args'.length := by rw [hargs]; simp [hclen]
  refine (hfn κc Ic w (as.toList.map a.eval ++ cvs) hlenargs (fun j h h' => ?_) hentry).mono ?_
  · subst hargs
    rw [List.getElem_map]
    refine rowed_rep (pass_rep hIc hκc hv ?_)
    simp only [List.length_map, List.length_append, Array.length_toList] at h
    by_cases hj : j < as.size
    · rw [List.getElem_append_left (by simpa using hj), List.getElem_append_left (by simpa using hj)]
      simp only [List.getElem_map, Array.getElem_toList]
      have := hr.eval as[j]
      rwa [needs_eval hn as[j] (by simp [ho, Op.operands, Call.operands])] at this
    · rw [List.getElem_append_right (by simpa using hj), List.getElem_append_right (by simpa using hj)]
      simp only [List.length_map, Array.length_toList]
      have := hcreps (j - as.size) (by omega) (by omega)
      exact this
  -- behind the call
  rintro e w' ⟨v, r0, objs0, κ', I', rfl, ⟨rfl, rfl⟩, hrep, hout⟩
  show K (a.put o.dst v) w'
  refine hK _ _ ?_
  have hkeepb : ∀ b, b < w.heap.size → (∀ k o ki, s2.obj k = some o → κ k = some ki → ki.b = b → k ∉ inv.map (·.1)) → w'.heap[b]? = w.heap[b]? := by
    intro b hb hno
    refine hout.keep.block b hb (fun hm => ?_)
    obtain ⟨k, o, ki, e1, e2, e3, e4⟩ := hM b hm
    exact hno k o ki e1 e2 e3 e4
  have hIkeep : ∀ b, I b → w'.heap[b]? = w.heap[b]? := fun b hI => hkeepb b (hr.inv.bound b hI) (fun k o ki e1 e2 e3 => absurd (e3 ▸ hI) (hr.inv.disj k o ki e1 e2))
  have hk3' : (out.map (·.1)).Nodup := k3
  have hk4' : ((swapL out).map (·.1)).Nodup := by simpa [swapL, Function.comp_def] using k4
  let κn : Nat → Option KI := fun k => match look (swapL out) k with
    | some kc => κ' kc
    | none => κ k
  have hoc : ∀ kc k', (kc, k') ∈ out → (kc < floor ∧ look inv k' = some kc) ∨ (floor ≤ kc ∧ k' ∈ news) := by
    intro kc k' hm
    have := List.all_eq_true.1 k6 _ hm
    simp only at this
    cases e : Nat.blt kc floor with
    | true =>
      rw [e] at this
      cases e2 : look inv k' with
      | none => rw [e2] at this; simp at this
      | some kc' =>
        rw [e2] at this
        exact .inl ⟨by simpa [Nat.blt_eq] using e, by rw [Nat.eq_of_beq_eq_true this]⟩
    | false =>
      rw [e] at this
      exact .inr ⟨Nat.le_of_not_lt (fun h => by have h' : Nat.blt kc floor = true := by simpa [Nat.blt_eq] using h
                                                rw [h'] at e; simp at e), isIn_iff.1 this⟩
  have hκn_in : ∀ kc k', (kc, k') ∈ out → κn k' = κ' kc := by
    intro kc k' hm
    have : look (swapL out) k' = some kc := look_of_mem hk4' (List.mem_map.2 ⟨(kc, k'), hm, rfl⟩)
    simp only [κn, this]
  have hκn_old : ∀ k, k ∉ news → κn k = κ k := by
    intro k hk
    simp only [κn]
    cases e : look (swapL out) k with
    | none => rfl
    | some kc =>
      have hm := look_mem e
      obtain ⟨p, hp, hpe⟩ := List.mem_map.1 hm
      simp only [Prod.mk.injEq] at hpe
      obtain ⟨rfl, rfl⟩ := hpe
      rcases hoc p.1 p.2 hp with ⟨h1, h2⟩ | ⟨_, h2⟩
      · have h3 := hout.fix p.1 h1
        simp only
        rw [h3]
        exact hκc p.2 p.1 h2
      · exact absurd h2 hk
  have hκout : ∀ kc k', look out kc = some k' → κn k' = κ' kc := fun kc k' h => hκn_in kc k' (look_mem h)
  let In : Nat → Prop := fun b => I b ∨ (callKeeps inv out r0 = false ∧ I' b)
  have hkc : callKeeps inv out r0 = true → out = [] ∧ inv = [] ∧ r0.flat = true := by
    intro h
    simp only [callKeeps, Bool.and_eq_true] at h
    have hnil : ∀ {α : Type} {l : List α}, isNil l = true → l = [] := by intro α l h; cases l with | nil => rfl | cons => simp [isNil] at h
    exact ⟨hnil h.1.1, hnil h.1.2, h.2⟩
  have hIn : ∀ b, I b → In b := fun b h => .inl h
  have hI'sub : ∀ b, I b → I' b := fun b h => hout.ikeep b (hIc b h)
  have hres : Rep w' In κn (pass out [] r0) v := by
    cases hcc : callKeeps inv out r0 with
    | false => exact pass_rep (I := I') (fun b h => .inr ⟨hcc, h⟩) hκout (fun k es h => by simp [look] at h) hrep
    | true =>
      have : (pass out [] r0).flat = true := pass_flat (hkc hcc).2.2
      have h1 := pass_rep (inv := out) (views := []) (I := I') (I' := I') (fun b h => h) hκout (fun k es h => by simp [look] at h) hrep
      exact flat_rep h1 this
  -- the caller's objects behind the call
  have hobjn : ∀ k o, (s2.objput (outObjs ⟨[], objs0, 0⟩ out inv (views.map (·.1)) (callKeeps inv out r0))).obj k = some o →
      (∃ kc oc, (kc, k) ∈ out ∧ (⟨[], objs0, floor⟩ : AState).obj kc = some oc ∧ o = oc.pass out []) ∨ (k ∉ out.map (·.2) ∧ (k ∉ inv.map (·.1) ∧ (callKeeps inv out r0 = false → k ∉ views.map (·.1))) ∧ s2.obj k = some o) := by
    intro k o h
    rw [AState.obj_objput, outObjs, look_append, look_append] at h
    cases e : look (out.map fun p => (p.2, ((⟨[], objs0, 0⟩ : AState).obj p.1).map (MObj.pass out []))) k with
    | some ov =>
      rw [e] at h
      have hm := look_mem e
      obtain ⟨p, hp, hpe⟩ := List.mem_map.1 hm
      simp only [Prod.mk.injEq] at hpe
      obtain ⟨rfl, rfl⟩ := hpe
      simp only [Option.some_or, Option.getD_some, Option.map_eq_some_iff] at h
      obtain ⟨oc, e1, e2⟩ := h
      exact .inl ⟨p.1, oc, hp, e1, e2.symm⟩
    | none =>
      rw [e] at h
      have hno : k ∉ out.map (·.2) := by
        intro hm
        obtain ⟨p, hp, rfl⟩ := List.mem_map.1 hm
        have hnd : ((out.map fun p => (p.2, ((⟨[], objs0, 0⟩ : AState).obj p.1).map (MObj.pass out []))).map (·.1)).Nodup := by simpa [Function.comp_def] using k4
        rw [look_of_mem hnd (List.mem_map.2 ⟨p, hp, rfl⟩)] at e; simp at e
      cases e2 : look (inv.map fun p => (p.1, (none : Option MObj))) k with
      | some ov =>
        rw [e2] at h
        have hm := look_mem e2
        obtain ⟨p, hp, hpe⟩ := List.mem_map.1 hm
        simp only [Prod.mk.injEq] at hpe
        obtain ⟨_, rfl⟩ := hpe
        simp at h
      | none =>
        rw [e2] at h
        have hni : k ∉ inv.map (·.1) := by
          intro hm
          obtain ⟨p, hp, rfl⟩ := List.mem_map.1 hm
          have hnd : ((inv.map fun p => (p.1, (none : Option MObj))).map (·.1)).Nodup := by simpa [Function.comp_def] using k1
          rw [look_of_mem hnd (List.mem_map.2 ⟨p, hp, rfl⟩)] at e2; simp at e2
        cases hcc : callKeeps inv out r0 with
        | true => rw [hcc] at h; exact .inr ⟨hno, ⟨hni, fun e => by simp at e⟩, by simpa [look, vkills] using h⟩
        | false =>
          rw [hcc] at h
          simp only [vkills] at h
          cases e3 : look ((views.map (·.1)).map fun k => (k, (none : Option MObj))) k with
          | some ov =>
            rw [e3] at h
            obtain ⟨p, hp, hpe⟩ := List.mem_map.1 (look_mem e3)
            simp only [Prod.mk.injEq] at hpe
            obtain ⟨_, rfl⟩ := hpe
            simp at h
          | none =>
            rw [e3] at h
            refine .inr ⟨hno, ⟨hni, fun _ hm => ?_⟩, by simpa using h⟩
            have : ∀ l : List Nat, k ∈ l → look (l.map fun k => (k, (none : Option MObj))) k = some none := by
              intro l
              induction l with
              | nil => intro h; simp at h
              | cons x r ih =>
                intro h
                rw [List.map_cons, look_cons]
                by_cases ex : x = k
                · rw [if_pos ex]
                · rw [if_neg ex]; exact ih ((List.mem_cons.1 h).resolve_left (fun e => ex e.symm))
            rw [this _ hm] at e3; simp at e3
  have hfr : ∀ k, k ∈ news → s2.fresh k := hfresh
  have hold : ∀ k o, s2.obj k = some o → k ∉ news := fun k o h hk => by have := (hfr k hk).2.2.1; rw [this] at h; simp at h
  -- where a returned object lies
  have hwhere : ∀ kc oc ki, (⟨[], objs0, floor⟩ : AState).obj kc = some oc → κ' kc = some ki → (∃ k o ki', s2.obj k = some o ∧ κ k = some ki' ∧ ki'.b = ki.b ∧ k ∈ inv.map (·.1)) ∨ w.heap.size ≤ ki.b := by
    intro kc oc ki h1 h2
    rcases hout.fromO kc oc ki h1 h2 with h | h
    · exact .inl (hM _ h)
    · exact .inr h
  have hinvn : Inv Γ κn In (s2.objput (outObjs ⟨[], objs0, 0⟩ out inv (views.map (·.1)) (callKeeps inv out r0))) w' := by
    refine ⟨?_, ?_, ?_, ?_, ?_, fun b h => .inl (hr.inv.ikeep b h), ?_, ?_, ?_⟩
    · intro k o h
      rcases hobjn k o h with ⟨kc, oc, hm, e1, rfl⟩ | ⟨n1, ⟨n2, n3⟩, e1⟩
      · cases hcc : callKeeps inv out r0 with
        | false => exact pass_obj (I := I') (fun b h => .inr ⟨hcc, h⟩) (fun kc k' h => hκout kc k' h) (fun k es h => by simp [look] at h) (hκn_in kc k hm) (hout.objs kc oc e1)
        | true => rw [(hkc hcc).1] at hm; simp at hm
      · have hkn : κn k = κ k := hκn_old k (hold k o e1)
        have := hr.inv.objs k o e1
        unfold OAt at this ⊢
        rw [hkn]
        cases eκ : κ k with
        | none => rw [eκ] at this; exact this
        | some ki =>
          rw [eκ] at this
          refine this.mono hIn hIkeep (hkeepb _ (hblock k o ki e1 eκ) (fun k' o' ki' f1 f2 f3 => ?_)) (fun k' hk' => hκn_old k' (fun hk'n => by rw [(hfr k' hk'n).2.1 k o e1] at hk'; simp at hk'))
          rw [← hr.inv.inj k' k o' o ki' ki f1 e1 f2 eκ f3] at n2; exact n2
    · intro q1 q2 o1 o2 ki1 ki2 h1 h2 f1 f2 hbb
      rcases hobjn q1 o1 h1 with ⟨c1, oc1, m1, e1, rfl⟩ | ⟨n1, ⟨n1', _⟩, e1⟩ <;> rcases hobjn q2 o2 h2 with ⟨c2, oc2, m2, e2, rfl⟩ | ⟨n2, ⟨n2', _⟩, e2⟩
      · rw [hκn_in c1 q1 m1] at f1; rw [hκn_in c2 q2 m2] at f2
        have := hout.inj c1 c2 oc1 oc2 ki1 ki2 e1 e2 f1 f2 hbb
        subst this
        have a1 := look_of_mem hk3' m1
        have a2 := look_of_mem hk3' m2
        rw [a1] at a2; exact Option.some.inj a2
      · rw [hκn_in c1 q1 m1] at f1; rw [hκn_old q2 (hold q2 o2 e2)] at f2
        rcases hwhere c1 oc1 ki1 e1 f1 with ⟨k, o, ki', g1, g2, g3, g4⟩ | hge
        · have := hr.inv.inj k q2 o o2 ki' ki2 g1 e2 g2 f2 (g3.trans hbb)
          subst this; exact absurd g4 n2'
        · have := hblock q2 o2 ki2 e2 f2; omega
      · rw [hκn_in c2 q2 m2] at f2; rw [hκn_old q1 (hold q1 o1 e1)] at f1
        rcases hwhere c2 oc2 ki2 e2 f2 with ⟨k, o, ki', g1, g2, g3, g4⟩ | hge
        · have := hr.inv.inj k q1 o o1 ki' ki1 g1 e1 g2 f1 (g3.trans hbb.symm)
          subst this; exact absurd g4 n1'
        · have := hblock q1 o1 ki1 e1 f1; omega
      · rw [hκn_old q1 (hold q1 o1 e1)] at f1; rw [hκn_old q2 (hold q2 o2 e2)] at f2
        exact hr.inv.inj q1 q2 o1 o2 ki1 ki2 e1 e2 f1 f2 hbb
    · intro k o ki h f hI
      rcases hobjn k o h with ⟨kc, oc, hm, e1, rfl⟩ | ⟨n1, ⟨n2, n3⟩, e1⟩
      · rw [hκn_in kc k hm] at f
        rcases hI with hI | ⟨_, hI⟩
        · exact hout.disj kc oc ki e1 f (hI'sub _ hI)
        · exact hout.disj kc oc ki e1 f hI
      · rw [hκn_old k (hold k o e1)] at f
        rcases hI with hI | ⟨hcc, hI⟩
        · exact hr.inv.disj k o ki e1 f hI
        · rcases hout.fromI _ hI with h1 | h1 | h1
          · rcases h1 with h1 | ⟨k', es, ki', h2, h3, h4⟩
            · exact hr.inv.disj k o ki e1 f h1
            · obtain ⟨sz, el, e4⟩ := hviewO k' es h2
              have := hr.inv.inj k k' o _ ki ki' e1 e4 f h3 h4.symm
              subst this
              exact n3 hcc (List.mem_map.2 ⟨_, look_mem h2, rfl⟩)
          · obtain ⟨k', o', ki', g1, g2, g3, g4⟩ := hM _ h1
            have := hr.inv.inj k' k o' o ki' ki g1 e1 g2 f g3
            subst this; exact n2 g4
          · have := hblock k o ki e1 f
            have : w.heap.size ≤ ki.b := h1
            omega
    · intro b hI
      rcases hI with hI | ⟨_, hI⟩
      · exact Nat.lt_of_lt_of_le (hr.inv.bound b hI) hout.keep.size
      · exact hout.bound b hI
    · refine hr.inv.keep.trans hout.keep (fun b hb hm => ?_)
      obtain ⟨k, o, ki, e1, e2, rfl, _⟩ := hM b hm
      rcases hr.inv.fromO k o ki e1 e2 with h | h
      · exact h
      · omega
    · intro b hI
      rcases hI with hI | ⟨_, hI⟩
      · exact hr.inv.fromI b hI
      · rcases hout.fromI b hI with h1 | h1 | h1
        · rcases h1 with h1 | ⟨k', es, ki', h2, h3, rfl⟩
          · exact hr.inv.fromI b h1
          · obtain ⟨sz, el, e4⟩ := hviewO k' es h2
            exact .inr (hr.inv.fromO k' _ ki' e4 h3)
        · obtain ⟨k, o, ki, e1, e2, rfl, _⟩ := hM b h1
          exact .inr (hr.inv.fromO k o ki e1 e2)
        · exact .inr (.inr (Nat.le_trans hr.inv.keep.size h1))
    · intro k o ki h f
      rcases hobjn k o h with ⟨kc, oc, hm, e1, rfl⟩ | ⟨n1, ⟨n2, _⟩, e1⟩
      · rw [hκn_in kc k hm] at f
        rcases hwhere kc oc ki e1 f with ⟨k', o', ki', g1, g2, g3, g4⟩ | hge
        · have := hr.inv.fromO k' o' ki' g1 g2
          rwa [g3] at this
        · exact .inr (Nat.le_trans hr.inv.keep.size hge)
      · rw [hκn_old k (hold k o e1)] at f
        exact hr.inv.fromO k o ki e1 f
    · intro k hk
      rw [hκn_old k (fun hkn => by have h1 := (hfr k hkn).2.2.2; have h2 : k < s2.floor := hk; omega)]
      exact hr.inv.fix k hk
  have hslots : ∀ x k, (s2.get x).has k = true → κn k = κ k := fun x k hx => hκn_old k (fun hkn => by rw [(hfr k hkn).1 x] at hx; simp at hx)
  have hinv' : Inv Γ κn In ((mkSp s o (inv.map (·.1) ++ views.map (·.1)) news (pass out [] r0) (outObjs ⟨[], objs0, 0⟩ out inv (views.map (·.1)) (callKeeps inv out r0))).act o.dst s2) w' :=
    hinvn.eqv (fun k o' hk => by rwa [Sp.act, AState.obj_put] at hk) (by cases hd' : o.dst <;> simp [Sp.act, AState.put, AState.objput, hd'])
  cases hdst : o.dst with
  | none => exact ⟨κn, In, hr.size, hr.defers, fun x => (hr.slots x).mono hIn hIkeep (hslots x), hdst ▸ hinv'⟩
  | some d =>
    have hlt := hd d hdst
    refine ⟨κn, In, by simpa [Act.put] using hr.size, hr.defers, fun x => ?_, hdst ▸ hinv'⟩
    show Rep w' In κn (((s2.objput (outObjs ⟨[], objs0, 0⟩ out inv (views.map (·.1)) (callKeeps inv out r0))).put (some d) (pass out [] r0)).get x) _
    rw [AState.get_put]
    by_cases e : d = x
    · subst e
      rw [if_pos rfl]
      have : (a.put (some d) v).tmps.getD d undef = v := by
        have hsz : d < a.tmps.size := by rw [hr.size]; exact hlt
        simp [Act.put, hsz]
      rw [this]; exact hres
    · rw [if_neg e]
      have : (a.put (some d) v).tmps.getD x undef = a.tmps.getD x undef := by simp [Act.put, Array.getD_eq_getD_getElem?, Array.getElem?_setIfInBounds, e]
      rw [this]; exact (hr.slots x).mono hIn hIkeep (hslots x)

end Go.Pv
