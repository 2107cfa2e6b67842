import Derived.Test.YticdbkmekkbiiaaPvAuto2
set_option linter.unusedVariables false
set_option linter.unusedSimpArgs false
namespace Go.Pv

def autoBox (h : Hint) (s : AState) (t : TypeId) (z : AVal) : Option Eff :=
  match h, leaves (valCells z) with
  | .k k, true => some ⟨[], [k], .ptr k 0 0, [(k, some (.box t (valCells z)))], []⟩
  | _, _ => none

def unnumber : Nat → List (Nat × Operand) → Option (List Operand)
  | _, [] => some []
  | m, (i, x) :: r => match Nat.beq i m, unnumber (m + 1) r with
    | true, some l => some (x :: l)
    | _, _ => none
theorem unnumber_eq : ∀ {l : List (Nat × Operand)} {m : Nat} {xs : List Operand}, unnumber m l = some xs → l = numbered m xs := by
  intro l
  induction l with
  | nil => intro m xs h; obtain rfl := Option.some.inj h; rfl
  | cons p l ih =>
    intro m xs h
    obtain ⟨i, x⟩ := p
    simp only [unnumber] at h
    split at h
    · rename_i l' h1 h2
      obtain rfl := Option.some.inj h
      rw [Nat.eq_of_beq_eq_true h1, ih h2]; rfl
    · simp at h

def autoBuildSlice (P : Program) (h : Hint) (s : AState) (t : TypeId) (n : Nat) (parts : Array (Nat × Operand)) : Option Eff :=
  match h, elemP P t, unnumber 0 parts.toList with
  | .k k, some (e, sz), some xs => match bytesP P e, partsIm s xs with
    | some (by_, sz2), some cs => match Nat.beq sz2 sz && Nat.beq n xs.length && allLen sz cs && allLeaves s xs && Nat.ble (n * sz) (2 ^ 24) with
      | true => some ⟨[], [k], .own k, [(k, some (.row sz e cs))], []⟩
      | false => none
    | _, _ => none
  | .app k es', some (e, sz), some xs => match bytesP P e, partsIm s xs with
    | some (by_, sz2), some cs => match Nat.beq sz2 sz && Nat.beq n xs.length && allLen sz cs && allLeaves s xs && Nat.ble (n * sz) (2 ^ 24) with
      | true => some ⟨[], [k], .own k, [(k, some (.row sz e es'))], [es' = cs]⟩
      | false => none
    | _, _ => none
  | _, _, _ => none

theorem autoBuildSlice_ok {P : Program} {h : Hint} {o : Oper} {s : AState} {t : TypeId} {n : Nat} {parts : Array (Nat × Operand)} {e : Eff} (ho : o.op = .buildSlice t n parts) (he : autoBuildSlice P h s t n parts = some e) (hp : AllP e.props) :
    OpOK P o (mkSp s o e.keys e.news e.res e.post) := by
  have hparts : ∀ xs, unnumber 0 parts.toList = some xs → parts = (numbered 0 xs).toArray := by
    intro xs hx; rw [← unnumber_eq hx]
  unfold autoBuildSlice at he
  split at he
  · rename_i k el sz xs hel hxs
    split at he
    · rename_i by_ sz2 cs hby hcs
      split at he
      · rename_i hb
        simp only [Bool.and_eq_true] at hb
        obtain ⟨⟨⟨⟨b1, b2⟩, b3⟩, b4⟩, b5⟩ := hb
        obtain rfl := Nat.eq_of_beq_eq_true b1
        obtain rfl := Option.some.inj he
        exact ok_buildSlice k xs cs ho hel hby (hparts xs hxs) (Nat.eq_of_beq_eq_true b2) hcs b3 b4 b5
      · simp at he
    · simp at he
  · rename_i k es' el sz xs hel hxs
    split at he
    · rename_i by_ sz2 cs hby hcs
      split at he
      · rename_i hb
        simp only [Bool.and_eq_true] at hb
        obtain ⟨⟨⟨⟨b1, b2⟩, b3⟩, b4⟩, b5⟩ := hb
        obtain rfl := Nat.eq_of_beq_eq_true b1
        obtain rfl := Option.some.inj he
        obtain ⟨rfl, _⟩ := hp
        exact ok_buildSlice k xs _ ho hel hby (hparts xs hxs) (Nat.eq_of_beq_eq_true b2) hcs b3 b4 b5
      · simp at he
    · simp at he
  · simp at he

def moveE (h : Hint) (v : AVal) : Eff :=
  match h, v with
  | .b r, .im (.sc (.bool c)) => ⟨[], [], .im (.sc (.bool r)), [], [c = r]⟩
  | _, v => ⟨[], [], v, [], []⟩
theorem moveE_ok {P : Program} {h : Hint} {o : Oper} {s : AState} {x : Operand} (ho : o.op = .move x ∨ o.op = .assign x) (hp : AllP (moveE h (s.eval x)).props) :
    OpOK P o (mkSp s o (moveE h (s.eval x)).keys (moveE h (s.eval x)).news (moveE h (s.eval x)).res (moveE h (s.eval x)).post) := by
  have key := ok_move (P := P) (s := s) ho
  generalize s.eval x = v at *
  unfold moveE at hp ⊢
  split
  · obtain ⟨rfl, _⟩ := hp; exact key
  · exact key

def autoOp1 (P : Program) (h : Hint) (o : Oper) (s : AState) : Option Eff :=
  match o.op with
  | .move x => some (moveE h (s.eval x))
  | .assign x => some (moveE h (s.eval x))
  | .pick c x y => match s.eval c with
    | .im (.sc (.bool b)) => some ⟨[], [], pickA b (s.eval x) (s.eval y), [], []⟩
    | _ => none
  | .binOp op t x y _ => autoBin P h s op t x y
  | .load t x => autoLoad P h s t x
  | .store t x y => autoStore P h s t x y
  | .box t x => autoBox h s t (s.eval x)
  | .alloc t => match zeroA P t with
    | some z => autoBox h s t z
    | none => none
  | .nilCheck x => match isPtr (s.eval x) with
    | true => some ⟨[], [], s.eval x, [], []⟩
    | false => none
  | .extract x i => match s.eval x with
    | .tup l => match l[i]? with
      | some y => some ⟨[], [], y, [], []⟩
      | none => none
    | _ => none
  | .fieldAddr t x f => match fieldP P t f with
    | some (off, _, sz) => match Nat.blt 0 sz with
      | true => match s.eval x with
        | .ptr k e j => some ⟨[], [], .ptr k e (j + off), [], []⟩
        | .ip cells => some ⟨[], [], .ip (cells.drop off), [], []⟩
        | _ => none
      | false => none
    | none => none
  | .field t x f => match fieldP P t f, s.eval x with
    | some (off, ag, sz), .agg cells => match fieldA ag off sz cells with
      | some r => some ⟨[], [], r, [], []⟩
      | none => none
    | _, _ => none
  | .index t x i => match P.underlying t, s.eval x, s.eval i with
    | some .string, .im (.sc (.string str)), .im (.sc (.int _ n)) => some ⟨[], [], .im (.sc (.int .u8 (bt str n))), [], [0 ≤ n, n < (str.size : Int)]⟩
    | _, _, _ => none
  | .indexAddr t x i => autoIndexAddr P h s t x i
  | .slice t x lo hi none => autoSlice P h s t x lo hi
  | .build t parts => match zeroA P t, placesP P t with
    | some (.agg z), some places => match fillA s places z parts.toList with
      | some r => some ⟨[], [], .agg r, [], []⟩
      | none => none
    | _, _ => none
  | .buildSlice t n parts => autoBuildSlice P h s t n parts
  | .unOp .not _ x => match s.eval x with
    | .im (.sc (.bool a)) => some (scal (boolRes h (.bool !a)))
    | _ => none
  | .unOp .neg _ x => match s.eval x with
    | .im (.sc (.int k a)) => some ⟨[], [], .im (.sc (.int k (k.wrap (0 - a)))), [], []⟩
    | _ => none
  | .convert st t x => match P.underlying st, P.underlying t, s.eval x with
    | some _, some (.int k'), .im (.sc (.int _ a)) => some ⟨[], [], .im (.sc (.int k' (k'.wrap a))), [], []⟩
    | _, _, _ => none
  | .call { callee := .builtin .len, args := ⟨[x]⟩, argTypes := ts } => autoLen P h s x ts
  | .call { callee := .builtin .append, args := ⟨[x, y]⟩, argTypes := ts } => autoAppend P h s x y ts
  | .call { callee := .value fo, args := as, argTypes := ts } => match h with
    | .ext ra => autoExtern P s fo as ra
    | _ => autoCall P h s fo as
  | _ => none

theorem autoOp1_ok {P : Program} {h : Hint} {o : Oper} {s : AState} {e : Eff} (he : autoOp1 P h o s = some e) (hp : AllP e.props) : OpOK P o (mkSp s o e.keys e.news e.res e.post) := by
  unfold autoOp1 at he
  split at he
  · rename_i x ho; obtain rfl := Option.some.inj he; exact moveE_ok (.inl ho) hp
  · rename_i x ho; obtain rfl := Option.some.inj he; exact moveE_ok (.inr ho) hp
  · rename_i c x y ho
    split at he
    · rename_i b hc; obtain rfl := Option.some.inj he; exact ok_pick ho hc
    · simp at he
  · rename_i ho; exact autoBin_ok ho he hp
  · rename_i ho; exact autoLoad_ok ho he hp
  · rename_i ho; exact autoStore_ok ho he hp
  · rename_i t x ho
    unfold autoBox at he
    split at he
    · rename_i k hl; obtain rfl := Option.some.inj he; exact ok_box k ho hl
    · simp at he
  · rename_i t ho
    split at he
    · rename_i z hz
      unfold autoBox at he
      split at he
      · rename_i k hl; obtain rfl := Option.some.inj he; exact ok_alloc k ho hz hl
      · simp at he
    · simp at he
  · rename_i x ho
    split at he
    · rename_i hy; obtain rfl := Option.some.inj he; exact ok_nilCheck ho rfl hy
    · simp at he
  · rename_i x i ho
    split at he
    · rename_i l hx
      split at he
      · rename_i y hy; obtain rfl := Option.some.inj he; exact ok_extract ho hx hy
      · simp at he
    · simp at he
  · rename_i t x f ho
    split at he
    · rename_i off ag sz hf
      split at he
      · rename_i hb
        have h0 : 0 < sz := by simpa [Nat.blt_eq] using hb
        split at he
        · rename_i k e' j hx; obtain rfl := Option.some.inj he; exact ok_fieldAddr_ptr ho hx hf h0
        · rename_i cells hx; obtain rfl := Option.some.inj he; exact ok_fieldAddr_ip ho hx hf h0
        · simp at he
      · simp at he
    · simp at he
  · rename_i t x f ho
    split at he
    · rename_i off ag sz cells hf hx
      split at he
      · rename_i r hr; obtain rfl := Option.some.inj he; exact ok_field ho hx hf hr
      · simp at he
    · simp at he
  · rename_i t x i ho
    split at he
    · rename_i ht hx hi; obtain rfl := Option.some.inj he; exact ok_index_string ho ht hx hi hp.1 hp.2.1
    · simp at he
  · rename_i ho; exact autoIndexAddr_ok ho he hp
  · rename_i ho; exact autoSlice_ok ho he hp
  · rename_i t parts ho
    split at he
    · rename_i z places hz hpl
      split at he
      · rename_i r hr; obtain rfl := Option.some.inj he; exact ok_build ho hz hpl hr
      · simp at he
    · simp at he
  · rename_i ho; exact autoBuildSlice_ok ho he hp
  · rename_i t x ho
    split at he
    · rename_i a hx; obtain rfl := Option.some.inj he
      have := ok_not (P := P) ho hx
      simp only [scal] at hp ⊢
      rw [boolRes_eq hp]; exact this
    · simp at he
  · rename_i t x ho
    split at he
    · rename_i k a hx; obtain rfl := Option.some.inj he; exact ok_neg ho hx
    · simp at he
  · rename_i st t x ho
    split at he
    · rename_i hs ht hx; obtain rfl := Option.some.inj he; exact ok_conv ho hs ht hx
    · simp at he
  · rename_i ho; exact autoLen_ok ho he hp
  · rename_i ho; exact autoAppend_ok ho he hp
  · rename_i ho
    split at he
    · exact autoExtern_ok ho he hp
    · exact autoCall_ok ho he hp
  · simp at he

def autoOp (P : Program) (h : Hint) (o : Oper) (s : AState) : Option Eff :=
  match h with
  | .more x => x.f P o s
  | h => autoOp1 P h o s
theorem autoOp_ok {P : Program} {h : Hint} {o : Oper} {s : AState} {e : Eff} (he : autoOp P h o s = some e) (hp : AllP e.props) : OpOK P o (mkSp s o e.keys e.news e.res e.post) := by
  unfold autoOp at he
  split at he
  · rename_i x; exact x.ok _ _ _ _ he hp
  · exact autoOp1_ok he hp

/-! ### A region -/
def goesA (ops : Array Oper) (o : Oper) (s : AState) : Option Bool :=
  match o.guard with
  | none => some true
  | some (j, want) => match (ops[j]?).bind (·.dst) with
    | some d => match s.get d with
      | .im (.sc (.bool b)) => match b, want with
        | true, true => some true
        | false, false => some true
        | true, false => some false
        | false, true => some false
      | .im (.sc (.tuple _)) => some false
      | _ => none
    | none => none
theorem goesA_ok {ops : Array Oper} {o : Oper} {s : AState} {g : Bool} (h : goesA ops o s = some g) : goes ops o s g := by
  unfold goesA at h
  unfold goes
  split at h
  · rename_i e; rw [e]; exact (Option.some.inj h).symm
  · rename_i j want e
    rw [e]
    split at h
    · rename_i d hd
      split at h
      · rename_i b hb
        refine ⟨d, _, hd, hb, ?_⟩
        split at h <;> simp at h <;> subst h <;> rfl
      · rename_i vs hb
        simp at h; subst h
        exact ⟨d, _, hd, hb, rfl⟩
      · simp at h
    · simp at h

def freshB (s : AState) (k : Nat) : Bool :=
  s.slots.all (fun p => !(p.2.has k)) && s.objs.all (fun p => match p.2 with | some o => !(o.has k) | none => true) && (s.obj k).isNone && Nat.ble s.floor k
theorem freshB_ok {s : AState} {k : Nat} (h : freshB s k = true) : s.fresh k := by
  simp only [freshB, Bool.and_eq_true] at h
  obtain ⟨⟨⟨h1, h2⟩, h3⟩, h4⟩ := h
  refine ⟨fun x => ?_, fun k' o ho => ?_, by simpa using h3, Nat.le_of_ble_eq_true h4⟩
  · unfold AState.get
    cases e : look s.slots x with
    | none => rfl
    | some v => have := List.all_eq_true.1 h1 _ (look_mem e); simpa using this
  · unfold AState.obj at ho
    cases e : look s.objs k' with
    | none => rw [e] at ho; simp at ho
    | some v =>
      rw [e] at ho
      have hv : v = some o := ho
      subst hv
      have := List.all_eq_true.1 h2 _ (look_mem e); simpa using this

def dstB (n : Nat) (o : Oper) : Bool := match o.dst with
  | some d => Nat.blt d n
  | none => true

def hintAt (hints : List (Nat × Hint)) (i : Nat) : Hint := (look hints i).getD .none

def runOps (P : Program) (n : Nat) (ops : Array Oper) (hints : List (Nat × Hint)) : List Oper → Nat → AState → Option (List Item × AState × List Prop)
  | [], _, s => some ([], s, [])
  | o :: r, i, s => match dstB n o with
    | false => none
    | true => match goesA ops o s with
      | some false => match runOps P n ops hints r (i + 1) (s.put o.dst (.im (.sc undef))) with
        | some (its, s', ps) => some ((o, .skip) :: its, s', ps)
        | none => none
      | some true => match autoOp P (hintAt hints i) o s with
        | some e => match e.news.all (freshB s) with
          | true => match runOps P n ops hints r (i + 1) ((s.objput e.post).put o.dst e.res) with
            | some (its, s', ps) => some ((o, .run (mkSp s o e.keys e.news e.res e.post)) :: its, s', e.props ++ ps)
            | none => none
          | false => none
        | none => none
      | none => none

theorem AllP_append {l r : List Prop} (h : AllP (l ++ r)) : AllP l ∧ AllP r := by
  induction l with
  | nil => exact ⟨trivial, h⟩
  | cons p l ih => exact ⟨⟨h.1, (ih h.2).1⟩, (ih h.2).2⟩

theorem runOps_ok {P : Program} {n : Nat} {ops : Array Oper} {hints : List (Nat × Hint)} : ∀ {l : List Oper} {i : Nat} {s s' : AState} {its : List Item} {ps : List Prop}, runOps P n ops hints l i s = some (its, s', ps) → AllP ps →
    its.map (·.1) = l ∧ validAll P ops its s ∧ stepAll its s = s' ∧ its.all (fun it => match it.1.dst with | some d => Nat.blt d n | none => true) = true := by
  intro l
  induction l with
  | nil =>
    intro i s s' its ps h _
    simp [runOps] at h
    obtain ⟨rfl, rfl, rfl⟩ := h
    exact ⟨rfl, trivial, rfl, rfl⟩
  | cons o r ih =>
    intro i s s' its ps h hp
    unfold runOps at h
    split at h
    · simp at h
    · rename_i hd
      split at h
      · rename_i hg
        split at h
        · rename_i its' s'' ps' hr
          simp at h
          obtain ⟨rfl, rfl, rfl⟩ := h
          obtain ⟨g1, g2, g3, g4⟩ := ih hr hp
          refine ⟨by simp [g1], ⟨goesA_ok hg, fun k hk => by simp [Item.news] at hk, g2⟩, g3, ?_⟩
          simp only [List.all_cons, Bool.and_eq_true]
          exact ⟨hd, g4⟩
        · simp at h
      · rename_i hg
        split at h
        · rename_i e he
          split at h
          · rename_i hf
            split at h
            · rename_i its' s'' ps' hr
              simp at h
              obtain ⟨rfl, rfl, rfl⟩ := h
              obtain ⟨p1, p2⟩ := AllP_append hp
              obtain ⟨g1, g2, g3, g4⟩ := ih hr p2
              refine ⟨by simp [g1], ⟨⟨goesA_ok hg, mkSp_needs .., autoOp_ok he p1⟩, fun k hk => freshB_ok (List.all_eq_true.1 hf k hk), g2⟩, g3, ?_⟩
              simp only [List.all_cons, Bool.and_eq_true]
              exact ⟨hd, g4⟩
            · simp at h
          · simp at h
        · simp at h
      · simp at h

def restrict (live keeps : List Nat) (s : AState) : AState := ⟨live.map fun i => (i, s.get i), keeps.map fun k => (k, s.obj k), s.floor⟩

theorem look_map {α : Type} (f : Nat → α) : ∀ (l : List Nat) (x : Nat) (v : α), look (l.map fun i => (i, f i)) x = some v → v = f x := by
  intro l x v h
  obtain ⟨i, _, e⟩ := List.mem_map.1 (look_mem h)
  simp at e; rw [← e.1]; exact e.2.symm

theorem restrict_sat {Γ : Ctx} {s : AState} {a : Act} {w : World} (h : Sat Γ s a w) (live keeps : List Nat) : Sat Γ (restrict live keeps s) a w := by
  refine h.weaken (fun x => ?_) (fun k o hk => ?_) rfl
  · simp only [AState.get, restrict]
    cases e : look (live.map fun i => (i, (look s.slots i).getD .top)) x with
    | none => left; rfl
    | some v => right; rw [look_map (fun i => (look s.slots i).getD .top) live x v e]; rfl
  · simp only [AState.obj, restrict] at hk
    cases e : look (keeps.map fun k => (k, (look s.objs k).getD none)) k with
    | none => rw [e] at hk; simp at hk
    | some v => rw [e] at hk; have := look_map (fun i => (look s.objs i).getD none) keeps k v e; subst this; exact hk

def newsAll (its : List Item) (s : AState) : Bool := its.all fun it => it.news.all (freshB s)

def regionRun (P : Program) (n : Nat) (draw : Bool) (ops : List Oper) (hints : List (Nat × Hint)) (live keeps : List Nat) (s : AState) : Option (AState × List Prop) :=
  match runOps P n ops.toArray hints ops 0 s with
  | some (its, s', ps) => match draw with
    | false => some (restrict live keeps s', ps)
    | true => match okFrom ops.toArray (masks ops []) [] its && newsAll its s with
      | true => some (restrict live keeps s', ps)
      | false => none
  | none => none

theorem AWp.weaken {Γ : Ctx} {c : Code} {Q : Exit → AState → Prop} {s s' : AState} (h : AWp Γ c Q s') (hs : ∀ a w, Sat Γ s a w → Sat Γ s' a w) : AWp Γ c Q s := fun a w h' => h a w (hs a w h')

theorem AWp.region {Γ : Ctx} {id : Nat} {draw : Bool} {Q : Exit → AState → Prop} {s : AState} {ops : List Oper} (hints : List (Nat × Hint)) (live keeps : List Nat) (s' : AState) (ps : List Prop)
    (hm : Γ.P.follows .mixedOrders = true) (h : regionRun Γ.P Γ.n draw ops hints live keeps s = some (s', ps)) (hp : AllP ps) (hq : Q .normal s') : AWp Γ (.region id ops.toArray draw) Q s := by
  unfold regionRun at h
  split at h
  · rename_i its s2 ps2 hr
    have key : ∀ ps', AllP ps' → ps' = ps2 → its.map (·.1) = ops ∧ validAll Γ.P ops.toArray its s ∧ stepAll its s = s2 ∧ its.all (fun it => match it.1.dst with | some d => Nat.blt d Γ.n | none => true) = true :=
      fun ps' hp' e => runOps_ok hr (e ▸ hp')
    have fin : s' = restrict live keeps s2 → ps = ps2 → (draw = true → okFrom ops.toArray (masks ops []) [] its = true ∧ newsAll its s = true) → AWp Γ (.region id ops.toArray draw) Q s := by
      intro e1 e2 hdraw
      obtain ⟨g1, g2, g3, g4⟩ := key ps hp e2
      have hq' : ∀ a w, Sat Γ s2 a w → ∃ s3, Sat Γ s3 a w ∧ Q .normal s3 := fun a w h => ⟨s', e1 ▸ restrict_sat h live keeps, hq⟩
      subst g1
      cases draw with
      | false =>
        intro a w hs
        exact Code.wp_mono (fun e a w ⟨s3, h1, h2⟩ => by
          cases e with
          | normal => simp only at h2; subst h2; exact hq' a w (g3 ▸ h1)
          | _ => exact h2.elim) (region_plain (Q := fun e s3 => match e with | .normal => s3 = stepAll its s | _ => False) its g4 g2 rfl a w hs)
      | true =>
        obtain ⟨d1, d2⟩ := hdraw rfl
        have hf : ∀ it ∈ its, ∀ k ∈ it.news, s.fresh k := fun it hit k hk => freshB_ok (List.all_eq_true.1 (List.all_eq_true.1 d2 it hit) k hk)
        intro a w hs
        exact Code.wp_mono (fun e a w ⟨s3, h1, h2⟩ => by
          cases e with
          | normal => simp only at h2; subst h2; exact hq' a w (g3 ▸ h1)
          | _ => exact h2.elim) (region_draw (Q := fun e s3 => match e with | .normal => s3 = stepAll its s | _ => False) hm its g4 d1 g2 hf rfl a w hs)
    split at h
    · simp at h; exact fin h.1.symm h.2.symm (fun e => by simp at e)
    · split at h
      · rename_i hb
        simp only [Bool.and_eq_true] at hb
        simp at h; exact fin h.1.symm h.2.symm (fun _ => hb)
      · simp at h
  · simp at h

end Go.Pv
