import Derived.Test.YticdbkmekkbiiaaPvConv
set_option linter.unusedVariables false
set_option linter.unusedSimpArgs false
/-! What the written texts use. -/
namespace Go.Pv

/-- A check: nothing where it fails. -/
def chk (p : Prop) [Decidable p] : Option Unit := if p then some () else none
/-- An element. -/
def at? {α : Type} (xs : List α) (i : Int) : Option α := if 0 ≤ i then xs[i.toNat]? else none
/-- A function's end, or what follows a part of it. -/
inductive Flow (ρ σ : Type) where
  | ret (r : ρ)
  | out (s : σ)

theorem chk_of {p : Prop} [Decidable p] {α : Type} {f : Unit → Option α} {r : α} (h : (chk p >>= f) = some r) : p ∧ f () = some r := by
  unfold chk at h
  split at h
  · rename_i hp; exact ⟨hp, h⟩
  · simp at h
theorem at_of {α β : Type} {xs : List α} {i : Int} {f : α → Option β} {r : β} (h : (at? xs i >>= f) = some r) : ∃ b, 0 ≤ i ∧ xs[i.toNat]? = some b ∧ f b = some r := by
  unfold at? at h
  split at h
  · rename_i h0
    cases e : xs[i.toNat]? with
    | none => rw [e] at h; simp at h
    | some b => rw [e] at h; exact ⟨b, h0, rfl, h⟩
  · simp at h
theorem bind_of {α β : Type} {x : Option α} {f : α → Option β} {r : β} (h : (x >>= f) = some r) : ∃ b, x = some b ∧ f b = some r := by
  cases x with
  | none => simp at h
  | some b => exact ⟨b, rfl, h⟩
theorem ifT {α : Type} {b : Bool} {x y : α} (h : b = true) : (if b = true then x else y) = x := if_pos h
theorem ifF {α : Type} {b : Bool} {x y : α} (h : b = false) : (if b = true then x else y) = y := if_neg (by rw [h]; exact Bool.false_ne_true)
theorem el_map {α : Type} {xs : List α} {i : Nat} {b : α} (f : α → List Im) (h : xs[i]? = some b) : (xs.map f)[i]? = some (f b) := by rw [List.getElem?_map, h]; rfl
theorem el_lt {α : Type} {xs : List α} {i : Int} {b : α} (f : α → List Im) (h0 : 0 ≤ i) (h : xs[i.toNat]? = some b) : i < (((xs.map f).length : Nat) : Int) := by
  obtain ⟨h1, _⟩ := List.getElem?_eq_some_iff.1 h
  simp only [List.length_map]; omega
theorem len_map {α : Type} (xs : List α) (f : α → List Im) : (xs.map f).length = xs.length := List.length_map ..
theorem all_len {α : Type} (xs : List α) (f : α → List Im) (n : Nat) (h : ∀ x, (f x).length = n) : ∀ c ∈ xs.map f, c.length = n := by
  intro c hc; obtain ⟨x, _, rfl⟩ := List.mem_map.1 hc; exact h x
theorem all_leaf {α : Type} (xs : List α) (f : α → List Im) (h : ∀ x, leaves ((f x).map .im) = true) : ∀ c ∈ xs.map f, leaves (c.map .im) = true := by
  intro c hc; obtain ⟨x, _, rfl⟩ := List.mem_map.1 hc; exact h x
theorem app1 {α : Type} (xs : List α) (y : α) (f : α → List Im) : (xs ++ [y]).map f = xs.map f ++ [f y] := by simp
theorem app2 {α : Type} (xs ys : List α) (f : α → List Im) : (xs ++ ys).map f = xs.map f ++ ys.map f := by simp
theorem set1 {α : Type} (xs : List α) (i : Nat) (y : α) (f : α → List Im) : (xs.set i y).map f = (xs.map f).set i (f y) := by rw [List.map_set]
theorem cut1 {α : Type} (xs : List α) (l n : Nat) (f : α → List Im) : ((xs.drop l).take n).map f = ((xs.map f).drop l).take n := by rw [List.map_take, List.map_drop]

abbrev iV (k : IntKind) (n : Int) : AVal := .im (.sc (.int k n))
abbrev bV (b : Bool) : AVal := .im (.sc (.bool b))
abbrev sV (s : ByteArray) : AVal := .im (.sc (.string s))
abbrev iI (k : IntKind) (n : Int) : Im := .sc (.int k n)
abbrev bI (b : Bool) : Im := .sc (.bool b)
abbrev sI (s : ByteArray) : Im := .sc (.string s)

theorem reg {P : Program} {n : Nat} {Γ : Ctx} (hP : Γ.P = P) (hn : Γ.n = n) (hm : P.follows .mixedOrders = true) {id : Nat} {draw : Bool} {Q : Exit → AState → Prop} {s : AState} {ops : List Oper} (hints : List (Nat × Hint)) (live keeps : List Nat) (s' : AState) (ps : List Prop)
    (h : regionRun P n draw ops hints live keeps s = some (s', ps)) (hp : AllP ps) (hq : Q .normal s') : AWp Γ (.region id ops.toArray draw) Q s := by
  subst hP; subst hn; exact AWp.region hints live keeps s' ps hm h hp hq

theorem LWp.conv {Γ : Ctx} {c : Code} {Q : Exit → AState → Prop} {s t : AState} (inv : List (Nat × Nat)) (vk e0 : List Nat) (h : convS s inv vk e0 t = some t) (k : LWp Γ c Q t) : LWp Γ c Q s :=
  fun a w hs => k a w (hs.conv inv vk e0 h)

theorem LWp.mono {Γ : Ctx} {c : Code} {Q Q' : Exit → AState → Prop} {s : AState} (h : LWp Γ c Q s) (hq : ∀ e s, Q e s → Q' e s) : LWp Γ c Q' s :=
  fun a w hs b k cs => let ⟨e, a', w', ⟨s', h1, h2⟩, h3⟩ := h a w hs b k cs; ⟨e, a', w', ⟨s', h1, hq _ _ h2⟩, h3⟩


/-- One state says no less than another one. -/
def Cv (Γ : Ctx) (s t : AState) : Prop := ∀ a w, Sat Γ s a w → Sat Γ t a w

theorem AWp.cv {Γ : Ctx} {c : Code} {Q : Exit → AState → Prop} {s : AState} (h : AWp Γ c (fun e s' => ∃ t, Cv Γ s' t ∧ Q e t) s) : AWp Γ c Q s :=
  fun a w hs => Code.wp_mono (fun e a w ⟨s', h1, t, h2, h3⟩ => ⟨t, h2 a w h1, h3⟩) (h a w hs)
theorem LWp.cv {Γ : Ctx} {c : Code} {Q : Exit → AState → Prop} {s : AState} (h : LWp Γ c (fun e s' => ∃ t, Cv Γ s' t ∧ Q e t) s) : LWp Γ c Q s :=
  fun a w hs b k cs => let ⟨e, a', w', ⟨s', h1, t, h2, h3⟩, h4⟩ := h a w hs b k cs; ⟨e, a', w', ⟨t, h2 a' w' h1, h3⟩, h4⟩


/-- A function's end with such a result. -/
def RetIs (P : Program) (fn : Func) (floor : Nat) (x : AVal) (e : Exit) (s : AState) : Prop := (e = .ret ∨ e = .normal) ∧ s.floor = floor ∧ resOf P fn s = some x

/-- A function's end: its result, and what is handed back. -/
def RetK (P : Program) (fn : Func) (floor : Nat) (keys : List Nat) (x : AVal) (o : List (Nat × Option MObj)) (e : Exit) (s : AState) : Prop :=
  (e = .ret ∨ e = .normal) ∧ s.floor = floor ∧ resOf P fn s = some x ∧ (keys.map fun k => (k, s.obj k)) = o

theorem look_keys (s : AState) : ∀ (keys : List Nat) (k : Nat) (o : MObj), (look (keys.map fun k => (k, s.obj k)) k).getD none = some o → s.obj k = some o := by
  intro keys
  induction keys with
  | nil => intro k o h; simp [look] at h
  | cons q r ih =>
    intro k o h
    rw [List.map_cons, look_cons] at h
    split at h
    · rename_i e; subst e; exact h
    · exact ih k o h

theorem Fn.bodyK {P : Program} {f : FuncId} {fn : Func} {c : Code} {args : List AVal} {objs : List (Nat × Option MObj)} {floor : Nat} {x : AVal} {o : List (Nat × Option MObj)} (keys : List Nat)
    (hf : P.funcs[f]? = some fn) (hb : fn.body = some c) (hn : Nat.ble args.length fn.ntmps = true)
    (h : ∀ Γ : Ctx, Γ.P = P → Γ.n = fn.ntmps → AWp Γ c (fun e s' => ∃ t, Cv Γ s' t ∧ RetK P fn floor keys x o e t) ⟨argSlots args 0, objs, floor⟩) : Fn P f args objs floor (fun r o' => r = x ∧ o' = o) := by
  have h1 : Fn P f args objs floor (fun r o' => r = x ∧ (keys.map fun k => (k, (⟨[], o', floor⟩ : AState).obj k)) = o) := Fn.body hf hb hn (fun Γ hP hΓ => ((h Γ hP hΓ).cv).mono fun e s ⟨he, hfl, hr, ho⟩ => ⟨he, hfl, x, hr, rfl, ho⟩)
  intro κ I w vs hl hreps hinv
  refine (h1 κ I w vs hl hreps hinv).mono fun e w' ⟨v, r, o', κ', I', e1, ⟨e2, e5⟩, e3, e4⟩ => ⟨v, r, o, κ', I', e1, ⟨e2, rfl⟩, e3, e4.eqv (fun k q hk => ?_) rfl⟩
  subst e5
  exact look_keys ⟨[], o', floor⟩ keys k q hk

/-- A function that hands over nothing but its result. -/
theorem Fn.body0 {P : Program} {f : FuncId} {fn : Func} {c : Code} {args : List AVal} {objs : List (Nat × Option MObj)} {floor : Nat} {x : AVal}
    (hf : P.funcs[f]? = some fn) (hb : fn.body = some c) (hn : Nat.ble args.length fn.ntmps = true)
    (h : ∀ Γ : Ctx, Γ.P = P → Γ.n = fn.ntmps → AWp Γ c (RetIs P fn floor x) ⟨argSlots args 0, objs, floor⟩) : Fn P f args objs floor (fun r o => r = x ∧ o = []) := by
  have h1 : Fn P f args objs floor (fun r _ => r = x) := Fn.body hf hb hn (fun Γ hP hΓ => (h Γ hP hΓ).mono fun e s ⟨he, hfl, hr⟩ => ⟨he, hfl, x, hr, rfl⟩)
  intro κ I w vs hl hreps hinv
  refine (h1 κ I w vs hl hreps hinv).mono fun e w' ⟨v, r, o, κ', I', e1, e2, e3, e4⟩ => ⟨v, r, [], κ', I', e1, ⟨e2, rfl⟩, e3, e4.eqv (fun k o' hk => by simp [AState.obj, look] at hk) rfl⟩

abbrev encInt (k : IntKind) (n : Int) : List Im := [.sc (.int k n)]
abbrev encBool (b : Bool) : List Im := [.sc (.bool b)]
abbrev encStr (s : ByteArray) : List Im := [.sc (.string s)]
abbrev encRow {α : Type} (f : α → List Im) (xs : List α) : List Im := [.row (xs.map f)]


theorem withBody {Γ : Ctx} {c : Code} {Q : Exit → AState → Prop} {s : AState} (h : ∀ c', c' = c → LWp Γ c' Q s) : LWp Γ c Q s := h c rfl

abbrev U64 (n : Int) : Prop := 0 ≤ n ∧ n < 18446744073709551616
abbrev I64 (n : Int) : Prop := -9223372036854775808 ≤ n ∧ n < 9223372036854775808
abbrev Rng (lo hi n : Int) : Prop := lo ≤ n ∧ n < hi

end Go.Pv
