import Derived.Below
import Derived.KernelRfl
import Derived.Orders
import Derived.Tactics
set_option linter.unusedVariables false
set_option linter.unusedSimpArgs false
namespace Go.Pv
inductive Im where
  | sc (v : Value)
  | row (es : List (List Im))
structure KI where
  b : Nat
  cap : Nat
  sz : Nat
  len : Nat
inductive AVal where
  | top
  | im (x : Im)
  | none0
  | own (k : Nat)
  | mown (k : Nat)
  | cut (k lo n : Nat)
  | sub (k lo n : Nat)
  | ptr (k e j : Nat)
  | ip (cells : List Im)
  | agg (cells : List AVal)
  | tup (vs : List AVal)
  | fn (g : Nat) (caps : List AVal)
  | gl (g : Nat)
inductive MObj where
  | row (sz el : Nat) (es : List (List Im))
  | box (el : Nat) (cells : List AVal)
  | map (es : List (Value × Im))
  | iter (m : Option Nat) (n : Nat) (sn : List Nat)
  | arow (sz el : Nat) (es : List (List Im)) (fs : List (List AVal))
  | amap (ks : List Value) (xs : List AVal)
  | dmap (es : List (Value × List Im))
  | gmap (ks : List Value) (xs : List AVal) (bs : List Nat) (c : Nat)
  | niter
inductive IRep (w : World) (I : Nat → Prop) : Im → Value → Prop
  | sc (v : Value) : IRep w I (.sc v) v
  | row0 (base : Option Addr) (cap : Nat) : IRep w I (.row []) (.slice base 0 cap)
  | row {sz : Nat} {es : List (List Im)} {b off n cap : Nat} (u : Nat → Nat → Value) (hn : n = es.length) (hI : I b) (hl : n ≤ cap)
      (hs : ∀ i (h : i < es.length), (es[i]).length = sz)
      (hc : ∀ i j, i < es.length → j < sz → w.cell? ⟨b, off + (i * sz + j), none⟩ = some (u i j))
      (hr : ∀ i (h : i < es.length) j (h' : j < (es[i]).length), IRep w I ((es[i])[j]) (u i j)) :
      IRep w I (.row es) (.slice (some ⟨b, off, none⟩) n cap)
theorem cell_heap {w w' : World} {b off : Nat} (h : w'.heap[b]? = w.heap[b]?) : w'.cell? ⟨b, off, none⟩ = w.cell? ⟨b, off, none⟩ := by
  unfold World.cell?; simp only [h]
theorem IRep.mono {w w' : World} {I I' : Nat → Prop} {x : Im} {v : Value} (h : IRep w I x v) (hI : ∀ b, I b → I' b)
    (hw : ∀ b, I b → w'.heap[b]? = w.heap[b]?) : IRep w' I' x v := by
  induction h with
  | sc v => exact .sc v
  | row0 base cap => exact .row0 base cap
  | row u hn hb hl hs hc hr ih => exact .row u hn (hI _ hb) hl hs (fun i j hi hj => (cell_heap (hw _ hb)).trans (hc i j hi hj)) ih
mutual
def AVal.has (k : Nat) : AVal → Bool
  | .own k' => Nat.beq k' k
  | .mown k' => Nat.beq k' k
  | .cut k' _ _ => Nat.beq k' k
  | .sub k' _ _ => Nat.beq k' k
  | .ptr k' _ _ => Nat.beq k' k
  | .agg l => hasL k l
  | .tup l => hasL k l
  | .fn _ l => hasL k l
  | _ => false
def hasL (k : Nat) : List AVal → Bool
  | [] => false
  | x :: r => x.has k || hasL k r
end
theorem hasL_get {k : Nat} : ∀ {l : List AVal}, hasL k l = false → ∀ j (h : j < l.length), (l[j]).has k = false
  | [], _, j, h => by simp at h
  | x :: r, he, j, h => by
    simp only [hasL, Bool.or_eq_false_iff] at he
    cases j with
    | zero => exact he.1
    | succ j => exact hasL_get he.2 j (by simpa using h)
def hasLL (k : Nat) : List (List AVal) → Bool
  | [] => false
  | g :: r => hasL k g || hasLL k r
theorem hasLL_get {k : Nat} : ∀ {l : List (List AVal)}, hasLL k l = false → ∀ j (h : j < l.length), hasL k (l[j]) = false
  | [], _, j, h => by simp at h
  | x :: r, he, j, h => by
    simp only [hasLL, Bool.or_eq_false_iff] at he
    cases j with
    | zero => exact he.1
    | succ j => exact hasLL_get he.2 j (by simpa using h)
def MObj.has (k : Nat) : MObj → Bool
  | .row .. => false
  | .box _ cells => hasL k cells
  | .map _ => false
  | .iter (some m) _ _ => Nat.beq m k
  | .iter none _ _ => false
  | .arow _ _ _ fs => hasLL k fs
  | .amap _ xs => hasL k xs
  | .dmap _ => false
  | .gmap _ xs _ _ => hasL k xs
  | .niter => false
inductive Rep (w : World) (I : Nat → Prop) (κ : Nat → Option KI) : AVal → Value → Prop
  | top (v : Value) : Rep w I κ .top v
  | im {x : Im} {v : Value} : IRep w I x v → Rep w I κ (.im x) v
  | none0 (base : Option Addr) : Rep w I κ .none0 (.slice base 0 0)
  | own0 {k : Nat} (base : Option Addr) : κ k = none → Rep w I κ (.own k) (.slice base 0 0)
  | own {k : Nat} {ki : KI} : κ k = some ki → Rep w I κ (.own k) (.slice (some ⟨ki.b, 0, none⟩) ki.len ki.cap)
  | mown {k : Nat} {ki : KI} : κ k = some ki → Rep w I κ (.mown k) (.map (some ki.b))
  | cut0 {k : Nat} (base : Option Addr) : κ k = none → Rep w I κ (.cut k 0 0) (.slice base 0 0)
  | cut {k lo n off : Nat} {ki : KI} : κ k = some ki → (off = lo * ki.sz ∨ lo = ki.cap) → lo + n ≤ ki.cap → Rep w I κ (.cut k lo n) (.slice (some ⟨ki.b, off, none⟩) n (ki.cap - lo))
  | sub0 {k : Nat} (base : Option Addr) : κ k = none → Rep w I κ (.sub k 0 0) (.slice base 0 0)
  | sub {k lo n off : Nat} {ki : KI} : κ k = some ki → (off = lo * ki.sz ∨ lo = ki.cap) → lo + n ≤ ki.len → ki.len ≤ ki.cap → Rep w I κ (.sub k lo n) (.slice (some ⟨ki.b, off, none⟩) n (ki.cap - lo))
  | ptr {k e j : Nat} {ki : KI} : κ k = some ki → Rep w I κ (.ptr k e j) (.pointer (some ⟨ki.b, e * ki.sz + j, none⟩))
  | ip {cells : List Im} {b off : Nat} (u : Nat → Value) (hI : I b) (hc : ∀ j, j < cells.length → w.cell? ⟨b, off + j, none⟩ = some (u j))
      (hr : ∀ j (h : j < cells.length), IRep w I (cells[j]) (u j)) : Rep w I κ (.ip cells) (.pointer (some ⟨b, off, none⟩))
  | agg {cells : List AVal} {vs : List Value} (hl : vs.length = cells.length)
      (hr : ∀ j (h : j < cells.length) (h' : j < vs.length), Rep w I κ (cells[j]) (vs[j])) : Rep w I κ (.agg cells) (.agg vs.toArray)
  | tup {cells : List AVal} {vs : List Value} (hl : vs.length = cells.length)
      (hr : ∀ j (h : j < cells.length) (h' : j < vs.length), Rep w I κ (cells[j]) (vs[j])) : Rep w I κ (.tup cells) (.tuple vs.toArray)
  | fn {g : Nat} {caps : List AVal} {vs : List Value} (hl : vs.length = caps.length)
      (hr : ∀ j (h : j < caps.length) (h' : j < vs.length), Rep w I κ (caps[j]) (vs[j])) : Rep w I κ (.fn g caps) (.func (.func g) #[] vs.toArray)
  | gl (g : Nat) : Rep w I κ (.gl g) (.pointer (some ⟨g, 0, none⟩))
theorem Rep.mono {w w' : World} {I I' : Nat → Prop} {κ κ' : Nat → Option KI} {x : AVal} {v : Value} (h : Rep w I κ x v)
    (hI : ∀ b, I b → I' b) (hw : ∀ b, I b → w'.heap[b]? = w.heap[b]?) (hk : ∀ k, x.has k = true → κ' k = κ k) : Rep w' I' κ' x v := by
  induction h with
  | top v => exact .top v
  | im h => exact .im (h.mono hI hw)
  | none0 base => exact .none0 base
  | own0 base e => exact .own0 base ((hk _ (by simp [AVal.has])).trans e)
  | own e => exact .own ((hk _ (by simp [AVal.has])).trans e)
  | mown e => exact .mown ((hk _ (by simp [AVal.has])).trans e)
  | cut0 base e => exact .cut0 base ((hk _ (by simp [AVal.has])).trans e)
  | cut e h1 h2 => exact .cut ((hk _ (by simp [AVal.has])).trans e) h1 h2
  | sub0 base e => exact .sub0 base ((hk _ (by simp [AVal.has])).trans e)
  | sub e h1 h2 h3 => exact .sub ((hk _ (by simp [AVal.has])).trans e) h1 h2 h3
  | ptr e => exact .ptr ((hk _ (by simp [AVal.has])).trans e)
  | gl g => exact .gl g
  | ip u hb hc hr => exact .ip u (hI _ hb) (fun j hj => (cell_heap (hw _ hb)).trans (hc j hj)) (fun j h => (hr j h).mono hI hw)
  | @agg cells vs hl hr ih => exact .agg hl (fun j h h' => ih j h h' (fun k hkk => hk k (by
      cases e : (AVal.agg cells).has k with
      | true => rfl
      | false => rw [hasL_get (by simpa [AVal.has] using e) j h] at hkk; cases hkk)))
  | @tup cells vs hl hr ih => exact .tup hl (fun j h h' => ih j h h' (fun k hkk => hk k (by
      cases e : (AVal.tup cells).has k with
      | true => rfl
      | false => rw [hasL_get (by simpa [AVal.has] using e) j h] at hkk; cases hkk)))
  | @fn g cells vs hl hr ih => exact .fn hl (fun j h h' => ih j h h' (fun k hkk => hk k (by
      cases e : (AVal.fn g cells).has k with
      | true => rfl
      | false => rw [hasL_get (by simpa [AVal.has] using e) j h] at hkk; cases hkk)))
def imL (es : List (List Im)) : List (List AVal) := es.map fun c => c.map .im
def ARow (w : World) (I : Nat → Prop) (κ : Nat → Option KI) (ki : KI) (sz el : Nat) (gs : List (List AVal)) : Prop :=
  ki.sz = sz ∧ ki.len = gs.length ∧ gs.length ≤ ki.cap ∧ ∃ arr, w.heap[ki.b]? = some (.cells arr el (0, 0)) ∧ arr.size = ki.cap * sz ∧
    ∀ i (h : i < gs.length), (gs[i]).length = sz ∧ ∀ j (h' : j < (gs[i]).length), ∃ v, arr[i * sz + j]? = some v ∧ Rep w I κ ((gs[i])[j]) v
theorem ARow.imp {w w' : World} {I I' : Nat → Prop} {κ κ' : Nat → Option KI} {ki : KI} {sz el : Nat} {gs gs' : List (List AVal)} (h : ARow w I κ ki sz el gs) (hl : gs'.length = gs.length)
    (hr : ∀ i (h : i < gs.length) (h' : i < gs'.length), (gs'[i]).length = (gs[i]).length ∧ ∀ j (g : j < (gs[i]).length) (g' : j < (gs'[i]).length) v, Rep w I κ ((gs[i])[j]) v → Rep w' I' κ' ((gs'[i])[j]) v)
    (hb : w'.heap[ki.b]? = w.heap[ki.b]?) : ARow w' I' κ' ki sz el gs' := by
  obtain ⟨h1, h2, h3, arr, h4, h5, h6⟩ := h
  refine ⟨h1, h2.trans hl.symm, hl ▸ h3, arr, hb.trans h4, h5, fun i hi => ?_⟩
  obtain ⟨e1, e2⟩ := hr i (hl ▸ hi) hi
  obtain ⟨f1, f2⟩ := h6 i (hl ▸ hi)
  refine ⟨e1.trans f1, fun j hj => ?_⟩
  obtain ⟨v, g1, g2⟩ := f2 j (e1 ▸ hj)
  exact ⟨v, g1, e2 j (e1 ▸ hj) hj v g2⟩
theorem imL_length (es : List (List Im)) : (imL es).length = es.length := List.length_map ..
theorem imL_get (es : List (List Im)) (i : Nat) (h : i < (imL es).length) : (imL es)[i] = (es[i]'(by rw [imL_length] at h; exact h)).map .im := by simp [imL]
theorem imL_has (k : Nat) (es : List (List Im)) : hasLL k (imL es) = false := by
  have h1 : ∀ c : List Im, hasL k (c.map .im) = false := fun c => by induction c with | nil => rfl | cons x r ih => simp [hasL, AVal.has, ih]
  induction es with
  | nil => rfl
  | cons c r ih => show (hasL k (c.map .im) || hasLL k (imL r)) = false; rw [h1, ih]; rfl
theorem hasLL_append (k : Nat) (a b : List (List AVal)) : hasLL k (a ++ b) = (hasLL k a || hasLL k b) := by
  induction a with
  | nil => simp [hasLL]
  | cons c r ih => simp [hasLL, ih, Bool.or_assoc]
def ORep (w : World) (I : Nat → Prop) (κ : Nat → Option KI) (ki : KI) : MObj → Prop
  | .row sz el es => ki.sz = sz ∧ ki.len = es.length ∧ es.length ≤ ki.cap ∧ ∃ arr, w.heap[ki.b]? = some (.cells arr el (0, 0)) ∧ arr.size = ki.cap * sz ∧
      ∀ i (h : i < es.length), (es[i]).length = sz ∧ ∀ j (h' : j < (es[i]).length), ∃ v, arr[i * sz + j]? = some v ∧ IRep w I ((es[i])[j]) v
  | .box el cells => ki.cap = 1 ∧ ki.sz = cells.length ∧ ∃ arr : Array Value, w.heap[ki.b]? = some (.cells arr el (0, 0)) ∧ arr.size = cells.length ∧
      ∀ j (h : j < cells.length), ∃ v, arr[j]? = some v ∧ Rep w I κ (cells[j]) v
  | .map es => ∃ arr : Array MapEntry, w.heap[ki.b]? = some (.map arr es.length) ∧ arr.size = es.length ∧
      ∀ i (h : i < es.length), ∃ e, arr[i]? = some e ∧ e.born = i ∧ e.key = (es[i]).1 ∧ IRep w I (es[i]).2 e.val
  | .iter m n sn => ∃ bm, w.heap[ki.b]? = some (.mapIter (some bm) n sn.toArray n) ∧ ∀ m', m = some m' → ∃ km, κ m' = some km ∧ km.b = bm
  | .arow sz el es fs => ARow w I κ ki sz el (imL es ++ fs)
  | .amap ks xs => xs.length = ks.length ∧ ∃ arr : Array MapEntry, w.heap[ki.b]? = some (.map arr ks.length) ∧ arr.size = ks.length ∧
      ∀ i (h : i < ks.length), ∃ e, arr[i]? = some e ∧ e.born = i ∧ e.key = ks[i] ∧ ∀ (h' : i < xs.length), Rep w I κ (xs[i]) e.val
  | .dmap es => ∃ arr : Array MapEntry, w.heap[ki.b]? = some (.map arr es.length) ∧ arr.size = es.length ∧
      ∀ i (h : i < es.length), ∃ e, arr[i]? = some e ∧ e.born = i ∧ e.key = (es[i]).1 ∧ Rep w I (fun _ => none) (.agg ((es[i]).2.map .im)) e.val
  | .niter => w.heap[ki.b]? = some (.mapIter none 0 #[] 0)
  | .gmap ks xs bs c => xs.length = ks.length ∧ bs.length = ks.length ∧ bs.Nodup ∧ (∀ b ∈ bs, b < c) ∧ ks.Nodup ∧ ∃ arr : Array MapEntry, w.heap[ki.b]? = some (.map arr c) ∧ arr.size = ks.length ∧
      ∀ i (h : i < ks.length), ∃ e, arr[i]? = some e ∧ (∀ (h' : i < bs.length), e.born = bs[i]) ∧ e.key = ks[i] ∧ ∀ (h' : i < xs.length), Rep w I κ (xs[i]) e.val
def OAt (w : World) (I : Nat → Prop) (κ : Nat → Option KI) (k : Nat) (o : MObj) : Prop :=
  match κ k with
  | none => ∃ sz el, o = .row sz el []
  | some ki => ORep w I κ ki o
theorem ORep.mono {w w' : World} {I I' : Nat → Prop} {κ κ' : Nat → Option KI} {ki : KI} {o : MObj} (h : ORep w I κ ki o)
    (hI : ∀ b, I b → I' b) (hw : ∀ b, I b → w'.heap[b]? = w.heap[b]?) (hb : w'.heap[ki.b]? = w.heap[ki.b]?) (hk : ∀ k, o.has k = true → κ' k = κ k) :
    ORep w' I' κ' ki o := by
  cases o with
  | row sz el es =>
    obtain ⟨h1, h0, h2, arr, h3, h4, h5⟩ := h
    exact ⟨h1, h0, h2, arr, hb.trans h3, h4, fun i hi => ⟨(h5 i hi).1, fun j hj => let ⟨v, e, r⟩ := (h5 i hi).2 j hj; ⟨v, e, r.mono hI hw⟩⟩⟩
  | box el cells =>
    obtain ⟨h1, h2, arr, h3, h4, h5⟩ := h
    refine ⟨h1, h2, arr, hb.trans h3, h4, fun j hj => let ⟨v, e, r⟩ := h5 j hj; ⟨v, e, r.mono hI hw (fun k hkk => hk k ?_)⟩⟩
    cases e : (MObj.box el cells).has k with
    | true => rfl
    | false => rw [hasL_get (by simpa [MObj.has] using e) j hj] at hkk; cases hkk
  | map es =>
    obtain ⟨arr, h1, h2, h3⟩ := h
    exact ⟨arr, hb.trans h1, h2, fun i hi => let ⟨e, g1, g2, g3, g4⟩ := h3 i hi; ⟨e, g1, g2, g3, g4.mono hI hw⟩⟩
  | iter m n sn =>
    obtain ⟨bm, h1, h2⟩ := h
    exact ⟨bm, hb.trans h1, fun m' e => let ⟨km, g1, g2⟩ := h2 m' e; ⟨km, (hk m' (by subst e; simp [MObj.has])).trans g1, g2⟩⟩
  | arow sz el es fs =>
    refine ARow.imp (gs := imL es ++ fs) h rfl (fun i hi _ => ⟨rfl, fun j hj _ v r => r.mono hI hw (fun k hkk => hk k ?_)⟩) hb
    cases e : (MObj.arow sz el es fs).has k with
    | true => rfl
    | false =>
      have e' : hasLL k (imL es ++ fs) = false := by rw [hasLL_append, imL_has, Bool.false_or]; exact e
      rw [hasL_get (hasLL_get e' i hi) j hj] at hkk; cases hkk
  | dmap es =>
    obtain ⟨arr, h1, h2, h3⟩ := h
    exact ⟨arr, hb.trans h1, h2, fun i hi => let ⟨e, g1, g2, g3, g4⟩ := h3 i hi; ⟨e, g1, g2, g3, g4.mono hI hw (fun _ _ => rfl)⟩⟩
  | niter => exact hb.trans h
  | gmap ks xs bs c =>
    obtain ⟨h0, p1, p2, p3, p4, arr, h1, h2, h3⟩ := h
    refine ⟨h0, p1, p2, p3, p4, arr, hb.trans h1, h2, fun i hi => let ⟨e, g1, g2, g3, g4⟩ := h3 i hi; ⟨e, g1, g2, g3, fun h' => (g4 h').mono hI hw (fun k hkk => hk k ?_)⟩⟩
    cases e : (MObj.gmap ks xs bs c).has k with
    | true => rfl
    | false => rw [hasL_get (by simpa [MObj.has] using e) i h'] at hkk; cases hkk
  | amap ks xs =>
    obtain ⟨h0, arr, h1, h2, h3⟩ := h
    refine ⟨h0, arr, hb.trans h1, h2, fun i hi => let ⟨e, g1, g2, g3, g4⟩ := h3 i hi; ⟨e, g1, g2, g3, fun h' => (g4 h').mono hI hw (fun k hkk => hk k ?_)⟩⟩
    cases e : (MObj.amap ks xs).has k with
    | true => rfl
    | false => rw [hasL_get (by simpa [MObj.has] using e) i h'] at hkk; cases hkk
def look {α : Type} : List (Nat × α) → Nat → Option α
  | [], _ => none
  | (i, v) :: r, x => match Nat.beq i x with
    | true => some v
    | false => look r x
structure AState where
  slots : List (Nat × AVal)
  objs : List (Nat × Option MObj)
  floor : Nat := 0
def AState.get (s : AState) (x : Nat) : AVal := (look s.slots x).getD .top
def AState.obj (s : AState) (k : Nat) : Option MObj := (look s.objs k).getD none
theorem look_cons {α : Type} (i : Nat) (v : α) (r : List (Nat × α)) (x : Nat) : look ((i, v) :: r) x = if i = x then some v else look r x := by
  simp only [look]
  by_cases h : i = x
  · subst h; simp
  · have : Nat.beq i x = false := by cases e : Nat.beq i x with | false => rfl | true => exact absurd (Nat.eq_of_beq_eq_true e) h
    simp [this, h]
def AState.put (s : AState) (d : Option Nat) (v : AVal) : AState :=
  match d with
  | some d => { s with slots := (d, v) :: s.slots }
  | none => s
def AState.objput (s : AState) (l : List (Nat × Option MObj)) : AState := { s with objs := l ++ s.objs }
theorem AState.get_put (s : AState) (d : Nat) (v : AVal) (x : Nat) : (s.put (some d) v).get x = if d = x then v else s.get x := by
  simp only [AState.get, AState.put, look_cons]; split <;> rfl
theorem AState.obj_put (s : AState) (d : Option Nat) (v : AVal) (k : Nat) : (s.put d v).obj k = s.obj k := by cases d <;> rfl
theorem AState.get_objput (s : AState) (l : List (Nat × Option MObj)) (x : Nat) : (s.objput l).get x = s.get x := rfl
theorem look_append {α : Type} (l r : List (Nat × α)) (x : Nat) : look (l ++ r) x = (look l x).or (look r x) := by
  induction l with
  | nil => simp [look]
  | cons p l ih => obtain ⟨i, v⟩ := p; rw [List.cons_append, look_cons, look_cons, ih]; split <;> simp
def AState.fresh (s : AState) (k : Nat) : Prop := (∀ x, (s.get x).has k = false) ∧ (∀ k' o, s.obj k' = some o → o.has k = false) ∧ s.obj k = none ∧ s.floor ≤ k
structure Keeps (M : Nat → Prop) (w w' : World) : Prop where
  os : w'.os = w.os
  tape : w'.tape = w.tape
  output : w'.output = w.output
  size : w.heap.size ≤ w'.heap.size
  block : ∀ b, b < w.heap.size → ¬ M b → w'.heap[b]? = w.heap[b]?
theorem Keeps.refl (M : Nat → Prop) (w : World) : Keeps M w w := ⟨rfl, rfl, rfl, Nat.le_refl _, fun _ _ _ => rfl⟩
theorem Keeps.trans {M M' : Nat → Prop} {w w1 w2 : World} (h : Keeps M w w1) (h' : Keeps M' w1 w2) (hM : ∀ b, b < w.heap.size → M' b → M b) : Keeps M w w2 :=
  ⟨h'.os.trans h.os, h'.tape.trans h.tape, h'.output.trans h.output, Nat.le_trans h.size h'.size,
   fun b hb hn => (h'.block b (Nat.lt_of_lt_of_le hb h.size) (fun hm => hn (hM b hb hm))).trans (h.block b hb hn)⟩
def tabNamed (n : String) : Option (List Value) :=
  if n = "internal/strconv.uint64pow10" then some ([1, 10, 100, 1000, 10000, 100000, 1000000, 10000000, 100000000, 1000000000, 10000000000, 100000000000, 1000000000000, 10000000000000, 100000000000000, 1000000000000000, 10000000000000000, 100000000000000000, 1000000000000000000, 10000000000000000000].map (fun x : Int => Value.int .u64 x))
  else if n = "pluvial/report.low" then some [.string ⟨#[111, 107]⟩, .string ⟨#[97, 114, 103]⟩, .string ⟨#[110, 105, 108]⟩, .string ⟨#[110, 111, 110, 101]⟩, .string ⟨#[114, 97, 110, 103, 101]⟩, .string ⟨#[111, 118, 101, 114]⟩, .string ⟨#[102, 111, 114, 109]⟩, .string ⟨#[115, 104, 111, 114, 116]⟩, .string ⟨#[115, 117, 109]⟩, .string ⟨#[108, 105, 109, 105, 116]⟩, .string ⟨#[102, 117, 108, 108]⟩, .string ⟨#[100, 111, 119, 110]⟩, .string ⟨#[116, 104, 101, 114, 101]⟩]
  else if n = "pluvial/report.high" then some [.string ⟨#[115, 99, 104, 101, 109, 97]⟩, .string ⟨#[99, 111, 117, 110, 116]⟩, .string ⟨#[111, 114, 100, 101, 114]⟩, .string ⟨#[111, 108, 100]⟩, .string ⟨#[115, 101, 114, 105, 101, 115]⟩, .string ⟨#[107, 105, 110, 100]⟩, .string ⟨#[108, 97, 98, 101, 108]⟩, .string ⟨#[114, 101, 103, 101, 120]⟩, .string ⟨#[114, 101, 97, 100]⟩, .string ⟨#[98, 114, 111, 107, 101, 110]⟩, .string ⟨#[110, 111, 100, 97, 116, 97]⟩, .string ⟨#[122, 101, 114, 111]⟩, .string ⟨#[98, 117, 99, 107, 101, 116]⟩]
  else none
def globTab (P : Program) (g : Nat) : Option (List Value) := match P.globals[g]? with
  | some x => tabNamed x.name
  | none => none
def ifNamed (n : String) : Bool := decide (n = "strconv.ErrSyntax") || decide (n = "strconv.ErrRange")
def globIf (P : Program) (g : Nat) : Bool := match P.globals[g]? with
  | some x => ifNamed x.name
  | none => false
def GlobOK (P : Program) (I M : Nat → Prop) (w : World) : Prop := (∀ g cs, globTab P g = some cs → I g ∧ ¬ M g ∧ g < w.heap.size ∧ ∃ t m, w.heap[g]? = some (.cells cs.toArray t m)) ∧
  ∀ g, globIf P g = true → I g ∧ ¬ M g ∧ g < w.heap.size ∧ ∃ tp p t m, w.heap[g]? = some (.cells #[.iface tp p] t m)
structure Ctx where
  P : Program
  n : Nat
  w0 : World
  I0 : Nat → Prop
  M0 : Nat → Prop
  κ0 : Nat → Option KI
  glob : GlobOK P I0 M0 w0
structure Inv (Γ : Ctx) (κ : Nat → Option KI) (I : Nat → Prop) (s : AState) (w : World) : Prop where
  objs : ∀ k o, s.obj k = some o → OAt w I κ k o
  inj : ∀ k k' o o' ki ki', s.obj k = some o → s.obj k' = some o' → κ k = some ki → κ k' = some ki' → ki.b = ki'.b → k = k'
  disj : ∀ k o ki, s.obj k = some o → κ k = some ki → ¬ I ki.b
  bound : ∀ b, I b → b < w.heap.size
  keep : Keeps Γ.M0 Γ.w0 w
  ikeep : ∀ b, Γ.I0 b → I b
  fromI : ∀ b, I b → Γ.I0 b ∨ Γ.M0 b ∨ Γ.w0.heap.size ≤ b
  fromO : ∀ k o ki, s.obj k = some o → κ k = some ki → Γ.M0 ki.b ∨ Γ.w0.heap.size ≤ ki.b
  fix : ∀ k, k < s.floor → κ k = Γ.κ0 k
theorem Inv.tab {Γ : Ctx} {κ : Nat → Option KI} {I : Nat → Prop} {s : AState} {w : World} (h : Inv Γ κ I s w) {g : Nat} {cs : List Value} (e : globTab Γ.P g = some cs) :
    I g ∧ g < w.heap.size ∧ ∃ t m, w.heap[g]? = some (.cells cs.toArray t m) := by
  obtain ⟨h1, h2, h3, t, m, h4⟩ := Γ.glob.1 g cs e
  exact ⟨h.ikeep g h1, Nat.lt_of_lt_of_le h3 h.keep.size, t, m, (h.keep.block g h3 h2).trans h4⟩
theorem Inv.err {Γ : Ctx} {κ : Nat → Option KI} {I : Nat → Prop} {s : AState} {w : World} (h : Inv Γ κ I s w) {g : Nat} (e : globIf Γ.P g = true) :
    I g ∧ g < w.heap.size ∧ ∃ tp p t m, w.heap[g]? = some (.cells #[.iface tp p] t m) := by
  obtain ⟨h1, h2, h3, tp, p, t, m, h4⟩ := Γ.glob.2 g e
  exact ⟨h.ikeep g h1, Nat.lt_of_lt_of_le h3 h.keep.size, tp, p, t, m, (h.keep.block g h3 h2).trans h4⟩
structure Rel (Γ : Ctx) (κ : Nat → Option KI) (I : Nat → Prop) (s : AState) (a : Act) (w : World) : Prop where
  size : a.tmps.size = Γ.n
  defers : a.defers = []
  slots : ∀ x, Rep w I κ (s.get x) (a.tmps.getD x undef)
  inv : Inv Γ κ I s w
def Sat (Γ : Ctx) (s : AState) (a : Act) (w : World) : Prop := ∃ κ I, Rel Γ κ I s a w
def AState.Eqv (s s' : AState) : Prop := (∀ x, s.get x = s'.get x) ∧ (∀ k, s.obj k = s'.obj k) ∧ s.floor = s'.floor
theorem Inv.eqv {Γ : Ctx} {κ : Nat → Option KI} {I : Nat → Prop} {s s' : AState} {w : World} (h : Inv Γ κ I s w) (e : ∀ k o, s'.obj k = some o → s.obj k = some o) (hf : s'.floor = s.floor) : Inv Γ κ I s' w :=
  ⟨fun k o hk => h.objs k o (e _ _ hk), fun k k' o o' ki ki' h1 h2 => h.inj k k' o o' ki ki' (e _ _ h1) (e _ _ h2),
   fun k o ki hk => h.disj k o ki (e _ _ hk), h.bound, h.keep, h.ikeep, h.fromI, fun k o ki hk => h.fromO k o ki (e _ _ hk), fun k hk => h.fix k (hf ▸ hk)⟩
theorem Sat.eqv {Γ : Ctx} {s s' : AState} {a : Act} {w : World} (h : Sat Γ s a w) (e : s.Eqv s') : Sat Γ s' a w := by
  obtain ⟨κ, I, hr⟩ := h
  exact ⟨κ, I, hr.size, hr.defers, fun x => (e.1 x) ▸ hr.slots x, hr.inv.eqv (fun k o hk => (e.2.1 k).trans hk) e.2.2.symm⟩
theorem Sat.weaken {Γ : Ctx} {s s' : AState} {a : Act} {w : World} (h : Sat Γ s a w)
    (hs : ∀ x, s'.get x = .top ∨ s'.get x = s.get x) (ho : ∀ k o, s'.obj k = some o → s.obj k = some o) (hf : s'.floor = s.floor) : Sat Γ s' a w := by
  obtain ⟨κ, I, hr⟩ := h
  refine ⟨κ, I, hr.size, hr.defers, fun x => ?_, hr.inv.eqv ho hf⟩
  rcases hs x with e | e <;> rw [e]
  · exact .top _
  · exact hr.slots x
def AWp (Γ : Ctx) (c : Code) (Q : Exit → AState → Prop) (s : AState) : Prop :=
  ∀ a w, Sat Γ s a w → c.wp Γ.P (fun e a' w' => ∃ s', Sat Γ s' a' w' ∧ Q e s') a w
theorem AWp.mono {Γ : Ctx} {c : Code} {Q Q' : Exit → AState → Prop} {s : AState} (h : AWp Γ c Q s) (hq : ∀ e s, Q e s → Q' e s) : AWp Γ c Q' s :=
  fun a w hs => Code.wp_mono (fun e a w ⟨s', h1, h2⟩ => ⟨s', h1, hq _ _ h2⟩) (h a w hs)
theorem AWp.skip {Γ : Ctx} {Q : Exit → AState → Prop} {s : AState} (h : Q .normal s) : AWp Γ .skip Q s := fun a w hs => wp_skip ⟨s, hs, h⟩
theorem AWp.exit {Γ : Ctx} {Q : Exit → AState → Prop} {s : AState} {id : Nat} (h : Q (.exit id) s) : AWp Γ (.exit id) Q s := fun a w hs => wp_exit ⟨s, hs, h⟩
theorem AWp.ret {Γ : Ctx} {Q : Exit → AState → Prop} {s : AState} (h : Q .ret s) : AWp Γ .ret Q s := fun a w hs => wp_ret ⟨s, hs, h⟩
def seqQ (next : AState → Prop) (Q : Exit → AState → Prop) : Exit → AState → Prop
  | .normal, s => next s
  | e, s => Q e s
theorem AWp.seq {Γ : Ctx} {x y : Code} {Q : Exit → AState → Prop} {s : AState} (h : AWp Γ x (seqQ (AWp Γ y Q) Q) s) : AWp Γ (.seq x y) Q s := fun a w hs =>
  wp_seq (Code.wp_mono (fun e a w ⟨s', h1, h2⟩ => by
    cases e with
    | normal => exact h2 a w h1
    | _ => exact ⟨s', h1, h2⟩) (h a w hs))
def blockQ (id : Nat) (Q : Exit → AState → Prop) : Exit → AState → Prop
  | .exit i, s => if i = id then Q .normal s else Q (.exit i) s
  | e, s => Q e s
theorem AWp.block {Γ : Ctx} {id : Nat} {c : Code} {Q : Exit → AState → Prop} {s : AState} (h : AWp Γ c (blockQ id Q) s) : AWp Γ (.block id c) Q s := fun a w hs =>
  wp_block (Code.wp_mono (fun e a w ⟨s', h1, h2⟩ => by
    cases e with
    | exit i => simp only [Exit.inBlock]; simp only [blockQ] at h2; split <;> simp_all <;> exact ⟨s', h1, h2⟩
    | _ => exact ⟨s', h1, h2⟩) (h a w hs))
def leafA : Value → AVal
  | .slice none 0 0 => .none0
  | v => .im (.sc v)
def constA : Value → AVal
  | .agg cs => .agg (cs.toList.map leafA)
  | v => leafA v
theorem leafA_rep (w : World) (I : Nat → Prop) (κ : Nat → Option KI) (v : Value) : Rep w I κ (leafA v) v := by
  unfold leafA; split
  · exact .none0 _
  · exact .im (.sc _)
theorem constA_rep (w : World) (I : Nat → Prop) (κ : Nat → Option KI) (v : Value) : Rep w I κ (constA v) v := by
  unfold constA; split
  · rename_i cs
    have := Rep.agg (w := w) (I := I) (κ := κ) (cells := cs.toList.map leafA) (vs := cs.toList) (by simp) (fun j h h' => by rw [List.getElem_map]; exact leafA_rep ..)
    simpa using this
  · exact leafA_rep ..
def AState.eval (s : AState) : Operand → AVal
  | .tmp t => s.get t
  | .const v => constA v
  | .global g => .gl g
  | .func f => .im (.sc (.func (.func f) #[] #[]))
theorem Rel.eval {Γ : Ctx} {κ : Nat → Option KI} {I : Nat → Prop} {s : AState} {a : Act} {w : World} (h : Rel Γ κ I s a w) (x : Operand) : Rep w I κ (s.eval x) (a.eval x) := by
  cases x with
  | tmp t => exact h.slots t
  | const v => exact constA_rep ..
  | global g => exact .gl g
  | func f => exact .im (.sc _)
theorem Rep.sc_inv {w : World} {I : Nat → Prop} {κ : Nat → Option KI} {u v : Value} (h : Rep w I κ (.im (.sc u)) v) : v = u := by
  cases h with
  | im h => cases h; rfl
theorem AWp.cond {Γ : Ctx} {c : Operand} {x y : Code} {Q : Exit → AState → Prop} {s : AState} (b : Bool) (hb : s.eval c = .im (.sc (.bool b)))
    (ht : b = true → AWp Γ x Q s) (hf : b = false → AWp Γ y Q s) : AWp Γ (.cond c x y) Q s := fun a w hs => by
  obtain ⟨κ, I, hr⟩ := hs
  have hc : a.eval c = .bool b := (hb ▸ hr.eval c).sc_inv
  exact wp_cond_split hc (fun h => ht h a w ⟨κ, I, hr⟩) (fun h => hf h a w ⟨κ, I, hr⟩)
def LWp (Γ : Ctx) (c : Code) (Q : Exit → AState → Prop) (s : AState) : Prop :=
  ∀ a w, Sat Γ s a w → ∀ (b : Frame) (k : List Item) (cs : List Frame),
    ∃ e a' w', (∃ s', Sat Γ s' a' w' ∧ Q e s') ∧ Arrives Γ.P (lone (b.at a (.code c :: .inLoop c :: k)) cs w) b k cs e a' w'
theorem LWp.round {Γ : Ctx} {c : Code} {Q : Exit → AState → Prop} {s : AState} (h : AWp Γ c (seqQ (LWp Γ c Q) Q) s) : LWp Γ c Q s := by
  intro a w hs b k cs
  obtain ⟨e, a₁, w₁, ⟨s', h1, h2⟩, harr⟩ := h a w hs b (.inLoop c :: k) cs
  cases e with
  | normal =>
    obtain ⟨e₂, a₂, w₂, hq₂, harr₂⟩ := h2 a₁ w₁ h1 b k cs
    exact ⟨e₂, a₂, w₂, hq₂, .of_steps (Steps.trans harr (.one step_inLoop)) harr₂⟩
  | exit id => exact ⟨_, a₁, w₁, ⟨s', h1, h2⟩, .pass (x := .inLoop c) rfl (fun _ _ => .inl (by simp)) harr⟩
  | goto l => exact ⟨_, a₁, w₁, ⟨s', h1, h2⟩, .pass (x := .inLoop c) rfl (fun _ _ => .inl (by simp)) harr⟩
  | ret => exact ⟨_, a₁, w₁, ⟨s', h1, h2⟩, .pass (x := .inLoop c) rfl (fun _ _ => .inl (by simp)) harr⟩
  | panic ch => exact ⟨_, a₁, w₁, ⟨s', h1, h2⟩, .pass (x := .inLoop c) rfl (fun _ _ => .inl (by simp)) harr⟩
  | outgrown => exact ⟨_, a₁, w₁, ⟨s', h1, h2⟩, .pass (x := .inLoop c) rfl (fun _ _ => .inl (by simp)) harr⟩
theorem AWp.loop {Γ : Ctx} {c : Code} {Q : Exit → AState → Prop} {s : AState} (h : LWp Γ c Q s) : AWp Γ (.loop c) Q s := fun a w hs b k cs =>
  let ⟨e, a', w', hq, harr⟩ := h a w hs b k cs
  ⟨e, a', w', hq, .of_steps (.one step_loop) harr⟩
end Go.Pv
set_option linter.unusedVariables false
set_option linter.unusedSimpArgs false
namespace Go.Pv
structure Sp where
  vals : List (Nat × AVal)
  pre : List (Nat × Option MObj)
  news : List Nat
  res : AVal
  post : List (Nat × Option MObj)
def Sp.needs (sp : Sp) (s : AState) : Prop := (∀ p ∈ sp.vals, s.get p.1 = p.2) ∧ ∀ p ∈ sp.pre, s.obj p.1 = p.2
def Sp.act (sp : Sp) (d : Option Nat) (s : AState) : AState := (s.objput sp.post).put d sp.res
def OpOK (P : Program) (o : Oper) (sp : Sp) : Prop :=
  ∀ (Γ : Ctx), Γ.P = P → (∀ d, o.dst = some d → d < Γ.n) → ∀ (s : AState) (a : Act) (w : World), Sat Γ s a w → sp.needs s → (∀ k ∈ sp.news, s.fresh k) →
    ∀ (K : Act → World → Prop) (Q : Exit → Act → World → Prop), (∀ a' w', Sat Γ (sp.act o.dst s) a' w' → K a' w') → o.wp P a w K Q
inductive Move where
  | skip
  | run (sp : Sp)
abbrev Item := Oper × Move
def goes (ops : Array Oper) (o : Oper) (s : AState) (go : Bool) : Prop :=
  match o.guard with
  | none => go = true
  | some (j, want) => ∃ d v, (ops[j]?).bind (·.dst) = some d ∧ s.get d = .im (.sc v) ∧ go = (match v with | .bool b => b == want | _ => false)
def Item.valid (P : Program) (ops : Array Oper) (it : Item) (s : AState) : Prop :=
  match it.2 with
  | .skip => goes ops it.1 s false
  | .run sp => goes ops it.1 s true ∧ sp.needs s ∧ OpOK P it.1 sp
def Item.step (it : Item) (s : AState) : AState :=
  match it.2 with
  | .skip => s.put it.1.dst (.im (.sc undef))
  | .run sp => sp.act it.1.dst s
def Item.news (it : Item) : List Nat :=
  match it.2 with
  | .skip => []
  | .run sp => sp.news
theorem wanted_of_goes {Γ : Ctx} {ops : Array Oper} {o : Oper} {s : AState} {a : Act} {w : World} {go : Bool} (hs : Sat Γ s a w) (hn : ∀ (j : Nat) (o' : Oper), ops[j]? = some o' → ∀ d, o'.dst = some d → d < Γ.n) (h : goes ops o s go) :
    Region.wanted o (yielded ops a.tmps) = go := by
  unfold goes at h
  unfold Region.wanted
  cases hg : o.guard with
  | none => rw [hg] at h; exact h.symm
  | some p =>
    obtain ⟨j, want⟩ := p
    rw [hg] at h
    obtain ⟨d, v, hd, hv, rfl⟩ := h
    obtain ⟨κ, I, hr⟩ := hs
    have hlt : d < Γ.n := by
      cases ho : ops[j]? with
      | none => rw [ho] at hd; simp at hd
      | some o' => rw [ho] at hd; exact hn j o' ho d (by simpa using hd)
    have hval : a.tmps.getD d undef = v := (hv ▸ hr.slots d).sc_inv
    have : a.tmps[d]? = some v := by
      have hsz : d < a.tmps.size := by rw [hr.size]; exact hlt
      rw [Array.getElem?_eq_getElem hsz]
      simp [Array.getD, hsz] at hval
      rw [hval]
    simp only [yielded, hd, Option.bind_some, this]
    cases v with
    | bool b => cases b <;> cases want <;> rfl
    | _ => cases want <;> rfl
theorem Sat.put_top {Γ : Ctx} {s : AState} {a : Act} {w : World} (h : Sat Γ s a w) (d : Option Nat) (hlt : ∀ x, d = some x → x < Γ.n) (v : Value) : Sat Γ (s.put d (.im (.sc v))) (a.put d v) w := by
  obtain ⟨κ, I, hr⟩ := h
  cases d with
  | none => exact ⟨κ, I, hr⟩
  | some d =>
    refine ⟨κ, I, by simpa [Act.put] using hr.size, hr.defers, fun x => ?_, hr.inv.eqv (fun k o hk => by rw [AState.obj_put] at hk; exact hk) rfl⟩
    rw [AState.get_put]
    by_cases e : d = x
    · rw [if_pos e]
      have hsz : d < a.tmps.size := by rw [hr.size]; exact hlt d rfl
      have : (a.put (some d) v).tmps.getD x undef = v := by subst e; simp [Act.put, hsz]
      rw [this]; exact .im (.sc v)
    · rw [if_neg e]
      have : (a.put (some d) v).tmps.getD x undef = a.tmps.getD x undef := by simp [Act.put, Array.getD_eq_getD_getElem?, Array.getElem?_setIfInBounds, e]
      rw [this]; exact hr.slots x
theorem wp_item {Γ : Ctx} {ops : Array Oper} {it : Item} {s : AState} {a : Act} {w : World} {K : Act → World → Prop} {Q : Exit → Act → World → Prop}
    (hn : ∀ (j : Nat) (o' : Oper), ops[j]? = some o' → ∀ d, o'.dst = some d → d < Γ.n) (hd : ∀ d, it.1.dst = some d → d < Γ.n) (hs : Sat Γ s a w) (hv : it.valid Γ.P ops s) (hf : ∀ k ∈ it.news, s.fresh k)
    (hK : ∀ a' w', Sat Γ (it.step s) a' w' → K a' w') :
    if Region.wanted it.1 (yielded ops a.tmps) then it.1.wp Γ.P a w K Q ∨ (it.1.asks Γ.P a w ∧ LetsOut Q) else K (a.put it.1.dst undef) w := by
  obtain ⟨o, m⟩ := it
  cases m with
  | skip =>
    rw [wanted_of_goes hs hn (go := false) hv]
    exact hK _ _ (hs.put_top o.dst hd undef)
  | run sp =>
    obtain ⟨h1, h2, h3⟩ := hv
    rw [wanted_of_goes hs hn h1]
    exact .inl (h3 Γ rfl hd s a w hs h2 hf K Q hK)
def validAll (P : Program) (ops : Array Oper) : List Item → AState → Prop
  | [], _ => True
  | it :: r, s => it.valid P ops s ∧ (∀ k ∈ it.news, s.fresh k) ∧ validAll P ops r (it.step s)
def stepAll : List Item → AState → AState
  | [], s => s
  | it :: r, s => stepAll r (it.step s)
theorem wp_items {Γ : Ctx} {ops : Array Oper} {Q : Exit → Act → World → Prop} (hn : ∀ (j : Nat) (o' : Oper), ops[j]? = some o' → ∀ d, o'.dst = some d → d < Γ.n) :
    ∀ (l : List Item) (hl : ∀ it ∈ l, ∀ d, it.1.dst = some d → d < Γ.n) (s : AState) (a : Act) (w : World), Sat Γ s a w → validAll Γ.P ops l s →
      (∀ a' w', Sat Γ (stepAll l s) a' w' → Q .normal a' w') → wpList Γ.P ops Q (l.map (·.1)) a w := by
  intro l
  induction l with
  | nil => intro _ s a w hs _ hq; exact hq _ _ hs
  | cons it r ih =>
    intro hl s a w hs hv hq
    obtain ⟨h1, h2, h3⟩ := hv
    exact wp_item hn (hl it (by simp)) hs h1 h2 (fun a' w' hs' => ih (fun x hx => hl x (by simp [hx])) _ _ _ hs' h3 hq)
theorem region_plain {Γ : Ctx} {id : Nat} {Q : Exit → AState → Prop} {s : AState} (items : List Item)
    (hd : items.all (fun it => match it.1.dst with | some d => Nat.blt d Γ.n | none => true) = true)
    (hv : validAll Γ.P (items.map (·.1)).toArray items s) (hq : Q .normal (stepAll items s)) : AWp Γ (.region id (items.map (·.1)).toArray false) Q s := by
  have hl : ∀ it ∈ items, ∀ d, it.1.dst = some d → d < Γ.n := by
    intro it hit d e
    have := List.all_eq_true.1 hd it hit
    rw [e] at this
    simpa [Nat.blt_eq] using this
  intro a w hs
  refine wp_region_lit (wp_items ?_ items hl s a w hs hv (fun a' w' h => ⟨_, h, hq⟩))
  intro j o' ho d e
  have : o' ∈ items.map (·.1) := by
    have := Array.mem_of_getElem? ho
    simpa using this
  obtain ⟨it, hit, rfl⟩ := List.mem_map.1 this
  exact hl it hit d e
end Go.Pv
set_option linter.unusedVariables false
set_option linter.unusedSimpArgs false
namespace Go.Pv
theorem AState.obj_objput (s : AState) (l : List (Nat × Option MObj)) (k : Nat) : (s.objput l).obj k = (look l k).getD (s.obj k) := by
  simp only [AState.obj, AState.objput, look_append]
  cases look l k <;> simp
def keysOf {α : Type} (l : List (Nat × α)) : List Nat := l.map (·.1)
def isIn (x : Nat) : List Nat → Bool
  | [] => false
  | y :: r => Nat.beq x y || isIn x r
def apart : List Nat → List Nat → Bool
  | [], _ => true
  | x :: l, r => !(isIn x r) && apart l r
theorem isIn_iff {x : Nat} {l : List Nat} : isIn x l = true ↔ x ∈ l := by
  induction l with
  | nil => simp [isIn]
  | cons y r ih => simp [isIn, ih]
theorem apart_iff {l r : List Nat} : apart l r = true ↔ ∀ x ∈ l, x ∉ r := by
  induction l with
  | nil => simp [apart]
  | cons y l ih =>
    have : (isIn y r = false) ↔ y ∉ r := by rw [← isIn_iff]; simp
    simp [apart, ih, this]
def Item.gslot (ops : Array Oper) (it : Item) : List Nat :=
  match it.1.guard with
  | none => []
  | some (j, _) => match (ops[j]?).bind (·.dst) with
    | some d => [d]
    | none => []
def Item.reads (ops : Array Oper) (it : Item) : List Nat :=
  it.gslot ops ++ match it.2 with
    | .skip => []
    | .run sp => keysOf sp.vals
def Item.pre (it : Item) : List Nat := match it.2 with
  | .skip => []
  | .run sp => keysOf sp.pre
def Item.post (it : Item) : List Nat := match it.2 with
  | .skip => []
  | .run sp => keysOf sp.post
def Item.knows (it : Item) (k : Nat) : Bool := match it.2 with
  | .skip => false
  | .run sp => sp.res.has k || isIn k (keysOf sp.post) || sp.post.any fun p => match p.2 with
    | some o => o.has k
    | none => false
def Item.indep (ops : Array Oper) (x y : Item) : Bool :=
  apart x.1.dst.toList (y.reads ops) && apart y.1.dst.toList (x.reads ops) && apart x.1.dst.toList y.1.dst.toList &&
  apart x.post y.pre && apart x.post y.post && apart y.post x.pre && x.news.all fun k => !(y.knows k)
theorem get_step (it : Item) (s : AState) (x : Nat) (h : x ∉ it.1.dst.toList) : (it.step s).get x = s.get x := by
  obtain ⟨o, m⟩ := it
  have key : ∀ (t : AState) (v : AVal), (t.put o.dst v).get x = t.get x := by
    intro t v
    cases hd : o.dst with
    | none => rfl
    | some d => rw [AState.get_put, if_neg (fun e => h (by simp [hd, e]))]
  cases m with
  | skip => exact key s _
  | run sp => exact (key _ _).trans (AState.get_objput ..)
theorem look_none {α : Type} {l : List (Nat × α)} {k : Nat} (h : k ∉ keysOf l) : look l k = none := by
  induction l with
  | nil => rfl
  | cons p l ih =>
    obtain ⟨i, v⟩ := p
    simp only [keysOf, List.map_cons, List.mem_cons, not_or] at h
    rw [look_cons, if_neg (fun e => h.1 e.symm)]
    exact ih h.2
theorem obj_step (it : Item) (s : AState) (k : Nat) (h : k ∉ it.post) : (it.step s).obj k = s.obj k := by
  obtain ⟨o, m⟩ := it
  cases m with
  | skip => exact AState.obj_put ..
  | run sp =>
    show ((s.objput sp.post).put o.dst sp.res).obj k = _
    rw [AState.obj_put, AState.obj_objput, look_none h]; rfl
theorem Item.valid_step {P : Program} {ops : Array Oper} {x y : Item} {s : AState} (hr : apart x.1.dst.toList (y.reads ops) = true) (hp : apart x.post y.pre = true) :
    y.valid P ops (x.step s) ↔ y.valid P ops s := by
  rw [apart_iff] at hr hp
  have hg : ∀ go, goes ops y.1 (x.step s) go ↔ goes ops y.1 s go := by
    intro go
    unfold goes
    cases hgd : y.1.guard with
    | none => rfl
    | some p =>
      obtain ⟨j, want⟩ := p
      refine exists_congr fun d => exists_congr fun b => and_congr_right fun hd => ?_
      rw [get_step x s d (fun hm => hr d hm (by simp [Item.reads, Item.gslot, hgd, hd]))]
  obtain ⟨o, m⟩ := y
  cases m with
  | skip => exact hg false
  | run sp =>
    refine and_congr (hg true) (and_congr ?_ Iff.rfl)
    refine and_congr (forall_congr' fun p => imp_congr_right fun hm => ?_) (forall_congr' fun p => imp_congr_right fun hm => ?_)
    · rw [get_step x s p.1 (fun h => hr p.1 h (by simp only [Item.reads, List.mem_append]; exact .inr (List.mem_map.2 ⟨p, hm, rfl⟩)))]
    · rw [obj_step x s p.1 (fun h => hp p.1 h (List.mem_map.2 ⟨p, hm, rfl⟩))]
theorem Item.valid_eqv {P : Program} {ops : Array Oper} {y : Item} {s t : AState} (e : s.Eqv t) : y.valid P ops s ↔ y.valid P ops t := by
  have hg : ∀ go, goes ops y.1 s go ↔ goes ops y.1 t go := by
    intro go
    unfold goes
    cases y.1.guard with
    | none => rfl
    | some p => simp only [e.1]
  obtain ⟨o, m⟩ := y
  cases m with
  | skip => exact hg false
  | run sp => exact and_congr (hg true) (and_congr (by simp only [Sp.needs, e.1, e.2.1]) Iff.rfl)
theorem AState.Eqv.refl (s : AState) : s.Eqv s := ⟨fun _ => rfl, fun _ => rfl, rfl⟩
theorem AState.Eqv.symm {s t : AState} (e : s.Eqv t) : t.Eqv s := ⟨fun x => (e.1 x).symm, fun k => (e.2.1 k).symm, e.2.2.symm⟩
theorem AState.Eqv.trans {s t u : AState} (e : s.Eqv t) (f : t.Eqv u) : s.Eqv u := ⟨fun x => (e.1 x).trans (f.1 x), fun k => (e.2.1 k).trans (f.2.1 k), e.2.2.trans f.2.2⟩
theorem AState.Eqv.put {s t : AState} (e : s.Eqv t) (d : Option Nat) (v : AVal) : (s.put d v).Eqv (t.put d v) := by
  refine ⟨fun x => ?_, fun k => by rw [AState.obj_put, AState.obj_put]; exact e.2.1 k, by cases d <;> exact e.2.2⟩
  cases d with
  | none => exact e.1 x
  | some d => rw [AState.get_put, AState.get_put, e.1]
theorem AState.Eqv.objput {s t : AState} (e : s.Eqv t) (l : List (Nat × Option MObj)) : (s.objput l).Eqv (t.objput l) :=
  ⟨e.1, fun k => by rw [AState.obj_objput, AState.obj_objput, e.2.1], e.2.2⟩
theorem Item.step_eqv {it : Item} {s t : AState} (e : s.Eqv t) : (it.step s).Eqv (it.step t) := by
  obtain ⟨o, m⟩ := it
  cases m with
  | skip => exact e.put _ _
  | run sp => exact (e.objput _).put _ _
theorem stepAll_eqv {l : List Item} : ∀ {s t : AState}, s.Eqv t → (stepAll l s).Eqv (stepAll l t) := by
  induction l with
  | nil => exact fun e => e
  | cons it r ih => exact fun e => ih (Item.step_eqv e)
def valid0 (P : Program) (ops : Array Oper) : List Item → AState → Prop
  | [], _ => True
  | it :: r, s => it.valid P ops s ∧ valid0 P ops r (it.step s)
theorem valid0_eqv {P : Program} {ops : Array Oper} {l : List Item} : ∀ {s t : AState}, s.Eqv t → valid0 P ops l s → valid0 P ops l t := by
  induction l with
  | nil => exact fun _ _ => trivial
  | cons it r ih => exact fun e h => ⟨(Item.valid_eqv e).1 h.1, ih (Item.step_eqv e) h.2⟩
theorem valid0_of {P : Program} {ops : Array Oper} {l : List Item} : ∀ {s : AState}, validAll P ops l s → valid0 P ops l s := by
  induction l with
  | nil => exact fun _ => trivial
  | cons it r ih => exact fun h => ⟨h.1, ih h.2.2⟩
theorem obj_run (o : Oper) (sp : Sp) (s : AState) (k : Nat) : (Item.step (o, .run sp) s).obj k = (look sp.post k).getD (s.obj k) := by
  show ((s.objput sp.post).put o.dst sp.res).obj k = _
  rw [AState.obj_put, AState.obj_objput]
theorem step_comm {ops : Array Oper} {x y : Item} (h : x.indep ops y = true) (s : AState) : (y.step (x.step s)).Eqv (x.step (y.step s)) := by
  simp only [Item.indep, Bool.and_eq_true] at h
  obtain ⟨⟨⟨⟨⟨⟨h1, h2⟩, h3⟩, h4⟩, h5⟩, h6⟩, h7⟩ := h
  rw [apart_iff] at h3 h5
  have hfl : ∀ (it : Item) (s : AState), (it.step s).floor = s.floor := by
    intro it s
    obtain ⟨o, m⟩ := it
    cases m <;> (simp only [Item.step, Sp.act]; cases o.dst <;> rfl)
  refine ⟨?_, ?_, by rw [hfl, hfl, hfl, hfl]⟩
  · intro z
    by_cases hy : z ∈ y.1.dst.toList
    · have hx : z ∉ x.1.dst.toList := fun hx => h3 z hx hy
      rw [get_step x _ z hx]
      obtain ⟨o, m⟩ := y
      have hd : o.dst = some z := by simpa using hy
      cases m with
      | skip => simp only [Item.step, hd, AState.get_put]; simp
      | run sp => simp only [Item.step, Sp.act, hd, AState.get_put]; simp
    · rw [get_step y _ z hy]
      by_cases hx : z ∈ x.1.dst.toList
      · obtain ⟨o, m⟩ := x
        have hd : o.dst = some z := by simpa using hx
        cases m with
        | skip => simp only [Item.step, hd, AState.get_put]; simp
        | run sp => simp only [Item.step, Sp.act, hd, AState.get_put]; simp
      · rw [get_step x _ z hx, get_step x _ z hx, get_step y _ z hy]
  · intro k
    by_cases hy : k ∈ y.post
    · have hx : k ∉ x.post := fun hx => h5 k hx hy
      rw [obj_step x _ k hx]
      obtain ⟨o, m⟩ := y
      cases m with
      | skip => simp [Item.post] at hy
      | run sp =>
        simp only [Item.step, Sp.act, AState.obj_put, AState.obj_objput]
        have : ∃ v, look sp.post k = some v := by
          have hm : k ∈ keysOf sp.post := hy
          generalize sp.post = l at hm
          induction l with
          | nil => simp [keysOf] at hm
          | cons p l ih =>
            obtain ⟨i, v⟩ := p
            rw [look_cons]
            by_cases e : i = k
            · exact ⟨v, by rw [if_pos e]⟩
            · rw [if_neg e]
              refine ih ?_
              simp only [keysOf, List.map_cons, List.mem_cons] at hm
              exact hm.resolve_left (fun e' => e e'.symm)
        obtain ⟨v, hv⟩ := this
        rw [hv]; rfl
    · rw [obj_step y _ k hy]
      by_cases hx : k ∈ x.post
      · obtain ⟨o, m⟩ := x
        cases m with
        | skip => simp [Item.post] at hx
        | run sp => rw [obj_run, obj_run, obj_step y _ k hy]
      · rw [obj_step x _ k hx, obj_step x _ k hx, obj_step y _ k hy]
theorem to_front {P : Program} {ops : Array Oper} {x : Item} {post : List Item} : ∀ (pre : List Item) (s : AState), (∀ y ∈ pre, y.indep ops x = true) → valid0 P ops (pre ++ x :: post) s →
    x.valid P ops s ∧ valid0 P ops (pre ++ post) (x.step s) ∧ (stepAll (pre ++ x :: post) s).Eqv (stepAll (pre ++ post) (x.step s)) := by
  intro pre
  induction pre with
  | nil => exact fun s _ h => ⟨h.1, h.2, AState.Eqv.refl _⟩
  | cons y pre ih =>
    intro s hi hv
    obtain ⟨h1, h2, h3⟩ := ih (y.step s) (fun z hz => hi z (by simp [hz])) hv.2
    have hyx := hi y (by simp)
    have hyx' := hyx
    simp only [Item.indep, Bool.and_eq_true] at hyx
    obtain ⟨⟨⟨⟨⟨⟨g1, g2⟩, g3⟩, g4⟩, g5⟩, g6⟩, g7⟩ := hyx
    have hc := step_comm hyx' s
    refine ⟨(Item.valid_step g1 g4).1 h1, ⟨(Item.valid_step g2 g6).2 hv.1, valid0_eqv hc h2⟩, ?_⟩
    exact h3.trans (stepAll_eqv hc)
def maskOf (acc : List Nat) (o : Oper) : Nat :=
  o.after.toList.foldl (fun m e => if Region.binds .any e then m ||| 2 ^ e.on ||| acc.getD e.on 0 else m) 0
def masks : List Oper → List Nat → List Nat
  | [], acc => acc
  | o :: r, acc => masks r (acc ++ [maskOf acc o])
def okFrom (ops : Array Oper) (ms : List Nat) : List Item → List Item → Bool
  | _, [] => true
  | done, x :: r =>
    x.1.after.toList.all (fun e => !(Region.binds .any e) || Nat.blt e.on done.length) &&
    okPairs ms done.length x 0 done && okFrom ops ms (done ++ [x]) r
where
  okPairs (ms : List Nat) (i : Nat) (x : Item) : Nat → List Item → Bool
  | _, [] => true
  | j, y :: r => (x.news.all fun k => !(y.knows k)) && ((ms.getD i 0).testBit j || y.indep ops x) && okPairs ms i x (j + 1) r
theorem okPairs_get {ops : Array Oper} {ms : List Nat} {i : Nat} {x : Item} : ∀ {l : List Item} {j : Nat}, okFrom.okPairs ops ms i x j l = true → ∀ m (h : m < l.length),
    (x.news.all fun k => !((l[m]).knows k)) = true ∧ ((ms.getD i 0).testBit (j + m) = true ∨ (l[m]).indep ops x = true) := by
  intro l
  induction l with
  | nil => intro j _ m h; simp at h
  | cons y r ih =>
    intro j hk m h
    simp only [okFrom.okPairs, Bool.and_eq_true, Bool.or_eq_true] at hk
    cases m with
    | zero => exact hk.1
    | succ m =>
      have := ih hk.2 m (by simpa using h)
      rw [show j + 1 + m = j + (m + 1) from by omega] at this
      exact this
theorem okFrom_get {ops : Array Oper} {ms : List Nat} : ∀ {l done : List Item}, okFrom ops ms done l = true → ∀ i (h : i < l.length),
    (∀ e ∈ (l[i]).1.after.toList, Region.binds .any e = true → e.on < done.length + i) ∧
    ∀ j (hj : j < done.length + i), ((l[i]).news.all fun k => !(((done ++ l)[j]'(by simp; omega)).knows k)) = true ∧
      ((ms.getD (done.length + i) 0).testBit j = true ∨ ((done ++ l)[j]'(by simp; omega)).indep ops (l[i]) = true) := by
  intro l
  induction l with
  | nil => intro done _ i h; simp at h
  | cons x r ih =>
    intro done hk i h
    simp only [okFrom, Bool.and_eq_true] at hk
    obtain ⟨⟨h1, h2⟩, h3⟩ := hk
    cases i with
    | zero =>
      refine ⟨fun e he hb => ?_, fun j hj => ?_⟩
      · have := List.all_eq_true.1 h1 e he
        simpa [hb, Nat.blt_eq] using this
      · have := okPairs_get h2 j (by omega)
        simp only [Nat.zero_add] at this
        rw [List.getElem_append_left (by omega)]
        exact this
    | succ i =>
      have := ih h3 i (by simpa using h)
      simp only [List.length_append, List.length_cons, List.length_nil, List.append_assoc, List.cons_append, List.nil_append] at this
      refine ⟨fun e he hb => by have := this.1 e he hb; omega, fun j hj => ?_⟩
      have t := this.2 j (by omega)
      refine ⟨t.1, t.2.imp (fun h => ?_) id⟩
      rw [show done.length + (i + 1) = done.length + (0 + 1) + i from by omega]
      exact h
theorem masks_prefix : ∀ (l : List Oper) (acc : List Nat), ∃ t, masks l acc = acc ++ t := by
  intro l
  induction l with
  | nil => exact fun acc => ⟨[], by simp [masks]⟩
  | cons o r ih =>
    intro acc
    obtain ⟨t, ht⟩ := ih (acc ++ [maskOf acc o])
    exact ⟨maskOf acc o :: t, by rw [masks, ht]; simp⟩
theorem masks_get : ∀ (l : List Oper) (acc : List Nat) (i : Nat) (h : i < l.length), (masks l acc).getD (acc.length + i) 0 = maskOf ((masks l acc).take (acc.length + i)) (l[i]) := by
  intro l
  induction l with
  | nil => intro acc i h; simp at h
  | cons o r ih =>
    intro acc i h
    cases i with
    | zero =>
      obtain ⟨t, ht⟩ := masks_prefix r (acc ++ [maskOf acc o])
      simp only [masks, ht, Nat.add_zero, List.getElem_cons_zero]
      simp [List.getD]
    | succ i =>
      have := ih (acc ++ [maskOf acc o]) i (by simpa using h)
      simp only [List.length_append, List.length_cons, List.length_nil] at this
      rw [show acc.length + (0 + 1) + i = acc.length + (i + 1) from by omega] at this
      simpa [masks] using this
theorem fold_mask {acc : List Nat} {j : Nat} : ∀ (l : List Edge) (m : Nat), (l.foldl (fun m e => if Region.binds .any e then m ||| 2 ^ e.on ||| acc.getD e.on 0 else m) m).testBit j = true →
    m.testBit j = true ∨ ∃ e ∈ l, Region.binds .any e = true ∧ (e.on = j ∨ (acc.getD e.on 0).testBit j = true) := by
  intro l
  induction l with
  | nil => exact fun m h => .inl h
  | cons e r ih =>
    intro m h
    rcases ih _ h with h | ⟨e', he, h⟩
    · dsimp only at h
      by_cases hb : Region.binds .any e = true
      · rw [if_pos hb] at h
        simp only [Nat.testBit_or, Nat.testBit_two_pow, Bool.or_eq_true, decide_eq_true_eq] at h
        rcases h with (h | h) | h
        · exact .inl h
        · exact .inr ⟨e, by simp, hb, .inl h⟩
        · exact .inr ⟨e, by simp, hb, .inr h⟩
      · rw [if_neg hb] at h; exact .inl h
    · exact .inr ⟨e', by simp [he], h⟩
theorem mask_done {ops : List Oper} {done : Nat → Prop} (hclosed : ∀ i (h : i < ops.length), done i → ∀ e ∈ (ops[i]).after.toList, Region.binds .any e = true → done e.on)
    (hback : ∀ i (h : i < ops.length), ∀ e ∈ (ops[i]).after.toList, Region.binds .any e = true → e.on < i) :
    ∀ n i (h : i < ops.length), i < n → (∀ e ∈ (ops[i]).after.toList, Region.binds .any e = true → done e.on) → ∀ j, ((masks ops []).getD i 0).testBit j = true → done j := by
  intro n
  induction n with
  | zero => intro i h hi; omega
  | succ n ih =>
    intro i h hi hd j hj
    have hm := masks_get ops [] i h
    simp only [List.length_nil, Nat.zero_add] at hm
    rw [hm] at hj
    rcases fold_mask _ _ hj with h0 | ⟨e, he, hb, h1 | h1⟩
    · simp at h0
    · exact h1 ▸ hd e he hb
    · have hlt := hback i h e he hb
      have hde := hd e he hb
      rw [List.getD_eq_getElem?_getD, List.getElem?_take, if_pos hlt, ← List.getD_eq_getElem?_getD] at h1
      exact ih e.on (by omega) (by omega) (hclosed e.on (by omega) hde) j h1
theorem fresh_step {it : Item} {s : AState} {k : Nat} (hf : s.fresh k) (hn : it.knows k = false) : (it.step s).fresh k := by
  obtain ⟨o, m⟩ := it
  obtain ⟨f1, f2, f3, f4⟩ := hf
  have hfl : ∀ (t : AState) (v : AVal), (t.put o.dst v).floor = t.floor := fun t v => by cases o.dst <;> rfl
  have hput : ∀ (t : AState) (v : AVal), (∀ x, (t.get x).has k = false) → v.has k = false → ∀ x, ((t.put o.dst v).get x).has k = false := by
    intro t v ht hv x
    cases hd : o.dst with
    | none => exact ht x
    | some d => rw [AState.get_put]; split
                · exact hv
                · exact ht x
  cases m with
  | skip => exact ⟨hput s _ f1 rfl, fun k' o' h => f2 k' o' (by rwa [← AState.obj_put s o.dst (.im (.sc undef))]), by show (s.put o.dst (.im (.sc undef))).obj k = none; rw [AState.obj_put]; exact f3, by show (s.put o.dst (.im (.sc undef))).floor ≤ k; rw [hfl]; exact f4⟩
  | run sp =>
    simp only [Item.knows, Bool.or_eq_false_iff] at hn
    obtain ⟨⟨n1, n2⟩, n3⟩ := hn
    refine ⟨hput _ _ (fun x => f1 x) n1, fun k' o' h => ?_, ?_, by show ((s.objput sp.post).put o.dst sp.res).floor ≤ k; rw [hfl]; exact f4⟩
    · rw [obj_run] at h
      cases hl : look sp.post k' with
      | none => rw [hl] at h; exact f2 k' o' h
      | some v =>
        rw [hl] at h
        have hv : v = some o' := h
        subst hv
        have hmem : (k', some o') ∈ sp.post := by
          generalize sp.post = l at hl
          induction l with
          | nil => simp [look] at hl
          | cons p l ih =>
            obtain ⟨i, u⟩ := p
            rw [look_cons] at hl
            by_cases e : i = k'
            · rw [if_pos e] at hl; subst e; simp at hl; simp [hl]
            · rw [if_neg e] at hl; exact List.mem_cons_of_mem _ (ih hl)
        have := List.any_eq_false.1 n3 _ hmem
        simpa using this
    · rw [obj_run, look_none]
      · exact f3
      · intro hmem
        rw [isIn_iff.2 hmem] at n2; simp at n2
def left (items : List Item) (listed : Array Bool) : List Item :=
  (items.zipIdx.filter fun p => !(listed.getD p.2 true)).map (·.1)
structure Open (Γ : Ctx) (ops : Array Oper) (items : List Item) (listed : Array Bool) (s : AState) : Prop where
  size : listed.size = items.length
  closed : ∀ i (h : i < items.length), listed.getD i true = true → ∀ e ∈ (items[i]).1.after.toList, Region.binds .any e = true → listed.getD e.on true = true
  valid : valid0 Γ.P ops (left items listed) s
  fresh : ∀ it ∈ left items listed, ∀ k ∈ it.news, s.fresh k
theorem filter_part {α : Type} {f g : α → Bool} {l : List α} {i : Nat} (h : i < l.length) (hi : f (l[i]) = true) (hg : g (l[i]) = false)
    (hfg : ∀ j (hj : j < l.length), j ≠ i → f (l[j]) = g (l[j])) :
    l.filter f = (l.take i).filter f ++ l[i] :: (l.drop (i + 1)).filter f ∧ l.filter g = (l.take i).filter f ++ (l.drop (i + 1)).filter f := by
  have hl : l = l.take i ++ l[i] :: l.drop (i + 1) := by rw [List.getElem_cons_drop]; simp
  have e1 : (l.take i).filter f = (l.take i).filter g := by
    refine List.filter_congr fun x hx => ?_
    obtain ⟨j, hj, rfl⟩ := List.mem_iff_getElem.1 hx
    simp only [List.length_take] at hj
    rw [List.getElem_take]
    exact hfg j (by omega) (by omega)
  have e2 : (l.drop (i + 1)).filter f = (l.drop (i + 1)).filter g := by
    refine List.filter_congr fun x hx => ?_
    obtain ⟨j, hj, rfl⟩ := List.mem_iff_getElem.1 hx
    simp only [List.length_drop] at hj
    rw [List.getElem_drop]
    exact hfg _ (by omega) (by omega)
  constructor
  · conv => lhs; rw [hl]
    rw [List.filter_append, List.filter_cons, if_pos hi]
  · conv => lhs; rw [hl]
    rw [List.filter_append, List.filter_cons, hg, ← e1, ← e2]; simp
theorem wp_open {Γ : Ctx} {items : List Item} {Q : Exit → Act → World → Prop} (hd : ∀ it ∈ items, ∀ d, it.1.dst = some d → d < Γ.n)
    (hok : okFrom (items.map (·.1)).toArray (masks (items.map (·.1)) []) [] items = true) :
    ∀ (fuel : Nat) (listed : Array Bool) (s : AState) (a : Act) (w : World), Open Γ (items.map (·.1)).toArray items listed s → (left items listed).length = fuel → Sat Γ s a w →
      (∀ a' w', Sat Γ (stepAll (left items listed) s) a' w' → Q .normal a' w') → wpAny Γ.P .any (items.map (·.1)).toArray Q fuel listed a w := by
  have hget := okFrom_get hok
  simp only [List.length_nil, Nat.zero_add, List.nil_append] at hget
  have hn : ∀ (j : Nat) (o' : Oper), (items.map (·.1)).toArray[j]? = some o' → ∀ d, o'.dst = some d → d < Γ.n := by
    intro j o' ho d e
    have : o' ∈ items.map (·.1) := by simpa using Array.mem_of_getElem? ho
    obtain ⟨it, hit, rfl⟩ := List.mem_map.1 this
    exact hd it hit d e
  have hready : ∀ (listed : Array Bool) i, i ∈ Region.ready .any (items.map (·.1)).toArray listed ↔ ∃ (h : i < items.length), listed.getD i true = false ∧
      ∀ e ∈ (items[i]).1.after.toList, Region.binds .any e = true → listed.getD e.on false = true := by
    intro listed i
    simp only [Region.ready, List.mem_filter, List.mem_range, List.size_toArray, List.length_map, Bool.and_eq_true, Bool.not_eq_true']
    constructor
    · rintro ⟨h, h1, h2⟩
      refine ⟨h, h1, fun e he hb => ?_⟩
      simp only [List.getElem?_toArray, List.getElem?_map, List.getElem?_eq_getElem h, Option.map_some, Option.getD_some, Array.all_eq_true'] at h2
      have := h2 e (by simpa using he)
      simpa [hb] using this
    · rintro ⟨h, h1, h2⟩
      refine ⟨h, h1, ?_⟩
      simp only [List.getElem?_toArray, List.getElem?_map, List.getElem?_eq_getElem h, Option.map_some, Option.getD_some, Array.all_eq_true']
      intro e he
      by_cases hb : Region.binds .any e = true
      · simp [h2 e (by simpa using he) hb]
      · simp [hb]
  intro fuel
  induction fuel with
  | zero =>
    intro listed s a w ho hlen hs hq
    have hnil : left items listed = [] := List.length_eq_zero_iff.1 hlen
    refine ⟨?_, hq _ _ (by rw [hnil]; exact hs)⟩
    refine List.eq_nil_iff_forall_not_mem.2 fun i hi => ?_
    obtain ⟨h, h1, h2⟩ := (hready listed i).1 hi
    have : items[i] ∈ left items listed := by
      refine List.mem_map.2 ⟨(items[i], i), List.mem_filter.2 ⟨?_, by simp [h1]⟩, rfl⟩
      rw [List.mem_zipIdx_iff_getElem?]; simp [h]
    rw [hnil] at this; simp at this
  | succ fuel ih =>
    intro listed s a w ho hlen hs hq
    constructor
    · intro hr
      exfalso
      have hex : ∃ i, ∃ (h : i < items.length), listed.getD i true = false := by
        cases hL : left items listed with
        | nil => rw [hL] at hlen; simp at hlen
        | cons x r =>
          have : x ∈ left items listed := by rw [hL]; simp
          obtain ⟨p, hp, rfl⟩ := List.mem_map.1 this
          obtain ⟨hp1, hp2⟩ := List.mem_filter.1 hp
          rw [List.mem_zipIdx_iff_getElem?] at hp1
          exact ⟨p.2, (List.getElem?_eq_some_iff.1 hp1).1, by simpa using hp2⟩
      have hmin : ∀ n, (∃ i, i < n ∧ ∃ (h : i < items.length), listed.getD i true = false) → ∃ i, ∃ (h : i < items.length), listed.getD i true = false ∧ ∀ j, j < i → listed.getD j true = true := by
        intro n
        induction n with
        | zero => rintro ⟨i, h, _⟩; omega
        | succ n ih =>
          rintro ⟨i, hi, h, hl⟩
          by_cases hb : ∃ j, j < n ∧ ∃ (h : j < items.length), listed.getD j true = false
          · exact ih hb
          · refine ⟨i, h, hl, fun j hj => ?_⟩
            cases e : listed.getD j true with
            | true => rfl
            | false => exact absurd ⟨j, by omega, by omega, e⟩ hb
      obtain ⟨i0, hi0, hl0⟩ := hex
      obtain ⟨i, hi, hl, hlt⟩ := hmin (i0 + 1) ⟨i0, by omega, hi0, hl0⟩
      have : i ∈ Region.ready .any (items.map (·.1)).toArray listed := (hready listed i).2 ⟨hi, hl, fun e he hb => by
        have h1 := (hget i hi).1 e he hb
        have h2 := hlt e.on h1
        have : e.on < listed.size := by rw [ho.size]; omega
        simpa [Array.getD, this] using h2⟩
      rw [hr] at this; simp at this
    · intro i hir
      obtain ⟨hi, hl, he⟩ := (hready listed i).1 hir
      have hlisted : ∀ j, (listed.setIfInBounds i true).getD j true = if j = i then true else listed.getD j true := by
        intro j
        simp only [Array.getD_eq_getD_getElem?, Array.getElem?_setIfInBounds]
        by_cases e : i = j
        · subst e; simp; split <;> simp_all
        · rw [if_neg e, if_neg (fun h : j = i => e h.symm)]
      have hpart := filter_part (l := items.zipIdx) (f := fun p => !(listed.getD p.2 true)) (g := fun p => !((listed.setIfInBounds i true).getD p.2 true)) (i := i) (by simpa using hi)
        (by simp [hl]) (by simp [hlisted]) (fun j hj hne => by simp [hlisted, hne])
      simp only [List.getElem_zipIdx, Nat.zero_add] at hpart
      have hleft : left items listed = ((items.zipIdx.take i).filter fun p => !(listed.getD p.2 true)).map (·.1) ++ items[i] :: ((items.zipIdx.drop (i + 1)).filter fun p => !(listed.getD p.2 true)).map (·.1) := by
        unfold left; rw [hpart.1]; simp
      have hleft' : left items (listed.setIfInBounds i true) = ((items.zipIdx.take i).filter fun p => !(listed.getD p.2 true)).map (·.1) ++ ((items.zipIdx.drop (i + 1)).filter fun p => !(listed.getD p.2 true)).map (·.1) := by
        unfold left; rw [hpart.2]; simp
      generalize hA : ((items.zipIdx.take i).filter fun p => !(listed.getD p.2 true)).map (·.1) = A at hleft hleft'
      generalize hB : ((items.zipIdx.drop (i + 1)).filter fun p => !(listed.getD p.2 true)).map (·.1) = B at hleft hleft'
      have hAin : ∀ y ∈ A, ∃ j, ∃ (h : j < items.length), j < i ∧ items[j] = y ∧ listed.getD j true = false := by
        intro y hy
        rw [← hA] at hy
        obtain ⟨p, hp, rfl⟩ := List.mem_map.1 hy
        obtain ⟨hp1, hp2⟩ := List.mem_filter.1 hp
        obtain ⟨m, hm, rfl⟩ := List.mem_iff_getElem.1 hp1
        simp only [List.length_take, List.length_zipIdx] at hm
        refine ⟨m, by omega, by omega, by simp, by simpa using hp2⟩
      have hback : ∀ (i : Nat) (h : i < (items.map (fun x : Item => x.1)).length), ∀ e ∈ ((items.map (fun x : Item => x.1))[i]).after.toList, Region.binds .any e = true → e.on < i := by
        intro i h e he hb
        simp only [List.length_map] at h
        exact (hget i h).1 e (by simpa using he) hb
      have hindep : ∀ y ∈ A, y.indep (items.map (·.1)).toArray items[i] = true := by
        intro y hy
        obtain ⟨j, hj, hji, rfl, hlj⟩ := hAin y hy
        rcases ((hget i hi).2 j hji).2 with h | h
        · have := mask_done (ops := items.map (·.1)) (done := fun j => listed.getD j true = true)
            (fun i h hd e he hb => ho.closed i (by simpa using h) hd e (by simpa using he) hb) hback (i + 1) i (by simpa using hi) (by omega)
            (fun e he' hb => by
              have h1 := he e (by simpa using he') hb
              have h2 : e.on < listed.size := by rw [ho.size]; have := (hget i hi).1 e (by simpa using he') hb; omega
              simpa [Array.getD, h2] using h1) j h
          rw [hlj] at this; simp at this
        · exact h
      have hfr := to_front A s hindep (hleft ▸ ho.valid)
      obtain ⟨hv, hrest, heqv⟩ := hfr
      have hmem : items[i] ∈ left items listed := by rw [hleft]; simp
      show wpOp Γ.P (items.map (·.1)).toArray Q i _ a w
      have hget? : (items.map (·.1)).toArray[i]? = some (items[i]).1 := by simp [hi]
      simp only [wpOp, hget?]
      refine wp_item (it := items[i]) hn (hd _ (List.getElem_mem hi)) hs hv (ho.fresh _ hmem) (fun a' w' hs' => ?_)
      refine ih _ _ a' w' ⟨by simpa using ho.size, ?_, hleft' ▸ hrest, ?_⟩ ?_ hs' ?_
      · intro j hj hlj e hee hb
        rw [hlisted] at hlj ⊢
        by_cases hij : j = i
        · subst hij
          have h1 := he e hee hb
          have h2 : e.on < listed.size := by rw [ho.size]; have := (hget j hi).1 e hee hb; omega
          split
          · rfl
          · simpa [Array.getD, h2] using h1
        · rw [if_neg hij] at hlj
          split
          · rfl
          · exact ho.closed j hj hlj e hee hb
      · intro y hy k hk
        have hyl : y ∈ left items listed := by
          rw [hleft'] at hy; rw [hleft]
          simp only [List.mem_append, List.mem_cons] at hy ⊢
          rcases hy with h | h
          · exact .inl h
          · exact .inr (.inr h)
        have hf := ho.fresh y hyl k hk
        have hnk : (items[i]).knows k = false := by
          rw [hleft'] at hy
          rcases List.mem_append.1 hy with h | h
          · have := hindep y h
            simp only [Item.indep, Bool.and_eq_true] at this
            have := List.all_eq_true.1 this.2 k hk
            simpa using this
          · rw [← hB] at h
            obtain ⟨p, hp, rfl⟩ := List.mem_map.1 h
            obtain ⟨hp1, hp2⟩ := List.mem_filter.1 hp
            obtain ⟨m, hm, rfl⟩ := List.mem_iff_getElem.1 hp1
            simp only [List.length_drop, List.length_zipIdx] at hm
            simp only [List.getElem_drop, List.getElem_zipIdx, Nat.zero_add] at hk
            have := ((hget (i + 1 + m) (by omega)).2 i (by omega)).1
            have := List.all_eq_true.1 this k hk
            simpa using this
        exact fresh_step hf hnk
      · rw [hleft']
        rw [hleft] at hlen
        simp only [List.length_append, List.length_cons] at hlen ⊢
        omega
      · rw [hleft']
        intro a'' w'' h''
        refine hq _ _ ?_
        rw [hleft]
        exact h''.eqv heqv.symm
theorem region_draw {Γ : Ctx} {id : Nat} {Q : Exit → AState → Prop} {s : AState} (hm : Γ.P.follows .mixedOrders = true) (items : List Item)
    (hd : items.all (fun it => match it.1.dst with | some d => Nat.blt d Γ.n | none => true) = true)
    (hok : okFrom (items.map (·.1)).toArray (masks (items.map (·.1)) []) [] items = true)
    (hv : validAll Γ.P (items.map (·.1)).toArray items s) (hf : ∀ it ∈ items, ∀ k ∈ it.news, s.fresh k) (hq : Q .normal (stepAll items s)) :
    AWp Γ (.region id (items.map (·.1)).toArray true) Q s := by
  have hl : ∀ it ∈ items, ∀ d, it.1.dst = some d → d < Γ.n := by
    intro it hit d e
    have := List.all_eq_true.1 hd it hit
    rw [e] at this
    simpa [Nat.blt_eq] using this
  have hleft : left items (Array.replicate items.length false) = items := by
    unfold left
    rw [List.filter_eq_self.2]
    · exact List.zipIdx_map_fst 0 items
    · rintro ⟨it, i⟩ hm
      rw [List.mem_zipIdx_iff_getElem?] at hm
      have := (List.getElem?_eq_some_iff.1 hm).1
      simp [Array.getD, this]
  intro a w hs
  have hs' : Sat Γ s a { w with drawn := w.drawn + 1 } := by
    obtain ⟨κ, I, hr⟩ := hs
    have hk : Keeps Γ.M0 Γ.w0 { w with drawn := w.drawn + 1 } := ⟨hr.inv.keep.os, hr.inv.keep.tape, hr.inv.keep.output, hr.inv.keep.size, hr.inv.keep.block⟩
    refine ⟨κ, I, hr.size, hr.defers, fun x => (hr.slots x).mono (fun _ h => h) (fun _ _ => rfl) (fun _ _ => rfl), ?_, hr.inv.inj, hr.inv.disj, hr.inv.bound, hk, hr.inv.ikeep, hr.inv.fromI, hr.inv.fromO, hr.inv.fix⟩
    intro k o hko
    have := hr.inv.objs k o hko
    unfold OAt at this ⊢
    split
    · rename_i e; rw [e] at this; exact this
    · rename_i ki e; rw [e] at this; exact this.mono (fun _ h => h) (fun _ _ => rfl) rfl (fun _ _ => rfl)
  refine wp_region_any hm ?_
  have hsz : (items.map (·.1)).toArray.size = items.length := by simp
  rw [hsz]
  refine wp_open hl hok _ _ s a _ ⟨by simp, ?_, by rw [hleft]; exact valid0_of hv, by rw [hleft]; exact hf⟩ (by rw [hleft]) hs' (fun a' w' h => ⟨_, by rw [hleft] at h; exact h, hq⟩)
  intro i h hl'
  simp [Array.getD, h] at hl'
end Go.Pv
set_option linter.unusedVariables false
set_option linter.unusedSimpArgs false
namespace Go.Pv
def opSlots (s : AState) (o : Oper) : List (Nat × AVal) := o.op.operands.toList.filterMap fun x => match x with
  | .tmp t => some (t, s.get t)
  | _ => none
def mkSp (s : AState) (o : Oper) (keys : List Nat) (news : List Nat) (res : AVal) (post : List (Nat × Option MObj)) : Sp :=
  { vals := opSlots s o, pre := keys.map fun k => (k, s.obj k), news, res, post }
theorem mkSp_needs (s : AState) (o : Oper) (keys news : List Nat) (res : AVal) (post : List (Nat × Option MObj)) : (mkSp s o keys news res post).needs s := by
  constructor
  · intro p hp
    obtain ⟨x, _, hx⟩ := List.mem_filterMap.1 hp
    cases x <;> simp at hx
    subst hx; rfl
  · intro p hp
    obtain ⟨k, _, rfl⟩ := List.mem_map.1 hp
    rfl
theorem needs_eval {s s2 : AState} {o : Oper} {keys news : List Nat} {res : AVal} {post : List (Nat × Option MObj)} (h : (mkSp s o keys news res post).needs s2) (x : Operand)
    (hx : x ∈ o.op.operands.toList) : s2.eval x = s.eval x := by
  cases x with
  | tmp t => exact h.1 (t, s.get t) (List.mem_filterMap.2 ⟨.tmp t, hx, rfl⟩)
  | _ => rfl
theorem needs_obj {s s2 : AState} {o : Oper} {keys news : List Nat} {res : AVal} {post : List (Nat × Option MObj)} (h : (mkSp s o keys news res post).needs s2) (k : Nat)
    (hk : k ∈ keys) : s2.obj k = s.obj k := h.2 (k, s.obj k) (List.mem_map.2 ⟨k, hk, rfl⟩)
def Gives (v : Value) (nx : Next) : Prop := nx = .value v ∨ nx = .skip ∧ v = undef
theorem OpOK.of {P : Program} {o : Oper} {sp : Sp}
    (h : ∀ (Γ : Ctx) (κ : Nat → Option KI) (I : Nat → Prop) (s : AState) (a : Act) (w : World), Γ.P = P → Rel Γ κ I s a w → sp.needs s → (∀ k ∈ sp.news, s.fresh k) →
      ∃ v nx w' κ' I', Gives v nx ∧ (execOp a.eval o).run P w = .ok nx w' ∧ Inv Γ κ' I' (s.objput sp.post) w' ∧ (∀ b, I b → I' b) ∧ (∀ b, I b → w'.heap[b]? = w.heap[b]?) ∧
        (∀ x k, (s.get x).has k = true → κ' k = κ k) ∧ Rep w' I' κ' sp.res v) : OpOK P o sp := by
  intro Γ hP hd s a w ⟨κ, I, hr⟩ hn hf K Q hK
  obtain ⟨v, nx, w', κ', I', hg, hrun, hinv, hI, hw, hk, hres⟩ := h Γ κ I s a w hP hr hn hf
  have hsat : Sat Γ (sp.act o.dst s) (a.put o.dst v) w' := by
    have hinv' : Inv Γ κ' I' (sp.act o.dst s) w' := hinv.eqv (fun k o' hk => by rwa [Sp.act, AState.obj_put] at hk) (by cases hd' : o.dst <;> simp [Sp.act, AState.put, AState.objput, hd'])
    cases hdst : o.dst with
    | none =>
      refine ⟨κ', I', hr.size, hr.defers, fun x => (hr.slots x).mono hI hw (hk x), hdst ▸ hinv'⟩
    | some d =>
      have hlt := hd d hdst
      refine ⟨κ', I', by simpa [Act.put] using hr.size, hr.defers, fun x => ?_, hdst ▸ hinv'⟩
      show Rep w' I' κ' (((s.objput sp.post).put (some d) sp.res).get x) _
      rw [AState.get_put]
      by_cases e : d = x
      · subst e
        rw [if_pos rfl]
        have : (a.put (some d) v).tmps.getD d undef = v := by
          have hsz : d < a.tmps.size := by rw [hr.size]; exact hlt
          simp [Act.put, hsz]
        rw [this]; exact hres
      · rw [if_neg e]
        have : (a.put (some d) v).tmps.getD x undef = a.tmps.getD x undef := by simp [Act.put, Array.getD_eq_getD_getElem?, Array.getElem?_setIfInBounds, e]
        rw [this]; exact (hr.slots x).mono hI hw (hk x)
  show o.upon P a K Q ((execOp a.eval o).run P w)
  rw [hrun]
  rcases hg with rfl | ⟨rfl, rfl⟩
  · exact hK _ _ hsat
  · exact hK _ _ hsat
theorem OpOK.quiet {P : Program} {o : Oper} {sp : Sp} (hpost : sp.post = [])
    (h : ∀ (Γ : Ctx) (κ : Nat → Option KI) (I : Nat → Prop) (s : AState) (a : Act) (w : World), Γ.P = P → Rel Γ κ I s a w → sp.needs s →
      ∃ v, (execOp a.eval o).run P w = .ok (.value v) w ∧ Rep w I κ sp.res v) : OpOK P o sp :=
  .of fun Γ κ I s a w hP hr hn _ => by
    obtain ⟨v, hrun, hres⟩ := h Γ κ I s a w hP hr hn
    exact ⟨v, _, w, κ, I, .inl rfl, hrun, hr.inv.eqv (fun k o hk => by rw [hpost] at hk; exact hk) rfl, fun _ h => h, fun _ _ => rfl, fun _ _ _ => rfl, hres⟩
theorem ok_move {P : Program} {o : Oper} {s : AState} {x : Operand} (ho : o.op = .move x ∨ o.op = .assign x) : OpOK P o (mkSp s o [] [] (s.eval x) []) :=
  .quiet rfl fun Γ κ I s2 a w hP hr hn => by
    refine ⟨a.eval x, ?_, ?_⟩
    · rcases ho with ho | ho <;> simp [execOp, ho]
    · have := hr.eval x
      rwa [needs_eval hn x (by rcases ho with ho | ho <;> simp [ho, Op.operands])] at this
def pickA (b : Bool) (x y : AVal) : AVal := match b with
  | true => x
  | false => y
theorem ok_pick {P : Program} {o : Oper} {s : AState} {c x y : Operand} {b : Bool} (ho : o.op = .pick c x y) (hc : s.eval c = .im (.sc (.bool b))) :
    OpOK P o (mkSp s o [] [] (pickA b (s.eval x) (s.eval y)) []) :=
  .quiet rfl fun Γ κ I s2 a w hP hr hn => by
    have hc' : a.eval c = .bool b := (by have := hr.eval c; rw [needs_eval hn c (by simp [ho, Op.operands]), hc] at this; exact this.sc_inv)
    refine ⟨if b then a.eval x else a.eval y, by simp [execOp, ho, hc', asBool], ?_⟩
    cases b with
    | true => have := hr.eval x; rwa [needs_eval hn x (by simp [ho, Op.operands])] at this
    | false => have := hr.eval y; rwa [needs_eval hn y (by simp [ho, Op.operands])] at this
theorem ok_pure {P : Program} {o : Oper} {s : AState} (r : Value) (xs : List (Operand × Value)) (hx : ∀ p ∈ xs, p.1 ∈ o.op.operands.toList ∧ s.eval p.1 = .im (.sc p.2))
    (hrun : ∀ (ρ : Operand → Value), (∀ p ∈ xs, ρ p.1 = p.2) → ∀ w, (execOp ρ o).run P w = .ok (.value r) w) : OpOK P o (mkSp s o [] [] (.im (.sc r)) []) :=
  .quiet rfl fun Γ κ I s2 a w hP hr hn => by
    refine ⟨r, hrun a.eval (fun p hp => ?_) w, .im (.sc r)⟩
    have := hr.eval p.1
    rw [needs_eval hn p.1 (hx p hp).1, (hx p hp).2] at this
    exact this.sc_inv
def binInt (op : BinOp) (k : IntKind) (a b : Int) : Option Value :=
  match op with
  | .add => some (.int k (k.wrap (a + b)))
  | .sub => some (.int k (k.wrap (a - b)))
  | .mul => some (.int k (k.wrap (a * b)))
  | .eql => some (.bool (a == b))
  | .neq => some (.bool (a != b))
  | .lss => some (.bool (decide (a < b)))
  | .leq => some (.bool (decide (a ≤ b)))
  | .gtr => some (.bool (decide (a > b)))
  | .geq => some (.bool (decide (a ≥ b)))
  | _ => none
theorem run_binInt {P : Program} {op : BinOp} {k : IntKind} {a b : Int} {r : Value} (h : binInt op k a b = some r) (t : TypeId) (x y : Operand) (w : World) :
    (do eqGuard op t x y (.int k a) (.int k b); binOp op t (.int k a) (.int k b) : Sem Value).run P w = .ok r w := by
  cases op <;> simp [binInt] at h <;> subst h <;> simp [eqGuard, binOp, Op.intArith, Op.intCmp]
theorem ok_binInt {P : Program} {o : Oper} {s : AState} {op : BinOp} {t t2 : TypeId} {x y : Operand} {k : IntKind} {a b : Int} {r : Value} (ho : o.op = .binOp op t x y t2)
    (hx : s.eval x = .im (.sc (.int k a))) (hy : s.eval y = .im (.sc (.int k b))) (h : binInt op k a b = some r) : OpOK P o (mkSp s o [] [] (.im (.sc r)) []) :=
  ok_pure r [(x, .int k a), (y, .int k b)] (by simp [ho, Op.operands, hx, hy]) (fun ρ hρ w => by
    have h1 := hρ (x, .int k a) (by simp)
    have h2 := hρ (y, .int k b) (by simp)
    simp only [execOp, ho]
    rw [Sem.run_bind, h1, h2, run_binInt h]; rfl)
end Go.Pv
set_option linter.unusedVariables false
set_option linter.unusedSimpArgs false
namespace Go.Pv
theorem addr_add (b off i : Nat) : (⟨b, off, none⟩ : Addr).add i = ⟨b, off + i, none⟩ := by
  unfold Addr.add; split <;> simp_all
def aggP (P : Program) (t : TypeId) : Option (Bool × Nat) :=
  match P.underlying t, P.info? t with
  | some (.struct _), some i => some (true, i.size)
  | some (.array _ _), some i => some (true, i.size)
  | some _, some i => some (false, i.size)
  | _, _ => none
theorem run_underlying' {P : Program} {t : TypeId} {d : TypeDesc} (h : P.underlying t = some d) (w : World) : (underlying t).run P w = .ok d w := by
  simp [underlying, program, Sem.run, h]
theorem run_typeInfo' {P : Program} {t : TypeId} {i : TypeInfo} (h : P.info? t = some i) (w : World) : (typeInfo t).run P w = .ok i w := by
  simp [typeInfo, program, Sem.run, h]
theorem run_isAgg' {P : Program} {t : TypeId} {ag : Bool} {sz : Nat} (h : aggP P t = some (ag, sz)) (w : World) : (isAgg t).run P w = .ok ag w := by
  unfold aggP at h
  split at h <;> simp at h <;> (rename_i h1 h2; simp [isAgg, run_underlying' h1])
  · exact h.1
  · exact h.1
  · rename_i d hne hne2 _
    obtain ⟨rfl, _⟩ := h
    cases d <;> simp_all
theorem run_sizeOf' {P : Program} {t : TypeId} {ag : Bool} {sz : Nat} (h : aggP P t = some (ag, sz)) (w : World) : (sizeOf t).run P w = .ok sz w := by
  unfold aggP at h
  split at h <;> simp at h <;> (rename_i h1 h2; simp [sizeOf, run_typeInfo' h2, h.2])
theorem run_loadFrom {P : Program} {w : World} {b off : Nat} {u : Nat → Value} : ∀ (n i : Nat) (acc : Array Value), (∀ j, j < n → w.cell? ⟨b, off + (i + j), none⟩ = some (u (i + j))) →
    (loadCellsFrom ⟨b, off, none⟩ i n acc).run P w = .ok (acc ++ ((List.range' i n).map u).toArray) w := by
  intro n
  induction n with
  | zero => intro i acc _; simp [loadCellsFrom]
  | succ n ih =>
    intro i acc h
    have h0 := h 0 (by omega)
    simp only [Nat.add_zero] at h0
    simp only [loadCellsFrom, Sem.run_bind, run_load, addr_add, h0, Result.andThen_ok]
    rw [ih (i + 1) _ (fun j hj => by have := h (j + 1) (by omega); rwa [show i + (j + 1) = i + 1 + j from by omega] at this)]
    simp [List.range'_succ]
theorem run_loadCells {P : Program} {w : World} {b off n : Nat} {u : Nat → Value} (h : ∀ j, j < n → w.cell? ⟨b, off + j, none⟩ = some (u j)) :
    (loadCells ⟨b, off, none⟩ n).run P w = .ok ((List.range n).map u).toArray w := by
  unfold loadCells
  rw [run_loadFrom (u := u) n 0 #[] (fun j hj => by simpa using h j hj)]
  simp [List.range_eq_range']
def Place (w : World) (I : Nat → Prop) (κ : Nat → Option KI) (v : Value) (cs : List AVal) : Prop :=
  ∃ b off, v = .pointer (some ⟨b, off, none⟩) ∧ ∃ u : Nat → Value, ∀ j (h : j < cs.length), w.cell? ⟨b, off + j, none⟩ = some (u j) ∧ Rep w I κ (cs[j]) (u j)
def loadA (ag : Bool) (sz : Nat) (cs : List AVal) : Option AVal :=
  match ag with
  | true => match Nat.ble sz cs.length with
    | true => some (.agg (cs.take sz))
    | false => none
  | false => cs.head?
theorem load_place {P : Program} {w : World} {I : Nat → Prop} {κ : Nat → Option KI} {v : Value} {cs : List AVal} {t : TypeId} {ag : Bool} {sz : Nat} {r : AVal}
    (h : Place w I κ v cs) (ht : aggP P t = some (ag, sz)) (hr : loadA ag sz cs = some r) : ∃ x, (Instr.loadAt t v).run P w = .ok x w ∧ Rep w I κ r x := by
  obtain ⟨b, off, rfl, u, hu⟩ := h
  simp only [Instr.loadAt, Instr.sureAddr, pure_bind, loadVar, Sem.run_bind, run_isAgg' ht, Result.andThen_ok]
  cases ag with
  | true =>
    simp only [loadA] at hr
    cases hb : Nat.ble sz cs.length with
    | false => rw [hb] at hr; simp at hr
    | true =>
      rw [hb] at hr
      have hle : sz ≤ cs.length := Nat.le_of_ble_eq_true hb
      obtain rfl := Option.some.inj hr
      simp only [if_true, Sem.run_bind, run_sizeOf' ht, Result.andThen_ok, run_loadCells (u := u) (n := sz) (fun j hj => (hu j (by omega)).1), Sem.run_pure]
      refine ⟨_, rfl, .agg (by simp; omega) (fun j h h' => ?_)⟩
      simp only [List.length_take] at h
      rw [List.getElem_take, List.getElem_map, List.getElem_range]
      exact (hu j (by omega)).2
  | false =>
    simp only [loadA] at hr
    cases cs with
    | nil => simp at hr
    | cons c cs =>
      obtain rfl := Option.some.inj hr
      have := hu 0 (by simp)
      simp only [Nat.add_zero] at this
      exact ⟨u 0, by simp [run_load, this.1], this.2⟩
theorem place_ip {w : World} {I : Nat → Prop} {κ : Nat → Option KI} {cells : List Im} {v : Value} (h : Rep w I κ (.ip cells) v) : Place w I κ v (cells.map .im) := by
  cases h with
  | ip u hI hc hr => exact ⟨_, _, rfl, u, fun j h => by simp only [List.length_map] at h; rw [List.getElem_map]; exact ⟨hc j h, .im (hr j h)⟩⟩
theorem cell_of {w : World} {b off : Nat} {arr : Array Value} {el : TypeId} {fz : Nat × Nat} (h : w.heap[b]? = some (.cells arr el fz)) : w.cell? ⟨b, off, none⟩ = arr[off]? := by
  simp [World.cell?, h]
theorem place_box {w : World} {I : Nat → Prop} {κ : Nat → Option KI} {k j el : Nat} {cells : List AVal} {v : Value} (h : Rep w I κ (.ptr k 0 j) v) (ho : OAt w I κ k (.box el cells)) :
    Place w I κ v (cells.drop j) := by
  cases h with
  | @ptr _ _ _ ki e =>
    simp only [OAt, e, ORep] at ho
    obtain ⟨_, _, arr, h3, h4, h5⟩ := ho
    refine ⟨ki.b, 0 * ki.sz + j, rfl, fun i => arr[j + i]?.getD undef, fun i hi => ?_⟩
    simp only [List.length_drop] at hi
    obtain ⟨v, e1, r1⟩ := h5 (j + i) (by omega)
    rw [cell_of h3, List.getElem_drop, Nat.zero_mul, Nat.zero_add]
    exact ⟨by simp [e1], by simpa [e1] using r1⟩
theorem place_row {w : World} {I : Nat → Prop} {κ : Nat → Option KI} {k e j sz el : Nat} {es : List (List Im)} {c : List Im} {v : Value} (h : Rep w I κ (.ptr k e j) v)
    (ho : OAt w I κ k (.row sz el es)) (hc : es[e]? = some c) : Place w I κ v ((c.drop j).map .im) := by
  cases h with
  | @ptr _ _ _ ki ek =>
    simp only [OAt, ek, ORep] at ho
    obtain ⟨h1, _, _, arr, h3, h4, h5⟩ := ho
    obtain ⟨he, rfl⟩ := List.getElem?_eq_some_iff.1 hc
    obtain ⟨hl, h6⟩ := h5 e he
    refine ⟨ki.b, e * ki.sz + j, rfl, fun i => arr[e * sz + (j + i)]?.getD undef, fun i hi => ?_⟩
    simp only [List.length_map, List.length_drop] at hi
    obtain ⟨v, e1, r1⟩ := h6 (j + i) (by omega)
    rw [cell_of h3, List.getElem_map, List.getElem_drop, h1, Nat.add_assoc]
    exact ⟨by simp [e1], by simpa [e1] using Rep.im r1⟩
def leafV : Value → Bool
  | .agg _ => false
  | .tuple _ => false
  | _ => true
def AVal.leaf : AVal → Bool
  | .im (.sc v) => leafV v
  | .im (.row _) => true
  | .none0 => true
  | .own _ => true
  | .mown _ => true
  | .cut .. => true
  | .sub .. => true
  | .ptr .. => true
  | .ip _ => true
  | .fn .. => true
  | _ => false
theorem leaf_rep {w : World} {I : Nat → Prop} {κ : Nat → Option KI} {x : AVal} {v : Value} (h : Rep w I κ x v) (hl : x.leaf = true) : leafV v = true := by
  cases h <;> try (first | rfl | simp [AVal.leaf] at hl)
  rename_i x hx
  cases hx <;> first | exact hl | rfl
def setMany (arr : Array Value) (off : Nat) : List Value → Array Value
  | [] => arr
  | v :: r => setMany (arr.setIfInBounds off v) (off + 1) r
theorem setMany_size (vs : List Value) : ∀ (arr : Array Value) (off : Nat), (setMany arr off vs).size = arr.size := by
  induction vs with
  | nil => intro arr off; rfl
  | cons v r ih => intro arr off; simp [setMany, ih]
theorem setMany_get (vs : List Value) : ∀ (arr : Array Value) (off i : Nat), off + vs.length ≤ arr.size →
    (setMany arr off vs)[i]? = if off ≤ i ∧ i < off + vs.length then vs[i - off]? else arr[i]? := by
  induction vs with
  | nil => intro arr off i _; simp [setMany]; omega
  | cons v r ih =>
    intro arr off i h
    simp only [List.length_cons] at h
    rw [setMany, ih _ _ _ (by simp; omega), Array.getElem?_setIfInBounds]
    simp only [List.length_cons]
    by_cases h1 : off + 1 ≤ i ∧ i < off + 1 + r.length
    · rw [if_pos h1, if_pos (by omega)]
      obtain ⟨m, rfl⟩ : ∃ m, i = off + 1 + m := ⟨i - (off + 1), by omega⟩
      rw [show off + 1 + m - off = m + 1 from by omega, show off + 1 + m - (off + 1) = m from by omega]; simp
    · rw [if_neg h1]
      by_cases h2 : off = i
      · subst h2; rw [if_pos rfl, if_pos (by omega), if_pos (by omega)]; simp
      · rw [if_neg h2, if_neg (by omega)]
def World.setBlock (w : World) (b : Nat) (o : Obj) : World := { w with heap := w.heap.setIfInBounds b o }
theorem setBlock_get (w : World) (b : Nat) (o : Obj) (b' : Nat) (h : b < w.heap.size) : (World.setBlock w b o).heap[b']? = if b = b' then some o else w.heap[b']? := by
  simp only [World.setBlock, Array.getElem?_setIfInBounds]
  by_cases e : b = b'
  · subst e; simp [h]
  · simp [e]
theorem setBlock_size (w : World) (b : Nat) (o : Obj) : (World.setBlock w b o).heap.size = w.heap.size := by simp [World.setBlock]
theorem modify_eq_set {w : World} {b off : Nat} {v : Value} {arr : Array Value} {el : TypeId} (h : w.heap[b]? = some (.cells arr el (0, 0))) :
    w.setCell ⟨b, off, none⟩ v = World.setBlock w b (.cells (arr.setIfInBounds off v) el (0, 0)) := by
  obtain ⟨hb, he⟩ := Array.getElem?_eq_some_iff.1 h
  unfold World.setCell World.setBlock
  congr 1
  ext1
  · simp
  · rename_i i h1 h2
    by_cases e : b = i
    · subst e; simp [Array.getElem_modify, he]
    · have : (w.heap.setIfInBounds b (.cells (arr.setIfInBounds off v) el))[i]? = w.heap[i]? := by rw [Array.getElem?_setIfInBounds, if_neg e]
      have h3 : i < w.heap.size := by simpa using h2
      rw [Array.getElem?_eq_getElem h2, Array.getElem?_eq_getElem h3] at this
      rw [Array.getElem_modify, if_neg e]
      exact (Option.some.inj this).symm
theorem setBlock_setBlock (w : World) (b : Nat) (o o' : Obj) : World.setBlock (World.setBlock w b o) b o' = World.setBlock w b o' := by
  simp [World.setBlock]
theorem run_storeCells {P : Program} {b : Nat} {el : TypeId} : ∀ (vs : List Value) (w : World) (arr : Array Value) (off i : Nat), w.heap[b]? = some (.cells arr el (0, 0)) → off + i + vs.length ≤ arr.size →
    (∀ v ∈ vs, leafV v = true) → vs ≠ [] → (storeCells ⟨b, off, none⟩ vs i).run P w = .ok () (World.setBlock w b (.cells (setMany arr (off + i) vs) el (0, 0))) := by
  intro vs
  induction vs with
  | nil => intro w arr off i _ _ _ h; exact absurd rfl h
  | cons v r ih =>
    intro w arr off i h hs hl _
    simp only [List.length_cons] at hs
    have hcell : w.cell? ⟨b, off + i, none⟩ = some (arr[off + i]'(by omega)) := by rw [cell_of h]; simp
    have hfz : w.frozen? ⟨b, off + i, none⟩ = false := by simp [World.frozen?, h]
    have hst : (store ⟨b, off + i, none⟩ v).run P w = .ok () (World.setBlock w b (.cells (arr.setIfInBounds (off + i) v) el (0, 0))) := by
      have hv := hl v (by simp)
      rw [← modify_eq_set h]
      cases v <;> first
        | (simp [leafV] at hv; done)
        | simp only [store, Sem.run, hcell, hfz, Bool.false_eq_true, if_false]
    simp only [storeCells, Sem.run_bind, addr_add, hst, Result.andThen_ok]
    have hb : b < w.heap.size := (Array.getElem?_eq_some_iff.1 h).1
    have h' : (World.setBlock w b (.cells (arr.setIfInBounds (off + i) v) el (0, 0))).heap[b]? = some (.cells (arr.setIfInBounds (off + i) v) el (0, 0)) := by
      rw [setBlock_get _ _ _ _ hb, if_pos rfl]
    cases r with
    | nil => simp [storeCells, setMany]
    | cons v' r =>
      rw [ih _ _ off (i + 1) h' (by simp at hs ⊢; omega) (fun x hx => hl x (by simp [hx])) (by simp), setBlock_setBlock]
      rfl
theorem Inv.update {Γ : Ctx} {κ : Nat → Option KI} {I : Nat → Prop} {s : AState} {w : World} {k : Nat} {o o' : MObj} {ki : KI} {ob : Obj} (h : Inv Γ κ I s w)
    (hk : s.obj k = some o) (hκ : κ k = some ki) (ho' : ORep (World.setBlock w ki.b ob) I κ ki o') :
    Inv Γ κ I (s.objput [(k, some o')]) (World.setBlock w ki.b ob) ∧ ∀ b, I b → (World.setBlock w ki.b ob).heap[b]? = w.heap[b]? := by
  have hb : ki.b < w.heap.size := by
    have := h.objs k o hk
    simp only [OAt, hκ] at this
    cases o with
    | row => obtain ⟨_, _, _, arr, h3, _⟩ := this; exact (Array.getElem?_eq_some_iff.1 h3).1
    | box => obtain ⟨_, _, arr, h3, _⟩ := this; exact (Array.getElem?_eq_some_iff.1 h3).1
    | map => obtain ⟨arr, h3, _⟩ := this; exact (Array.getElem?_eq_some_iff.1 h3).1
    | iter => obtain ⟨bm, h3, _⟩ := this; exact (Array.getElem?_eq_some_iff.1 h3).1
    | arow => obtain ⟨_, _, _, arr, h3, _⟩ := this; exact (Array.getElem?_eq_some_iff.1 h3).1
    | amap => obtain ⟨_, arr, h3, _⟩ := this; exact (Array.getElem?_eq_some_iff.1 h3).1
    | dmap => obtain ⟨arr, h3, _⟩ := this; exact (Array.getElem?_eq_some_iff.1 h3).1
    | gmap => obtain ⟨_, _, _, _, _, arr, h3, _⟩ := this; exact (Array.getElem?_eq_some_iff.1 h3).1
    | niter => exact (Array.getElem?_eq_some_iff.1 this).1
  have hne : ∀ b, b ≠ ki.b → (World.setBlock w ki.b ob).heap[b]? = w.heap[b]? := fun b hb' => by rw [setBlock_get _ _ _ _ hb, if_neg (fun e => hb' e.symm)]
  have hI : ∀ b, I b → (World.setBlock w ki.b ob).heap[b]? = w.heap[b]? := fun b hb' => hne b (fun e => h.disj k o ki hk hκ (e ▸ hb'))
  have hobj : ∀ k' o'', (s.objput [(k, some o')]).obj k' = some o'' → (k' = k ∧ o'' = o') ∨ (k' ≠ k ∧ s.obj k' = some o'') := by
    intro k' o'' e
    rw [AState.obj_objput, look_cons] at e
    by_cases ek : k = k'
    · rw [if_pos ek] at e; simp at e; exact .inl ⟨ek.symm, e.symm⟩
    · rw [if_neg ek] at e; exact .inr ⟨fun h => ek h.symm, e⟩
  have hold : ∀ k', (∃ o'', (s.objput [(k, some o')]).obj k' = some o'') → ∃ o'', s.obj k' = some o'' := by
    rintro k' ⟨o'', e⟩
    rcases hobj k' o'' e with ⟨rfl, _⟩ | ⟨_, e⟩
    · exact ⟨o, hk⟩
    · exact ⟨o'', e⟩
  refine ⟨⟨?_, ?_, ?_, ?_, ?_, h.ikeep, h.fromI, ?_, h.fix⟩, hI⟩
  · intro k' o'' e
    rcases hobj k' o'' e with ⟨rfl, rfl⟩ | ⟨hkk, e⟩
    · simp only [OAt, hκ]; exact ho'
    · have := h.objs k' o'' e
      unfold OAt at this ⊢
      split
      · rename_i eκ; rw [eκ] at this; exact this
      · rename_i ki' eκ
        rw [eκ] at this
        exact this.mono (fun _ h => h) hI (hne _ (fun eb => hkk (h.inj k' k o'' o ki' ki e hk eκ hκ eb))) (fun _ _ => rfl)
  · intro k1 k2 o1 o2 ki1 ki2 e1 e2
    obtain ⟨o1', e1'⟩ := hold k1 ⟨o1, e1⟩
    obtain ⟨o2', e2'⟩ := hold k2 ⟨o2, e2⟩
    exact h.inj k1 k2 o1' o2' ki1 ki2 e1' e2'
  · intro k1 o1 ki1 e1
    obtain ⟨o1', e1'⟩ := hold k1 ⟨o1, e1⟩
    exact h.disj k1 o1' ki1 e1'
  · intro b hb'; rw [setBlock_size]; exact h.bound b hb'
  · refine ⟨h.keep.os, h.keep.tape, h.keep.output, by rw [setBlock_size]; exact h.keep.size, fun b hb' hn => ?_⟩
    rw [hne b, h.keep.block b hb' hn]
    rintro rfl
    rcases h.fromO k o ki hk hκ with hm | hm
    · exact hn hm
    · omega
  · intro k1 o1 ki1 e1
    obtain ⟨o1', e1'⟩ := hold k1 ⟨o1, e1⟩
    exact h.fromO k1 o1' ki1 e1'
end Go.Pv
