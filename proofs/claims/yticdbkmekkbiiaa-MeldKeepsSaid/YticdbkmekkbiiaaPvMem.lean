import Derived.Test.YticdbkmekkbiiaaPvOps1
set_option linter.unusedVariables false
set_option linter.unusedSimpArgs false
/-! Memory: cells that are loaded and stored, blocks that are made. -/
namespace Go.Pv

theorem addr_add (b off i : Nat) : (⟨b, off, none⟩ : Addr).add i = ⟨b, off + i, none⟩ := by
  unfold Addr.add; split <;> simp_all

/-! ### Types -/
def aggP (P : Program) (t : TypeId) : Option (Bool × Nat) :=
  match P.underlying t, P.info? t with
  | some (.struct _), some i => some (true, i.size)
  | some (.array _ _), some i => some (true, i.size)
  | some _, some i => some (false, i.size)
  | _, _ => none

theorem run_underlying' {P : Program} {t : TypeId} {d : TypeDesc} (h : P.underlying t = some d) (w : World) : (underlying t).run P w = .ok d w := by
  simp [underlying, program, Sem.run, h]
theorem run_typeInfo' {P : Program} {t : TypeId} {i : TypeInfo} (h : P.info? t = some i) (w : World) : (typeInfo t).run P w = .ok i w := by
  simp [typeInfo, program, Sem.run, h]

theorem run_isAgg' {P : Program} {t : TypeId} {ag : Bool} {sz : Nat} (h : aggP P t = some (ag, sz)) (w : World) : (isAgg t).run P w = .ok ag w := by
  unfold aggP at h
  split at h <;> simp at h <;> (rename_i h1 h2; simp [isAgg, run_underlying' h1])
  · exact h.1
  · exact h.1
  · rename_i d hne hne2 _
    obtain ⟨rfl, _⟩ := h
    cases d <;> simp_all
theorem run_sizeOf' {P : Program} {t : TypeId} {ag : Bool} {sz : Nat} (h : aggP P t = some (ag, sz)) (w : World) : (sizeOf t).run P w = .ok sz w := by
  unfold aggP at h
  split at h <;> simp at h <;> (rename_i h1 h2; simp [sizeOf, run_typeInfo' h2, h.2])

/-! ### Loading -/
theorem run_loadFrom {P : Program} {w : World} {b off : Nat} {u : Nat → Value} : ∀ (n i : Nat) (acc : Array Value), (∀ j, j < n → w.cell? ⟨b, off + (i + j), none⟩ = some (u (i + j))) →
    (loadCellsFrom ⟨b, off, none⟩ i n acc).run P w = .ok (acc ++ ((List.range' i n).map u).toArray) w := by
  intro n
  induction n with
  | zero => intro i acc _; simp [loadCellsFrom]
  | succ n ih =>
    intro i acc h
    have h0 := h 0 (by omega)
    simp only [Nat.add_zero] at h0
    simp only [loadCellsFrom, Sem.run_bind, run_load, addr_add, h0, Result.andThen_ok]
    rw [ih (i + 1) _ (fun j hj => by have := h (j + 1) (by omega); rwa [show i + (j + 1) = i + 1 + j from by omega] at this)]
    simp [List.range'_succ]

theorem run_loadCells {P : Program} {w : World} {b off n : Nat} {u : Nat → Value} (h : ∀ j, j < n → w.cell? ⟨b, off + j, none⟩ = some (u j)) :
    (loadCells ⟨b, off, none⟩ n).run P w = .ok ((List.range n).map u).toArray w := by
  unfold loadCells
  rw [run_loadFrom (u := u) n 0 #[] (fun j hj => by simpa using h j hj)]
  simp [List.range_eq_range']

/-- The cells at an address read so. -/
def Place (w : World) (I : Nat → Prop) (κ : Nat → Option KI) (v : Value) (cs : List AVal) : Prop :=
  ∃ b off, v = .pointer (some ⟨b, off, none⟩) ∧ ∃ u : Nat → Value, ∀ j (h : j < cs.length), w.cell? ⟨b, off + j, none⟩ = some (u j) ∧ Rep w I κ (cs[j]) (u j)

def loadA (ag : Bool) (sz : Nat) (cs : List AVal) : Option AVal :=
  match ag with
  | true => match Nat.ble sz cs.length with
    | true => some (.agg (cs.take sz))
    | false => none
  | false => cs.head?

theorem load_place {P : Program} {w : World} {I : Nat → Prop} {κ : Nat → Option KI} {v : Value} {cs : List AVal} {t : TypeId} {ag : Bool} {sz : Nat} {r : AVal}
    (h : Place w I κ v cs) (ht : aggP P t = some (ag, sz)) (hr : loadA ag sz cs = some r) : ∃ x, (Instr.loadAt t v).run P w = .ok x w ∧ Rep w I κ r x := by
  obtain ⟨b, off, rfl, u, hu⟩ := h
  simp only [Instr.loadAt, Instr.sureAddr, pure_bind, loadVar, Sem.run_bind, run_isAgg' ht, Result.andThen_ok]
  cases ag with
  | true =>
    simp only [loadA] at hr
    cases hb : Nat.ble sz cs.length with
    | false => rw [hb] at hr; simp at hr
    | true =>
      rw [hb] at hr
      have hle : sz ≤ cs.length := Nat.le_of_ble_eq_true hb
      obtain rfl := Option.some.inj hr
      simp only [if_true, Sem.run_bind, run_sizeOf' ht, Result.andThen_ok, run_loadCells (u := u) (n := sz) (fun j hj => (hu j (by omega)).1), Sem.run_pure]
      refine ⟨_, rfl, .agg (by simp; omega) (fun j h h' => ?_)⟩
      simp only [List.length_take] at h
      rw [List.getElem_take, List.getElem_map, List.getElem_range]
      exact (hu j (by omega)).2
  | false =>
    simp only [loadA] at hr
    cases cs with
    | nil => simp at hr
    | cons c cs =>
      obtain rfl := Option.some.inj hr
      have := hu 0 (by simp)
      simp only [Nat.add_zero] at this
      exact ⟨u 0, by simp [run_load, this.1], this.2⟩

theorem place_ip {w : World} {I : Nat → Prop} {κ : Nat → Option KI} {cells : List Im} {v : Value} (h : Rep w I κ (.ip cells) v) : Place w I κ v (cells.map .im) := by
  cases h with
  | ip u hI hc hr => exact ⟨_, _, rfl, u, fun j h => by simp only [List.length_map] at h; rw [List.getElem_map]; exact ⟨hc j h, .im (hr j h)⟩⟩

theorem cell_of {w : World} {b off : Nat} {arr : Array Value} {el : TypeId} {fz : Nat × Nat} (h : w.heap[b]? = some (.cells arr el fz)) : w.cell? ⟨b, off, none⟩ = arr[off]? := by
  simp [World.cell?, h]

theorem place_box {w : World} {I : Nat → Prop} {κ : Nat → Option KI} {k j el : Nat} {cells : List AVal} {v : Value} (h : Rep w I κ (.ptr k 0 j) v) (ho : OAt w I κ k (.box el cells)) :
    Place w I κ v (cells.drop j) := by
  cases h with
  | @ptr _ _ _ ki e =>
    simp only [OAt, e, ORep] at ho
    obtain ⟨_, _, arr, h3, h4, h5⟩ := ho
    refine ⟨ki.b, 0 * ki.sz + j, rfl, fun i => arr[j + i]?.getD undef, fun i hi => ?_⟩
    simp only [List.length_drop] at hi
    obtain ⟨v, e1, r1⟩ := h5 (j + i) (by omega)
    rw [cell_of h3, List.getElem_drop, Nat.zero_mul, Nat.zero_add]
    exact ⟨by simp [e1], by simpa [e1] using r1⟩

theorem place_row {w : World} {I : Nat → Prop} {κ : Nat → Option KI} {k e j sz el : Nat} {es : List (List Im)} {c : List Im} {v : Value} (h : Rep w I κ (.ptr k e j) v)
    (ho : OAt w I κ k (.row sz el es)) (hc : es[e]? = some c) : Place w I κ v ((c.drop j).map .im) := by
  cases h with
  | @ptr _ _ _ ki ek =>
    simp only [OAt, ek, ORep] at ho
    obtain ⟨h1, _, _, arr, h3, h4, h5⟩ := ho
    obtain ⟨he, rfl⟩ := List.getElem?_eq_some_iff.1 hc
    obtain ⟨hl, h6⟩ := h5 e he
    refine ⟨ki.b, e * ki.sz + j, rfl, fun i => arr[e * sz + (j + i)]?.getD undef, fun i hi => ?_⟩
    simp only [List.length_map, List.length_drop] at hi
    obtain ⟨v, e1, r1⟩ := h6 (j + i) (by omega)
    rw [cell_of h3, List.getElem_map, List.getElem_drop, h1, Nat.add_assoc]
    exact ⟨by simp [e1], by simpa [e1] using Rep.im r1⟩

/-! ### Storing -/
def leafV : Value → Bool
  | .agg _ => false
  | .tuple _ => false
  | _ => true

def AVal.leaf : AVal → Bool
  | .im (.sc v) => leafV v
  | .im (.row _) => true
  | .none0 => true
  | .own _ => true
  | .cut .. => true
  | .ptr .. => true
  | .ip _ => true
  | .fn .. => true
  | _ => false

theorem leaf_rep {w : World} {I : Nat → Prop} {κ : Nat → Option KI} {x : AVal} {v : Value} (h : Rep w I κ x v) (hl : x.leaf = true) : leafV v = true := by
  cases h <;> try (first | rfl | simp [AVal.leaf] at hl)
  rename_i x hx
  cases hx <;> first | exact hl | rfl

def setMany (arr : Array Value) (off : Nat) : List Value → Array Value
  | [] => arr
  | v :: r => setMany (arr.setIfInBounds off v) (off + 1) r

theorem setMany_size (vs : List Value) : ∀ (arr : Array Value) (off : Nat), (setMany arr off vs).size = arr.size := by
  induction vs with
  | nil => intro arr off; rfl
  | cons v r ih => intro arr off; simp [setMany, ih]

theorem setMany_get (vs : List Value) : ∀ (arr : Array Value) (off i : Nat), off + vs.length ≤ arr.size →
    (setMany arr off vs)[i]? = if off ≤ i ∧ i < off + vs.length then vs[i - off]? else arr[i]? := by
  induction vs with
  | nil => intro arr off i _; simp [setMany]; omega
  | cons v r ih =>
    intro arr off i h
    simp only [List.length_cons] at h
    rw [setMany, ih _ _ _ (by simp; omega), Array.getElem?_setIfInBounds]
    simp only [List.length_cons]
    by_cases h1 : off + 1 ≤ i ∧ i < off + 1 + r.length
    · rw [if_pos h1, if_pos (by omega)]
      obtain ⟨m, rfl⟩ : ∃ m, i = off + 1 + m := ⟨i - (off + 1), by omega⟩
      rw [show off + 1 + m - off = m + 1 from by omega, show off + 1 + m - (off + 1) = m from by omega]; simp
    · rw [if_neg h1]
      by_cases h2 : off = i
      · subst h2; rw [if_pos rfl, if_pos (by omega), if_pos (by omega)]; simp
      · rw [if_neg h2, if_neg (by omega)]

def World.setBlock (w : World) (b : Nat) (o : Obj) : World := { w with heap := w.heap.setIfInBounds b o }

theorem setBlock_get (w : World) (b : Nat) (o : Obj) (b' : Nat) (h : b < w.heap.size) : (World.setBlock w b o).heap[b']? = if b = b' then some o else w.heap[b']? := by
  simp only [World.setBlock, Array.getElem?_setIfInBounds]
  by_cases e : b = b'
  · subst e; simp [h]
  · simp [e]
theorem setBlock_size (w : World) (b : Nat) (o : Obj) : (World.setBlock w b o).heap.size = w.heap.size := by simp [World.setBlock]

theorem modify_eq_set {w : World} {b off : Nat} {v : Value} {arr : Array Value} {el : TypeId} (h : w.heap[b]? = some (.cells arr el (0, 0))) :
    w.setCell ⟨b, off, none⟩ v = World.setBlock w b (.cells (arr.setIfInBounds off v) el (0, 0)) := by
  obtain ⟨hb, he⟩ := Array.getElem?_eq_some_iff.1 h
  unfold World.setCell World.setBlock
  congr 1
  ext1
  · simp
  · rename_i i h1 h2
    by_cases e : b = i
    · subst e; simp [Array.getElem_modify, he]
    · have : (w.heap.setIfInBounds b (.cells (arr.setIfInBounds off v) el))[i]? = w.heap[i]? := by rw [Array.getElem?_setIfInBounds, if_neg e]
      have h3 : i < w.heap.size := by simpa using h2
      rw [Array.getElem?_eq_getElem h2, Array.getElem?_eq_getElem h3] at this
      rw [Array.getElem_modify, if_neg e]
      exact (Option.some.inj this).symm

theorem setBlock_setBlock (w : World) (b : Nat) (o o' : Obj) : World.setBlock (World.setBlock w b o) b o' = World.setBlock w b o' := by
  simp [World.setBlock]

theorem run_storeCells {P : Program} {b : Nat} {el : TypeId} : ∀ (vs : List Value) (w : World) (arr : Array Value) (off i : Nat), w.heap[b]? = some (.cells arr el (0, 0)) → off + i + vs.length ≤ arr.size →
    (∀ v ∈ vs, leafV v = true) → vs ≠ [] → (storeCells ⟨b, off, none⟩ vs i).run P w = .ok () (World.setBlock w b (.cells (setMany arr (off + i) vs) el (0, 0))) := by
  intro vs
  induction vs with
  | nil => intro w arr off i _ _ _ h; exact absurd rfl h
  | cons v r ih =>
    intro w arr off i h hs hl _
    simp only [List.length_cons] at hs
    have hcell : w.cell? ⟨b, off + i, none⟩ = some (arr[off + i]'(by omega)) := by rw [cell_of h]; simp
    have hfz : w.frozen? ⟨b, off + i, none⟩ = false := by simp [World.frozen?, h]
    have hst : (store ⟨b, off + i, none⟩ v).run P w = .ok () (World.setBlock w b (.cells (arr.setIfInBounds (off + i) v) el (0, 0))) := by
      have hv := hl v (by simp)
      rw [← modify_eq_set h]
      cases v <;> first
        | (simp [leafV] at hv; done)
        | simp only [store, Sem.run, hcell, hfz, Bool.false_eq_true, if_false]
    simp only [storeCells, Sem.run_bind, addr_add, hst, Result.andThen_ok]
    have hb : b < w.heap.size := (Array.getElem?_eq_some_iff.1 h).1
    have h' : (World.setBlock w b (.cells (arr.setIfInBounds (off + i) v) el (0, 0))).heap[b]? = some (.cells (arr.setIfInBounds (off + i) v) el (0, 0)) := by
      rw [setBlock_get _ _ _ _ hb, if_pos rfl]
    cases r with
    | nil => simp [storeCells, setMany]
    | cons v' r =>
      rw [ih _ _ off (i + 1) h' (by simp at hs ⊢; omega) (fun x hx => hl x (by simp [hx])) (by simp), setBlock_setBlock]
      rfl

/-! ### An object that is written -/
theorem Inv.update {Γ : Ctx} {κ : Nat → Option KI} {I : Nat → Prop} {s : AState} {w : World} {k : Nat} {o o' : MObj} {ki : KI} {ob : Obj} (h : Inv Γ κ I s w)
    (hk : s.obj k = some o) (hκ : κ k = some ki) (ho' : ORep (World.setBlock w ki.b ob) I κ ki o') :
    Inv Γ κ I (s.objput [(k, some o')]) (World.setBlock w ki.b ob) ∧ ∀ b, I b → (World.setBlock w ki.b ob).heap[b]? = w.heap[b]? := by
  have hb : ki.b < w.heap.size := by
    have := h.objs k o hk
    simp only [OAt, hκ] at this
    cases o with
    | row => obtain ⟨_, _, _, arr, h3, _⟩ := this; exact (Array.getElem?_eq_some_iff.1 h3).1
    | box => obtain ⟨_, _, arr, h3, _⟩ := this; exact (Array.getElem?_eq_some_iff.1 h3).1
  have hne : ∀ b, b ≠ ki.b → (World.setBlock w ki.b ob).heap[b]? = w.heap[b]? := fun b hb' => by rw [setBlock_get _ _ _ _ hb, if_neg (fun e => hb' e.symm)]
  have hI : ∀ b, I b → (World.setBlock w ki.b ob).heap[b]? = w.heap[b]? := fun b hb' => hne b (fun e => h.disj k o ki hk hκ (e ▸ hb'))
  have hobj : ∀ k' o'', (s.objput [(k, some o')]).obj k' = some o'' → (k' = k ∧ o'' = o') ∨ (k' ≠ k ∧ s.obj k' = some o'') := by
    intro k' o'' e
    rw [AState.obj_objput, look_cons] at e
    by_cases ek : k = k'
    · rw [if_pos ek] at e; simp at e; exact .inl ⟨ek.symm, e.symm⟩
    · rw [if_neg ek] at e; exact .inr ⟨fun h => ek h.symm, e⟩
  have hold : ∀ k', (∃ o'', (s.objput [(k, some o')]).obj k' = some o'') → ∃ o'', s.obj k' = some o'' := by
    rintro k' ⟨o'', e⟩
    rcases hobj k' o'' e with ⟨rfl, _⟩ | ⟨_, e⟩
    · exact ⟨o, hk⟩
    · exact ⟨o'', e⟩
  refine ⟨⟨?_, ?_, ?_, ?_, ?_, h.ikeep, h.fromI, ?_, h.fix⟩, hI⟩
  · intro k' o'' e
    rcases hobj k' o'' e with ⟨rfl, rfl⟩ | ⟨hkk, e⟩
    · simp only [OAt, hκ]; exact ho'
    · have := h.objs k' o'' e
      unfold OAt at this ⊢
      split
      · rename_i eκ; rw [eκ] at this; exact this
      · rename_i ki' eκ
        rw [eκ] at this
        exact this.mono (fun _ h => h) hI (hne _ (fun eb => hkk (h.inj k' k o'' o ki' ki e hk eκ hκ eb))) (fun _ _ => rfl)
  · intro k1 k2 o1 o2 ki1 ki2 e1 e2
    obtain ⟨o1', e1'⟩ := hold k1 ⟨o1, e1⟩
    obtain ⟨o2', e2'⟩ := hold k2 ⟨o2, e2⟩
    exact h.inj k1 k2 o1' o2' ki1 ki2 e1' e2'
  · intro k1 o1 ki1 e1
    obtain ⟨o1', e1'⟩ := hold k1 ⟨o1, e1⟩
    exact h.disj k1 o1' ki1 e1'
  · intro b hb'; rw [setBlock_size]; exact h.bound b hb'
  · refine ⟨h.keep.os, h.keep.tape, h.keep.output, by rw [setBlock_size]; exact h.keep.size, fun b hb' hn => ?_⟩
    rw [hne b, h.keep.block b hb' hn]
    rintro rfl
    rcases h.fromO k o ki hk hκ with hm | hm
    · exact hn hm
    · omega
  · intro k1 o1 ki1 e1
    obtain ⟨o1', e1'⟩ := hold k1 ⟨o1, e1⟩
    exact h.fromO k1 o1' ki1 e1'

end Go.Pv
