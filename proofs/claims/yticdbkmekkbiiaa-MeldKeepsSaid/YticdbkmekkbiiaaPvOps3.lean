import Derived.Test.YticdbkmekkbiiaaPvAppend
set_option linter.unusedVariables false
set_option linter.unusedSimpArgs false
/-! Values that are built, stores into rows, more scalars. -/
namespace Go.Pv

def toIm : AVal → Option Im
  | .im x => some x
  | .none0 => some (.row [])
  | _ => none
def toImL : List AVal → Option (List Im)
  | [] => some []
  | x :: r => match toIm x, toImL r with
    | some y, some l => some (y :: l)
    | _, _ => none

theorem toIm_rep {w : World} {I : Nat → Prop} {κ : Nat → Option KI} {x : AVal} {v : Value} {y : Im} (h : Rep w I κ x v) (hy : toIm x = some y) : IRep w I y v := by
  cases h <;> simp [toIm] at hy
  · subst hy; assumption
  · subst hy; exact .row0 _ _
theorem toImL_get : ∀ {l : List AVal} {r : List Im}, toImL l = some r → r.length = l.length ∧ ∀ j (h : j < l.length) (h' : j < r.length), toIm (l[j]) = some (r[j]) := by
  intro l
  induction l with
  | nil => intro r h; obtain rfl := Option.some.inj h; exact ⟨rfl, fun j h => absurd h (Nat.not_lt_zero _)⟩
  | cons x l ih =>
    intro r h
    simp only [toImL] at h
    split at h
    · rename_i y l' h1 h2
      obtain rfl := Option.some.inj h
      obtain ⟨g1, g2⟩ := ih h2
      refine ⟨by simp [g1], fun j hj hj' => ?_⟩
      cases j with
      | zero => exact h1
      | succ j => exact g2 j (by simpa using hj) (by simpa using hj')
    · simp at h

theorem foldl_set (vs : List Value) : ∀ (cells : Array Value) (off j : Nat), (vs.zipIdx j).foldl (fun cs (p : Value × Nat) => cs.setIfInBounds (off + p.2) p.1) cells = setMany cells (off + j) vs := by
  induction vs with
  | nil => intro cells off j; rfl
  | cons v r ih => intro cells off j; rw [List.zipIdx_cons, List.foldl_cons, ih, setMany]; rfl

theorem fill_cons {place : Nat → Option (Nat × Nat)} {cells : Array Value} {i : Nat} {v : Value} {rest : List (Nat × Value)} {off size : Nat} (hp : place i = some (off, size)) (hs : v.cells.size = size) (hf : off + size ≤ cells.size) :
    Instr.fill place cells ((i, v) :: rest) = Instr.fill place (setMany cells off v.cells.toList) rest := by
  simp only [Instr.fill, hp]
  rw [if_neg (by simp [hs]; omega)]
  congr 1
  have := foldl_set v.cells.toList cells off 0
  simp only [Nat.add_zero] at this
  rw [← this, ← Array.foldl_toList]
  simp [Array.toList_zipIdx]


theorem setMany_list (vs : List Value) (arr : Array Value) (off : Nat) (h : off + vs.length ≤ arr.size) : (setMany arr off vs).toList = splice arr.toList off vs := by
  apply List.ext_getElem?
  intro i
  rw [splice_get? (by simpa using h)]
  have := setMany_get vs arr off i h
  rw [← Array.getElem?_toList] at this
  rw [this]
  simp only [Array.getElem?_toList]

def numbered {α : Type} : Nat → List α → List (Nat × α)
  | _, [] => []
  | m, x :: r => (m, x) :: numbered (m + 1) r
theorem numbered_map {α β : Type} (f : α → β) : ∀ (l : List α) (m : Nat), (numbered m l).map (fun p => (p.1, f p.2)) = numbered m (l.map f)
  | [], _ => rfl
  | x :: r, m => by simp [numbered, numbered_map f r]

theorem fill_all {sz : Nat} : ∀ (vs : List Value) (m : Nat) (cells : Array Value), (∀ v ∈ vs, v.cells.size = sz) → cells.size = (m + vs.length) * sz →
    ∃ arr, Instr.fill (fun i => some (i * sz, sz)) cells (numbered m vs) = some arr ∧ arr.toList = cells.toList.take (m * sz) ++ vs.flatMap (·.cells.toList) := by
  intro vs
  induction vs with
  | nil => intro m cells _ h; exact ⟨cells, rfl, by simp at h; rw [← h, List.take_of_length_le (by simp)]; simp⟩
  | cons v r ih =>
    intro m cells hs h
    have hv := hs v (by simp)
    simp only [List.length_cons, Nat.add_mul] at h
    have hfit : m * sz + sz ≤ cells.size := by omega
    have hfit' : m * sz + v.cells.toList.length ≤ cells.size := by simpa [hv] using hfit
    obtain ⟨arr, h1, h2⟩ := ih (m + 1) (setMany cells (m * sz) v.cells.toList) (fun x hx => hs x (by simp [hx])) (by rw [setMany_size, h, Nat.add_mul, Nat.add_mul]; omega)
    refine ⟨arr, by rw [numbered, fill_cons rfl hv hfit]; exact h1, ?_⟩
    rw [h2, setMany_list _ _ _ hfit', List.flatMap_cons, ← List.append_assoc]
    congr 1
    have hvl : v.cells.toList.length = sz := by simpa using hv
    have hcl : cells.toList.length = cells.size := by simp
    unfold splice
    rw [List.take_left' (by rw [List.length_append, List.length_take, hvl, hcl, Nat.add_mul]; omega)]

def partsIm (s : AState) : List Operand → Option (List (List Im))
  | [] => some []
  | x :: r => match toImL (valCells (s.eval x)), partsIm s r with
    | some c, some l => some (c :: l)
    | _, _ => none
def allLen (sz : Nat) : List (List Im) → Bool
  | [] => true
  | c :: r => Nat.beq c.length sz && allLen sz r
def allLeaves (s : AState) : List Operand → Bool
  | [] => true
  | x :: r => leaves (valCells (s.eval x)) && allLeaves s r

theorem parts_flat {w : World} {I : Nat → Prop} {κ : Nat → Option KI} {s : AState} {ρ : Operand → Value} {sz : Nat} : ∀ {xs : List Operand} {cs : List (List Im)}, (∀ x ∈ xs, Rep w I κ (s.eval x) (ρ x)) → partsIm s xs = some cs → allLen sz cs = true → allLeaves s xs = true →
    (∀ v ∈ xs.map ρ, v.cells.size = sz) ∧ Flat w I sz cs ((xs.map ρ).flatMap (·.cells.toList)) ∧ cs.length = xs.length := by
  intro xs
  induction xs with
  | nil => intro cs _ h _ _; obtain rfl := Option.some.inj h; exact ⟨fun v hv => by simp at hv, ⟨by simp, fun i h => absurd h (Nat.not_lt_zero _), fun i h => absurd h (Nat.not_lt_zero _)⟩, rfl⟩
  | cons x r ih =>
    intro cs hrep hp hl hv
    simp only [partsIm] at hp
    split at hp
    · rename_i c l h1 h2
      obtain rfl := Option.some.inj hp
      simp only [allLen, allLeaves, Bool.and_eq_true] at hl hv
      obtain ⟨g1, g2, g3⟩ := ih (fun y hy => hrep y (by simp [hy])) h2 hl.2 hv.2
      obtain ⟨v1, v2, _⟩ := valCells_rep (hrep x (by simp)) hv.1
      obtain ⟨t1, t2⟩ := toImL_get h1
      have hc : c.length = sz := Nat.eq_of_beq_eq_true hl.1
      have hxs : (ρ x).cells.size = sz := by rw [v1, ← t1, hc]
      refine ⟨fun v hv => ?_, ?_, by simp [g3]⟩
      · rw [List.map_cons] at hv
        rcases List.mem_cons.1 hv with rfl | h
        · exact hxs
        · exact g1 v h
      · rw [List.map_cons, List.flatMap_cons]
        have hone : Flat w I sz [c] (ρ x).cells.toList := by
          refine ⟨by simp [hxs], fun i hi => ?_, fun i hi j hj => ?_⟩
          · have : i = 0 := by simpa using hi
            subst this; exact hc
          · have : i = 0 := by simpa using hi
            subst this
            simp only [List.getElem_cons_zero] at hj ⊢
            obtain ⟨u, e, r⟩ := v2 j (by omega)
            exact ⟨u, by simpa using e, toIm_rep r (t2 j (by omega) hj)⟩
        exact hone.append g2
    · simp at hp

theorem ok_buildSlice {P : Program} {o : Oper} {s : AState} {t e : TypeId} {n sz by_ : Nat} {parts : Array (Nat × Operand)} (k : Nat) (xs : List Operand) (cs : List (List Im)) (ho : o.op = .buildSlice t n parts) (ht : elemP P t = some (e, sz))
    (hby : bytesP P e = some (by_, sz)) (hparts : parts = (numbered 0 xs).toArray) (hn : n = xs.length) (hcs : partsIm s xs = some cs) (hlen : allLen sz cs = true) (hlv : allLeaves s xs = true) (hsmall : Nat.ble (n * sz) (2 ^ 24) = true) :
    OpOK P o (mkSp s o [] [k] (.own k) [(k, some (.row sz e cs))]) :=
  .of fun Γ κ I s2 a w hP hr hneed hf => by
    have hfk := hf k (by simp [mkSp])
    have hmem : ∀ x ∈ xs, x ∈ o.op.operands.toList := by
      intro x hx
      have key : ∀ (l : List Operand) (m : Nat), x ∈ l → x ∈ (numbered m l).map (·.2) := by
        intro l
        induction l with
        | nil => intro m h; simp at h
        | cons y r ih =>
          intro m h
          rcases List.mem_cons.1 h with rfl | h
          · simp [numbered]
          · simp only [numbered, List.map_cons, List.mem_cons]; exact .inr (ih (m + 1) h)
      simpa [ho, Op.operands, hparts] using key xs 0 hx
    obtain ⟨g1, g2, g3⟩ := parts_flat (sz := sz) (ρ := a.eval) (fun x hx => opd hr hneed x (hmem x hx) rfl) hcs hlen hlv
    obtain ⟨hu, ag, hag⟩ := elemP_inv ht
    obtain ⟨i, z, hi, hz, hb1, hb2, hb3⟩ := bytesP_inv hby
    have hle := Nat.le_of_ble_eq_true hsmall
    -- the zeros ahead
    obtain ⟨zeros, hz0, hz1⟩ : ∃ zeros : Array Value, (n * sz = 0 → zeros = #[]) ∧ (n * sz ≠ 0 → zeros = z.cells) := by
      by_cases h0 : n * sz = 0
      · exact ⟨#[], fun _ => rfl, fun h => absurd h0 h⟩
      · exact ⟨z.cells, fun h => absurd h h0, fun _ => rfl⟩
    have hzsize : ((Array.range (n * sz)).map (zeros[· % zeros.size]!)).size = n * sz := by simp
    obtain ⟨arr, ha1, ha2⟩ := fill_all (xs.map a.eval) 0 ((Array.range (n * sz)).map (zeros[· % zeros.size]!)) g1 (by rw [hzsize, hn]; simp)
    simp only [Nat.zero_mul, List.take_zero, List.nil_append] at ha2
    have hpm : parts.map (fun (p : Nat × Operand) => (p.1, a.eval p.2)) = (numbered 0 (xs.map a.eval)).toArray := by
      rw [hparts, List.map_toArray, numbered_map]
    have hrun : (execOp a.eval o).run P w = .ok (.value (.slice (some ⟨w.heap.size, 0, none⟩) n n)) (World.alloc' w (.cells arr e)) := by
      simp only [execOp, ho, Instr.buildSlice]
      have h24 : ¬ (n * sz > 2 ^ 24) := by omega
      have hpm' : (parts.map fun (x : Nat × Operand) => match x with | (i, x) => (i, a.eval x)) = (numbered 0 (xs.map a.eval)).toArray := hpm
      rw [hpm']
      simp only [Sem.run_bind, run_underlying' hu, Result.andThen_ok, run_sizeOf' hag]
      rw [if_neg h24]
      by_cases h0 : n * sz = 0
      · have hzz := hz0 h0
        subst hzz
        rw [if_pos h0]
        simp only [pure_bind, ha1]
        simp [newRow, newObj, Sem.run, World.alloc']
      · have hzz := hz1 h0
        subst hzz
        rw [if_neg h0]
        simp only [Sem.run_bind, zeroValue, run_typeInfo' hi, Result.andThen_ok, hz, pure_bind, Sem.run_pure, ha1]
        simp [newRow, newObj, Sem.run, World.alloc']
    let ki : KI := ⟨w.heap.size, n, sz, n⟩
    have hO : ORep (World.alloc' w (.cells arr e)) I (setK κ k (some ki)) ki (.row sz e cs) := by
      refine ORep.ofFlat (vs := (xs.map a.eval).flatMap (·.cells.toList)) (rest := []) ?_ (g2.mono (fun _ h => h) (fun b hb => alloc_get _ _ _ (hr.inv.bound b hb))) rfl (by simp [ki, g3, hn]) (by simp [ki, g3, hn]) ?_
      · rw [List.append_nil, ← ha2]; exact alloc_new _ _
      · rw [List.append_nil, g2.len, g3, ← hn]
    obtain ⟨q1, q2, q3⟩ := hr.inv.alloc hfk (ki := ki) rfl hO
    refine ⟨_, _, _, setK κ k (some ki), I, .inl rfl, hrun, q1, fun _ h => h, q2, q3, ?_⟩
    exact Rep.own (k := k) (ki := ki) (setK_self ..)

end Go.Pv
