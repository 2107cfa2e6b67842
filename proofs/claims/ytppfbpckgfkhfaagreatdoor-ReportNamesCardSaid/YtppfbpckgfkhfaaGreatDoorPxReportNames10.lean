import Derived.ChangeOld
import Derived.ChangeShapes
import Derived.LaidLaws
import Derived.Lib.LaidU8
import Derived.OpenShut
import Derived.RowKit
import Derived.WideShapes
import Derived.Test.YtppfbpckgfkhfaaGreatDoorPxReportNames09
set_option linter.unusedVariables false
set_option linter.unusedSimpArgs false
namespace Go.Pv
def shFs (S : TypeId → List Im → Prop) : List Field → List Im → Prop
  | [], ims => ims = []
  | f :: fs, ims => ∃ a b, ims = a ++ b ∧ S f.type a ∧ shFs S fs b
def Shaped (P : Program) : Nat → TypeId → List Im → Prop
  | 0, _, _ => False
  | n + 1, t, ims => match P.underlying t with
    | some .bool => ∃ b, ims = [.sc (.bool b)]
    | some (.int k) => ∃ m, ims = [.sc (.int k m)] ∧ (Lit.int k m).wf = true
    | some .string => ∃ s, ims = [.sc (.string s)] ∧ s.size ≤ maxLen
    | some (.slice e) => ∃ es, ims = [.row es] ∧ es.length ≤ maxLen ∧ ∀ c ∈ es, Shaped P n e c
    | some (.struct fs) => shFs (Shaped P n) fs.toList ims
    | _ => False
def tiles (P : Program) : Nat → List Field → Option Nat
  | o, [] => some o
  | o, f :: fs => match Nat.beq f.offset o with
    | true => tiles P (o + P.cellsOf f.type) fs
    | false => none
def goodT (P : Program) : Nat → TypeId → Bool
  | 0, _ => false
  | n + 1, t => match P.underlying t with
    | some .bool => true
    | some (.int _) => true
    | some .string => true
    | some (.slice e) => Nat.blt 0 (P.cellsOf e) && goodT P n e
    | some (.struct fs) => (match tiles P 0 fs.toList with | some m => Nat.beq m (P.cellsOf t) | none => false) && fs.toList.all fun f => goodT P n f.type
    | _ => false
theorem mapM_mem {α β : Type} {f : α → Option β} : ∀ {l : List α} {r : List β}, l.mapM f = some r → ∀ a ∈ l, ∃ b, f a = some b := by
  intro l
  induction l with
  | nil => intro r h a ha; simp at ha
  | cons x l ih =>
    intro r h a ha
    rw [List.mapM_cons] at h
    cases hx : f x with
    | none => rw [hx] at h; simp at h
    | some y =>
      rw [hx] at h
      cases hl : l.mapM f with
      | none => rw [hl] at h; simp at h
      | some r' =>
        rcases List.mem_cons.1 ha with rfl | ha
        · exact ⟨y, hx⟩
        · exact ih hl a ha
theorem mapM_len {α β : Type} {f : α → Option β} : ∀ {l : List α} {r : List β}, l.mapM f = some r → r.length = l.length := by
  intro l
  induction l with
  | nil => intro r h; simp at h; subst h; rfl
  | cons x l ih =>
    intro r h
    rw [List.mapM_cons] at h
    cases hx : f x with
    | none => rw [hx] at h; simp at h
    | some y =>
      rw [hx] at h
      cases hl : l.mapM f with
      | none => rw [hl] at h; simp at h
      | some r' => rw [hl] at h; simp at h; subst h; simp [ih hl]
theorem mapM_get {α β : Type} {f : α → Option β} : ∀ {l : List α} {r : List β}, l.mapM f = some r → ∀ i (h : i < l.length) (h' : i < r.length), f l[i] = some r[i] := by
  intro l
  induction l with
  | nil => intro r h i hi; simp at hi
  | cons x l ih =>
    intro r h i hi hi'
    rw [List.mapM_cons] at h
    cases hx : f x with
    | none => rw [hx] at h; simp at h
    | some y =>
      rw [hx] at h
      cases hl : l.mapM f with
      | none => rw [hl] at h; simp at h
      | some r' =>
        rw [hl] at h; simp at h; subst h
        cases i with
        | zero => simpa using hx
        | succ i => simpa using ih hl i (by simpa using hi) (by simpa using hi')
abbrev IH (w : World) : Nat → Prop := fun b => b < w.heap.size
theorem cell_lt {w : World} {a : Addr} {v : Value} (h : w.cell? a = some v) : a.block < w.heap.size ∧ a.spot = none := by
  unfold World.cell? at h
  split at h
  · rename_i c el fz hb
    refine ⟨(Array.getElem?_eq_some_iff.1 hb).1, ?_⟩
    split at h
    · simp at h
    · rename_i hs; simpa using hs
  · simp at h
def Rd (P : Program) (w : World) (n : Nat) (t : TypeId) (cs : List Value) : Prop :=
  ∃ ims : List Im, ims.length = cs.length ∧ (∀ j (h : j < ims.length) (h' : j < cs.length), IRep w (IH w) (ims[j]) (cs[j])) ∧ Shaped P n t ims
theorem rd_one {P : Program} {w : World} {n : Nat} {t : TypeId} {v : Value} {x : Im} (h : IRep w (IH w) x v) (hs : Shaped P n t [x]) : Rd P w n t [v] :=
  ⟨[x], rfl, fun j h1 h2 => by simp at h1; subst h1; simpa using h, hs⟩
theorem rd_fs {P : Program} {w : World} {n : Nat} {cs : List Value} : ∀ (fs : List Field) (o m : Nat), tiles P o fs = some m → m ≤ cs.length → (∀ f ∈ fs, (f.offset + P.cellsOf f.type ≤ cs.length → Rd P w n f.type ((cs.drop f.offset).take (P.cellsOf f.type)))) →
    ∃ ims : List Im, o + ims.length = m ∧ (∀ j (h : j < ims.length) (h' : o + j < cs.length), IRep w (IH w) (ims[j]) (cs[o + j])) ∧ shFs (Shaped P n) fs ims := by
  intro fs
  induction fs with
  | nil => intro o m h hm _; simp [tiles] at h; subst h; exact ⟨[], by simp, fun j h => by simp at h, rfl⟩
  | cons f fs ih =>
    intro o m h hm hf
    unfold tiles at h
    split at h
    · rename_i hb
      have ho := Nat.eq_of_beq_eq_true hb
      obtain ⟨ims, h1, h2, h3⟩ := ih _ m h hm (fun g hg => hf g (List.mem_cons_of_mem _ hg))
      obtain ⟨a, a1, a2, a3⟩ := hf f List.mem_cons_self (by rw [ho]; omega)
      have hal : a.length = P.cellsOf f.type := by rw [a1, List.length_take, List.length_drop, ho]; omega
      refine ⟨a ++ ims, by rw [List.length_append]; omega, fun j hj hj' => ?_, a, ims, rfl, a3, h3⟩
      by_cases hlt : j < a.length
      · rw [List.getElem_append_left hlt]
        have := a2 j hlt (by rw [← a1]; exact hlt)
        rw [List.getElem_take, List.getElem_drop] at this
        simpa [ho] using this
      · rw [List.getElem_append_right (by omega)]
        rw [List.length_append] at hj
        have := h2 (j - a.length) (by omega) (by omega)
        have e : o + P.cellsOf f.type + (j - a.length) = o + j := by omega
        simpa [e] using this
    · simp at h
theorem read {H : Type} {enc : TypeId × Value → H} {P : Program} {w : World} {sp : Nat → Bool} : ∀ (n : Nat) (t : TypeId), goodT P n t = true → ∀ (fuel : Nat) (cs : List Value) (x : DataW H × List MemPlace), DataW.trod enc P w 0 sp true fuel t cs = some x → Rd P w n t cs := by
  intro n
  induction n with
  | zero => intro t h; simp [goodT] at h
  | succ n ih =>
    intro t hg fuel cs x h
    cases fuel with
    | zero => simp [DataW.trod] at h
    | succ fuel =>
      unfold goodT at hg
      unfold DataW.trod at h
      split at hg
      · rename_i hu
        rw [hu] at h
        split at h <;> simp_all
        exact rd_one (.sc _) (by simp [Shaped, hu])
      · rename_i k hu
        rw [hu] at h
        split at h <;> simp_all
        obtain ⟨⟨rfl, hwf⟩, _⟩ := h
        exact rd_one (.sc _) (by simp [Shaped, hu, hwf])
      · rename_i hu
        rw [hu] at h
        split at h <;> simp_all
        exact rd_one (.sc _) (by simp [Shaped, hu, h.1])
      · rename_i e hu
        rw [hu] at h
        simp only [Bool.and_eq_true, Nat.blt_eq] at hg
        obtain ⟨hsz, hge⟩ := hg
        rcases cs with _ | ⟨v, _ | ⟨v2, cs⟩⟩
        · simp at h
        · cases v with
          | slice base len cap =>
            cases base with
            | none =>
              cases len with
              | zero => exact rd_one (.row0 none cap) (by simp [Shaped, hu])
              | succ len => simp at h
            | some a =>
              simp only at h
              split at h
              · rename_i hc
                obtain ⟨_, hlc, hcm⟩ := hc
                generalize hel : (List.range len).mapM (fun i => (w.cells? 0 (a.add (i * P.cellsOf e)) (P.cellsOf e)).bind (DataW.trod enc P w 0 sp true fuel e)) = els at h
                cases els with
                | none => simp at h
                | some els =>
                  clear h
                  have hlen := mapM_len hel
                  have hat : ∀ i, i < len → ∃ ci, w.cells? 0 (a.add (i * P.cellsOf e)) (P.cellsOf e) = some ci ∧ Rd P w n e ci := by
                    intro i hi
                    obtain ⟨y, hy⟩ := mapM_mem hel i (List.mem_range.2 hi)
                    cases hci : w.cells? 0 (a.add (i * P.cellsOf e)) (P.cellsOf e) with
                    | none => rw [hci] at hy; simp at hy
                    | some ci => rw [hci] at hy; exact ⟨ci, rfl, ih e hge fuel ci y hy⟩
                  have hex : ∀ i : Nat, ∃ ims : List Im, i < len → ims.length = P.cellsOf e ∧ (∀ j (h : j < ims.length), ∃ u, w.cell? ((a.add (i * P.cellsOf e)).add j) = some u ∧ IRep w (IH w) (ims[j]) u) ∧ Shaped P n e ims := by
                    intro i
                    by_cases hi : i < len
                    · obtain ⟨ci, h1, ims, h2, h3, h4⟩ := hat i hi
                      unfold World.cells? at h1
                      rw [if_pos (Nat.zero_le _)] at h1
                      have hcl := mapM_len h1
                      rw [List.length_range] at hcl
                      refine ⟨ims, fun _ => ⟨h2.trans hcl, fun j hj => ?_, h4⟩⟩
                      have hj' : j < ci.length := by omega
                      have := mapM_get h1 j (by rw [List.length_range]; omega) hj'
                      rw [List.getElem_range] at this
                      exact ⟨_, this, h3 j hj hj'⟩
                    · exact ⟨[], fun h => absurd h hi⟩
                  obtain ⟨f, hf⟩ := Classical.axiomOfChoice hex
                  have hes : ((List.range len).map f).length = len := by simp
                  by_cases h0 : len = 0
                  · subst h0
                    exact rd_one (.row0 (some a) cap) (by simp [Shaped, hu])
                  · obtain ⟨q1, q2, _⟩ := hf 0 (by omega)
                    obtain ⟨u0, hu0, _⟩ := q2 0 (by omega)
                    have ha0 : (a.add (0 * P.cellsOf e)).add 0 = a := by simp [Addr.add]
                    rw [ha0] at hu0
                    obtain ⟨hb, hsp⟩ := cell_lt hu0
                    obtain ⟨b, off, spot⟩ := a
                    simp only at hsp hb
                    subst hsp
                    have hadd : ∀ i j, ((⟨b, off, none⟩ : Addr).add (i * P.cellsOf e)).add j = ⟨b, off + (i * P.cellsOf e + j), none⟩ := by
                      intro i j; rw [addr_add, addr_add, Nat.add_assoc]
                    have hwidth : ∀ i (h : i < ((List.range len).map f).length), (((List.range len).map f)[i]).length = P.cellsOf e := by
                      intro i hi
                      rw [List.getElem_map, List.getElem_range]
                      exact (hf i (by omega)).1
                    refine rd_one (x := .row ((List.range len).map f)) (.row (sz := P.cellsOf e) (fun i j => (w.cell? ⟨b, off + (i * P.cellsOf e + j), none⟩).getD undef) hes.symm hb hlc hwidth ?_ ?_) ?_
                    · intro i j hi hj
                      obtain ⟨r1, r2, _⟩ := hf i (by omega)
                      obtain ⟨u, hu', _⟩ := r2 j (by omega)
                      rw [hadd] at hu'
                      rw [hu']; rfl
                    · intro i hi j hj
                      obtain ⟨r1, r2, _⟩ := hf i (by omega)
                      rw [hwidth i hi] at hj
                      obtain ⟨u, hu', hr⟩ := r2 j (by omega)
                      rw [hadd] at hu'
                      rw [hu']
                      simpa using hr
                    · unfold Shaped
                      rw [hu]
                      refine ⟨_, rfl, by rw [hes]; omega, fun c hc => ?_⟩
                      obtain ⟨i, hi, rfl⟩ := List.mem_map.1 hc
                      exact (hf i (List.mem_range.1 hi)).2.2
              · simp at h
          | _ => simp at h
        · simp at h
      · rename_i fs hu
        rw [hu] at h
        simp only [Bool.and_eq_true] at hg
        obtain ⟨ht, hall⟩ := hg
        split at ht
        · rename_i m hm
          obtain rfl := Nat.eq_of_beq_eq_true ht
          simp only at h
          split at h
          · rename_i hlen
            generalize hxs : (fs.toList.mapM fun f => DataW.trod enc P w 0 sp true fuel f.type ((cs.drop f.offset).take (P.cellsOf f.type))) = xs at h
            cases xs with
            | none => simp at h
            | some xs =>
              obtain ⟨ims, h1, h2, h3⟩ := rd_fs (P := P) (w := w) (n := n) (cs := cs) fs.toList 0 _ hm (by omega) (fun f hf _ => by
                obtain ⟨y, hy⟩ := mapM_mem hxs f hf
                exact ih f.type (List.all_eq_true.1 hall f hf) fuel _ y hy)
              refine ⟨ims, by omega, fun j hj hj' => by have := h2 j hj (by omega); simpa using this, ?_⟩
              unfold Shaped
              rw [hu]; exact h3
          · simp at h
        · simp at ht
      · simp at hg
end Go.Pv
set_option linter.unusedVariables false
set_option linter.unusedSimpArgs false
namespace Go.Pv
open Go.WideShapes Go.ChangeShapes Go.RowKit
def aggT (P : Program) (t : TypeId) : Bool := match P.underlying t with
  | some (.struct _) => true
  | _ => false
def argA : Bool → List Im → AVal
  | true, ims => .agg (ims.map .im)
  | false, x :: _ => .im x
  | false, [] => .top
theorem arg_one {w : World} {κ : Nat → Option KI} {ims : List Im} {v : Value} (hc : v.cells = #[v]) (h1 : ims.length = v.cells.toList.length)
    (h2 : ∀ j (h : j < ims.length) (h' : j < v.cells.toList.length), IRep w (IH w) (ims[j]) (v.cells.toList[j])) : Rep w (IH w) κ (argA false ims) v := by
  rw [hc] at h1
  obtain ⟨x, rfl⟩ : ∃ x, ims = [x] := List.length_eq_one_iff.1 h1
  have := h2 0 (by simp) (by rw [hc]; simp)
  simp only [hc] at this
  exact .im this
theorem arg_open {H : Type} {enc : TypeId × Value → H} {P : Program} {W : World} {sp : Nat → Bool} {r : Reach} {base : Nat} {t : TypeId} {v : Value} {d : DataW H} {ps : List MemPlace} {b : Bool} (n : Nat)
    (hv : Value.okWide P W r base t v) (hg : goodT P n t = true) (hb : aggT P t = b) (hd : DataW.Trod enc P W 0 sp true t v d ps) (κ : Nat → Option KI) :
    ∃ ims, Rep W (IH W) κ (argA b ims) v ∧ Shaped P n t ims := by
  obtain ⟨fuel, hf⟩ := hd
  obtain ⟨ims, h1, h2, h3⟩ := read n t hg fuel _ _ hf
  refine ⟨ims, ?_, h3⟩
  cases n with
  | zero => simp [goodT] at hg
  | succ n =>
    unfold goodT at hg
    unfold aggT at hb
    split at hg
    · rename_i hu
      rw [hu] at hb; subst hb
      obtain ⟨x, rfl⟩ := okWide_bool hu hv
      exact arg_one rfl h1 h2
    · rename_i k hu
      rw [hu] at hb; subst hb
      obtain ⟨x, rfl⟩ := okWide_int hu hv
      exact arg_one rfl h1 h2
    · rename_i hu
      rw [hu] at hb; subst hb
      obtain ⟨x, rfl⟩ : ∃ x, v = .string x := by
        simp only [Value.okWide, hu, Cell.okWide] at hv
        cases v <;> simp_all [Cell.ok]
      exact arg_one rfl h1 h2
    · rename_i e hu
      rw [hu] at hb; subst hb
      obtain ⟨a, len, cap, rfl⟩ := okWide_slice hu hv
      exact arg_one rfl h1 h2
    · rename_i fs hu
      rw [hu] at hb; subst hb
      obtain ⟨cs, rfl, _⟩ := okWide_struct hu hv
      show Rep W (IH W) κ (.agg (ims.map .im)) _
      have := Rep.agg (w := W) (I := IH W) (κ := κ) (cells := ims.map .im) (vs := cs.toList) (by simpa [Value.cells] using h1.symm) (fun j h h' => by
        rw [List.getElem_map]
        exact .im (h2 j (by simpa using h) (by simpa [Value.cells] using h')))
      simpa using this
    · simp at hg
def Opn (P : Program) (t : TypeId) {α : Type} (enc : α → List Im) (R : α → Prop) : Prop := ∀ n ims, Shaped P n t ims → ∃ x, ims = enc x ∧ R x
section
variable {P : Program} {t : TypeId}
theorem opn_int {k : IntKind} (R : Int → Prop) (hR : ∀ m, (Lit.int k m).wf = true → R m) (h : P.underlying t = some (.int k)) : Opn P t (encInt k) R := by
  intro n ims hs
  cases n with
  | zero => exact absurd hs (by simp [Shaped])
  | succ n => unfold Shaped at hs; rw [h] at hs; obtain ⟨b, rfl, hw⟩ := hs; exact ⟨b, rfl, hR b hw⟩
end
theorem wf_i64 (m : Int) (h : (Lit.int .i64 m).wf = true) : I64 m := by simp [Lit.wf, IntKind.min, IntKind.max, IntKind.signed, IntKind.bits] at h; constructor <;> omega
end Go.Pv
set_option linter.unusedVariables false
set_option linter.unusedSimpArgs false
namespace Go.Pv
theorem keys_ok {P : Program} (ks : List Nat) (h : (List.range P.globals.size).all (fun g => (globTab P g).isNone || ks.contains g) = true) (g : Nat) (cs : List Value) (e : globTab P g = some cs) : g ∈ ks := by
  have hg : g < P.globals.size := by
    unfold globTab at e
    split at e
    · rename_i x hx
      exact (Array.getElem?_eq_some_iff.1 hx).1
    · cases e
  have := List.all_eq_true.1 h g (List.mem_range.2 hg)
  rw [e] at this
  simpa using this
theorem ifs_ok {P : Program} (ks : List Nat) (h : (List.range P.globals.size).all (fun g => !globIf P g || ks.contains g) = true) (g : Nat) (e : globIf P g = true) : g ∈ ks := by
  have hg : g < P.globals.size := by
    unfold globIf at e
    split at e
    · rename_i x hx
      exact (Array.getElem?_eq_some_iff.1 hx).1
    · cases e
  have := List.all_eq_true.1 h g (List.mem_range.2 hg)
  rw [e] at this
  simpa using this
theorem cells_of_strs {H : Type} {enc : TypeId × Value → H} {P : Program} {w : World} {base : Nat} {sp : Nat → Bool} {held : Bool} {fuel : Nat} {t e : TypeId} {n : Nat} {cs : List Value} {ss : List (List UInt8)} {p : List MemPlace}
    (ht : P.underlying t = some (.array n e)) (he : P.underlying e = some .string) (hce : P.cellsOf e = 1) (hct : P.cellsOf t = n)
    (h : DataW.trod enc P w base sp held fuel t cs = some (.agg (ss.map fun s => .lit (.string s)), p)) : cs = ss.map fun s => Value.string ⟨s.toArray⟩ := by
  obtain ⟨xs, m, rfl, hx, hl, hxl, hall⟩ := DataW.trod_array ht h
  have hxs : xs.map (·.1) = ss.map fun s => (DataW.lit (.string s) : DataW H) := by
    have := congrArg Prod.fst hx
    simpa using this.symm
  have hsl : ss.length = n := by
    have := congrArg List.length hxs
    simp at this; omega
  apply List.ext_getElem?
  intro i
  by_cases hi : i < n
  · have h0 := hall i hi
    rw [hce, Nat.mul_one] at h0
    obtain ⟨x, hx0⟩ : ∃ x, xs[i]? = some x := ⟨xs[i]'(by omega), List.getElem?_eq_getElem (by omega)⟩
    rw [hx0] at h0
    obtain ⟨s, hc, rfl, _⟩ := DataW.trod_string he h0
    have h1 : cs[i]? = some (.string s) := by
      have := congrArg (·[0]?) hc
      simpa [List.getElem?_take, List.getElem?_drop] using this
    have h2 : (xs.map (·.1))[i]? = some (DataW.lit (.string s.data.toList) : DataW H) := by simp [hx0]
    rw [hxs] at h2
    simp only [List.getElem?_map, Option.map_eq_some_iff, DataW.lit.injEq, Lit.string.injEq] at h2
    obtain ⟨s', hs', e'⟩ := h2
    subst e'
    simp [h1, hs']
  · rw [List.getElem?_eq_none (by omega), List.getElem?_eq_none (by simp; omega)]
theorem block_of_var {P : Program} {W : World} {name : String} {g : Nat} {cs : Array Value} (hg : P.globalNamed name = some g) (h : W.var? P name = some cs) : g < W.heap.size ∧ ∃ t m, W.heap[g]? = some (.cells cs t m) := by
  unfold World.var? at h
  rw [hg, Option.bind_some] at h
  split at h
  · rename_i c t m e
    obtain rfl := Option.some.inj h
    refine ⟨?_, t, m, e⟩
    rcases Nat.lt_or_ge g W.heap.size with h' | h'
    · exact h'
    · rw [Array.getElem?_eq_none h'] at e; cases e
  · cases h
theorem tab_ints {P : Program} {W : World} {l : List (String × DataW Unit)} (h : laidMet P l W) {name : String} {k : IntKind} {zs : List Int} (hm : (name, .agg (zs.map fun z => .lit (.int k z))) ∈ l) {g : Nat} {t e : TypeId} {n : Nat}
    (hg : P.globalNamed name = some g) (hty : (P.globals[g]?).map (·.type) = some t) (ht : P.underlying t = some (.array n e)) (he : P.underlying e = some (.int k)) (hce : P.cellsOf e = 1) (hct : P.cellsOf t = n) :
    g < W.heap.size ∧ ∃ t m, W.heap[g]? = some (.cells (zs.map fun z => Value.int k z).toArray t m) := by
  obtain ⟨g', t', cs, fuel, p, hg', ht', hvar, hd⟩ := Lib.laidMet.reads h hm
  obtain rfl := Option.some.inj (hg.symm.trans hg')
  obtain rfl := Option.some.inj (hty.symm.trans ht')
  have := Lib.cells_of_tab (zs := zs) ht he hce hct hd
  obtain ⟨cs⟩ := cs
  rw [show cs = _ from this] at hvar
  exact block_of_var hg hvar
theorem tab_strs {P : Program} {W : World} {l : List (String × DataW Unit)} (h : laidMet P l W) {name : String} {ss : List (List UInt8)} (hm : (name, .agg (ss.map fun s => .lit (.string s))) ∈ l) {g : Nat} {t e : TypeId} {n : Nat}
    (hg : P.globalNamed name = some g) (hty : (P.globals[g]?).map (·.type) = some t) (ht : P.underlying t = some (.array n e)) (he : P.underlying e = some .string) (hce : P.cellsOf e = 1) (hct : P.cellsOf t = n) :
    g < W.heap.size ∧ ∃ t m, W.heap[g]? = some (.cells (ss.map fun s => Value.string ⟨s.toArray⟩).toArray t m) := by
  obtain ⟨g', t', cs, fuel, p, hg', ht', hvar, hd⟩ := Lib.laidMet.reads h hm
  obtain rfl := Option.some.inj (hg.symm.trans hg')
  obtain rfl := Option.some.inj (hty.symm.trans ht')
  have := cells_of_strs (ss := ss) ht he hce hct hd
  obtain ⟨cs⟩ := cs
  rw [show cs = _ from this] at hvar
  exact block_of_var hg hvar
end Go.Pv
set_option linter.unusedVariables false
set_option linter.unusedSimpArgs false
namespace Go.Pv
theorem tab_if {P : Program} {W : World} {l : List (String × DataW Unit)} (h : laidMet P l W) {name nm : String} {d : DataW Unit} (hm : (name, .iface nm d) ∈ l) {g : Nat} {t : TypeId} {ms : Array (String × TypeId)}
    (hg : P.globalNamed name = some g) (hty : (P.globals[g]?).map (·.type) = some t) (ht : P.underlying t = some (.interface ms)) :
    g < W.heap.size ∧ ∃ tp p t m, W.heap[g]? = some (.cells #[.iface tp p] t m) := by
  obtain ⟨g', t', cs, fuel, p, hg', ht', hvar, hd⟩ := Lib.laidMet.reads h hm
  obtain rfl := Option.some.inj (hg.symm.trans hg')
  obtain rfl := Option.some.inj (hty.symm.trans ht')
  obtain ⟨cs⟩ := cs
  obtain ⟨_, u, v, e, _⟩ := iface_of_trod ht hd
  obtain rfl : cs = [.iface u v] := e
  obtain ⟨h1, t2, m, h2⟩ := block_of_var hg hvar
  exact ⟨h1, u, v, t2, m, h2⟩
end Go.Pv
