import Derived.Test.YticdbkmekkbiiaaPvPtr
set_option linter.unusedVariables false
set_option linter.unusedSimpArgs false
/-! A beginning of a row of the call's own. -/
namespace Go.Pv

def xTake (k2 : Nat) (es' : List (List Im)) : Ext where
  f P o s := match o.op with
    | .slice t x none hi none => match elemP P t, s.eval x with
      | some (e, sz), .own k => match s.obj k with
        | some (.row sz' el es) => match optN s hi es.length, Nat.beq sz' sz with
          | some u, true => some ⟨[k], [k2], .own k2, [(k2, some (.row sz el es')), (k, none)], [0 ≤ u, u ≤ (es.length : Int), es' = es.take u.toNat]⟩
          | _, _ => none
        | _ => none
      | _, _ => none
    | _ => none
  ok P o s e he hp := by
    split at he
    · rename_i t x hi ho
      split at he
      · rename_i e' sz k hel hx
        split at he
        · rename_i sz' el es hk
          split at he
          · rename_i u hu hsz
            obtain rfl := Nat.eq_of_beq_eq_true hsz
            obtain rfl := Option.some.inj he
            obtain ⟨p1, p2, rfl, _⟩ := hp
            obtain ⟨hun, ag, hag⟩ := elemP_inv hel
            refine .of fun Γ κ I s2 a w hP hrel hn hf => ?_
            have hfk := hf k2 (by simp [mkSp])
            obtain ⟨m1, m2, m3⟩ := cut_opds (s := s) ho
            have g1 := opd hrel hn x m1 hx
            have q1 : optV ((none : Option Operand).map a.eval) 0 0 := optA_rep hrel hn m2 (show optA s none 0 0 from rfl)
            have q2 := optA_rep hrel hn m3 (optN_A hu)
            have hk2 := (needs_obj hn k (by simp)).trans hk
            have hO := hrel.inv.objs k _ hk2
            generalize ha : a.eval x = v at g1
            cases g1 with
            | own0 base eκ =>
              simp only [OAt, eκ] at hO
              obtain ⟨_, _, e⟩ := hO
              simp at e
              obtain ⟨rfl, rfl, rfl⟩ := e
              simp only [List.length_nil] at p2
              have hb := run_sliceBounds (P := P) (isSlice := true) (len := 0) (cap := 0) q1 q2 (Int.le_refl 0) p1 (by omega) w
              have e2 : u.toNat = 0 := by omega
              have hkill := hrel.inv.kill [(k, none)] (by intro p hp; simp at hp; subst hp; rfl)
              have hfk' : (s2.objput [(k, none)]).fresh k2 := fresh_kill hfk (by intro p hp; simp at hp; subst hp; rfl)
              obtain ⟨i1, i2⟩ := hkill.emptyRow (sz := sz') (el := el) hfk'
              refine ⟨.slice base 0 0, _, w, setK κ k2 none, I, .inl rfl, ?_, ?_, fun _ h => h, fun _ _ => rfl, fun x k' hk' => i2 x k' hk', ?_⟩
              · rw [Option.map_none, e2] at hb
                simp only [Int.toNat_zero] at hb
                simp [execOp, ho, ha, Instr.sliceAt, run_underlying' hun, Instr.slice, hb, run_sizeOf' hag, e2]
                try cases base <;> simp [Addr.add]
              · rw [e2]; exact i1
              · exact .own0 base (setK_self ..)
            | @own _ ki eκ =>
              simp only [OAt, eκ] at hO
              have hO' := hO
              obtain ⟨h1, h2, h3, arr, h4, h5, h6⟩ := hO
              have hb := run_sliceBounds (P := P) (isSlice := true) (len := ki.len) (cap := ki.cap) q1 (by rw [h2]; exact q2) (Int.le_refl 0) p1 (by omega) w
              let ki' : KI := ⟨ki.b, ki.cap, sz', u.toNat⟩
              have hO2 : ORep (World.setBlock w ki.b (.cells arr el (0, 0))) I (setK κ k2 (some ki')) ki' (.row sz' el (es.take u.toNat)) := by
                rw [setBlock_self h4]
                refine ⟨rfl, by simp [ki']; omega, by simp [ki']; omega, arr, h4, h5, fun i hi => ?_⟩
                simp only [List.length_take] at hi
                rw [List.getElem_take]
                exact h6 i (by omega)
              obtain ⟨i1, i2, i3⟩ := hrel.inv.move hk2 eκ hfk (ki' := ki') rfl hO2
              rw [setBlock_self h4] at i1 i2
              refine ⟨.slice (some ⟨ki.b, 0, none⟩) u.toNat ki.cap, _, w, setK κ k2 (some ki'), I, .inl rfl, ?_, i1, fun _ h => h, fun _ _ => rfl, i3, ?_⟩
              · rw [Option.map_none] at hb
                simp only [Int.toNat_zero] at hb
                simp [execOp, ho, ha, Instr.sliceAt, run_underlying' hun, Instr.slice, hb, run_sizeOf' hag]
                try simp [Addr.add]
              · exact Rep.own (ki := ki') (setK_self ..)
          · simp at he
        · simp at he
      · simp at he
    · simp at he

/-- The end of a row of the call's own, to be looked at or cleared. -/
def xCutOwn (lo' n : Nat) : Ext where
  f P o s := match o.op with
    | .slice t x lo none none => match elemP P t, s.eval x with
      | some (e, sz), .own k => match s.obj k with
        | some (.row sz' el es) => match optN s lo 0, Nat.beq sz' sz with
          | some l, true => some ⟨[k], [], .cut k lo' n, [], [l = (lo' : Int), lo' + n = es.length]⟩
          | _, _ => none
        | _ => none
      | _, _ => none
    | _ => none
  ok P o s e he hp := by
    split at he
    · rename_i t x lo ho
      split at he
      · rename_i e' sz k hel hx
        split at he
        · rename_i sz' el es hk
          split at he
          · rename_i l hl hsz
            obtain rfl := Nat.eq_of_beq_eq_true hsz
            obtain rfl := Option.some.inj he
            obtain ⟨rfl, p2, _⟩ := hp
            obtain ⟨hun, ag, hag⟩ := elemP_inv hel
            refine .quiet rfl fun Γ κ I s2 a w hP hrel hn => ?_
            obtain ⟨m1, m2, m3⟩ := cut_opds (s := s) ho
            have g1 := opd hrel hn x m1 hx
            have q1 := optA_rep hrel hn m2 (optN_A hl)
            have q2 : optV ((none : Option Operand).map a.eval) (es.length : Int) es.length := optA_rep hrel hn m3 (show optA s none (es.length : Int) es.length from rfl)
            have hO := hrel.inv.objs k _ ((needs_obj hn k (by simp)).trans hk)
            generalize ha : a.eval x = v at g1
            cases g1 with
            | own0 base eκ =>
              simp only [OAt, eκ] at hO
              obtain ⟨_, _, e⟩ := hO
              simp at e
              obtain ⟨rfl, rfl, rfl⟩ := e
              simp only [List.length_nil] at p2 q2
              obtain rfl : lo' = 0 := by omega
              obtain rfl : n = 0 := by omega
              have hb := run_sliceBounds (P := P) (isSlice := true) (len := 0) (cap := 0) q1 q2 (by simp) (by simp) (by simp) w
              refine ⟨.slice base 0 0, ?_, .cut0 base eκ⟩
              rw [Option.map_none] at hb
              simp at hb
              simp [execOp, ho, ha, Instr.sliceAt, run_underlying' hun, Instr.slice, hb, run_sizeOf' hag]
              try (cases base <;> simp)
            | @own _ ki eκ =>
              simp only [OAt, eκ] at hO
              obtain ⟨h1, h2, h3, arr, h4, h5, h6⟩ := hO
              have hb := run_sliceBounds (P := P) (isSlice := true) (len := ki.len) (cap := ki.cap) q1 (by rw [h2]; exact q2) (by omega) (by omega) (by omega) w
              have hn' : es.length - lo' = n := by omega
              rw [Option.map_none] at hb
              simp only [Int.toNat_natCast] at hb
              by_cases hc : ki.cap = lo'
              · refine ⟨.slice (some ⟨ki.b, 0, none⟩) n (ki.cap - lo'), ?_, .cut (off := 0) eκ (.inr hc.symm) (by omega)⟩
                rw [hc] at hb
                simp [execOp, ho, ha, Instr.sliceAt, run_underlying' hun, Instr.slice, hb, run_sizeOf' hag, hc, hn']
              · refine ⟨.slice (some ⟨ki.b, lo' * sz', none⟩) n (ki.cap - lo'), ?_, .cut (off := lo' * sz') eκ (.inl (by rw [h1])) (by omega)⟩
                simp [execOp, ho, ha, Instr.sliceAt, run_underlying' hun, Instr.slice, hb, run_sizeOf' hag, hc, hn', addr_add]
          · simp at he
        · simp at he
      · simp at he
    · simp at he

end Go.Pv
