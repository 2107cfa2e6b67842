import Derived.ChangeArms
import Derived.ChangeOld
import Derived.ChangeShapes
import Derived.RowKit
import Derived.SizedLaws
import Derived.WideShapes
import Derived.Test.YtpoihfcehejgfaaGreatPxBlockMakes13
set_option linter.unusedVariables false
set_option linter.unusedSimpArgs false
namespace Go.Pv
def shFs (S:TypeId→List Im→Prop):List Field→List Im→Prop
 | [],ims=>ims=[]
 | f::fs,ims=>∃ a b,ims=a++b∧S f.type a∧shFs S fs b
def tiles (P:Program):Nat→List Field→Option Nat
 | o,[]=>some o
 | o,f::fs=>match Nat.beq f.offset o with
  | true=>tiles P (o+P.cellsOf f.type) fs
  | false=>none
def goodT (P:Program):Nat→TypeId→Bool
 | 0,_=>false
 | n+1,t=>match P.underlying t with
  | some .bool=>true
  | some (.int _)=>true
  | some .string=>true
  | some (.slice e)=>Nat.blt 0 (P.cellsOf e)&&goodT P n e
  | some (.struct fs)=>(match tiles P 0 fs.toList with | some m=>Nat.beq m (P.cellsOf t) | none=>false)&&fs.toList.all fun f=>goodT P n f.type
  | _=>false
theorem mapM_mem {α β:Type} {f:α→Option β}:∀ {l:List α} {r:List β},l.mapM f=some r→∀ a∈l,∃ b,f a=some b:=by
 intro l
 induction l with
 | nil=>intro r h a ha;simp at ha
 | cons x l ih =>
  intro r h a ha;rw[List.mapM_cons] at h;cases hx:f x with
  | none=>rw[hx] at h;simp at h
  | some y =>
   rw[hx] at h;cases hl:l.mapM f with
   | none=>rw[hl] at h;simp at h
   | some r' =>
    rcases List.mem_cons.1 ha with rfl | ha
    ·exact⟨y,hx⟩
    ·exact ih hl a ha
theorem mapM_len {α β:Type} {f:α→Option β}:∀ {l:List α} {r:List β},l.mapM f=some r→r.length=l.length:=by
 intro l
 induction l with
 | nil=>intro r h;simp at h;subst h;rfl
 | cons x l ih =>
  intro r h;rw[List.mapM_cons] at h;cases hx:f x with
  | none=>rw[hx] at h;simp at h
  | some y =>
   rw[hx] at h;cases hl:l.mapM f with
   | none=>rw[hl] at h;simp at h
   | some r'=>rw[hl] at h;simp at h;subst h;simp[ih hl]
theorem mapM_get {α β:Type} {f:α→Option β}:∀ {l:List α} {r:List β},l.mapM f=some r→∀ i (h:i<l.length) (h':i<r.length),f l[i]=some r[i]:=by
 intro l
 induction l with
 | nil=>intro r h i hi;simp at hi
 | cons x l ih =>
  intro r h i hi hi';rw[List.mapM_cons] at h;cases hx:f x with
  | none=>rw[hx] at h;simp at h
  | some y =>
   rw[hx] at h;cases hl:l.mapM f with
   | none=>rw[hl] at h;simp at h
   | some r' =>
    rw[hl] at h;simp at h;subst h;cases i with
    | zero=>simpa using hx
    | succ i=>simpa using ih hl i (by simpa using hi) (by simpa using hi')
abbrev IH (w:World):Nat→Prop:=fun b=>b<w.heap.size
theorem cell_lt {w:World} {a:Addr} {v:Value} (h:w.cell? a=some v):a.block<w.heap.size∧a.spot=none:=by
 unfold World.cell? at h;split at h
 ·rename_i c el fz hb
  refine⟨(Array.getElem?_eq_some_iff.1 hb).1,?_⟩;split at h
  ·simp at h
  ·rename_i hs;simpa using hs
 ·simp at h
end Go.Pv
namespace Go.Pv
open Go.WideShapes Go.ChangeShapes Go.RowKit
def aggT (P:Program) (t:TypeId):Bool:=match P.underlying t with
 | some (.struct _)=>true
 | _=>false
def argA:Bool→List Im→AVal
 | true,ims=>.agg (ims.map .im)
 | false,x::_=>.im x
 | false,[]=>.top
theorem arg_one {w:World} {κ:Nat→Option KI} {ims:List Im} {v:Value} (hc:v.cells = #[v]) (h1:ims.length=v.cells.toList.length) (h2:∀ j (h:j<ims.length) (h':j<v.cells.toList.length),IRep w (IH w) (ims[j]) (v.cells.toList[j])):Rep w (IH w) κ (argA false ims) v:=by
 rw[hc] at h1;obtain⟨x,rfl⟩:∃ x,ims=[x]:=List.length_eq_one_iff.1 h1
 have:=h2 0 (by simp) (by rw[hc];simp);simp only[hc] at this;exact .im this
section
variable {P:Program} {t:TypeId}
end
theorem wf_i64 (m:Int) (h:(Lit.int .i64 m).wf=true):I64 m:=by simp[Lit.wf,IntKind.min,IntKind.max,IntKind.signed,IntKind.bits] at h;constructor<;>omega
theorem wf_u64 (m:Int) (h:(Lit.int .u64 m).wf=true):U64 m:=by simp[Lit.wf,IntKind.min,IntKind.max,IntKind.signed,IntKind.bits] at h;constructor<;>omega
theorem wf_u8 (m:Int) (h:(Lit.int .u8 m).wf=true):Rng 0 256 m:=by simp[Lit.wf,IntKind.min,IntKind.max,IntKind.signed,IntKind.bits] at h;constructor<;>omega
end Go.Pv
