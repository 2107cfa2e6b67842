import Derived.Test.YtbmdealiikoplaaGreatProg
import Derived.Test.YtbmdealiikoplaaGreatPxEvalDoes07
set_option linter.unusedVariables false
set_option linter.unnecessarySimpa false
set_option linter.unusedSimpArgs false
set_option maxRecDepth 10000
namespace Go.Proofs.YtbmdealiikoplaaGreat.PvGJ
open Go Go.Pv Go.IntKind
def f_bits_Div64.l0 (a0:Int) (a1:Int) (a2:Int) (t2089:Int) (x2102:Int) (x2103:Int):Option (Int):=((if(decide (x2102≥(4294967296:Int)))=true then(some true) else(some (decide ((u64.wrap (x2102*(u64.wrap (((BitVec.toNat (BitVec.ofInt 64 (u64.wrap (a2*2 ^ (min (Int.toNat (u64.wrap (t2089))) 64))) &&& BitVec.ofInt 64 (4294967295:Int)):Nat):Int)))))>(u64.wrap ((u64.wrap ((4294967296:Int)*x2103))+(Int.fdiv (u64.wrap (a1*2 ^ (min (Int.toNat (u64.wrap (t2089))) 64))) 4294967296))))))):Option (Bool))>>=fun x2106=>if x2106=true then(if(decide ((u64.wrap (x2103+(Int.fdiv (u64.wrap (a2*2 ^ (min (Int.toNat (u64.wrap (t2089))) 64))) 4294967296)))≥(4294967296:Int)))=true then(some (u64.wrap (x2102-(1:Int)))) else(f_bits_Div64.l0 a0 a1 a2 t2089 (u64.wrap (x2102-(1:Int))) (u64.wrap (x2103+(Int.fdiv (u64.wrap (a2*2 ^ (min (Int.toNat (u64.wrap (t2089))) 64))) 4294967296))))) else(some x2102)
partial_fixpoint
def f_bits_Div64.l1 (a0:Int) (a1:Int) (a2:Int) (t2089:Int) (x2109:Int) (x2117:Int) (x2118:Int):Option (Int):=((if(decide (x2118≥(4294967296:Int)))=true then(some true) else(some (decide ((u64.wrap (x2118*(u64.wrap (((BitVec.toNat (BitVec.ofInt 64 (u64.wrap (a2*2 ^ (min (Int.toNat (u64.wrap (t2089))) 64))) &&& BitVec.ofInt 64 (4294967295:Int)):Nat):Int)))))>(u64.wrap ((u64.wrap ((4294967296:Int)*x2117))+(u64.wrap (((BitVec.toNat (BitVec.ofInt 64 (u64.wrap (a1*2 ^ (min (Int.toNat (u64.wrap (t2089))) 64))) &&& BitVec.ofInt 64 (4294967295:Int)):Nat):Int))))))))):Option (Bool))>>=fun x2121=>if x2121=true then(if(decide ((u64.wrap (x2117+(Int.fdiv (u64.wrap (a2*2 ^ (min (Int.toNat (u64.wrap (t2089))) 64))) 4294967296)))≥(4294967296:Int)))=true then(some (u64.wrap (x2118-(1:Int)))) else(f_bits_Div64.l1 a0 a1 a2 t2089 x2109 (u64.wrap (x2117+(Int.fdiv (u64.wrap (a2*2 ^ (min (Int.toNat (u64.wrap (t2089))) 64))) 4294967296))) (u64.wrap (x2118-(1:Int))))) else(some x2118)
partial_fixpoint
def f_bits_Div64.f (a0:Int) (a1:Int) (a2:Int):Option (Int×Int):=if(a2==(0:Int))=true then(none) else(if(decide (a2≤a0))=true then(none) else(if(a0==(0:Int))=true then((chk (a2≠0))>>=fun _=>some (u64.wrap (Int.tdiv a1 a2),Int.tmod a1 a2)) else((f_bits_LeadingZeros64.f a2)>>=fun t2089=>(chk (0≤(u64.wrap (t2089))))>>=fun _=>(chk (0≤(u64.wrap ((64:Int)-(u64.wrap (t2089))))))>>=fun _=>(chk ((Int.fdiv (u64.wrap (a2*2 ^ (min (Int.toNat (u64.wrap (t2089))) 64))) 4294967296)≠0))>>=fun _=>(f_bits_Div64.l0 a0 a1 a2 t2089 (u64.wrap (Int.tdiv (u64.wrap (((BitVec.toNat (BitVec.ofInt 64 (u64.wrap (a0*2 ^ (min (Int.toNat (u64.wrap (t2089))) 64))) ||| BitVec.ofInt 64 (Int.fdiv a1 (2 ^ (min (Int.toNat (u64.wrap ((64:Int)-(u64.wrap (t2089))))) 64)))):Nat):Int))) (Int.fdiv (u64.wrap (a2*2 ^ (min (Int.toNat (u64.wrap (t2089))) 64))) 4294967296))) (u64.wrap ((u64.wrap (((BitVec.toNat (BitVec.ofInt 64 (u64.wrap (a0*2 ^ (min (Int.toNat (u64.wrap (t2089))) 64))) ||| BitVec.ofInt 64 (Int.fdiv a1 (2 ^ (min (Int.toNat (u64.wrap ((64:Int)-(u64.wrap (t2089))))) 64)))):Nat):Int)))-(u64.wrap ((u64.wrap (Int.tdiv (u64.wrap (((BitVec.toNat (BitVec.ofInt 64 (u64.wrap (a0*2 ^ (min (Int.toNat (u64.wrap (t2089))) 64))) ||| BitVec.ofInt 64 (Int.fdiv a1 (2 ^ (min (Int.toNat (u64.wrap ((64:Int)-(u64.wrap (t2089))))) 64)))):Nat):Int))) (Int.fdiv (u64.wrap (a2*2 ^ (min (Int.toNat (u64.wrap (t2089))) 64))) 4294967296)))*(Int.fdiv (u64.wrap (a2*2 ^ (min (Int.toNat (u64.wrap (t2089))) 64))) 4294967296))))))>>=fun x2109=>(chk ((Int.fdiv (u64.wrap (a2*2 ^ (min (Int.toNat (u64.wrap (t2089))) 64))) 4294967296)≠0))>>=fun _=>(f_bits_Div64.l1 a0 a1 a2 t2089 x2109 (u64.wrap ((u64.wrap ((u64.wrap ((u64.wrap ((u64.wrap (((BitVec.toNat (BitVec.ofInt 64 (u64.wrap (a0*2 ^ (min (Int.toNat (u64.wrap (t2089))) 64))) ||| BitVec.ofInt 64 (Int.fdiv a1 (2 ^ (min (Int.toNat (u64.wrap ((64:Int)-(u64.wrap (t2089))))) 64)))):Nat):Int)))*(4294967296:Int)))+(Int.fdiv (u64.wrap (a1*2 ^ (min (Int.toNat (u64.wrap (t2089))) 64))) 4294967296)))-(u64.wrap (x2109*(u64.wrap (a2*2 ^ (min (Int.toNat (u64.wrap (t2089))) 64)))))))-(u64.wrap ((u64.wrap (Int.tdiv (u64.wrap ((u64.wrap ((u64.wrap ((u64.wrap (((BitVec.toNat (BitVec.ofInt 64 (u64.wrap (a0*2 ^ (min (Int.toNat (u64.wrap (t2089))) 64))) ||| BitVec.ofInt 64 (Int.fdiv a1 (2 ^ (min (Int.toNat (u64.wrap ((64:Int)-(u64.wrap (t2089))))) 64)))):Nat):Int)))*(4294967296:Int)))+(Int.fdiv (u64.wrap (a1*2 ^ (min (Int.toNat (u64.wrap (t2089))) 64))) 4294967296)))-(u64.wrap (x2109*(u64.wrap (a2*2 ^ (min (Int.toNat (u64.wrap (t2089))) 64))))))) (Int.fdiv (u64.wrap (a2*2 ^ (min (Int.toNat (u64.wrap (t2089))) 64))) 4294967296)))*(Int.fdiv (u64.wrap (a2*2 ^ (min (Int.toNat (u64.wrap (t2089))) 64))) 4294967296))))) (u64.wrap (Int.tdiv (u64.wrap ((u64.wrap ((u64.wrap ((u64.wrap (((BitVec.toNat (BitVec.ofInt 64 (u64.wrap (a0*2 ^ (min (Int.toNat (u64.wrap (t2089))) 64))) ||| BitVec.ofInt 64 (Int.fdiv a1 (2 ^ (min (Int.toNat (u64.wrap ((64:Int)-(u64.wrap (t2089))))) 64)))):Nat):Int)))*(4294967296:Int)))+(Int.fdiv (u64.wrap (a1*2 ^ (min (Int.toNat (u64.wrap (t2089))) 64))) 4294967296)))-(u64.wrap (x2109*(u64.wrap (a2*2 ^ (min (Int.toNat (u64.wrap (t2089))) 64))))))) (Int.fdiv (u64.wrap (a2*2 ^ (min (Int.toNat (u64.wrap (t2089))) 64))) 4294967296))))>>=fun x2124=>(chk (0≤(u64.wrap (t2089))))>>=fun _=>some (u64.wrap ((u64.wrap (x2109*(4294967296:Int)))+x2124),Int.fdiv (u64.wrap ((u64.wrap ((u64.wrap ((u64.wrap ((u64.wrap ((u64.wrap ((u64.wrap (((BitVec.toNat (BitVec.ofInt 64 (u64.wrap (a0*2 ^ (min (Int.toNat (u64.wrap (t2089))) 64))) ||| BitVec.ofInt 64 (Int.fdiv a1 (2 ^ (min (Int.toNat (u64.wrap ((64:Int)-(u64.wrap (t2089))))) 64)))):Nat):Int)))*(4294967296:Int)))+(Int.fdiv (u64.wrap (a1*2 ^ (min (Int.toNat (u64.wrap (t2089))) 64))) 4294967296)))-(u64.wrap (x2109*(u64.wrap (a2*2 ^ (min (Int.toNat (u64.wrap (t2089))) 64)))))))*(4294967296:Int)))+(u64.wrap (((BitVec.toNat (BitVec.ofInt 64 (u64.wrap (a1*2 ^ (min (Int.toNat (u64.wrap (t2089))) 64))) &&& BitVec.ofInt 64 (4294967295:Int)):Nat):Int)))))-(u64.wrap (x2124*(u64.wrap (a2*2 ^ (min (Int.toNat (u64.wrap (t2089))) 64))))))) (2 ^ (min (Int.toNat (u64.wrap (t2089))) 64))))))
theorem f_bits_Div64.ok (a0:Int) (a1:Int) (a2:Int) (r:Int×Int) (H:f_bits_Div64.f a0 a1 a2=some r):Pv.Fn Tryz.prog 69 [iV .u64 a0,iV .u64 a1,iV .u64 a2] [] 0 (fun x o=>x = .tup [iV .u64 r.1,iV .u64 r.2]∧o=[]):=by
 unfold f_bits_Div64.f at H
 refine Fn.bodyK [] Tryz.func69 rfl rfl (fun Γ hP hn => ?_)
 have hm:Tryz.prog.follows .mixedOrders=true:=by kernel_rfl
 replace hn:Γ.n=135:=hn
 refine sr hP hn hm [] [] [0,1,2] [] [] [] (by kernel_rfl) trivial ?_
 refine AWp.seq ?_
 refine sr hP hn hm [] [(20,bV (a2==(0:Int)))] [0,1,2,20] [] [] [] (by kernel_rfl) trivial ?_
 refine AWp.cond (a2==(0:Int)) (by kernel_rfl) (fun c2061 => ?_) (fun c2061 => ?_)
 ·replace H:=iT c2061 H
  exact nomatch H
 ·replace H:=iF c2061 H
  refine AWp.skip ?_
  refine AWp.seq ?_
  refine sr hP hn hm [] [(24,bV (decide (a2≤a0)))] [0,1,2,24] [] [] [] (by kernel_rfl) trivial ?_
  refine AWp.cond (decide (a2≤a0)) (by kernel_rfl) (fun c2062 => ?_) (fun c2062 => ?_)
  ·replace H:=iT c2062 H
   exact nomatch H
  ·replace H:=iF c2062 H
   refine AWp.skip ?_
   refine AWp.seq ?_
   refine sr hP hn hm [] [(27,bV (a0==(0:Int)))] [0,1,2,27] [] [] [] (by kernel_rfl) trivial ?_
   refine AWp.cond (a0==(0:Int)) (by kernel_rfl) (fun c2063 => ?_) (fun c2063 => ?_)
   ·replace H:=iT c2063 H
    obtain⟨c2065,H⟩:=chk_of H
    refine sr hP hn hm [] [(6,iV .u64 (u64.wrap (Int.tdiv a1 a2))),(7,iV .u64 (Int.tmod a1 a2))] [6,7] [] [] [_,_] (by kernel_rfl) ⟨c2065,c2065,trivial⟩ ?_
    refine AWp.conv (inv:=[]) (vk:=[]) (e0:=[]) (t:=⟨[(6,iV .u64 (u64.wrap (Int.tdiv a1 a2))),(7,iV .u64 (Int.tmod a1 a2))],[],0⟩) (by kernel_rfl) ?_
    refine AWp.ret ?_
    obtain rfl:=Option.some.inj H
    exact rl (.inl rfl) rfl (by kernel_rfl) (by kernel_rfl)
   ·replace H:=iF c2063 H
    refine AWp.skip ?_
    obtain⟨t2089,e2090,H⟩:=bind_of H
    refine sr hP hn hm [(1,.call [] [] [] [] 0 (iV .i64 t2089) [])] [(8,iV .u64 (u64.wrap (t2089)))] [0,1,2,8] [] [] [_,_] (by kernel_rfl) ⟨Tryz.call83,f_bits_LeadingZeros64.ok a2 t2089 e2090,trivial⟩ ?_
    obtain⟨c2092,H⟩:=chk_of H
    refine sr hP hn hm [] [(2,iV .u64 (u64.wrap (a2*2 ^ (min (Int.toNat (u64.wrap (t2089))) 64))))] [0,1,2,8] [] [] [_] (by kernel_rfl) ⟨c2092,trivial⟩ ?_
    refine sr hP hn hm [] [(9,iV .u64 (Int.fdiv (u64.wrap (a2*2 ^ (min (Int.toNat (u64.wrap (t2089))) 64))) 4294967296))] [0,1,2,8,9] [] [] [(0:Int)≤32] (by kernel_rfl) ⟨by decide,trivial⟩ ?_
    refine sr hP hn hm [] [(10,iV .u64 (u64.wrap (((BitVec.toNat (BitVec.ofInt 64 (u64.wrap (a2*2 ^ (min (Int.toNat (u64.wrap (t2089))) 64))) &&& BitVec.ofInt 64 (4294967295:Int)):Nat):Int))))] [0,1,2,8,9,10] [] [] [] (by kernel_rfl) trivial ?_
    obtain⟨c2094,H⟩:=chk_of H
    refine sr hP hn hm [] [(11,iV .u64 (u64.wrap (((BitVec.toNat (BitVec.ofInt 64 (u64.wrap (a0*2 ^ (min (Int.toNat (u64.wrap (t2089))) 64))) ||| BitVec.ofInt 64 (Int.fdiv a1 (2 ^ (min (Int.toNat (u64.wrap ((64:Int)-(u64.wrap (t2089))))) 64)))):Nat):Int))))] [1,2,8,9,10,11] [] [] [_,_] (by kernel_rfl) ⟨c2092,c2094,trivial⟩ ?_
    refine sr hP hn hm [] [(12,iV .u64 (u64.wrap (a1*2 ^ (min (Int.toNat (u64.wrap (t2089))) 64))))] [2,8,9,10,11,12] [] [] [_] (by kernel_rfl) ⟨c2092,trivial⟩ ?_
    refine sr hP hn hm [] [(13,iV .u64 (Int.fdiv (u64.wrap (a1*2 ^ (min (Int.toNat (u64.wrap (t2089))) 64))) 4294967296))] [2,8,9,10,11,12,13] [] [] [(0:Int)≤32] (by kernel_rfl) ⟨by decide,trivial⟩ ?_
    refine sr hP hn hm [] [(14,iV .u64 (u64.wrap (((BitVec.toNat (BitVec.ofInt 64 (u64.wrap (a1*2 ^ (min (Int.toNat (u64.wrap (t2089))) 64))) &&& BitVec.ofInt 64 (4294967295:Int)):Nat):Int))))] [2,8,9,10,11,13,14] [] [] [] (by kernel_rfl) trivial ?_
    obtain⟨c2096,H⟩:=chk_of H
    refine sr hP hn hm [] [(15,iV .u64 (u64.wrap (Int.tdiv (u64.wrap (((BitVec.toNat (BitVec.ofInt 64 (u64.wrap (a0*2 ^ (min (Int.toNat (u64.wrap (t2089))) 64))) ||| BitVec.ofInt 64 (Int.fdiv a1 (2 ^ (min (Int.toNat (u64.wrap ((64:Int)-(u64.wrap (t2089))))) 64)))):Nat):Int))) (Int.fdiv (u64.wrap (a2*2 ^ (min (Int.toNat (u64.wrap (t2089))) 64))) 4294967296))))] [2,8,9,10,11,13,14,15] [] [] [_] (by kernel_rfl) ⟨c2096,trivial⟩ ?_
    refine sr hP hn hm [] [(16,iV .u64 (u64.wrap ((u64.wrap (((BitVec.toNat (BitVec.ofInt 64 (u64.wrap (a0*2 ^ (min (Int.toNat (u64.wrap (t2089))) 64))) ||| BitVec.ofInt 64 (Int.fdiv a1 (2 ^ (min (Int.toNat (u64.wrap ((64:Int)-(u64.wrap (t2089))))) 64)))):Nat):Int)))-(u64.wrap ((u64.wrap (Int.tdiv (u64.wrap (((BitVec.toNat (BitVec.ofInt 64 (u64.wrap (a0*2 ^ (min (Int.toNat (u64.wrap (t2089))) 64))) ||| BitVec.ofInt 64 (Int.fdiv a1 (2 ^ (min (Int.toNat (u64.wrap ((64:Int)-(u64.wrap (t2089))))) 64)))):Nat):Int))) (Int.fdiv (u64.wrap (a2*2 ^ (min (Int.toNat (u64.wrap (t2089))) 64))) 4294967296)))*(Int.fdiv (u64.wrap (a2*2 ^ (min (Int.toNat (u64.wrap (t2089))) 64))) 4294967296))))))] [2,8,9,10,11,13,14,15,16] [] [] [] (by kernel_rfl) trivial ?_
    refine AWp.seq ?_
    refine AWp.block ?_
    obtain⟨o2127,e2128,H⟩:=bind_of H
    refine AWp.loop (LWp.conv (inv:=[]) (vk:=[]) (e0:=[]) (t:=⟨[(2,iV .u64 (u64.wrap (a2*2 ^ (min (Int.toNat (u64.wrap (t2089))) 64)))),(8,iV .u64 (u64.wrap (t2089))),(9,iV .u64 (Int.fdiv (u64.wrap (a2*2 ^ (min (Int.toNat (u64.wrap (t2089))) 64))) 4294967296)),(10,iV .u64 (u64.wrap (((BitVec.toNat (BitVec.ofInt 64 (u64.wrap (a2*2 ^ (min (Int.toNat (u64.wrap (t2089))) 64))) &&& BitVec.ofInt 64 (4294967295:Int)):Nat):Int)))),(11,iV .u64 (u64.wrap (((BitVec.toNat (BitVec.ofInt 64 (u64.wrap (a0*2 ^ (min (Int.toNat (u64.wrap (t2089))) 64))) ||| BitVec.ofInt 64 (Int.fdiv a1 (2 ^ (min (Int.toNat (u64.wrap ((64:Int)-(u64.wrap (t2089))))) 64)))):Nat):Int)))),(13,iV .u64 (Int.fdiv (u64.wrap (a1*2 ^ (min (Int.toNat (u64.wrap (t2089))) 64))) 4294967296)),(14,iV .u64 (u64.wrap (((BitVec.toNat (BitVec.ofInt 64 (u64.wrap (a1*2 ^ (min (Int.toNat (u64.wrap (t2089))) 64))) &&& BitVec.ofInt 64 (4294967295:Int)):Nat):Int)))),(15,iV .u64 (u64.wrap (Int.tdiv (u64.wrap (((BitVec.toNat (BitVec.ofInt 64 (u64.wrap (a0*2 ^ (min (Int.toNat (u64.wrap (t2089))) 64))) ||| BitVec.ofInt 64 (Int.fdiv a1 (2 ^ (min (Int.toNat (u64.wrap ((64:Int)-(u64.wrap (t2089))))) 64)))):Nat):Int))) (Int.fdiv (u64.wrap (a2*2 ^ (min (Int.toNat (u64.wrap (t2089))) 64))) 4294967296)))),(16,iV .u64 (u64.wrap ((u64.wrap (((BitVec.toNat (BitVec.ofInt 64 (u64.wrap (a0*2 ^ (min (Int.toNat (u64.wrap (t2089))) 64))) ||| BitVec.ofInt 64 (Int.fdiv a1 (2 ^ (min (Int.toNat (u64.wrap ((64:Int)-(u64.wrap (t2089))))) 64)))):Nat):Int)))-(u64.wrap ((u64.wrap (Int.tdiv (u64.wrap (((BitVec.toNat (BitVec.ofInt 64 (u64.wrap (a0*2 ^ (min (Int.toNat (u64.wrap (t2089))) 64))) ||| BitVec.ofInt 64 (Int.fdiv a1 (2 ^ (min (Int.toNat (u64.wrap ((64:Int)-(u64.wrap (t2089))))) 64)))):Nat):Int))) (Int.fdiv (u64.wrap (a2*2 ^ (min (Int.toNat (u64.wrap (t2089))) 64))) 4294967296)))*(Int.fdiv (u64.wrap (a2*2 ^ (min (Int.toNat (u64.wrap (t2089))) 64))) 4294967296))))))],[],0⟩) (by kernel_rfl) ?_)
    refine LWp.mono (Q:=fun e s=>(match (generalizing:=false) o2127 with | x2109=>e = .exit 0∧s=⟨[(2,iV .u64 (u64.wrap (a2*2 ^ (min (Int.toNat (u64.wrap (t2089))) 64)))),(8,iV .u64 (u64.wrap (t2089))),(9,iV .u64 (Int.fdiv (u64.wrap (a2*2 ^ (min (Int.toNat (u64.wrap (t2089))) 64))) 4294967296)),(10,iV .u64 (u64.wrap (((BitVec.toNat (BitVec.ofInt 64 (u64.wrap (a2*2 ^ (min (Int.toNat (u64.wrap (t2089))) 64))) &&& BitVec.ofInt 64 (4294967295:Int)):Nat):Int)))),(11,iV .u64 (u64.wrap (((BitVec.toNat (BitVec.ofInt 64 (u64.wrap (a0*2 ^ (min (Int.toNat (u64.wrap (t2089))) 64))) ||| BitVec.ofInt 64 (Int.fdiv a1 (2 ^ (min (Int.toNat (u64.wrap ((64:Int)-(u64.wrap (t2089))))) 64)))):Nat):Int)))),(13,iV .u64 (Int.fdiv (u64.wrap (a1*2 ^ (min (Int.toNat (u64.wrap (t2089))) 64))) 4294967296)),(14,iV .u64 (u64.wrap (((BitVec.toNat (BitVec.ofInt 64 (u64.wrap (a1*2 ^ (min (Int.toNat (u64.wrap (t2089))) 64))) &&& BitVec.ofInt 64 (4294967295:Int)):Nat):Int)))),(15,iV .u64 x2109)],[],0⟩)) (LWp.cv (withBody (fun body hbody => ?_))) ?_
    ·refine f_bits_Div64.l0.partial_correctness a0 a1 a2 t2089 (motive:=fun x2102 x2103 o2127=>LWp Γ body (fun e s=>∃ t,Cv Γ s t∧(match (generalizing:=false) o2127 with | x2109=>e = .exit 0∧t=⟨[(2,iV .u64 (u64.wrap (a2*2 ^ (min (Int.toNat (u64.wrap (t2089))) 64)))),(8,iV .u64 (u64.wrap (t2089))),(9,iV .u64 (Int.fdiv (u64.wrap (a2*2 ^ (min (Int.toNat (u64.wrap (t2089))) 64))) 4294967296)),(10,iV .u64 (u64.wrap (((BitVec.toNat (BitVec.ofInt 64 (u64.wrap (a2*2 ^ (min (Int.toNat (u64.wrap (t2089))) 64))) &&& BitVec.ofInt 64 (4294967295:Int)):Nat):Int)))),(11,iV .u64 (u64.wrap (((BitVec.toNat (BitVec.ofInt 64 (u64.wrap (a0*2 ^ (min (Int.toNat (u64.wrap (t2089))) 64))) ||| BitVec.ofInt 64 (Int.fdiv a1 (2 ^ (min (Int.toNat (u64.wrap ((64:Int)-(u64.wrap (t2089))))) 64)))):Nat):Int)))),(13,iV .u64 (Int.fdiv (u64.wrap (a1*2 ^ (min (Int.toNat (u64.wrap (t2089))) 64))) 4294967296)),(14,iV .u64 (u64.wrap (((BitVec.toNat (BitVec.ofInt 64 (u64.wrap (a1*2 ^ (min (Int.toNat (u64.wrap (t2089))) 64))) &&& BitVec.ofInt 64 (4294967295:Int)):Nat):Int)))),(15,iV .u64 x2109)],[],0⟩)) ⟨[(2,iV .u64 (u64.wrap (a2*2 ^ (min (Int.toNat (u64.wrap (t2089))) 64)))),(8,iV .u64 (u64.wrap (t2089))),(9,iV .u64 (Int.fdiv (u64.wrap (a2*2 ^ (min (Int.toNat (u64.wrap (t2089))) 64))) 4294967296)),(10,iV .u64 (u64.wrap (((BitVec.toNat (BitVec.ofInt 64 (u64.wrap (a2*2 ^ (min (Int.toNat (u64.wrap (t2089))) 64))) &&& BitVec.ofInt 64 (4294967295:Int)):Nat):Int)))),(11,iV .u64 (u64.wrap (((BitVec.toNat (BitVec.ofInt 64 (u64.wrap (a0*2 ^ (min (Int.toNat (u64.wrap (t2089))) 64))) ||| BitVec.ofInt 64 (Int.fdiv a1 (2 ^ (min (Int.toNat (u64.wrap ((64:Int)-(u64.wrap (t2089))))) 64)))):Nat):Int)))),(13,iV .u64 (Int.fdiv (u64.wrap (a1*2 ^ (min (Int.toNat (u64.wrap (t2089))) 64))) 4294967296)),(14,iV .u64 (u64.wrap (((BitVec.toNat (BitVec.ofInt 64 (u64.wrap (a1*2 ^ (min (Int.toNat (u64.wrap (t2089))) 64))) &&& BitVec.ofInt 64 (4294967295:Int)):Nat):Int)))),(15,iV .u64 x2102),(16,iV .u64 x2103)],[],0⟩) ?_ _ _ _ e2128
     clear H e2128 o2127;intro self ih x2102 x2103 o2127 H
     subst hbody
     refine LWp.round ?_
     refine AWp.seq ?_
     refine AWp.seq ?_
     obtain⟨o2129,e2130,H⟩:=bind_of H
     refine AWp.mono (Q:=fun e s=>(match (generalizing:=false) o2129 with | x2106=>e = .normal∧s=⟨[(2,iV .u64 (u64.wrap (a2*2 ^ (min (Int.toNat (u64.wrap (t2089))) 64)))),(8,iV .u64 (u64.wrap (t2089))),(9,iV .u64 (Int.fdiv (u64.wrap (a2*2 ^ (min (Int.toNat (u64.wrap (t2089))) 64))) 4294967296)),(10,iV .u64 (u64.wrap (((BitVec.toNat (BitVec.ofInt 64 (u64.wrap (a2*2 ^ (min (Int.toNat (u64.wrap (t2089))) 64))) &&& BitVec.ofInt 64 (4294967295:Int)):Nat):Int)))),(11,iV .u64 (u64.wrap (((BitVec.toNat (BitVec.ofInt 64 (u64.wrap (a0*2 ^ (min (Int.toNat (u64.wrap (t2089))) 64))) ||| BitVec.ofInt 64 (Int.fdiv a1 (2 ^ (min (Int.toNat (u64.wrap ((64:Int)-(u64.wrap (t2089))))) 64)))):Nat):Int)))),(13,iV .u64 (Int.fdiv (u64.wrap (a1*2 ^ (min (Int.toNat (u64.wrap (t2089))) 64))) 4294967296)),(14,iV .u64 (u64.wrap (((BitVec.toNat (BitVec.ofInt 64 (u64.wrap (a1*2 ^ (min (Int.toNat (u64.wrap (t2089))) 64))) &&& BitVec.ofInt 64 (4294967295:Int)):Nat):Int)))),(15,iV .u64 x2102),(16,iV .u64 x2103),(78,bV x2106)],[],0⟩)) (AWp.cv ?_) ?_
     ·replace H:=e2130;clear e2130
      rcases Bool.eq_false_or_eq_true (decide (x2102≥(4294967296:Int))) with c2105 | c2105
      ·replace H:=iT c2105 H
       refine rg hP hn hm [(2,.b true)] [(78,bV true)] [2,8,9,10,11,13,14,15,16,78] [] [] [_] (by kernel_rfl) ⟨c2105,trivial⟩ ?_
       obtain rfl:=Option.some.inj H
       exact lf [] [] [] (by kernel_rfl) ⟨rfl,rfl⟩
      ·replace H:=iF c2105 H
       refine rg hP hn hm [(2,.b false)] [(70,iV .u64 x2102),(71,iV .u64 (u64.wrap (((BitVec.toNat (BitVec.ofInt 64 (u64.wrap (a2*2 ^ (min (Int.toNat (u64.wrap (t2089))) 64))) &&& BitVec.ofInt 64 (4294967295:Int)):Nat):Int)))),(72,iV .u64 (u64.wrap (x2102*(u64.wrap (((BitVec.toNat (BitVec.ofInt 64 (u64.wrap (a2*2 ^ (min (Int.toNat (u64.wrap (t2089))) 64))) &&& BitVec.ofInt 64 (4294967295:Int)):Nat):Int)))))),(73,iV .u64 x2103),(74,iV .u64 (u64.wrap ((4294967296:Int)*x2103))),(75,iV .u64 (Int.fdiv (u64.wrap (a1*2 ^ (min (Int.toNat (u64.wrap (t2089))) 64))) 4294967296)),(76,iV .u64 (u64.wrap ((u64.wrap ((4294967296:Int)*x2103))+(Int.fdiv (u64.wrap (a1*2 ^ (min (Int.toNat (u64.wrap (t2089))) 64))) 4294967296)))),(77,bV (decide ((u64.wrap (x2102*(u64.wrap (((BitVec.toNat (BitVec.ofInt 64 (u64.wrap (a2*2 ^ (min (Int.toNat (u64.wrap (t2089))) 64))) &&& BitVec.ofInt 64 (4294967295:Int)):Nat):Int)))))>(u64.wrap ((u64.wrap ((4294967296:Int)*x2103))+(Int.fdiv (u64.wrap (a1*2 ^ (min (Int.toNat (u64.wrap (t2089))) 64))) 4294967296)))))),(78,bV (decide ((u64.wrap (x2102*(u64.wrap (((BitVec.toNat (BitVec.ofInt 64 (u64.wrap (a2*2 ^ (min (Int.toNat (u64.wrap (t2089))) 64))) &&& BitVec.ofInt 64 (4294967295:Int)):Nat):Int)))))>(u64.wrap ((u64.wrap ((4294967296:Int)*x2103))+(Int.fdiv (u64.wrap (a1*2 ^ (min (Int.toNat (u64.wrap (t2089))) 64))) 4294967296))))))] [2,8,9,10,11,13,14,15,16,70,71,72,73,74,75,76,77,78] [] [] [_] (by kernel_rfl) ⟨c2105,trivial⟩ ?_
       obtain rfl:=Option.some.inj H
       exact lf [] [] [] (by kernel_rfl) ⟨rfl,rfl⟩
     ·obtain⟨x2106,rfl⟩:∃ z,z=o2129:=⟨_,rfl⟩
      rintro e s ⟨rfl,rfl⟩
      refine AWp.cond x2106 (by kernel_rfl) (fun c2107 => ?_) (fun c2107 => ?_)
      ·replace H:=iT c2107 H
       refine AWp.skip ?_
       refine AWp.block ?_
       refine sr hP hn hm [] [(15,iV .u64 (u64.wrap (x2102-(1:Int))))] [2,8,9,10,11,13,14,15,16] [] [] [] (by kernel_rfl) trivial ?_
       refine sr hP hn hm [] [(16,iV .u64 (u64.wrap (x2103+(Int.fdiv (u64.wrap (a2*2 ^ (min (Int.toNat (u64.wrap (t2089))) 64))) 4294967296))))] [2,8,9,10,11,13,14,15,16] [] [] [] (by kernel_rfl) trivial ?_
       refine sr hP hn hm [] [(85,bV (decide ((u64.wrap (x2103+(Int.fdiv (u64.wrap (a2*2 ^ (min (Int.toNat (u64.wrap (t2089))) 64))) 4294967296)))≥(4294967296:Int))))] [2,8,9,10,11,13,14,15,16,85] [] [] [] (by kernel_rfl) trivial ?_
       refine AWp.cond (decide ((u64.wrap (x2103+(Int.fdiv (u64.wrap (a2*2 ^ (min (Int.toNat (u64.wrap (t2089))) 64))) 4294967296)))≥(4294967296:Int))) (by kernel_rfl) (fun c2108 => ?_) (fun c2108 => ?_)
       ·replace H:=iT c2108 H
        refine AWp.exit ?_
        obtain rfl:=Option.some.inj H
        exact lf [] [] [] (by kernel_rfl) ⟨rfl,rfl⟩
       ·replace H:=iF c2108 H
        refine AWp.skip ?_
        exact LWp.conv [] [] [] (by kernel_rfl) (ih _ _ _ H)
      ·replace H:=iF c2107 H
       refine AWp.exit ?_
       obtain rfl:=Option.some.inj H
       exact lf [] [] [] (by kernel_rfl) ⟨rfl,rfl⟩
    ·obtain⟨x2109,rfl⟩:∃ z,z=o2127:=⟨_,rfl⟩
     rintro e s ⟨rfl,rfl⟩
     refine sr hP hn hm [] [(17,iV .u64 (u64.wrap ((u64.wrap ((u64.wrap ((u64.wrap (((BitVec.toNat (BitVec.ofInt 64 (u64.wrap (a0*2 ^ (min (Int.toNat (u64.wrap (t2089))) 64))) ||| BitVec.ofInt 64 (Int.fdiv a1 (2 ^ (min (Int.toNat (u64.wrap ((64:Int)-(u64.wrap (t2089))))) 64)))):Nat):Int)))*(4294967296:Int)))+(Int.fdiv (u64.wrap (a1*2 ^ (min (Int.toNat (u64.wrap (t2089))) 64))) 4294967296)))-(u64.wrap (x2109*(u64.wrap (a2*2 ^ (min (Int.toNat (u64.wrap (t2089))) 64))))))))] [2,8,9,10,14,15,17] [] [] [] (by kernel_rfl) trivial ?_
     obtain⟨c2111,H⟩:=chk_of H
     refine sr hP hn hm [] [(18,iV .u64 (u64.wrap (Int.tdiv (u64.wrap ((u64.wrap ((u64.wrap ((u64.wrap (((BitVec.toNat (BitVec.ofInt 64 (u64.wrap (a0*2 ^ (min (Int.toNat (u64.wrap (t2089))) 64))) ||| BitVec.ofInt 64 (Int.fdiv a1 (2 ^ (min (Int.toNat (u64.wrap ((64:Int)-(u64.wrap (t2089))))) 64)))):Nat):Int)))*(4294967296:Int)))+(Int.fdiv (u64.wrap (a1*2 ^ (min (Int.toNat (u64.wrap (t2089))) 64))) 4294967296)))-(u64.wrap (x2109*(u64.wrap (a2*2 ^ (min (Int.toNat (u64.wrap (t2089))) 64))))))) (Int.fdiv (u64.wrap (a2*2 ^ (min (Int.toNat (u64.wrap (t2089))) 64))) 4294967296))))] [2,8,9,10,14,15,17,18] [] [] [_] (by kernel_rfl) ⟨c2111,trivial⟩ ?_
     refine sr hP hn hm [] [(16,iV .u64 (u64.wrap ((u64.wrap ((u64.wrap ((u64.wrap ((u64.wrap (((BitVec.toNat (BitVec.ofInt 64 (u64.wrap (a0*2 ^ (min (Int.toNat (u64.wrap (t2089))) 64))) ||| BitVec.ofInt 64 (Int.fdiv a1 (2 ^ (min (Int.toNat (u64.wrap ((64:Int)-(u64.wrap (t2089))))) 64)))):Nat):Int)))*(4294967296:Int)))+(Int.fdiv (u64.wrap (a1*2 ^ (min (Int.toNat (u64.wrap (t2089))) 64))) 4294967296)))-(u64.wrap (x2109*(u64.wrap (a2*2 ^ (min (Int.toNat (u64.wrap (t2089))) 64)))))))-(u64.wrap ((u64.wrap (Int.tdiv (u64.wrap ((u64.wrap ((u64.wrap ((u64.wrap (((BitVec.toNat (BitVec.ofInt 64 (u64.wrap (a0*2 ^ (min (Int.toNat (u64.wrap (t2089))) 64))) ||| BitVec.ofInt 64 (Int.fdiv a1 (2 ^ (min (Int.toNat (u64.wrap ((64:Int)-(u64.wrap (t2089))))) 64)))):Nat):Int)))*(4294967296:Int)))+(Int.fdiv (u64.wrap (a1*2 ^ (min (Int.toNat (u64.wrap (t2089))) 64))) 4294967296)))-(u64.wrap (x2109*(u64.wrap (a2*2 ^ (min (Int.toNat (u64.wrap (t2089))) 64))))))) (Int.fdiv (u64.wrap (a2*2 ^ (min (Int.toNat (u64.wrap (t2089))) 64))) 4294967296)))*(Int.fdiv (u64.wrap (a2*2 ^ (min (Int.toNat (u64.wrap (t2089))) 64))) 4294967296))))))] [2,8,9,10,14,15,16,17,18] [] [] [] (by kernel_rfl) trivial ?_
     refine AWp.seq ?_
     refine AWp.block ?_
     obtain⟨o2131,e2132,H⟩:=bind_of H
     refine AWp.loop (LWp.conv (inv:=[]) (vk:=[]) (e0:=[]) (t:=⟨[(2,iV .u64 (u64.wrap (a2*2 ^ (min (Int.toNat (u64.wrap (t2089))) 64)))),(8,iV .u64 (u64.wrap (t2089))),(9,iV .u64 (Int.fdiv (u64.wrap (a2*2 ^ (min (Int.toNat (u64.wrap (t2089))) 64))) 4294967296)),(10,iV .u64 (u64.wrap (((BitVec.toNat (BitVec.ofInt 64 (u64.wrap (a2*2 ^ (min (Int.toNat (u64.wrap (t2089))) 64))) &&& BitVec.ofInt 64 (4294967295:Int)):Nat):Int)))),(14,iV .u64 (u64.wrap (((BitVec.toNat (BitVec.ofInt 64 (u64.wrap (a1*2 ^ (min (Int.toNat (u64.wrap (t2089))) 64))) &&& BitVec.ofInt 64 (4294967295:Int)):Nat):Int)))),(15,iV .u64 x2109),(16,iV .u64 (u64.wrap ((u64.wrap ((u64.wrap ((u64.wrap ((u64.wrap (((BitVec.toNat (BitVec.ofInt 64 (u64.wrap (a0*2 ^ (min (Int.toNat (u64.wrap (t2089))) 64))) ||| BitVec.ofInt 64 (Int.fdiv a1 (2 ^ (min (Int.toNat (u64.wrap ((64:Int)-(u64.wrap (t2089))))) 64)))):Nat):Int)))*(4294967296:Int)))+(Int.fdiv (u64.wrap (a1*2 ^ (min (Int.toNat (u64.wrap (t2089))) 64))) 4294967296)))-(u64.wrap (x2109*(u64.wrap (a2*2 ^ (min (Int.toNat (u64.wrap (t2089))) 64)))))))-(u64.wrap ((u64.wrap (Int.tdiv (u64.wrap ((u64.wrap ((u64.wrap ((u64.wrap (((BitVec.toNat (BitVec.ofInt 64 (u64.wrap (a0*2 ^ (min (Int.toNat (u64.wrap (t2089))) 64))) ||| BitVec.ofInt 64 (Int.fdiv a1 (2 ^ (min (Int.toNat (u64.wrap ((64:Int)-(u64.wrap (t2089))))) 64)))):Nat):Int)))*(4294967296:Int)))+(Int.fdiv (u64.wrap (a1*2 ^ (min (Int.toNat (u64.wrap (t2089))) 64))) 4294967296)))-(u64.wrap (x2109*(u64.wrap (a2*2 ^ (min (Int.toNat (u64.wrap (t2089))) 64))))))) (Int.fdiv (u64.wrap (a2*2 ^ (min (Int.toNat (u64.wrap (t2089))) 64))) 4294967296)))*(Int.fdiv (u64.wrap (a2*2 ^ (min (Int.toNat (u64.wrap (t2089))) 64))) 4294967296)))))),(17,iV .u64 (u64.wrap ((u64.wrap ((u64.wrap ((u64.wrap (((BitVec.toNat (BitVec.ofInt 64 (u64.wrap (a0*2 ^ (min (Int.toNat (u64.wrap (t2089))) 64))) ||| BitVec.ofInt 64 (Int.fdiv a1 (2 ^ (min (Int.toNat (u64.wrap ((64:Int)-(u64.wrap (t2089))))) 64)))):Nat):Int)))*(4294967296:Int)))+(Int.fdiv (u64.wrap (a1*2 ^ (min (Int.toNat (u64.wrap (t2089))) 64))) 4294967296)))-(u64.wrap (x2109*(u64.wrap (a2*2 ^ (min (Int.toNat (u64.wrap (t2089))) 64)))))))),(18,iV .u64 (u64.wrap (Int.tdiv (u64.wrap ((u64.wrap ((u64.wrap ((u64.wrap (((BitVec.toNat (BitVec.ofInt 64 (u64.wrap (a0*2 ^ (min (Int.toNat (u64.wrap (t2089))) 64))) ||| BitVec.ofInt 64 (Int.fdiv a1 (2 ^ (min (Int.toNat (u64.wrap ((64:Int)-(u64.wrap (t2089))))) 64)))):Nat):Int)))*(4294967296:Int)))+(Int.fdiv (u64.wrap (a1*2 ^ (min (Int.toNat (u64.wrap (t2089))) 64))) 4294967296)))-(u64.wrap (x2109*(u64.wrap (a2*2 ^ (min (Int.toNat (u64.wrap (t2089))) 64))))))) (Int.fdiv (u64.wrap (a2*2 ^ (min (Int.toNat (u64.wrap (t2089))) 64))) 4294967296))))],[],0⟩) (by kernel_rfl) ?_)
     refine LWp.mono (Q:=fun e s=>(match (generalizing:=false) o2131 with | x2124=>e = .exit 2∧s=⟨[(2,iV .u64 (u64.wrap (a2*2 ^ (min (Int.toNat (u64.wrap (t2089))) 64)))),(8,iV .u64 (u64.wrap (t2089))),(14,iV .u64 (u64.wrap (((BitVec.toNat (BitVec.ofInt 64 (u64.wrap (a1*2 ^ (min (Int.toNat (u64.wrap (t2089))) 64))) &&& BitVec.ofInt 64 (4294967295:Int)):Nat):Int)))),(15,iV .u64 x2109),(17,iV .u64 (u64.wrap ((u64.wrap ((u64.wrap ((u64.wrap (((BitVec.toNat (BitVec.ofInt 64 (u64.wrap (a0*2 ^ (min (Int.toNat (u64.wrap (t2089))) 64))) ||| BitVec.ofInt 64 (Int.fdiv a1 (2 ^ (min (Int.toNat (u64.wrap ((64:Int)-(u64.wrap (t2089))))) 64)))):Nat):Int)))*(4294967296:Int)))+(Int.fdiv (u64.wrap (a1*2 ^ (min (Int.toNat (u64.wrap (t2089))) 64))) 4294967296)))-(u64.wrap (x2109*(u64.wrap (a2*2 ^ (min (Int.toNat (u64.wrap (t2089))) 64)))))))),(18,iV .u64 x2124)],[],0⟩)) (LWp.cv (withBody (fun body hbody => ?_))) ?_
     ·refine f_bits_Div64.l1.partial_correctness a0 a1 a2 t2089 x2109 (motive:=fun x2117 x2118 o2131=>LWp Γ body (fun e s=>∃ t,Cv Γ s t∧(match (generalizing:=false) o2131 with | x2124=>e = .exit 2∧t=⟨[(2,iV .u64 (u64.wrap (a2*2 ^ (min (Int.toNat (u64.wrap (t2089))) 64)))),(8,iV .u64 (u64.wrap (t2089))),(14,iV .u64 (u64.wrap (((BitVec.toNat (BitVec.ofInt 64 (u64.wrap (a1*2 ^ (min (Int.toNat (u64.wrap (t2089))) 64))) &&& BitVec.ofInt 64 (4294967295:Int)):Nat):Int)))),(15,iV .u64 x2109),(17,iV .u64 (u64.wrap ((u64.wrap ((u64.wrap ((u64.wrap (((BitVec.toNat (BitVec.ofInt 64 (u64.wrap (a0*2 ^ (min (Int.toNat (u64.wrap (t2089))) 64))) ||| BitVec.ofInt 64 (Int.fdiv a1 (2 ^ (min (Int.toNat (u64.wrap ((64:Int)-(u64.wrap (t2089))))) 64)))):Nat):Int)))*(4294967296:Int)))+(Int.fdiv (u64.wrap (a1*2 ^ (min (Int.toNat (u64.wrap (t2089))) 64))) 4294967296)))-(u64.wrap (x2109*(u64.wrap (a2*2 ^ (min (Int.toNat (u64.wrap (t2089))) 64)))))))),(18,iV .u64 x2124)],[],0⟩)) ⟨[(2,iV .u64 (u64.wrap (a2*2 ^ (min (Int.toNat (u64.wrap (t2089))) 64)))),(8,iV .u64 (u64.wrap (t2089))),(9,iV .u64 (Int.fdiv (u64.wrap (a2*2 ^ (min (Int.toNat (u64.wrap (t2089))) 64))) 4294967296)),(10,iV .u64 (u64.wrap (((BitVec.toNat (BitVec.ofInt 64 (u64.wrap (a2*2 ^ (min (Int.toNat (u64.wrap (t2089))) 64))) &&& BitVec.ofInt 64 (4294967295:Int)):Nat):Int)))),(14,iV .u64 (u64.wrap (((BitVec.toNat (BitVec.ofInt 64 (u64.wrap (a1*2 ^ (min (Int.toNat (u64.wrap (t2089))) 64))) &&& BitVec.ofInt 64 (4294967295:Int)):Nat):Int)))),(15,iV .u64 x2109),(16,iV .u64 x2117),(17,iV .u64 (u64.wrap ((u64.wrap ((u64.wrap ((u64.wrap (((BitVec.toNat (BitVec.ofInt 64 (u64.wrap (a0*2 ^ (min (Int.toNat (u64.wrap (t2089))) 64))) ||| BitVec.ofInt 64 (Int.fdiv a1 (2 ^ (min (Int.toNat (u64.wrap ((64:Int)-(u64.wrap (t2089))))) 64)))):Nat):Int)))*(4294967296:Int)))+(Int.fdiv (u64.wrap (a1*2 ^ (min (Int.toNat (u64.wrap (t2089))) 64))) 4294967296)))-(u64.wrap (x2109*(u64.wrap (a2*2 ^ (min (Int.toNat (u64.wrap (t2089))) 64)))))))),(18,iV .u64 x2118)],[],0⟩) ?_ _ _ _ e2132
      clear H e2132 o2131;intro self ih x2117 x2118 o2131 H
      subst hbody
      refine LWp.round ?_
      refine AWp.seq ?_
      refine AWp.seq ?_
      obtain⟨o2133,e2134,H⟩:=bind_of H
      refine AWp.mono (Q:=fun e s=>(match (generalizing:=false) o2133 with | x2121=>e = .normal∧s=⟨[(2,iV .u64 (u64.wrap (a2*2 ^ (min (Int.toNat (u64.wrap (t2089))) 64)))),(8,iV .u64 (u64.wrap (t2089))),(9,iV .u64 (Int.fdiv (u64.wrap (a2*2 ^ (min (Int.toNat (u64.wrap (t2089))) 64))) 4294967296)),(10,iV .u64 (u64.wrap (((BitVec.toNat (BitVec.ofInt 64 (u64.wrap (a2*2 ^ (min (Int.toNat (u64.wrap (t2089))) 64))) &&& BitVec.ofInt 64 (4294967295:Int)):Nat):Int)))),(14,iV .u64 (u64.wrap (((BitVec.toNat (BitVec.ofInt 64 (u64.wrap (a1*2 ^ (min (Int.toNat (u64.wrap (t2089))) 64))) &&& BitVec.ofInt 64 (4294967295:Int)):Nat):Int)))),(15,iV .u64 x2109),(16,iV .u64 x2117),(17,iV .u64 (u64.wrap ((u64.wrap ((u64.wrap ((u64.wrap (((BitVec.toNat (BitVec.ofInt 64 (u64.wrap (a0*2 ^ (min (Int.toNat (u64.wrap (t2089))) 64))) ||| BitVec.ofInt 64 (Int.fdiv a1 (2 ^ (min (Int.toNat (u64.wrap ((64:Int)-(u64.wrap (t2089))))) 64)))):Nat):Int)))*(4294967296:Int)))+(Int.fdiv (u64.wrap (a1*2 ^ (min (Int.toNat (u64.wrap (t2089))) 64))) 4294967296)))-(u64.wrap (x2109*(u64.wrap (a2*2 ^ (min (Int.toNat (u64.wrap (t2089))) 64)))))))),(18,iV .u64 x2118),(113,bV x2121)],[],0⟩)) (AWp.cv ?_) ?_
      ·replace H:=e2134;clear e2134
       rcases Bool.eq_false_or_eq_true (decide (x2118≥(4294967296:Int))) with c2120 | c2120
       ·replace H:=iT c2120 H
        refine rg hP hn hm [(2,.b true)] [(113,bV true)] [2,8,9,10,14,15,16,17,18,113] [] [] [_] (by kernel_rfl) ⟨c2120,trivial⟩ ?_
        obtain rfl:=Option.some.inj H
        exact lf [] [] [] (by kernel_rfl) ⟨rfl,rfl⟩
       ·replace H:=iF c2120 H
        refine rg hP hn hm [(2,.b false)] [(105,iV .u64 x2118),(106,iV .u64 (u64.wrap (((BitVec.toNat (BitVec.ofInt 64 (u64.wrap (a2*2 ^ (min (Int.toNat (u64.wrap (t2089))) 64))) &&& BitVec.ofInt 64 (4294967295:Int)):Nat):Int)))),(107,iV .u64 (u64.wrap (x2118*(u64.wrap (((BitVec.toNat (BitVec.ofInt 64 (u64.wrap (a2*2 ^ (min (Int.toNat (u64.wrap (t2089))) 64))) &&& BitVec.ofInt 64 (4294967295:Int)):Nat):Int)))))),(108,iV .u64 x2117),(109,iV .u64 (u64.wrap ((4294967296:Int)*x2117))),(110,iV .u64 (u64.wrap (((BitVec.toNat (BitVec.ofInt 64 (u64.wrap (a1*2 ^ (min (Int.toNat (u64.wrap (t2089))) 64))) &&& BitVec.ofInt 64 (4294967295:Int)):Nat):Int)))),(111,iV .u64 (u64.wrap ((u64.wrap ((4294967296:Int)*x2117))+(u64.wrap (((BitVec.toNat (BitVec.ofInt 64 (u64.wrap (a1*2 ^ (min (Int.toNat (u64.wrap (t2089))) 64))) &&& BitVec.ofInt 64 (4294967295:Int)):Nat):Int)))))),(112,bV (decide ((u64.wrap (x2118*(u64.wrap (((BitVec.toNat (BitVec.ofInt 64 (u64.wrap (a2*2 ^ (min (Int.toNat (u64.wrap (t2089))) 64))) &&& BitVec.ofInt 64 (4294967295:Int)):Nat):Int)))))>(u64.wrap ((u64.wrap ((4294967296:Int)*x2117))+(u64.wrap (((BitVec.toNat (BitVec.ofInt 64 (u64.wrap (a1*2 ^ (min (Int.toNat (u64.wrap (t2089))) 64))) &&& BitVec.ofInt 64 (4294967295:Int)):Nat):Int)))))))),(113,bV (decide ((u64.wrap (x2118*(u64.wrap (((BitVec.toNat (BitVec.ofInt 64 (u64.wrap (a2*2 ^ (min (Int.toNat (u64.wrap (t2089))) 64))) &&& BitVec.ofInt 64 (4294967295:Int)):Nat):Int)))))>(u64.wrap ((u64.wrap ((4294967296:Int)*x2117))+(u64.wrap (((BitVec.toNat (BitVec.ofInt 64 (u64.wrap (a1*2 ^ (min (Int.toNat (u64.wrap (t2089))) 64))) &&& BitVec.ofInt 64 (4294967295:Int)):Nat):Int))))))))] [2,8,9,10,14,15,16,17,18,105,106,107,108,109,110,111,112,113] [] [] [_] (by kernel_rfl) ⟨c2120,trivial⟩ ?_
        obtain rfl:=Option.some.inj H
        exact lf [] [] [] (by kernel_rfl) ⟨rfl,rfl⟩
      ·obtain⟨x2121,rfl⟩:∃ z,z=o2133:=⟨_,rfl⟩
       rintro e s ⟨rfl,rfl⟩
       refine AWp.cond x2121 (by kernel_rfl) (fun c2122 => ?_) (fun c2122 => ?_)
       ·replace H:=iT c2122 H
        refine AWp.skip ?_
        refine AWp.block ?_
        refine sr hP hn hm [] [(18,iV .u64 (u64.wrap (x2118-(1:Int))))] [2,8,9,10,14,15,16,17,18] [] [] [] (by kernel_rfl) trivial ?_
        refine sr hP hn hm [] [(16,iV .u64 (u64.wrap (x2117+(Int.fdiv (u64.wrap (a2*2 ^ (min (Int.toNat (u64.wrap (t2089))) 64))) 4294967296))))] [2,8,9,10,14,15,16,17,18] [] [] [] (by kernel_rfl) trivial ?_
        refine sr hP hn hm [] [(120,bV (decide ((u64.wrap (x2117+(Int.fdiv (u64.wrap (a2*2 ^ (min (Int.toNat (u64.wrap (t2089))) 64))) 4294967296)))≥(4294967296:Int))))] [2,8,9,10,14,15,16,17,18,120] [] [] [] (by kernel_rfl) trivial ?_
        refine AWp.cond (decide ((u64.wrap (x2117+(Int.fdiv (u64.wrap (a2*2 ^ (min (Int.toNat (u64.wrap (t2089))) 64))) 4294967296)))≥(4294967296:Int))) (by kernel_rfl) (fun c2123 => ?_) (fun c2123 => ?_)
        ·replace H:=iT c2123 H
         refine AWp.exit ?_
         obtain rfl:=Option.some.inj H
         exact lf [] [] [] (by kernel_rfl) ⟨rfl,rfl⟩
        ·replace H:=iF c2123 H
         refine AWp.skip ?_
         exact LWp.conv [] [] [] (by kernel_rfl) (ih _ _ _ H)
       ·replace H:=iF c2122 H
        refine AWp.exit ?_
        obtain rfl:=Option.some.inj H
        exact lf [] [] [] (by kernel_rfl) ⟨rfl,rfl⟩
     ·obtain⟨x2124,rfl⟩:∃ z,z=o2131:=⟨_,rfl⟩
      rintro e s ⟨rfl,rfl⟩
      obtain⟨c2126,H⟩:=chk_of H
      refine sr hP hn hm [] [(6,iV .u64 (u64.wrap ((u64.wrap (x2109*(4294967296:Int)))+x2124))),(7,iV .u64 (Int.fdiv (u64.wrap ((u64.wrap ((u64.wrap ((u64.wrap ((u64.wrap ((u64.wrap ((u64.wrap (((BitVec.toNat (BitVec.ofInt 64 (u64.wrap (a0*2 ^ (min (Int.toNat (u64.wrap (t2089))) 64))) ||| BitVec.ofInt 64 (Int.fdiv a1 (2 ^ (min (Int.toNat (u64.wrap ((64:Int)-(u64.wrap (t2089))))) 64)))):Nat):Int)))*(4294967296:Int)))+(Int.fdiv (u64.wrap (a1*2 ^ (min (Int.toNat (u64.wrap (t2089))) 64))) 4294967296)))-(u64.wrap (x2109*(u64.wrap (a2*2 ^ (min (Int.toNat (u64.wrap (t2089))) 64)))))))*(4294967296:Int)))+(u64.wrap (((BitVec.toNat (BitVec.ofInt 64 (u64.wrap (a1*2 ^ (min (Int.toNat (u64.wrap (t2089))) 64))) &&& BitVec.ofInt 64 (4294967295:Int)):Nat):Int)))))-(u64.wrap (x2124*(u64.wrap (a2*2 ^ (min (Int.toNat (u64.wrap (t2089))) 64))))))) (2 ^ (min (Int.toNat (u64.wrap (t2089))) 64))))] [6,7] [] [] [_] (by kernel_rfl) ⟨c2126,trivial⟩ ?_
      refine AWp.conv (inv:=[]) (vk:=[]) (e0:=[]) (t:=⟨[(6,iV .u64 (u64.wrap ((u64.wrap (x2109*(4294967296:Int)))+x2124))),(7,iV .u64 (Int.fdiv (u64.wrap ((u64.wrap ((u64.wrap ((u64.wrap ((u64.wrap ((u64.wrap ((u64.wrap (((BitVec.toNat (BitVec.ofInt 64 (u64.wrap (a0*2 ^ (min (Int.toNat (u64.wrap (t2089))) 64))) ||| BitVec.ofInt 64 (Int.fdiv a1 (2 ^ (min (Int.toNat (u64.wrap ((64:Int)-(u64.wrap (t2089))))) 64)))):Nat):Int)))*(4294967296:Int)))+(Int.fdiv (u64.wrap (a1*2 ^ (min (Int.toNat (u64.wrap (t2089))) 64))) 4294967296)))-(u64.wrap (x2109*(u64.wrap (a2*2 ^ (min (Int.toNat (u64.wrap (t2089))) 64)))))))*(4294967296:Int)))+(u64.wrap (((BitVec.toNat (BitVec.ofInt 64 (u64.wrap (a1*2 ^ (min (Int.toNat (u64.wrap (t2089))) 64))) &&& BitVec.ofInt 64 (4294967295:Int)):Nat):Int)))))-(u64.wrap (x2124*(u64.wrap (a2*2 ^ (min (Int.toNat (u64.wrap (t2089))) 64))))))) (2 ^ (min (Int.toNat (u64.wrap (t2089))) 64))))],[],0⟩) (by kernel_rfl) ?_
      refine AWp.ret ?_
      obtain rfl:=Option.some.inj H
      exact rl (.inl rfl) rfl (by kernel_rfl) (by kernel_rfl)
def f_num_Wide_Ceil.f (a0:Tnum_Wide) (a1:Int):Option (Int×Int):=((if(a1==(0:Int))=true then(some true) else(some (decide (a0.f0≥a1)))):Option (Bool))>>=fun x2059=>if x2059=true then(some (0,5)) else((f_bits_Div64.f a0.f0 a0.f1 a1)>>=fun t2137=>if(t2137.2==(0:Int))=true then(some (t2137.1,0)) else((f_num_Add.f [t2137.1,1])>>=fun t2142=>some (t2142.1,t2142.2)))
theorem f_num_Wide_Ceil.ok (a0:Tnum_Wide) (a1:Int) (r:Int×Int) (H:f_num_Wide_Ceil.f a0 a1=some r):Pv.Fn Tryz.prog 42 [.agg (anum_Wide a0),iV .u64 a1] [] 0 (fun x o=>x = .tup [iV .u64 r.1,iV .i64 r.2]∧o=[]):=by
 unfold f_num_Wide_Ceil.f at H
 refine Fn.bodyK [] Tryz.func42 rfl rfl (fun Γ hP hn => ?_)
 have hm:Tryz.prog.follows .mixedOrders=true:=by kernel_rfl
 replace hn:Γ.n=33:=hn
 refine sr hP hn hm [(0,.k 0)] [(2,.ptr 0 0 0)] [1,2] [(0,some (.box 93 (anum_Wide a0)))] [0] [] (by kernel_rfl) trivial ?_
 refine AWp.seq ?_
 refine AWp.seq ?_
 obtain⟨o2144,e2145,H⟩:=bind_of H
 refine AWp.mono (Q:=fun e s=>(match (generalizing:=false) o2144 with | x2059=>e = .normal∧s=⟨[(1,iV .u64 a1),(2,.ptr 1 0 0),(15,bV x2059)],[(1,some (.box 93 (anum_Wide a0)))],0⟩)) (AWp.cv ?_) ?_
 ·replace H:=e2145;clear e2145
  rcases Bool.eq_false_or_eq_true (a1==(0:Int)) with c2058 | c2058
  ·replace H:=iT c2058 H
   refine rg hP hn hm [(2,.b true)] [(15,bV true)] [1,2,15] [] [0] [_] (by kernel_rfl) ⟨c2058,trivial⟩ ?_
   obtain rfl:=Option.some.inj H
   exact lf [(0,1)] [] [] (by kernel_rfl) ⟨rfl,rfl⟩
  ·replace H:=iF c2058 H
   refine rg hP hn hm [(2,.b false)] [(15,bV (decide (a0.f0≥a1)))] [1,2,15] [] [0] [_] (by kernel_rfl) ⟨c2058,trivial⟩ ?_
   obtain rfl:=Option.some.inj H
   exact lf [(0,1)] [] [] (by kernel_rfl) ⟨rfl,rfl⟩
 ·obtain⟨x2059,rfl⟩:∃ z,z=o2144:=⟨_,rfl⟩
  rintro e s ⟨rfl,rfl⟩
  refine AWp.cond x2059 (by kernel_rfl) (fun c2060 => ?_) (fun c2060 => ?_)
  ·replace H:=iT c2060 H
   refine sr hP hn hm [] [(4,iV .u64 0),(5,iV .i64 5)] [4,5] [] [] [] (by kernel_rfl) trivial ?_
   refine AWp.conv (inv:=[]) (vk:=[]) (e0:=[]) (t:=⟨[(4,iV .u64 0),(5,iV .i64 5)],[],0⟩) (by kernel_rfl) ?_
   refine AWp.ret ?_
   obtain rfl:=Option.some.inj H
   exact rl (.inl rfl) rfl (by kernel_rfl) (by kernel_rfl)
  ·replace H:=iF c2060 H
   refine AWp.skip ?_
   obtain⟨t2137,e2138,H⟩:=bind_of H
   refine sr hP hn hm [(5,.call [] [] [] [] 0 (.tup [iV .u64 t2137.1,iV .u64 t2137.2]) [])] [(6,iV .u64 t2137.1),(7,iV .u64 t2137.2)] [6,7] [] [] [_,_] (by kernel_rfl) ⟨Tryz.call69,f_bits_Div64.ok a0.f0 a0.f1 a1 t2137 e2138,trivial⟩ ?_
   refine AWp.seq ?_
   refine sr hP hn hm [] [(26,bV (t2137.2==(0:Int)))] [6,26] [] [] [] (by kernel_rfl) trivial ?_
   refine AWp.cond (t2137.2==(0:Int)) (by kernel_rfl) (fun c2139 => ?_) (fun c2139 => ?_)
   ·replace H:=iT c2139 H
    refine sr hP hn hm [] [(4,iV .u64 t2137.1),(5,iV .i64 0)] [4,5] [] [] [] (by kernel_rfl) trivial ?_
    refine AWp.conv (inv:=[]) (vk:=[]) (e0:=[]) (t:=⟨[(4,iV .u64 t2137.1),(5,iV .i64 0)],[],0⟩) (by kernel_rfl) ?_
    refine AWp.ret ?_
    obtain rfl:=Option.some.inj H
    exact rl (.inl rfl) rfl (by kernel_rfl) (by kernel_rfl)
   ·replace H:=iF c2139 H
    refine AWp.skip ?_
    obtain⟨t2142,e2143,H⟩:=bind_of H
    refine sr hP hn hm [(1,.app 2 ([t2137.1,1].map (encInt .u64))),(2,.call [] [] [2] [] 0 (.tup [iV .u64 t2142.1,iV .i64 t2142.2]) [])] [(4,iV .u64 t2142.1),(5,iV .i64 t2142.2)] [4,5] [] [] [[t2137.1,1].map (encInt .u64)=[[iI .u64 t2137.1],[iI .u64 1]],_,_] (by kernel_rfl) ⟨by exact rfl,Tryz.call63,f_num_Add.ok [t2137.1,1] t2142 e2143,trivial⟩ ?_
    refine AWp.conv (inv:=[]) (vk:=[]) (e0:=[]) (t:=⟨[(4,iV .u64 t2142.1),(5,iV .i64 t2142.2)],[],0⟩) (by kernel_rfl) ?_
    refine AWp.ret ?_
    obtain rfl:=Option.some.inj H
    exact rl (.inl rfl) rfl (by kernel_rfl) (by kernel_rfl)
def f_rank_Order.l0 (a0:THist) (x2167:List Trank_Cell) (x2168:Int):Option (List Trank_Cell):=if(decide (x2168≥(0:Int)))=true then((at? a0.f7 x2168)>>=fun b2174=>(chk ((x2167.length+[(⟨(⟨(-1),a0.f1,b2174.f0⟩:Tbound_Key),b2174.f1⟩:Trank_Cell)].length)*32≤140737488355328))>>=fun _=>f_rank_Order.l0 a0 (x2167++[(⟨(⟨(-1),a0.f1,b2174.f0⟩:Tbound_Key),b2174.f1⟩:Trank_Cell)]) (i64.wrap (x2168-(1:Int)))) else(some x2167)
partial_fixpoint
def f_rank_Order.l1 (a0:THist) (x2192:List Trank_Cell) (x2193:Int):Option (List Trank_Cell):=if(decide (x2193<(a0.f6.length:Int)))=true then((at? a0.f6 x2193)>>=fun b2198=>(chk ((x2192.length+[(⟨(⟨1,a0.f1,b2198.f0⟩:Tbound_Key),b2198.f1⟩:Trank_Cell)].length)*32≤140737488355328))>>=fun _=>f_rank_Order.l1 a0 (x2192++[(⟨(⟨1,a0.f1,b2198.f0⟩:Tbound_Key),b2198.f1⟩:Trank_Cell)]) (i64.wrap (x2193+(1:Int)))) else(some x2192)
partial_fixpoint
def f_rank_Order.f (a0:THist):Option (List Trank_Cell):=(f_rank_Order.l0 a0 [] (i64.wrap ((a0.f7.length:Int)-(1:Int))))>>=fun x2178=>((if(decide (a0.f3>(0:Int)))=true then((chk ((x2178.length+[(⟨(⟨0,0,0⟩:Tbound_Key),a0.f3⟩:Trank_Cell)].length)*32≤140737488355328))>>=fun _=>some (x2178++[(⟨(⟨0,0,0⟩:Tbound_Key),a0.f3⟩:Trank_Cell)])) else(some x2178)):Option (List Trank_Cell))>>=fun x2182=>(f_rank_Order.l1 a0 x2182 0)>>=fun x2203=>some x2203
theorem f_rank_Order.ok (a0:THist) (r:List Trank_Cell) (H:f_rank_Order.f a0=some r):Pv.Fn Tryz.prog 45 [.agg (aHist a0)] [] 0 (fun x o=>x = .own 0∧o=[(0,some (.row 4 101 (r.map erank_Cell)))]):=by
 unfold f_rank_Order.f at H
 refine Fn.bodyK [0] Tryz.func45 rfl rfl (fun Γ hP hn => ?_)
 have hm:Tryz.prog.follows .mixedOrders=true:=by kernel_rfl
 replace hn:Γ.n=64:=hn
 refine sr hP hn hm [(0,.k 0)] [(1,.ptr 0 0 0)] [1] [(0,some (.box 32 (aHist a0)))] [0] [] (by kernel_rfl) trivial ?_
 refine sr hP hn hm [] [(3,.none0)] [1,3] [] [0] [] (by kernel_rfl) trivial ?_
 refine AWp.seq ?_
 refine sr hP hn hm [(2,.any (iV .i64 (a0.f7.length:Int)))] [(4,iV .i64 (i64.wrap ((a0.f7.length:Int)-(1:Int))))] [1,3,4] [] [0] [((a0.f7.map eBucket).length:Int)=(a0.f7.length:Int)] (by kernel_rfl) ⟨by rw[len_map],trivial⟩ ?_
 refine AWp.block ?_
 obtain⟨o2204,e2205,H⟩:=bind_of H
 refine AWp.loop (LWp.conv (inv:=[(0,3)]) (vk:=[]) (e0:=[4]) (t:=⟨[(1,.ptr 3 0 0),(3,.own 4),(4,iV .i64 (i64.wrap ((a0.f7.length:Int)-(1:Int))))],[(3,some (.box 32 (aHist a0))),(4,some (.row 4 101 ([].map erank_Cell)))],0⟩) (by kernel_rfl) ?_)
 refine LWp.mono (Q:=fun e s=>(match (generalizing:=false) o2204 with | x2178=>e = .exit 0∧s=⟨[(1,.ptr 7 0 0),(3,.own 8)],[(7,some (.box 32 (aHist a0))),(8,some (.row 4 101 (x2178.map erank_Cell)))],0⟩)) (LWp.cv (withBody (fun body hbody => ?_))) ?_
 ·refine f_rank_Order.l0.partial_correctness a0 (motive:=fun x2167 x2168 o2204=>LWp Γ body (fun e s=>∃ t,Cv Γ s t∧(match (generalizing:=false) o2204 with | x2178=>e = .exit 0∧t=⟨[(1,.ptr 7 0 0),(3,.own 8)],[(7,some (.box 32 (aHist a0))),(8,some (.row 4 101 (x2178.map erank_Cell)))],0⟩)) ⟨[(1,.ptr 3 0 0),(3,.own 4),(4,iV .i64 x2168)],[(3,some (.box 32 (aHist a0))),(4,some (.row 4 101 (x2167.map erank_Cell)))],0⟩) ?_ _ _ _ e2205
  clear H e2205 o2204;intro self ih x2167 x2168 o2204 H
  subst hbody
  refine LWp.round ?_
  refine AWp.seq ?_
  refine sr hP hn hm [] [(12,bV (decide (x2168≥(0:Int))))] [1,3,4,12] [] [3,4] [] (by kernel_rfl) trivial ?_
  refine AWp.cond (decide (x2168≥(0:Int))) (by kernel_rfl) (fun c2169 => ?_) (fun c2169 => ?_)
  ·replace H:=iT c2169 H
   refine AWp.skip ?_
   refine AWp.seq ?_
   refine AWp.block ?_
   obtain⟨b2174,p2175,q2176,H⟩:=at_of H
   obtain⟨c2177,H⟩:=chk_of H
   refine rg hP hn hm [(6,.c (eBucket b2174)),(13,.c (eBucket b2174)),(17,.app 5 ([(⟨(⟨(-1),a0.f1,b2174.f0⟩:Tbound_Key),b2174.f1⟩:Trank_Cell)].map erank_Cell)),(18,.app 6 ((x2167++[(⟨(⟨(-1),a0.f1,b2174.f0⟩:Tbound_Key),b2174.f1⟩:Trank_Cell)]).map erank_Cell))] [(3,.own 6)] [1,3,4] [(6,some (.row 4 101 ((x2167++[(⟨(⟨(-1),a0.f1,b2174.f0⟩:Tbound_Key),b2174.f1⟩:Trank_Cell)]).map erank_Cell)))] [3,6] [_,_,_,_,[(⟨(⟨(-1),a0.f1,b2174.f0⟩:Tbound_Key),b2174.f1⟩:Trank_Cell)].map erank_Cell=[[iI .i64 (-1),iI .i64 a0.f1,iI .i64 b2174.f0,iI .u64 b2174.f1]],(x2167++[(⟨(⟨(-1),a0.f1,b2174.f0⟩:Tbound_Key),b2174.f1⟩:Trank_Cell)]).map erank_Cell=(x2167.map erank_Cell)++([(⟨(⟨(-1),a0.f1,b2174.f0⟩:Tbound_Key),b2174.f1⟩:Trank_Cell)].map erank_Cell),∀ c∈([(⟨(⟨(-1),a0.f1,b2174.f0⟩:Tbound_Key),b2174.f1⟩:Trank_Cell)].map erank_Cell),c.length=4,∀ c∈([(⟨(⟨(-1),a0.f1,b2174.f0⟩:Tbound_Key),b2174.f1⟩:Trank_Cell)].map erank_Cell),leaves (c.map .im)=true,((x2167.map erank_Cell).length+([(⟨(⟨(-1),a0.f1,b2174.f0⟩:Tbound_Key),b2174.f1⟩:Trank_Cell)].map erank_Cell).length)*32≤140737488355328] (by kernel_rfl) ⟨p2175,el_map eBucket q2176,p2175,el_map eBucket q2176,by exact rfl,by simp,by exact all_len _ _ _ (fun _=>rfl),by exact all_leaf _ _ (fun _=>rfl),by simpa using c2177,trivial⟩ ?_
   refine rg hP hn hm [] [(4,iV .i64 (i64.wrap (x2168-(1:Int))))] [1,3,4] [] [3,6] [] (by kernel_rfl) trivial ?_
   exact LWp.conv [(3,3),(6,4)] [] [] (by kernel_rfl) (ih _ _ _ H)
  ·replace H:=iF c2169 H
   refine AWp.exit ?_
   obtain rfl:=Option.some.inj H
   exact lf [(3,7),(4,8)] [] [] (by kernel_rfl) ⟨rfl,rfl⟩
 ·obtain⟨x2178,rfl⟩:∃ z,z=o2204:=⟨_,rfl⟩
  rintro e s ⟨rfl,rfl⟩
  refine AWp.seq ?_
  refine sr hP hn hm [] [(36,bV (decide (a0.f3>(0:Int))))] [1,3,36] [] [7,8] [] (by kernel_rfl) trivial ?_
  obtain⟨o2206,e2207,H⟩:=bind_of H
  refine AWp.mono (Q:=fun e s=>(match (generalizing:=false) o2206 with | x2182=>e = .normal∧s=⟨[(1,.ptr 11 0 0),(3,.own 12)],[(11,some (.box 32 (aHist a0))),(12,some (.row 4 101 (x2182.map erank_Cell)))],0⟩)) (AWp.cv ?_) ?_
  ·replace H:=e2207;clear e2207
   refine AWp.cond (decide (a0.f3>(0:Int))) (by kernel_rfl) (fun c2179 => ?_) (fun c2179 => ?_)
   ·replace H:=iT c2179 H
    obtain⟨c2181,H⟩:=chk_of H
    refine rg hP hn hm [(5,.app 9 ([(⟨(⟨0,0,0⟩:Tbound_Key),a0.f3⟩:Trank_Cell)].map erank_Cell)),(6,.app 10 ((x2178++[(⟨(⟨0,0,0⟩:Tbound_Key),a0.f3⟩:Trank_Cell)]).map erank_Cell))] [(3,.own 10)] [1,3] [(10,some (.row 4 101 ((x2178++[(⟨(⟨0,0,0⟩:Tbound_Key),a0.f3⟩:Trank_Cell)]).map erank_Cell)))] [7,10] [[(⟨(⟨0,0,0⟩:Tbound_Key),a0.f3⟩:Trank_Cell)].map erank_Cell=[[iI .i64 0,iI .i64 0,iI .i64 0,iI .u64 a0.f3]],(x2178++[(⟨(⟨0,0,0⟩:Tbound_Key),a0.f3⟩:Trank_Cell)]).map erank_Cell=(x2178.map erank_Cell)++([(⟨(⟨0,0,0⟩:Tbound_Key),a0.f3⟩:Trank_Cell)].map erank_Cell),∀ c∈([(⟨(⟨0,0,0⟩:Tbound_Key),a0.f3⟩:Trank_Cell)].map erank_Cell),c.length=4,∀ c∈([(⟨(⟨0,0,0⟩:Tbound_Key),a0.f3⟩:Trank_Cell)].map erank_Cell),leaves (c.map .im)=true,((x2178.map erank_Cell).length+([(⟨(⟨0,0,0⟩:Tbound_Key),a0.f3⟩:Trank_Cell)].map erank_Cell).length)*32≤140737488355328] (by kernel_rfl) ⟨by exact rfl,by simp,by exact all_len _ _ _ (fun _=>rfl),by exact all_leaf _ _ (fun _=>rfl),by simpa using c2181,trivial⟩ ?_
    obtain rfl:=Option.some.inj H
    exact lf [(7,11),(10,12)] [] [] (by kernel_rfl) ⟨rfl,rfl⟩
   ·replace H:=iF c2179 H
    refine AWp.skip ?_
    obtain rfl:=Option.some.inj H
    exact lf [(7,11),(8,12)] [] [] (by kernel_rfl) ⟨rfl,rfl⟩
  ·obtain⟨x2182,rfl⟩:∃ z,z=o2206:=⟨_,rfl⟩
   rintro e s ⟨rfl,rfl⟩
   refine AWp.seq ?_
   refine sr hP hn hm [(2,.any (iV .i64 (a0.f6.length:Int)))] [(45,.im (.row (a0.f6.map eBucket))),(46,iV .i64 (a0.f6.length:Int)),(47,iV .i64 0)] [1,3,45,46,47] [] [11,12] [((a0.f6.map eBucket).length:Int)=(a0.f6.length:Int)] (by kernel_rfl) ⟨by rw[len_map],trivial⟩ ?_
   refine AWp.block ?_
   obtain⟨o2208,e2209,H⟩:=bind_of H
   refine AWp.loop (LWp.conv (inv:=[(11,16),(12,17)]) (vk:=[]) (e0:=[]) (t:=⟨[(1,.ptr 16 0 0),(3,.own 17),(45,.im (.row (a0.f6.map eBucket))),(46,iV .i64 (a0.f6.length:Int)),(47,iV .i64 0)],[(16,some (.box 32 (aHist a0))),(17,some (.row 4 101 (x2182.map erank_Cell)))],0⟩) (by kernel_rfl) ?_)
   refine LWp.mono (Q:=fun e s=>(match (generalizing:=false) o2208 with | x2203=>e = .exit 2∧s=⟨[(3,.own 21)],[(21,some (.row 4 101 (x2203.map erank_Cell)))],0⟩)) (LWp.cv (withBody (fun body hbody => ?_))) ?_
   ·refine f_rank_Order.l1.partial_correctness a0 (motive:=fun x2192 x2193 o2208=>LWp Γ body (fun e s=>∃ t,Cv Γ s t∧(match (generalizing:=false) o2208 with | x2203=>e = .exit 2∧t=⟨[(3,.own 21)],[(21,some (.row 4 101 (x2203.map erank_Cell)))],0⟩)) ⟨[(1,.ptr 16 0 0),(3,.own 17),(45,.im (.row (a0.f6.map eBucket))),(46,iV .i64 (a0.f6.length:Int)),(47,iV .i64 x2193)],[(16,some (.box 32 (aHist a0))),(17,some (.row 4 101 (x2192.map erank_Cell)))],0⟩) ?_ _ _ _ e2209
    clear H e2209 o2208;intro self ih x2192 x2193 o2208 H
    subst hbody
    refine LWp.round ?_
    refine sr hP hn hm [] [(48,bV (decide (x2193<(a0.f6.length:Int))))] [1,3,45,46,47,48] [] [16,17] [] (by kernel_rfl) trivial ?_
    refine AWp.seq ?_
    refine AWp.cond (decide (x2193<(a0.f6.length:Int))) (by kernel_rfl) (fun c2194 => ?_) (fun c2194 => ?_)
    ·replace H:=iT c2194 H
     refine AWp.skip ?_
     refine AWp.seq ?_
     refine AWp.block ?_
     obtain⟨b2198,p2199,q2200,H⟩:=at_of H
     refine sr hP hn hm [(0,.c (eBucket b2198)),(2,.k 18)] [(6,.ptr 18 0 0)] [1,3,6,45,46,47] [(18,some (.box 89 (aBucket b2198)))] [16,17,18] [_,_] (by kernel_rfl) ⟨p2199,el_map eBucket q2200,trivial⟩ ?_
     obtain⟨c2202,H⟩:=chk_of H
     refine rg hP hn hm [(9,.app 19 ([(⟨(⟨1,a0.f1,b2198.f0⟩:Tbound_Key),b2198.f1⟩:Trank_Cell)].map erank_Cell)),(10,.app 20 ((x2192++[(⟨(⟨1,a0.f1,b2198.f0⟩:Tbound_Key),b2198.f1⟩:Trank_Cell)]).map erank_Cell))] [(3,.own 20)] [1,3,45,46,47] [(20,some (.row 4 101 ((x2192++[(⟨(⟨1,a0.f1,b2198.f0⟩:Tbound_Key),b2198.f1⟩:Trank_Cell)]).map erank_Cell)))] [16,20] [[(⟨(⟨1,a0.f1,b2198.f0⟩:Tbound_Key),b2198.f1⟩:Trank_Cell)].map erank_Cell=[[iI .i64 1,iI .i64 a0.f1,iI .i64 b2198.f0,iI .u64 b2198.f1]],(x2192++[(⟨(⟨1,a0.f1,b2198.f0⟩:Tbound_Key),b2198.f1⟩:Trank_Cell)]).map erank_Cell=(x2192.map erank_Cell)++([(⟨(⟨1,a0.f1,b2198.f0⟩:Tbound_Key),b2198.f1⟩:Trank_Cell)].map erank_Cell),∀ c∈([(⟨(⟨1,a0.f1,b2198.f0⟩:Tbound_Key),b2198.f1⟩:Trank_Cell)].map erank_Cell),c.length=4,∀ c∈([(⟨(⟨1,a0.f1,b2198.f0⟩:Tbound_Key),b2198.f1⟩:Trank_Cell)].map erank_Cell),leaves (c.map .im)=true,((x2192.map erank_Cell).length+([(⟨(⟨1,a0.f1,b2198.f0⟩:Tbound_Key),b2198.f1⟩:Trank_Cell)].map erank_Cell).length)*32≤140737488355328] (by kernel_rfl) ⟨by exact rfl,by simp,by exact all_len _ _ _ (fun _=>rfl),by exact all_leaf _ _ (fun _=>rfl),by simpa using c2202,trivial⟩ ?_
     refine rg hP hn hm [] [(47,iV .i64 (i64.wrap (x2193+(1:Int))))] [1,3,45,46,47] [] [16,20] [] (by kernel_rfl) trivial ?_
     exact LWp.conv [(16,16),(20,17)] [] [] (by kernel_rfl) (ih _ _ _ H)
    ·replace H:=iF c2194 H
     refine AWp.exit ?_
     obtain rfl:=Option.some.inj H
     exact lf [(17,21)] [] [] (by kernel_rfl) ⟨rfl,rfl⟩
   ·obtain⟨x2203,rfl⟩:∃ z,z=o2208:=⟨_,rfl⟩
    rintro e s ⟨rfl,rfl⟩
    refine sr hP hn hm [] [(2,.own 21)] [2] [] [21] [] (by kernel_rfl) trivial ?_
    refine AWp.conv (inv:=[(21,0)]) (vk:=[]) (e0:=[]) (t:=⟨[(2,.own 0)],[(0,some (.row 4 101 (x2203.map erank_Cell)))],0⟩) (by kernel_rfl) ?_
    refine AWp.ret ?_
    obtain rfl:=Option.some.inj H
    exact rl (.inl rfl) rfl (by kernel_rfl) (by kernel_rfl)
def f_rank_At.l0 (t2212:List Trank_Cell) (x2222:Int) (x2223:Int):Option ((Tbound_Key×Int) ⊕ Unit):=if(decide (x2223<(t2212.length:Int)))=true then((at? t2212 x2223)>>=fun b2228=>if(decide (x2222≤b2228.f1))=true then(some (.inl (b2228.f0,0))) else(f_rank_At.l0 t2212 (u64.wrap (x2222-b2228.f1)) (i64.wrap (x2223+(1:Int))))) else(some (.inr ()))
partial_fixpoint
def f_rank_At.f (a0:THist) (a1:Int):Option (Tbound_Key×Int):=if(a0.f4==(0:Int))=true then(some ((⟨0,0,0⟩:Tbound_Key),30)) else(((if(decide (a1<(1:Int)))=true then(some true) else(some (decide (a1>a0.f4)))):Option (Bool))>>=fun x2156=>if x2156=true then(some ((⟨0,0,0⟩:Tbound_Key),4)) else((f_rank_Order.f a0)>>=fun t2212=>(f_rank_At.l0 t2212 a1 0)>>=fun oo=>match oo with | .inl rr=>(some rr) | .inr _=>(some ((⟨0,0,0⟩:Tbound_Key),4))))
theorem f_rank_At.ok (a0:THist) (a1:Int) (r:Tbound_Key×Int) (H:f_rank_At.f a0 a1=some r):Pv.Fn Tryz.prog 43 [.agg (aHist a0),iV .u64 a1] [] 0 (fun x o=>x = .tup [.agg (abound_Key (r.1)),iV .i64 r.2]∧o=[]):=by
 unfold f_rank_At.f at H
 refine Fn.bodyK [] Tryz.func43 rfl rfl (fun Γ hP hn => ?_)
 have hm:Tryz.prog.follows .mixedOrders=true:=by kernel_rfl
 replace hn:Γ.n=42:=hn
 refine sr hP hn hm [(0,.k 0),(1,.k 1)] [(2,.ptr 0 0 0),(4,.ptr 1 0 0)] [1,2,4] [(0,some (.box 32 (aHist a0))),(1,some (.box 45 (abound_Key ⟨0,0,0⟩)))] [0,1] [] (by kernel_rfl) trivial ?_
 refine AWp.seq ?_
 refine AWp.block ?_
 refine sr hP hn hm [] [(8,bV (a0.f4==(0:Int)))] [1,2,4,8] [] [0,1] [] (by kernel_rfl) trivial ?_
 refine AWp.cond (a0.f4==(0:Int)) (by kernel_rfl) (fun c2153 => ?_) (fun c2153 => ?_)
 ·replace H:=iT c2153 H
  refine sr hP hn hm [] [(5,iV .i64 30)] [4,5] [] [1] [] (by kernel_rfl) trivial ?_
  refine AWp.conv (inv:=[(1,0)]) (vk:=[]) (e0:=[]) (t:=⟨[(4,.ptr 0 0 0),(5,iV .i64 30)],[(0,some (.box 45 (abound_Key ((⟨0,0,0⟩:Tbound_Key)))))],0⟩) (by kernel_rfl) ?_
  refine AWp.ret ?_
  obtain rfl:=Option.some.inj H
  exact rl (.inl rfl) rfl (by kernel_rfl) (by kernel_rfl)
 ·replace H:=iF c2153 H
  refine AWp.seq ?_
  obtain⟨o2232,e2233,H⟩:=bind_of H
  refine AWp.mono (Q:=fun e s=>(match (generalizing:=false) o2232 with | x2156=>e = .normal∧s=⟨[(1,iV .u64 a1),(2,.ptr 2 0 0),(4,.ptr 3 0 0),(13,bV x2156)],[(2,some (.box 32 (aHist a0))),(3,some (.box 45 (abound_Key ⟨0,0,0⟩)))],0⟩)) (AWp.cv ?_) ?_
  ·replace H:=e2233;clear e2233
   rcases Bool.eq_false_or_eq_true (decide (a1<(1:Int))) with c2155 | c2155
   ·replace H:=iT c2155 H
    refine rg hP hn hm [(2,.b true)] [(13,bV true)] [1,2,4,13] [] [0,1] [_] (by kernel_rfl) ⟨c2155,trivial⟩ ?_
    obtain rfl:=Option.some.inj H
    exact lf [(0,2),(1,3)] [] [] (by kernel_rfl) ⟨rfl,rfl⟩
   ·replace H:=iF c2155 H
    refine rg hP hn hm [(2,.b false)] [(13,bV (decide (a1>a0.f4)))] [1,2,4,13] [] [0,1] [_] (by kernel_rfl) ⟨c2155,trivial⟩ ?_
    obtain rfl:=Option.some.inj H
    exact lf [(0,2),(1,3)] [] [] (by kernel_rfl) ⟨rfl,rfl⟩
  ·obtain⟨x2156,rfl⟩:∃ z,z=o2232:=⟨_,rfl⟩
   rintro e s ⟨rfl,rfl⟩
   refine AWp.cond x2156 (by kernel_rfl) (fun c2157 => ?_) (fun c2157 => ?_)
   ·replace H:=iT c2157 H
    refine sr hP hn hm [] [(5,iV .i64 4)] [4,5] [] [3] [] (by kernel_rfl) trivial ?_
    refine AWp.conv (inv:=[(3,0)]) (vk:=[]) (e0:=[]) (t:=⟨[(4,.ptr 0 0 0),(5,iV .i64 4)],[(0,some (.box 45 (abound_Key ((⟨0,0,0⟩:Tbound_Key)))))],0⟩) (by kernel_rfl) ?_
    refine AWp.ret ?_
    obtain rfl:=Option.some.inj H
    exact rl (.inl rfl) rfl (by kernel_rfl) (by kernel_rfl)
   ·replace H:=iF c2157 H
    refine AWp.skip ?_
    refine AWp.seq ?_
    obtain⟨t2212,e2213,H⟩:=bind_of H
    refine sr hP hn hm [(1,.call [] [(0,4)] [] [4] 0 (.own 0) [(0,some (.row 4 101 (t2212.map erank_Cell)))]),(2,.any (iV .i64 (t2212.length:Int)))] [(24,.own 4),(25,iV .i64 (t2212.length:Int)),(26,iV .i64 0)] [1,4,24,25,26] [(4,some (.row 4 101 (t2212.map erank_Cell)))] [3,4] [_,_,((t2212.map erank_Cell).length:Int)=(t2212.length:Int)] (by kernel_rfl) ⟨Tryz.call45,f_rank_Order.ok a0 t2212 e2213,by rw[len_map],trivial⟩ ?_
    refine AWp.block ?_
    obtain⟨o2234,e2235,H⟩:=bind_of H
    refine AWp.loop (LWp.conv (inv:=[(3,6),(4,7)]) (vk:=[]) (e0:=[]) (t:=⟨[(1,iV .u64 a1),(4,.ptr 6 0 0),(24,.own 7),(25,iV .i64 (t2212.length:Int)),(26,iV .i64 0)],[(6,some (.box 45 (abound_Key ⟨0,0,0⟩))),(7,some (.row 4 101 (t2212.map erank_Cell)))],0⟩) (by kernel_rfl) ?_)
    refine LWp.mono (Q:=fun e s=>(match (generalizing:=false) o2234 with | .inl rr=>e = .ret∧s.floor=0∧resOf Tryz.prog Tryz.f43 s=some (.tup [.agg (abound_Key (rr.1)),iV .i64 rr.2])∧([]:List (Nat×Option MObj))=[] | .inr _=>e = .exit 1∧s=⟨[(4,.ptr 9 0 0)],[(9,some (.box 45 (abound_Key ⟨0,0,0⟩)))],0⟩)) (LWp.cv (withBody (fun body hbody => ?_))) ?_
    ·refine f_rank_At.l0.partial_correctness t2212 (motive:=fun x2222 x2223 o2234=>LWp Γ body (fun e s=>∃ t,Cv Γ s t∧(match (generalizing:=false) o2234 with | .inl rr=>e = .ret∧t.floor=0∧resOf Tryz.prog Tryz.f43 t=some (.tup [.agg (abound_Key (rr.1)),iV .i64 rr.2])∧([]:List (Nat×Option MObj))=[] | .inr _=>e = .exit 1∧t=⟨[(4,.ptr 9 0 0)],[(9,some (.box 45 (abound_Key ⟨0,0,0⟩)))],0⟩)) ⟨[(1,iV .u64 x2222),(4,.ptr 6 0 0),(24,.own 7),(25,iV .i64 (t2212.length:Int)),(26,iV .i64 x2223)],[(6,some (.box 45 (abound_Key ⟨0,0,0⟩))),(7,some (.row 4 101 (t2212.map erank_Cell)))],0⟩) ?_ _ _ _ e2235
     clear H e2235 o2234;intro self ih x2222 x2223 o2234 H
     subst hbody
     refine LWp.round ?_
     refine sr hP hn hm [] [(27,bV (decide (x2223<(t2212.length:Int))))] [1,4,24,25,26,27] [] [6,7] [] (by kernel_rfl) trivial ?_
     refine AWp.seq ?_
     refine AWp.cond (decide (x2223<(t2212.length:Int))) (by kernel_rfl) (fun c2224 => ?_) (fun c2224 => ?_)
     ·replace H:=iT c2224 H
      refine AWp.skip ?_
      refine AWp.seq ?_
      refine AWp.block ?_
      obtain⟨b2228,p2229,q2230,H⟩:=at_of H
      refine sr hP hn hm [(1,.c (erank_Cell b2228)),(2,.k 8)] [(7,.ptr 8 0 0)] [1,4,7,24,25,26] [(8,some (.box 101 [iV .i64 b2228.f0.f0,iV .i64 b2228.f0.f1,iV .i64 b2228.f0.f2,iV .u64 b2228.f1]))] [6,7,8] [_,_,_] (by kernel_rfl) ⟨p2229,el_lt erank_Cell p2229 q2230,el_map erank_Cell q2230,trivial⟩ ?_
      refine AWp.seq ?_
      refine sr hP hn hm [] [(33,bV (decide (x2222≤b2228.f1)))] [1,4,7,24,25,26,33] [] [6,7,8] [] (by kernel_rfl) trivial ?_
      refine AWp.cond (decide (x2222≤b2228.f1)) (by kernel_rfl) (fun c2231 => ?_) (fun c2231 => ?_)
      ·replace H:=iT c2231 H
       refine sr hP hn hm [] [(5,iV .i64 0)] [4,5] [(6,some (.box 45 (abound_Key b2228.f0)))] [6] [] (by kernel_rfl) trivial ?_
       refine AWp.conv (inv:=[(6,0)]) (vk:=[]) (e0:=[]) (t:=⟨[(4,.ptr 0 0 0),(5,iV .i64 0)],[(0,some (.box 45 (abound_Key (b2228.f0))))],0⟩) (by kernel_rfl) ?_
       refine AWp.ret ?_
       obtain rfl:=Option.some.inj H
       exact rl rfl rfl (by kernel_rfl) (by kernel_rfl)
      ·replace H:=iF c2231 H
       refine AWp.skip ?_
       refine rg hP hn hm [] [(1,iV .u64 (u64.wrap (x2222-b2228.f1)))] [1,4,24,25,26] [] [6,7] [] (by kernel_rfl) trivial ?_
       refine rg hP hn hm [] [(26,iV .i64 (i64.wrap (x2223+(1:Int))))] [1,4,24,25,26] [] [6,7] [] (by kernel_rfl) trivial ?_
       exact LWp.conv [(6,6),(7,7)] [] [] (by kernel_rfl) (ih _ _ _ H)
     ·replace H:=iF c2224 H
      refine AWp.exit ?_
      obtain rfl:=Option.some.inj H
      exact lf [(6,9)] [] [] (by kernel_rfl) ⟨rfl,rfl⟩
    ·rcases o2234 with rr | _
     ·skip
      rintro e s ⟨rfl,hfl,hres⟩
      obtain rfl:=Option.some.inj H
      exact Exists.intro _ (And.intro (fun _ _ h=>h) (And.intro (.inl rfl) (And.intro hfl hres)))
     ·skip
      rintro e s ⟨rfl,rfl⟩
      refine sr hP hn hm [] [(5,iV .i64 4)] [4,5] [] [9] [] (by kernel_rfl) trivial ?_
      refine AWp.conv (inv:=[(9,0)]) (vk:=[]) (e0:=[]) (t:=⟨[(4,.ptr 0 0 0),(5,iV .i64 4)],[(0,some (.box 45 (abound_Key ((⟨0,0,0⟩:Tbound_Key)))))],0⟩) (by kernel_rfl) ?_
      refine AWp.ret ?_
      obtain rfl:=Option.some.inj H
      exact rl (.inl rfl) rfl (by kernel_rfl) (by kernel_rfl)
def f_rank_Quantile.f (a0:THist) (a1:Int) (a2:Int):Option (Tbound_Key×Int):=((if(a2==(0:Int))=true then(some true) else(some (decide (a1>a2)))):Option (Bool))>>=fun x2048=>if x2048=true then(some ((⟨0,0,0⟩:Tbound_Key),1)) else(if(a0.f4==(0:Int))=true then(some ((⟨0,0,0⟩:Tbound_Key),30)) else((f_num_Mul.f a1 a0.f4)>>=fun t2148=>(f_num_Wide_Ceil.f (t2148) a2)>>=fun t2150=>if(t2150.2 != (0:Int))=true then(some ((⟨0,0,0⟩:Tbound_Key),t2150.2)) else((f_rank_At.f a0 (if(1:Int)>t2150.1 then(1:Int) else t2150.1))>>=fun t2238=>some ((t2238.1),t2238.2))))
theorem f_rank_Quantile.ok (a0:THist) (a1:Int) (a2:Int) (r:Tbound_Key×Int) (H:f_rank_Quantile.f a0 a1 a2=some r):Pv.Fn Tryz.prog 27 [.agg (aHist a0),iV .u64 a1,iV .u64 a2] [] 0 (fun x o=>x = .tup [.agg (abound_Key (r.1)),iV .i64 r.2]∧o=[]):=by
 unfold f_rank_Quantile.f at H
 refine Fn.bodyK [] Tryz.func27 rfl rfl (fun Γ hP hn => ?_)
 have hm:Tryz.prog.follows .mixedOrders=true:=by kernel_rfl
 replace hn:Γ.n=43:=hn
 refine sr hP hn hm [(0,.k 0),(1,.k 1)] [(3,.ptr 0 0 0),(6,.ptr 1 0 0)] [1,2,3,6] [(0,some (.box 32 (aHist a0))),(1,some (.box 45 (abound_Key ⟨0,0,0⟩)))] [0,1] [] (by kernel_rfl) trivial ?_
 refine AWp.seq ?_
 refine AWp.block ?_
 refine AWp.seq ?_
 obtain⟨o2240,e2241,H⟩:=bind_of H
 refine AWp.mono (Q:=fun e s=>(match (generalizing:=false) o2240 with | x2048=>e = .normal∧s=⟨[(1,iV .u64 a1),(2,iV .u64 a2),(3,.ptr 2 0 0),(6,.ptr 3 0 0),(10,bV x2048)],[(2,some (.box 32 (aHist a0))),(3,some (.box 45 (abound_Key ⟨0,0,0⟩)))],0⟩)) (AWp.cv ?_) ?_
 ·replace H:=e2241;clear e2241
  rcases Bool.eq_false_or_eq_true (a2==(0:Int)) with c2047 | c2047
  ·replace H:=iT c2047 H
   refine rg hP hn hm [(2,.b true)] [(10,bV true)] [1,2,3,6,10] [] [0,1] [_] (by kernel_rfl) ⟨c2047,trivial⟩ ?_
   obtain rfl:=Option.some.inj H
   exact lf [(0,2),(1,3)] [] [] (by kernel_rfl) ⟨rfl,rfl⟩
  ·replace H:=iF c2047 H
   refine rg hP hn hm [(2,.b false)] [(10,bV (decide (a1>a2)))] [1,2,3,6,10] [] [0,1] [_] (by kernel_rfl) ⟨c2047,trivial⟩ ?_
   obtain rfl:=Option.some.inj H
   exact lf [(0,2),(1,3)] [] [] (by kernel_rfl) ⟨rfl,rfl⟩
 ·obtain⟨x2048,rfl⟩:∃ z,z=o2240:=⟨_,rfl⟩
  rintro e s ⟨rfl,rfl⟩
  refine AWp.cond x2048 (by kernel_rfl) (fun c2049 => ?_) (fun c2049 => ?_)
  ·replace H:=iT c2049 H
   refine sr hP hn hm [] [(7,iV .i64 1)] [6,7] [] [3] [] (by kernel_rfl) trivial ?_
   refine AWp.conv (inv:=[(3,0)]) (vk:=[]) (e0:=[]) (t:=⟨[(6,.ptr 0 0 0),(7,iV .i64 1)],[(0,some (.box 45 (abound_Key ((⟨0,0,0⟩:Tbound_Key)))))],0⟩) (by kernel_rfl) ?_
   refine AWp.ret ?_
   obtain rfl:=Option.some.inj H
   exact rl (.inl rfl) rfl (by kernel_rfl) (by kernel_rfl)
  ·replace H:=iF c2049 H
   refine sr hP hn hm [] [(19,bV (a0.f4==(0:Int)))] [1,2,3,6,19] [] [2,3] [] (by kernel_rfl) trivial ?_
   refine AWp.cond (a0.f4==(0:Int)) (by kernel_rfl) (fun c2050 => ?_) (fun c2050 => ?_)
   ·replace H:=iT c2050 H
    refine sr hP hn hm [] [(7,iV .i64 30)] [6,7] [] [3] [] (by kernel_rfl) trivial ?_
    refine AWp.conv (inv:=[(3,0)]) (vk:=[]) (e0:=[]) (t:=⟨[(6,.ptr 0 0 0),(7,iV .i64 30)],[(0,some (.box 45 (abound_Key ((⟨0,0,0⟩:Tbound_Key)))))],0⟩) (by kernel_rfl) ?_
    refine AWp.ret ?_
    obtain rfl:=Option.some.inj H
    exact rl (.inl rfl) rfl (by kernel_rfl) (by kernel_rfl)
   ·replace H:=iF c2050 H
    refine AWp.skip ?_
    obtain⟨t2148,e2149,H⟩:=bind_of H
    obtain⟨t2150,e2151,H⟩:=bind_of H
    refine sr hP hn hm [(3,.call [] [] [] [] 0 (.agg (anum_Wide (t2148))) []),(5,.call [] [] [] [] 0 (.tup [iV .u64 t2150.1,iV .i64 t2150.2]) [])] [(8,iV .u64 t2150.1),(9,iV .i64 t2150.2)] [3,6,8,9] [] [2,3] [_,_,_,_] (by kernel_rfl) ⟨Tryz.call41,f_num_Mul.ok a1 a0.f4 t2148 e2149,Tryz.call42,f_num_Wide_Ceil.ok (t2148) a2 t2150 e2151,trivial⟩ ?_
    refine AWp.seq ?_
    refine sr hP hn hm [] [(34,bV (t2150.2 != (0:Int)))] [3,6,8,9,34] [] [2,3] [] (by kernel_rfl) trivial ?_
    refine AWp.cond (t2150.2 != (0:Int)) (by kernel_rfl) (fun c2152 => ?_) (fun c2152 => ?_)
    ·replace H:=iT c2152 H
     refine sr hP hn hm [] [(7,iV .i64 t2150.2)] [6,7] [] [3] [] (by kernel_rfl) trivial ?_
     refine AWp.conv (inv:=[(3,0)]) (vk:=[]) (e0:=[]) (t:=⟨[(6,.ptr 0 0 0),(7,iV .i64 t2150.2)],[(0,some (.box 45 (abound_Key ((⟨0,0,0⟩:Tbound_Key)))))],0⟩) (by kernel_rfl) ?_
     refine AWp.ret ?_
     obtain rfl:=Option.some.inj H
     exact rl (.inl rfl) rfl (by kernel_rfl) (by kernel_rfl)
    ·replace H:=iF c2152 H
     refine AWp.skip ?_
     obtain⟨t2238,e2239,H⟩:=bind_of H
     refine sr hP hn hm [(2,.more xMax),(3,.call [] [] [] [] 0 (.tup [.agg (abound_Key (t2238.1)),iV .i64 t2238.2]) [])] [(7,iV .i64 t2238.2)] [6,7] [(3,some (.box 45 (abound_Key (t2238.1))))] [3] [_,_] (by kernel_rfl) ⟨Tryz.call43,f_rank_At.ok a0 (if(1:Int)>t2150.1 then(1:Int) else t2150.1) t2238 e2239,trivial⟩ ?_
     refine AWp.conv (inv:=[(3,0)]) (vk:=[]) (e0:=[]) (t:=⟨[(6,.ptr 0 0 0),(7,iV .i64 t2238.2)],[(0,some (.box 45 (abound_Key ((t2238.1)))))],0⟩) (by kernel_rfl) ?_
     refine AWp.ret ?_
     obtain rfl:=Option.some.inj H
     exact rl (.inl rfl) rfl (by kernel_rfl) (by kernel_rfl)
def f_rank_spot.f (a0:Trank_Place):Option (Int):=if(decide (a0.f0>(0:Int)))=true then(some (i64.wrap ((1048576:Int)+a0.f1))) else(if(decide (a0.f0<(0:Int)))=true then(some (i64.wrap ((-1048576)-a0.f1))) else(some 0))
theorem f_rank_spot.ok (a0:Trank_Place) (r:Int) (H:f_rank_spot.f a0=some r):Pv.Fn Tryz.prog 44 [.agg (arank_Place a0)] [] 0 (fun x o=>x=iV .i64 r∧o=[]):=by
 unfold f_rank_spot.f at H
 refine Fn.bodyK [] Tryz.func44 rfl rfl (fun Γ hP hn => ?_)
 have hm:Tryz.prog.follows .mixedOrders=true:=by kernel_rfl
 replace hn:Γ.n=17:=hn
 refine sr hP hn hm [(0,.k 0)] [(1,.ptr 0 0 0)] [1] [(0,some (.box 37 (arank_Place a0)))] [0] [] (by kernel_rfl) trivial ?_
 refine AWp.seq ?_
 refine AWp.block ?_
 refine sr hP hn hm [] [(3,bV (decide (a0.f0>(0:Int))))] [1,3] [] [0] [] (by kernel_rfl) trivial ?_
 refine AWp.cond (decide (a0.f0>(0:Int))) (by kernel_rfl) (fun c2264 => ?_) (fun c2264 => ?_)
 ·replace H:=iT c2264 H
  refine sr hP hn hm [] [(2,iV .i64 (i64.wrap ((1048576:Int)+a0.f1)))] [2] [] [] [] (by kernel_rfl) trivial ?_
  refine AWp.conv (inv:=[]) (vk:=[]) (e0:=[]) (t:=⟨[(2,iV .i64 (i64.wrap ((1048576:Int)+a0.f1)))],[],0⟩) (by kernel_rfl) ?_
  refine AWp.ret ?_
  obtain rfl:=Option.some.inj H
  exact rl (.inl rfl) rfl (by kernel_rfl) (by kernel_rfl)
 ·replace H:=iF c2264 H
  refine sr hP hn hm [] [(10,bV (decide (a0.f0<(0:Int))))] [1,10] [] [0] [] (by kernel_rfl) trivial ?_
  refine AWp.cond (decide (a0.f0<(0:Int))) (by kernel_rfl) (fun c2265 => ?_) (fun c2265 => ?_)
  ·replace H:=iT c2265 H
   refine sr hP hn hm [] [(2,iV .i64 (i64.wrap ((-1048576)-a0.f1)))] [2] [] [] [] (by kernel_rfl) trivial ?_
   refine AWp.conv (inv:=[]) (vk:=[]) (e0:=[]) (t:=⟨[(2,iV .i64 (i64.wrap ((-1048576)-a0.f1)))],[],0⟩) (by kernel_rfl) ?_
   refine AWp.ret ?_
   obtain rfl:=Option.some.inj H
   exact rl (.inl rfl) rfl (by kernel_rfl) (by kernel_rfl)
  ·replace H:=iF c2265 H
   refine AWp.skip ?_
   refine sr hP hn hm [] [(2,iV .i64 0)] [2] [] [] [] (by kernel_rfl) trivial ?_
   refine AWp.conv (inv:=[]) (vk:=[]) (e0:=[]) (t:=⟨[(2,iV .i64 0)],[],0⟩) (by kernel_rfl) ?_
   refine AWp.ret ?_
   obtain rfl:=Option.some.inj H
   exact rl (.inl rfl) rfl (by kernel_rfl) (by kernel_rfl)
def f_rank_ends.f (a0:THist) (a1:Trank_Cell):Option (Int×Int):=if(decide (a1.f0.f0>(0:Int)))=true then((f_bound_Low.f a0.f1 a1.f0.f2)>>=fun t2286=>(f_bound_Units.f a0.f1 a1.f0.f2)>>=fun t2288=>some (i64.wrap ((1048576:Int)+t2286),i64.wrap ((1048576:Int)+t2288))) else(if(decide (a1.f0.f0<(0:Int)))=true then((f_bound_Units.f a0.f1 a1.f0.f2)>>=fun t2295=>(f_bound_Low.f a0.f1 a1.f0.f2)>>=fun t2297=>some (i64.wrap ((-1048576)-t2295),i64.wrap ((-1048576)-t2297))) else(if(a0.f2==(-524288))=true then(some (0,0)) else(some (i64.wrap ((-1048576)-a0.f2),i64.wrap ((1048576:Int)+a0.f2)))))
theorem f_rank_ends.ok (a0:THist) (a1:Trank_Cell) (r:Int×Int) (H:f_rank_ends.f a0 a1=some r):Pv.Fn Tryz.prog 46 [.agg (aHist a0),.agg (ar08_Cell ⟨a1.f0.f0,a1.f0.f1,a1.f0.f2,a1.f1⟩)] [] 0 (fun x o=>x = .tup [iV .i64 r.1,iV .i64 r.2]∧o=[]):=by
 unfold f_rank_ends.f at H
 refine Fn.bodyK [] Tryz.func46 rfl rfl (fun Γ hP hn => ?_)
 have hm:Tryz.prog.follows .mixedOrders=true:=by kernel_rfl
 replace hn:Γ.n=54:=hn
 refine sr hP hn hm [(0,.k 0),(1,.k 1)] [(2,.ptr 0 0 0),(3,.ptr 1 0 0)] [2,3] [(0,some (.box 32 (aHist a0))),(1,some (.box 101 [iV .i64 a1.f0.f0,iV .i64 a1.f0.f1,iV .i64 a1.f0.f2,iV .u64 a1.f1]))] [0,1] [] (by kernel_rfl) trivial ?_
 refine AWp.seq ?_
 refine AWp.block ?_
 refine sr hP hn hm [] [(6,bV (decide (a1.f0.f0>(0:Int))))] [2,3,6] [] [0,1] [] (by kernel_rfl) trivial ?_
 refine AWp.cond (decide (a1.f0.f0>(0:Int))) (by kernel_rfl) (fun c2281 => ?_) (fun c2281 => ?_)
 ·replace H:=iT c2281 H
  obtain⟨t2286,e2287,H⟩:=bind_of H
  obtain⟨t2288,e2289,H⟩:=bind_of H
  refine sr hP hn hm [(5,.call [] [] [] [] 0 (iV .i64 t2286) []),(12,.call [] [] [] [] 0 (iV .i64 t2288) [])] [(4,iV .i64 (i64.wrap ((1048576:Int)+t2286))),(5,iV .i64 (i64.wrap ((1048576:Int)+t2288)))] [4,5] [] [] [_,_,_,_] (by kernel_rfl) ⟨Tryz.call70,f_bound_Low.ok a0.f1 a1.f0.f2 t2286 e2287,Tryz.call71,f_bound_Units.ok a0.f1 a1.f0.f2 t2288 e2289,trivial⟩ ?_
  refine AWp.conv (inv:=[]) (vk:=[]) (e0:=[]) (t:=⟨[(4,iV .i64 (i64.wrap ((1048576:Int)+t2286))),(5,iV .i64 (i64.wrap ((1048576:Int)+t2288)))],[],0⟩) (by kernel_rfl) ?_
  refine AWp.ret ?_
  obtain rfl:=Option.some.inj H
  exact rl (.inl rfl) rfl (by kernel_rfl) (by kernel_rfl)
 ·replace H:=iF c2281 H
  refine sr hP hn hm [] [(25,bV (decide (a1.f0.f0<(0:Int))))] [2,3,25] [] [0,1] [] (by kernel_rfl) trivial ?_
  refine AWp.cond (decide (a1.f0.f0<(0:Int))) (by kernel_rfl) (fun c2290 => ?_) (fun c2290 => ?_)
  ·replace H:=iT c2290 H
   obtain⟨t2295,e2296,H⟩:=bind_of H
   obtain⟨t2297,e2298,H⟩:=bind_of H
   refine sr hP hn hm [(5,.call [] [] [] [] 0 (iV .i64 t2295) []),(12,.call [] [] [] [] 0 (iV .i64 t2297) [])] [(4,iV .i64 (i64.wrap ((-1048576)-t2295))),(5,iV .i64 (i64.wrap ((-1048576)-t2297)))] [4,5] [] [] [_,_,_,_] (by kernel_rfl) ⟨Tryz.call71,f_bound_Units.ok a0.f1 a1.f0.f2 t2295 e2296,Tryz.call70,f_bound_Low.ok a0.f1 a1.f0.f2 t2297 e2298,trivial⟩ ?_
   refine AWp.conv (inv:=[]) (vk:=[]) (e0:=[]) (t:=⟨[(4,iV .i64 (i64.wrap ((-1048576)-t2295))),(5,iV .i64 (i64.wrap ((-1048576)-t2297)))],[],0⟩) (by kernel_rfl) ?_
   refine AWp.ret ?_
   obtain rfl:=Option.some.inj H
   exact rl (.inl rfl) rfl (by kernel_rfl) (by kernel_rfl)
  ·replace H:=iF c2290 H
   refine sr hP hn hm [] [(44,bV (a0.f2==(-524288)))] [2,44] [] [0] [] (by kernel_rfl) trivial ?_
   refine AWp.cond (a0.f2==(-524288)) (by kernel_rfl) (fun c2299 => ?_) (fun c2299 => ?_)
   ·replace H:=iT c2299 H
    refine sr hP hn hm [] [(4,iV .i64 0),(5,iV .i64 0)] [4,5] [] [] [] (by kernel_rfl) trivial ?_
    refine AWp.conv (inv:=[]) (vk:=[]) (e0:=[]) (t:=⟨[(4,iV .i64 0),(5,iV .i64 0)],[],0⟩) (by kernel_rfl) ?_
    refine AWp.ret ?_
    obtain rfl:=Option.some.inj H
    exact rl (.inl rfl) rfl (by kernel_rfl) (by kernel_rfl)
   ·replace H:=iF c2299 H
    refine AWp.skip ?_
    refine sr hP hn hm [] [(4,iV .i64 (i64.wrap ((-1048576)-a0.f2))),(5,iV .i64 (i64.wrap ((1048576:Int)+a0.f2)))] [4,5] [] [] [] (by kernel_rfl) trivial ?_
    refine AWp.conv (inv:=[]) (vk:=[]) (e0:=[]) (t:=⟨[(4,iV .i64 (i64.wrap ((-1048576)-a0.f2))),(5,iV .i64 (i64.wrap ((1048576:Int)+a0.f2)))],[],0⟩) (by kernel_rfl) ?_
    refine AWp.ret ?_
    obtain rfl:=Option.some.inj H
    exact rl (.inl rfl) rfl (by kernel_rfl) (by kernel_rfl)
def f_rank_Below.l0 (a0:THist) (t2268:Int) (t2272:List Trank_Cell) (x2309:Int) (x2310:Int) (x2311:Int):Option (Int×Int):=if(decide (x2311<(t2272.length:Int)))=true then((at? t2272 x2311)>>=fun b2316=>(f_rank_ends.f a0 b2316)>>=fun t2321=>((if(decide (t2321.2≤t2268))=true then(some (u64.wrap (x2309+b2316.f1),x2310)) else(((if(decide (t2321.1<t2268))=true then(some (u64.wrap (x2310+b2316.f1))) else(some x2310)):Option (Int))>>=fun x2325=>some (x2309,x2325))):Option (Int×Int))>>=fun oo=>match oo with | (x2326,x2327)=>(f_rank_Below.l0 a0 t2268 t2272 x2326 x2327 (i64.wrap (x2311+(1:Int))))) else(some (x2309,x2310))
partial_fixpoint
def f_rank_Below.f (a0:THist) (a1:Trank_Place):Option (Trank_Part×Int):=((if(decide (a1.f0<(-1)))=true then(some true) else(if(decide (a1.f0>(1:Int)))=true then(some true) else(if(a1.f0 != (0:Int))=true then(if(decide (a1.f1≤(-262144)))=true then(some true) else(if(decide (a1.f1>(262144:Int)))=true then(some true) else(if(a1.f0==(0:Int))=true then(some (a1.f1 != (0:Int))) else(some false)))) else(if(a1.f0==(0:Int))=true then(some (a1.f1 != (0:Int))) else(some false))))):Option (Bool))>>=fun x2261=>if x2261=true then(some ((⟨0,0,0⟩:Trank_Part),1)) else(if(a0.f4==(0:Int))=true then(some ((⟨0,0,0⟩:Trank_Part),30)) else((f_rank_spot.f a1)>>=fun t2268=>(f_rank_Order.f a0)>>=fun t2272=>(f_rank_Below.l0 a0 t2268 t2272 0 0 0)>>=fun oo=>match oo with | (x2328,x2329)=>(some ((⟨x2328,x2329,a0.f4⟩:Trank_Part),0))))
theorem f_rank_Below.ok (a0:THist) (a1:Trank_Place) (r:Trank_Part×Int) (H:f_rank_Below.f a0 a1=some r):Pv.Fn Tryz.prog 28 [.agg (aHist a0),.agg (arank_Place a1)] [] 0 (fun x o=>x = .tup [.agg [iV .u64 ((r.1).f0),iV .u64 ((r.1).f1),iV .u64 ((r.1).f2)],iV .i64 r.2]∧o=[]):=by
 unfold f_rank_Below.f at H
 refine Fn.bodyK [] Tryz.func28 rfl rfl (fun Γ hP hn => ?_)
 have hm:Tryz.prog.follows .mixedOrders=true:=by kernel_rfl
 replace hn:Γ.n=90:=hn
 refine sr hP hn hm [(0,.k 0),(1,.k 1),(2,.k 2)] [(2,.ptr 0 0 0),(3,.ptr 1 0 0),(4,.ptr 2 0 0)] [2,3,4] [(0,some (.box 32 (aHist a0))),(1,some (.box 37 (arank_Place a1))),(2,some (.box 47 (arank_Part ⟨0,0,0⟩)))] [0,1,2] [] (by kernel_rfl) trivial ?_
 refine AWp.seq ?_
 refine AWp.seq ?_
 obtain⟨o2330,e2331,H⟩:=bind_of H
 refine AWp.mono (Q:=fun e s=>(match (generalizing:=false) o2330 with | x2261=>e = .normal∧s=⟨[(2,.ptr 3 0 0),(3,.ptr 4 0 0),(4,.ptr 5 0 0),(44,bV x2261)],[(3,some (.box 32 (aHist a0))),(4,some (.box 37 (arank_Place a1))),(5,some (.box 47 (arank_Part ⟨0,0,0⟩)))],0⟩)) (AWp.cv ?_) ?_
 ·replace H:=e2331;clear e2331
  rcases Bool.eq_false_or_eq_true (decide (a1.f0<(-1))) with c2254 | c2254
  ·replace H:=iT c2254 H
   refine rg hP hn hm [(3,.b true)] [(44,bV true)] [2,3,4,44] [] [0,1,2] [_] (by kernel_rfl) ⟨c2254,trivial⟩ ?_
   obtain rfl:=Option.some.inj H
   exact lf [(0,3),(1,4),(2,5)] [] [] (by kernel_rfl) ⟨rfl,rfl⟩
  ·replace H:=iF c2254 H
   rcases Bool.eq_false_or_eq_true (decide (a1.f0>(1:Int))) with c2255 | c2255
   ·replace H:=iT c2255 H
    refine rg hP hn hm [(3,.b false),(8,.b true)] [(44,bV true)] [2,3,4,44] [] [0,1,2] [_,_] (by kernel_rfl) ⟨c2254,c2255,trivial⟩ ?_
    obtain rfl:=Option.some.inj H
    exact lf [(0,3),(1,4),(2,5)] [] [] (by kernel_rfl) ⟨rfl,rfl⟩
   ·replace H:=iF c2255 H
    rcases Bool.eq_false_or_eq_true (a1.f0 != (0:Int)) with c2256 | c2256
    ·replace H:=iT c2256 H
     rcases Bool.eq_false_or_eq_true (decide (a1.f1≤(-262144))) with c2257 | c2257
     ·replace H:=iT c2257 H
      refine rg hP hn hm [(3,.b false),(8,.b false),(12,.b true),(16,.b true)] [(44,bV true)] [2,3,4,44] [] [0,1,2] [_,_,_,_] (by kernel_rfl) ⟨c2254,c2255,c2256,c2257,trivial⟩ ?_
      obtain rfl:=Option.some.inj H
      exact lf [(0,3),(1,4),(2,5)] [] [] (by kernel_rfl) ⟨rfl,rfl⟩
     ·replace H:=iF c2257 H
      rcases Bool.eq_false_or_eq_true (decide (a1.f1>(262144:Int))) with c2258 | c2258
      ·replace H:=iT c2258 H
       refine rg hP hn hm [(3,.b false),(8,.b false),(12,.b true),(16,.b false),(23,.b true)] [(44,bV true)] [2,3,4,44] [] [0,1,2] [_,_,_,_,_] (by kernel_rfl) ⟨c2254,c2255,c2256,c2257,c2258,trivial⟩ ?_
       obtain rfl:=Option.some.inj H
       exact lf [(0,3),(1,4),(2,5)] [] [] (by kernel_rfl) ⟨rfl,rfl⟩
      ·replace H:=iF c2258 H
       rcases Bool.eq_false_or_eq_true (a1.f0==(0:Int)) with c2259 | c2259
       ·replace H:=iT c2259 H
        refine rg hP hn hm [(3,.b false),(8,.b false),(12,.b true),(16,.b false),(23,.b false),(27,.b true)] [(44,bV (a1.f1 != (0:Int)))] [2,3,4,44] [] [0,1,2] [_,_,_,_,_,_] (by kernel_rfl) ⟨c2254,c2255,c2256,c2257,c2258,c2259,trivial⟩ ?_
        obtain rfl:=Option.some.inj H
        exact lf [(0,3),(1,4),(2,5)] [] [] (by kernel_rfl) ⟨rfl,rfl⟩
       ·replace H:=iF c2259 H
        refine rg hP hn hm [(3,.b false),(8,.b false),(12,.b true),(16,.b false),(23,.b false),(27,.b false)] [(44,bV false)] [2,3,4,44] [] [0,1,2] [_,_,_,_,_,_] (by kernel_rfl) ⟨c2254,c2255,c2256,c2257,c2258,c2259,trivial⟩ ?_
        obtain rfl:=Option.some.inj H
        exact lf [(0,3),(1,4),(2,5)] [] [] (by kernel_rfl) ⟨rfl,rfl⟩
    ·replace H:=iF c2256 H
     rcases Bool.eq_false_or_eq_true (a1.f0==(0:Int)) with c2260 | c2260
     ·replace H:=iT c2260 H
      refine rg hP hn hm [(3,.b false),(8,.b false),(12,.b false),(27,.b true)] [(44,bV (a1.f1 != (0:Int)))] [2,3,4,44] [] [0,1,2] [_,_,_,_] (by kernel_rfl) ⟨c2254,c2255,c2256,c2260,trivial⟩ ?_
      obtain rfl:=Option.some.inj H
      exact lf [(0,3),(1,4),(2,5)] [] [] (by kernel_rfl) ⟨rfl,rfl⟩
     ·replace H:=iF c2260 H
      refine rg hP hn hm [(3,.b false),(8,.b false),(12,.b false),(27,.b false)] [(44,bV false)] [2,3,4,44] [] [0,1,2] [_,_,_,_] (by kernel_rfl) ⟨c2254,c2255,c2256,c2260,trivial⟩ ?_
      obtain rfl:=Option.some.inj H
      exact lf [(0,3),(1,4),(2,5)] [] [] (by kernel_rfl) ⟨rfl,rfl⟩
 ·obtain⟨x2261,rfl⟩:∃ z,z=o2330:=⟨_,rfl⟩
  rintro e s ⟨rfl,rfl⟩
  refine AWp.cond x2261 (by kernel_rfl) (fun c2262 => ?_) (fun c2262 => ?_)
  ·replace H:=iT c2262 H
   refine sr hP hn hm [] [(5,iV .i64 1)] [4,5] [] [5] [] (by kernel_rfl) trivial ?_
   refine AWp.conv (inv:=[(5,0)]) (vk:=[]) (e0:=[]) (t:=⟨[(4,.ptr 0 0 0),(5,iV .i64 1)],[(0,some (.box 47 (arank_Part ((⟨0,0,0⟩:Trank_Part)))))],0⟩) (by kernel_rfl) ?_
   refine AWp.ret ?_
   obtain rfl:=Option.some.inj H
   exact rl (.inl rfl) rfl (by kernel_rfl) (by kernel_rfl)
  ·replace H:=iF c2262 H
   refine AWp.skip ?_
   refine AWp.seq ?_
   refine sr hP hn hm [] [(48,bV (a0.f4==(0:Int)))] [2,3,4,48] [] [3,4,5] [] (by kernel_rfl) trivial ?_
   refine AWp.cond (a0.f4==(0:Int)) (by kernel_rfl) (fun c2263 => ?_) (fun c2263 => ?_)
   ·replace H:=iT c2263 H
    refine sr hP hn hm [] [(5,iV .i64 30)] [4,5] [] [5] [] (by kernel_rfl) trivial ?_
    refine AWp.conv (inv:=[(5,0)]) (vk:=[]) (e0:=[]) (t:=⟨[(4,.ptr 0 0 0),(5,iV .i64 30)],[(0,some (.box 47 (arank_Part ((⟨0,0,0⟩:Trank_Part)))))],0⟩) (by kernel_rfl) ?_
    refine AWp.ret ?_
    obtain rfl:=Option.some.inj H
    exact rl (.inl rfl) rfl (by kernel_rfl) (by kernel_rfl)
   ·replace H:=iF c2263 H
    refine AWp.skip ?_
    refine sr hP hn hm [(3,.k 6)] [(6,.ptr 6 0 0)] [2,3,4,6] [(6,some (.box 47 (arank_Part ⟨0,0,a0.f4⟩)))] [3,4,5,6] [] (by kernel_rfl) trivial ?_
    obtain⟨t2268,e2269,H⟩:=bind_of H
    refine sr hP hn hm [(1,.call [] [] [] [] 0 (iV .i64 t2268) [])] [(7,iV .i64 t2268)] [2,4,6,7] [] [3,5,6] [_,_] (by kernel_rfl) ⟨Tryz.call44,f_rank_spot.ok a1 t2268 e2269,trivial⟩ ?_
    refine AWp.seq ?_
    obtain⟨t2272,e2273,H⟩:=bind_of H
    refine sr hP hn hm [(1,.call [] [(0,7)] [] [7] 0 (.own 0) [(0,some (.row 4 101 (t2272.map erank_Cell)))]),(2,.any (iV .i64 (t2272.length:Int)))] [(56,.own 7),(57,iV .i64 (t2272.length:Int)),(58,iV .i64 0)] [2,4,6,7,56,57,58] [(7,some (.row 4 101 (t2272.map erank_Cell)))] [3,5,6,7] [_,_,((t2272.map erank_Cell).length:Int)=(t2272.length:Int)] (by kernel_rfl) ⟨Tryz.call45,f_rank_Order.ok a0 t2272 e2273,by rw[len_map],trivial⟩ ?_
    refine AWp.block ?_
    obtain⟨o2332,e2333,H⟩:=bind_of H
    refine AWp.loop (LWp.conv (inv:=[(3,17),(5,18),(6,19),(7,20)]) (vk:=[]) (e0:=[]) (t:=⟨[(2,.ptr 17 0 0),(4,.ptr 18 0 0),(6,.ptr 19 0 0),(7,iV .i64 t2268),(56,.own 20),(57,iV .i64 (t2272.length:Int)),(58,iV .i64 0)],[(17,some (.box 32 (aHist a0))),(18,some (.box 47 (arank_Part ⟨0,0,0⟩))),(19,some (.box 47 (arank_Part ⟨0,0,a0.f4⟩))),(20,some (.row 4 101 (t2272.map erank_Cell)))],0⟩) (by kernel_rfl) ?_)
    refine LWp.mono (Q:=fun e s=>(match (generalizing:=false) o2332 with | (x2328,x2329)=>e = .exit 0∧s=⟨[(4,.ptr 30 0 0),(6,.ptr 31 0 0)],[(30,some (.box 47 (arank_Part ⟨0,0,0⟩))),(31,some (.box 47 (arank_Part ⟨x2328,x2329,a0.f4⟩)))],0⟩)) (LWp.cv (withBody (fun body hbody => ?_))) ?_
    ·refine f_rank_Below.l0.partial_correctness a0 t2268 t2272 (motive:=fun x2309 x2310 x2311 o2332=>LWp Γ body (fun e s=>∃ t,Cv Γ s t∧(match (generalizing:=false) o2332 with | (x2328,x2329)=>e = .exit 0∧t=⟨[(4,.ptr 30 0 0),(6,.ptr 31 0 0)],[(30,some (.box 47 (arank_Part ⟨0,0,0⟩))),(31,some (.box 47 (arank_Part ⟨x2328,x2329,a0.f4⟩)))],0⟩)) ⟨[(2,.ptr 17 0 0),(4,.ptr 18 0 0),(6,.ptr 19 0 0),(7,iV .i64 t2268),(56,.own 20),(57,iV .i64 (t2272.length:Int)),(58,iV .i64 x2311)],[(17,some (.box 32 (aHist a0))),(18,some (.box 47 (arank_Part ⟨0,0,0⟩))),(19,some (.box 47 (arank_Part ⟨x2309,x2310,a0.f4⟩))),(20,some (.row 4 101 (t2272.map erank_Cell)))],0⟩) ?_ _ _ _ _ e2333
     clear H e2333 o2332;intro self ih x2309 x2310 x2311 o2332 H
     subst hbody
     refine LWp.round ?_
     refine sr hP hn hm [] [(59,bV (decide (x2311<(t2272.length:Int))))] [2,4,6,7,56,57,58,59] [] [17,18,19,20] [] (by kernel_rfl) trivial ?_
     refine AWp.seq ?_
     refine AWp.cond (decide (x2311<(t2272.length:Int))) (by kernel_rfl) (fun c2312 => ?_) (fun c2312 => ?_)
     ·replace H:=iT c2312 H
      refine AWp.skip ?_
      refine AWp.seq ?_
      refine AWp.block ?_
      obtain⟨b2316,p2317,q2318,H⟩:=at_of H
      refine sr hP hn hm [(1,.c (erank_Cell b2316)),(2,.k 21)] [(9,.ptr 21 0 0)] [2,4,6,7,9,56,57,58] [(21,some (.box 101 [iV .i64 b2316.f0.f0,iV .i64 b2316.f0.f1,iV .i64 b2316.f0.f2,iV .u64 b2316.f1]))] [17,18,19,20,21] [_,_,_] (by kernel_rfl) ⟨p2317,el_lt erank_Cell p2317 q2318,el_map erank_Cell q2318,trivial⟩ ?_
      obtain⟨t2321,e2322,H⟩:=bind_of H
      refine sr hP hn hm [(2,.call [] [] [] [] 0 (.tup [iV .i64 t2321.1,iV .i64 t2321.2]) [])] [(10,iV .i64 t2321.1),(11,iV .i64 t2321.2)] [2,4,6,7,9,10,11,56,57,58] [] [17,18,19,20,21] [_,_] (by kernel_rfl) ⟨Tryz.call46,f_rank_ends.ok a0 b2316 t2321 e2322,trivial⟩ ?_
      refine AWp.block ?_
      refine sr hP hn hm [] [(68,bV (decide (t2321.2≤t2268)))] [2,4,6,7,9,10,56,57,58,68] [] [17,18,19,20,21] [] (by kernel_rfl) trivial ?_
      obtain⟨o2334,e2335,H⟩:=bind_of H
      refine AWp.mono (Q:=fun e s=>(match (generalizing:=false) o2334 with | (x2326,x2327)=>e = .normal∧s=⟨[(2,.ptr 26 0 0),(4,.ptr 27 0 0),(6,.ptr 28 0 0),(7,iV .i64 t2268),(56,.own 29),(57,iV .i64 (t2272.length:Int)),(58,iV .i64 x2311)],[(26,some (.box 32 (aHist a0))),(27,some (.box 47 (arank_Part ⟨0,0,0⟩))),(28,some (.box 47 (arank_Part ⟨x2326,x2327,a0.f4⟩))),(29,some (.row 4 101 (t2272.map erank_Cell)))],0⟩)) (AWp.cv ?_) ?_
      ·replace H:=e2335;clear e2335
       refine AWp.cond (decide (t2321.2≤t2268)) (by kernel_rfl) (fun c2323 => ?_) (fun c2323 => ?_)
       ·replace H:=iT c2323 H
        refine rg hP hn hm [] [] [2,4,6,7,56,57,58] [(19,some (.box 47 (arank_Part ⟨(u64.wrap (x2309+b2316.f1)),x2310,a0.f4⟩)))] [17,18,19,20] [] (by kernel_rfl) trivial ?_
        obtain rfl:=Option.some.inj H
        exact lf [(17,26),(18,27),(19,28),(20,29)] [] [] (by kernel_rfl) ⟨rfl,rfl⟩
       ·replace H:=iF c2323 H
        refine sr hP hn hm [] [(78,bV (decide (t2321.1<t2268)))] [2,4,6,7,9,56,57,58,78] [] [17,18,19,20,21] [] (by kernel_rfl) trivial ?_
        obtain⟨o2336,e2337,H⟩:=bind_of H
        refine AWp.mono (Q:=fun e s=>(match (generalizing:=false) o2336 with | x2325=>e = .normal∧s=⟨[(2,.ptr 22 0 0),(4,.ptr 23 0 0),(6,.ptr 24 0 0),(7,iV .i64 t2268),(56,.own 25),(57,iV .i64 (t2272.length:Int)),(58,iV .i64 x2311)],[(22,some (.box 32 (aHist a0))),(23,some (.box 47 (arank_Part ⟨0,0,0⟩))),(24,some (.box 47 (arank_Part ⟨x2309,x2325,a0.f4⟩))),(25,some (.row 4 101 (t2272.map erank_Cell)))],0⟩)) (AWp.cv ?_) ?_
        ·replace H:=e2337;clear e2337
         refine AWp.cond (decide (t2321.1<t2268)) (by kernel_rfl) (fun c2324 => ?_) (fun c2324 => ?_)
         ·replace H:=iT c2324 H
          refine rg hP hn hm [] [] [2,4,6,7,56,57,58] [(19,some (.box 47 (arank_Part ⟨x2309,(u64.wrap (x2310+b2316.f1)),a0.f4⟩)))] [17,18,19,20] [] (by kernel_rfl) trivial ?_
          obtain rfl:=Option.some.inj H
          exact lf [(17,22),(18,23),(19,24),(20,25)] [] [] (by kernel_rfl) ⟨rfl,rfl⟩
         ·replace H:=iF c2324 H
          refine AWp.skip ?_
          obtain rfl:=Option.some.inj H
          exact lf [(17,22),(18,23),(19,24),(20,25)] [] [] (by kernel_rfl) ⟨rfl,rfl⟩
        ·obtain⟨x2325,rfl⟩:∃ z,z=o2336:=⟨_,rfl⟩
         rintro e s ⟨rfl,rfl⟩
         obtain rfl:=Option.some.inj H
         exact lf [(22,26),(23,27),(24,28),(25,29)] [] [] (by kernel_rfl) ⟨rfl,rfl⟩
      ·obtain⟨x2326,x2327⟩:=o2334
       rintro e s ⟨rfl,rfl⟩
       refine rg hP hn hm [] [(58,iV .i64 (i64.wrap (x2311+(1:Int))))] [2,4,6,7,56,57,58] [] [26,27,28,29] [] (by kernel_rfl) trivial ?_
       exact LWp.conv [(26,17),(27,18),(28,19),(29,20)] [] [] (by kernel_rfl) (ih _ _ _ _ H)
     ·replace H:=iF c2312 H
      refine AWp.exit ?_
      obtain rfl:=Option.some.inj H
      exact lf [(18,30),(19,31)] [] [] (by kernel_rfl) ⟨rfl,rfl⟩
    ·obtain⟨x2328,x2329⟩:=o2332
     rintro e s ⟨rfl,rfl⟩
     refine sr hP hn hm [] [(5,iV .i64 0)] [4,5] [(30,some (.box 47 (arank_Part ⟨x2328,x2329,a0.f4⟩)))] [30] [] (by kernel_rfl) trivial ?_
     refine AWp.conv (inv:=[(30,0)]) (vk:=[]) (e0:=[]) (t:=⟨[(4,.ptr 0 0 0),(5,iV .i64 0)],[(0,some (.box 47 (arank_Part ((⟨x2328,x2329,a0.f4⟩:Trank_Part)))))],0⟩) (by kernel_rfl) ?_
     refine AWp.ret ?_
     obtain rfl:=Option.some.inj H
     exact rl (.inl rfl) rfl (by kernel_rfl) (by kernel_rfl)
def f_eval_Finish.f (a0:Teval_Ask) (a1:THist):Option (Teval_Answer×Int):=((if(a0.f0==(0:Int))=true then(some (a0.f0==(0:Int))) else(some (a0.f0==(5:Int)))):Option (Bool))>>=fun x2037=>((if x2037=true then((f_hist_Clone.f a1)>>=fun t2041=>some ((t2041).f0,(t2041).f1,(t2041).f2,(t2041).f3,(t2041).f4,(t2041).f5,(t2041).f6,(t2041).f7,0,0,0,0,0,0,0,0,0)) else(((if(a0.f0==(1:Int))=true then(some (a1.f5,0,0,0,0,0,0,0,0)) else(((if(a0.f0==(2:Int))=true then(some (a1.f4,0,0,0,0,0,0,0)) else(((if(a0.f0==(3:Int))=true then((f_rank_Quantile.f a1 a0.f1 a0.f2)>>=fun t2244=>some ((t2244.1).f0,(t2244.1).f1,(t2244.1).f2,0,0,0,t2244.2)) else(((if(a0.f0==(4:Int))=true then((f_rank_Below.f a1 (⟨a0.f3.f0,a0.f3.f1⟩:Trank_Place))>>=fun t2340=>some ((t2340.1).f0,(t2340.1).f1,(t2340.1).f2,t2340.2)) else(some (0,0,0,1))):Option (Int×Int×Int×Int))>>=fun oo=>match oo with | (x2342,x2343,x2344,x2345)=>(some (0,0,0,x2342,x2343,x2344,x2345)))):Option (Int×Int×Int×Int×Int×Int×Int))>>=fun oo=>match oo with | (x2346,x2347,x2348,x2349,x2350,x2351,x2352)=>(some (0,x2346,x2347,x2348,x2349,x2350,x2351,x2352)))):Option (Int×Int×Int×Int×Int×Int×Int×Int))>>=fun oo=>match oo with | (x2353,x2354,x2355,x2356,x2357,x2358,x2359,x2360)=>(some (0,x2353,x2354,x2355,x2356,x2357,x2358,x2359,x2360)))):Option (Int×Int×Int×Int×Int×Int×Int×Int×Int))>>=fun oo=>match oo with | (x2361,x2362,x2363,x2364,x2365,x2366,x2367,x2368,x2369)=>(some (0,0,0,0,0,0,[],[],x2361,x2362,x2363,x2364,x2365,x2366,x2367,x2368,x2369)))):Option (Int×Int×Int×Int×Int×Int×(List TBucket)×(List TBucket)×Int×Int×Int×Int×Int×Int×Int×Int×Int))>>=fun oo=>match oo with | (x2370,x2371,x2372,x2373,x2374,x2375,x2376,x2377,x2378,x2379,x2380,x2381,x2382,x2383,x2384,x2385,x2386)=>(if(x2386 != (0:Int))=true then(some ((⟨(⟨0,0,0,0,0,0,[],[]⟩:THist),0,0,(⟨0,0,0⟩:Tbound_Key),(⟨0,0,0⟩:Trank_Part)⟩:Teval_Answer),x2386)) else(some ((⟨(⟨x2370,x2371,x2372,x2373,x2374,x2375,x2376,x2377⟩:THist),x2378,x2379,(⟨x2380,x2381,x2382⟩:Tbound_Key),(⟨x2383,x2384,x2385⟩:Trank_Part)⟩:Teval_Answer),0)))
theorem f_eval_Finish.ok (a0:Teval_Ask) (a1:THist) (r:Teval_Answer×Int) (H:f_eval_Finish.f a0 a1=some r):Pv.Fn Tryz.prog 13 [.agg (ar19_Ask ⟨a0.f0,a0.f1,a0.f2,a0.f3.f0,a0.f3.f1,a0.f4,a0.f5⟩),.agg (aHist a1)] [] 0 (fun x o=>x = .tup [.agg [iV .i64 (((r.1).f0).f0),iV .i64 (((r.1).f0).f1),iV .i64 (((r.1).f0).f2),iV .u64 (((r.1).f0).f3),iV .u64 (((r.1).f0).f4),iV .i64 (((r.1).f0).f5),.own 0,.own 1,iV .i64 ((r.1).f1),iV .u64 ((r.1).f2),iV .i64 (((r.1).f3).f0),iV .i64 (((r.1).f3).f1),iV .i64 (((r.1).f3).f2),iV .u64 (((r.1).f4).f0),iV .u64 (((r.1).f4).f1),iV .u64 (((r.1).f4).f2)],iV .i64 r.2]∧o=[(0,some (.row 2 89 ((((r.1).f0).f6).map eBucket))),(1,some (.row 2 89 ((((r.1).f0).f7).map eBucket)))]):=by
 unfold f_eval_Finish.f at H
 refine Fn.bodyK [0,1] Tryz.func13 rfl rfl (fun Γ hP hn => ?_)
 have hm:Tryz.prog.follows .mixedOrders=true:=by kernel_rfl
 replace hn:Γ.n=53:=hn
 refine sr hP hn hm [(0,.k 0),(1,.k 1),(2,.k 2)] [(2,.ptr 0 0 0),(3,.ptr 1 0 0),(4,.ptr 2 0 0)] [2,3,4] [(0,some (.box 39 [iV .i64 a0.f0,iV .u64 a0.f1,iV .u64 a0.f2,iV .i64 a0.f3.f0,iV .i64 a0.f3.f1,iV .i64 a0.f4,iV .i64 a0.f5])),(1,some (.box 32 (aHist a1))),(2,some (.box 49 [iV .i64 0,iV .i64 0,iV .i64 0,iV .u64 0,iV .u64 0,iV .i64 0,.none0,.none0,iV .i64 0,iV .u64 0,iV .i64 0,iV .i64 0,iV .i64 0,iV .u64 0,iV .u64 0,iV .u64 0]))] [0,1,2] [] (by kernel_rfl) trivial ?_
 refine sr hP hn hm [(0,.k 3)] [(6,.ptr 3 0 0)] [2,3,4,6] [(3,some (.box 49 [iV .i64 0,iV .i64 0,iV .i64 0,iV .u64 0,iV .u64 0,iV .i64 0,.none0,.none0,iV .i64 0,iV .u64 0,iV .i64 0,iV .i64 0,iV .i64 0,iV .u64 0,iV .u64 0,iV .u64 0]))] [0,1,2,3] [] (by kernel_rfl) trivial ?_
 refine sr hP hn hm [] [(7,iV .i64 0)] [2,3,4,6,7] [] [0,1,2,3] [] (by kernel_rfl) trivial ?_
 refine AWp.seq ?_
 refine sr hP hn hm [] [(9,iV .i64 a0.f0)] [2,3,4,6,7,9] [] [0,1,2,3] [] (by kernel_rfl) trivial ?_
 refine AWp.block ?_
 refine AWp.seq ?_
 refine sr hP hn hm [] [(10,bV (a0.f0==(0:Int)))] [2,3,4,6,7,9,10] [] [0,1,2,3] [] (by kernel_rfl) trivial ?_
 obtain⟨o2388,e2389,H⟩:=bind_of H
 refine AWp.mono (Q:=fun e s=>(match (generalizing:=false) o2388 with | x2037=>e = .normal∧s=⟨[(2,.ptr 4 0 0),(3,.ptr 5 0 0),(4,.ptr 6 0 0),(6,.ptr 7 0 0),(7,iV .i64 0),(9,iV .i64 a0.f0),(10,bV x2037)],[(4,some (.box 39 [iV .i64 a0.f0,iV .u64 a0.f1,iV .u64 a0.f2,iV .i64 a0.f3.f0,iV .i64 a0.f3.f1,iV .i64 a0.f4,iV .i64 a0.f5])),(5,some (.box 32 (aHist a1))),(6,some (.box 49 [iV .i64 0,iV .i64 0,iV .i64 0,iV .u64 0,iV .u64 0,iV .i64 0,.none0,.none0,iV .i64 0,iV .u64 0,iV .i64 0,iV .i64 0,iV .i64 0,iV .u64 0,iV .u64 0,iV .u64 0])),(7,some (.box 49 [iV .i64 0,iV .i64 0,iV .i64 0,iV .u64 0,iV .u64 0,iV .i64 0,.none0,.none0,iV .i64 0,iV .u64 0,iV .i64 0,iV .i64 0,iV .i64 0,iV .u64 0,iV .u64 0,iV .u64 0]))],0⟩)) (AWp.cv ?_) ?_
 ·replace H:=e2389;clear e2389
  refine AWp.cond (a0.f0==(0:Int)) (by kernel_rfl) (fun c2036 => ?_) (fun c2036 => ?_)
  ·replace H:=iT c2036 H
   refine AWp.skip ?_
   obtain rfl:=Option.some.inj H
   exact lf [(0,4),(1,5),(2,6),(3,7)] [] [] (by kernel_rfl) ⟨rfl,rfl⟩
  ·replace H:=iF c2036 H
   refine rg hP hn hm [] [(10,bV (a0.f0==(5:Int)))] [2,3,4,6,7,9,10] [] [0,1,2,3] [] (by kernel_rfl) trivial ?_
   obtain rfl:=Option.some.inj H
   exact lf [(0,4),(1,5),(2,6),(3,7)] [] [] (by kernel_rfl) ⟨rfl,rfl⟩
 ·obtain⟨x2037,rfl⟩:∃ z,z=o2388:=⟨_,rfl⟩
  rintro e s ⟨rfl,rfl⟩
  obtain⟨o2390,e2391,H⟩:=bind_of H
  refine AWp.mono (Q:=fun e s=>(match (generalizing:=false) o2390 with | (x2370,x2371,x2372,x2373,x2374,x2375,x2376,x2377,x2378,x2379,x2380,x2381,x2382,x2383,x2384,x2385,x2386)=>e = .normal∧s=⟨[(4,.ptr 18 0 0),(6,.ptr 19 0 0),(7,iV .i64 x2386)],[(18,some (.box 49 [iV .i64 0,iV .i64 0,iV .i64 0,iV .u64 0,iV .u64 0,iV .i64 0,.none0,.none0,iV .i64 0,iV .u64 0,iV .i64 0,iV .i64 0,iV .i64 0,iV .u64 0,iV .u64 0,iV .u64 0])),(19,some (.box 49 [iV .i64 x2370,iV .i64 x2371,iV .i64 x2372,iV .u64 x2373,iV .u64 x2374,iV .i64 x2375,.own 20,.own 21,iV .i64 x2378,iV .u64 x2379,iV .i64 x2380,iV .i64 x2381,iV .i64 x2382,iV .u64 x2383,iV .u64 x2384,iV .u64 x2385])),(20,some (.row 2 89 (x2376.map eBucket))),(21,some (.row 2 89 (x2377.map eBucket)))],0⟩)) (AWp.cv ?_) ?_
  ·replace H:=e2391;clear e2391
   refine AWp.cond x2037 (by kernel_rfl) (fun c2038 => ?_) (fun c2038 => ?_)
   ·replace H:=iT c2038 H
    obtain⟨t2041,e2042,H⟩:=bind_of H
    refine rg hP hn hm [(1,.call [] [(0,8),(1,9)] [] [8,9] 0 (.agg [iV .i64 ((t2041).f0),iV .i64 ((t2041).f1),iV .i64 ((t2041).f2),iV .u64 ((t2041).f3),iV .u64 ((t2041).f4),iV .i64 ((t2041).f5),.own 0,.own 1]) [(0,some (.row 2 89 (((t2041).f6).map eBucket))),(1,some (.row 2 89 (((t2041).f7).map eBucket)))])] [] [4,6,7] [(7,some (.box 49 [iV .i64 ((t2041).f0),iV .i64 ((t2041).f1),iV .i64 ((t2041).f2),iV .u64 ((t2041).f3),iV .u64 ((t2041).f4),iV .i64 ((t2041).f5),.own 8,.own 9,iV .i64 0,iV .u64 0,iV .i64 0,iV .i64 0,iV .i64 0,iV .u64 0,iV .u64 0,iV .u64 0])),(8,some (.row 2 89 (((t2041).f6).map eBucket))),(9,some (.row 2 89 (((t2041).f7).map eBucket)))] [6,7,8,9] [_,_] (by kernel_rfl) ⟨Tryz.call24,f_hist_Clone.ok a1 t2041 e2042,trivial⟩ ?_
    obtain rfl:=Option.some.inj H
    exact lf [(6,18),(7,19),(8,20),(9,21)] [] [] (by kernel_rfl) ⟨rfl,rfl⟩
   ·replace H:=iF c2038 H
    refine sr hP hn hm [] [(16,bV (a0.f0==(1:Int)))] [2,3,4,6,7,9,16] [] [4,5,6,7] [] (by kernel_rfl) trivial ?_
    obtain⟨o2392,e2393,H⟩:=bind_of H
    refine AWp.mono (Q:=fun e s=>(match (generalizing:=false) o2392 with | (x2361,x2362,x2363,x2364,x2365,x2366,x2367,x2368,x2369)=>e = .normal∧s=⟨[(4,.ptr 16 0 0),(6,.ptr 17 0 0),(7,iV .i64 x2369)],[(16,some (.box 49 [iV .i64 0,iV .i64 0,iV .i64 0,iV .u64 0,iV .u64 0,iV .i64 0,.none0,.none0,iV .i64 0,iV .u64 0,iV .i64 0,iV .i64 0,iV .i64 0,iV .u64 0,iV .u64 0,iV .u64 0])),(17,some (.box 49 [iV .i64 0,iV .i64 0,iV .i64 0,iV .u64 0,iV .u64 0,iV .i64 0,.none0,.none0,iV .i64 x2361,iV .u64 x2362,iV .i64 x2363,iV .i64 x2364,iV .i64 x2365,iV .u64 x2366,iV .u64 x2367,iV .u64 x2368]))],0⟩)) (AWp.cv ?_) ?_
    ·replace H:=e2393;clear e2393
     refine AWp.cond (a0.f0==(1:Int)) (by kernel_rfl) (fun c2043 => ?_) (fun c2043 => ?_)
     ·replace H:=iT c2043 H
      refine rg hP hn hm [] [] [4,6,7] [(7,some (.box 49 [iV .i64 0,iV .i64 0,iV .i64 0,iV .u64 0,iV .u64 0,iV .i64 0,.none0,.none0,iV .i64 a1.f5,iV .u64 0,iV .i64 0,iV .i64 0,iV .i64 0,iV .u64 0,iV .u64 0,iV .u64 0]))] [6,7] [] (by kernel_rfl) trivial ?_
      obtain rfl:=Option.some.inj H
      exact lf [(6,16),(7,17)] [] [] (by kernel_rfl) ⟨rfl,rfl⟩
     ·replace H:=iF c2043 H
      refine sr hP hn hm [] [(21,bV (a0.f0==(2:Int)))] [2,3,4,6,7,9,21] [] [4,5,6,7] [] (by kernel_rfl) trivial ?_
      obtain⟨o2394,e2395,H⟩:=bind_of H
      refine AWp.mono (Q:=fun e s=>(match (generalizing:=false) o2394 with | (x2353,x2354,x2355,x2356,x2357,x2358,x2359,x2360)=>e = .normal∧s=⟨[(4,.ptr 14 0 0),(6,.ptr 15 0 0),(7,iV .i64 x2360)],[(14,some (.box 49 [iV .i64 0,iV .i64 0,iV .i64 0,iV .u64 0,iV .u64 0,iV .i64 0,.none0,.none0,iV .i64 0,iV .u64 0,iV .i64 0,iV .i64 0,iV .i64 0,iV .u64 0,iV .u64 0,iV .u64 0])),(15,some (.box 49 [iV .i64 0,iV .i64 0,iV .i64 0,iV .u64 0,iV .u64 0,iV .i64 0,.none0,.none0,iV .i64 0,iV .u64 x2353,iV .i64 x2354,iV .i64 x2355,iV .i64 x2356,iV .u64 x2357,iV .u64 x2358,iV .u64 x2359]))],0⟩)) (AWp.cv ?_) ?_
      ·replace H:=e2395;clear e2395
       refine AWp.cond (a0.f0==(2:Int)) (by kernel_rfl) (fun c2044 => ?_) (fun c2044 => ?_)
       ·replace H:=iT c2044 H
        refine rg hP hn hm [] [] [4,6,7] [(7,some (.box 49 [iV .i64 0,iV .i64 0,iV .i64 0,iV .u64 0,iV .u64 0,iV .i64 0,.none0,.none0,iV .i64 0,iV .u64 a1.f4,iV .i64 0,iV .i64 0,iV .i64 0,iV .u64 0,iV .u64 0,iV .u64 0]))] [6,7] [] (by kernel_rfl) trivial ?_
        obtain rfl:=Option.some.inj H
        exact lf [(6,14),(7,15)] [] [] (by kernel_rfl) ⟨rfl,rfl⟩
       ·replace H:=iF c2044 H
        refine sr hP hn hm [] [(26,bV (a0.f0==(3:Int)))] [2,3,4,6,9,26] [] [4,5,6,7] [] (by kernel_rfl) trivial ?_
        obtain⟨o2396,e2397,H⟩:=bind_of H
        refine AWp.mono (Q:=fun e s=>(match (generalizing:=false) o2396 with | (x2346,x2347,x2348,x2349,x2350,x2351,x2352)=>e = .normal∧s=⟨[(4,.ptr 12 0 0),(6,.ptr 13 0 0),(7,iV .i64 x2352)],[(12,some (.box 49 [iV .i64 0,iV .i64 0,iV .i64 0,iV .u64 0,iV .u64 0,iV .i64 0,.none0,.none0,iV .i64 0,iV .u64 0,iV .i64 0,iV .i64 0,iV .i64 0,iV .u64 0,iV .u64 0,iV .u64 0])),(13,some (.box 49 [iV .i64 0,iV .i64 0,iV .i64 0,iV .u64 0,iV .u64 0,iV .i64 0,.none0,.none0,iV .i64 0,iV .u64 0,iV .i64 x2346,iV .i64 x2347,iV .i64 x2348,iV .u64 x2349,iV .u64 x2350,iV .u64 x2351]))],0⟩)) (AWp.cv ?_) ?_
        ·replace H:=e2397;clear e2397
         refine AWp.cond (a0.f0==(3:Int)) (by kernel_rfl) (fun c2045 => ?_) (fun c2045 => ?_)
         ·replace H:=iT c2045 H
          obtain⟨t2244,e2245,H⟩:=bind_of H
          refine rg hP hn hm [(5,.call [] [] [] [] 0 (.tup [.agg (abound_Key (t2244.1)),iV .i64 t2244.2]) [])] [(7,iV .i64 t2244.2)] [4,6,7] [(7,some (.box 49 [iV .i64 0,iV .i64 0,iV .i64 0,iV .u64 0,iV .u64 0,iV .i64 0,.none0,.none0,iV .i64 0,iV .u64 0,iV .i64 ((t2244.1).f0),iV .i64 ((t2244.1).f1),iV .i64 ((t2244.1).f2),iV .u64 0,iV .u64 0,iV .u64 0]))] [6,7] [_,_] (by kernel_rfl) ⟨Tryz.call27,f_rank_Quantile.ok a1 a0.f1 a0.f2 t2244 e2245,trivial⟩ ?_
          obtain rfl:=Option.some.inj H
          exact lf [(6,12),(7,13)] [] [] (by kernel_rfl) ⟨rfl,rfl⟩
         ·replace H:=iF c2045 H
          refine sr hP hn hm [] [(38,bV (a0.f0==(4:Int)))] [2,3,4,6,38] [] [4,5,6,7] [] (by kernel_rfl) trivial ?_
          obtain⟨o2398,e2399,H⟩:=bind_of H
          refine AWp.mono (Q:=fun e s=>(match (generalizing:=false) o2398 with | (x2342,x2343,x2344,x2345)=>e = .normal∧s=⟨[(4,.ptr 10 0 0),(6,.ptr 11 0 0),(7,iV .i64 x2345)],[(10,some (.box 49 [iV .i64 0,iV .i64 0,iV .i64 0,iV .u64 0,iV .u64 0,iV .i64 0,.none0,.none0,iV .i64 0,iV .u64 0,iV .i64 0,iV .i64 0,iV .i64 0,iV .u64 0,iV .u64 0,iV .u64 0])),(11,some (.box 49 [iV .i64 0,iV .i64 0,iV .i64 0,iV .u64 0,iV .u64 0,iV .i64 0,.none0,.none0,iV .i64 0,iV .u64 0,iV .i64 0,iV .i64 0,iV .i64 0,iV .u64 x2342,iV .u64 x2343,iV .u64 x2344]))],0⟩)) (AWp.cv ?_) ?_
          ·replace H:=e2399;clear e2399
           refine AWp.cond (a0.f0==(4:Int)) (by kernel_rfl) (fun c2246 => ?_) (fun c2246 => ?_)
           ·replace H:=iT c2246 H
            obtain⟨t2340,e2341,H⟩:=bind_of H
            refine rg hP hn hm [(3,.call [] [] [] [] 0 (.tup [.agg [iV .u64 ((t2340.1).f0),iV .u64 ((t2340.1).f1),iV .u64 ((t2340.1).f2)],iV .i64 t2340.2]) [])] [(7,iV .i64 t2340.2)] [4,6,7] [(7,some (.box 49 [iV .i64 0,iV .i64 0,iV .i64 0,iV .u64 0,iV .u64 0,iV .i64 0,.none0,.none0,iV .i64 0,iV .u64 0,iV .i64 0,iV .i64 0,iV .i64 0,iV .u64 ((t2340.1).f0),iV .u64 ((t2340.1).f1),iV .u64 ((t2340.1).f2)]))] [6,7] [_,_] (by kernel_rfl) ⟨Tryz.call28,f_rank_Below.ok a1 (⟨a0.f3.f0,a0.f3.f1⟩:Trank_Place) t2340 e2341,trivial⟩ ?_
            obtain rfl:=Option.some.inj H
            exact lf [(6,10),(7,11)] [] [] (by kernel_rfl) ⟨rfl,rfl⟩
           ·replace H:=iF c2246 H
            refine rg hP hn hm [] [(7,iV .i64 1)] [4,6,7] [] [6,7] [] (by kernel_rfl) trivial ?_
            obtain rfl:=Option.some.inj H
            exact lf [(6,10),(7,11)] [] [] (by kernel_rfl) ⟨rfl,rfl⟩
          ·obtain⟨x2342,x2343,x2344,x2345⟩:=o2398
           rintro e s ⟨rfl,rfl⟩
           obtain rfl:=Option.some.inj H
           exact lf [(10,12),(11,13)] [] [] (by kernel_rfl) ⟨rfl,rfl⟩
        ·obtain⟨x2346,x2347,x2348,x2349,x2350,x2351,x2352⟩:=o2396
         rintro e s ⟨rfl,rfl⟩
         obtain rfl:=Option.some.inj H
         exact lf [(12,14),(13,15)] [] [] (by kernel_rfl) ⟨rfl,rfl⟩
      ·obtain⟨x2353,x2354,x2355,x2356,x2357,x2358,x2359,x2360⟩:=o2394
       rintro e s ⟨rfl,rfl⟩
       obtain rfl:=Option.some.inj H
       exact lf [(14,16),(15,17)] [] [] (by kernel_rfl) ⟨rfl,rfl⟩
    ·obtain⟨x2361,x2362,x2363,x2364,x2365,x2366,x2367,x2368,x2369⟩:=o2392
     rintro e s ⟨rfl,rfl⟩
     obtain rfl:=Option.some.inj H
     exact lf [(16,18),(17,19)] [] [20,21] (by kernel_rfl) ⟨rfl,rfl⟩
  ·obtain⟨x2370,x2371,x2372,x2373,x2374,x2375,x2376,x2377,x2378,x2379,x2380,x2381,x2382,x2383,x2384,x2385,x2386⟩:=o2390
   rintro e s ⟨rfl,rfl⟩
   refine AWp.seq ?_
   refine sr hP hn hm [] [(49,bV (x2386 != (0:Int)))] [4,6,7,49] [] [18,19,20,21] [] (by kernel_rfl) trivial ?_
   refine AWp.cond (x2386 != (0:Int)) (by kernel_rfl) (fun c2387 => ?_) (fun c2387 => ?_)
   ·replace H:=iT c2387 H
    refine sr hP hn hm [] [(5,iV .i64 x2386)] [4,5] [] [18] [] (by kernel_rfl) trivial ?_
    refine AWp.conv (inv:=[(18,2)]) (vk:=[]) (e0:=[0,1]) (t:=⟨[(4,.ptr 2 0 0),(5,iV .i64 x2386)],[(0,some (.row 2 89 (((((⟨(⟨0,0,0,0,0,0,[],[]⟩:THist),0,0,(⟨0,0,0⟩:Tbound_Key),(⟨0,0,0⟩:Trank_Part)⟩:Teval_Answer)).f0).f6).map eBucket))),(1,some (.row 2 89 (((((⟨(⟨0,0,0,0,0,0,[],[]⟩:THist),0,0,(⟨0,0,0⟩:Tbound_Key),(⟨0,0,0⟩:Trank_Part)⟩:Teval_Answer)).f0).f7).map eBucket))),(2,some (.box 49 [iV .i64 ((((⟨(⟨0,0,0,0,0,0,[],[]⟩:THist),0,0,(⟨0,0,0⟩:Tbound_Key),(⟨0,0,0⟩:Trank_Part)⟩:Teval_Answer)).f0).f0),iV .i64 ((((⟨(⟨0,0,0,0,0,0,[],[]⟩:THist),0,0,(⟨0,0,0⟩:Tbound_Key),(⟨0,0,0⟩:Trank_Part)⟩:Teval_Answer)).f0).f1),iV .i64 ((((⟨(⟨0,0,0,0,0,0,[],[]⟩:THist),0,0,(⟨0,0,0⟩:Tbound_Key),(⟨0,0,0⟩:Trank_Part)⟩:Teval_Answer)).f0).f2),iV .u64 ((((⟨(⟨0,0,0,0,0,0,[],[]⟩:THist),0,0,(⟨0,0,0⟩:Tbound_Key),(⟨0,0,0⟩:Trank_Part)⟩:Teval_Answer)).f0).f3),iV .u64 ((((⟨(⟨0,0,0,0,0,0,[],[]⟩:THist),0,0,(⟨0,0,0⟩:Tbound_Key),(⟨0,0,0⟩:Trank_Part)⟩:Teval_Answer)).f0).f4),iV .i64 ((((⟨(⟨0,0,0,0,0,0,[],[]⟩:THist),0,0,(⟨0,0,0⟩:Tbound_Key),(⟨0,0,0⟩:Trank_Part)⟩:Teval_Answer)).f0).f5),.own 0,.own 1,iV .i64 (((⟨(⟨0,0,0,0,0,0,[],[]⟩:THist),0,0,(⟨0,0,0⟩:Tbound_Key),(⟨0,0,0⟩:Trank_Part)⟩:Teval_Answer)).f1),iV .u64 (((⟨(⟨0,0,0,0,0,0,[],[]⟩:THist),0,0,(⟨0,0,0⟩:Tbound_Key),(⟨0,0,0⟩:Trank_Part)⟩:Teval_Answer)).f2),iV .i64 ((((⟨(⟨0,0,0,0,0,0,[],[]⟩:THist),0,0,(⟨0,0,0⟩:Tbound_Key),(⟨0,0,0⟩:Trank_Part)⟩:Teval_Answer)).f3).f0),iV .i64 ((((⟨(⟨0,0,0,0,0,0,[],[]⟩:THist),0,0,(⟨0,0,0⟩:Tbound_Key),(⟨0,0,0⟩:Trank_Part)⟩:Teval_Answer)).f3).f1),iV .i64 ((((⟨(⟨0,0,0,0,0,0,[],[]⟩:THist),0,0,(⟨0,0,0⟩:Tbound_Key),(⟨0,0,0⟩:Trank_Part)⟩:Teval_Answer)).f3).f2),iV .u64 ((((⟨(⟨0,0,0,0,0,0,[],[]⟩:THist),0,0,(⟨0,0,0⟩:Tbound_Key),(⟨0,0,0⟩:Trank_Part)⟩:Teval_Answer)).f4).f0),iV .u64 ((((⟨(⟨0,0,0,0,0,0,[],[]⟩:THist),0,0,(⟨0,0,0⟩:Tbound_Key),(⟨0,0,0⟩:Trank_Part)⟩:Teval_Answer)).f4).f1),iV .u64 ((((⟨(⟨0,0,0,0,0,0,[],[]⟩:THist),0,0,(⟨0,0,0⟩:Tbound_Key),(⟨0,0,0⟩:Trank_Part)⟩:Teval_Answer)).f4).f2)]))],0⟩) (by kernel_rfl) ?_
    refine AWp.ret ?_
    obtain rfl:=Option.some.inj H
    exact rl (.inl rfl) rfl (by kernel_rfl) (by kernel_rfl)
   ·replace H:=iF c2387 H
    refine AWp.skip ?_
    refine sr hP hn hm [] [(5,iV .i64 0)] [4,5] [(18,some (.box 49 [iV .i64 x2370,iV .i64 x2371,iV .i64 x2372,iV .u64 x2373,iV .u64 x2374,iV .i64 x2375,.own 20,.own 21,iV .i64 x2378,iV .u64 x2379,iV .i64 x2380,iV .i64 x2381,iV .i64 x2382,iV .u64 x2383,iV .u64 x2384,iV .u64 x2385]))] [18,20,21] [] (by kernel_rfl) trivial ?_
    refine AWp.conv (inv:=[(18,2),(20,0),(21,1)]) (vk:=[]) (e0:=[]) (t:=⟨[(4,.ptr 2 0 0),(5,iV .i64 0)],[(0,some (.row 2 89 (((((⟨(⟨x2370,x2371,x2372,x2373,x2374,x2375,x2376,x2377⟩:THist),x2378,x2379,(⟨x2380,x2381,x2382⟩:Tbound_Key),(⟨x2383,x2384,x2385⟩:Trank_Part)⟩:Teval_Answer)).f0).f6).map eBucket))),(1,some (.row 2 89 (((((⟨(⟨x2370,x2371,x2372,x2373,x2374,x2375,x2376,x2377⟩:THist),x2378,x2379,(⟨x2380,x2381,x2382⟩:Tbound_Key),(⟨x2383,x2384,x2385⟩:Trank_Part)⟩:Teval_Answer)).f0).f7).map eBucket))),(2,some (.box 49 [iV .i64 ((((⟨(⟨x2370,x2371,x2372,x2373,x2374,x2375,x2376,x2377⟩:THist),x2378,x2379,(⟨x2380,x2381,x2382⟩:Tbound_Key),(⟨x2383,x2384,x2385⟩:Trank_Part)⟩:Teval_Answer)).f0).f0),iV .i64 ((((⟨(⟨x2370,x2371,x2372,x2373,x2374,x2375,x2376,x2377⟩:THist),x2378,x2379,(⟨x2380,x2381,x2382⟩:Tbound_Key),(⟨x2383,x2384,x2385⟩:Trank_Part)⟩:Teval_Answer)).f0).f1),iV .i64 ((((⟨(⟨x2370,x2371,x2372,x2373,x2374,x2375,x2376,x2377⟩:THist),x2378,x2379,(⟨x2380,x2381,x2382⟩:Tbound_Key),(⟨x2383,x2384,x2385⟩:Trank_Part)⟩:Teval_Answer)).f0).f2),iV .u64 ((((⟨(⟨x2370,x2371,x2372,x2373,x2374,x2375,x2376,x2377⟩:THist),x2378,x2379,(⟨x2380,x2381,x2382⟩:Tbound_Key),(⟨x2383,x2384,x2385⟩:Trank_Part)⟩:Teval_Answer)).f0).f3),iV .u64 ((((⟨(⟨x2370,x2371,x2372,x2373,x2374,x2375,x2376,x2377⟩:THist),x2378,x2379,(⟨x2380,x2381,x2382⟩:Tbound_Key),(⟨x2383,x2384,x2385⟩:Trank_Part)⟩:Teval_Answer)).f0).f4),iV .i64 ((((⟨(⟨x2370,x2371,x2372,x2373,x2374,x2375,x2376,x2377⟩:THist),x2378,x2379,(⟨x2380,x2381,x2382⟩:Tbound_Key),(⟨x2383,x2384,x2385⟩:Trank_Part)⟩:Teval_Answer)).f0).f5),.own 0,.own 1,iV .i64 (((⟨(⟨x2370,x2371,x2372,x2373,x2374,x2375,x2376,x2377⟩:THist),x2378,x2379,(⟨x2380,x2381,x2382⟩:Tbound_Key),(⟨x2383,x2384,x2385⟩:Trank_Part)⟩:Teval_Answer)).f1),iV .u64 (((⟨(⟨x2370,x2371,x2372,x2373,x2374,x2375,x2376,x2377⟩:THist),x2378,x2379,(⟨x2380,x2381,x2382⟩:Tbound_Key),(⟨x2383,x2384,x2385⟩:Trank_Part)⟩:Teval_Answer)).f2),iV .i64 ((((⟨(⟨x2370,x2371,x2372,x2373,x2374,x2375,x2376,x2377⟩:THist),x2378,x2379,(⟨x2380,x2381,x2382⟩:Tbound_Key),(⟨x2383,x2384,x2385⟩:Trank_Part)⟩:Teval_Answer)).f3).f0),iV .i64 ((((⟨(⟨x2370,x2371,x2372,x2373,x2374,x2375,x2376,x2377⟩:THist),x2378,x2379,(⟨x2380,x2381,x2382⟩:Tbound_Key),(⟨x2383,x2384,x2385⟩:Trank_Part)⟩:Teval_Answer)).f3).f1),iV .i64 ((((⟨(⟨x2370,x2371,x2372,x2373,x2374,x2375,x2376,x2377⟩:THist),x2378,x2379,(⟨x2380,x2381,x2382⟩:Tbound_Key),(⟨x2383,x2384,x2385⟩:Trank_Part)⟩:Teval_Answer)).f3).f2),iV .u64 ((((⟨(⟨x2370,x2371,x2372,x2373,x2374,x2375,x2376,x2377⟩:THist),x2378,x2379,(⟨x2380,x2381,x2382⟩:Tbound_Key),(⟨x2383,x2384,x2385⟩:Trank_Part)⟩:Teval_Answer)).f4).f0),iV .u64 ((((⟨(⟨x2370,x2371,x2372,x2373,x2374,x2375,x2376,x2377⟩:THist),x2378,x2379,(⟨x2380,x2381,x2382⟩:Tbound_Key),(⟨x2383,x2384,x2385⟩:Trank_Part)⟩:Teval_Answer)).f4).f1),iV .u64 ((((⟨(⟨x2370,x2371,x2372,x2373,x2374,x2375,x2376,x2377⟩:THist),x2378,x2379,(⟨x2380,x2381,x2382⟩:Tbound_Key),(⟨x2383,x2384,x2385⟩:Trank_Part)⟩:Teval_Answer)).f4).f2)]))],0⟩) (by kernel_rfl) ?_
    refine AWp.ret ?_
    obtain rfl:=Option.some.inj H
    exact rl (.inl rfl) rfl (by kernel_rfl) (by kernel_rfl)
def f_eval_Do.f (a0:Teval_Ask) (a1:List TSample):Option (Teval_Answer×Int):=((if(decide (a0.f0<(0:Int)))=true then(some true) else(some (decide (a0.f0>(5:Int))))):Option (Bool))>>=fun x308=>if x308=true then(some ((⟨(⟨0,0,0,0,0,0,[],[]⟩:THist),0,0,(⟨0,0,0⟩:Tbound_Key),(⟨0,0,0⟩:Trank_Part)⟩:Teval_Answer),1)) else((f_eval_Of.f a0 a1)>>=fun t2033=>if(t2033.2 != (0:Int))=true then(some ((⟨(⟨0,0,0,0,0,0,[],[]⟩:THist),0,0,(⟨0,0,0⟩:Tbound_Key),(⟨0,0,0⟩:Trank_Part)⟩:Teval_Answer),t2033.2)) else((f_eval_Finish.f a0 (t2033.1))>>=fun t2402=>some ((⟨(⟨((t2402.1).f0).f0,((t2402.1).f0).f1,((t2402.1).f0).f2,((t2402.1).f0).f3,((t2402.1).f0).f4,((t2402.1).f0).f5,((t2402.1).f0).f6,((t2402.1).f0).f7⟩:THist),(t2402.1).f1,(t2402.1).f2,(⟨((t2402.1).f3).f0,((t2402.1).f3).f1,((t2402.1).f3).f2⟩:Tbound_Key),(⟨((t2402.1).f4).f0,((t2402.1).f4).f1,((t2402.1).f4).f2⟩:Trank_Part)⟩:Teval_Answer),t2402.2)))
theorem f_eval_Do.ok (a0:Teval_Ask) (a1:List TSample) (r:Teval_Answer×Int) (H:f_eval_Do.f a0 a1=some r):Pv.Fn Tryz.prog 16 [.agg (ar19_Ask ⟨a0.f0,a0.f1,a0.f2,a0.f3.f0,a0.f3.f1,a0.f4,a0.f5⟩),.im (.row (a1.map eSample))] [] 0 (fun x o=>x = .tup [.agg [iV .i64 (((r.1).f0).f0),iV .i64 (((r.1).f0).f1),iV .i64 (((r.1).f0).f2),iV .u64 (((r.1).f0).f3),iV .u64 (((r.1).f0).f4),iV .i64 (((r.1).f0).f5),.own 0,.own 1,iV .i64 ((r.1).f1),iV .u64 ((r.1).f2),iV .i64 (((r.1).f3).f0),iV .i64 (((r.1).f3).f1),iV .i64 (((r.1).f3).f2),iV .u64 (((r.1).f4).f0),iV .u64 (((r.1).f4).f1),iV .u64 (((r.1).f4).f2)],iV .i64 r.2]∧o=[(0,some (.row 2 89 ((((r.1).f0).f6).map eBucket))),(1,some (.row 2 89 ((((r.1).f0).f7).map eBucket)))]):=by
 unfold f_eval_Do.f at H
 refine Fn.bodyK [0,1] Tryz.func16 rfl rfl (fun Γ hP hn => ?_)
 have hm:Tryz.prog.follows .mixedOrders=true:=by kernel_rfl
 replace hn:Γ.n=32:=hn
 refine sr hP hn hm [(0,.k 0),(1,.k 1)] [(2,.ptr 0 0 0),(4,.ptr 1 0 0)] [1,2,4] [(0,some (.box 39 [iV .i64 a0.f0,iV .u64 a0.f1,iV .u64 a0.f2,iV .i64 a0.f3.f0,iV .i64 a0.f3.f1,iV .i64 a0.f4,iV .i64 a0.f5])),(1,some (.box 49 [iV .i64 0,iV .i64 0,iV .i64 0,iV .u64 0,iV .u64 0,iV .i64 0,.none0,.none0,iV .i64 0,iV .u64 0,iV .i64 0,iV .i64 0,iV .i64 0,iV .u64 0,iV .u64 0,iV .u64 0]))] [0,1] [] (by kernel_rfl) trivial ?_
 refine AWp.seq ?_
 refine AWp.seq ?_
 obtain⟨o2404,e2405,H⟩:=bind_of H
 refine AWp.mono (Q:=fun e s=>(match (generalizing:=false) o2404 with | x308=>e = .normal∧s=⟨[(1,.im (.row (a1.map eSample))),(2,.ptr 2 0 0),(4,.ptr 3 0 0),(15,bV x308)],[(2,some (.box 39 [iV .i64 a0.f0,iV .u64 a0.f1,iV .u64 a0.f2,iV .i64 a0.f3.f0,iV .i64 a0.f3.f1,iV .i64 a0.f4,iV .i64 a0.f5])),(3,some (.box 49 [iV .i64 0,iV .i64 0,iV .i64 0,iV .u64 0,iV .u64 0,iV .i64 0,.none0,.none0,iV .i64 0,iV .u64 0,iV .i64 0,iV .i64 0,iV .i64 0,iV .u64 0,iV .u64 0,iV .u64 0]))],0⟩)) (AWp.cv ?_) ?_
 ·replace H:=e2405;clear e2405
  rcases Bool.eq_false_or_eq_true (decide (a0.f0<(0:Int))) with c307 | c307
  ·replace H:=iT c307 H
   refine rg hP hn hm [(3,.b true)] [(15,bV true)] [1,2,4,15] [] [0,1] [_] (by kernel_rfl) ⟨c307,trivial⟩ ?_
   obtain rfl:=Option.some.inj H
   exact lf [(0,2),(1,3)] [] [] (by kernel_rfl) ⟨rfl,rfl⟩
  ·replace H:=iF c307 H
   refine rg hP hn hm [(3,.b false)] [(15,bV (decide (a0.f0>(5:Int))))] [1,2,4,15] [] [0,1] [_] (by kernel_rfl) ⟨c307,trivial⟩ ?_
   obtain rfl:=Option.some.inj H
   exact lf [(0,2),(1,3)] [] [] (by kernel_rfl) ⟨rfl,rfl⟩
 ·obtain⟨x308,rfl⟩:∃ z,z=o2404:=⟨_,rfl⟩
  rintro e s ⟨rfl,rfl⟩
  refine AWp.cond x308 (by kernel_rfl) (fun c309 => ?_) (fun c309 => ?_)
  ·replace H:=iT c309 H
   refine sr hP hn hm [] [(5,iV .i64 1)] [4,5] [] [3] [] (by kernel_rfl) trivial ?_
   refine AWp.conv (inv:=[(3,2)]) (vk:=[]) (e0:=[0,1]) (t:=⟨[(4,.ptr 2 0 0),(5,iV .i64 1)],[(0,some (.row 2 89 (((((⟨(⟨0,0,0,0,0,0,[],[]⟩:THist),0,0,(⟨0,0,0⟩:Tbound_Key),(⟨0,0,0⟩:Trank_Part)⟩:Teval_Answer)).f0).f6).map eBucket))),(1,some (.row 2 89 (((((⟨(⟨0,0,0,0,0,0,[],[]⟩:THist),0,0,(⟨0,0,0⟩:Tbound_Key),(⟨0,0,0⟩:Trank_Part)⟩:Teval_Answer)).f0).f7).map eBucket))),(2,some (.box 49 [iV .i64 ((((⟨(⟨0,0,0,0,0,0,[],[]⟩:THist),0,0,(⟨0,0,0⟩:Tbound_Key),(⟨0,0,0⟩:Trank_Part)⟩:Teval_Answer)).f0).f0),iV .i64 ((((⟨(⟨0,0,0,0,0,0,[],[]⟩:THist),0,0,(⟨0,0,0⟩:Tbound_Key),(⟨0,0,0⟩:Trank_Part)⟩:Teval_Answer)).f0).f1),iV .i64 ((((⟨(⟨0,0,0,0,0,0,[],[]⟩:THist),0,0,(⟨0,0,0⟩:Tbound_Key),(⟨0,0,0⟩:Trank_Part)⟩:Teval_Answer)).f0).f2),iV .u64 ((((⟨(⟨0,0,0,0,0,0,[],[]⟩:THist),0,0,(⟨0,0,0⟩:Tbound_Key),(⟨0,0,0⟩:Trank_Part)⟩:Teval_Answer)).f0).f3),iV .u64 ((((⟨(⟨0,0,0,0,0,0,[],[]⟩:THist),0,0,(⟨0,0,0⟩:Tbound_Key),(⟨0,0,0⟩:Trank_Part)⟩:Teval_Answer)).f0).f4),iV .i64 ((((⟨(⟨0,0,0,0,0,0,[],[]⟩:THist),0,0,(⟨0,0,0⟩:Tbound_Key),(⟨0,0,0⟩:Trank_Part)⟩:Teval_Answer)).f0).f5),.own 0,.own 1,iV .i64 (((⟨(⟨0,0,0,0,0,0,[],[]⟩:THist),0,0,(⟨0,0,0⟩:Tbound_Key),(⟨0,0,0⟩:Trank_Part)⟩:Teval_Answer)).f1),iV .u64 (((⟨(⟨0,0,0,0,0,0,[],[]⟩:THist),0,0,(⟨0,0,0⟩:Tbound_Key),(⟨0,0,0⟩:Trank_Part)⟩:Teval_Answer)).f2),iV .i64 ((((⟨(⟨0,0,0,0,0,0,[],[]⟩:THist),0,0,(⟨0,0,0⟩:Tbound_Key),(⟨0,0,0⟩:Trank_Part)⟩:Teval_Answer)).f3).f0),iV .i64 ((((⟨(⟨0,0,0,0,0,0,[],[]⟩:THist),0,0,(⟨0,0,0⟩:Tbound_Key),(⟨0,0,0⟩:Trank_Part)⟩:Teval_Answer)).f3).f1),iV .i64 ((((⟨(⟨0,0,0,0,0,0,[],[]⟩:THist),0,0,(⟨0,0,0⟩:Tbound_Key),(⟨0,0,0⟩:Trank_Part)⟩:Teval_Answer)).f3).f2),iV .u64 ((((⟨(⟨0,0,0,0,0,0,[],[]⟩:THist),0,0,(⟨0,0,0⟩:Tbound_Key),(⟨0,0,0⟩:Trank_Part)⟩:Teval_Answer)).f4).f0),iV .u64 ((((⟨(⟨0,0,0,0,0,0,[],[]⟩:THist),0,0,(⟨0,0,0⟩:Tbound_Key),(⟨0,0,0⟩:Trank_Part)⟩:Teval_Answer)).f4).f1),iV .u64 ((((⟨(⟨0,0,0,0,0,0,[],[]⟩:THist),0,0,(⟨0,0,0⟩:Tbound_Key),(⟨0,0,0⟩:Trank_Part)⟩:Teval_Answer)).f4).f2)]))],0⟩) (by kernel_rfl) ?_
   refine AWp.ret ?_
   obtain rfl:=Option.some.inj H
   exact rl (.inl rfl) rfl (by kernel_rfl) (by kernel_rfl)
  ·replace H:=iF c309 H
   refine AWp.skip ?_
   obtain⟨t2033,e2034,H⟩:=bind_of H
   refine sr hP hn hm [(2,.call [] [] [] [] 0 (.tup [.agg (aHist (t2033.1)),iV .i64 t2033.2]) []),(6,.k 4)] [(6,.ptr 4 0 0),(7,iV .i64 t2033.2)] [2,4,6,7] [(4,some (.box 32 (aHist (t2033.1))))] [2,3,4] [_,_] (by kernel_rfl) ⟨Tryz.call9,f_eval_Of.ok a0 a1 t2033 e2034,trivial⟩ ?_
   refine AWp.seq ?_
   refine sr hP hn hm [] [(24,bV (t2033.2 != (0:Int)))] [2,4,6,7,24] [] [2,3,4] [] (by kernel_rfl) trivial ?_
   refine AWp.cond (t2033.2 != (0:Int)) (by kernel_rfl) (fun c2035 => ?_) (fun c2035 => ?_)
   ·replace H:=iT c2035 H
    refine sr hP hn hm [] [(5,iV .i64 t2033.2)] [4,5] [] [3] [] (by kernel_rfl) trivial ?_
    refine AWp.conv (inv:=[(3,2)]) (vk:=[]) (e0:=[0,1]) (t:=⟨[(4,.ptr 2 0 0),(5,iV .i64 t2033.2)],[(0,some (.row 2 89 (((((⟨(⟨0,0,0,0,0,0,[],[]⟩:THist),0,0,(⟨0,0,0⟩:Tbound_Key),(⟨0,0,0⟩:Trank_Part)⟩:Teval_Answer)).f0).f6).map eBucket))),(1,some (.row 2 89 (((((⟨(⟨0,0,0,0,0,0,[],[]⟩:THist),0,0,(⟨0,0,0⟩:Tbound_Key),(⟨0,0,0⟩:Trank_Part)⟩:Teval_Answer)).f0).f7).map eBucket))),(2,some (.box 49 [iV .i64 ((((⟨(⟨0,0,0,0,0,0,[],[]⟩:THist),0,0,(⟨0,0,0⟩:Tbound_Key),(⟨0,0,0⟩:Trank_Part)⟩:Teval_Answer)).f0).f0),iV .i64 ((((⟨(⟨0,0,0,0,0,0,[],[]⟩:THist),0,0,(⟨0,0,0⟩:Tbound_Key),(⟨0,0,0⟩:Trank_Part)⟩:Teval_Answer)).f0).f1),iV .i64 ((((⟨(⟨0,0,0,0,0,0,[],[]⟩:THist),0,0,(⟨0,0,0⟩:Tbound_Key),(⟨0,0,0⟩:Trank_Part)⟩:Teval_Answer)).f0).f2),iV .u64 ((((⟨(⟨0,0,0,0,0,0,[],[]⟩:THist),0,0,(⟨0,0,0⟩:Tbound_Key),(⟨0,0,0⟩:Trank_Part)⟩:Teval_Answer)).f0).f3),iV .u64 ((((⟨(⟨0,0,0,0,0,0,[],[]⟩:THist),0,0,(⟨0,0,0⟩:Tbound_Key),(⟨0,0,0⟩:Trank_Part)⟩:Teval_Answer)).f0).f4),iV .i64 ((((⟨(⟨0,0,0,0,0,0,[],[]⟩:THist),0,0,(⟨0,0,0⟩:Tbound_Key),(⟨0,0,0⟩:Trank_Part)⟩:Teval_Answer)).f0).f5),.own 0,.own 1,iV .i64 (((⟨(⟨0,0,0,0,0,0,[],[]⟩:THist),0,0,(⟨0,0,0⟩:Tbound_Key),(⟨0,0,0⟩:Trank_Part)⟩:Teval_Answer)).f1),iV .u64 (((⟨(⟨0,0,0,0,0,0,[],[]⟩:THist),0,0,(⟨0,0,0⟩:Tbound_Key),(⟨0,0,0⟩:Trank_Part)⟩:Teval_Answer)).f2),iV .i64 ((((⟨(⟨0,0,0,0,0,0,[],[]⟩:THist),0,0,(⟨0,0,0⟩:Tbound_Key),(⟨0,0,0⟩:Trank_Part)⟩:Teval_Answer)).f3).f0),iV .i64 ((((⟨(⟨0,0,0,0,0,0,[],[]⟩:THist),0,0,(⟨0,0,0⟩:Tbound_Key),(⟨0,0,0⟩:Trank_Part)⟩:Teval_Answer)).f3).f1),iV .i64 ((((⟨(⟨0,0,0,0,0,0,[],[]⟩:THist),0,0,(⟨0,0,0⟩:Tbound_Key),(⟨0,0,0⟩:Trank_Part)⟩:Teval_Answer)).f3).f2),iV .u64 ((((⟨(⟨0,0,0,0,0,0,[],[]⟩:THist),0,0,(⟨0,0,0⟩:Tbound_Key),(⟨0,0,0⟩:Trank_Part)⟩:Teval_Answer)).f4).f0),iV .u64 ((((⟨(⟨0,0,0,0,0,0,[],[]⟩:THist),0,0,(⟨0,0,0⟩:Tbound_Key),(⟨0,0,0⟩:Trank_Part)⟩:Teval_Answer)).f4).f1),iV .u64 ((((⟨(⟨0,0,0,0,0,0,[],[]⟩:THist),0,0,(⟨0,0,0⟩:Tbound_Key),(⟨0,0,0⟩:Trank_Part)⟩:Teval_Answer)).f4).f2)]))],0⟩) (by kernel_rfl) ?_
    refine AWp.ret ?_
    obtain rfl:=Option.some.inj H
    exact rl (.inl rfl) rfl (by kernel_rfl) (by kernel_rfl)
   ·replace H:=iF c2035 H
    refine AWp.skip ?_
    obtain⟨t2402,e2403,H⟩:=bind_of H
    refine sr hP hn hm [(2,.call [] [(0,5),(1,6)] [] [5,6] 0 (.tup [.agg [iV .i64 (((t2402.1).f0).f0),iV .i64 (((t2402.1).f0).f1),iV .i64 (((t2402.1).f0).f2),iV .u64 (((t2402.1).f0).f3),iV .u64 (((t2402.1).f0).f4),iV .i64 (((t2402.1).f0).f5),.own 0,.own 1,iV .i64 ((t2402.1).f1),iV .u64 ((t2402.1).f2),iV .i64 (((t2402.1).f3).f0),iV .i64 (((t2402.1).f3).f1),iV .i64 (((t2402.1).f3).f2),iV .u64 (((t2402.1).f4).f0),iV .u64 (((t2402.1).f4).f1),iV .u64 (((t2402.1).f4).f2)],iV .i64 t2402.2]) [(0,some (.row 2 89 ((((t2402.1).f0).f6).map eBucket))),(1,some (.row 2 89 ((((t2402.1).f0).f7).map eBucket)))])] [(5,iV .i64 t2402.2)] [4,5] [(3,some (.box 49 [iV .i64 (((t2402.1).f0).f0),iV .i64 (((t2402.1).f0).f1),iV .i64 (((t2402.1).f0).f2),iV .u64 (((t2402.1).f0).f3),iV .u64 (((t2402.1).f0).f4),iV .i64 (((t2402.1).f0).f5),.own 5,.own 6,iV .i64 ((t2402.1).f1),iV .u64 ((t2402.1).f2),iV .i64 (((t2402.1).f3).f0),iV .i64 (((t2402.1).f3).f1),iV .i64 (((t2402.1).f3).f2),iV .u64 (((t2402.1).f4).f0),iV .u64 (((t2402.1).f4).f1),iV .u64 (((t2402.1).f4).f2)])),(5,some (.row 2 89 ((((t2402.1).f0).f6).map eBucket))),(6,some (.row 2 89 ((((t2402.1).f0).f7).map eBucket)))] [3,5,6] [_,_] (by kernel_rfl) ⟨Tryz.call13,f_eval_Finish.ok a0 (t2033.1) t2402 e2403,trivial⟩ ?_
    refine AWp.conv (inv:=[(3,2),(5,0),(6,1)]) (vk:=[]) (e0:=[]) (t:=⟨[(4,.ptr 2 0 0),(5,iV .i64 t2402.2)],[(0,some (.row 2 89 (((((⟨(⟨((t2402.1).f0).f0,((t2402.1).f0).f1,((t2402.1).f0).f2,((t2402.1).f0).f3,((t2402.1).f0).f4,((t2402.1).f0).f5,((t2402.1).f0).f6,((t2402.1).f0).f7⟩:THist),(t2402.1).f1,(t2402.1).f2,(⟨((t2402.1).f3).f0,((t2402.1).f3).f1,((t2402.1).f3).f2⟩:Tbound_Key),(⟨((t2402.1).f4).f0,((t2402.1).f4).f1,((t2402.1).f4).f2⟩:Trank_Part)⟩:Teval_Answer)).f0).f6).map eBucket))),(1,some (.row 2 89 (((((⟨(⟨((t2402.1).f0).f0,((t2402.1).f0).f1,((t2402.1).f0).f2,((t2402.1).f0).f3,((t2402.1).f0).f4,((t2402.1).f0).f5,((t2402.1).f0).f6,((t2402.1).f0).f7⟩:THist),(t2402.1).f1,(t2402.1).f2,(⟨((t2402.1).f3).f0,((t2402.1).f3).f1,((t2402.1).f3).f2⟩:Tbound_Key),(⟨((t2402.1).f4).f0,((t2402.1).f4).f1,((t2402.1).f4).f2⟩:Trank_Part)⟩:Teval_Answer)).f0).f7).map eBucket))),(2,some (.box 49 [iV .i64 ((((⟨(⟨((t2402.1).f0).f0,((t2402.1).f0).f1,((t2402.1).f0).f2,((t2402.1).f0).f3,((t2402.1).f0).f4,((t2402.1).f0).f5,((t2402.1).f0).f6,((t2402.1).f0).f7⟩:THist),(t2402.1).f1,(t2402.1).f2,(⟨((t2402.1).f3).f0,((t2402.1).f3).f1,((t2402.1).f3).f2⟩:Tbound_Key),(⟨((t2402.1).f4).f0,((t2402.1).f4).f1,((t2402.1).f4).f2⟩:Trank_Part)⟩:Teval_Answer)).f0).f0),iV .i64 ((((⟨(⟨((t2402.1).f0).f0,((t2402.1).f0).f1,((t2402.1).f0).f2,((t2402.1).f0).f3,((t2402.1).f0).f4,((t2402.1).f0).f5,((t2402.1).f0).f6,((t2402.1).f0).f7⟩:THist),(t2402.1).f1,(t2402.1).f2,(⟨((t2402.1).f3).f0,((t2402.1).f3).f1,((t2402.1).f3).f2⟩:Tbound_Key),(⟨((t2402.1).f4).f0,((t2402.1).f4).f1,((t2402.1).f4).f2⟩:Trank_Part)⟩:Teval_Answer)).f0).f1),iV .i64 ((((⟨(⟨((t2402.1).f0).f0,((t2402.1).f0).f1,((t2402.1).f0).f2,((t2402.1).f0).f3,((t2402.1).f0).f4,((t2402.1).f0).f5,((t2402.1).f0).f6,((t2402.1).f0).f7⟩:THist),(t2402.1).f1,(t2402.1).f2,(⟨((t2402.1).f3).f0,((t2402.1).f3).f1,((t2402.1).f3).f2⟩:Tbound_Key),(⟨((t2402.1).f4).f0,((t2402.1).f4).f1,((t2402.1).f4).f2⟩:Trank_Part)⟩:Teval_Answer)).f0).f2),iV .u64 ((((⟨(⟨((t2402.1).f0).f0,((t2402.1).f0).f1,((t2402.1).f0).f2,((t2402.1).f0).f3,((t2402.1).f0).f4,((t2402.1).f0).f5,((t2402.1).f0).f6,((t2402.1).f0).f7⟩:THist),(t2402.1).f1,(t2402.1).f2,(⟨((t2402.1).f3).f0,((t2402.1).f3).f1,((t2402.1).f3).f2⟩:Tbound_Key),(⟨((t2402.1).f4).f0,((t2402.1).f4).f1,((t2402.1).f4).f2⟩:Trank_Part)⟩:Teval_Answer)).f0).f3),iV .u64 ((((⟨(⟨((t2402.1).f0).f0,((t2402.1).f0).f1,((t2402.1).f0).f2,((t2402.1).f0).f3,((t2402.1).f0).f4,((t2402.1).f0).f5,((t2402.1).f0).f6,((t2402.1).f0).f7⟩:THist),(t2402.1).f1,(t2402.1).f2,(⟨((t2402.1).f3).f0,((t2402.1).f3).f1,((t2402.1).f3).f2⟩:Tbound_Key),(⟨((t2402.1).f4).f0,((t2402.1).f4).f1,((t2402.1).f4).f2⟩:Trank_Part)⟩:Teval_Answer)).f0).f4),iV .i64 ((((⟨(⟨((t2402.1).f0).f0,((t2402.1).f0).f1,((t2402.1).f0).f2,((t2402.1).f0).f3,((t2402.1).f0).f4,((t2402.1).f0).f5,((t2402.1).f0).f6,((t2402.1).f0).f7⟩:THist),(t2402.1).f1,(t2402.1).f2,(⟨((t2402.1).f3).f0,((t2402.1).f3).f1,((t2402.1).f3).f2⟩:Tbound_Key),(⟨((t2402.1).f4).f0,((t2402.1).f4).f1,((t2402.1).f4).f2⟩:Trank_Part)⟩:Teval_Answer)).f0).f5),.own 0,.own 1,iV .i64 (((⟨(⟨((t2402.1).f0).f0,((t2402.1).f0).f1,((t2402.1).f0).f2,((t2402.1).f0).f3,((t2402.1).f0).f4,((t2402.1).f0).f5,((t2402.1).f0).f6,((t2402.1).f0).f7⟩:THist),(t2402.1).f1,(t2402.1).f2,(⟨((t2402.1).f3).f0,((t2402.1).f3).f1,((t2402.1).f3).f2⟩:Tbound_Key),(⟨((t2402.1).f4).f0,((t2402.1).f4).f1,((t2402.1).f4).f2⟩:Trank_Part)⟩:Teval_Answer)).f1),iV .u64 (((⟨(⟨((t2402.1).f0).f0,((t2402.1).f0).f1,((t2402.1).f0).f2,((t2402.1).f0).f3,((t2402.1).f0).f4,((t2402.1).f0).f5,((t2402.1).f0).f6,((t2402.1).f0).f7⟩:THist),(t2402.1).f1,(t2402.1).f2,(⟨((t2402.1).f3).f0,((t2402.1).f3).f1,((t2402.1).f3).f2⟩:Tbound_Key),(⟨((t2402.1).f4).f0,((t2402.1).f4).f1,((t2402.1).f4).f2⟩:Trank_Part)⟩:Teval_Answer)).f2),iV .i64 ((((⟨(⟨((t2402.1).f0).f0,((t2402.1).f0).f1,((t2402.1).f0).f2,((t2402.1).f0).f3,((t2402.1).f0).f4,((t2402.1).f0).f5,((t2402.1).f0).f6,((t2402.1).f0).f7⟩:THist),(t2402.1).f1,(t2402.1).f2,(⟨((t2402.1).f3).f0,((t2402.1).f3).f1,((t2402.1).f3).f2⟩:Tbound_Key),(⟨((t2402.1).f4).f0,((t2402.1).f4).f1,((t2402.1).f4).f2⟩:Trank_Part)⟩:Teval_Answer)).f3).f0),iV .i64 ((((⟨(⟨((t2402.1).f0).f0,((t2402.1).f0).f1,((t2402.1).f0).f2,((t2402.1).f0).f3,((t2402.1).f0).f4,((t2402.1).f0).f5,((t2402.1).f0).f6,((t2402.1).f0).f7⟩:THist),(t2402.1).f1,(t2402.1).f2,(⟨((t2402.1).f3).f0,((t2402.1).f3).f1,((t2402.1).f3).f2⟩:Tbound_Key),(⟨((t2402.1).f4).f0,((t2402.1).f4).f1,((t2402.1).f4).f2⟩:Trank_Part)⟩:Teval_Answer)).f3).f1),iV .i64 ((((⟨(⟨((t2402.1).f0).f0,((t2402.1).f0).f1,((t2402.1).f0).f2,((t2402.1).f0).f3,((t2402.1).f0).f4,((t2402.1).f0).f5,((t2402.1).f0).f6,((t2402.1).f0).f7⟩:THist),(t2402.1).f1,(t2402.1).f2,(⟨((t2402.1).f3).f0,((t2402.1).f3).f1,((t2402.1).f3).f2⟩:Tbound_Key),(⟨((t2402.1).f4).f0,((t2402.1).f4).f1,((t2402.1).f4).f2⟩:Trank_Part)⟩:Teval_Answer)).f3).f2),iV .u64 ((((⟨(⟨((t2402.1).f0).f0,((t2402.1).f0).f1,((t2402.1).f0).f2,((t2402.1).f0).f3,((t2402.1).f0).f4,((t2402.1).f0).f5,((t2402.1).f0).f6,((t2402.1).f0).f7⟩:THist),(t2402.1).f1,(t2402.1).f2,(⟨((t2402.1).f3).f0,((t2402.1).f3).f1,((t2402.1).f3).f2⟩:Tbound_Key),(⟨((t2402.1).f4).f0,((t2402.1).f4).f1,((t2402.1).f4).f2⟩:Trank_Part)⟩:Teval_Answer)).f4).f0),iV .u64 ((((⟨(⟨((t2402.1).f0).f0,((t2402.1).f0).f1,((t2402.1).f0).f2,((t2402.1).f0).f3,((t2402.1).f0).f4,((t2402.1).f0).f5,((t2402.1).f0).f6,((t2402.1).f0).f7⟩:THist),(t2402.1).f1,(t2402.1).f2,(⟨((t2402.1).f3).f0,((t2402.1).f3).f1,((t2402.1).f3).f2⟩:Tbound_Key),(⟨((t2402.1).f4).f0,((t2402.1).f4).f1,((t2402.1).f4).f2⟩:Trank_Part)⟩:Teval_Answer)).f4).f1),iV .u64 ((((⟨(⟨((t2402.1).f0).f0,((t2402.1).f0).f1,((t2402.1).f0).f2,((t2402.1).f0).f3,((t2402.1).f0).f4,((t2402.1).f0).f5,((t2402.1).f0).f6,((t2402.1).f0).f7⟩:THist),(t2402.1).f1,(t2402.1).f2,(⟨((t2402.1).f3).f0,((t2402.1).f3).f1,((t2402.1).f3).f2⟩:Tbound_Key),(⟨((t2402.1).f4).f0,((t2402.1).f4).f1,((t2402.1).f4).f2⟩:Trank_Part)⟩:Teval_Answer)).f4).f2)]))],0⟩) (by kernel_rfl) ?_
    refine AWp.ret ?_
    obtain rfl:=Option.some.inj H
    exact rl (.inl rfl) rfl (by kernel_rfl) (by kernel_rfl)
def f_l19_awake.f  : Option (Bool):=(f_eval_Do.f (⟨2,0,0,(⟨0,0⟩:Trank_Place),0,8⟩:Teval_Ask) [(⟨5,(⟨0,0,(-524288),2,2,0,[],[]⟩:THist)⟩:TSample),(⟨9,(⟨0,0,(-524288),3,3,0,[],[]⟩:THist)⟩:TSample)])>>=fun t2408=>((if(t2408.2==(0:Int))=true then(some (((t2408.1).f2)==(2:Int))) else(some false)):Option (Bool))>>=fun x2412=>some x2412
theorem f_l19_awake.ok  (r:Bool) (H:f_l19_awake.f  = some r):Pv.Fn Tryz.prog 5 [] [] 0 (fun x o=>x=bV r∧o=[]):=by
 unfold f_l19_awake.f at H
 refine Fn.bodyK [] Tryz.func5 rfl rfl (fun Γ hP hn => ?_)
 have hm:Tryz.prog.follows .mixedOrders=true:=by kernel_rfl
 replace hn:Γ.n=24:=hn
 refine sr hP hn hm [] [] [] [] [] [] (by kernel_rfl) trivial ?_
 refine sr hP hn hm [(1,.k 0)] [(1,.ptr 0 0 0)] [1] [(0,some (.box 32 [iV .i64 0,iV .i64 0,iV .i64 (-524288),iV .u64 2,iV .u64 2,iV .i64 0,.none0,.none0]))] [0] [] (by kernel_rfl) trivial ?_
 refine sr hP hn hm [(1,.k 1)] [(2,.ptr 1 0 0)] [1,2] [(1,some (.box 32 [iV .i64 0,iV .i64 0,iV .i64 (-524288),iV .u64 3,iV .u64 3,iV .i64 0,.none0,.none0]))] [0,1] [] (by kernel_rfl) trivial ?_
 obtain⟨t2408,e2409,H⟩:=bind_of H
 refine sr hP hn hm [(5,.app 2 ([(⟨5,(⟨0,0,(-524288),2,2,0,[],[]⟩:THist)⟩:TSample),(⟨9,(⟨0,0,(-524288),3,3,0,[],[]⟩:THist)⟩:TSample)].map eSample)),(6,.call [] [(0,3),(1,4)] [2] [3,4] 0 (.tup [.agg [iV .i64 (((t2408.1).f0).f0),iV .i64 (((t2408.1).f0).f1),iV .i64 (((t2408.1).f0).f2),iV .u64 (((t2408.1).f0).f3),iV .u64 (((t2408.1).f0).f4),iV .i64 (((t2408.1).f0).f5),.own 0,.own 1,iV .i64 ((t2408.1).f1),iV .u64 ((t2408.1).f2),iV .i64 (((t2408.1).f3).f0),iV .i64 (((t2408.1).f3).f1),iV .i64 (((t2408.1).f3).f2),iV .u64 (((t2408.1).f4).f0),iV .u64 (((t2408.1).f4).f1),iV .u64 (((t2408.1).f4).f2)],iV .i64 t2408.2]) [(0,some (.row 2 89 ((((t2408.1).f0).f6).map eBucket))),(1,some (.row 2 89 ((((t2408.1).f0).f7).map eBucket)))]),(10,.k 5)] [(3,.ptr 5 0 0),(4,iV .i64 t2408.2)] [3,4] [(3,some (.row 2 89 ((((t2408.1).f0).f6).map eBucket))),(4,some (.row 2 89 ((((t2408.1).f0).f7).map eBucket))),(5,some (.box 49 [iV .i64 (((t2408.1).f0).f0),iV .i64 (((t2408.1).f0).f1),iV .i64 (((t2408.1).f0).f2),iV .u64 (((t2408.1).f0).f3),iV .u64 (((t2408.1).f0).f4),iV .i64 (((t2408.1).f0).f5),.own 3,.own 4,iV .i64 ((t2408.1).f1),iV .u64 ((t2408.1).f2),iV .i64 (((t2408.1).f3).f0),iV .i64 (((t2408.1).f3).f1),iV .i64 (((t2408.1).f3).f2),iV .u64 (((t2408.1).f4).f0),iV .u64 (((t2408.1).f4).f1),iV .u64 (((t2408.1).f4).f2)]))] [3,4,5] [[(⟨5,(⟨0,0,(-524288),2,2,0,[],[]⟩:THist)⟩:TSample),(⟨9,(⟨0,0,(-524288),3,3,0,[],[]⟩:THist)⟩:TSample)].map eSample=[[iI .i64 5,iI .i64 0,iI .i64 0,iI .i64 (-524288),iI .u64 2,iI .u64 2,iI .i64 0,.row [],.row []],[iI .i64 9,iI .i64 0,iI .i64 0,iI .i64 (-524288),iI .u64 3,iI .u64 3,iI .i64 0,.row [],.row []]],_,_] (by kernel_rfl) ⟨by exact rfl,Tryz.call16,f_eval_Do.ok (⟨2,0,0,(⟨0,0⟩:Trank_Place),0,8⟩:Teval_Ask) [(⟨5,(⟨0,0,(-524288),2,2,0,[],[]⟩:THist)⟩:TSample),(⟨9,(⟨0,0,(-524288),3,3,0,[],[]⟩:THist)⟩:TSample)] t2408 e2409,trivial⟩ ?_
 refine AWp.seq ?_
 obtain⟨o2413,e2414,H⟩:=bind_of H
 refine AWp.mono (Q:=fun e s=>(match (generalizing:=false) o2413 with | x2412=>e = .normal∧s=⟨[(0,bV x2412)],[],0⟩)) (AWp.cv ?_) ?_
 ·replace H:=e2414;clear e2414
  rcases Bool.eq_false_or_eq_true (t2408.2==(0:Int)) with c2411 | c2411
  ·replace H:=iT c2411 H
   refine rg hP hn hm [(2,.b true)] [(0,bV (((t2408.1).f2)==(2:Int)))] [0] [] [] [_] (by kernel_rfl) ⟨c2411,trivial⟩ ?_
   obtain rfl:=Option.some.inj H
   exact lf [] [] [] (by kernel_rfl) ⟨rfl,rfl⟩
  ·replace H:=iF c2411 H
   refine rg hP hn hm [(2,.b false)] [(0,bV false)] [0] [] [] [_] (by kernel_rfl) ⟨c2411,trivial⟩ ?_
   obtain rfl:=Option.some.inj H
   exact lf [] [] [] (by kernel_rfl) ⟨rfl,rfl⟩
 ·obtain⟨x2412,rfl⟩:∃ z,z=o2413:=⟨_,rfl⟩
  rintro e s ⟨rfl,rfl⟩
  refine AWp.conv (inv:=[]) (vk:=[]) (e0:=[]) (t:=⟨[(0,bV x2412)],[],0⟩) (by kernel_rfl) ?_
  refine AWp.ret ?_
  obtain rfl:=Option.some.inj H
  exact rl (.inl rfl) rfl (by kernel_rfl) (by kernel_rfl)
def f_r19_Window.l0 (a0:List TSample) (a1:Int) (a2:Int) (x2441:List TSample) (x2442:Int):Option (List TSample):=if(decide (x2442<(a0.length:Int)))=true then((((at? a0 x2442)>>=fun b2448=>if(decide (b2448.f0>a1))=true then(some (decide (b2448.f0≤a2))) else(some false)):Option (Bool))>>=fun x2452=>((if x2452=true then((at? a0 x2442)>>=fun b2458=>(chk ((x2441.length+[b2458].length)*104≤140737488355328))>>=fun _=>some (x2441++[b2458])) else(some x2441)):Option (List TSample))>>=fun x2462=>f_r19_Window.l0 a0 a1 a2 x2462 (i64.wrap (x2442+(1:Int)))) else(some x2441)
partial_fixpoint
def f_r19_Window.f (a0:List TSample) (a1:Int) (a2:Int):Option (List TSample):=(f_r19_Window.l0 a0 a1 a2 [] 0)>>=fun x2463=>some x2463
theorem f_r19_Window.ok (a0:List TSample) (a1:Int) (a2:Int) (r:List TSample) (H:f_r19_Window.f a0 a1 a2=some r):Pv.Fn Tryz.prog 8 [.im (.row (a0.map eSample)),iV .i64 a1,iV .i64 a2] [] 0 (fun x o=>x = .own 0∧o=[(0,some (.row 9 65 (r.map eSample)))]):=by
 unfold f_r19_Window.f at H
 refine Fn.bodyK [0] Tryz.func8 rfl rfl (fun Γ hP hn => ?_)
 have hm:Tryz.prog.follows .mixedOrders=true:=by kernel_rfl
 replace hn:Γ.n=39:=hn
 refine sr hP hn hm [] [] [0,1,2] [] [] [] (by kernel_rfl) trivial ?_
 refine sr hP hn hm [] [(7,.none0)] [0,1,2,7] [] [] [] (by kernel_rfl) trivial ?_
 refine AWp.seq ?_
 refine sr hP hn hm [] [(8,iV .i64 0)] [0,1,2,7,8] [] [] [] (by kernel_rfl) trivial ?_
 refine AWp.block ?_
 obtain⟨o2464,e2465,H⟩:=bind_of H
 refine AWp.loop (LWp.conv (inv:=[]) (vk:=[]) (e0:=[3]) (t:=⟨[(0,.im (.row (a0.map eSample))),(1,iV .i64 a1),(2,iV .i64 a2),(7,.own 3),(8,iV .i64 0)],[(3,some (.row 9 65 ([].map eSample)))],0⟩) (by kernel_rfl) ?_)
 refine LWp.mono (Q:=fun e s=>(match (generalizing:=false) o2464 with | x2463=>e = .exit 0∧s=⟨[(7,.own 8)],[(8,some (.row 9 65 (x2463.map eSample)))],0⟩)) (LWp.cv (withBody (fun body hbody => ?_))) ?_
 ·refine f_r19_Window.l0.partial_correctness a0 a1 a2 (motive:=fun x2441 x2442 o2464=>LWp Γ body (fun e s=>∃ t,Cv Γ s t∧(match (generalizing:=false) o2464 with | x2463=>e = .exit 0∧t=⟨[(7,.own 8)],[(8,some (.row 9 65 (x2463.map eSample)))],0⟩)) ⟨[(0,.im (.row (a0.map eSample))),(1,iV .i64 a1),(2,iV .i64 a2),(7,.own 3),(8,iV .i64 x2442)],[(3,some (.row 9 65 (x2441.map eSample)))],0⟩) ?_ _ _ _ e2465
  clear H e2465 o2464;intro self ih x2441 x2442 o2464 H
  subst hbody
  refine LWp.round ?_
  refine AWp.seq ?_
  refine sr hP hn hm [(2,.any (iV .i64 (a0.length:Int)))] [(12,bV (decide (x2442<(a0.length:Int))))] [0,1,2,7,8,12] [] [3] [((a0.map eSample).length:Int)=(a0.length:Int)] (by kernel_rfl) ⟨by rw[len_map],trivial⟩ ?_
  refine AWp.cond (decide (x2442<(a0.length:Int))) (by kernel_rfl) (fun c2443 => ?_) (fun c2443 => ?_)
  ·replace H:=iT c2443 H
   refine AWp.skip ?_
   refine AWp.seq ?_
   refine AWp.block ?_
   refine AWp.seq ?_
   obtain⟨o2466,e2467,H⟩:=bind_of H
   refine AWp.mono (Q:=fun e s=>(match (generalizing:=false) o2466 with | x2452=>e = .normal∧s=⟨[(0,.im (.row (a0.map eSample))),(1,iV .i64 a1),(2,iV .i64 a2),(7,.own 4),(8,iV .i64 x2442),(30,bV x2452)],[(4,some (.row 9 65 (x2441.map eSample)))],0⟩)) (AWp.cv ?_) ?_
   ·replace H:=e2467;clear e2467
    obtain⟨b2448,p2449,q2450,H⟩:=at_of H
    rcases Bool.eq_false_or_eq_true (decide (b2448.f0>a1)) with c2451 | c2451
    ·replace H:=iT c2451 H
     refine rg hP hn hm [(2,.c (eSample b2448)),(7,.b true),(10,.c (eSample b2448))] [(23,.im (.row (a0.map eSample))),(24,iV .i64 x2442),(25,.ip [iI .i64 b2448.f0,iI .i64 b2448.f1.f0,iI .i64 b2448.f1.f1,iI .i64 b2448.f1.f2,iI .u64 b2448.f1.f3,iI .u64 b2448.f1.f4,iI .i64 b2448.f1.f5,.row (b2448.f1.f6.map eBucket),.row (b2448.f1.f7.map eBucket)]),(26,.ip [iI .i64 b2448.f0,iI .i64 b2448.f1.f0,iI .i64 b2448.f1.f1,iI .i64 b2448.f1.f2,iI .u64 b2448.f1.f3,iI .u64 b2448.f1.f4,iI .i64 b2448.f1.f5,.row (b2448.f1.f6.map eBucket),.row (b2448.f1.f7.map eBucket)]),(27,iV .i64 b2448.f0),(28,iV .i64 a2),(29,bV (decide (b2448.f0≤a2))),(30,bV (decide (b2448.f0≤a2)))] [0,1,2,7,8,23,24,25,26,27,28,29,30] [] [3] [_,_,_,_,_] (by kernel_rfl) ⟨p2449,el_map eSample q2450,c2451,p2449,el_map eSample q2450,trivial⟩ ?_
     obtain rfl:=Option.some.inj H
     exact lf [(3,4)] [] [] (by kernel_rfl) ⟨rfl,rfl⟩
    ·replace H:=iF c2451 H
     refine rg hP hn hm [(2,.c (eSample b2448)),(7,.b false)] [(30,bV false)] [0,1,2,7,8,30] [] [3] [_,_,_] (by kernel_rfl) ⟨p2449,el_map eSample q2450,c2451,trivial⟩ ?_
     obtain rfl:=Option.some.inj H
     exact lf [(3,4)] [] [] (by kernel_rfl) ⟨rfl,rfl⟩
   ·obtain⟨x2452,rfl⟩:∃ z,z=o2466:=⟨_,rfl⟩
    rintro e s ⟨rfl,rfl⟩
    obtain⟨o2468,e2469,H⟩:=bind_of H
    refine AWp.mono (Q:=fun e s=>(match (generalizing:=false) o2468 with | x2462=>e = .normal∧s=⟨[(0,.im (.row (a0.map eSample))),(1,iV .i64 a1),(2,iV .i64 a2),(7,.own 7),(8,iV .i64 x2442)],[(7,some (.row 9 65 (x2462.map eSample)))],0⟩)) (AWp.cv ?_) ?_
    ·replace H:=e2469;clear e2469
     refine AWp.cond x2452 (by kernel_rfl) (fun c2453 => ?_) (fun c2453 => ?_)
     ·replace H:=iT c2453 H
      obtain⟨b2458,p2459,q2460,H⟩:=at_of H
      obtain⟨c2461,H⟩:=chk_of H
      refine rg hP hn hm [(3,.c (eSample b2458)),(5,.app 5 ([b2458].map eSample)),(6,.app 6 ((x2441++[b2458]).map eSample))] [(7,.own 6)] [0,1,2,7,8] [(6,some (.row 9 65 ((x2441++[b2458]).map eSample)))] [6] [_,_,[b2458].map eSample=[[iI .i64 b2458.f0,iI .i64 b2458.f1.f0,iI .i64 b2458.f1.f1,iI .i64 b2458.f1.f2,iI .u64 b2458.f1.f3,iI .u64 b2458.f1.f4,iI .i64 b2458.f1.f5,.row (b2458.f1.f6.map eBucket),.row (b2458.f1.f7.map eBucket)]],(x2441++[b2458]).map eSample=(x2441.map eSample)++([b2458].map eSample),∀ c∈([b2458].map eSample),c.length=9,∀ c∈([b2458].map eSample),leaves (c.map .im)=true,((x2441.map eSample).length+([b2458].map eSample).length)*104≤140737488355328] (by kernel_rfl) ⟨p2459,el_map eSample q2460,by exact rfl,by simp,by exact all_len _ _ _ (fun _=>rfl),by exact all_leaf _ _ (fun _=>rfl),by simpa using c2461,trivial⟩ ?_
      obtain rfl:=Option.some.inj H
      exact lf [(6,7)] [] [] (by kernel_rfl) ⟨rfl,rfl⟩
     ·replace H:=iF c2453 H
      refine AWp.skip ?_
      obtain rfl:=Option.some.inj H
      exact lf [(4,7)] [] [] (by kernel_rfl) ⟨rfl,rfl⟩
    ·obtain⟨x2462,rfl⟩:∃ z,z=o2468:=⟨_,rfl⟩
     rintro e s ⟨rfl,rfl⟩
     refine rg hP hn hm [] [(8,iV .i64 (i64.wrap (x2442+(1:Int))))] [0,1,2,7,8] [] [7] [] (by kernel_rfl) trivial ?_
     exact LWp.conv [(7,3)] [] [] (by kernel_rfl) (ih _ _ _ H)
  ·replace H:=iF c2443 H
   refine AWp.exit ?_
   obtain rfl:=Option.some.inj H
   exact lf [(3,8)] [] [] (by kernel_rfl) ⟨rfl,rfl⟩
 ·obtain⟨x2463,rfl⟩:∃ z,z=o2464:=⟨_,rfl⟩
  rintro e s ⟨rfl,rfl⟩
  refine sr hP hn hm [] [(6,.own 8)] [6] [] [8] [] (by kernel_rfl) trivial ?_
  refine AWp.conv (inv:=[(8,0)]) (vk:=[]) (e0:=[]) (t:=⟨[(6,.own 0)],[(0,some (.row 9 65 (x2463.map eSample)))],0⟩) (by kernel_rfl) ?_
  refine AWp.ret ?_
  obtain rfl:=Option.some.inj H
  exact rl (.inl rfl) rfl (by kernel_rfl) (by kernel_rfl)
def f_r05_same.l0 (a0:List TBucket) (a1:List TBucket) (x2502:Int):Option (Bool ⊕ Unit):=if(decide (x2502<(a0.length:Int)))=true then((at? a0 x2502)>>=fun b2510=>(at? a1 x2502)>>=fun b2513=>if(!((b2510.f0==b2513.f0)&&((b2510.f1==b2513.f1)&&true)))=true then(some (.inl false)) else(f_r05_same.l0 a0 a1 (i64.wrap (x2502+(1:Int))))) else(some (.inr ()))
partial_fixpoint
def f_r05_same.f (a0:List TBucket) (a1:List TBucket):Option (Bool):=if((a0.length:Int) != (a1.length:Int))=true then(some false) else((f_r05_same.l0 a0 a1 0)>>=fun oo=>match oo with | .inl rr=>(some rr) | .inr _=>(some true))
theorem f_r05_same.ok (a0:List TBucket) (a1:List TBucket) (r:Bool) (H:f_r05_same.f a0 a1=some r):Pv.Fn Tryz.prog 26 [.im (.row (a0.map eBucket)),.im (.row (a1.map eBucket))] [] 0 (fun x o=>x=bV r∧o=[]):=by
 unfold f_r05_same.f at H
 refine Fn.bodyK [] Tryz.func26 rfl rfl (fun Γ hP hn => ?_)
 have hm:Tryz.prog.follows .mixedOrders=true:=by kernel_rfl
 replace hn:Γ.n=26:=hn
 refine sr hP hn hm [] [] [0,1] [] [] [] (by kernel_rfl) trivial ?_
 refine AWp.seq ?_
 refine sr hP hn hm [(1,.any (iV .i64 (a0.length:Int))),(3,.any (iV .i64 (a1.length:Int)))] [(10,bV ((a0.length:Int) != (a1.length:Int)))] [0,1,10] [] [] [((a0.map eBucket).length:Int)=(a0.length:Int),((a1.map eBucket).length:Int)=(a1.length:Int)] (by kernel_rfl) ⟨by rw[len_map],by rw[len_map],trivial⟩ ?_
 refine AWp.cond ((a0.length:Int) != (a1.length:Int)) (by kernel_rfl) (fun c2487 => ?_) (fun c2487 => ?_)
 ·replace H:=iT c2487 H
  refine sr hP hn hm [] [(4,bV false)] [4] [] [] [] (by kernel_rfl) trivial ?_
  refine AWp.conv (inv:=[]) (vk:=[]) (e0:=[]) (t:=⟨[(4,bV false)],[],0⟩) (by kernel_rfl) ?_
  refine AWp.ret ?_
  obtain rfl:=Option.some.inj H
  exact rl (.inl rfl) rfl (by kernel_rfl) (by kernel_rfl)
 ·replace H:=iF c2487 H
  refine AWp.skip ?_
  refine AWp.seq ?_
  refine sr hP hn hm [] [(5,iV .i64 0)] [0,1,5] [] [] [] (by kernel_rfl) trivial ?_
  refine AWp.block ?_
  obtain⟨o2517,e2518,H⟩:=bind_of H
  refine AWp.loop (LWp.conv (inv:=[]) (vk:=[]) (e0:=[]) (t:=⟨[(0,.im (.row (a0.map eBucket))),(1,.im (.row (a1.map eBucket))),(5,iV .i64 0)],[],0⟩) (by kernel_rfl) ?_)
  refine LWp.mono (Q:=fun e s=>(match (generalizing:=false) o2517 with | .inl rr=>e = .ret∧s.floor=0∧resOf Tryz.prog Tryz.f26 s=some (bV rr)∧([]:List (Nat×Option MObj))=[] | .inr _=>e = .exit 0∧s=⟨[],[],0⟩)) (LWp.cv (withBody (fun body hbody => ?_))) ?_
  ·refine f_r05_same.l0.partial_correctness a0 a1 (motive:=fun x2502 o2517=>LWp Γ body (fun e s=>∃ t,Cv Γ s t∧(match (generalizing:=false) o2517 with | .inl rr=>e = .ret∧t.floor=0∧resOf Tryz.prog Tryz.f26 t=some (bV rr)∧([]:List (Nat×Option MObj))=[] | .inr _=>e = .exit 0∧t=⟨[],[],0⟩)) ⟨[(0,.im (.row (a0.map eBucket))),(1,.im (.row (a1.map eBucket))),(5,iV .i64 x2502)],[],0⟩) ?_ _ _ e2518
   clear H e2518 o2517;intro self ih x2502 o2517 H
   subst hbody
   refine LWp.round ?_
   refine AWp.seq ?_
   refine sr hP hn hm [(2,.any (iV .i64 (a0.length:Int)))] [(14,bV (decide (x2502<(a0.length:Int))))] [0,1,5,14] [] [] [((a0.map eBucket).length:Int)=(a0.length:Int)] (by kernel_rfl) ⟨by rw[len_map],trivial⟩ ?_
   refine AWp.cond (decide (x2502<(a0.length:Int))) (by kernel_rfl) (fun c2503 => ?_) (fun c2503 => ?_)
   ·replace H:=iT c2503 H
    refine AWp.skip ?_
    refine AWp.seq ?_
    refine AWp.block ?_
    obtain⟨b2510,p2511,q2512,H⟩:=at_of H
    obtain⟨b2513,p2514,q2515,H⟩:=at_of H
    refine sr hP hn hm [(2,.c (eBucket b2510)),(6,.c (eBucket b2513)),(8,.more (xAgg none))] [(25,bV (!((b2510.f0==b2513.f0)&&((b2510.f1==b2513.f1)&&true))))] [0,1,5,25] [] [] [_,_,_,_] (by kernel_rfl) ⟨p2511,el_map eBucket q2512,p2514,el_map eBucket q2515,trivial⟩ ?_
    refine AWp.cond (!((b2510.f0==b2513.f0)&&((b2510.f1==b2513.f1)&&true))) (by kernel_rfl) (fun c2516 => ?_) (fun c2516 => ?_)
    ·replace H:=iT c2516 H
     refine sr hP hn hm [] [(4,bV false)] [4] [] [] [] (by kernel_rfl) trivial ?_
     refine AWp.conv (inv:=[]) (vk:=[]) (e0:=[]) (t:=⟨[(4,bV false)],[],0⟩) (by kernel_rfl) ?_
     refine AWp.ret ?_
     obtain rfl:=Option.some.inj H
     exact rl rfl rfl (by kernel_rfl) (by kernel_rfl)
    ·replace H:=iF c2516 H
     refine AWp.skip ?_
     refine rg hP hn hm [] [(5,iV .i64 (i64.wrap (x2502+(1:Int))))] [0,1,5] [] [] [] (by kernel_rfl) trivial ?_
     exact LWp.conv [] [] [] (by kernel_rfl) (ih _ _ H)
   ·replace H:=iF c2503 H
    refine AWp.exit ?_
    obtain rfl:=Option.some.inj H
    exact lf [] [] [] (by kernel_rfl) ⟨rfl,rfl⟩
  ·rcases o2517 with rr | _
   ·skip
    rintro e s ⟨rfl,hfl,hres⟩
    obtain rfl:=Option.some.inj H
    exact Exists.intro _ (And.intro (fun _ _ h=>h) (And.intro (.inl rfl) (And.intro hfl hres)))
   ·skip
    rintro e s ⟨rfl,rfl⟩
    refine sr hP hn hm [] [(4,bV true)] [4] [] [] [] (by kernel_rfl) trivial ?_
    refine AWp.conv (inv:=[]) (vk:=[]) (e0:=[]) (t:=⟨[(4,bV true)],[],0⟩) (by kernel_rfl) ?_
    refine AWp.ret ?_
    obtain rfl:=Option.some.inj H
    exact rl (.inl rfl) rfl (by kernel_rfl) (by kernel_rfl)
def f_r05_Same.f (a0:THist) (a1:THist):Option (Bool):=((if(a0.f0==a1.f0)=true then(if(a0.f1==a1.f1)=true then(if(a0.f2==a1.f2)=true then(if(a0.f3==a1.f3)=true then(if(a0.f4==a1.f4)=true then(if(a0.f5==a1.f5)=true then((f_r05_same.f a0.f6 a1.f6)>>=fun t2530=>if t2530=true then((f_r05_same.f a0.f7 a1.f7)>>=fun t2533=>some t2533) else(some false)) else(some false)) else(some false)) else(some false)) else(some false)) else(some false)) else(some false)):Option (Bool))>>=fun x2535=>some x2535
theorem f_r05_Same.ok (a0:THist) (a1:THist) (r:Bool) (H:f_r05_Same.f a0 a1=some r):Pv.Fn Tryz.prog 12 [.agg (aHist a0),.agg (aHist a1)] [] 0 (fun x o=>x=bV r∧o=[]):=by
 unfold f_r05_Same.f at H
 refine Fn.bodyK [] Tryz.func12 rfl rfl (fun Γ hP hn => ?_)
 have hm:Tryz.prog.follows .mixedOrders=true:=by kernel_rfl
 replace hn:Γ.n=59:=hn
 refine sr hP hn hm [(0,.k 0),(1,.k 1)] [(2,.ptr 0 0 0),(3,.ptr 1 0 0)] [2,3] [(0,some (.box 32 (aHist a0))),(1,some (.box 32 (aHist a1)))] [0,1] [] (by kernel_rfl) trivial ?_
 refine AWp.seq ?_
 obtain⟨o2536,e2537,H⟩:=bind_of H
 refine AWp.mono (Q:=fun e s=>(match (generalizing:=false) o2536 with | x2535=>e = .normal∧s=⟨[(4,bV x2535)],[],0⟩)) (AWp.cv ?_) ?_
 ·replace H:=e2537;clear e2537
  rcases Bool.eq_false_or_eq_true (a0.f0==a1.f0) with c2524 | c2524
  ·replace H:=iT c2524 H
   rcases Bool.eq_false_or_eq_true (a0.f1==a1.f1) with c2525 | c2525
   ·replace H:=iT c2525 H
    rcases Bool.eq_false_or_eq_true (a0.f2==a1.f2) with c2526 | c2526
    ·replace H:=iT c2526 H
     rcases Bool.eq_false_or_eq_true (a0.f3==a1.f3) with c2527 | c2527
     ·replace H:=iT c2527 H
      rcases Bool.eq_false_or_eq_true (a0.f4==a1.f4) with c2528 | c2528
      ·replace H:=iT c2528 H
       rcases Bool.eq_false_or_eq_true (a0.f5==a1.f5) with c2529 | c2529
       ·replace H:=iT c2529 H
        obtain⟨t2530,e2531,H⟩:=bind_of H
        rcases Bool.eq_false_or_eq_true t2530 with c2532 | c2532
        ·replace H:=iT c2532 H
         obtain⟨t2533,e2534,H⟩:=bind_of H
         refine rg hP hn hm [(5,.b true),(12,.b true),(19,.b true),(26,.b true),(33,.b true),(40,.b true),(45,.call [] [] [] [] 0 (bV t2530) []),(47,.b true),(52,.call [] [] [] [] 0 (bV t2533) [])] [(4,bV t2533)] [4] [] [] [_,_,_,_,_,_,_,_,_,_,_] (by kernel_rfl) ⟨c2524,c2525,c2526,c2527,c2528,c2529,Tryz.call26,f_r05_same.ok a0.f6 a1.f6 t2530 e2531,c2532,Tryz.call26,f_r05_same.ok a0.f7 a1.f7 t2533 e2534,trivial⟩ ?_
         obtain rfl:=Option.some.inj H
         exact lf [] [] [] (by kernel_rfl) ⟨rfl,rfl⟩
        ·replace H:=iF c2532 H
         refine rg hP hn hm [(5,.b true),(12,.b true),(19,.b true),(26,.b true),(33,.b true),(40,.b true),(45,.call [] [] [] [] 0 (bV t2530) []),(47,.b false)] [(4,bV false)] [4] [] [] [_,_,_,_,_,_,_,_,_] (by kernel_rfl) ⟨c2524,c2525,c2526,c2527,c2528,c2529,Tryz.call26,f_r05_same.ok a0.f6 a1.f6 t2530 e2531,c2532,trivial⟩ ?_
         obtain rfl:=Option.some.inj H
         exact lf [] [] [] (by kernel_rfl) ⟨rfl,rfl⟩
       ·replace H:=iF c2529 H
        refine rg hP hn hm [(5,.b true),(12,.b true),(19,.b true),(26,.b true),(33,.b true),(40,.b false)] [(4,bV false)] [4] [] [] [_,_,_,_,_,_] (by kernel_rfl) ⟨c2524,c2525,c2526,c2527,c2528,c2529,trivial⟩ ?_
        obtain rfl:=Option.some.inj H
        exact lf [] [] [] (by kernel_rfl) ⟨rfl,rfl⟩
      ·replace H:=iF c2528 H
       refine rg hP hn hm [(5,.b true),(12,.b true),(19,.b true),(26,.b true),(33,.b false)] [(4,bV false)] [4] [] [] [_,_,_,_,_] (by kernel_rfl) ⟨c2524,c2525,c2526,c2527,c2528,trivial⟩ ?_
       obtain rfl:=Option.some.inj H
       exact lf [] [] [] (by kernel_rfl) ⟨rfl,rfl⟩
     ·replace H:=iF c2527 H
      refine rg hP hn hm [(5,.b true),(12,.b true),(19,.b true),(26,.b false)] [(4,bV false)] [4] [] [] [_,_,_,_] (by kernel_rfl) ⟨c2524,c2525,c2526,c2527,trivial⟩ ?_
      obtain rfl:=Option.some.inj H
      exact lf [] [] [] (by kernel_rfl) ⟨rfl,rfl⟩
    ·replace H:=iF c2526 H
     refine rg hP hn hm [(5,.b true),(12,.b true),(19,.b false)] [(4,bV false)] [4] [] [] [_,_,_] (by kernel_rfl) ⟨c2524,c2525,c2526,trivial⟩ ?_
     obtain rfl:=Option.some.inj H
     exact lf [] [] [] (by kernel_rfl) ⟨rfl,rfl⟩
   ·replace H:=iF c2525 H
    refine rg hP hn hm [(5,.b true),(12,.b false)] [(4,bV false)] [4] [] [] [_,_] (by kernel_rfl) ⟨c2524,c2525,trivial⟩ ?_
    obtain rfl:=Option.some.inj H
    exact lf [] [] [] (by kernel_rfl) ⟨rfl,rfl⟩
  ·replace H:=iF c2524 H
   refine rg hP hn hm [(5,.b false)] [(4,bV false)] [4] [] [] [_] (by kernel_rfl) ⟨c2524,trivial⟩ ?_
   obtain rfl:=Option.some.inj H
   exact lf [] [] [] (by kernel_rfl) ⟨rfl,rfl⟩
 ·obtain⟨x2535,rfl⟩:∃ z,z=o2536:=⟨_,rfl⟩
  rintro e s ⟨rfl,rfl⟩
  refine AWp.conv (inv:=[]) (vk:=[]) (e0:=[]) (t:=⟨[(4,bV x2535)],[],0⟩) (by kernel_rfl) ?_
  refine AWp.ret ?_
  obtain rfl:=Option.some.inj H
  exact rl (.inl rfl) rfl (by kernel_rfl) (by kernel_rfl)
def f_l09_Same.l0 (a0:List TSample) (a1:List TSample) (x2551:Int):Option (Bool ⊕ Unit):=if(decide (x2551<(a0.length:Int)))=true then((((at? a0 x2551)>>=fun b2562=>(at? a1 x2551)>>=fun b2565=>if(b2562.f0 != b2565.f0)=true then(some true) else((f_r05_Same.f b2562.f1 b2565.f1)>>=fun t2569=>some (!t2569))):Option (Bool))>>=fun x2571=>if x2571=true then(some (.inl false)) else(f_l09_Same.l0 a0 a1 (i64.wrap (x2551+(1:Int))))) else(some (.inr ()))
partial_fixpoint
def f_l09_Same.f (a0:List TSample) (a1:List TSample):Option (Bool):=if((a0.length:Int) != (a1.length:Int))=true then(some false) else((f_l09_Same.l0 a0 a1 0)>>=fun oo=>match oo with | .inl rr=>(some rr) | .inr _=>(some true))
theorem f_l09_Same.ok (a0:List TSample) (a1:List TSample) (r:Bool) (H:f_l09_Same.f a0 a1=some r):Pv.Fn Tryz.prog 6 [.im (.row (a0.map eSample)),.im (.row (a1.map eSample))] [] 0 (fun x o=>x=bV r∧o=[]):=by
 unfold f_l09_Same.f at H
 refine Fn.bodyK [] Tryz.func6 rfl rfl (fun Γ hP hn => ?_)
 have hm:Tryz.prog.follows .mixedOrders=true:=by kernel_rfl
 replace hn:Γ.n=42:=hn
 refine sr hP hn hm [] [] [0,1] [] [] [] (by kernel_rfl) trivial ?_
 refine AWp.seq ?_
 refine sr hP hn hm [(1,.any (iV .i64 (a0.length:Int))),(3,.any (iV .i64 (a1.length:Int)))] [(10,bV ((a0.length:Int) != (a1.length:Int)))] [0,1,10] [] [] [((a0.map eSample).length:Int)=(a0.length:Int),((a1.map eSample).length:Int)=(a1.length:Int)] (by kernel_rfl) ⟨by rw[len_map],by rw[len_map],trivial⟩ ?_
 refine AWp.cond ((a0.length:Int) != (a1.length:Int)) (by kernel_rfl) (fun c2472 => ?_) (fun c2472 => ?_)
 ·replace H:=iT c2472 H
  refine sr hP hn hm [] [(4,bV false)] [4] [] [] [] (by kernel_rfl) trivial ?_
  refine AWp.conv (inv:=[]) (vk:=[]) (e0:=[]) (t:=⟨[(4,bV false)],[],0⟩) (by kernel_rfl) ?_
  refine AWp.ret ?_
  obtain rfl:=Option.some.inj H
  exact rl (.inl rfl) rfl (by kernel_rfl) (by kernel_rfl)
 ·replace H:=iF c2472 H
  refine AWp.skip ?_
  refine AWp.seq ?_
  refine sr hP hn hm [(1,.any (iV .i64 (a0.length:Int)))] [(12,iV .i64 (a0.length:Int)),(13,iV .i64 0)] [0,1,12,13] [] [] [((a0.map eSample).length:Int)=(a0.length:Int)] (by kernel_rfl) ⟨by rw[len_map],trivial⟩ ?_
  refine AWp.block ?_
  obtain⟨o2573,e2574,H⟩:=bind_of H
  refine AWp.loop (LWp.conv (inv:=[]) (vk:=[]) (e0:=[]) (t:=⟨[(0,.im (.row (a0.map eSample))),(1,.im (.row (a1.map eSample))),(12,iV .i64 (a0.length:Int)),(13,iV .i64 0)],[],0⟩) (by kernel_rfl) ?_)
  refine LWp.mono (Q:=fun e s=>(match (generalizing:=false) o2573 with | .inl rr=>e = .ret∧s.floor=0∧resOf Tryz.prog Tryz.f6 s=some (bV rr)∧([]:List (Nat×Option MObj))=[] | .inr _=>e = .exit 0∧s=⟨[],[],0⟩)) (LWp.cv (withBody (fun body hbody => ?_))) ?_
  ·refine f_l09_Same.l0.partial_correctness a0 a1 (motive:=fun x2551 o2573=>LWp Γ body (fun e s=>∃ t,Cv Γ s t∧(match (generalizing:=false) o2573 with | .inl rr=>e = .ret∧t.floor=0∧resOf Tryz.prog Tryz.f6 t=some (bV rr)∧([]:List (Nat×Option MObj))=[] | .inr _=>e = .exit 0∧t=⟨[],[],0⟩)) ⟨[(0,.im (.row (a0.map eSample))),(1,.im (.row (a1.map eSample))),(12,iV .i64 (a0.length:Int)),(13,iV .i64 x2551)],[],0⟩) ?_ _ _ e2574
   clear H e2574 o2573;intro self ih x2551 o2573 H
   subst hbody
   refine LWp.round ?_
   refine sr hP hn hm [] [(14,bV (decide (x2551<(a0.length:Int))))] [0,1,12,13,14] [] [] [] (by kernel_rfl) trivial ?_
   refine AWp.seq ?_
   refine AWp.cond (decide (x2551<(a0.length:Int))) (by kernel_rfl) (fun c2552 => ?_) (fun c2552 => ?_)
   ·replace H:=iT c2552 H
    refine AWp.skip ?_
    refine AWp.seq ?_
    refine AWp.block ?_
    refine sr hP hn hm [] [(5,iV .i64 x2551)] [0,1,5,12,13] [] [] [] (by kernel_rfl) trivial ?_
    refine AWp.seq ?_
    obtain⟨o2575,e2576,H⟩:=bind_of H
    refine AWp.mono (Q:=fun e s=>(match (generalizing:=false) o2575 with | x2571=>e = .normal∧s=⟨[(0,.im (.row (a0.map eSample))),(1,.im (.row (a1.map eSample))),(12,iV .i64 (a0.length:Int)),(13,iV .i64 x2551),(40,bV x2571)],[],0⟩)) (AWp.cv ?_) ?_
    ·replace H:=e2576;clear e2576
     obtain⟨b2562,p2563,q2564,H⟩:=at_of H
     obtain⟨b2565,p2566,q2567,H⟩:=at_of H
     rcases Bool.eq_false_or_eq_true (b2562.f0 != b2565.f0) with c2568 | c2568
     ·replace H:=iT c2568 H
      refine rg hP hn hm [(2,.c (eSample b2562)),(7,.c (eSample b2565)),(11,.b true)] [(40,bV true)] [0,1,12,13,40] [] [] [_,_,_,_,_] (by kernel_rfl) ⟨p2563,el_map eSample q2564,p2566,el_map eSample q2567,c2568,trivial⟩ ?_
      obtain rfl:=Option.some.inj H
      exact lf [] [] [] (by kernel_rfl) ⟨rfl,rfl⟩
     ·replace H:=iF c2568 H
      obtain⟨t2569,e2570,H⟩:=bind_of H
      refine rg hP hn hm [(2,.c (eSample b2562)),(7,.c (eSample b2565)),(11,.b false),(14,.c (eSample b2562)),(19,.c (eSample b2565)),(22,.call [] [] [] [] 0 (bV t2569) [])] [(28,.im (.row (a0.map eSample))),(29,iV .i64 x2551),(30,.ip [iI .i64 b2562.f0,iI .i64 b2562.f1.f0,iI .i64 b2562.f1.f1,iI .i64 b2562.f1.f2,iI .u64 b2562.f1.f3,iI .u64 b2562.f1.f4,iI .i64 b2562.f1.f5,.row (b2562.f1.f6.map eBucket),.row (b2562.f1.f7.map eBucket)]),(31,.ip [iI .i64 b2562.f1.f0,iI .i64 b2562.f1.f1,iI .i64 b2562.f1.f2,iI .u64 b2562.f1.f3,iI .u64 b2562.f1.f4,iI .i64 b2562.f1.f5,.row (b2562.f1.f6.map eBucket),.row (b2562.f1.f7.map eBucket)]),(32,.agg (aHist b2562.f1)),(33,.im (.row (a1.map eSample))),(34,iV .i64 x2551),(35,.ip [iI .i64 b2565.f0,iI .i64 b2565.f1.f0,iI .i64 b2565.f1.f1,iI .i64 b2565.f1.f2,iI .u64 b2565.f1.f3,iI .u64 b2565.f1.f4,iI .i64 b2565.f1.f5,.row (b2565.f1.f6.map eBucket),.row (b2565.f1.f7.map eBucket)]),(36,.ip [iI .i64 b2565.f1.f0,iI .i64 b2565.f1.f1,iI .i64 b2565.f1.f2,iI .u64 b2565.f1.f3,iI .u64 b2565.f1.f4,iI .i64 b2565.f1.f5,.row (b2565.f1.f6.map eBucket),.row (b2565.f1.f7.map eBucket)]),(37,.agg (aHist b2565.f1)),(38,bV t2569),(39,bV (!t2569)),(40,bV (!t2569))] [0,1,12,13,28,29,30,31,32,33,34,35,36,37,38,39,40] [] [] [_,_,_,_,_,_,_,_,_,_,_] (by kernel_rfl) ⟨p2563,el_map eSample q2564,p2566,el_map eSample q2567,c2568,p2563,el_map eSample q2564,p2566,el_map eSample q2567,Tryz.call12,f_r05_Same.ok b2562.f1 b2565.f1 t2569 e2570,trivial⟩ ?_
      obtain rfl:=Option.some.inj H
      exact lf [] [] [] (by kernel_rfl) ⟨rfl,rfl⟩
    ·obtain⟨x2571,rfl⟩:∃ z,z=o2575:=⟨_,rfl⟩
     rintro e s ⟨rfl,rfl⟩
     refine AWp.cond x2571 (by kernel_rfl) (fun c2572 => ?_) (fun c2572 => ?_)
     ·replace H:=iT c2572 H
      refine sr hP hn hm [] [(4,bV false)] [4] [] [] [] (by kernel_rfl) trivial ?_
      refine AWp.conv (inv:=[]) (vk:=[]) (e0:=[]) (t:=⟨[(4,bV false)],[],0⟩) (by kernel_rfl) ?_
      refine AWp.ret ?_
      obtain rfl:=Option.some.inj H
      exact rl rfl rfl (by kernel_rfl) (by kernel_rfl)
     ·replace H:=iF c2572 H
      refine AWp.skip ?_
      refine rg hP hn hm [] [(13,iV .i64 (i64.wrap (x2551+(1:Int))))] [0,1,12,13] [] [] [] (by kernel_rfl) trivial ?_
      exact LWp.conv [] [] [] (by kernel_rfl) (ih _ _ H)
   ·replace H:=iF c2552 H
    refine AWp.exit ?_
    obtain rfl:=Option.some.inj H
    exact lf [] [] [] (by kernel_rfl) ⟨rfl,rfl⟩
  ·rcases o2573 with rr | _
   ·skip
    rintro e s ⟨rfl,hfl,hres⟩
    obtain rfl:=Option.some.inj H
    exact Exists.intro _ (And.intro (fun _ _ h=>h) (And.intro (.inl rfl) (And.intro hfl hres)))
   ·skip
    rintro e s ⟨rfl,rfl⟩
    refine sr hP hn hm [] [(4,bV true)] [4] [] [] [] (by kernel_rfl) trivial ?_
    refine AWp.conv (inv:=[]) (vk:=[]) (e0:=[]) (t:=⟨[(4,bV true)],[],0⟩) (by kernel_rfl) ?_
    refine AWp.ret ?_
    obtain rfl:=Option.some.inj H
    exact rl (.inl rfl) rfl (by kernel_rfl) (by kernel_rfl)
def f_l19_To.f (a0:Tr19_Ask):Option (Teval_Ask):=some (⟨a0.f0,a0.f1,a0.f2,(⟨a0.f3,a0.f4⟩:Trank_Place),a0.f5,a0.f6⟩:Teval_Ask)
theorem f_l19_To.ok (a0:Tr19_Ask) (r:Teval_Ask) (H:f_l19_To.f a0=some r):Pv.Fn Tryz.prog 10 [.agg (ar19_Ask a0)] [] 0 (fun x o=>x = .agg (ar19_Ask ⟨((r).f0),((r).f1),((r).f2),(((r).f3).f0),(((r).f3).f1),((r).f4),((r).f5)⟩)∧o=[]):=by
 unfold f_l19_To.f at H
 refine Fn.bodyK [] Tryz.func10 rfl rfl (fun Γ hP hn => ?_)
 have hm:Tryz.prog.follows .mixedOrders=true:=by kernel_rfl
 replace hn:Γ.n=19:=hn
 refine sr hP hn hm [(0,.k 0),(1,.k 1)] [(1,.ptr 0 0 0),(2,.ptr 1 0 0)] [1,2] [(0,some (.box 24 (ar19_Ask a0))),(1,some (.box 39 [iV .i64 0,iV .u64 0,iV .u64 0,iV .i64 0,iV .i64 0,iV .i64 0,iV .i64 0]))] [0,1] [] (by kernel_rfl) trivial ?_
 refine sr hP hn hm [] [] [2] [(1,some (.box 39 [iV .i64 a0.f0,iV .u64 a0.f1,iV .u64 a0.f2,iV .i64 a0.f3,iV .i64 a0.f4,iV .i64 a0.f5,iV .i64 a0.f6]))] [1] [] (by kernel_rfl) trivial ?_
 refine AWp.conv (inv:=[(1,0)]) (vk:=[]) (e0:=[]) (t:=⟨[(2,.ptr 0 0 0)],[(0,some (.box 39 [iV .i64 (((⟨a0.f0,a0.f1,a0.f2,(⟨a0.f3,a0.f4⟩:Trank_Place),a0.f5,a0.f6⟩:Teval_Ask)).f0),iV .u64 (((⟨a0.f0,a0.f1,a0.f2,(⟨a0.f3,a0.f4⟩:Trank_Place),a0.f5,a0.f6⟩:Teval_Ask)).f1),iV .u64 (((⟨a0.f0,a0.f1,a0.f2,(⟨a0.f3,a0.f4⟩:Trank_Place),a0.f5,a0.f6⟩:Teval_Ask)).f2),iV .i64 ((((⟨a0.f0,a0.f1,a0.f2,(⟨a0.f3,a0.f4⟩:Trank_Place),a0.f5,a0.f6⟩:Teval_Ask)).f3).f0),iV .i64 ((((⟨a0.f0,a0.f1,a0.f2,(⟨a0.f3,a0.f4⟩:Trank_Place),a0.f5,a0.f6⟩:Teval_Ask)).f3).f1),iV .i64 (((⟨a0.f0,a0.f1,a0.f2,(⟨a0.f3,a0.f4⟩:Trank_Place),a0.f5,a0.f6⟩:Teval_Ask)).f4),iV .i64 (((⟨a0.f0,a0.f1,a0.f2,(⟨a0.f3,a0.f4⟩:Trank_Place),a0.f5,a0.f6⟩:Teval_Ask)).f5)]))],0⟩) (by kernel_rfl) ?_
 refine AWp.ret ?_
 obtain rfl:=Option.some.inj H
 exact rl (.inl rfl) rfl (by kernel_rfl) (by kernel_rfl)
def f_r01_AddInt.l0 (a0:List Int) (x2667:Int) (x2668:Int) (x2669:Int):Option (Int×Int):=if(decide (x2669<(a0.length:Int)))=true then((at? a0 x2669)>>=fun b2674=>((if(decide ((Int.tmod b2674 (4294967296:Int))<(0:Int)))=true then(some (i64.wrap ((i64.wrap (Int.tdiv b2674 (4294967296:Int)))-(1:Int)),i64.wrap ((Int.tmod b2674 (4294967296:Int))+(4294967296:Int)))) else(some (i64.wrap (Int.tdiv b2674 (4294967296:Int)),Int.tmod b2674 (4294967296:Int)))):Option (Int×Int))>>=fun oo=>match oo with | (x2678,x2679)=>(f_r01_AddInt.l0 a0 (i64.wrap (x2667+x2678)) (i64.wrap (x2668+x2679)) (i64.wrap (x2669+(1:Int))))) else(some (x2667,x2668))
partial_fixpoint
def f_r01_AddInt.f (a0:List Int):Option (Int×Int):=(f_r01_AddInt.l0 a0 0 0 0)>>=fun oo=>match oo with | (x2680,x2681)=>(((if(decide ((i64.wrap (x2680+(i64.wrap (Int.tdiv x2681 (4294967296:Int)))))>(2147483647:Int)))=true then(some true) else(some (decide ((i64.wrap (x2680+(i64.wrap (Int.tdiv x2681 (4294967296:Int)))))<(-2147483648))))):Option (Bool))>>=fun x2684=>if x2684=true then(some (0,5)) else(some (i64.wrap ((i64.wrap ((i64.wrap (x2680+(i64.wrap (Int.tdiv x2681 (4294967296:Int)))))*(4294967296:Int)))+(Int.tmod x2681 (4294967296:Int))),0)))
theorem f_r01_AddInt.ok (a0:List Int) (r:Int×Int) (H:f_r01_AddInt.f a0=some r):Pv.Fn Tryz.prog 64 [.im (.row (a0.map (encInt .i64)))] [] 0 (fun x o=>x = .tup [iV .i64 r.1,iV .i64 r.2]∧o=[]):=by
 unfold f_r01_AddInt.f at H
 refine Fn.bodyK [] Tryz.func64 rfl rfl (fun Γ hP hn => ?_)
 have hm:Tryz.prog.follows .mixedOrders=true:=by kernel_rfl
 replace hn:Γ.n=53:=hn
 refine sr hP hn hm [] [] [0] [] [] [] (by kernel_rfl) trivial ?_
 refine sr hP hn hm [] [(4,iV .i64 0),(5,iV .i64 0)] [0,4,5] [] [] [] (by kernel_rfl) trivial ?_
 refine AWp.seq ?_
 refine sr hP hn hm [] [(6,iV .i64 0)] [0,4,5,6] [] [] [] (by kernel_rfl) trivial ?_
 refine AWp.block ?_
 obtain⟨o2686,e2687,H⟩:=bind_of H
 refine AWp.loop (LWp.conv (inv:=[]) (vk:=[]) (e0:=[]) (t:=⟨[(0,.im (.row (a0.map (encInt .i64)))),(4,iV .i64 0),(5,iV .i64 0),(6,iV .i64 0)],[],0⟩) (by kernel_rfl) ?_)
 refine LWp.mono (Q:=fun e s=>(match (generalizing:=false) o2686 with | (x2680,x2681)=>e = .exit 0∧s=⟨[(4,iV .i64 x2680),(5,iV .i64 x2681)],[],0⟩)) (LWp.cv (withBody (fun body hbody => ?_))) ?_
 ·refine f_r01_AddInt.l0.partial_correctness a0 (motive:=fun x2667 x2668 x2669 o2686=>LWp Γ body (fun e s=>∃ t,Cv Γ s t∧(match (generalizing:=false) o2686 with | (x2680,x2681)=>e = .exit 0∧t=⟨[(4,iV .i64 x2680),(5,iV .i64 x2681)],[],0⟩)) ⟨[(0,.im (.row (a0.map (encInt .i64)))),(4,iV .i64 x2667),(5,iV .i64 x2668),(6,iV .i64 x2669)],[],0⟩) ?_ _ _ _ _ e2687
  clear H e2687 o2686;intro self ih x2667 x2668 x2669 o2686 H
  subst hbody
  refine LWp.round ?_
  refine AWp.seq ?_
  refine sr hP hn hm [(2,.any (iV .i64 (a0.length:Int)))] [(12,bV (decide (x2669<(a0.length:Int))))] [0,4,5,6,12] [] [] [((a0.map (encInt .i64)).length:Int)=(a0.length:Int)] (by kernel_rfl) ⟨by rw[len_map],trivial⟩ ?_
  refine AWp.cond (decide (x2669<(a0.length:Int))) (by kernel_rfl) (fun c2670 => ?_) (fun c2670 => ?_)
  ·replace H:=iT c2670 H
   refine AWp.skip ?_
   refine AWp.seq ?_
   refine AWp.block ?_
   obtain⟨b2674,p2675,q2676,H⟩:=at_of H
   refine sr hP hn hm [(2,.c ((encInt .i64) b2674))] [(7,iV .i64 (i64.wrap (Int.tdiv b2674 (4294967296:Int))))] [0,4,5,6,7] [] [] [_,_,(4294967296:Int)≠0] (by kernel_rfl) ⟨p2675,el_map (encInt .i64) q2676,by decide,trivial⟩ ?_
   refine sr hP hn hm [(2,.c ((encInt .i64) b2674))] [(8,iV .i64 (Int.tmod b2674 (4294967296:Int)))] [0,4,5,6,7,8] [] [] [_,_,(4294967296:Int)≠0] (by kernel_rfl) ⟨p2675,el_map (encInt .i64) q2676,by decide,trivial⟩ ?_
   refine AWp.seq ?_
   refine sr hP hn hm [] [(26,bV (decide ((Int.tmod b2674 (4294967296:Int))<(0:Int))))] [0,4,5,6,7,8,26] [] [] [] (by kernel_rfl) trivial ?_
   obtain⟨o2688,e2689,H⟩:=bind_of H
   refine AWp.mono (Q:=fun e s=>(match (generalizing:=false) o2688 with | (x2678,x2679)=>e = .normal∧s=⟨[(0,.im (.row (a0.map (encInt .i64)))),(4,iV .i64 x2667),(5,iV .i64 x2668),(6,iV .i64 x2669),(7,iV .i64 x2678),(8,iV .i64 x2679)],[],0⟩)) (AWp.cv ?_) ?_
   ·replace H:=e2689;clear e2689
    refine AWp.cond (decide ((Int.tmod b2674 (4294967296:Int))<(0:Int))) (by kernel_rfl) (fun c2677 => ?_) (fun c2677 => ?_)
    ·replace H:=iT c2677 H
     refine sr hP hn hm [] [(8,iV .i64 (i64.wrap ((Int.tmod b2674 (4294967296:Int))+(4294967296:Int))))] [0,4,5,6,7,8] [] [] [] (by kernel_rfl) trivial ?_
     refine rg hP hn hm [] [(7,iV .i64 (i64.wrap ((i64.wrap (Int.tdiv b2674 (4294967296:Int)))-(1:Int))))] [0,4,5,6,7,8] [] [] [] (by kernel_rfl) trivial ?_
     obtain rfl:=Option.some.inj H
     exact lf [] [] [] (by kernel_rfl) ⟨rfl,rfl⟩
    ·replace H:=iF c2677 H
     refine AWp.skip ?_
     obtain rfl:=Option.some.inj H
     exact lf [] [] [] (by kernel_rfl) ⟨rfl,rfl⟩
   ·obtain⟨x2678,x2679⟩:=o2688
    rintro e s ⟨rfl,rfl⟩
    refine sr hP hn hm [] [(4,iV .i64 (i64.wrap (x2667+x2678)))] [0,4,5,6,8] [] [] [] (by kernel_rfl) trivial ?_
    refine rg hP hn hm [] [(5,iV .i64 (i64.wrap (x2668+x2679)))] [0,4,5,6] [] [] [] (by kernel_rfl) trivial ?_
    refine rg hP hn hm [] [(6,iV .i64 (i64.wrap (x2669+(1:Int))))] [0,4,5,6] [] [] [] (by kernel_rfl) trivial ?_
    exact LWp.conv [] [] [] (by kernel_rfl) (ih _ _ _ _ H)
  ·replace H:=iF c2670 H
   refine AWp.exit ?_
   obtain rfl:=Option.some.inj H
   exact lf [] [] [] (by kernel_rfl) ⟨rfl,rfl⟩
 ·obtain⟨x2680,x2681⟩:=o2686
  rintro e s ⟨rfl,rfl⟩
  refine sr hP hn hm [] [(4,iV .i64 (i64.wrap (x2680+(i64.wrap (Int.tdiv x2681 (4294967296:Int))))))] [4,5] [] [] [(4294967296:Int)≠0] (by kernel_rfl) ⟨by decide,trivial⟩ ?_
  refine sr hP hn hm [] [(5,iV .i64 (Int.tmod x2681 (4294967296:Int)))] [4,5] [] [] [(4294967296:Int)≠0] (by kernel_rfl) ⟨by decide,trivial⟩ ?_
  refine AWp.seq ?_
  refine AWp.seq ?_
  obtain⟨o2690,e2691,H⟩:=bind_of H
  refine AWp.mono (Q:=fun e s=>(match (generalizing:=false) o2690 with | x2684=>e = .normal∧s=⟨[(4,iV .i64 (i64.wrap (x2680+(i64.wrap (Int.tdiv x2681 (4294967296:Int)))))),(5,iV .i64 (Int.tmod x2681 (4294967296:Int))),(48,bV x2684)],[],0⟩)) (AWp.cv ?_) ?_
  ·replace H:=e2691;clear e2691
   rcases Bool.eq_false_or_eq_true (decide ((i64.wrap (x2680+(i64.wrap (Int.tdiv x2681 (4294967296:Int)))))>(2147483647:Int))) with c2683 | c2683
   ·replace H:=iT c2683 H
    refine rg hP hn hm [(2,.b true)] [(48,bV true)] [4,5,48] [] [] [_] (by kernel_rfl) ⟨c2683,trivial⟩ ?_
    obtain rfl:=Option.some.inj H
    exact lf [] [] [] (by kernel_rfl) ⟨rfl,rfl⟩
   ·replace H:=iF c2683 H
    refine rg hP hn hm [(2,.b false)] [(48,bV (decide ((i64.wrap (x2680+(i64.wrap (Int.tdiv x2681 (4294967296:Int)))))<(-2147483648))))] [4,5,48] [] [] [_] (by kernel_rfl) ⟨c2683,trivial⟩ ?_
    obtain rfl:=Option.some.inj H
    exact lf [] [] [] (by kernel_rfl) ⟨rfl,rfl⟩
  ·obtain⟨x2684,rfl⟩:∃ z,z=o2690:=⟨_,rfl⟩
   rintro e s ⟨rfl,rfl⟩
   refine AWp.cond x2684 (by kernel_rfl) (fun c2685 => ?_) (fun c2685 => ?_)
   ·replace H:=iT c2685 H
    refine sr hP hn hm [] [(2,iV .i64 0),(3,iV .i64 5)] [2,3] [] [] [] (by kernel_rfl) trivial ?_
    refine AWp.conv (inv:=[]) (vk:=[]) (e0:=[]) (t:=⟨[(2,iV .i64 0),(3,iV .i64 5)],[],0⟩) (by kernel_rfl) ?_
    refine AWp.ret ?_
    obtain rfl:=Option.some.inj H
    exact rl (.inl rfl) rfl (by kernel_rfl) (by kernel_rfl)
   ·replace H:=iF c2685 H
    refine AWp.skip ?_
    refine sr hP hn hm [] [(2,iV .i64 (i64.wrap ((i64.wrap ((i64.wrap (x2680+(i64.wrap (Int.tdiv x2681 (4294967296:Int)))))*(4294967296:Int)))+(Int.tmod x2681 (4294967296:Int))))),(3,iV .i64 0)] [2,3] [] [] [] (by kernel_rfl) trivial ?_
    refine AWp.conv (inv:=[]) (vk:=[]) (e0:=[]) (t:=⟨[(2,iV .i64 (i64.wrap ((i64.wrap ((i64.wrap (x2680+(i64.wrap (Int.tdiv x2681 (4294967296:Int)))))*(4294967296:Int)))+(Int.tmod x2681 (4294967296:Int))))),(3,iV .i64 0)],[],0⟩) (by kernel_rfl) ?_
    refine AWp.ret ?_
    obtain rfl:=Option.some.inj H
    exact rl (.inl rfl) rfl (by kernel_rfl) (by kernel_rfl)
def f_r04_Of.l0 (a0:Int) (a1:Int) (x2751:Int):Option (Int):=(f_r04_Units.f a0 x2751)>>=fun t2754=>if(decide (t2754<a1))=true then(f_r04_Of.l0 a0 a1 (i64.wrap (x2751+(1:Int)))) else(some x2751)
partial_fixpoint
def f_r04_Of.l1 (a0:Int) (a1:Int) (x2763:Int):Option (Int):=(f_r04_Units.f a0 (i64.wrap (x2763-(1:Int))))>>=fun t2766=>if(decide (t2766≥a1))=true then(f_r04_Of.l1 a0 a1 (i64.wrap (x2763-(1:Int)))) else(some x2763)
partial_fixpoint
def f_r04_Of.f (a0:Int) (a1:Int):Option (Int×Bool):=(((f_r04_Right.f a0)>>=fun t2734=>if(!t2734)=true then(some true) else(if(decide (a1≤(-262144)))=true then(some true) else(some (decide (a1>(262144:Int)))))):Option (Bool))>>=fun x2738=>if x2738=true then(some (0,false)) else((f_r04_step.f a0)>>=fun t2743=>(chk (t2743≠0))>>=fun _=>(f_r04_Of.l0 a0 a1 (i64.wrap (Int.tdiv a1 t2743)))>>=fun x2757=>(f_r04_Of.l1 a0 a1 x2757)>>=fun x2769=>some (x2769,true))
theorem f_r04_Of.ok (a0:Int) (a1:Int) (r:Int×Bool) (H:f_r04_Of.f a0 a1=some r):Pv.Fn Tryz.prog 108 [iV .i64 a0,iV .i64 a1] [] 0 (fun x o=>x = .tup [iV .i64 r.1,bV r.2]∧o=[]):=by
 unfold f_r04_Of.f at H
 refine Fn.bodyK [] Tryz.func108 rfl rfl (fun Γ hP hn => ?_)
 have hm:Tryz.prog.follows .mixedOrders=true:=by kernel_rfl
 replace hn:Γ.n=38:=hn
 refine sr hP hn hm [] [] [0,1] [] [] [] (by kernel_rfl) trivial ?_
 refine AWp.seq ?_
 refine AWp.seq ?_
 obtain⟨o2770,e2771,H⟩:=bind_of H
 refine AWp.mono (Q:=fun e s=>(match (generalizing:=false) o2770 with | x2738=>e = .normal∧s=⟨[(0,iV .i64 a0),(1,iV .i64 a1),(17,bV x2738)],[],0⟩)) (AWp.cv ?_) ?_
 ·replace H:=e2771;clear e2771
  obtain⟨t2734,e2735,H⟩:=bind_of H
  rcases Bool.eq_false_or_eq_true (!t2734) with c2736 | c2736
  ·replace H:=iT c2736 H
   refine rg hP hn hm [(1,.call [] [] [] [] 0 (bV t2734) []),(3,.b true)] [(17,bV true)] [0,1,17] [] [] [_,_,_] (by kernel_rfl) ⟨Tryz.call53,f_r04_Right.ok a0 t2734 e2735,c2736,trivial⟩ ?_
   obtain rfl:=Option.some.inj H
   exact lf [] [] [] (by kernel_rfl) ⟨rfl,rfl⟩
  ·replace H:=iF c2736 H
   rcases Bool.eq_false_or_eq_true (decide (a1≤(-262144))) with c2737 | c2737
   ·replace H:=iT c2737 H
    refine rg hP hn hm [(1,.call [] [] [] [] 0 (bV t2734) []),(3,.b false),(7,.b true)] [(17,bV true)] [0,1,17] [] [] [_,_,_,_] (by kernel_rfl) ⟨Tryz.call53,f_r04_Right.ok a0 t2734 e2735,c2736,c2737,trivial⟩ ?_
    obtain rfl:=Option.some.inj H
    exact lf [] [] [] (by kernel_rfl) ⟨rfl,rfl⟩
   ·replace H:=iF c2737 H
    refine rg hP hn hm [(1,.call [] [] [] [] 0 (bV t2734) []),(3,.b false),(7,.b false)] [(17,bV (decide (a1>(262144:Int))))] [0,1,17] [] [] [_,_,_,_] (by kernel_rfl) ⟨Tryz.call53,f_r04_Right.ok a0 t2734 e2735,c2736,c2737,trivial⟩ ?_
    obtain rfl:=Option.some.inj H
    exact lf [] [] [] (by kernel_rfl) ⟨rfl,rfl⟩
 ·obtain⟨x2738,rfl⟩:∃ z,z=o2770:=⟨_,rfl⟩
  rintro e s ⟨rfl,rfl⟩
  refine AWp.cond x2738 (by kernel_rfl) (fun c2739 => ?_) (fun c2739 => ?_)
  ·replace H:=iT c2739 H
   refine sr hP hn hm [] [(4,iV .i64 0),(5,bV false)] [4,5] [] [] [] (by kernel_rfl) trivial ?_
   refine AWp.conv (inv:=[]) (vk:=[]) (e0:=[]) (t:=⟨[(4,iV .i64 0),(5,bV false)],[],0⟩) (by kernel_rfl) ?_
   refine AWp.ret ?_
   obtain rfl:=Option.some.inj H
   exact rl (.inl rfl) rfl (by kernel_rfl) (by kernel_rfl)
  ·replace H:=iF c2739 H
   refine AWp.skip ?_
   obtain⟨t2743,e2744,H⟩:=bind_of H
   obtain⟨c2745,H⟩:=chk_of H
   refine sr hP hn hm [(2,.call [] [] [] [] 0 (iV .i64 t2743) [])] [(6,iV .i64 (i64.wrap (Int.tdiv a1 t2743)))] [0,1,6] [] [] [_,_,_] (by kernel_rfl) ⟨Tryz.call72,f_r04_step.ok a0 t2743 e2744,c2745,trivial⟩ ?_
   refine AWp.seq ?_
   refine AWp.block ?_
   obtain⟨o2772,e2773,H⟩:=bind_of H
   refine AWp.loop (LWp.conv (inv:=[]) (vk:=[]) (e0:=[]) (t:=⟨[(0,iV .i64 a0),(1,iV .i64 a1),(6,iV .i64 (i64.wrap (Int.tdiv a1 t2743)))],[],0⟩) (by kernel_rfl) ?_)
   refine LWp.mono (Q:=fun e s=>(match (generalizing:=false) o2772 with | x2757=>e = .exit 0∧s=⟨[(0,iV .i64 a0),(1,iV .i64 a1),(6,iV .i64 x2757)],[],0⟩)) (LWp.cv (withBody (fun body hbody => ?_))) ?_
   ·refine f_r04_Of.l0.partial_correctness a0 a1 (motive:=fun x2751 o2772=>LWp Γ body (fun e s=>∃ t,Cv Γ s t∧(match (generalizing:=false) o2772 with | x2757=>e = .exit 0∧t=⟨[(0,iV .i64 a0),(1,iV .i64 a1),(6,iV .i64 x2757)],[],0⟩)) ⟨[(0,iV .i64 a0),(1,iV .i64 a1),(6,iV .i64 x2751)],[],0⟩) ?_ _ _ e2773
    clear H e2773 o2772;intro self ih x2751 o2772 H
    subst hbody
    refine LWp.round ?_
    refine AWp.seq ?_
    obtain⟨t2754,e2755,H⟩:=bind_of H
    refine sr hP hn hm [(2,.call [] [] [] [] 0 (iV .i64 t2754) [])] [(26,bV (decide (t2754<a1)))] [0,1,6,26] [] [] [_,_] (by kernel_rfl) ⟨Tryz.call55,f_r04_Units.ok a0 x2751 t2754 e2755,trivial⟩ ?_
    refine AWp.cond (decide (t2754<a1)) (by kernel_rfl) (fun c2756 => ?_) (fun c2756 => ?_)
    ·replace H:=iT c2756 H
     refine AWp.skip ?_
     refine AWp.block ?_
     refine rg hP hn hm [] [(6,iV .i64 (i64.wrap (x2751+(1:Int))))] [0,1,6] [] [] [] (by kernel_rfl) trivial ?_
     exact LWp.conv [] [] [] (by kernel_rfl) (ih _ _ H)
    ·replace H:=iF c2756 H
     refine AWp.exit ?_
     obtain rfl:=Option.some.inj H
     exact lf [] [] [] (by kernel_rfl) ⟨rfl,rfl⟩
   ·obtain⟨x2757,rfl⟩:∃ z,z=o2772:=⟨_,rfl⟩
    rintro e s ⟨rfl,rfl⟩
    refine AWp.seq ?_
    refine AWp.block ?_
    obtain⟨o2774,e2775,H⟩:=bind_of H
    refine AWp.loop (LWp.conv (inv:=[]) (vk:=[]) (e0:=[]) (t:=⟨[(0,iV .i64 a0),(1,iV .i64 a1),(6,iV .i64 x2757)],[],0⟩) (by kernel_rfl) ?_)
    refine LWp.mono (Q:=fun e s=>(match (generalizing:=false) o2774 with | x2769=>e = .exit 2∧s=⟨[(6,iV .i64 x2769)],[],0⟩)) (LWp.cv (withBody (fun body hbody => ?_))) ?_
    ·refine f_r04_Of.l1.partial_correctness a0 a1 (motive:=fun x2763 o2774=>LWp Γ body (fun e s=>∃ t,Cv Γ s t∧(match (generalizing:=false) o2774 with | x2769=>e = .exit 2∧t=⟨[(6,iV .i64 x2769)],[],0⟩)) ⟨[(0,iV .i64 a0),(1,iV .i64 a1),(6,iV .i64 x2763)],[],0⟩) ?_ _ _ e2775
     clear H e2775 o2774;intro self ih x2763 o2774 H
     subst hbody
     refine LWp.round ?_
     refine AWp.seq ?_
     obtain⟨t2766,e2767,H⟩:=bind_of H
     refine sr hP hn hm [(3,.call [] [] [] [] 0 (iV .i64 t2766) [])] [(34,bV (decide (t2766≥a1)))] [0,1,6,34] [] [] [_,_] (by kernel_rfl) ⟨Tryz.call55,f_r04_Units.ok a0 (i64.wrap (x2763-(1:Int))) t2766 e2767,trivial⟩ ?_
     refine AWp.cond (decide (t2766≥a1)) (by kernel_rfl) (fun c2768 => ?_) (fun c2768 => ?_)
     ·replace H:=iT c2768 H
      refine AWp.skip ?_
      refine AWp.block ?_
      refine rg hP hn hm [] [(6,iV .i64 (i64.wrap (x2763-(1:Int))))] [0,1,6] [] [] [] (by kernel_rfl) trivial ?_
      exact LWp.conv [] [] [] (by kernel_rfl) (ih _ _ H)
     ·replace H:=iF c2768 H
      refine AWp.exit ?_
      obtain rfl:=Option.some.inj H
      exact lf [] [] [] (by kernel_rfl) ⟨rfl,rfl⟩
    ·obtain⟨x2769,rfl⟩:∃ z,z=o2774:=⟨_,rfl⟩
     rintro e s ⟨rfl,rfl⟩
     refine sr hP hn hm [] [(4,iV .i64 x2769),(5,bV true)] [4,5] [] [] [] (by kernel_rfl) trivial ?_
     refine AWp.conv (inv:=[]) (vk:=[]) (e0:=[]) (t:=⟨[(4,iV .i64 x2769),(5,bV true)],[],0⟩) (by kernel_rfl) ?_
     refine AWp.ret ?_
     obtain rfl:=Option.some.inj H
     exact rl (.inl rfl) rfl (by kernel_rfl) (by kernel_rfl)
def f_r04_To.f (a0:Int) (a1:Int) (a2:Int):Option (Int×Int):=(((f_r04_Right.f a0)>>=fun t2715=>if(!t2715)=true then(some true) else((f_r04_Right.f a1)>>=fun t2718=>if(!t2718)=true then(some true) else(some (decide (a1>a0))))):Option (Bool))>>=fun x2721=>if x2721=true then(some (0,20)) else((f_r04_In.f a0 a2)>>=fun t2725=>if(!t2725)=true then(some (0,4)) else((f_r04_Units.f a0 a2)>>=fun t2778=>(f_r04_Of.f a1 t2778)>>=fun t2780=>some (t2780.1,0)))
theorem f_r04_To.ok (a0:Int) (a1:Int) (a2:Int) (r:Int×Int) (H:f_r04_To.f a0 a1 a2=some r):Pv.Fn Tryz.prog 101 [iV .i64 a0,iV .i64 a1,iV .i64 a2] [] 0 (fun x o=>x = .tup [iV .i64 r.1,iV .i64 r.2]∧o=[]):=by
 unfold f_r04_To.f at H
 refine Fn.bodyK [] Tryz.func101 rfl rfl (fun Γ hP hn => ?_)
 have hm:Tryz.prog.follows .mixedOrders=true:=by kernel_rfl
 replace hn:Γ.n=36:=hn
 refine sr hP hn hm [] [] [0,1,2] [] [] [] (by kernel_rfl) trivial ?_
 refine AWp.seq ?_
 refine AWp.seq ?_
 obtain⟨o2782,e2783,H⟩:=bind_of H
 refine AWp.mono (Q:=fun e s=>(match (generalizing:=false) o2782 with | x2721=>e = .normal∧s=⟨[(0,iV .i64 a0),(1,iV .i64 a1),(2,iV .i64 a2),(22,bV x2721)],[],0⟩)) (AWp.cv ?_) ?_
 ·replace H:=e2783;clear e2783
  obtain⟨t2715,e2716,H⟩:=bind_of H
  rcases Bool.eq_false_or_eq_true (!t2715) with c2717 | c2717
  ·replace H:=iT c2717 H
   refine rg hP hn hm [(1,.call [] [] [] [] 0 (bV t2715) []),(3,.b true)] [(22,bV true)] [0,1,2,22] [] [] [_,_,_] (by kernel_rfl) ⟨Tryz.call53,f_r04_Right.ok a0 t2715 e2716,c2717,trivial⟩ ?_
   obtain rfl:=Option.some.inj H
   exact lf [] [] [] (by kernel_rfl) ⟨rfl,rfl⟩
  ·replace H:=iF c2717 H
   obtain⟨t2718,e2719,H⟩:=bind_of H
   rcases Bool.eq_false_or_eq_true (!t2718) with c2720 | c2720
   ·replace H:=iT c2720 H
    refine rg hP hn hm [(1,.call [] [] [] [] 0 (bV t2715) []),(3,.b false),(5,.call [] [] [] [] 0 (bV t2718) []),(8,.b true)] [(22,bV true)] [0,1,2,22] [] [] [_,_,_,_,_,_] (by kernel_rfl) ⟨Tryz.call53,f_r04_Right.ok a0 t2715 e2716,c2717,Tryz.call53,f_r04_Right.ok a1 t2718 e2719,c2720,trivial⟩ ?_
    obtain rfl:=Option.some.inj H
    exact lf [] [] [] (by kernel_rfl) ⟨rfl,rfl⟩
   ·replace H:=iF c2720 H
    refine rg hP hn hm [(1,.call [] [] [] [] 0 (bV t2715) []),(3,.b false),(5,.call [] [] [] [] 0 (bV t2718) []),(8,.b false)] [(22,bV (decide (a1>a0)))] [0,1,2,22] [] [] [_,_,_,_,_,_] (by kernel_rfl) ⟨Tryz.call53,f_r04_Right.ok a0 t2715 e2716,c2717,Tryz.call53,f_r04_Right.ok a1 t2718 e2719,c2720,trivial⟩ ?_
    obtain rfl:=Option.some.inj H
    exact lf [] [] [] (by kernel_rfl) ⟨rfl,rfl⟩
 ·obtain⟨x2721,rfl⟩:∃ z,z=o2782:=⟨_,rfl⟩
  rintro e s ⟨rfl,rfl⟩
  refine AWp.cond x2721 (by kernel_rfl) (fun c2722 => ?_) (fun c2722 => ?_)
  ·replace H:=iT c2722 H
   refine sr hP hn hm [] [(6,iV .i64 0),(7,iV .i64 20)] [6,7] [] [] [] (by kernel_rfl) trivial ?_
   refine AWp.conv (inv:=[]) (vk:=[]) (e0:=[]) (t:=⟨[(6,iV .i64 0),(7,iV .i64 20)],[],0⟩) (by kernel_rfl) ?_
   refine AWp.ret ?_
   obtain rfl:=Option.some.inj H
   exact rl (.inl rfl) rfl (by kernel_rfl) (by kernel_rfl)
  ·replace H:=iF c2722 H
   refine AWp.skip ?_
   refine AWp.seq ?_
   obtain⟨t2725,e2726,H⟩:=bind_of H
   refine sr hP hn hm [(2,.call [] [] [] [] 0 (bV t2725) [])] [(26,bV (!t2725))] [0,1,2,26] [] [] [_,_] (by kernel_rfl) ⟨Tryz.call54,f_r04_In.ok a0 a2 t2725 e2726,trivial⟩ ?_
   refine AWp.cond (!t2725) (by kernel_rfl) (fun c2727 => ?_) (fun c2727 => ?_)
   ·replace H:=iT c2727 H
    refine sr hP hn hm [] [(6,iV .i64 0),(7,iV .i64 4)] [6,7] [] [] [] (by kernel_rfl) trivial ?_
    refine AWp.conv (inv:=[]) (vk:=[]) (e0:=[]) (t:=⟨[(6,iV .i64 0),(7,iV .i64 4)],[],0⟩) (by kernel_rfl) ?_
    refine AWp.ret ?_
    obtain rfl:=Option.some.inj H
    exact rl (.inl rfl) rfl (by kernel_rfl) (by kernel_rfl)
   ·replace H:=iF c2727 H
    refine AWp.skip ?_
    obtain⟨t2778,e2779,H⟩:=bind_of H
    obtain⟨t2780,e2781,H⟩:=bind_of H
    refine sr hP hn hm [(3,.call [] [] [] [] 0 (iV .i64 t2778) []),(4,.call [] [] [] [] 0 (.tup [iV .i64 t2780.1,bV t2780.2]) [])] [(8,iV .i64 t2780.1)] [8] [] [] [_,_,_,_] (by kernel_rfl) ⟨Tryz.call55,f_r04_Units.ok a0 a2 t2778 e2779,Tryz.call108,f_r04_Of.ok a1 t2778 t2780 e2781,trivial⟩ ?_
    refine sr hP hn hm [] [(6,iV .i64 t2780.1),(7,iV .i64 0)] [6,7] [] [] [] (by kernel_rfl) trivial ?_
    refine AWp.conv (inv:=[]) (vk:=[]) (e0:=[]) (t:=⟨[(6,iV .i64 t2780.1),(7,iV .i64 0)],[],0⟩) (by kernel_rfl) ?_
    refine AWp.ret ?_
    obtain rfl:=Option.some.inj H
    exact rl (.inl rfl) rfl (by kernel_rfl) (by kernel_rfl)
def f_r05_Together.l0 (a0:List TBucket) (a1:Int) (x2854:List Int) (x2855:Int):Option (List Int):=if(decide (x2855<(a0.length:Int)))=true then((at? a0 x2855)>>=fun b2860=>((if(b2860.f0==a1)=true then((chk ((x2854.length+[b2860.f1].length)*8≤140737488355328))>>=fun _=>some (x2854++[b2860.f1])) else(some x2854)):Option (List Int))>>=fun x2866=>f_r05_Together.l0 a0 a1 x2866 (i64.wrap (x2855+(1:Int)))) else(some x2854)
partial_fixpoint
def f_r05_Together.f (a0:List TBucket) (a1:Int):Option (Int×Int):=(f_r05_Together.l0 a0 a1 [] 0)>>=fun x2867=>(f_r01_Add.f x2867)>>=fun t2870=>some (t2870.1,t2870.2)
theorem f_r05_Together.ok (a0:List TBucket) (a1:Int) (r:Int×Int) (H:f_r05_Together.f a0 a1=some r):Pv.Fn Tryz.prog 82 [.im (.row (a0.map eBucket)),iV .i64 a1] [] 0 (fun x o=>x = .tup [iV .u64 r.1,iV .i64 r.2]∧o=[]):=by
 unfold f_r05_Together.f at H
 refine Fn.bodyK [] Tryz.func82 rfl rfl (fun Γ hP hn => ?_)
 have hm:Tryz.prog.follows .mixedOrders=true:=by kernel_rfl
 replace hn:Γ.n=33:=hn
 refine sr hP hn hm [] [] [0,1] [] [] [] (by kernel_rfl) trivial ?_
 refine sr hP hn hm [] [(6,.none0)] [0,1,6] [] [] [] (by kernel_rfl) trivial ?_
 refine AWp.seq ?_
 refine sr hP hn hm [] [(7,iV .i64 0)] [0,1,6,7] [] [] [] (by kernel_rfl) trivial ?_
 refine AWp.block ?_
 obtain⟨o2872,e2873,H⟩:=bind_of H
 refine AWp.loop (LWp.conv (inv:=[]) (vk:=[]) (e0:=[3]) (t:=⟨[(0,.im (.row (a0.map eBucket))),(1,iV .i64 a1),(6,.own 3),(7,iV .i64 0)],[(3,some (.row 1 22 ([].map (encInt .u64))))],0⟩) (by kernel_rfl) ?_)
 refine LWp.mono (Q:=fun e s=>(match (generalizing:=false) o2872 with | x2867=>e = .exit 0∧s=⟨[(6,.own 7)],[(7,some (.row 1 22 (x2867.map (encInt .u64))))],0⟩)) (LWp.cv (withBody (fun body hbody => ?_))) ?_
 ·refine f_r05_Together.l0.partial_correctness a0 a1 (motive:=fun x2854 x2855 o2872=>LWp Γ body (fun e s=>∃ t,Cv Γ s t∧(match (generalizing:=false) o2872 with | x2867=>e = .exit 0∧t=⟨[(6,.own 7)],[(7,some (.row 1 22 (x2867.map (encInt .u64))))],0⟩)) ⟨[(0,.im (.row (a0.map eBucket))),(1,iV .i64 a1),(6,.own 3),(7,iV .i64 x2855)],[(3,some (.row 1 22 (x2854.map (encInt .u64))))],0⟩) ?_ _ _ _ e2873
  clear H e2873 o2872;intro self ih x2854 x2855 o2872 H
  subst hbody
  refine LWp.round ?_
  refine AWp.seq ?_
  refine sr hP hn hm [(2,.any (iV .i64 (a0.length:Int)))] [(11,bV (decide (x2855<(a0.length:Int))))] [0,1,6,7,11] [] [3] [((a0.map eBucket).length:Int)=(a0.length:Int)] (by kernel_rfl) ⟨by rw[len_map],trivial⟩ ?_
  refine AWp.cond (decide (x2855<(a0.length:Int))) (by kernel_rfl) (fun c2856 => ?_) (fun c2856 => ?_)
  ·replace H:=iT c2856 H
   refine AWp.skip ?_
   refine AWp.seq ?_
   refine AWp.block ?_
   obtain⟨b2860,p2861,q2862,H⟩:=at_of H
   refine sr hP hn hm [(2,.c (eBucket b2860))] [(20,bV (b2860.f0==a1))] [0,1,6,7,20] [] [3] [_,_] (by kernel_rfl) ⟨p2861,el_map eBucket q2862,trivial⟩ ?_
   obtain⟨o2874,e2875,H⟩:=bind_of H
   refine AWp.mono (Q:=fun e s=>(match (generalizing:=false) o2874 with | x2866=>e = .normal∧s=⟨[(0,.im (.row (a0.map eBucket))),(1,iV .i64 a1),(6,.own 6),(7,iV .i64 x2855)],[(6,some (.row 1 22 (x2866.map (encInt .u64))))],0⟩)) (AWp.cv ?_) ?_
   ·replace H:=e2875;clear e2875
    refine AWp.cond (b2860.f0==a1) (by kernel_rfl) (fun c2863 => ?_) (fun c2863 => ?_)
    ·replace H:=iT c2863 H
     obtain⟨c2865,H⟩:=chk_of H
     refine rg hP hn hm [(3,.c (eBucket b2860)),(6,.app 4 ([b2860.f1].map (encInt .u64))),(7,.app 5 ((x2854++[b2860.f1]).map (encInt .u64)))] [(6,.own 5)] [0,1,6,7] [(5,some (.row 1 22 ((x2854++[b2860.f1]).map (encInt .u64))))] [5] [_,_,[b2860.f1].map (encInt .u64)=[[iI .u64 b2860.f1]],(x2854++[b2860.f1]).map (encInt .u64)=(x2854.map (encInt .u64))++([b2860.f1].map (encInt .u64)),∀ c∈([b2860.f1].map (encInt .u64)),c.length=1,∀ c∈([b2860.f1].map (encInt .u64)),leaves (c.map .im)=true,((x2854.map (encInt .u64)).length+([b2860.f1].map (encInt .u64)).length)*8≤140737488355328] (by kernel_rfl) ⟨p2861,el_map eBucket q2862,by exact rfl,by simp,by exact all_len _ _ _ (fun _=>rfl),by exact all_leaf _ _ (fun _=>rfl),by simpa using c2865,trivial⟩ ?_
     obtain rfl:=Option.some.inj H
     exact lf [(5,6)] [] [] (by kernel_rfl) ⟨rfl,rfl⟩
    ·replace H:=iF c2863 H
     refine AWp.skip ?_
     obtain rfl:=Option.some.inj H
     exact lf [(3,6)] [] [] (by kernel_rfl) ⟨rfl,rfl⟩
   ·obtain⟨x2866,rfl⟩:∃ z,z=o2874:=⟨_,rfl⟩
    rintro e s ⟨rfl,rfl⟩
    refine rg hP hn hm [] [(7,iV .i64 (i64.wrap (x2855+(1:Int))))] [0,1,6,7] [] [6] [] (by kernel_rfl) trivial ?_
    exact LWp.conv [(6,3)] [] [] (by kernel_rfl) (ih _ _ _ H)
  ·replace H:=iF c2856 H
   refine AWp.exit ?_
   obtain rfl:=Option.some.inj H
   exact lf [(3,7)] [] [] (by kernel_rfl) ⟨rfl,rfl⟩
 ·obtain⟨x2867,rfl⟩:∃ z,z=o2872:=⟨_,rfl⟩
  rintro e s ⟨rfl,rfl⟩
  obtain⟨t2870,e2871,H⟩:=bind_of H
  refine sr hP hn hm [(1,.call [] [] [7] [] 0 (.tup [iV .u64 t2870.1,iV .i64 t2870.2]) [])] [(4,iV .u64 t2870.1),(5,iV .i64 t2870.2)] [4,5] [] [] [_,_] (by kernel_rfl) ⟨Tryz.call56,f_r01_Add.ok x2867 t2870 e2871,trivial⟩ ?_
  refine AWp.conv (inv:=[]) (vk:=[]) (e0:=[]) (t:=⟨[(4,iV .u64 t2870.1),(5,iV .i64 t2870.2)],[],0⟩) (by kernel_rfl) ?_
  refine AWp.ret ?_
  obtain rfl:=Option.some.inj H
  exact rl (.inl rfl) rfl (by kernel_rfl) (by kernel_rfl)
def f_r05_Tidy.l1 (a0:List TBucket) (x2885:List TBucket) (x2886:Bool) (x2887:Int) (x2909:Bool) (x2910:Int) (x2911:Int):Option (Bool×Int):=if(decide (x2911<(a0.length:Int)))=true then(((if(!x2886)=true then(if(!x2909)=true then(some true) else((at? a0 x2911)>>=fun b2925=>some (decide (b2925.f0<x2910)))) else((at? a0 x2911)>>=fun b2928=>if(decide (b2928.f0>x2887))=true then(if(!x2909)=true then(some true) else(some (decide (b2928.f0<x2910)))) else(some false))):Option (Bool))>>=fun x2933=>((if x2933=true then((at? a0 x2911)>>=fun b2938=>some (true,b2938.f0)) else(some (x2909,x2910))):Option (Bool×Int))>>=fun oo=>match oo with | (x2941,x2942)=>(f_r05_Tidy.l1 a0 x2885 x2886 x2887 x2941 x2942 (i64.wrap (x2911+(1:Int))))) else(some (x2909,x2910))
partial_fixpoint
def f_r05_Tidy.l0 (a0:List TBucket) (x2885:List TBucket) (x2886:Bool) (x2887:Int):Option ((List TBucket)×Int):=(f_r05_Tidy.l1 a0 x2885 x2886 x2887 false 0 0)>>=fun oo=>match oo with | (x2943,x2944)=>(if(!x2943)=true then(some (x2885,0)) else((f_r05_Together.f a0 x2944)>>=fun t2948=>if(t2948.2 != (0:Int))=true then(some ([],5)) else(((if(decide (t2948.1>(0:Int)))=true then((chk ((x2885.length+[(⟨x2944,t2948.1⟩:TBucket)].length)*16≤140737488355328))>>=fun _=>some (x2885++[(⟨x2944,t2948.1⟩:TBucket)])) else(some x2885)):Option (List TBucket))>>=fun x2954=>f_r05_Tidy.l0 a0 x2954 true x2944)))
partial_fixpoint
def f_r05_Tidy.f (a0:List TBucket):Option ((List TBucket)×Int):=(f_r05_Tidy.l0 a0 [] false 0)>>=fun rr=>some rr
theorem f_r05_Tidy.ok (a0:List TBucket) (r:(List TBucket)×Int) (H:f_r05_Tidy.f a0=some r):Pv.Fn Tryz.prog 67 [.im (.row (a0.map eBucket))] [] 0 (fun x o=>x = .tup [.own 0,iV .i64 r.2]∧o=[(0,some (.row 2 89 (r.1.map eBucket)))]):=by
 unfold f_r05_Tidy.f at H
 refine Fn.bodyK [0] Tryz.func67 rfl rfl (fun Γ hP hn => ?_)
 have hm:Tryz.prog.follows .mixedOrders=true:=by kernel_rfl
 replace hn:Γ.n=67:=hn
 refine sr hP hn hm [] [] [0] [] [] [] (by kernel_rfl) trivial ?_
 refine sr hP hn hm [] [(4,.none0)] [0,4] [] [] [] (by kernel_rfl) trivial ?_
 refine sr hP hn hm [] [(5,bV false)] [0,4,5] [] [] [] (by kernel_rfl) trivial ?_
 refine sr hP hn hm [] [(6,iV .i64 0)] [0,4,5,6] [] [] [] (by kernel_rfl) trivial ?_
 refine AWp.block ?_
 obtain⟨o2955,e2956,H⟩:=bind_of H
 refine AWp.loop (LWp.conv (inv:=[]) (vk:=[]) (e0:=[3]) (t:=⟨[(0,.im (.row (a0.map eBucket))),(4,.own 3),(5,bV false),(6,iV .i64 0)],[(3,some (.row 2 89 ([].map eBucket)))],0⟩) (by kernel_rfl) ?_)
 refine LWp.mono (Q:=fun e s=>(match (generalizing:=false) o2955 with | rr=>e = .ret∧s.floor=0∧resOf Tryz.prog Tryz.f67 s=some (.tup [.own 0,iV .i64 rr.2])∧([(0,s.obj 0)]:List (Nat×Option MObj))=[(0,some (.row 2 89 (rr.1.map eBucket)))])) (LWp.cv (withBody (fun body hbody => ?_))) ?_
 ·refine f_r05_Tidy.l0.partial_correctness a0 (motive:=fun x2885 x2886 x2887 o2955=>LWp Γ body (fun e s=>∃ t,Cv Γ s t∧(match (generalizing:=false) o2955 with | rr=>e = .ret∧t.floor=0∧resOf Tryz.prog Tryz.f67 t=some (.tup [.own 0,iV .i64 rr.2])∧([(0,t.obj 0)]:List (Nat×Option MObj))=[(0,some (.row 2 89 (rr.1.map eBucket)))])) ⟨[(0,.im (.row (a0.map eBucket))),(4,.own 3),(5,bV x2886),(6,iV .i64 x2887)],[(3,some (.row 2 89 (x2885.map eBucket)))],0⟩) ?_ _ _ _ _ e2956
  clear H e2956 o2955;intro self ih x2885 x2886 x2887 o2955 H
  subst hbody
  refine LWp.round ?_
  refine AWp.block ?_
  refine sr hP hn hm [] [(7,bV false)] [0,4,5,6,7] [] [3] [] (by kernel_rfl) trivial ?_
  refine sr hP hn hm [] [(8,iV .i64 0)] [0,4,5,6,7,8] [] [3] [] (by kernel_rfl) trivial ?_
  refine AWp.seq ?_
  refine sr hP hn hm [] [(9,iV .i64 0)] [0,4,5,6,7,8,9] [] [3] [] (by kernel_rfl) trivial ?_
  refine AWp.block ?_
  obtain⟨o2957,e2958,H⟩:=bind_of H
  refine AWp.loop (LWp.conv (inv:=[(3,6)]) (vk:=[]) (e0:=[]) (t:=⟨[(0,.im (.row (a0.map eBucket))),(4,.own 6),(5,bV x2886),(6,iV .i64 x2887),(7,bV false),(8,iV .i64 0),(9,iV .i64 0)],[(6,some (.row 2 89 (x2885.map eBucket)))],0⟩) (by kernel_rfl) ?_)
  refine LWp.mono (Q:=fun e s=>(match (generalizing:=false) o2957 with | (x2943,x2944)=>e = .exit 2∧s=⟨[(0,.im (.row (a0.map eBucket))),(4,.own 9),(7,bV x2943),(8,iV .i64 x2944)],[(9,some (.row 2 89 (x2885.map eBucket)))],0⟩)) (LWp.cv (withBody (fun body hbody => ?_))) ?_
  ·refine f_r05_Tidy.l1.partial_correctness a0 x2885 x2886 x2887 (motive:=fun x2909 x2910 x2911 o2957=>LWp Γ body (fun e s=>∃ t,Cv Γ s t∧(match (generalizing:=false) o2957 with | (x2943,x2944)=>e = .exit 2∧t=⟨[(0,.im (.row (a0.map eBucket))),(4,.own 9),(7,bV x2943),(8,iV .i64 x2944)],[(9,some (.row 2 89 (x2885.map eBucket)))],0⟩)) ⟨[(0,.im (.row (a0.map eBucket))),(4,.own 6),(5,bV x2886),(6,iV .i64 x2887),(7,bV x2909),(8,iV .i64 x2910),(9,iV .i64 x2911)],[(6,some (.row 2 89 (x2885.map eBucket)))],0⟩) ?_ _ _ _ _ e2958
   clear H e2958 o2957;intro self ih x2909 x2910 x2911 o2957 H
   subst hbody
   refine LWp.round ?_
   refine AWp.seq ?_
   refine sr hP hn hm [(2,.any (iV .i64 (a0.length:Int)))] [(15,bV (decide (x2911<(a0.length:Int))))] [0,4,5,6,7,8,9,15] [] [6] [((a0.map eBucket).length:Int)=(a0.length:Int)] (by kernel_rfl) ⟨by rw[len_map],trivial⟩ ?_
   refine AWp.cond (decide (x2911<(a0.length:Int))) (by kernel_rfl) (fun c2912 => ?_) (fun c2912 => ?_)
   ·replace H:=iT c2912 H
    refine AWp.skip ?_
    refine AWp.seq ?_
    refine AWp.block ?_
    refine AWp.seq ?_
    obtain⟨o2959,e2960,H⟩:=bind_of H
    refine AWp.mono (Q:=fun e s=>(match (generalizing:=false) o2959 with | x2933=>e = .normal∧s=⟨[(0,.im (.row (a0.map eBucket))),(4,.own 7),(5,bV x2886),(6,iV .i64 x2887),(7,bV x2909),(8,iV .i64 x2910),(9,iV .i64 x2911),(41,bV x2933)],[(7,some (.row 2 89 (x2885.map eBucket)))],0⟩)) (AWp.cv ?_) ?_
    ·replace H:=e2960;clear e2960
     rcases Bool.eq_false_or_eq_true (!x2886) with c2923 | c2923
     ·replace H:=iT c2923 H
      rcases Bool.eq_false_or_eq_true (!x2909) with c2924 | c2924
      ·replace H:=iT c2924 H
       refine rg hP hn hm [(2,.b true),(14,.b true)] [(30,bV x2909),(31,bV (!x2909)),(32,bV true),(40,bV true),(41,bV true)] [0,4,5,6,7,8,9,30,31,32,40,41] [] [6] [_,_] (by kernel_rfl) ⟨c2923,c2924,trivial⟩ ?_
       obtain rfl:=Option.some.inj H
       exact lf [(6,7)] [] [] (by kernel_rfl) ⟨rfl,rfl⟩
      ·replace H:=iF c2924 H
       obtain⟨b2925,p2926,q2927,H⟩:=at_of H
       refine rg hP hn hm [(2,.b true),(14,.b false),(17,.c (eBucket b2925))] [(30,bV x2909),(31,bV (!x2909)),(32,bV false),(33,.im (.row (a0.map eBucket))),(34,iV .i64 x2911),(35,.ip [iI .i64 b2925.f0,iI .u64 b2925.f1]),(36,.ip [iI .i64 b2925.f0,iI .u64 b2925.f1]),(37,iV .i64 b2925.f0),(38,iV .i64 x2910),(39,bV (decide (b2925.f0<x2910))),(40,bV (decide (b2925.f0<x2910))),(41,bV (decide (b2925.f0<x2910)))] [0,4,5,6,7,8,9,30,31,32,33,34,35,36,37,38,39,40,41] [] [6] [_,_,_,_] (by kernel_rfl) ⟨c2923,c2924,p2926,el_map eBucket q2927,trivial⟩ ?_
       obtain rfl:=Option.some.inj H
       exact lf [(6,7)] [] [] (by kernel_rfl) ⟨rfl,rfl⟩
     ·replace H:=iF c2923 H
      obtain⟨b2928,p2929,q2930,H⟩:=at_of H
      rcases Bool.eq_false_or_eq_true (decide (b2928.f0>x2887)) with c2931 | c2931
      ·replace H:=iT c2931 H
       rcases Bool.eq_false_or_eq_true (!x2909) with c2932 | c2932
       ·replace H:=iT c2932 H
        refine rg hP hn hm [(2,.b false),(5,.c (eBucket b2928)),(11,.b true),(14,.b true)] [(21,.im (.row (a0.map eBucket))),(22,iV .i64 x2911),(23,.ip [iI .i64 b2928.f0,iI .u64 b2928.f1]),(24,.ip [iI .i64 b2928.f0,iI .u64 b2928.f1]),(25,iV .i64 b2928.f0),(26,iV .i64 x2887),(27,bV (decide (b2928.f0>x2887))),(30,bV x2909),(31,bV (!x2909)),(32,bV true),(40,bV true),(41,bV true)] [0,4,5,6,7,8,9,21,22,23,24,25,26,27,30,31,32,40,41] [] [6] [_,_,_,_,_] (by kernel_rfl) ⟨c2923,p2929,el_map eBucket q2930,c2931,c2932,trivial⟩ ?_
        obtain rfl:=Option.some.inj H
        exact lf [(6,7)] [] [] (by kernel_rfl) ⟨rfl,rfl⟩
       ·replace H:=iF c2932 H
        refine rg hP hn hm [(2,.b false),(5,.c (eBucket b2928)),(11,.b true),(14,.b false),(17,.c (eBucket b2928))] [(21,.im (.row (a0.map eBucket))),(22,iV .i64 x2911),(23,.ip [iI .i64 b2928.f0,iI .u64 b2928.f1]),(24,.ip [iI .i64 b2928.f0,iI .u64 b2928.f1]),(25,iV .i64 b2928.f0),(26,iV .i64 x2887),(27,bV (decide (b2928.f0>x2887))),(30,bV x2909),(31,bV (!x2909)),(32,bV false),(33,.im (.row (a0.map eBucket))),(34,iV .i64 x2911),(35,.ip [iI .i64 b2928.f0,iI .u64 b2928.f1]),(36,.ip [iI .i64 b2928.f0,iI .u64 b2928.f1]),(37,iV .i64 b2928.f0),(38,iV .i64 x2910),(39,bV (decide (b2928.f0<x2910))),(40,bV (decide (b2928.f0<x2910))),(41,bV (decide (b2928.f0<x2910)))] [0,4,5,6,7,8,9,21,22,23,24,25,26,27,30,31,32,33,34,35,36,37,38,39,40,41] [] [6] [_,_,_,_,_,_,_] (by kernel_rfl) ⟨c2923,p2929,el_map eBucket q2930,c2931,c2932,p2929,el_map eBucket q2930,trivial⟩ ?_
        obtain rfl:=Option.some.inj H
        exact lf [(6,7)] [] [] (by kernel_rfl) ⟨rfl,rfl⟩
      ·replace H:=iF c2931 H
       refine rg hP hn hm [(2,.b false),(5,.c (eBucket b2928)),(11,.b false)] [(21,.im (.row (a0.map eBucket))),(22,iV .i64 x2911),(23,.ip [iI .i64 b2928.f0,iI .u64 b2928.f1]),(24,.ip [iI .i64 b2928.f0,iI .u64 b2928.f1]),(25,iV .i64 b2928.f0),(26,iV .i64 x2887),(27,bV (decide (b2928.f0>x2887))),(41,bV false)] [0,4,5,6,7,8,9,21,22,23,24,25,26,27,41] [] [6] [_,_,_,_] (by kernel_rfl) ⟨c2923,p2929,el_map eBucket q2930,c2931,trivial⟩ ?_
       obtain rfl:=Option.some.inj H
       exact lf [(6,7)] [] [] (by kernel_rfl) ⟨rfl,rfl⟩
    ·obtain⟨x2933,rfl⟩:∃ z,z=o2959:=⟨_,rfl⟩
     rintro e s ⟨rfl,rfl⟩
     obtain⟨o2961,e2962,H⟩:=bind_of H
     refine AWp.mono (Q:=fun e s=>(match (generalizing:=false) o2961 with | (x2941,x2942)=>e = .normal∧s=⟨[(0,.im (.row (a0.map eBucket))),(4,.own 8),(5,bV x2886),(6,iV .i64 x2887),(7,bV x2941),(8,iV .i64 x2942),(9,iV .i64 x2911)],[(8,some (.row 2 89 (x2885.map eBucket)))],0⟩)) (AWp.cv ?_) ?_
     ·replace H:=e2962;clear e2962
      refine AWp.cond x2933 (by kernel_rfl) (fun c2934 => ?_) (fun c2934 => ?_)
      ·replace H:=iT c2934 H
       obtain⟨b2938,p2939,q2940,H⟩:=at_of H
       refine sr hP hn hm [(2,.c (eBucket b2938))] [(8,iV .i64 b2938.f0)] [0,4,5,6,8,9] [] [7] [_,_] (by kernel_rfl) ⟨p2939,el_map eBucket q2940,trivial⟩ ?_
       refine rg hP hn hm [] [(7,bV true)] [0,4,5,6,7,8,9] [] [7] [] (by kernel_rfl) trivial ?_
       obtain rfl:=Option.some.inj H
       exact lf [(7,8)] [] [] (by kernel_rfl) ⟨rfl,rfl⟩
      ·replace H:=iF c2934 H
       refine AWp.skip ?_
       obtain rfl:=Option.some.inj H
       exact lf [(7,8)] [] [] (by kernel_rfl) ⟨rfl,rfl⟩
     ·obtain⟨x2941,x2942⟩:=o2961
      rintro e s ⟨rfl,rfl⟩
      refine rg hP hn hm [] [(9,iV .i64 (i64.wrap (x2911+(1:Int))))] [0,4,5,6,7,8,9] [] [8] [] (by kernel_rfl) trivial ?_
      exact LWp.conv [(8,6)] [] [] (by kernel_rfl) (ih _ _ _ _ H)
   ·replace H:=iF c2912 H
    refine AWp.exit ?_
    obtain rfl:=Option.some.inj H
    exact lf [(6,9)] [] [] (by kernel_rfl) ⟨rfl,rfl⟩
  ·obtain⟨x2943,x2944⟩:=o2957
   rintro e s ⟨rfl,rfl⟩
   refine AWp.seq ?_
   refine sr hP hn hm [] [(48,bV (!x2943))] [0,4,8,48] [] [9] [] (by kernel_rfl) trivial ?_
   refine AWp.cond (!x2943) (by kernel_rfl) (fun c2945 => ?_) (fun c2945 => ?_)
   ·replace H:=iT c2945 H
    refine sr hP hn hm [] [(2,.own 9),(3,iV .i64 0)] [2,3] [] [9] [] (by kernel_rfl) trivial ?_
    refine AWp.conv (inv:=[(9,0)]) (vk:=[]) (e0:=[]) (t:=⟨[(2,.own 0),(3,iV .i64 0)],[(0,some (.row 2 89 (x2885.map eBucket)))],0⟩) (by kernel_rfl) ?_
    refine AWp.ret ?_
    obtain rfl:=Option.some.inj H
    exact rl rfl rfl (by kernel_rfl) (by kernel_rfl)
   ·replace H:=iF c2945 H
    refine AWp.skip ?_
    obtain⟨t2948,e2949,H⟩:=bind_of H
    refine sr hP hn hm [(2,.call [] [] [] [] 0 (.tup [iV .u64 t2948.1,iV .i64 t2948.2]) [])] [(10,iV .u64 t2948.1),(11,iV .i64 t2948.2)] [0,4,8,10,11] [] [9] [_,_] (by kernel_rfl) ⟨Tryz.call82,f_r05_Together.ok a0 x2944 t2948 e2949,trivial⟩ ?_
    refine AWp.seq ?_
    refine sr hP hn hm [] [(57,bV (t2948.2 != (0:Int)))] [0,4,8,10,57] [] [9] [] (by kernel_rfl) trivial ?_
    refine AWp.cond (t2948.2 != (0:Int)) (by kernel_rfl) (fun c2950 => ?_) (fun c2950 => ?_)
    ·replace H:=iT c2950 H
     refine sr hP hn hm [] [(2,.none0),(3,iV .i64 5)] [2,3] [] [] [] (by kernel_rfl) trivial ?_
     refine AWp.conv (inv:=[]) (vk:=[]) (e0:=[0]) (t:=⟨[(2,.own 0),(3,iV .i64 5)],[(0,some (.row 2 89 ([].map eBucket)))],0⟩) (by kernel_rfl) ?_
     refine AWp.ret ?_
     obtain rfl:=Option.some.inj H
     exact rl rfl rfl (by kernel_rfl) (by kernel_rfl)
    ·replace H:=iF c2950 H
     refine AWp.skip ?_
     refine AWp.seq ?_
     refine sr hP hn hm [] [(59,bV (decide (t2948.1>(0:Int))))] [0,4,8,10,59] [] [9] [] (by kernel_rfl) trivial ?_
     obtain⟨o2963,e2964,H⟩:=bind_of H
     refine AWp.mono (Q:=fun e s=>(match (generalizing:=false) o2963 with | x2954=>e = .normal∧s=⟨[(0,.im (.row (a0.map eBucket))),(4,.own 12),(8,iV .i64 x2944)],[(12,some (.row 2 89 (x2954.map eBucket)))],0⟩)) (AWp.cv ?_) ?_
     ·replace H:=e2964;clear e2964
      refine AWp.cond (decide (t2948.1>(0:Int))) (by kernel_rfl) (fun c2951 => ?_) (fun c2951 => ?_)
      ·replace H:=iT c2951 H
       obtain⟨c2953,H⟩:=chk_of H
       refine rg hP hn hm [(4,.app 10 ([(⟨x2944,t2948.1⟩:TBucket)].map eBucket)),(5,.app 11 ((x2885++[(⟨x2944,t2948.1⟩:TBucket)]).map eBucket))] [(4,.own 11)] [0,4,8] [(11,some (.row 2 89 ((x2885++[(⟨x2944,t2948.1⟩:TBucket)]).map eBucket)))] [11] [[(⟨x2944,t2948.1⟩:TBucket)].map eBucket=[[iI .i64 x2944,iI .u64 t2948.1]],(x2885++[(⟨x2944,t2948.1⟩:TBucket)]).map eBucket=(x2885.map eBucket)++([(⟨x2944,t2948.1⟩:TBucket)].map eBucket),∀ c∈([(⟨x2944,t2948.1⟩:TBucket)].map eBucket),c.length=2,∀ c∈([(⟨x2944,t2948.1⟩:TBucket)].map eBucket),leaves (c.map .im)=true,((x2885.map eBucket).length+([(⟨x2944,t2948.1⟩:TBucket)].map eBucket).length)*16≤140737488355328] (by kernel_rfl) ⟨by exact rfl,by simp,by exact all_len _ _ _ (fun _=>rfl),by exact all_leaf _ _ (fun _=>rfl),by simpa using c2953,trivial⟩ ?_
       obtain rfl:=Option.some.inj H
       exact lf [(11,12)] [] [] (by kernel_rfl) ⟨rfl,rfl⟩
      ·replace H:=iF c2951 H
       refine AWp.skip ?_
       obtain rfl:=Option.some.inj H
       exact lf [(9,12)] [] [] (by kernel_rfl) ⟨rfl,rfl⟩
     ·obtain⟨x2954,rfl⟩:∃ z,z=o2963:=⟨_,rfl⟩
      rintro e s ⟨rfl,rfl⟩
      refine sr hP hn hm [] [(6,iV .i64 x2944)] [0,4,6] [] [12] [] (by kernel_rfl) trivial ?_
      refine rg hP hn hm [] [(5,bV true)] [0,4,5,6] [] [12] [] (by kernel_rfl) trivial ?_
      exact LWp.conv [(12,3)] [] [] (by kernel_rfl) (ih _ _ _ _ H)
 ·obtain⟨rr,rfl⟩:∃ z,z=o2955:=⟨_,rfl⟩
  rintro e s ⟨rfl,hfl,hres⟩
  obtain rfl:=Option.some.inj H
  exact Exists.intro _ (And.intro (fun _ _ h=>h) (And.intro (.inl rfl) (And.intro hfl hres)))
def f_r07_coarse.l0 (a0:List TBucket) (a1:Int) (a2:Int) (x2793:List TBucket) (x2794:Int):Option (List TBucket):=if(decide (x2794<(a0.length:Int)))=true then((at? a0 x2794)>>=fun b2801=>(f_r04_To.f a1 a2 b2801.f0)>>=fun t2804=>(chk ((x2793.length+[(⟨t2804.1,b2801.f1⟩:TBucket)].length)*16≤140737488355328))>>=fun _=>f_r07_coarse.l0 a0 a1 a2 (x2793++[(⟨t2804.1,b2801.f1⟩:TBucket)]) (i64.wrap (x2794+(1:Int)))) else(some x2793)
partial_fixpoint
def f_r07_coarse.f (a0:List TBucket) (a1:Int) (a2:Int):Option (List TBucket):=(f_r07_coarse.l0 a0 a1 a2 [] 0)>>=fun x2808=>(f_r05_Tidy.f x2808)>>=fun t2969=>some t2969.1
theorem f_r07_coarse.ok (a0:List TBucket) (a1:Int) (a2:Int) (r:List TBucket) (H:f_r07_coarse.f a0 a1 a2=some r):Pv.Fn Tryz.prog 92 [.im (.row (a0.map eBucket)),iV .i64 a1,iV .i64 a2] [] 0 (fun x o=>x = .own 0∧o=[(0,some (.row 2 89 (r.map eBucket)))]):=by
 unfold f_r07_coarse.f at H
 refine Fn.bodyK [0] Tryz.func92 rfl rfl (fun Γ hP hn => ?_)
 have hm:Tryz.prog.follows .mixedOrders=true:=by kernel_rfl
 replace hn:Γ.n=46:=hn
 refine sr hP hn hm [] [] [0,1,2] [] [] [] (by kernel_rfl) trivial ?_
 refine sr hP hn hm [] [(7,.none0)] [0,1,2,7] [] [] [] (by kernel_rfl) trivial ?_
 refine AWp.seq ?_
 refine sr hP hn hm [] [(8,iV .i64 0)] [0,1,2,7,8] [] [] [] (by kernel_rfl) trivial ?_
 refine AWp.block ?_
 obtain⟨o2971,e2972,H⟩:=bind_of H
 refine AWp.loop (LWp.conv (inv:=[]) (vk:=[]) (e0:=[2]) (t:=⟨[(0,.im (.row (a0.map eBucket))),(1,iV .i64 a1),(2,iV .i64 a2),(7,.own 2),(8,iV .i64 0)],[(2,some (.row 2 89 ([].map eBucket)))],0⟩) (by kernel_rfl) ?_)
 refine LWp.mono (Q:=fun e s=>(match (generalizing:=false) o2971 with | x2808=>e = .exit 0∧s=⟨[(7,.own 5)],[(5,some (.row 2 89 (x2808.map eBucket)))],0⟩)) (LWp.cv (withBody (fun body hbody => ?_))) ?_
 ·refine f_r07_coarse.l0.partial_correctness a0 a1 a2 (motive:=fun x2793 x2794 o2971=>LWp Γ body (fun e s=>∃ t,Cv Γ s t∧(match (generalizing:=false) o2971 with | x2808=>e = .exit 0∧t=⟨[(7,.own 5)],[(5,some (.row 2 89 (x2808.map eBucket)))],0⟩)) ⟨[(0,.im (.row (a0.map eBucket))),(1,iV .i64 a1),(2,iV .i64 a2),(7,.own 2),(8,iV .i64 x2794)],[(2,some (.row 2 89 (x2793.map eBucket)))],0⟩) ?_ _ _ _ e2972
  clear H e2972 o2971;intro self ih x2793 x2794 o2971 H
  subst hbody
  refine LWp.round ?_
  refine AWp.seq ?_
  refine sr hP hn hm [(2,.any (iV .i64 (a0.length:Int)))] [(16,bV (decide (x2794<(a0.length:Int))))] [0,1,2,7,8,16] [] [2] [((a0.map eBucket).length:Int)=(a0.length:Int)] (by kernel_rfl) ⟨by rw[len_map],trivial⟩ ?_
  refine AWp.cond (decide (x2794<(a0.length:Int))) (by kernel_rfl) (fun c2795 => ?_) (fun c2795 => ?_)
  ·replace H:=iT c2795 H
   refine AWp.skip ?_
   refine AWp.seq ?_
   refine AWp.block ?_
   obtain⟨b2801,p2802,q2803,H⟩:=at_of H
   obtain⟨t2804,e2805,H⟩:=bind_of H
   refine sr hP hn hm [(4,.c (eBucket b2801)),(7,.call [] [] [] [] 0 (.tup [iV .i64 t2804.1,iV .i64 t2804.2]) [])] [(9,iV .i64 t2804.1)] [0,1,2,7,8,9] [] [2] [_,_,_,_] (by kernel_rfl) ⟨p2802,el_map eBucket q2803,Tryz.call101,f_r04_To.ok a1 a2 b2801.f0 t2804 e2805,trivial⟩ ?_
   obtain⟨c2807,H⟩:=chk_of H
   refine rg hP hn hm [(4,.c (eBucket b2801)),(8,.app 3 ([(⟨t2804.1,b2801.f1⟩:TBucket)].map eBucket)),(9,.app 4 ((x2793++[(⟨t2804.1,b2801.f1⟩:TBucket)]).map eBucket))] [(7,.own 4)] [0,1,2,7,8] [(4,some (.row 2 89 ((x2793++[(⟨t2804.1,b2801.f1⟩:TBucket)]).map eBucket)))] [4] [_,_,[(⟨t2804.1,b2801.f1⟩:TBucket)].map eBucket=[[iI .i64 t2804.1,iI .u64 b2801.f1]],(x2793++[(⟨t2804.1,b2801.f1⟩:TBucket)]).map eBucket=(x2793.map eBucket)++([(⟨t2804.1,b2801.f1⟩:TBucket)].map eBucket),∀ c∈([(⟨t2804.1,b2801.f1⟩:TBucket)].map eBucket),c.length=2,∀ c∈([(⟨t2804.1,b2801.f1⟩:TBucket)].map eBucket),leaves (c.map .im)=true,((x2793.map eBucket).length+([(⟨t2804.1,b2801.f1⟩:TBucket)].map eBucket).length)*16≤140737488355328] (by kernel_rfl) ⟨p2802,el_map eBucket q2803,by exact rfl,by simp,by exact all_len _ _ _ (fun _=>rfl),by exact all_leaf _ _ (fun _=>rfl),by simpa using c2807,trivial⟩ ?_
   refine rg hP hn hm [] [(8,iV .i64 (i64.wrap (x2794+(1:Int))))] [0,1,2,7,8] [] [4] [] (by kernel_rfl) trivial ?_
   exact LWp.conv [(4,2)] [] [] (by kernel_rfl) (ih _ _ _ H)
  ·replace H:=iF c2795 H
   refine AWp.exit ?_
   obtain rfl:=Option.some.inj H
   exact lf [(2,5)] [] [] (by kernel_rfl) ⟨rfl,rfl⟩
 ·obtain⟨x2808,rfl⟩:∃ z,z=o2971:=⟨_,rfl⟩
  rintro e s ⟨rfl,rfl⟩
  refine AWp.seq ?_
  refine AWp.conv (inv:=[]) (vk:=[5]) (e0:=[]) (t:=⟨[(7,.im (.row (x2808.map eBucket)))],[],0⟩) (by kernel_rfl) ?_
  obtain⟨t2969,e2970,H⟩:=bind_of H
  refine rg hP hn hm [(1,.call [] [(0,6)] [] [6] 0 (.tup [.own 0,iV .i64 t2969.2]) [(0,some (.row 2 89 (t2969.1.map eBucket)))])] [(11,.own 6)] [11] [(6,some (.row 2 89 (t2969.1.map eBucket)))] [6] [_,_] (by kernel_rfl) ⟨Tryz.call67,f_r05_Tidy.ok x2808 t2969 e2970,trivial⟩ ?_
  refine sr hP hn hm [] [(6,.own 6)] [6] [] [6] [] (by kernel_rfl) trivial ?_
  refine AWp.conv (inv:=[(6,0)]) (vk:=[]) (e0:=[]) (t:=⟨[(6,.own 0)],[(0,some (.row 2 89 (t2969.1.map eBucket)))],0⟩) (by kernel_rfl) ?_
  refine AWp.ret ?_
  obtain rfl:=Option.some.inj H
  exact rl (.inl rfl) rfl (by kernel_rfl) (by kernel_rfl)
end Go.Proofs.YtbmdealiikoplaaGreat.PvGJ
