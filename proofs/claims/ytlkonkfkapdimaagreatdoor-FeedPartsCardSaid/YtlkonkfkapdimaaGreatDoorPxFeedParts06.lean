import Derived.Test.YtlkonkfkapdimaaGreatDoorProg
import Derived.Test.YtlkonkfkapdimaaGreatDoorPxFeedParts05
set_option linter.unusedVariables false
set_option linter.unnecessarySimpa false
set_option linter.unusedSimpArgs false
set_option maxRecDepth 10000
namespace Go.Proofs.YtlkonkfkapdimaaGreatDoor.PvGR
open Go Go.Pv Tryz Go.IntKind
def Z0x.l0 (aa:Int) (ab:ByteArray):Option ByteArray:=(chk ((((Z3o [u8.wrap (u64.wrap ((48:Int)+(Int.tmod aa (10:Int))))]).size+ab.size:Nat):Int)≤9223372036854775807))>>=fun _=>if((u64.wrap (Int.tdiv aa (10:Int)))==0)=true then(some ((Z3o [u8.wrap (u64.wrap ((48:Int)+(Int.tmod aa (10:Int))))])++ab)) else(Z0x.l0  (u64.wrap (Int.tdiv aa (10:Int))) ((Z3o [u8.wrap (u64.wrap ((48:Int)+(Int.tmod aa (10:Int))))])++ab))
partial_fixpoint
def Z0x.f (a0:Int):Option ByteArray:=(Z0x.l0  a0 (⟨#[]⟩:ByteArray))>>=fun rr=>some rr
theorem Z0x.ok (a0:Int):FN 42 [qu a0] [] 0 (Z0x.f a0) (fun r=>sV r) (fun r=>[]):=FT [] func42 (.r0<|.r0<|.bl<|.loop (.c2 (Z0x.l0.partial_correctness )) (a0,(⟨#[]⟩:ByteArray)) [] [] [] (fun _=>.pr fun aa=>.one (fun ab=>⟨[(0,qu aa),(3,sV ab)],[],0⟩) fun ab=>.bl<|.ck fun ac=>.rg [(1,hJ 10),(4,hQ 1 qb ([u8.wrap (u64.wrap ((48:Int)+(Int.tmod aa (10:Int))))]:List Int)),(5,hT (xStr [u8.wrap (u64.wrap ((48:Int)+(Int.tmod aa (10:Int))))]) [u8.wrap (u64.wrap ((48:Int)+(Int.tmod aa (10:Int))))]),(7,hN (p1 ac))]<|.rg [(1,hJ 10)]<|.r0<|.cd (fun ad=>.r0<|.ret [] [] [] ⟨[(2,sV ((Z3o [u8.wrap (u64.wrap ((48:Int)+(Int.tmod aa (10:Int))))])++ab))],[],0⟩)
 (fun ad=>.bk [] rfl))
 (.rt (fun rr=>sV rr) (fun rr=>[])))
def Z2d.f (a0:Int):Option ByteArray:=if(decide (a0<0))=true then((Z0x.f (u64.wrap ((u64.wrap (i64.wrap (0-(i64.wrap (a0+1)))))+1)))>>=fun aa=>(chk ((((⟨#[45]⟩:ByteArray).size+aa.size:Nat):Int)≤9223372036854775807))>>=fun _=>some ((⟨#[45]⟩:ByteArray)++aa)) else((Z0x.f (u64.wrap (a0)))>>=fun ab=>some ab)
theorem Z2d.ok (a0:Int):FN 19 [qi a0] [] 0 (Z2d.f a0) (fun r=>sV r) (fun r=>[]):=FT [] func19 (.r0<|.r0<|.cd (fun aa=>.bd fun ab ac=>.ck fun ad=>.rg [(5,qh call42 (Z0x.ok (u64.wrap ((u64.wrap (i64.wrap (0-(i64.wrap (a0+1)))))+1)) ab ac)),(6,hN (p1 ad))]<|.ret [] [] [] ⟨[(2,sV ((⟨#[45]⟩:ByteArray)++ab))],[],0⟩)
 (fun aa=>.bd fun ae af=>.rg [(2,qh call42 (Z0x.ok (u64.wrap (a0)) ae af))]<|.ret [] [] [] ⟨[(2,sV ae)],[],0⟩))
def Z13.l0 (a0:List Z2) (a1:List Z2) (aa:Int):Option (Bool ⊕ Unit):=if(decide (aa<(a0.length:Int)))=true then((at? a0 aa)>>=fun ab=>(at? a1 aa)>>=fun ac=>if(!((ab.f0==ac.f0)&&((ab.f1==ac.f1)&&true)))=true then(some (.inl false)) else(Z13.l0 a0 a1 (i64.wrap (aa+1)))) else(some (.inr ()))
partial_fixpoint
def Z13.f (a0:List Z2) (a1:List Z2):Option Bool:=if((a0.length:Int) != (a1.length:Int))=true then(some false) else((Z13.l0 a0 a1 0)>>=fun oo=>match oo with | .inl rr=>(some rr) | .inr _=>(some true))
theorem Z13.ok (a0:List Z2) (a1:List Z2):FN 44 [.im (.row (a0.map Z4)),.im (.row (a1.map Z4))] [] 0 (Z13.f a0 a1) (fun r=>bV r) (fun r=>[]):=FT [] func44 (.r0<|.rg [(1,hG Z4 a0),(3,hG Z4 a1)]<|.cd (fun aa=>.r0<|.ret [] [] [] ⟨[(4,bV false)],[],0⟩)
 (fun aa=>.r0<|.bl<|.loop (.one (Z13.l0.partial_correctness a0 a1)) 0 [] [] [] (fun _=>.one (fun ab=>⟨[(0,.im (.row (a0.map Z4))),(1,.im (.row (a1.map Z4))),(5,qi ab)],[],0⟩) fun ab=>.rg [(2,hG Z4 a0)]<|.cd (fun ac=>.bl<|.el fun ad ae af=>.el fun ah ai aj=>.rg [(2,hA Z4 ae af),(6,hA Z4 ai aj),(8,⟨.more (xAgg none),.n⟩)]<|.cd (fun ak=>.r0<|.ret [] [] [] ⟨[(4,bV false)],[],0⟩)
 (fun ak=>.r0<|.bk [] rfl))
 (fun ac=>.o []))
 (.sm (.rt (fun rr=>bV rr) (fun rr=>[]))
 (.st (.exit 0) (fun _=>⟨[],[],0⟩) fun _=>.r0<|.ret [] [] [] ⟨[(4,bV true)],[],0⟩))))
def Z2x.f (a0:Zi) (a1:Zi):Option Bool:=((if(a0.f0==a1.f0)=true then(if(a0.f1==a1.f1)=true then(if(a0.f2==a1.f2)=true then(if(a0.f3==a1.f3)=true then(if(a0.f4==a1.f4)=true then(if(a0.f5==a1.f5)=true then((Z13.f a0.f6 a1.f6)>>=fun aa=>if aa=true then((Z13.f a0.f7 a1.f7)>>=fun ab=>some ab) else(some false)) else(some false)) else(some false)) else(some false)) else(some false)) else(some false)) else(some false)):Option Bool)>>=fun ac=>some ac
theorem Z2x.ok (a0:Zi) (a1:Zi):FN 15 [.agg (Z27 a0),.agg (Z27 a1)] [] 0 (Z2x.f a0 a1) (fun r=>bV r) (fun r=>[]):=FT [] func15 (.rg [(0,⟨.k 0,.n⟩),(1,⟨.k 1,.n⟩)]<|.join (.sp (fun aa=>.sp (fun ab=>.sp (fun ac=>.sp (fun ad=>.sp (fun ae=>.sp (fun af=>.bd fun ah ai=>.sp (fun aj=>.bd fun ak al=>.rg [(5,hB aa),(12,hB ab),(19,hB ac),(26,hB ad),(33,hB ae),(40,hB af),(45,qh call44 (Z13.ok a0.f6 a1.f6 ah ai)),(47,hB aj),(52,qh call44 (Z13.ok a0.f7 a1.f7 ak al))]<|.o [])
 (fun aj=>.rg [(5,hB aa),(12,hB ab),(19,hB ac),(26,hB ad),(33,hB ae),(40,hB af),(45,qh call44 (Z13.ok a0.f6 a1.f6 ah ai)),(47,hB aj)]<|.o []))
 (fun af=>.rg [(5,hB aa),(12,hB ab),(19,hB ac),(26,hB ad),(33,hB ae),(40,hB af)]<|.o []))
 (fun ae=>.rg [(5,hB aa),(12,hB ab),(19,hB ac),(26,hB ad),(33,hB ae)]<|.o []))
 (fun ad=>.rg [(5,hB aa),(12,hB ab),(19,hB ac),(26,hB ad)]<|.o []))
 (fun ac=>.rg [(5,hB aa),(12,hB ab),(19,hB ac)]<|.o []))
 (fun ab=>.rg [(5,hB aa),(12,hB ab)]<|.o []))
 (fun aa=>.rg [(5,hB aa)]<|.o []))
 (.st .normal (fun am=>⟨[(4,bV am)],[],0⟩) fun am=>.ret [] [] [] ⟨[(4,bV am)],[],0⟩))
def Z12.l0 (a0:ByteArray) (aa:ByteArray) (ab:Int):Option ByteArray:=if(decide (ab<(a0.size:Int)))=true then((((chk (0≤ab∧ab<(a0.size:Int)))>>=fun _=>if((bt a0 ab)==10)=true then((chk (((aa.size+(⟨#[92,110]⟩:ByteArray).size:Nat):Int)≤9223372036854775807))>>=fun _=>some (aa++(⟨#[92,110]⟩:ByteArray))) else(((if((bt a0 ab)==34)=true then(some true) else(some ((bt a0 ab)==92))):Option Bool)>>=fun ac=>((if ac=true then((chk (((aa.size+(⟨#[92]⟩:ByteArray).size:Nat):Int)≤9223372036854775807))>>=fun _=>some (aa++(⟨#[92]⟩:ByteArray))) else(some aa)):Option ByteArray)>>=fun ad=>(chk (0≤ab∧ab≤(i64.wrap (ab+1))∧(i64.wrap (ab+1))≤(a0.size:Int)))>>=fun _=>(chk (((ad.size+(a0.extract (Int.toNat (ab)) (Int.toNat ((i64.wrap (ab+1))))).size:Nat):Int)≤9223372036854775807))>>=fun _=>some (ad++(a0.extract (Int.toNat (ab)) (Int.toNat ((i64.wrap (ab+1)))))))):Option ByteArray)>>=fun ae=>Z12.l0 a0 ae (i64.wrap (ab+1))) else(some aa)
partial_fixpoint
def Z12.f (a0:ByteArray):Option ByteArray:=(Z12.l0 a0 (⟨#[34]⟩:ByteArray) 0)>>=fun aa=>(chk (((aa.size+(⟨#[34]⟩:ByteArray).size:Nat):Int)≤9223372036854775807))>>=fun _=>some (aa++(⟨#[34]⟩:ByteArray))
theorem Z12.ok (a0:ByteArray):FN 47 [sV a0] [] 0 (Z12.f a0) (fun r=>sV r) (fun r=>[]):=FT [] func47 (.r0<|.r0<|.r0<|.bl<|.loop (.c2 (Z12.l0.partial_correctness a0)) ((⟨#[34]⟩:ByteArray),0) [] [] [] (fun _=>.pr fun aa=>.one (fun ab=>⟨[(0,sV a0),(3,sV aa),(4,qi ab)],[],0⟩) fun ab=>.r0<|.cd (fun ac=>.join (.bl<|.ck fun ad=>.rg [(2,hN (p2 ad))]<|.cd (fun ae=>.ck fun af=>.rg [(1,hN (p1 af))]<|.o [])
 (fun ae=>.join (.sp (fun ah=>.rg [(2,hN (p2 ad)),(4,hB ah)]<|.o [])
 (fun ah=>.rg [(2,hN (p2 ad)),(4,hB ah),(7,hN (p2 ad))]<|.o []))
 (.st .normal (fun ai=>⟨[(0,sV a0),(3,sV aa),(4,qi ab),(26,bV ai)],[],0⟩) fun ai=>.join (.cd (fun aj=>.ck fun ak=>.rg [(1,hN (p1 ak))]<|.o [])
 (fun aj=>.o []))
 (.st .normal (fun al=>⟨[(0,sV a0),(3,sV al),(4,qi ab)],[],0⟩) fun al=>.ck fun am=>.ck fun an=>.rg [(5,hN (p3 am)),(6,hN (p1 an))]<|.o []))))
 (.st .normal (fun ao=>⟨[(0,sV a0),(3,sV ao),(4,qi ab)],[],0⟩) fun ao=>.r0<|.bk [] rfl))
 (fun ac=>.o []))
 (.st (.exit 0) (fun ap=>⟨[(3,sV ap)],[],0⟩) fun ap=>.ck fun aq=>.rg [(1,hN (p1 aq))]<|.ret [] [] [] ⟨[(2,sV (ap++(⟨#[34]⟩:ByteArray)))],[],0⟩))
def Z0j.l0 (a0:List Zp) (aa:ByteArray) (ab:Int):Option ByteArray:=if(decide (ab<(a0.length:Int)))=true then(((if(decide (ab>0))=true then((chk (((aa.size+(⟨#[44]⟩:ByteArray).size:Nat):Int)≤9223372036854775807))>>=fun _=>some (aa++(⟨#[44]⟩:ByteArray))) else(some aa)):Option ByteArray)>>=fun ac=>(at? a0 ab)>>=fun ad=>(chk (((ac.size+ad.f0.size:Nat):Int)≤9223372036854775807))>>=fun _=>(chk ((((ac++ad.f0).size+(⟨#[61]⟩:ByteArray).size:Nat):Int)≤9223372036854775807))>>=fun _=>(Z12.f ad.f1)>>=fun ae=>(chk (((((ac++ad.f0)++(⟨#[61]⟩:ByteArray)).size+ae.size:Nat):Int)≤9223372036854775807))>>=fun _=>Z0j.l0 a0 (((ac++ad.f0)++(⟨#[61]⟩:ByteArray))++ae) (i64.wrap (ab+1))) else(some aa)
partial_fixpoint
def Z0j.f (a0:List Zp):Option ByteArray:=(Z0j.l0 a0 (⟨#[123]⟩:ByteArray) 0)>>=fun aa=>(chk (((aa.size+(⟨#[125]⟩:ByteArray).size:Nat):Int)≤9223372036854775807))>>=fun _=>some (aa++(⟨#[125]⟩:ByteArray))
theorem Z0j.ok (a0:List Zp):FN 20 [.im (.row (a0.map Z17))] [] 0 (Z0j.f a0) (fun r=>sV r) (fun r=>[]):=FT [] func20 (.r0<|.r0<|.r0<|.bl<|.loop (.c2 (Z0j.l0.partial_correctness a0)) ((⟨#[123]⟩:ByteArray),0) [] [] [] (fun _=>.pr fun aa=>.one (fun ab=>⟨[(0,.im (.row (a0.map Z17))),(3,sV aa),(4,qi ab)],[],0⟩) fun ab=>.rg [(2,hG Z17 a0)]<|.cd (fun ac=>.bl<|.r0<|.join (.cd (fun ad=>.ck fun ae=>.rg [(1,hN (p1 ae))]<|.o [])
 (fun ad=>.o []))
 (.st .normal (fun af=>⟨[(0,.im (.row (a0.map Z17))),(3,sV af),(4,qi ab)],[],0⟩) fun af=>.el fun ah ai aj=>.ck fun ak=>.ck fun al=>.bd fun am an=>.ck fun ao=>.rg [(3,hA Z17 ai aj),(6,hN (p1 ak)),(7,hN (p1 al)),(10,hA Z17 ai aj),(13,qh call47 (Z12.ok ah.f1 am an)),(14,hN (p1 ao))]<|.r0<|.bk [] rfl))
 (fun ac=>.o []))
 (.st (.exit 0) (fun ap=>⟨[(3,sV ap)],[],0⟩) fun ap=>.ck fun aq=>.rg [(1,hN (p1 aq))]<|.ret [] [] [] ⟨[(2,sV (ap++(⟨#[125]⟩:ByteArray)))],[],0⟩))
def Z20.f (a0:Z6):Option Bool:=(((Z0z.f a0.f0)>>=fun aa=>if(!aa)=true then(some true) else((Z2y.f a0.f2)>>=fun ab=>some (!ab))):Option Bool)>>=fun ac=>if ac=true then((Z0n.f)>>=fun ad=>some ad) else((Z1x.f a0)>>=fun ae=>(Z1p.f a0.f2)>>=fun af=>if(ae.2 != 0)=true then((Z0n.f)>>=fun ah=>some ah) else((Z2e.f af.1)>>=fun ai=>(Z2f.f ae.1)>>=fun aj=>(((Z0n.f)>>=fun ak=>if ak=true then(if(af.2==0)=true then(if(ai.2==0)=true then(if(aj.2==0)=true then((Z2d.f a0.f1)>>=fun al=>(chk (((al.size+(⟨#[32]⟩:ByteArray).size:Nat):Int)≤9223372036854775807))>>=fun _=>(chk ((((al++(⟨#[32]⟩:ByteArray)).size+af.1.size:Nat):Int)≤9223372036854775807))>>=fun _=>(chk (((((al++(⟨#[32]⟩:ByteArray))++af.1).size+(⟨#[32]⟩:ByteArray).size:Nat):Int)≤9223372036854775807))>>=fun _=>(Z0j.f a0.f0)>>=fun am=>(chk ((((((al++(⟨#[32]⟩:ByteArray))++af.1)++(⟨#[32]⟩:ByteArray)).size+am.size:Nat):Int)≤9223372036854775807))>>=fun _=>if(ae.1.toList==((((al++(⟨#[32]⟩:ByteArray))++af.1)++(⟨#[32]⟩:ByteArray))++am).toList)=true then((Z2x.f (ai.1) (⟨((aj.1).f2).f0,((aj.1).f2).f1,((aj.1).f2).f2,((aj.1).f2).f3,((aj.1).f2).f4,((aj.1).f2).f5,((aj.1).f2).f6,((aj.1).f2).f7⟩:Zi))>>=fun an=>if an=true then(some (((aj.1).f1)==a0.f1)) else(some false)) else(some false)) else(some false)) else(some false)) else(some false)) else(some false)):Option Bool)>>=fun ao=>some ao))
theorem Z20.ok (a0:Z6):FN 5 [.agg [.im (.row (a0.f0.map Z17)),qi a0.f1,qi a0.f2.f0,qi a0.f2.f1,qi a0.f2.f2,qu a0.f2.f3,qu a0.f2.f4,qi a0.f2.f5,.im (.row (a0.f2.f6.map Z4)),.im (.row (a0.f2.f7.map Z4))]] [] 0 (Z20.f a0) (fun r=>bV r) (fun r=>[]):=FT [] func5 (.rg [(0,⟨.k 0,.n⟩)]<|.join (.bd fun aa ab=>.sp (fun ac=>.rg [(2,qh call6 (Z0z.ok a0.f0 aa ab)),(4,hB ac)]<|.o [(0,1)])
 (fun ac=>.bd fun ad ae=>.rg [(2,qh call6 (Z0z.ok a0.f0 aa ab)),(4,hB ac),(7,qh call7 (Z2y.ok a0.f2 ad ae))]<|.o [(0,1)]))
 (.st .normal (fun af=>⟨[(1,.ptr 1 0 0),(20,bV af)],[(1,some (.box 36 [.im (.row (a0.f0.map Z17)),qi a0.f1,qi a0.f2.f0,qi a0.f2.f1,qi a0.f2.f2,qu a0.f2.f3,qu a0.f2.f4,qi a0.f2.f5,.im (.row (a0.f2.f6.map Z4)),.im (.row (a0.f2.f7.map Z4))]))],0⟩) fun af=>.cd (fun ah=>.bd fun ai aj=>.rg [(0,qh call8 (Z0n.ok  ai aj))]<|.ret [] [] [] ⟨[(2,bV ai)],[],0⟩)
 (fun ah=>.bd fun ak al=>.rg [(1,qh call11 (Z1x.ok a0 ak al))]<|.bd fun am an=>.rg [(2,qh call12 (Z1p.ok a0.f2 am an))]<|.r0<|.cd (fun ao=>.bd fun ap aq=>.rg [(0,qh call8 (Z0n.ok  ap aq))]<|.ret [] [] [] ⟨[(2,bV ap)],[],0⟩)
 (fun ao=>.bd fun ar au=>.rg [(1,qh call13 (Z2e.ok am.1 ar au)),(5,⟨.k 2,.n⟩)]<|.bd fun av aw=>.rg [(1,hC [] [(0,3)] [] [3] call16 (Z2f.ok ak.1 av aw)),(5,⟨.k 4,.n⟩)]<|.join (.bd fun ax ay=>.sp (fun az=>.sp (fun a8=>.sp (fun ba=>.sp (fun bb=>.bd fun bc be=>.ck fun bf=>.ck fun bg=>.ck fun bh=>.bd fun bi bj=>.ck fun bn=>.sp (fun bo=>.bd fun bp bq=>.sp (fun br=>.rg [(0,qh call8 (Z0n.ok  ax ay)),(1,hB az),(5,hB a8),(9,hB ba),(13,hB bb),(17,qh call19 (Z2d.ok a0.f1 bc be)),(18,hN (p1 bf)),(20,hN (p1 bg)),(21,hN (p1 bh)),(24,qh call20 (Z0j.ok a0.f0 bi bj)),(25,hN (p1 bn)),(28,hB bo),(32,qh call15 (Z2x.ok (ar.1) (⟨((av.1).f2).f0,((av.1).f2).f1,((av.1).f2).f2,((av.1).f2).f3,((av.1).f2).f4,((av.1).f2).f5,((av.1).f2).f6,((av.1).f2).f7⟩:Zi) bp bq)),(34,hB br)]<|.o [])
 (fun br=>.rg [(0,qh call8 (Z0n.ok  ax ay)),(1,hB az),(5,hB a8),(9,hB ba),(13,hB bb),(17,qh call19 (Z2d.ok a0.f1 bc be)),(18,hN (p1 bf)),(20,hN (p1 bg)),(21,hN (p1 bh)),(24,qh call20 (Z0j.ok a0.f0 bi bj)),(25,hN (p1 bn)),(28,hB bo),(32,qh call15 (Z2x.ok (ar.1) (⟨((av.1).f2).f0,((av.1).f2).f1,((av.1).f2).f2,((av.1).f2).f3,((av.1).f2).f4,((av.1).f2).f5,((av.1).f2).f6,((av.1).f2).f7⟩:Zi) bp bq)),(34,hB br)]<|.o []))
 (fun bo=>.rg [(0,qh call8 (Z0n.ok  ax ay)),(1,hB az),(5,hB a8),(9,hB ba),(13,hB bb),(17,qh call19 (Z2d.ok a0.f1 bc be)),(18,hN (p1 bf)),(20,hN (p1 bg)),(21,hN (p1 bh)),(24,qh call20 (Z0j.ok a0.f0 bi bj)),(25,hN (p1 bn)),(28,hB bo)]<|.o []))
 (fun bb=>.rg [(0,qh call8 (Z0n.ok  ax ay)),(1,hB az),(5,hB a8),(9,hB ba),(13,hB bb)]<|.o []))
 (fun ba=>.rg [(0,qh call8 (Z0n.ok  ax ay)),(1,hB az),(5,hB a8),(9,hB ba)]<|.o []))
 (fun a8=>.rg [(0,qh call8 (Z0n.ok  ax ay)),(1,hB az),(5,hB a8)]<|.o []))
 (fun az=>.rg [(0,qh call8 (Z0n.ok  ax ay)),(1,hB az)]<|.o []))
 (.st .normal (fun bu=>⟨[(2,bV bu)],[],0⟩) fun bu=>.ret [] [] [] ⟨[(2,bV bu)],[],0⟩)))))
end Go.Proofs.YtlkonkfkapdimaaGreatDoor.PvGR
