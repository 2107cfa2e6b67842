import Derived.Test.YtinhldbfifpakaaGreatProg
import Derived.Test.YtinhldbfifpakaaGreatPxEntryReads07
set_option linter.unusedVariables false
set_option linter.unnecessarySimpa false
set_option linter.unusedSimpArgs false
set_option maxRecDepth 10000
namespace Go.Proofs.YtinhldbfifpakaaGreat.PvGL2
open Go Go.Pv Go.IntKind
def Z5e.f (a0:Zg) (a1:Zg):Option (Zg×Int):=((if(a1.f5==(-9223372036854775808))=true then(some (i64.wrap (a1.f5+(1:Int)))) else(some a1.f5)):Option (Int))>>=fun aa=>((if(a1.f5==(-9223372036854775808))=true then((chk (([a0.f5,i64.wrap (0-aa)].length+[1].length)*8≤140737488355328))>>=fun _=>some ([a0.f5,i64.wrap (0-aa)]++[1])) else(some [a0.f5,i64.wrap (0-aa)])):Option (List Int))>>=fun ab=>(Z34.f ab)>>=fun ac=>(Z33.f a0 a1)>>=fun ad=>(Z2q.f ((ad.1).f6) ((ad.2).f6))>>=fun ae=>(Z2q.f ((ad.1).f7) ((ad.2).f7))>>=fun af=>((if(!ae.2)=true then(some true) else(if(!af.2)=true then(some true) else(some (decide (((ad.1).f3)<((ad.2).f3)))))):Option (Bool))>>=fun ah=>if ah=true then(some ((⟨0,0,0,0,0,0,[],[]⟩:Zg),21)) else(if(ac.2 != (0:Int))=true then(some ((⟨0,0,0,0,0,0,[],[]⟩:Zg),5)) else(some ((⟨(ad.1).f0,(ad.1).f1,(ad.1).f2,u64.wrap (((ad.1).f3)-((ad.2).f3)),u64.wrap (((ad.1).f4)-((ad.2).f4)),ac.1,ae.1,af.1⟩:Zg),0)))
theorem Z5e.ok (a0:Zg) (a1:Zg) (r:Zg×Int) (H:Z5e.f a0 a1=some r):Pv.Fn Tryz.prog 118 [.agg (Z0r a0),.agg (Z0r a1)] [] 0 (fun x o=>x = .tup [.agg [iV .i64 ((r.1).f0),iV .i64 ((r.1).f1),iV .i64 ((r.1).f2),iV .u64 ((r.1).f3),iV .u64 ((r.1).f4),iV .i64 ((r.1).f5),.own 0,.own 1],iV .i64 r.2]∧o=[(0,some (.row 2 136 (((r.1).f6).map Z0))),(1,some (.row 2 136 (((r.1).f7).map Z0)))]):=by
 unfold Z5e.f at H
 exact HT.fn H (fun r=>.tup [.agg [iV .i64 ((r.1).f0),iV .i64 ((r.1).f1),iV .i64 ((r.1).f2),iV .u64 ((r.1).f3),iV .u64 ((r.1).f4),iV .i64 ((r.1).f5),.own 0,.own 1],iV .i64 r.2]) (fun r=>[(0,some (.row 2 136 (((r.1).f6).map Z0))),(1,some (.row 2 136 (((r.1).f7).map Z0)))]) [0,1] Tryz.func118 rfl rfl hmx (.rg [(0,⟨.k 0,.n⟩),(1,⟨.k 1,.n⟩),(2,⟨.k 2,.n⟩)]<|.r0<|.r0<|.r0<|.join (.cd (fun aa=>.r0<|.o [(0,3),(1,4),(2,5)])
 (fun aa=>.o [(0,3),(1,4),(2,5)]))
 (.st .normal (fun ab=>⟨[(2,.ptr 3 0 0),(3,.ptr 4 0 0),(4,.ptr 5 0 0),(6,iV .i64 ab),(7,bV (a1.f5==(-9223372036854775808)))],[(3,some (.box 48 (Z0r a0))),(4,some (.box 48 (Z0r a1))),(5,some (.box 48 [iV .i64 0,iV .i64 0,iV .i64 0,iV .u64 0,iV .u64 0,iV .i64 0,.none0,.none0]))],0⟩) fun ab=>.rg [(4,hQ 6 (Z1 .i64) ([a0.f5,i64.wrap (0-ab)]:List Int))]<|.r0<|.join (.cd (fun ac=>.ck fun ad=>.rg [(1,hQ 7 (Z1 .i64) ([1]:List Int)),(2,⟨.app 8 (([a0.f5,i64.wrap (0-ab)]++[1]).map (Z1 .i64)),.c (p:=([a0.f5,i64.wrap (0-ab)]++[1]).map (Z1 .i64)=([a0.f5,i64.wrap (0-ab)].map (Z1 .i64))++([1].map (Z1 .i64))) (by simp) (.c (p:=∀ c∈([1].map (Z1 .i64)),c.length=1) (Z5c _ _ _ (fun _=>rfl)) (.c (p:=∀ c∈([1].map (Z1 .i64)),Z3b (c.map .im)=true) (Z4p _ _ (fun _=>rfl)) (.c (p:=(([a0.f5,i64.wrap (0-ab)].map (Z1 .i64)).length+([1].map (Z1 .i64)).length)*8≤140737488355328) (by simpa using ad) .n)))⟩)]<|.o [(3,9),(4,10),(5,11),(8,12)])
 (fun ac=>.o [(3,9),(4,10),(5,11),(6,12)]))
 (.st .normal (fun ae=>⟨[(2,.ptr 9 0 0),(3,.ptr 10 0 0),(4,.ptr 11 0 0),(8,.own 12)],[(9,some (.box 48 (Z0r a0))),(10,some (.box 48 (Z0r a1))),(11,some (.box 48 [iV .i64 0,iV .i64 0,iV .i64 0,iV .u64 0,iV .u64 0,iV .i64 0,.none0,.none0])),(12,some (.row 1 2 (ae.map (Z1 .i64))))],0⟩) fun ae=>.bd fun af ah=>.rg [(1,hC [] [] [12] [] Tryz.call154 (Z34.ok ae af ah))]<|.bd fun ai aj=>.rg [(2,hC [] [] [] [] Tryz.call155 (Z33.ok a0 a1 ai aj))]<|.bd fun ak al=>.rg [(4,hC [] [(0,13)] [] [13] Tryz.call156 (Z2q.ok ((ai.1).f6) ((ai.2).f6) ak al))]<|.bd fun am ao=>.rg [(4,hC [] [(0,14)] [] [14] Tryz.call156 (Z2q.ok ((ai.1).f7) ((ai.2).f7) am ao))]<|.join (.sp (fun aq=>.rg [(2,hB aq)]<|.o [(9,15),(10,16),(11,17),(13,18),(14,19)])
 (fun aq=>.sp (fun ar=>.rg [(2,hB aq),(6,hB ar)]<|.o [(9,15),(10,16),(11,17),(13,18),(14,19)])
 (fun ar=>.rg [(2,hB aq),(6,hB ar)]<|.o [(9,15),(10,16),(11,17),(13,18),(14,19)])))
 (.st .normal (fun au=>⟨[(2,.ptr 15 0 0),(3,.ptr 16 0 0),(4,.ptr 17 0 0),(9,iV .i64 af.1),(10,iV .i64 af.2),(11,.own 18),(13,.own 19),(71,bV au)],[(15,some (.box 48 (Z0r (ai.1)))),(16,some (.box 48 (Z0r (ai.2)))),(17,some (.box 48 [iV .i64 0,iV .i64 0,iV .i64 0,iV .u64 0,iV .u64 0,iV .i64 0,.none0,.none0])),(18,some (.row 2 136 (ak.1.map Z0))),(19,some (.row 2 136 (am.1.map Z0)))],0⟩) fun au=>.cd (fun av=>.r0<|.ret [(17,2)] [] [0,1] ⟨[(4,.ptr 2 0 0),(5,iV .i64 21)],[(0,some (.row 2 136 ((((⟨0,0,0,0,0,0,[],[]⟩:Zg)).f6).map Z0))),(1,some (.row 2 136 ((((⟨0,0,0,0,0,0,[],[]⟩:Zg)).f7).map Z0))),(2,some (.box 48 [iV .i64 (((⟨0,0,0,0,0,0,[],[]⟩:Zg)).f0),iV .i64 (((⟨0,0,0,0,0,0,[],[]⟩:Zg)).f1),iV .i64 (((⟨0,0,0,0,0,0,[],[]⟩:Zg)).f2),iV .u64 (((⟨0,0,0,0,0,0,[],[]⟩:Zg)).f3),iV .u64 (((⟨0,0,0,0,0,0,[],[]⟩:Zg)).f4),iV .i64 (((⟨0,0,0,0,0,0,[],[]⟩:Zg)).f5),.own 0,.own 1]))],0⟩)
 (fun av=>.r0<|.cd (fun ax=>.r0<|.ret [(17,2)] [] [0,1] ⟨[(4,.ptr 2 0 0),(5,iV .i64 5)],[(0,some (.row 2 136 ((((⟨0,0,0,0,0,0,[],[]⟩:Zg)).f6).map Z0))),(1,some (.row 2 136 ((((⟨0,0,0,0,0,0,[],[]⟩:Zg)).f7).map Z0))),(2,some (.box 48 [iV .i64 (((⟨0,0,0,0,0,0,[],[]⟩:Zg)).f0),iV .i64 (((⟨0,0,0,0,0,0,[],[]⟩:Zg)).f1),iV .i64 (((⟨0,0,0,0,0,0,[],[]⟩:Zg)).f2),iV .u64 (((⟨0,0,0,0,0,0,[],[]⟩:Zg)).f3),iV .u64 (((⟨0,0,0,0,0,0,[],[]⟩:Zg)).f4),iV .i64 (((⟨0,0,0,0,0,0,[],[]⟩:Zg)).f5),.own 0,.own 1]))],0⟩)
 (fun ax=>.rg [(20,⟨.k 20,.n⟩)]<|.r0<|.ret [(17,2),(18,0),(19,1)] [] [] ⟨[(4,.ptr 2 0 0),(5,iV .i64 0)],[(0,some (.row 2 136 ((((⟨(ai.1).f0,(ai.1).f1,(ai.1).f2,u64.wrap (((ai.1).f3)-((ai.2).f3)),u64.wrap (((ai.1).f4)-((ai.2).f4)),af.1,ak.1,am.1⟩:Zg)).f6).map Z0))),(1,some (.row 2 136 ((((⟨(ai.1).f0,(ai.1).f1,(ai.1).f2,u64.wrap (((ai.1).f3)-((ai.2).f3)),u64.wrap (((ai.1).f4)-((ai.2).f4)),af.1,ak.1,am.1⟩:Zg)).f7).map Z0))),(2,some (.box 48 [iV .i64 (((⟨(ai.1).f0,(ai.1).f1,(ai.1).f2,u64.wrap (((ai.1).f3)-((ai.2).f3)),u64.wrap (((ai.1).f4)-((ai.2).f4)),af.1,ak.1,am.1⟩:Zg)).f0),iV .i64 (((⟨(ai.1).f0,(ai.1).f1,(ai.1).f2,u64.wrap (((ai.1).f3)-((ai.2).f3)),u64.wrap (((ai.1).f4)-((ai.2).f4)),af.1,ak.1,am.1⟩:Zg)).f1),iV .i64 (((⟨(ai.1).f0,(ai.1).f1,(ai.1).f2,u64.wrap (((ai.1).f3)-((ai.2).f3)),u64.wrap (((ai.1).f4)-((ai.2).f4)),af.1,ak.1,am.1⟩:Zg)).f2),iV .u64 (((⟨(ai.1).f0,(ai.1).f1,(ai.1).f2,u64.wrap (((ai.1).f3)-((ai.2).f3)),u64.wrap (((ai.1).f4)-((ai.2).f4)),af.1,ak.1,am.1⟩:Zg)).f3),iV .u64 (((⟨(ai.1).f0,(ai.1).f1,(ai.1).f2,u64.wrap (((ai.1).f3)-((ai.2).f3)),u64.wrap (((ai.1).f4)-((ai.2).f4)),af.1,ak.1,am.1⟩:Zg)).f4),iV .i64 (((⟨(ai.1).f0,(ai.1).f1,(ai.1).f2,u64.wrap (((ai.1).f3)-((ai.2).f3)),u64.wrap (((ai.1).f4)-((ai.2).f4)),af.1,ak.1,am.1⟩:Zg)).f5),.own 0,.own 1]))],0⟩))))))
def Z7f.f (a0:Zg) (a1:Int):Option (List Z2):=if(a1==(0:Int))=true then(some a0.f6) else(some a0.f7)
theorem Z7f.ok (a0:Zg) (a1:Int) (r:List Z2) (H:Z7f.f a0 a1=some r):Pv.Fn Tryz.prog 157 [.agg (Z0r a0),iV .i64 a1] [] 0 (fun x o=>x = .im (.row (r.map Z0))∧o=[]):=by
 unfold Z7f.f at H
 exact HT.fn H (fun r=>.im (.row (r.map Z0))) (fun r=>[]) [] Tryz.func157 rfl rfl hmx (.rg [(0,⟨.k 0,.n⟩)]<|.r0<|.cd (fun aa=>.r0<|.ret [] [] [] ⟨[(4,.im (.row (a0.f6.map Z0)))],[],0⟩)
 (fun aa=>.r0<|.ret [] [] [] ⟨[(4,.im (.row (a0.f7.map Z0)))],[],0⟩))
def Z1o.l1 (a0:List Z7) (a1:Int) (aa:List Z2) (ab:Int) (ac:List Z2) (ad:Int):Option (List Z2):=if(decide (ad<(aa.length:Int)))=true then((at? aa ad)>>=fun ae=>(chk ((ac.length+[(⟨ae.f0,1⟩:Z2)].length)*16≤140737488355328))>>=fun _=>Z1o.l1 a0 a1 aa ab (ac++[(⟨ae.f0,1⟩:Z2)]) (i64.wrap (ad+(1:Int)))) else(some ac)
partial_fixpoint
def Z1o.l0 (a0:List Z7) (a1:Int) (aa:List Z2) (ab:Int):Option (List Z2):=if(decide (ab<(a0.length:Int)))=true then((at? a0 ab)>>=fun ac=>(Z7f.f ac.f1 a1)>>=fun ad=>(Z1o.l1 a0 a1 ad ab aa 0)>>=fun ae=>Z1o.l0 a0 a1 ae (i64.wrap (ab+(1:Int)))) else(some aa)
partial_fixpoint
def Z1o.l2 (aa:(List Z2)×Int) (ab:List Int) (ac:Int):Option (List Int):=if(decide (ac<(aa.1.length:Int)))=true then((at? aa.1 ac)>>=fun ad=>(chk ((ab.length+[ad.f0].length)*8≤140737488355328))>>=fun _=>Z1o.l2 aa (ab++[ad.f0]) (i64.wrap (ac+(1:Int)))) else(some ab)
partial_fixpoint
def Z1o.f (a0:List Z7) (a1:Int):Option (List Int):=(Z1o.l0 a0 a1 [] 0)>>=fun aa=>(Z2e.f aa)>>=fun ab=>(Z1o.l2 ab [] 0)>>=fun ac=>some ac
theorem Z1o.ok (a0:List Z7) (a1:Int) (r:List Int) (H:Z1o.f a0 a1=some r):Pv.Fn Tryz.prog 119 [.im (.row (a0.map Z4)),iV .i64 a1] [] 0 (fun x o=>x = .own 0∧o=[(0,some (.row 1 3 (r.map (Z1 .i64))))]):=by
 unfold Z1o.f at H
 exact HT.fn H (fun r=>.own 0) (fun r=>[(0,some (.row 1 3 (r.map (Z1 .i64))))]) [0] Tryz.func119 rfl rfl hmx (.r0<|.r0<|.r0<|.bl<|.loop (.c2 (Z1o.l0.partial_correctness a0 a1)) ([],0) [] [] [6] (fun _=>.pr fun aa=>.one (fun ab=>⟨[(0,.im (.row (a0.map Z4))),(1,iV .i64 a1),(5,.own 6),(6,iV .i64 ab)],[(6,some (.row 2 136 (aa.map Z0)))],0⟩) fun ab=>.rg [(2,hG Z4 a0)]<|.cd (fun ac=>.bl<|.el fun ad ae af=>.bd fun ah ai=>.rg [(2,hA Z4 ae af),(6,hC [] [] [] [] Tryz.call157 (Z7f.ok ad.f1 a1 ah ai))]<|.r0<|.bl<|.loop (.c2 (Z1o.l1.partial_correctness a0 a1 ah ab)) (aa,0) [(6,9)] [] [] (fun _=>.pr fun aj=>.one (fun ak=>⟨[(0,.im (.row (a0.map Z4))),(1,iV .i64 a1),(5,.own 9),(6,iV .i64 ab),(7,.im (.row (ah.map Z0))),(8,iV .i64 ak)],[(9,some (.row 2 136 (aj.map Z0)))],0⟩) fun ak=>.rg [(2,hG Z0 ah)]<|.cd (fun al=>.bl<|.el fun am ao aq=>.ck fun ar=>.rg [(3,hA Z0 ao aq),(7,hQ 10 Z0 ([(⟨am.f0,1⟩:Z2)]:List Z2)),(8,hP 11 Z0 2 ar)]<|.r0<|.bk [(11,9)] rfl)
 (fun al=>.o [(9,12)]))
 (.st (.exit 2) (fun au=>⟨[(0,.im (.row (a0.map Z4))),(1,iV .i64 a1),(5,.own 12),(6,iV .i64 ab)],[(12,some (.row 2 136 (au.map Z0)))],0⟩) fun au=>.r0<|.bk [(12,6)] rfl))
 (fun ac=>.o [(6,13)]))
 (.st (.exit 0) (fun av=>⟨[(5,.own 13)],[(13,some (.row 2 136 (av.map Z0)))],0⟩) fun av=>.bd fun ax az=>.rg [(1,⟨.more (Z4z [] [(0,14)] [13] [14] 0 (.tup [.own 0,iV .i64 ax.2]) [(0,some (.row 2 136 (ax.1.map Z0)))]),.c (Tryz.call158) (.c (Z2e.ok av ax az) (.c (p:=∀ c∈ax.1.map Z0,∀ x∈c,∃ v,x=Im.sc v) (Z5d _ _ (fun _=>by simp)) .n))⟩)]<|.r0<|.r0<|.bl<|.loop (.c2 (Z1o.l2.partial_correctness ax)) ([],0) [(14,17)] [] [18] (fun _=>.pr fun a9=>.one (fun ba=>⟨[(9,.own 17),(11,.own 18),(12,iV .i64 ba)],[(17,some (.row 2 136 (ax.1.map Z0))),(18,some (.row 1 3 (a9.map (Z1 .i64))))],0⟩) fun ba=>.rg [(2,hG Z0 ax.1)]<|.cd (fun bb=>.bl<|.el fun bc be bf=>.ck fun bg=>.rg [(3,hX Z0 be bf),(5,hL Z0 bf),(6,hQ 19 (Z1 .i64) ([bc.f0]:List Int)),(7,hP 20 (Z1 .i64) 1 bg)]<|.r0<|.bk [(17,17),(20,18)] rfl)
 (fun bb=>.o [(18,21)]))
 (.st (.exit 4) (fun bh=>⟨[(11,.own 21)],[(21,some (.row 1 3 (bh.map (Z1 .i64))))],0⟩) fun bh=>.r0<|.ret [(21,0)] [] [] ⟨[(4,.own 0)],[(0,some (.row 1 3 (bh.map (Z1 .i64))))],0⟩)))
def Z5u.f (a0:List Z7) (a1:Z7):Option (Bool):=if((a0.length:Int)==(0:Int))=true then(some true) else((at? a0 (i64.wrap ((a0.length:Int)-(1:Int))))>>=fun aa=>((if(decide ((a0.length:Int)>(31:Int)))=true then(some true) else(if(decide (a1.f0≤aa.f0))=true then(some true) else(if(a1.f1.f0 != aa.f1.f0)=true then(some true) else(if(a1.f1.f1 != aa.f1.f1)=true then(some true) else(some (a1.f1.f2 != aa.f1.f2)))))):Option (Bool))>>=fun ab=>if ab=true then(some false) else(((if(a1.f1.f0==(0:Int))=true then((Z5e.f a1.f1 aa.f1)>>=fun ac=>if(ac.2==(21:Int))=true then(some (.inl false)) else(some (.inr ()))) else(some (.inr ()))):Option (Bool ⊕ Unit))>>=fun oo=>match oo with | .inl rr=>(some rr) | .inr _=>((chk ((([]:List Z7).length+a0.length)*104≤140737488355328))>>=fun _=>(chk ((a0.length+[a1].length)*104≤140737488355328))>>=fun _=>(((Z1o.f (a0++[a1]) 0)>>=fun ad=>if(decide ((ad.length:Int)≤(512:Int)))=true then((Z1o.f (a0++[a1]) 1)>>=fun ae=>some (decide ((ae.length:Int)≤(512:Int)))) else(some false)):Option (Bool))>>=fun af=>some af)))
theorem Z5u.ok (a0:List Z7) (a1:Z7) (r:Bool) (H:Z5u.f a0 a1=some r):Pv.Fn Tryz.prog 90 [.im (.row (a0.map Z4)),.agg [iV .i64 a1.f0,iV .i64 a1.f1.f0,iV .i64 a1.f1.f1,iV .i64 a1.f1.f2,iV .u64 a1.f1.f3,iV .u64 a1.f1.f4,iV .i64 a1.f1.f5,.im (.row (a1.f1.f6.map Z0)),.im (.row (a1.f1.f7.map Z0))]] [] 0 (fun x o=>x=bV r∧o=[]):=by
 unfold Z5u.f at H
 exact HT.fn H (fun r=>bV r) (fun r=>[]) [] Tryz.func90 rfl rfl hmx (.rg [(0,⟨.k 0,.n⟩)]<|.rg [(1,hG Z4 a0)]<|.cd (fun aa=>.r0<|.ret [] [] [] ⟨[(4,bV true)],[],0⟩)
 (fun aa=>.el fun ab ac ad=>.rg [(2,hG Z4 a0),(4,hA Z4 ac ad),(6,⟨.k 1,.n⟩)]<|.join (.sp (fun ae=>.rg [(1,hG Z4 a0),(3,hB ae)]<|.o [(0,2),(1,3)])
 (fun ae=>.sp (fun af=>.rg [(1,hG Z4 a0),(3,hB ae),(10,hB af)]<|.o [(0,2),(1,3)])
 (fun af=>.sp (fun ah=>.rg [(1,hG Z4 a0),(3,hB ae),(10,hB af),(19,hB ah)]<|.o [(0,2),(1,3)])
 (fun ah=>.sp (fun ai=>.rg [(1,hG Z4 a0),(3,hB ae),(10,hB af),(19,hB ah),(28,hB ai)]<|.o [(0,2),(1,3)])
 (fun ai=>.rg [(1,hG Z4 a0),(3,hB ae),(10,hB af),(19,hB ah),(28,hB ai)]<|.o [(0,2),(1,3)])))))
 (.st .normal (fun aj=>⟨[(0,.im (.row (a0.map Z4))),(3,.ptr 2 0 0),(5,.ptr 3 0 0),(54,bV aj)],[(2,some (.box 50 [iV .i64 a1.f0,iV .i64 a1.f1.f0,iV .i64 a1.f1.f1,iV .i64 a1.f1.f2,iV .u64 a1.f1.f3,iV .u64 a1.f1.f4,iV .i64 a1.f1.f5,.im (.row (a1.f1.f6.map Z0)),.im (.row (a1.f1.f7.map Z0))])),(3,some (.box 50 [iV .i64 ab.f0,iV .i64 ab.f1.f0,iV .i64 ab.f1.f1,iV .i64 ab.f1.f2,iV .u64 ab.f1.f3,iV .u64 ab.f1.f4,iV .i64 ab.f1.f5,.im (.row (ab.f1.f6.map Z0)),.im (.row (ab.f1.f7.map Z0))]))],0⟩) fun aj=>.cd (fun ak=>.r0<|.ret [] [] [] ⟨[(4,bV false)],[],0⟩)
 (fun ak=>.r0<|.join (.cd (fun al=>.bd fun am ao=>.rg [(4,hC [] [(0,4),(1,5)] [] [4,5] Tryz.call118 (Z5e.ok a1.f1 ab.f1 am ao)),(8,⟨.k 6,.n⟩)]<|.r0<|.cd (fun aq=>.r0<|.ret [] [] [] ⟨[(4,bV false)],[],0⟩)
 (fun aq=>.o [(2,7)]))
 (fun al=>.o [(2,7)]))
 (.sm (.rt (fun rr=>bV rr) (fun rr=>[]))
 (.st .normal (fun _=>⟨[(0,.im (.row (a0.map Z4))),(3,.ptr 7 0 0)],[(7,some (.box 50 [iV .i64 a1.f0,iV .i64 a1.f1.f0,iV .i64 a1.f1.f1,iV .i64 a1.f1.f2,iV .u64 a1.f1.f3,iV .u64 a1.f1.f4,iV .i64 a1.f1.f5,.im (.row (a1.f1.f6.map Z0)),.im (.row (a1.f1.f7.map Z0))]))],0⟩) fun _=>.r0<|.ck fun ar=>.rg [(2,hP0 8 Z4 9 ar)]<|.ck fun au=>.rg [(2,hQ 9 Z4 ([a1]:List Z7)),(3,hP 10 Z4 9 au)]<|.join (.bd fun av ax=>.sp (fun az=>.bd fun a9 ba=>.rg [(1,⟨.more (Z4z [] [(0,11)] [10] [11] 0 (.own 0) [(0,some (.row 1 3 (av.map (Z1 .i64))))]),.c (Tryz.call119) (.c (Z1o.ok (a0++[a1]) 0 av ax) (.c (p:=∀ c∈av.map (Z1 .i64),∀ x∈c,∃ v,x=Im.sc v) (Z5d _ _ (fun _=>by simp)) .n))⟩),(2,hG (Z1 .i64) av),(4,hB az),(6,⟨.more (Z4z [] [(0,12)] [10] [12] 0 (.own 0) [(0,some (.row 1 3 (a9.map (Z1 .i64))))]),.c (Tryz.call119) (.c (Z1o.ok (a0++[a1]) 1 a9 ba) (.c (p:=∀ c∈a9.map (Z1 .i64),∀ x∈c,∃ v,x=Im.sc v) (Z5d _ _ (fun _=>by simp)) .n))⟩),(7,hG (Z1 .i64) a9)]<|.o [])
 (fun az=>.rg [(1,⟨.more (Z4z [] [(0,11)] [10] [11] 0 (.own 0) [(0,some (.row 1 3 (av.map (Z1 .i64))))]),.c (Tryz.call119) (.c (Z1o.ok (a0++[a1]) 0 av ax) (.c (p:=∀ c∈av.map (Z1 .i64),∀ x∈c,∃ v,x=Im.sc v) (Z5d _ _ (fun _=>by simp)) .n))⟩),(2,hG (Z1 .i64) av),(4,hB az)]<|.o []))
 (.st .normal (fun bb=>⟨[(4,bV bb)],[],0⟩) fun bb=>.ret [] [] [] ⟨[(4,bV bb)],[],0⟩)))))))
def Z7m.f (a0:Int):Option (Int):=if(decide (a0≥(0:Int)))=true then(some (u64.wrap ((u64.wrap (a0))*(2:Int)))) else(some (u64.wrap ((u64.wrap ((u64.wrap (i64.wrap (0-(i64.wrap (a0+(1:Int))))))*(2:Int)))+(1:Int))))
theorem Z7m.ok (a0:Int) (r:Int) (H:Z7m.f a0=some r):Pv.Fn Tryz.prog 159 [iV .i64 a0] [] 0 (fun x o=>x=iV .u64 r∧o=[]):=by
 unfold Z7m.f at H
 exact HT.fn H (fun r=>iV .u64 r) (fun r=>[]) [] Tryz.func159 rfl rfl hmx (.r0<|.r0<|.cd (fun aa=>.r0<|.ret [] [] [] ⟨[(2,iV .u64 (u64.wrap ((u64.wrap (a0))*(2:Int))))],[],0⟩)
 (fun aa=>.r0<|.ret [] [] [] ⟨[(2,iV .u64 (u64.wrap ((u64.wrap ((u64.wrap (i64.wrap (0-(i64.wrap (a0+(1:Int))))))*(2:Int)))+(1:Int))))],[],0⟩))
def Z4v.f (a0:Int):Option (ByteArray):=(Z7m.f a0)>>=fun aa=>(Zv.f aa)>>=fun ab=>some ab
theorem Z4v.ok (a0:Int) (r:ByteArray) (H:Z4v.f a0=some r):Pv.Fn Tryz.prog 120 [iV .i64 a0] [] 0 (fun x o=>x=sV r∧o=[]):=by
 unfold Z4v.f at H
 exact HT.fn H (fun r=>sV r) (fun r=>[]) [] Tryz.func120 rfl rfl hmx (.r0<|.bd fun aa ab=>.bd fun ac ad=>.rg [(1,hC [] [] [] [] Tryz.call159 (Z7m.ok a0 aa ab)),(2,hC [] [] [] [] Tryz.call51 (Zv.ok aa ac ad))]<|.ret [] [] [] ⟨[(2,sV ac)],[],0⟩)
def Z3j.l1 (a0:List Int) (aa:List Z3e) (ab:Int) (ac:Int):Option (Int):=((if(decide ((i64.wrap (ab+ac))<(a0.length:Int)))=true then((at? a0 (i64.wrap (ab+ac)))>>=fun ad=>(at? a0 ab)>>=fun ae=>some (ad==(i64.wrap (ae+ac)))) else(some false)):Option (Bool))>>=fun af=>if af=true then(Z3j.l1 a0 aa ab (i64.wrap (ac+(1:Int)))) else(some ac)
partial_fixpoint
def Z3j.l0 (a0:List Int) (aa:List Z3e) (ab:Int):Option (List Z3e):=if(decide (ab<(a0.length:Int)))=true then((Z3j.l1 a0 aa ab 1)>>=fun ac=>((if(decide (ab>(0:Int)))=true then((at? a0 ab)>>=fun ad=>(at? a0 (i64.wrap (ab-(1:Int))))>>=fun ae=>some (i64.wrap ((i64.wrap (ad-ae))-(1:Int)))) else(some 0)):Option (Int))>>=fun af=>(chk ((aa.length+[(⟨af,ac⟩:Z3e)].length)*16≤140737488355328))>>=fun _=>Z3j.l0 a0 (aa++[(⟨af,ac⟩:Z3e)]) (i64.wrap (ab+ac))) else(some aa)
partial_fixpoint
def Z3j.f (a0:List Int):Option (Int×(List Z3e)):=if((a0.length:Int)==(0:Int))=true then(some (0,[])) else((Z3j.l0 a0 [] 0)>>=fun aa=>(at? a0 0)>>=fun ab=>some (ab,aa))
theorem Z3j.ok (a0:List Int) (r:Int×(List Z3e)) (H:Z3j.f a0=some r):Pv.Fn Tryz.prog 121 [.im (.row (a0.map (Z1 .i64)))] [] 0 (fun x o=>x = .tup [iV .i64 r.1,.own 0]∧o=[(0,some (.row 2 210 (r.2.map Z2d)))]):=by
 unfold Z3j.f at H
 exact HT.fn H (fun r=>.tup [iV .i64 r.1,.own 0]) (fun r=>[(0,some (.row 2 210 (r.2.map Z2d)))]) [0] Tryz.func121 rfl rfl hmx (.r0<|.r0<|.rg [(1,hG (Z1 .i64) a0)]<|.cd (fun aa=>.r0<|.ret [] [] [0] ⟨[(2,iV .i64 0),(3,.own 0)],[(0,some (.row 2 210 ([].map Z2d)))],0⟩)
 (fun aa=>.r0<|.bl<|.loop (.c2 (Z3j.l0.partial_correctness a0)) ([],0) [] [] [2] (fun _=>.pr fun ab=>.one (fun ac=>⟨[(0,.im (.row (a0.map (Z1 .i64)))),(4,.own 2),(5,iV .i64 ac)],[(2,some (.row 2 210 (ab.map Z2d)))],0⟩) fun ac=>.rg [(2,hG (Z1 .i64) a0)]<|.cd (fun ad=>.bl<|.r0<|.bl<|.loop (.one (Z3j.l1.partial_correctness a0 ab ac)) 1 [(2,4)] [] [] (fun _=>.one (fun ae=>⟨[(0,.im (.row (a0.map (Z1 .i64)))),(4,.own 4),(5,iV .i64 ac),(6,iV .i64 ae)],[(4,some (.row 2 210 (ab.map Z2d)))],0⟩) fun ae=>.join (.sp (fun af=>.el fun ah ai aj=>.el fun ak al am=>.rg [(4,hG (Z1 .i64) a0),(6,hB af),(11,hA (Z1 .i64) ai aj),(15,hA (Z1 .i64) al am)]<|.o [(4,5)])
 (fun af=>.rg [(4,hG (Z1 .i64) a0),(6,hB af)]<|.o [(4,5)]))
 (.st .normal (fun ao=>⟨[(0,.im (.row (a0.map (Z1 .i64)))),(4,.own 5),(5,iV .i64 ac),(6,iV .i64 ae),(35,bV ao)],[(5,some (.row 2 210 (ab.map Z2d)))],0⟩) fun ao=>.cd (fun aq=>.bl<|.r0<|.bk [(5,4)] rfl)
 (fun aq=>.o [(5,6)])))
 (.st (.exit 2) (fun ar=>⟨[(0,.im (.row (a0.map (Z1 .i64)))),(4,.own 6),(5,iV .i64 ac),(6,iV .i64 ar)],[(6,some (.row 2 210 (ab.map Z2d)))],0⟩) fun ar=>.r0<|.r0<|.join (.cd (fun au=>.el fun av ax az=>.el fun a9 ba bb=>.rg [(2,hA (Z1 .i64) ax az),(7,hA (Z1 .i64) ba bb)]<|.o [(6,7)])
 (fun au=>.o [(6,7)]))
 (.st .normal (fun bc=>⟨[(0,.im (.row (a0.map (Z1 .i64)))),(4,.own 7),(5,iV .i64 ac),(6,iV .i64 ar),(7,iV .i64 bc)],[(7,some (.row 2 210 (ab.map Z2d)))],0⟩) fun bc=>.ck fun be=>.rg [(4,hQ 8 Z2d ([(⟨bc,ar⟩:Z3e)]:List Z3e)),(5,hP 9 Z2d 2 be)]<|.r0<|.bk [(9,2)] rfl)))
 (fun ad=>.o [(2,10)]))
 (.st (.exit 0) (fun bf=>⟨[(0,.im (.row (a0.map (Z1 .i64)))),(4,.own 10)],[(10,some (.row 2 210 (bf.map Z2d)))],0⟩) fun bf=>.el fun bg bh bi=>.rg [(1,hA (Z1 .i64) bh bi)]<|.ret [(10,0)] [] [] ⟨[(2,iV .i64 bg),(3,.own 0)],[(0,some (.row 2 210 (bf.map Z2d)))],0⟩)))
def Z4h.l0 (a1:List Z3e) (aa:ByteArray) (ab:Int):Option (ByteArray):=if(decide (ab<(a1.length:Int)))=true then(((if(decide (ab>(0:Int)))=true then((at? a1 ab)>>=fun ac=>(Zv.f (u64.wrap (i64.wrap (ac.f0-(1:Int)))))>>=fun ad=>(chk (((aa.size+ad.size:Nat):Int)≤9223372036854775807))>>=fun _=>some (aa++ad)) else(some aa)):Option (ByteArray))>>=fun ae=>(at? a1 ab)>>=fun af=>(Zv.f (u64.wrap (i64.wrap (af.f1-(1:Int)))))>>=fun ah=>(chk (((ae.size+ah.size:Nat):Int)≤9223372036854775807))>>=fun _=>Z4h.l0 a1 (ae++ah) (i64.wrap (ab+(1:Int)))) else(some aa)
partial_fixpoint
def Z4h.f (a0:Int) (a1:List Z3e):Option (ByteArray):=(Zv.f (u64.wrap ((a1.length:Int))))>>=fun aa=>if((a1.length:Int)==(0:Int))=true then(some aa) else((Z4v.f a0)>>=fun ab=>(chk (((aa.size+ab.size:Nat):Int)≤9223372036854775807))>>=fun _=>(Z4h.l0 a1 (aa++ab) 0)>>=fun ac=>some ac)
theorem Z4h.ok (a0:Int) (a1:List Z3e) (r:ByteArray) (H:Z4h.f a0 a1=some r):Pv.Fn Tryz.prog 122 [iV .i64 a0,.im (.row (a1.map Z2d))] [] 0 (fun x o=>x=sV r∧o=[]):=by
 unfold Z4h.f at H
 exact HT.fn H (fun r=>sV r) (fun r=>[]) [] Tryz.func122 rfl rfl hmx (.r0<|.bd fun aa ab=>.rg [(1,hG Z2d a1),(3,hC [] [] [] [] Tryz.call51 (Zv.ok (u64.wrap ((a1.length:Int))) aa ab))]<|.rg [(1,hG Z2d a1)]<|.cd (fun ac=>.r0<|.ret [] [] [] ⟨[(4,sV aa)],[],0⟩)
 (fun ac=>.bd fun ad ae=>.ck fun af=>.rg [(2,hC [] [] [] [] Tryz.call120 (Z4v.ok a0 ad ae)),(3,hN (p1 af))]<|.r0<|.bl<|.loop (.c2 (Z4h.l0.partial_correctness a1)) (aa++ad,0) [] [] [] (fun _=>.pr fun ah=>.one (fun ai=>⟨[(1,.im (.row (a1.map Z2d))),(5,sV ah),(6,iV .i64 ai)],[],0⟩) fun ai=>.rg [(2,hG Z2d a1)]<|.cd (fun aj=>.bl<|.r0<|.join (.cd (fun ak=>.el fun al am ao=>.bd fun aq ar=>.ck fun au=>.rg [(3,hA Z2d am ao),(8,hC [] [] [] [] Tryz.call51 (Zv.ok (u64.wrap (i64.wrap (al.f0-(1:Int)))) aq ar)),(9,hN (p1 au))]<|.o [])
 (fun ak=>.o []))
 (.st .normal (fun av=>⟨[(1,.im (.row (a1.map Z2d))),(5,sV av),(6,iV .i64 ai)],[],0⟩) fun av=>.el fun ax az a9=>.bd fun ba bb=>.ck fun bc=>.rg [(3,hA Z2d az a9),(8,hC [] [] [] [] Tryz.call51 (Zv.ok (u64.wrap (i64.wrap (ax.f1-(1:Int)))) ba bb)),(9,hN (p1 bc))]<|.r0<|.bk [] rfl))
 (fun aj=>.o []))
 (.st (.exit 0) (fun be=>⟨[(5,sV be)],[],0⟩) fun be=>.r0<|.ret [] [] [] ⟨[(4,sV be)],[],0⟩)))
def Z0x.l0 (a0:Zg) (a1:List Int) (a2:List Int) (aa:List Int) (ab:Int):Option (List Int):=if(decide (ab<(a1.length:Int)))=true then((at? a1 ab)>>=fun ac=>(Z4d.f a0.f6 ac)>>=fun ad=>(chk ((aa.length+[ad].length)*8≤140737488355328))>>=fun _=>Z0x.l0 a0 a1 a2 (aa++[ad]) (i64.wrap (ab+(1:Int)))) else(some aa)
partial_fixpoint
def Z0x.l1 (a0:Zg) (a2:List Int) (aa:List Int) (ab:Int):Option (List Int):=if(decide (ab<(a2.length:Int)))=true then((at? a2 ab)>>=fun ac=>(Z4d.f a0.f7 ac)>>=fun ad=>(chk ((aa.length+[ad].length)*8≤140737488355328))>>=fun _=>Z0x.l1 a0 a2 (aa++[ad]) (i64.wrap (ab+(1:Int)))) else(some aa)
partial_fixpoint
def Z0x.f (a0:Zg) (a1:List Int) (a2:List Int):Option (List Int):=(Z0x.l0 a0 a1 a2 [a0.f3,u64.wrap (a0.f5)] 0)>>=fun aa=>(Z0x.l1 a0 a2 aa 0)>>=fun ab=>some ab
theorem Z0x.ok (a0:Zg) (a1:List Int) (a2:List Int) (r:List Int) (H:Z0x.f a0 a1 a2=some r):Pv.Fn Tryz.prog 123 [.agg (Z0r a0),.im (.row (a1.map (Z1 .i64))),.im (.row (a2.map (Z1 .i64)))] [] 0 (fun x o=>x = .own 0∧o=[(0,some (.row 1 45 (r.map (Z1 .u64))))]):=by
 unfold Z0x.f at H
 exact HT.fn H (fun r=>.own 0) (fun r=>[(0,some (.row 1 45 (r.map (Z1 .u64))))]) [0] Tryz.func123 rfl rfl hmx (.rg [(0,⟨.k 0,.n⟩)]<|.rg [(5,hQ 1 (Z1 .u64) ([a0.f3,u64.wrap (a0.f5)]:List Int))]<|.r0<|.bl<|.loop (.c2 (Z0x.l0.partial_correctness a0 a1 a2)) ([a0.f3,u64.wrap (a0.f5)],0) [(0,4),(1,5)] [] [] (fun _=>.pr fun aa=>.one (fun ab=>⟨[(1,.im (.row (a1.map (Z1 .i64)))),(2,.im (.row (a2.map (Z1 .i64)))),(3,.ptr 4 0 0),(7,.own 5),(8,iV .i64 ab)],[(4,some (.box 48 (Z0r a0))),(5,some (.row 1 45 (aa.map (Z1 .u64))))],0⟩) fun ab=>.rg [(2,hG (Z1 .i64) a1)]<|.cd (fun ac=>.bl<|.el fun ad ae af=>.bd fun ah ai=>.ck fun aj=>.rg [(5,hA (Z1 .i64) ae af),(7,hC [] [] [] [] Tryz.call160 (Z4d.ok a0.f6 ad ah ai)),(8,hQ 6 (Z1 .u64) ([ah]:List Int)),(9,hP 7 (Z1 .u64) 1 aj)]<|.r0<|.bk [(4,4),(7,5)] rfl)
 (fun ac=>.o [(4,8),(5,9)]))
 (.st (.exit 0) (fun ak=>⟨[(2,.im (.row (a2.map (Z1 .i64)))),(3,.ptr 8 0 0),(7,.own 9)],[(8,some (.box 48 (Z0r a0))),(9,some (.row 1 45 (ak.map (Z1 .u64))))],0⟩) fun ak=>.r0<|.bl<|.loop (.c2 (Z0x.l1.partial_correctness a0 a2)) (ak,0) [(8,12),(9,13)] [] [] (fun _=>.pr fun al=>.one (fun am=>⟨[(2,.im (.row (a2.map (Z1 .i64)))),(3,.ptr 12 0 0),(7,.own 13),(9,iV .i64 am)],[(12,some (.box 48 (Z0r a0))),(13,some (.row 1 45 (al.map (Z1 .u64))))],0⟩) fun am=>.rg [(2,hG (Z1 .i64) a2)]<|.cd (fun ao=>.bl<|.el fun aq ar au=>.bd fun av ax=>.ck fun az=>.rg [(5,hA (Z1 .i64) ar au),(7,hC [] [] [] [] Tryz.call160 (Z4d.ok a0.f7 aq av ax)),(8,hQ 14 (Z1 .u64) ([av]:List Int)),(9,hP 15 (Z1 .u64) 1 az)]<|.r0<|.bk [(12,12),(15,13)] rfl)
 (fun ao=>.o [(13,16)]))
 (.st (.exit 2) (fun a9=>⟨[(7,.own 16)],[(16,some (.row 1 45 (a9.map (Z1 .u64))))],0⟩) fun a9=>.r0<|.ret [(16,0)] [] [] ⟨[(6,.own 0)],[(0,some (.row 1 45 (a9.map (Z1 .u64))))],0⟩)))
def Z1p.l1 (a0:ByteArray) (aa:Int) (ab:List Int) (ac:Int) (ad:Int):Option (Int):=if(decide (ad<(Int.tmod aa (8:Int))))=true then(Z1p.l1 a0 aa ab (i64.wrap (Int.tdiv ac (2:Int))) (i64.wrap (ad+(1:Int)))) else(some ac)
partial_fixpoint
def Z1p.l0 (a0:ByteArray) (aa:List Int) (ab:Int):Option (List Int):=if(decide (ab<(a0.size:Int)))=true then(((if((Int.tmod ab (8:Int))==(0:Int))=true then((chk ((aa.length+[0].length)*1≤140737488355328))>>=fun _=>some (aa++[0])) else(some aa)):Option (List Int))>>=fun ac=>(chk (0≤ab∧ab<(a0.size:Int)))>>=fun _=>((if((bt a0 ab)==(49:Int))=true then((Z1p.l1 a0 ab ac 128 0)>>=fun ad=>(at? ac (i64.wrap (Int.tdiv ab (8:Int))))>>=fun ae=>some (ac.set (Int.toNat (i64.wrap (Int.tdiv ab (8:Int)))) (u8.wrap (ae+(u8.wrap (ad)))))) else(some ac)):Option (List Int))>>=fun af=>Z1p.l0 a0 af (i64.wrap (ab+(1:Int)))) else(some aa)
partial_fixpoint
def Z1p.f (a0:ByteArray):Option (List Int):=(Z1p.l0 a0 [] 0)>>=fun aa=>some aa
theorem Z1p.ok (a0:ByteArray) (r:List Int) (H:Z1p.f a0=some r):Pv.Fn Tryz.prog 55 [sV a0] [] 0 (fun x o=>x = .own 0∧o=[(0,some (.row 1 5 (r.map (Z1 .u8))))]):=by
 unfold Z1p.f at H
 exact HT.fn H (fun r=>.own 0) (fun r=>[(0,some (.row 1 5 (r.map (Z1 .u8))))]) [0] Tryz.func55 rfl rfl hmx (.r0<|.r0<|.r0<|.bl<|.loop (.c2 (Z1p.l0.partial_correctness a0)) ([],0) [] [] [6] (fun _=>.pr fun aa=>.one (fun ab=>⟨[(0,sV a0),(3,.own 6),(4,iV .i64 ab)],[(6,some (.row 1 5 (aa.map (Z1 .u8))))],0⟩) fun ab=>.r0<|.cd (fun ac=>.bl<|.rg [(1,hJ 8)]<|.join (.cd (fun ad=>.ck fun ae=>.rg [(1,hQ 7 (Z1 .u8) ([0]:List Int)),(2,⟨.app 8 ((aa++[0]).map (Z1 .u8)),.c (p:=(aa++[0]).map (Z1 .u8)=(aa.map (Z1 .u8))++([0].map (Z1 .u8))) (by simp) (.c (p:=∀ c∈([0].map (Z1 .u8)),c.length=1) (Z5c _ _ _ (fun _=>rfl)) (.c (p:=∀ c∈([0].map (Z1 .u8)),Z3b (c.map .im)=true) (Z4p _ _ (fun _=>rfl)) (.c (p:=((aa.map (Z1 .u8)).length+([0].map (Z1 .u8)).length)*1≤140737488355328) (by simpa using ae) .n)))⟩)]<|.o [(8,9)])
 (fun ad=>.o [(6,9)]))
 (.st .normal (fun af=>⟨[(0,sV a0),(3,.own 9),(4,iV .i64 ab)],[(9,some (.row 1 5 (af.map (Z1 .u8))))],0⟩) fun af=>.ck fun ah=>.rg [(2,hN (p2 ah))]<|.join (.cd (fun ai=>.r0<|.r0<|.bl<|.loop (.c2 (Z1p.l1.partial_correctness a0 ab af)) (128,0) [(9,10)] [] [] (fun _=>.pr fun aj=>.one (fun ak=>⟨[(0,sV a0),(3,.own 10),(4,iV .i64 ab),(5,iV .i64 aj),(6,iV .i64 ak)],[(10,some (.row 1 5 (af.map (Z1 .u8))))],0⟩) fun ak=>.rg [(2,hJ 8)]<|.cd (fun al=>.bl<|.rg [(1,hJ 2)]<|.r0<|.bk [(10,10)] rfl)
 (fun al=>.o [(10,11)]))
 (.st (.exit 2) (fun am=>⟨[(0,sV a0),(3,.own 11),(4,iV .i64 ab),(5,iV .i64 am)],[(11,some (.row 1 5 (af.map (Z1 .u8))))],0⟩) fun am=>.el fun ao aq ar=>.rg [(2,hJ 8),(5,hJ 8),(6,hX (Z1 .u8) aq ar),(7,hL (Z1 .u8) ar),(11,hX (Z1 .u8) aq ar),(12,hS (Z1 .u8) (u8.wrap (ao+(u8.wrap (am)))) 0 [iI .u8 (u8.wrap (ao+(u8.wrap (am))))] ar)]<|.o [(11,12)]))
 (fun ai=>.o [(9,12)]))
 (.st .normal (fun au=>⟨[(0,sV a0),(3,.own 12),(4,iV .i64 ab)],[(12,some (.row 1 5 (au.map (Z1 .u8))))],0⟩) fun au=>.r0<|.bk [(12,6)] rfl)))
 (fun ac=>.o [(6,13)]))
 (.st (.exit 0) (fun av=>⟨[(3,.own 13)],[(13,some (.row 1 5 (av.map (Z1 .u8))))],0⟩) fun av=>.r0<|.ret [(13,0)] [] [] ⟨[(2,.own 0)],[(0,some (.row 1 5 (av.map (Z1 .u8))))],0⟩))
def Z0f.l1 (a0:List Z7) (aa:List Int) (ab:List Int) (ac:List Int) (ad:Int) (ae:ByteArray) (af:Int):Option (ByteArray):=if(decide (af<(ac.length:Int)))=true then((at? ac af)>>=fun ah=>(Zv.f ah)>>=fun ai=>(chk (((ae.size+ai.size:Nat):Int)≤9223372036854775807))>>=fun _=>Z0f.l1 a0 aa ab ac ad (ae++ai) (i64.wrap (af+(1:Int)))) else(some ae)
partial_fixpoint
def Z0f.l2 (a0:List Z7) (aa:List Int) (ab:List Int) (ac:List Int) (ad:List Int) (ae:Int) (af:ByteArray) (ah:Int):Option (ByteArray):=if(decide (ah<(ac.length:Int)))=true then((at? ac ah)>>=fun ai=>(at? ad ah)>>=fun aj=>(Z4v.f (i64.wrap (u64.wrap (ai-aj))))>>=fun ak=>(chk (((af.size+ak.size:Nat):Int)≤9223372036854775807))>>=fun _=>Z0f.l2 a0 aa ab ac ad ae (af++ak) (i64.wrap (ah+(1:Int)))) else(some af)
partial_fixpoint
def Z0f.l3 (a0:List Z7) (aa:List Int) (ab:List Int) (ac:List Int) (ad:List Int) (ae:List Int) (af:Int) (ah:ByteArray) (ai:Int):Option (ByteArray):=if(decide (ai<(ac.length:Int)))=true then((at? ac ai)>>=fun aj=>(at? ad ai)>>=fun ak=>(at? ae ai)>>=fun al=>(Z4v.f (i64.wrap (u64.wrap ((u64.wrap (aj-(u64.wrap ((2:Int)*ak))))+al))))>>=fun am=>(chk (((ah.size+am.size:Nat):Int)≤9223372036854775807))>>=fun _=>Z0f.l3 a0 aa ab ac ad ae af (ah++am) (i64.wrap (ai+(1:Int)))) else(some ah)
partial_fixpoint
def Z0f.l0 (a0:List Z7) (aa:List Int) (ab:List Int) (ac:ByteArray) (ad:Int):Option (ByteArray):=if(decide (ad<(a0.length:Int)))=true then((((at? a0 ad)>>=fun ae=>(Z0x.f ae.f1 aa ab)>>=fun af=>if(ad==(0:Int))=true then((at? a0 0)>>=fun ah=>(Zv.f (u64.wrap (ah.f0)))>>=fun ai=>(chk (((ac.size+ai.size:Nat):Int)≤9223372036854775807))>>=fun _=>(Z0f.l1 a0 aa ab af ad (ac++ai) 0)>>=fun aj=>some aj) else((at? a0 (i64.wrap (ad-(1:Int))))>>=fun ak=>(Z0x.f ak.f1 aa ab)>>=fun al=>if(ad==(1:Int))=true then((at? a0 1)>>=fun am=>(at? a0 0)>>=fun ao=>(Zv.f (u64.wrap (i64.wrap ((i64.wrap (am.f0-ao.f0))-(1:Int)))))>>=fun aq=>(chk (((ac.size+aq.size:Nat):Int)≤9223372036854775807))>>=fun _=>(Z0f.l2 a0 aa ab af al ad (ac++aq) 0)>>=fun ar=>some ar) else((at? a0 (i64.wrap (ad-(2:Int))))>>=fun au=>(Z0x.f au.f1 aa ab)>>=fun av=>(Z4v.f (i64.wrap ((i64.wrap (ae.f0-(i64.wrap ((2:Int)*ak.f0))))+au.f0)))>>=fun ax=>(chk (((ac.size+ax.size:Nat):Int)≤9223372036854775807))>>=fun _=>(Z0f.l3 a0 aa ab af al av ad (ac++ax) 0)>>=fun az=>some az))):Option (ByteArray))>>=fun a9=>Z0f.l0 a0 aa ab a9 (i64.wrap (ad+(1:Int)))) else(some ac)
partial_fixpoint
def Z0f.f (a0:List Z7):Option (List Int):=(at? a0 0)>>=fun aa=>(Z1o.f a0 0)>>=fun ab=>(Z1o.f a0 1)>>=fun ac=>(Z2r.f (u64.wrap (aa.f1.f0)) 1)>>=fun ad=>(Z2r.f (u64.wrap (i64.wrap (aa.f1.f1+(4:Int)))) 4)>>=fun ae=>(chk (((ad.size+ae.size:Nat):Int)≤9223372036854775807))>>=fun _=>(Z4v.f aa.f1.f2)>>=fun af=>(chk ((((ad++ae).size+af.size:Nat):Int)≤9223372036854775807))>>=fun _=>(Z3j.f ab)>>=fun ah=>(Z4h.f ah.1 ah.2)>>=fun ai=>(chk (((((ad++ae)++af).size+ai.size:Nat):Int)≤9223372036854775807))>>=fun _=>(Z3j.f ac)>>=fun aj=>(Z4h.f aj.1 aj.2)>>=fun ak=>(chk ((((((ad++ae)++af)++ai).size+ak.size:Nat):Int)≤9223372036854775807))>>=fun _=>(Zv.f (u64.wrap (i64.wrap ((a0.length:Int)-(1:Int)))))>>=fun al=>(chk (((((((ad++ae)++af)++ai)++ak).size+al.size:Nat):Int)≤9223372036854775807))>>=fun _=>(Z0f.l0 a0 ab ac (((((ad++ae)++af)++ai)++ak)++al) 0)>>=fun am=>(Z1p.f am)>>=fun ao=>some ao
theorem Z0f.ok (a0:List Z7) (r:List Int) (H:Z0f.f a0=some r):Pv.Fn Tryz.prog 91 [.im (.row (a0.map Z4))] [] 0 (fun x o=>x = .own 0∧o=[(0,some (.row 1 5 (r.map (Z1 .u8))))]):=by
 unfold Z0f.f at H
 exact HT.fn H (fun r=>.own 0) (fun r=>[(0,some (.row 1 5 (r.map (Z1 .u8))))]) [0] Tryz.func91 rfl rfl hmx (.r0<|.el fun aa ab ac=>.rg [(1,hA Z4 ab ac),(4,⟨.k 0,.n⟩)]<|.bd fun ad ae=>.bd fun af ah=>.rg [(1,hC [] [(0,1)] [] [1] Tryz.call119 (Z1o.ok a0 0 ad ae)),(3,hC [] [(0,2)] [] [2] Tryz.call119 (Z1o.ok a0 1 af ah))]<|.bd fun ai aj=>.bd fun ak al=>.ck fun am=>.bd fun ao aq=>.ck fun ar=>.rg [(3,hC [] [] [] [] Tryz.call50 (Z2r.ok (u64.wrap (aa.f1.f0)) 1 ai aj)),(8,hC [] [] [] [] Tryz.call50 (Z2r.ok (u64.wrap (i64.wrap (aa.f1.f1+(4:Int)))) 4 ak al)),(9,hN (p1 am)),(12,hC [] [] [] [] Tryz.call120 (Z4v.ok aa.f1.f2 ao aq)),(13,hN (p1 ar))]<|.bd fun au av=>.rg [(1,⟨.more (Z4z [] [(0,3)] [1] [3] 0 (.tup [iV .i64 au.1,.own 0]) [(0,some (.row 2 210 (au.2.map Z2d)))]),.c (Tryz.call121) (.c (Z3j.ok ad au av) (.c (p:=∀ c∈au.2.map Z2d,∀ x∈c,∃ v,x=Im.sc v) (Z5d _ _ (fun _=>by simp)) .n))⟩)]<|.bd fun ax az=>.ck fun a9=>.rg [(3,hC [] [] [3] [] Tryz.call122 (Z4h.ok au.1 au.2 ax az)),(4,hN (p1 a9))]<|.bd fun ba bb=>.rg [(1,⟨.more (Z4z [] [(0,4)] [2] [4] 0 (.tup [iV .i64 ba.1,.own 0]) [(0,some (.row 2 210 (ba.2.map Z2d)))]),.c (Tryz.call121) (.c (Z3j.ok af ba bb) (.c (p:=∀ c∈ba.2.map Z2d,∀ x∈c,∃ v,x=Im.sc v) (Z5d _ _ (fun _=>by simp)) .n))⟩)]<|.bd fun bc be=>.ck fun bf=>.bd fun bg bh=>.ck fun bi=>.rg [(3,hC [] [] [4] [] Tryz.call122 (Z4h.ok ba.1 ba.2 bc be)),(4,hN (p1 bf)),(6,hG Z4 a0),(9,hC [] [] [] [] Tryz.call51 (Zv.ok (u64.wrap (i64.wrap ((a0.length:Int)-(1:Int)))) bg bh)),(10,hN (p1 bi))]<|.r0<|.bl<|.loop (.c2 (Z0f.l0.partial_correctness a0 ad af)) (((((ai++ak)++ao)++ax)++bc)++bg,0) [(1,11),(2,12)] [] [] (fun _=>.pr fun bj=>.one (fun bn=>⟨[(0,.im (.row (a0.map Z4))),(4,.own 11),(5,.own 12),(6,sV bj),(9,iV .i64 bn)],[(11,some (.row 1 3 (ad.map (Z1 .i64)))),(12,some (.row 1 3 (af.map (Z1 .i64))))],0⟩) fun bn=>.rg [(2,hG Z4 a0)]<|.cd (fun bo=>.join (.bl<|.el fun bp bq br=>.bd fun bu bv=>.rg [(2,hA Z4 bq br),(7,⟨.more (Z4z [] [(0,13)] [11,12] [13] 0 (.own 0) [(0,some (.row 1 45 (bu.map (Z1 .u64))))]),.c (Tryz.call123) (.c (Z0x.ok bp.f1 ad af bu bv) (.c (p:=∀ c∈bu.map (Z1 .u64),∀ x∈c,∃ v,x=Im.sc v) (Z5d _ _ (fun _=>by simp)) .n))⟩)]<|.r0<|.cd (fun bw=>.el fun bx bz ca=>.bd fun cb cc=>.ck fun cf=>.rg [(2,hA Z4 bz ca),(6,hC [] [] [] [] Tryz.call51 (Zv.ok (u64.wrap (bx.f0)) cb cc)),(7,hN (p1 cf))]<|.r0<|.bl<|.loop (.c2 (Z0f.l1.partial_correctness a0 ad af bu bn)) (bj++cb,0) [(11,14),(12,15),(13,16)] [] [] (fun _=>.pr fun cj=>.one (fun cm=>⟨[(0,.im (.row (a0.map Z4))),(4,.own 14),(5,.own 15),(6,sV cj),(9,iV .i64 bn),(10,.own 16),(11,iV .i64 cm)],[(14,some (.row 1 3 (ad.map (Z1 .i64)))),(15,some (.row 1 3 (af.map (Z1 .i64)))),(16,some (.row 1 45 (bu.map (Z1 .u64))))],0⟩) fun cm=>.rg [(2,hG (Z1 .u64) bu)]<|.cd (fun cn=>.bl<|.el fun co ct cw=>.bd fun cx cy=>.ck fun cz=>.rg [(3,hX (Z1 .u64) ct cw),(4,hL (Z1 .u64) cw),(5,hC [] [] [] [] Tryz.call51 (Zv.ok co cx cy)),(6,hN (p1 cz))]<|.r0<|.bk [(14,14),(15,15),(16,16)] rfl)
 (fun cn=>.o [(14,17),(15,18)]))
 (.st (.exit 2) (fun c8=>⟨[(0,.im (.row (a0.map Z4))),(4,.own 17),(5,.own 18),(6,sV c8),(9,iV .i64 bn)],[(17,some (.row 1 3 (ad.map (Z1 .i64)))),(18,some (.row 1 3 (af.map (Z1 .i64))))],0⟩) fun c8=>.o [(17,34),(18,35)]))
 (fun bw=>.el fun c9 da db=>.bd fun dc dd=>.rg [(3,hA Z4 da db),(8,⟨.more (Z4z [] [(0,19)] [11,12] [19] 0 (.own 0) [(0,some (.row 1 45 (dc.map (Z1 .u64))))]),.c (Tryz.call123) (.c (Z0x.ok c9.f1 ad af dc dd) (.c (p:=∀ c∈dc.map (Z1 .u64),∀ x∈c,∃ v,x=Im.sc v) (Z5d _ _ (fun _=>by simp)) .n))⟩)]<|.r0<|.cd (fun de=>.el fun df dg dh=>.el fun di dj dk=>.bd fun dl dm=>.ck fun dp=>.rg [(2,hA Z4 dg dh),(6,hA Z4 dj dk),(12,hC [] [] [] [] Tryz.call51 (Zv.ok (u64.wrap (i64.wrap ((i64.wrap (df.f0-di.f0))-(1:Int)))) dl dm)),(13,hN (p1 dp))]<|.r0<|.bl<|.loop (.c2 (Z0f.l2.partial_correctness a0 ad af bu dc bn)) (bj++dl,0) [(11,20),(12,21),(13,22),(19,23)] [] [] (fun _=>.pr fun dq=>.one (fun dr=>⟨[(0,.im (.row (a0.map Z4))),(4,.own 20),(5,.own 21),(6,sV dq),(9,iV .i64 bn),(10,.own 22),(12,.own 23),(13,iV .i64 dr)],[(20,some (.row 1 3 (ad.map (Z1 .i64)))),(21,some (.row 1 3 (af.map (Z1 .i64)))),(22,some (.row 1 45 (bu.map (Z1 .u64)))),(23,some (.row 1 45 (dc.map (Z1 .u64))))],0⟩) fun dr=>.rg [(2,hG (Z1 .u64) bu)]<|.cd (fun dt=>.bl<|.el fun du dv dw=>.el fun dx dy dz=>.bd fun d8 d9=>.ck fun ea=>.rg [(3,hX (Z1 .u64) dv dw),(4,hL (Z1 .u64) dw),(7,hX (Z1 .u64) dy dz),(8,hL (Z1 .u64) dz),(11,hC [] [] [] [] Tryz.call120 (Z4v.ok (i64.wrap (u64.wrap (du-dx))) d8 d9)),(12,hN (p1 ea))]<|.r0<|.bk [(20,20),(21,21),(22,22),(23,23)] rfl)
 (fun dt=>.o [(20,24),(21,25)]))
 (.st (.exit 4) (fun ed=>⟨[(0,.im (.row (a0.map Z4))),(4,.own 24),(5,.own 25),(6,sV ed),(9,iV .i64 bn)],[(24,some (.row 1 3 (ad.map (Z1 .i64)))),(25,some (.row 1 3 (af.map (Z1 .i64))))],0⟩) fun ed=>.o [(24,34),(25,35)]))
 (fun de=>.el fun ee ef eg=>.bd fun eh ei=>.rg [(3,hA Z4 ef eg),(8,⟨.more (Z4z [] [(0,26)] [11,12] [26] 0 (.own 0) [(0,some (.row 1 45 (eh.map (Z1 .u64))))]),.c (Tryz.call123) (.c (Z0x.ok ee.f1 ad af eh ei) (.c (p:=∀ c∈eh.map (Z1 .u64),∀ x∈c,∃ v,x=Im.sc v) (Z5d _ _ (fun _=>by simp)) .n))⟩)]<|.bd fun ej em=>.ck fun en=>.rg [(3,hA Z4 bq br),(9,hA Z4 da db),(17,hA Z4 ef eg),(21,hC [] [] [] [] Tryz.call120 (Z4v.ok (i64.wrap ((i64.wrap (bp.f0-(i64.wrap ((2:Int)*c9.f0))))+ee.f0)) ej em)),(22,hN (p1 en))]<|.r0<|.bl<|.loop (.c2 (Z0f.l3.partial_correctness a0 ad af bu dc eh bn)) (bj++ej,0) [(11,27),(12,28),(13,29),(19,30),(26,31)] [] [] (fun _=>.pr fun eo=>.one (fun ep=>⟨[(0,.im (.row (a0.map Z4))),(4,.own 27),(5,.own 28),(6,sV eo),(9,iV .i64 bn),(10,.own 29),(12,.own 30),(14,.own 31),(15,iV .i64 ep)],[(27,some (.row 1 3 (ad.map (Z1 .i64)))),(28,some (.row 1 3 (af.map (Z1 .i64)))),(29,some (.row 1 45 (bu.map (Z1 .u64)))),(30,some (.row 1 45 (dc.map (Z1 .u64)))),(31,some (.row 1 45 (eh.map (Z1 .u64))))],0⟩) fun ep=>.rg [(2,hG (Z1 .u64) bu)]<|.cd (fun eq=>.bl<|.el fun et eu ev=>.el fun ew ez fc=>.el fun fe ff fg=>.bd fun fi fj=>.ck fun fk=>.rg [(3,hX (Z1 .u64) eu ev),(4,hL (Z1 .u64) ev),(7,hX (Z1 .u64) ez fc),(8,hL (Z1 .u64) fc),(13,hX (Z1 .u64) ff fg),(14,hL (Z1 .u64) fg),(17,hC [] [] [] [] Tryz.call120 (Z4v.ok (i64.wrap (u64.wrap ((u64.wrap (et-(u64.wrap ((2:Int)*ew))))+fe))) fi fj)),(18,hN (p1 fk))]<|.r0<|.bk [(27,27),(28,28),(29,29),(30,30),(31,31)] rfl)
 (fun eq=>.o [(27,32),(28,33)]))
 (.st (.exit 6) (fun fm=>⟨[(0,.im (.row (a0.map Z4))),(4,.own 32),(5,.own 33),(6,sV fm),(9,iV .i64 bn)],[(32,some (.row 1 3 (ad.map (Z1 .i64)))),(33,some (.row 1 3 (af.map (Z1 .i64))))],0⟩) fun fm=>.o [(32,34),(33,35)]))))
 (.st .normal (fun ft=>⟨[(0,.im (.row (a0.map Z4))),(4,.own 34),(5,.own 35),(6,sV ft),(9,iV .i64 bn)],[(34,some (.row 1 3 (ad.map (Z1 .i64)))),(35,some (.row 1 3 (af.map (Z1 .i64))))],0⟩) fun ft=>.r0<|.bk [(34,11),(35,12)] rfl))
 (fun bo=>.o []))
 (.st (.exit 0) (fun fv=>⟨[(6,sV fv)],[],0⟩) fun fv=>.bd fun fw f8=>.rg [(1,hC [] [(0,36)] [] [36] Tryz.call55 (Z1p.ok fv fw f8))]<|.ret [(36,0)] [] [] ⟨[(2,.own 0)],[(0,some (.row 1 5 (fw.map (Z1 .u8))))],0⟩))
def Z01.hl (a0:List Z7) (x1:List (List Z7)) (x2:List Z7) (x3:Int):Option (List (List Z7)):=if(decide (x3<(a0.length:Int)))=true then((chk ((x1.length+2)*24≤140737488355328))>>=fun _=>(at? a0 x3)>>=fun b1=>(Z5u.f x2 b1)>>=fun t1=>if t1=true then(chk ((x2.length+1)*104≤140737488355328))>>=fun _=>Z01.hl a0 x1 (x2++[b1]) (i64.wrap (x3+(1:Int))) else Z01.hl a0 (x1++[x2]) [b1] (i64.wrap (x3+(1:Int)))) else some (x1++[x2])
partial_fixpoint
def Z01.h (a0:List Z7):Option (List (List Z7)):=if(decide ((0:Int)<(a0.length:Int)))=true then((at? a0 0)>>=fun b1=>Z01.hl a0 [] [b1] (i64.wrap ((0:Int)+(1:Int)))) else some []
def Z01.l0 (aa:List (List Z7)) (ab:ByteArray) (ac:Int):Option (ByteArray):=if(decide (ac<(aa.length:Int)))=true then((at? aa ac)>>=fun ad=>(Z0f.f ad)>>=fun ae=>(Z4b.f (Z5l ae))>>=fun af=>(chk (((ab.size+af.size:Nat):Int)≤9223372036854775807))>>=fun _=>Z01.l0 aa (ab++af) (i64.wrap (ac+(1:Int)))) else(some ab)
partial_fixpoint
def Z01.f (a0:List Z7):Option (ByteArray):=(Z01.h a0)>>=fun aa=>(Zv.f (u64.wrap ((aa.length:Int))))>>=fun ab=>(Z01.l0 aa ab 0)>>=fun ac=>some ac
theorem Z01.ok (a0:List Z7) (r:ByteArray) (H:Z01.f a0=some r):Pv.Fn Tryz.prog 53 [.im (.row (a0.map Z4))] [] 0 (fun x o=>x=sV r∧o=[]):=by
 unfold Z01.f at H
 refine Fn.bodyK [] Tryz.func53 rfl rfl (fun Γ hP hn => ?_)
 have hm:Tryz.prog.follows .mixedOrders=true:=by kernel_rfl
 replace hn:Γ.n=73:=hn
 refine sO hP hn hm [] [] [0] [] [] ?_
 refine sO hP hn hm [] [(3,.none0)] [0,3] [] [] ?_
 refine AWp.seq ?_
 refine sO hP hn hm [] [(4,iV .i64 0)] [0,3,4] [] [] ?_
 refine AWp.block ?_
 obtain⟨aa,ab,H⟩:=Z76 H
 refine AWp.loop (LWp.mono (Q:=fun e s=>e = .exit 0∧s=⟨[(3,.own 0)],[(0,some (.row 1 44 (aa.map (Z20 Z4))))],0⟩) (LWp.cv (withBody (fun body hbody => ?_))) ?_)
 ·replace H:=ab;clear ab
  unfold Z01.h at H
  have main:∀ x1 x2 x3 o,Z01.hl a0 x1 x2 x3=some o→LWp Γ body (fun e s=>∃ t,Cv Γ s t∧(e = .exit 0∧t=⟨[(3,.own 0)],[(0,some (.row 1 44 (o.map (Z20 Z4))))],0⟩)) ⟨[(0,.im (.row (a0.map Z4))),(3,.own 1),(4,iV .i64 x3)],[(1,some (.arow 1 44 (x1.map (Z20 Z4)) [[.own 2]])),(2,some (.row 9 50 (x2.map Z4)))],0⟩:=by
   intro x1 x2 x3 o e1
   refine Z01.hl.partial_correctness a0 (motive:=fun x1 x2 x3 o=>LWp Γ body (fun e s=>∃ t,Cv Γ s t∧(e = .exit 0∧t=⟨[(3,.own 0)],[(0,some (.row 1 44 (o.map (Z20 Z4))))],0⟩)) ⟨[(0,.im (.row (a0.map Z4))),(3,.own 1),(4,iV .i64 x3)],[(1,some (.arow 1 44 (x1.map (Z20 Z4)) [[.own 2]])),(2,some (.row 9 50 (x2.map Z4)))],0⟩) ?_ _ _ _ _ e1
   clear H e1 o x1 x2 x3;intro self ih x1 x2 x3 o H
   subst hbody
   refine LWp.round ?_
   refine AWp.seq ?_
   refine sR hP hn hm [(2,.any (iV .i64 (a0.length:Int)))] [(11,bV (decide (x3<(a0.length:Int))))] [0,3,4,11] [] [1,2] [((a0.map Z4).length:Int)=(a0.length:Int)] ⟨by rw[Z8t],trivial⟩ ?_
   refine AWp.cond (decide (x3<(a0.length:Int))) (by kernel_rfl) (fun c1 => ?_) (fun c1 => ?_)
   ·replace H:=iT c1 H
    refine AWp.skip ?_
    refine AWp.seq ?_
    refine AWp.block ?_
    obtain⟨d1,H⟩:=Za6 H
    obtain⟨b1,p1,q1,H⟩:=at_of H
    have w0:=cut_w0 d1
    rw[← Z8t x1 (Z20 Z4)] at w0
    refine sO hP hn hm [(1,.more xLenT)] [(5,iV .i64 (((x1.map (Z20 Z4)).length+1:Nat):Int))] [0,3,4,5] [] [1,2] ?_
    obtain⟨t1,e2,H⟩:=Z76 H
    refine sR hP hn hm [(1,.b true),(6,.more (Zen 0)),(7,.more (Zes 0)),(10,.c (Z4 b1)),(12,.more (Z4z [] [] [2] [] 0 (bV t1) []))] [(29,bV t1)] [0,3,4,5,29] [] [1,2] [(decide ((((x1.map (Z20 Z4)).length+1:Nat):Int)>(0:Int)))=true,_,(x1.map (Z20 Z4)).length+0=(x1.map (Z20 Z4)).length+0,_,_,_,_] ⟨by simp,w0,rfl,p1,Za4 Z4 q1,Tryz.call90,Z5u.ok x2 b1 t1 e2,trivial⟩ ?_
    refine AWp.cond t1 (by kernel_rfl) (fun c2 => ?_) (fun c2 => ?_)
    ·replace H:=iT c2 H
     obtain⟨d2,H⟩:=Za6 H
     refine rG hP hn hm [(6,.more (Zen 0)),(7,.more (Zes 0)),(10,.c (Z4 b1)),(12,.app 3 ([b1].map Z4)),(13,.app 4 ((x2++[b1]).map Z4)),(14,.more (Zen 0)),(15,.more (xStoreT 0))] [] [0,3,4] [(1,some (.arow 1 44 (x1.map (Z20 Z4)) [[.own 4]])),(4,some (.row 9 50 ((x2++[b1]).map Z4)))] [1,4] [_,(x1.map (Z20 Z4)).length+0=(x1.map (Z20 Z4)).length+0,_,_,[b1].map Z4=[Z4 b1],(x2++[b1]).map Z4=(x2.map Z4)++([b1].map Z4),∀ c∈([b1].map Z4),c.length=9,∀ c∈([b1].map Z4),Z3b (c.map .im)=true,((x2.map Z4).length+([b1].map Z4).length)*104≤140737488355328,_,(x1.map (Z20 Z4)).length+0=(x1.map (Z20 Z4)).length+0] ⟨w0,rfl,p1,Za4 Z4 q1,rfl,by simp,by exact Z5c _ _ _ (fun _=>rfl),by exact Z4p _ _ (fun _=>rfl),by simpa using d2,w0,rfl,trivial⟩ ?_
     refine rO hP hn hm [] [(4,iV .i64 (i64.wrap (x3+(1:Int))))] [0,3,4] [] [1,4] ?_
     exact LWp.conv [(1,1),(4,2)] [] [] (by kernel_rfl) (ih _ _ _ _ H)
    ·replace H:=iF c2 H
     refine rG hP hn hm [(3,.c (Z4 b1)),(5,.app 3 ([b1].map Z4)),(6,.more (xOneT 4)),(7,.more (xAppT 5))] [(3,.own 5)] [0,3,4] [(3,some (.row 9 50 ([b1].map Z4))),(5,some (.arow 1 44 (x1.map (Z20 Z4)) [[.own 2],[.own 3]]))] [2,3,5] [_,_,[b1].map Z4=[Z4 b1],((x1.map (Z20 Z4)).length+1+1)*24≤140737488355328] ⟨p1,Za4 Z4 q1,rfl,by rw[Z8t];omega,trivial⟩ ?_
     refine rO hP hn hm [] [(4,iV .i64 (i64.wrap (x3+(1:Int))))] [0,3,4] [] [2,3,5] ?_
     have h:=ih _ _ _ _ H
     rw[app1] at h
     exact LWp.conv [(5,1),(3,2)] [2] [] (by kernel_rfl) h
   ·replace H:=iF c1 H
    refine AWp.exit ?_
    obtain rfl:=sj H
    exact lf (t:=⟨[(3,.own 0)],[(0,some (.row 1 44 (x1.map (Z20 Z4)++[(Z20 Z4) x2])))],0⟩) [(1,0)] [2] [] (by kernel_rfl) ⟨rfl,by rw[app1]⟩
  subst hbody
  refine LWp.round ?_
  refine AWp.seq ?_
  refine sR hP hn hm [(2,.any (iV .i64 (a0.length:Int)))] [(11,bV (decide ((0:Int)<(a0.length:Int))))] [0,3,4,11] [] [] [((a0.map Z4).length:Int)=(a0.length:Int)] ⟨by rw[Z8t],trivial⟩ ?_
  refine AWp.cond (decide ((0:Int)<(a0.length:Int))) (by kernel_rfl) (fun c1 => ?_) (fun c1 => ?_)
  ·replace H:=iT c1 H
   refine AWp.skip ?_
   refine AWp.seq ?_
   refine AWp.block ?_
   obtain⟨b1,p1,q1,H⟩:=at_of H
   refine sO hP hn hm [] [(5,iV .i64 0)] [0,3,4,5] [] [] ?_
   refine sR hP hn hm [(1,.b false)] [(29,bV false)] [0,3,4,5,29] [] [] [(decide ((0:Int)>0))=false] ⟨rfl,trivial⟩ ?_
   refine AWp.cond false (by kernel_rfl) (fun c2=>nomatch c2) (fun c2 => ?_)
   refine rG hP hn hm [(3,.c (Z4 b1)),(5,.app 3 ([b1].map Z4)),(6,.more (xOneT 4)),(7,.more (xAppT 5))] [(3,.own 5)] [0,3,4] [(3,some (.row 9 50 ([b1].map Z4))),(5,some (.arow 1 44 [] [[.own 3]]))] [3,5] [_,_,[b1].map Z4=[Z4 b1],1*24≤140737488355328] ⟨p1,Za4 Z4 q1,rfl,by decide,trivial⟩ ?_
   refine rO hP hn hm [] [(4,iV .i64 (i64.wrap ((0:Int)+(1:Int))))] [0,3,4] [] [3,5] ?_
   exact LWp.conv [(5,1),(3,2)] [] [] (by kernel_rfl) (main [] [b1] _ _ H)
  ·replace H:=iF c1 H
   refine AWp.exit ?_
   obtain rfl:=sj H
   exact lf [] [] [0] (by kernel_rfl) ⟨rfl,rfl⟩
 rintro e s ⟨rfl,rfl⟩
 obtain⟨ac,ad,H⟩:=Z76 H
 refine sR hP hn hm [(1,.any (iV .i64 (aa.length:Int))),(3,.call [] [] [] [] 0 (sV ac) [])] [(6,sV ac)] [3,6] [] [0] [((aa.map (Z20 Z4)).length:Int)=(aa.length:Int),_,_] ⟨by rw[Z8t],Tryz.call51,Zv.ok (u64.wrap ((aa.length:Int))) ac ad,trivial⟩ ?_
 refine AWp.seq ?_
 refine sO hP hn hm [] [(7,iV .i64 0)] [3,6,7] [] [0] ?_
 refine AWp.block ?_
 obtain⟨ae,af,H⟩:=Z76 H
 refine AWp.loop (LWp.conv (inv:=[(0,7)]) (vk:=[]) (e0:=[]) (t:=⟨[(3,.own 7),(6,sV ac),(7,iV .i64 0)],[(7,some (.row 1 44 (aa.map (Z20 Z4))))],0⟩) (by kernel_rfl) ?_)
 refine LWp.mono (Q:=fun e s=>(match (generalizing:=false) ae with | ah=>e = .exit 2∧s=⟨[(6,sV ah)],[],0⟩)) (LWp.cv (withBody (fun body hbody => ?_))) ?_
 ·refine           Z01.l0.partial_correctness aa (motive:=fun ai aj ae=>LWp Γ body (fun e s=>∃ t,Cv Γ s t∧(match (generalizing:=false) ae with | ah=>e = .exit 2∧t=⟨[(6,sV ah)],[],0⟩)) ⟨[(3,.own 7),(6,sV ai),(7,iV .i64 aj)],[(7,some (.row 1 44 (aa.map (Z20    Z4     ))))],0⟩) ?_ _ _ _ af
  clear H af ae;intro self ih ai aj ae H
  subst hbody
  refine LWp.round ?_
  refine AWp.seq ?_
  refine sR hP hn hm [(2,.any (iV .i64 (aa.length:Int)))] [(60,bV (decide (aj<(aa.length:Int))))] [3,6,7,60] [] [7] [((aa.map (Z20 Z4)).length:Int)=(aa.length:Int)] ⟨by rw[Z8t],trivial⟩ ?_
  refine AWp.cond (decide (aj<(aa.length:Int))) (by kernel_rfl) (fun ak => ?_) (fun ak => ?_)
  ·replace H:=iT ak H
   refine AWp.skip ?_
   refine AWp.seq ?_
   refine AWp.block ?_
   obtain⟨al,am,ao,H⟩:=at_of H
   obtain⟨aq,ar,H⟩:=Z76 H
   obtain⟨au,av,H⟩:=Z76 H
   obtain⟨ax,H⟩:=Za6 H
   refine rG hP hn hm [(4,.c ((Z20 Z4) al)),(5,.call [] [(0,8)] [] [8] 0 (.own 0) [(0,some (.row 1 5 (aq.map (Z1 .u8))))]),(6,.more (xStr aq)),(7,.call [] [] [] [] 0 (sV au) [])] [(6,sV (ai++au))] [3,6,7] [] [7] [_,_,_,_,_,aq.map (Z1 .u8)=aq.map (Z1 .u8),_,_,_] ⟨am,el_lt (Z20 Z4) am ao,Za4 (Z20 Z4) ao,Tryz.call91,Z0f.ok al aq ar,by exact rfl,Tryz.call52,Z4b.ok (Z5l aq) au av,ax,trivial⟩ ?_
   refine rO hP hn hm [] [(7,iV .i64 (i64.wrap (aj+(1:Int))))] [3,6,7] [] [7] ?_
   exact LWp.conv [(7,7)] [] [] (by kernel_rfl) (ih _ _ _ H)
  ·replace H:=iF ak H
   refine AWp.exit ?_
   obtain rfl:=sj H
   exact lf [] [] [] (by kernel_rfl) ⟨rfl,rfl⟩
 ·obtain⟨ah,rfl⟩:∃ z,z=ae:=⟨_,rfl⟩
  rintro e s ⟨rfl,rfl⟩
  refine sO hP hn hm [] [(2,sV ah)] [2] [] [] ?_
  refine AWp.conv (inv:=[]) (vk:=[]) (e0:=[]) (t:=⟨[(2,sV ah)],[],0⟩) (by kernel_rfl) ?_
  refine AWp.ret ?_
  obtain rfl:=sj H
  exact rl (.inl rfl) rfl (by kernel_rfl) (by kernel_rfl)
def Z3h.l0 (a0:List Zc) (aa:ByteArray) (ab:Int) (ac:Int):Option (ByteArray):=if(decide (ac<(a0.length:Int)))=true then((at? a0 ac)>>=fun ad=>(Zv.f (u64.wrap (i64.wrap (ad.f0-ab))))>>=fun ae=>(chk (((aa.size+ae.size:Nat):Int)≤9223372036854775807))>>=fun _=>(Zv.f (u64.wrap (i64.wrap (ad.f1-ad.f0))))>>=fun af=>(chk ((((aa++ae).size+af.size:Nat):Int)≤9223372036854775807))>>=fun _=>Z3h.l0 a0 ((aa++ae)++af) (i64.wrap (ad.f1+(2:Int))) (i64.wrap (ac+(1:Int)))) else(some aa)
partial_fixpoint
def Z3h.f (a0:List Zc):Option (ByteArray):=(Zv.f (u64.wrap ((a0.length:Int))))>>=fun aa=>(Z3h.l0 a0 aa 0 0)>>=fun ab=>some ab
theorem Z3h.ok (a0:List Zc) (r:ByteArray) (H:Z3h.f a0=some r):Pv.Fn Tryz.prog 54 [.im (.row (a0.map Zb))] [] 0 (fun x o=>x=sV r∧o=[]):=by
 unfold Z3h.f at H
 exact HT.fn H (fun r=>sV r) (fun r=>[]) [] Tryz.func54 rfl rfl hmx (.r0<|.bd fun aa ab=>.rg [(1,hG Zb a0),(3,hC [] [] [] [] Tryz.call51 (Zv.ok (u64.wrap ((a0.length:Int))) aa ab))]<|.r0<|.r0<|.bl<|.loop (.c3 (Z3h.l0.partial_correctness a0)) (aa,0,0) [] [] [] (fun _=>.pr fun ac=>.pr fun ad=>.one (fun ae=>⟨[(0,.im (.row (a0.map Zb))),(3,sV ac),(4,iV .i64 ad),(5,iV .i64 ae)],[],0⟩) fun ae=>.rg [(2,hG Zb a0)]<|.cd (fun af=>.bl<|.el fun ah ai aj=>.bd fun ak al=>.ck fun am=>.bd fun ao aq=>.ck fun ar=>.rg [(3,hA Zb ai aj),(9,hC [] [] [] [] Tryz.call51 (Zv.ok (u64.wrap (i64.wrap (ah.f0-ad))) ak al)),(10,hN (p1 am)),(13,hA Zb ai aj),(18,hA Zb ai aj),(23,hC [] [] [] [] Tryz.call51 (Zv.ok (u64.wrap (i64.wrap (ah.f1-ah.f0))) ao aq)),(24,hN (p1 ar))]<|.rg [(2,hA Zb ai aj)]<|.r0<|.bk [] rfl)
 (fun af=>.o []))
 (.st (.exit 0) (fun au=>⟨[(3,sV au)],[],0⟩) fun au=>.r0<|.ret [] [] [] ⟨[(2,sV au)],[],0⟩))
def Z1f.l0 (a0:Z1j) (aa:ByteArray) (ab:Int):Option (ByteArray):=if(decide (ab<(a0.f1.length:Int)))=true then((at? a0.f1 ab)>>=fun ac=>(Z4b.f ac.f0)>>=fun ad=>(chk (((aa.size+ad.size:Nat):Int)≤9223372036854775807))>>=fun _=>(Z01.f [(⟨ac.f1,ac.f2⟩:Z7)])>>=fun ae=>(chk ((((aa++ad).size+ae.size:Nat):Int)≤9223372036854775807))>>=fun _=>Z1f.l0 a0 ((aa++ad)++ae) (i64.wrap (ab+(1:Int)))) else(some aa)
partial_fixpoint
def Z1f.l1 (a0:Z1j) (aa:ByteArray) (ab:Int):Option (ByteArray):=if(decide (ab<(a0.f2.length:Int)))=true then((at? a0.f2 ab)>>=fun ac=>(Z4b.f ac.f0)>>=fun ad=>(chk (((aa.size+ad.size:Nat):Int)≤9223372036854775807))>>=fun _=>(Z3h.f [ac.f1])>>=fun ae=>(chk ((((aa++ad).size+ae.size:Nat):Int)≤9223372036854775807))>>=fun _=>Z1f.l1 a0 ((aa++ad)++ae) (i64.wrap (ab+(1:Int)))) else(some aa)
partial_fixpoint
def Z1f.f (a0:Z1j):Option (List Int):=(Z2r.f (u64.wrap (a0.f0)) 2)>>=fun aa=>((if(a0.f0==(1:Int))=true then((Zv.f (u64.wrap ((a0.f1.length:Int))))>>=fun ab=>(chk (((aa.size+ab.size:Nat):Int)≤9223372036854775807))>>=fun _=>(Z1f.l0 a0 (aa++ab) 0)>>=fun ac=>some ac) else(((if(a0.f0==(2:Int))=true then((Zv.f (u64.wrap ((a0.f2.length:Int))))>>=fun ad=>(chk (((aa.size+ad.size:Nat):Int)≤9223372036854775807))>>=fun _=>(Z1f.l1 a0 (aa++ad) 0)>>=fun ae=>some ae) else((Zv.f (u64.wrap (a0.f3)))>>=fun af=>(chk (((aa.size+af.size:Nat):Int)≤9223372036854775807))>>=fun _=>some (aa++af))):Option (ByteArray))>>=fun ah=>some ah)):Option (ByteArray))>>=fun ai=>(Z1p.f ai)>>=fun aj=>some aj
theorem Z1f.ok (a0:Z1j) (r:List Int) (H:Z1f.f a0=some r):Pv.Fn Tryz.prog 15 [.agg (Z5b a0)] [] 0 (fun x o=>x = .own 0∧o=[(0,some (.row 1 5 (r.map (Z1 .u8))))]):=by
 unfold Z1f.f at H
 exact HT.fn H (fun r=>.own 0) (fun r=>[(0,some (.row 1 5 (r.map (Z1 .u8))))]) [0] Tryz.func15 rfl rfl hmx (.rg [(0,⟨.k 0,.n⟩)]<|.bd fun aa ab=>.rg [(3,hC [] [] [] [] Tryz.call50 (Z2r.ok (u64.wrap (a0.f0)) 2 aa ab))]<|.r0<|.bl<|.r0<|.join (.cd (fun ac=>.bd fun ad ae=>.ck fun af=>.rg [(3,hG Zt a0.f1),(5,hC [] [] [] [] Tryz.call51 (Zv.ok (u64.wrap ((a0.f1.length:Int))) ad ae)),(6,hN (p1 af))]<|.r0<|.bl<|.loop (.c2 (Z1f.l0.partial_correctness a0)) (aa++ad,0) [(0,2)] [] [] (fun _=>.pr fun ah=>.one (fun ai=>⟨[(1,.ptr 2 0 0),(3,sV ah),(4,iV .i64 ai)],[(2,some (.box 25 (Z5b a0)))],0⟩) fun ai=>.rg [(3,hG Zt a0.f1)]<|.cd (fun aj=>.bl<|.el fun ak al am=>.bd fun ao aq=>.ck fun ar=>.bd fun au av=>.ck fun ax=>.rg [(4,hA Zt al am),(7,hC [] [] [] [] Tryz.call52 (Z4b.ok ak.f0 ao aq)),(8,hN (p1 ar)),(12,hA Zt al am),(18,hA Zt al am),(22,hQ 3 Z4 ([(⟨ak.f1,ak.f2⟩:Z7)]:List Z7)),(23,hC [] [] [3] [] Tryz.call53 (Z01.ok [(⟨ak.f1,ak.f2⟩:Z7)] au av)),(24,hN (p1 ax))]<|.r0<|.bk [(2,2)] rfl)
 (fun aj=>.o []))
 (.st (.exit 1) (fun az=>⟨[(3,sV az)],[],0⟩) fun az=>.o []))
 (fun ac=>.r0<|.join (.cd (fun a9=>.bd fun ba bb=>.ck fun bc=>.rg [(3,hG Z30 a0.f2),(5,hC [] [] [] [] Tryz.call51 (Zv.ok (u64.wrap ((a0.f2.length:Int))) ba bb)),(6,hN (p1 bc))]<|.r0<|.bl<|.loop (.c2 (Z1f.l1.partial_correctness a0)) (aa++ba,0) [(0,5)] [] [] (fun _=>.pr fun be=>.one (fun bf=>⟨[(1,.ptr 5 0 0),(3,sV be),(5,iV .i64 bf)],[(5,some (.box 25 (Z5b a0)))],0⟩) fun bf=>.rg [(3,hG Z30 a0.f2)]<|.cd (fun bg=>.bl<|.el fun bh bi bj=>.bd fun bn bo=>.ck fun bp=>.bd fun bq br=>.ck fun bu=>.rg [(4,hA Z30 bi bj),(7,hC [] [] [] [] Tryz.call52 (Z4b.ok bh.f0 bn bo)),(8,hN (p1 bp)),(12,hA Z30 bi bj),(15,hQ 6 Zb ([bh.f1]:List Zc)),(16,hC [] [] [6] [] Tryz.call54 (Z3h.ok [bh.f1] bq br)),(17,hN (p1 bu))]<|.r0<|.bk [(5,5)] rfl)
 (fun bg=>.o []))
 (.st (.exit 3) (fun bv=>⟨[(3,sV bv)],[],0⟩) fun bv=>.o []))
 (fun a9=>.bd fun bw bx=>.ck fun bz=>.rg [(4,hC [] [] [] [] Tryz.call51 (Zv.ok (u64.wrap (a0.f3)) bw bx)),(5,hN (p1 bz))]<|.o []))
 (.st .normal (fun ca=>⟨[(3,sV ca)],[],0⟩) fun ca=>.o [])))
 (.st .normal (fun cb=>⟨[(3,sV cb)],[],0⟩) fun cb=>.bd fun cc cf=>.rg [(1,hC [] [(0,7)] [] [7] Tryz.call55 (Z1p.ok cb cc cf))]<|.ret [(7,0)] [] [] ⟨[(2,.own 0)],[(0,some (.row 1 5 (cc.map (Z1 .u8))))],0⟩))
def Z3r.f (a0:Int):Option (Unit):=some ()
theorem Z3r.ok (a0:Int) (r:Unit) (H:Z3r.f a0=some r):Pv.Fn Tryz.prog 113 [iV .i64 a0] [] 0 (fun x o=>x=bV (a0 != a0)∧o=[]):=by
 unfold Z3r.f at H
 exact HT.fn H (fun r=>bV (a0 != a0)) (fun r=>[]) [] Tryz.func113 rfl rfl hmx (.r0<|.r0<|.ret [] [] [] ⟨[(2,bV (a0 != a0))],[],0⟩)
def Z3n.f (a0:Int) (a1:Int):Option (Int):=(Z3r.f a0)>>=fun aa=>(Z3r.f a1)>>=fun ab=>if(a0 != a0)=true then(if(a1 != a1)=true then(some 0) else(some (-1))) else(if(a1 != a1)=true then(some 1) else(if(decide (a0<a1))=true then(some (-1)) else(if(decide (a0>a1))=true then(some 1) else(some 0))))
theorem Z3n.ok (a0:Int) (a1:Int) (r:Int) (H:Z3n.f a0 a1=some r):Pv.Fn Tryz.prog 80 [iV .i64 a0,iV .i64 a1] [] 0 (fun x o=>x=iV .i64 r∧o=[]):=by
 unfold Z3n.f at H
 exact HT.fn H (fun r=>iV .i64 r) (fun r=>[]) [] Tryz.func80 rfl rfl hmx (.r0<|.bd fun aa ab=>.rg [(1,hC [] [] [] [] Tryz.call113 (Z3r.ok a0 aa ab))]<|.bd fun ac ad=>.rg [(1,hC [] [] [] [] Tryz.call113 (Z3r.ok a1 ac ad))]<|.r0<|.cd (fun ae=>.r0<|.cd (fun af=>.r0<|.ret [] [] [] ⟨[(4,iV .i64 0)],[],0⟩)
 (fun af=>.r0<|.ret [] [] [] ⟨[(4,iV .i64 (-1))],[],0⟩))
 (fun ae=>.r0<|.cd (fun ah=>.r0<|.ret [] [] [] ⟨[(4,iV .i64 1)],[],0⟩)
 (fun ah=>.r0<|.cd (fun ai=>.r0<|.ret [] [] [] ⟨[(4,iV .i64 (-1))],[],0⟩)
 (fun ai=>.r0<|.cd (fun aj=>.r0<|.ret [] [] [] ⟨[(4,iV .i64 1)],[],0⟩)
 (fun aj=>.r0<|.ret [] [] [] ⟨[(4,iV .i64 0)],[],0⟩)))))
def Z36.f (a0:Zc) (a1:Int):Option (Int):=(Z3n.f a0.f0 a1)>>=fun aa=>some aa
theorem Z36.ok (a0:Zc) (a1:Int) (r:Int) (H:Z36.f a0 a1=some r):Pv.Fn Tryz.prog 129 [.agg [iV .i64 a0.f0,iV .i64 a0.f1],iV .i64 a1] [] 0 (fun x o=>x=iV .i64 r∧o=[]):=by
 unfold Z36.f at H
 exact HT.fn H (fun r=>iV .i64 r) (fun r=>[]) [] Tryz.func129 rfl rfl hmx (.rg [(0,⟨.k 0,.n⟩)]<|.bd fun aa ab=>.rg [(3,hC [] [] [] [] Tryz.call80 (Z3n.ok a0.f0 a1 aa ab))]<|.ret [] [] [] ⟨[(4,iV .i64 aa)],[],0⟩)
def Zm.l0 (a0:List Zc) (a1:Int) (aa:Int) (ab:Int):Option (Int):=if(decide (aa<ab))=true then((at? a0 (i64.wrap (Int.fdiv (u64.wrap (i64.wrap (aa+ab))) 2)))>>=fun ac=>(Z36.f ac a1)>>=fun ad=>((if(decide (ad<(0:Int)))=true then(some (i64.wrap ((i64.wrap (Int.fdiv (u64.wrap (i64.wrap (aa+ab))) 2))+(1:Int)),ab)) else(some (aa,i64.wrap (Int.fdiv (u64.wrap (i64.wrap (aa+ab))) 2)))):Option (Int×Int))>>=fun oo=>match oo with | (ae,af)=>(Zm.l0 a0 a1 ae af)) else(some aa)
partial_fixpoint
def Zm.f (a0:List Zc) (a1:Int):Option (Int×Bool):=(Zm.l0 a0 a1 0 (a0.length:Int))>>=fun aa=>((if(decide (aa<(a0.length:Int)))=true then((at? a0 aa)>>=fun ab=>(Z36.f ab a1)>>=fun ac=>some (ac==(0:Int))) else(some false)):Option (Bool))>>=fun ad=>some (aa,ad)
theorem Zm.ok (a0:List Zc) (a1:Int) (r:Int×Bool) (H:Zm.f a0 a1=some r):Pv.Fn Tryz.prog 128 [.im (.row (a0.map Zb)),iV .i64 a1,.im (.sc (.func (.func 129) #[] #[]))] [] 0 (fun x o=>x = .tup [iV .i64 r.1,bV r.2]∧o=[]):=by
 unfold Zm.f at H
 exact HT.fn H (fun r=>.tup [iV .i64 r.1,bV r.2]) (fun r=>[]) [] Tryz.func128 rfl rfl hmx (.r0<|.rg [(1,hG Zb a0)]<|.r0<|.bl<|.loop (.c2 (Zm.l0.partial_correctness a0 a1)) (0,(a0.length:Int)) [] [] [] (fun _=>.pr fun aa=>.one (fun ab=>⟨[(0,.im (.row (a0.map Zb))),(1,iV .i64 a1),(2,.im (.sc (.func (.func 129) #[] #[]))),(8,iV .i64 (a0.length:Int)),(9,iV .i64 aa),(10,iV .i64 ab)],[],0⟩) fun ab=>.r0<|.cd (fun ac=>.bl<|.rg [(4,hK 1)]<|.el fun ad ae af=>.bd fun ah ai=>.rg [(3,hA Zb ae af),(6,hC [] [] [] [] Tryz.call129 (Z36.ok ad a1 ah ai))]<|.join (.cd (fun aj=>.r0<|.o [])
 (fun aj=>.r0<|.o []))
 (.pr fun ak=>.st .normal (fun al=>⟨[(0,.im (.row (a0.map Zb))),(1,iV .i64 a1),(2,.im (.sc (.func (.func 129) #[] #[]))),(8,iV .i64 (a0.length:Int)),(9,iV .i64 ak),(10,iV .i64 al)],[],0⟩) fun al=>.bk [] rfl))
 (fun ac=>.o []))
 (.st (.exit 0) (fun am=>⟨[(0,.im (.row (a0.map Zb))),(1,iV .i64 a1),(2,.im (.sc (.func (.func 129) #[] #[]))),(8,iV .i64 (a0.length:Int)),(9,iV .i64 am)],[],0⟩) fun am=>.join (.sp (fun ao=>.el fun aq ar au=>.bd fun av ax=>.rg [(4,hB ao),(8,hA Zb ar au),(11,hC [] [] [] [] Tryz.call129 (Z36.ok aq a1 av ax))]<|.o [])
 (fun ao=>.rg [(4,hB ao)]<|.o []))
 (.st .normal (fun az=>⟨[(6,iV .i64 am),(7,bV az)],[],0⟩) fun az=>.ret [] [] [] ⟨[(6,iV .i64 am),(7,bV az)],[],0⟩)))
def Z4s.f (a0:Z35) (a1:Int):Option (Bool):=(Zm.f a0.f0 a1)>>=fun aa=>((if aa.2=true then(some true) else(if(decide (aa.1>(0:Int)))=true then((at? a0.f0 (i64.wrap (aa.1-(1:Int))))>>=fun ab=>some (decide (ab.f1≥a1))) else(some false))):Option (Bool))>>=fun ac=>some ac
theorem Z4s.ok (a0:Z35) (a1:Int) (r:Bool) (H:Z4s.f a0 a1=some r):Pv.Fn Tryz.prog 99 [.agg [.im (.row (a0.f0.map Zb))],iV .i64 a1] [] 0 (fun x o=>x=bV r∧o=[]):=by
 unfold Z4s.f at H
 exact HT.fn H (fun r=>bV r) (fun r=>[]) [] Tryz.func99 rfl rfl hmx (.rg [(0,⟨.k 0,.n⟩)]<|.bd fun aa ab=>.rg [(3,hC [] [] [] [] Tryz.call128 (Zm.ok a0.f0 a1 aa ab))]<|.join (.sp (fun ac=>.rg [(1,hB ac)]<|.o [])
 (fun ac=>.sp (fun ad=>.el fun ae af ah=>.rg [(1,hB ac),(4,hB ad),(9,hA Zb af ah)]<|.o [])
 (fun ad=>.rg [(1,hB ac),(4,hB ad)]<|.o [])))
 (.st .normal (fun ai=>⟨[(4,bV ai)],[],0⟩) fun ai=>.ret [] [] [] ⟨[(4,bV ai)],[],0⟩))
def Z28.f (a0:Z7) (a1_c0:List Zc):Option (Bool):=(Z4s.f (⟨a1_c0⟩:Z35) a0.f0)>>=fun aa=>some aa
theorem Z28.ok (a0:Z7) (a1_c0:List Zc) (r:Bool) (H:Z28.f a0 a1_c0=some r):Pv.Fn Tryz.prog 98 [.agg [iV .i64 a0.f0,iV .i64 a0.f1.f0,iV .i64 a0.f1.f1,iV .i64 a0.f1.f2,iV .u64 a0.f1.f3,iV .u64 a0.f1.f4,iV .i64 a0.f1.f5,.im (.row (a0.f1.f6.map Z0)),.im (.row (a0.f1.f7.map Z0))],.ptr 0 0 0] [(0,some (.box 97 [.im (.row (a1_c0.map Zb))]))] 1 (fun x o=>x=bV r∧o=[(0,some (.box 97 [.im (.row (a1_c0.map Zb))]))]):=by
 unfold Z28.f at H
 exact HT.fn H (fun r=>bV r) (fun r=>[(0,some (.box 97 [.im (.row (a1_c0.map Zb))]))]) [0] Tryz.func98 rfl rfl hmx (.rg [(0,⟨.k 1,.n⟩)]<|.bd fun aa ab=>.rg [(3,hC [] [] [] [] Tryz.call99 (Z4s.ok (⟨a1_c0⟩:Z35) a0.f0 aa ab))]<|.ret [(0,0)] [] [] ⟨[(3,bV aa)],[(0,some (.box 97 [.im (.row (a1_c0.map Zb))]))],1⟩)
def Zx.l0 (a0:List Z7) (a1_f0_c0:List Zc) (aa:Int):Option (Int ⊕ Unit):=if(decide (aa<(a0.length:Int)))=true then((at? a0 aa)>>=fun ab=>(Z28.f ab a1_f0_c0)>>=fun ac=>if ac=true then(some (.inl aa)) else(Zx.l0 a0 a1_f0_c0 (i64.wrap (aa+(1:Int))))) else(some (.inr ()))
partial_fixpoint
def Zx.f (a0:List Z7) (a1_f0_c0:List Zc):Option (Int):=(Zx.l0 a0 a1_f0_c0 0)>>=fun oo=>match oo with | .inl rr=>(some rr) | .inr _=>(some (-1))
theorem Zx.ok (a0:List Z7) (a1_f0_c0:List Zc) (r:Int) (H:Zx.f a0 a1_f0_c0=some r):Pv.Fn Tryz.prog 127 [.own 0,.fn 98 [.ptr 1 0 0]] [(0,some (.row 9 50 (a0.map Z4))),(1,some (.box 97 [.im (.row (a1_f0_c0.map Zb))]))] 2 (fun x o=>x=iV .i64 r∧o=[(0,some (.row 9 50 (a0.map Z4))),(1,some (.box 97 [.im (.row (a1_f0_c0.map Zb))]))]):=by
 unfold Zx.f at H
 exact HT.fn H (fun r=>iV .i64 r) (fun r=>[(0,some (.row 9 50 (a0.map Z4))),(1,some (.box 97 [.im (.row (a1_f0_c0.map Zb))]))]) [0,1] Tryz.func127 rfl rfl hmx (.r0<|.rg [(1,hG Z4 a0)]<|.bl<|.loop (.one (Zx.l0.partial_correctness a0 a1_f0_c0)) 0 [(0,0),(1,1)] [] [] (fun _=>.one (fun aa=>⟨[(0,.own 0),(1,.fn 98 [.ptr 1 0 0]),(7,iV .i64 (a0.length:Int)),(8,iV .i64 aa)],[(0,some (.row 9 50 (a0.map Z4))),(1,some (.box 97 [.im (.row (a1_f0_c0.map Zb))]))],2⟩) fun aa=>.r0<|.cd (fun ab=>.bl<|.r0<|.el fun ac ad ae=>.bd fun af ah=>.rg [(3,hX Z4 ad ae),(4,hL Z4 ae),(5,hC [(1,0)] [(0,1)] [] [] Tryz.call98 (Z28.ok ac a1_f0_c0 af ah))]<|.cd (fun ai=>.r0<|.ret [(0,0),(1,1)] [] [] ⟨[(4,iV .i64 aa)],[(0,some (.row 9 50 (a0.map Z4))),(1,some (.box 97 [.im (.row (a1_f0_c0.map Zb))]))],2⟩)
 (fun ai=>.r0<|.bk [(0,0),(1,1)] rfl))
 (fun ab=>.o [(0,0),(1,1)]))
 (.sm (.rt (fun rr=>iV .i64 rr) (fun rr=>[(0,some (.row 9 50 (a0.map Z4))),(1,some (.box 97 [.im (.row (a1_f0_c0.map Zb))]))]))
 (.st (.exit 0) (fun _=>⟨[],[(0,some (.row 9 50 (a0.map Z4))),(1,some (.box 97 [.im (.row (a1_f0_c0.map Zb))]))],2⟩) fun _=>.r0<|.ret [(0,0),(1,1)] [] [] ⟨[(4,iV .i64 (-1))],[(0,some (.row 9 50 (a0.map Z4))),(1,some (.box 97 [.im (.row (a1_f0_c0.map Zb))]))],2⟩)))
def Zp.l0 (a1_f0_c0:List Zc) (aa:List Z7) (ab:Int) (ac:Int):Option ((List Z7)×Int):=if(decide (ac<(aa.length:Int)))=true then((at? aa ac)>>=fun ad=>(Z28.f ad a1_f0_c0)>>=fun ae=>((if(!ae)=true then((at? aa ab)>>=fun af=>some (aa.set (Int.toNat (ab)) ad,i64.wrap (ab+(1:Int)))) else(some (aa,ab))):Option ((List Z7)×Int))>>=fun oo=>match oo with | (ah,ai)=>(Zp.l0 a1_f0_c0 ah ai (i64.wrap (ac+(1:Int))))) else(some (aa,ab))
partial_fixpoint
def Zp.f (a0:List Z7) (a1_f0_c0:List Zc):Option (List Z7):=(Zx.f a0 a1_f0_c0)>>=fun aa=>if(aa==(-1))=true then(some a0) else((Zp.l0 a1_f0_c0 a0 aa (i64.wrap (aa+(1:Int))))>>=fun oo=>match oo with | (ab,ac)=>((chk (0≤ac∧ac≤(ab.length:Int)))>>=fun _=>(chk (0≤ac∧ac≤((ab.take (Int.toNat ac)++List.replicate (ab.length-(Int.toNat ac)) (⟨0,(⟨0,0,0,0,0,0,[],[]⟩:Zg)⟩:Z7)).length:Int)))>>=fun _=>some ((ab.take (Int.toNat ac)++List.replicate (ab.length-(Int.toNat ac)) (⟨0,(⟨0,0,0,0,0,0,[],[]⟩:Zg)⟩:Z7)).take (Int.toNat (ac)))))
theorem Zp.ok (a0:List Z7) (a1_f0_c0:List Zc) (r:List Z7) (H:Zp.f a0 a1_f0_c0=some r):Pv.Fn Tryz.prog 96 [.own 0,.fn 98 [.ptr 1 0 0]] [(0,some (.row 9 50 (a0.map Z4))),(1,some (.box 97 [.im (.row (a1_f0_c0.map Zb))]))] 2 (fun x o=>x = .own 2∧o=[(0,none),(1,some (.box 97 [.im (.row (a1_f0_c0.map Zb))])),(2,some (.row 9 50 (r.map Z4)))]):=by
 unfold Zp.f at H
 exact HT.fn H (fun r=>.own 2) (fun r=>[(0,none),(1,some (.box 97 [.im (.row (a1_f0_c0.map Zb))])),(2,some (.row 9 50 (r.map Z4)))]) [0,1,2] Tryz.func96 rfl rfl hmx (.r0<|.bd fun aa ab=>.rg [(2,hC [(0,0),(1,1)] [(0,0),(1,1)] [] [] Tryz.call127 (Zx.ok a0 a1_f0_c0 aa ab))]<|.r0<|.cd (fun ac=>.r0<|.ret [(0,2),(1,1)] [] [] ⟨[(4,.own 2)],[(1,some (.box 97 [.im (.row (a1_f0_c0.map Zb))])),(2,some (.row 9 50 (a0.map Z4)))],2⟩)
 (fun ac=>.r0<|.bl<|.loop (.c3 (Zp.l0.partial_correctness a1_f0_c0)) (a0,aa,i64.wrap (aa+(1:Int))) [(0,0),(1,1)] [] [] (fun _=>.pr fun ad=>.pr fun ae=>.one (fun af=>⟨[(0,.own 0),(1,.fn 98 [.ptr 1 0 0]),(5,iV .i64 ae),(6,iV .i64 af)],[(0,some (.row 9 50 (ad.map Z4))),(1,some (.box 97 [.im (.row (a1_f0_c0.map Zb))]))],2⟩) fun af=>.rg [(2,hG Z4 ad)]<|.cd (fun ah=>.bl<|.el fun ai aj ak=>.rg [(2,hX Z4 aj ak),(3,hL Z4 ak),(4,⟨.k 3,.n⟩)]<|.bd fun al am=>.rg [(2,hC [(1,0)] [(0,1)] [] [] Tryz.call98 (Z28.ok ai a1_f0_c0 al am))]<|.join (.cd (fun ao=>.el fun aq ar au=>.rg [(3,hX Z4 ar au),(4,hS Z4 ai 0 [iI .i64 ai.f0,iI .i64 ai.f1.f0,iI .i64 ai.f1.f1,iI .i64 ai.f1.f2,iI .u64 ai.f1.f3,iI .u64 ai.f1.f4,iI .i64 ai.f1.f5,.row (ai.f1.f6.map Z0),.row (ai.f1.f7.map Z0)] au)]<|.r0<|.o [(0,0),(1,1)])
 (fun ao=>.o [(0,0),(1,1)]))
 (.pr fun av=>.st .normal (fun ax=>⟨[(0,.own 0),(1,.fn 98 [.ptr 1 0 0]),(5,iV .i64 ax),(6,iV .i64 af)],[(0,some (.row 9 50 (av.map Z4))),(1,some (.box 97 [.im (.row (a1_f0_c0.map Zb))]))],2⟩) fun ax=>.r0<|.bk [(0,0),(1,1)] rfl))
 (fun ah=>.o [(0,0),(1,1)]))
 (.pr fun az=>.st (.exit 0) (fun a9=>⟨[(0,.own 0),(5,iV .i64 a9)],[(0,some (.row 9 50 (az.map Z4))),(1,some (.box 97 [.im (.row (a1_f0_c0.map Zb))]))],2⟩) fun a9=>.ck fun ba=>.rg [(2,⟨.more (xCutOwn (Int.toNat a9) (az.length-(Int.toNat a9))),.c (p:=a9=(((Int.toNat a9):Nat):Int)) ((Int.toNat_of_nonneg ba.1).symm) (.c (p:=(Int.toNat a9)+(az.length-(Int.toNat a9))=(az.map Z4).length) (by have h:=ba;rw[List.length_map];omega) .n)⟩),(3,⟨.more (xClear ((az.take (Int.toNat a9)++List.replicate (az.length-(Int.toNat a9)) (⟨0,(⟨0,0,0,0,0,0,[],[]⟩:Zg)⟩:Z7)).map Z4)),.c (p:=(az.take (Int.toNat a9)++List.replicate (az.length-(Int.toNat a9)) (⟨0,(⟨0,0,0,0,0,0,[],[]⟩:Zg)⟩:Z7)).map Z4=(az.map Z4).take (Int.toNat a9)++List.replicate (az.length-(Int.toNat a9)) [iI .i64 0,iI .i64 0,iI .i64 0,iI .i64 0,iI .u64 0,iI .u64 0,iI .i64 0,.row [],.row []]) (by simp) (.c (p:=(Int.toNat a9)+(az.length-(Int.toNat a9))=(az.map Z4).length) (by have h:=ba;rw[List.length_map];omega) .n)⟩)]<|.ck fun bb=>.rg [(2,⟨.more (xTake 4 (((az.take (Int.toNat a9)++List.replicate (az.length-(Int.toNat a9)) (⟨0,(⟨0,0,0,0,0,0,[],[]⟩:Zg)⟩:Z7)).take (Int.toNat (a9))).map Z4)),.c (bb.1) (.c (p:=a9≤(((az.take (Int.toNat a9)++List.replicate (az.length-(Int.toNat a9)) (⟨0,(⟨0,0,0,0,0,0,[],[]⟩:Zg)⟩:Z7)).map Z4).length:Int)) (by simpa using bb.2) (.c (p:=((az.take (Int.toNat a9)++List.replicate (az.length-(Int.toNat a9)) (⟨0,(⟨0,0,0,0,0,0,[],[]⟩:Zg)⟩:Z7)).take (Int.toNat (a9))).map Z4=((az.take (Int.toNat a9)++List.replicate (az.length-(Int.toNat a9)) (⟨0,(⟨0,0,0,0,0,0,[],[]⟩:Zg)⟩:Z7)).map Z4).take (Int.toNat (a9))) (by simp) .n))⟩)]<|.ret [(1,1),(4,2)] [] [] ⟨[(4,.own 2)],[(1,some (.box 97 [.im (.row (a1_f0_c0.map Zb))])),(2,some (.row 9 50 (((az.take (Int.toNat a9)++List.replicate (az.length-(Int.toNat a9)) (⟨0,(⟨0,0,0,0,0,0,[],[]⟩:Zg)⟩:Z7)).take (Int.toNat (a9))).map Z4)))],2⟩)))
def Z2p.f (a0:Z35) (a1:List Z7):Option (List Z7):=(Z16.f a1)>>=fun aa=>(Zp.f aa a0.f0)>>=fun ab=>some ab
theorem Z2p.ok (a0:Z35) (a1:List Z7) (r:List Z7) (H:Z2p.f a0 a1=some r):Pv.Fn Tryz.prog 60 [.agg [.im (.row (a0.f0.map Zb))],.im (.row (a1.map Z4))] [] 0 (fun x o=>x = .own 0∧o=[(0,some (.row 9 50 (r.map Z4)))]):=by
 unfold Z2p.f at H
 exact HT.fn H (fun r=>.own 0) (fun r=>[(0,some (.row 9 50 (r.map Z4)))]) [0] Tryz.func60 rfl rfl hmx (.rg [(0,⟨.k 0,.n⟩)]<|.bd fun aa ab=>.bd fun ac ad=>.rg [(1,hC [] [(0,1)] [] [1] Tryz.call97 (Z16.ok a1 aa ab)),(2,⟨.more xFunc,.n⟩),(3,hC [(1,0),(0,1)] [(1,0),(2,2)] [] [2] Tryz.call96 (Zp.ok aa a0.f0 ac ad))]<|.ret [(2,0)] [] [] ⟨[(4,.own 0)],[(0,some (.row 9 50 (ac.map Z4)))],0⟩)
def Z12.l0 (a0:Zo) (aa:Int):Option (Bool ⊕ Unit):=if(decide (aa<(a0.f1.length:Int)))=true then((at? a0.f1 aa)>>=fun ab=>((if(decide (ab<(0:Int)))=true then(some true) else(if(decide (ab>(65536:Int)))=true then(some true) else(if(decide (aa>(0:Int)))=true then((at? a0.f1 (i64.wrap (aa-(1:Int))))>>=fun ac=>some (decide (ac≥ab))) else(some false)))):Option (Bool))>>=fun ad=>if ad=true then(some (.inl false)) else(Z12.l0 a0 (i64.wrap (aa+(1:Int))))) else(some (.inr ()))
partial_fixpoint
def Z12.l1 (a0:Zo) (aa:Int):Option (Bool ⊕ Unit):=if(decide (aa<(a0.f2.length:Int)))=true then((at? a0.f2 aa)>>=fun ab=>(((Z27.f ab.f0)>>=fun ac=>if(!ac)=true then(some true) else(if(decide (aa>(0:Int)))=true then((at? a0.f2 (i64.wrap (aa-(1:Int))))>>=fun ad=>if(!Op.bytesLess ad.f0.toList ab.f0.toList)=true then(some true) else(if(decide (ab.f1<(0:Int)))=true then(some true) else(if(decide (ab.f1>(1099511627776:Int)))=true then(some true) else((Z0w.f ab.f3)>>=fun ae=>some (!ae))))) else(if(decide (ab.f1<(0:Int)))=true then(some true) else(if(decide (ab.f1>(1099511627776:Int)))=true then(some true) else((Z0w.f ab.f3)>>=fun af=>some (!af)))))):Option (Bool))>>=fun ah=>if ah=true then(some (.inl false)) else(((if(decide ((ab.f3.length:Int)>(0:Int)))=true then((at? ab.f3 (i64.wrap ((ab.f3.length:Int)-(1:Int))))>>=fun ai=>if(decide (ai.f0>ab.f1))=true then(some true) else((Z0o.f ab.f2)>>=fun aj=>some (decide ((aj.length:Int)>(65536:Int))))) else((Z0o.f ab.f2)>>=fun ak=>some (decide ((ak.length:Int)>(65536:Int))))):Option (Bool))>>=fun al=>if al=true then(some (.inl false)) else((Z0o.f ab.f2)>>=fun am=>((if(decide ((am.length:Int)>(0:Int)))=true then((at? am (i64.wrap ((am.length:Int)-(1:Int))))>>=fun ao=>if(decide (ao.f1>ab.f1))=true then(some true) else((Z2p.f ab.f2 ab.f3)>>=fun aq=>some ((aq.length:Int) != (ab.f3.length:Int)))) else((Z2p.f ab.f2 ab.f3)>>=fun ar=>some ((ar.length:Int) != (ab.f3.length:Int)))):Option (Bool))>>=fun au=>if au=true then(some (.inl false)) else(Z12.l1 a0 (i64.wrap (aa+(1:Int))))))) else(some (.inr ()))
partial_fixpoint
def Z12.f (a0:Zo):Option (Bool):=((if(decide (a0.f0<(0:Int)))=true then(some true) else(if(decide (a0.f0>(1099511627776:Int)))=true then(some true) else(if(decide ((a0.f2.length:Int)>(64:Int)))=true then(some true) else(some (decide ((a0.f1.length:Int)>(256:Int))))))):Option (Bool))>>=fun aa=>if aa=true then(some false) else((Z12.l0 a0 0)>>=fun oo=>match oo with | .inl rr=>(some rr) | .inr _=>((Z12.l1 a0 0)>>=fun oo=>match oo with | .inl rr=>(some rr) | .inr _=>(some true)))
theorem Z12.ok (a0:Zo) (r:Bool) (H:Z12.f a0=some r):Pv.Fn Tryz.prog 24 [.agg (Z3d a0)] [] 0 (fun x o=>x=bV r∧o=[]):=by
 unfold Z12.f at H
 exact HT.fn H (fun r=>bV r) (fun r=>[]) [] Tryz.func24 rfl rfl hmx (.rg [(0,⟨.k 0,.n⟩)]<|.join (.sp (fun aa=>.rg [(3,hB aa)]<|.o [(0,1)])
 (fun aa=>.sp (fun ab=>.rg [(3,hB aa),(8,hB ab)]<|.o [(0,1)])
 (fun ab=>.sp (fun ac=>.rg [(3,hB aa),(8,hB ab),(11,hG Z0n a0.f2),(14,hB ac)]<|.o [(0,1)])
 (fun ac=>.rg [(3,hB aa),(8,hB ab),(11,hG Z0n a0.f2),(14,hB ac),(17,hG (Z1 .i64) a0.f1)]<|.o [(0,1)]))))
 (.st .normal (fun ad=>⟨[(1,.ptr 1 0 0),(28,bV ad)],[(1,some (.box 62 (Z3d a0)))],0⟩) fun ad=>.cd (fun ae=>.r0<|.ret [] [] [] ⟨[(2,bV false)],[],0⟩)
 (fun ae=>.rg [(2,hG (Z1 .i64) a0.f1)]<|.bl<|.loop (.one (Z12.l0.partial_correctness a0)) 0 [(1,3)] [] [] (fun _=>.one (fun af=>⟨[(1,.ptr 3 0 0),(30,.im (.row (a0.f1.map (Z1 .i64)))),(31,iV .i64 (a0.f1.length:Int)),(32,iV .i64 af)],[(3,some (.box 62 (Z3d a0)))],0⟩) fun af=>.r0<|.cd (fun ah=>.bl<|.el fun ai aj ak=>.rg [(1,hA (Z1 .i64) aj ak)]<|.join (.sp (fun al=>.rg [(2,hB al)]<|.o [(3,4)])
 (fun al=>.sp (fun am=>.rg [(2,hB al),(6,hB am)]<|.o [(3,4)])
 (fun am=>.sp (fun ao=>.el fun aq ar au=>.rg [(2,hB al),(6,hB am),(9,hB ao),(14,hA (Z1 .i64) ar au)]<|.o [(3,4)])
 (fun ao=>.rg [(2,hB al),(6,hB am),(9,hB ao)]<|.o [(3,4)]))))
 (.st .normal (fun av=>⟨[(1,.ptr 4 0 0),(30,.im (.row (a0.f1.map (Z1 .i64)))),(31,iV .i64 (a0.f1.length:Int)),(32,iV .i64 af),(56,bV av)],[(4,some (.box 62 (Z3d a0)))],0⟩) fun av=>.cd (fun ax=>.r0<|.ret [] [] [] ⟨[(2,bV false)],[],0⟩)
 (fun ax=>.r0<|.bk [(4,3)] rfl)))
 (fun ah=>.o [(3,5)]))
 (.sm (.rt (fun rr=>bV rr) (fun rr=>[]))
 (.st (.exit 0) (fun _=>⟨[(1,.ptr 5 0 0)],[(5,some (.box 62 (Z3d a0)))],0⟩) fun _=>.rg [(2,hG Z0n a0.f2)]<|.bl<|.loop (.one (Z12.l1.partial_correctness a0)) 0 [(5,17)] [] [] (fun _=>.one (fun az=>⟨[(1,.ptr 17 0 0),(59,.im (.row (a0.f2.map Z0n))),(60,iV .i64 (a0.f2.length:Int)),(61,iV .i64 az)],[(17,some (.box 62 (Z3d a0)))],0⟩) fun az=>.r0<|.cd (fun a9=>.bl<|.el fun ba bb bc=>.rg [(1,hA Z0n bb bc),(3,⟨.k 18,.n⟩)]<|.join (.bd fun be bf=>.sp (fun bg=>.rg [(2,hC [] [] [] [] Tryz.call39 (Z27.ok ba.f0 be bf)),(4,hB bg)]<|.o [(17,19),(18,20)])
 (fun bg=>.sp (fun bh=>.el fun bi bj bn=>.sp (fun bo=>.rg [(2,hC [] [] [] [] Tryz.call39 (Z27.ok ba.f0 be bf)),(4,hB bg),(7,hB bh),(12,hA Z0n bj bn),(20,hB bo)]<|.o [(17,19),(18,20)])
 (fun bo=>.sp (fun bp=>.rg [(2,hC [] [] [] [] Tryz.call39 (Z27.ok ba.f0 be bf)),(4,hB bg),(7,hB bh),(12,hA Z0n bj bn),(20,hB bo),(25,hB bp)]<|.o [(17,19),(18,20)])
 (fun bp=>.sp (fun bq=>.rg [(2,hC [] [] [] [] Tryz.call39 (Z27.ok ba.f0 be bf)),(4,hB bg),(7,hB bh),(12,hA Z0n bj bn),(20,hB bo),(25,hB bp),(30,hB bq)]<|.o [(17,19),(18,20)])
 (fun bq=>.bd fun br bu=>.rg [(2,hC [] [] [] [] Tryz.call39 (Z27.ok ba.f0 be bf)),(4,hB bg),(7,hB bh),(12,hA Z0n bj bn),(20,hB bo),(25,hB bp),(30,hB bq),(33,hC [] [] [] [] Tryz.call18 (Z0w.ok ba.f3 br bu))]<|.o [(17,19),(18,20)]))))
 (fun bh=>.sp (fun bv=>.rg [(2,hC [] [] [] [] Tryz.call39 (Z27.ok ba.f0 be bf)),(4,hB bg),(7,hB bh),(25,hB bv)]<|.o [(17,19),(18,20)])
 (fun bv=>.sp (fun bw=>.rg [(2,hC [] [] [] [] Tryz.call39 (Z27.ok ba.f0 be bf)),(4,hB bg),(7,hB bh),(25,hB bv),(30,hB bw)]<|.o [(17,19),(18,20)])
 (fun bw=>.bd fun bx bz=>.rg [(2,hC [] [] [] [] Tryz.call39 (Z27.ok ba.f0 be bf)),(4,hB bg),(7,hB bh),(25,hB bv),(30,hB bw),(33,hC [] [] [] [] Tryz.call18 (Z0w.ok ba.f3 bx bz))]<|.o [(17,19),(18,20)])))))
 (.st .normal (fun ca=>⟨[(1,.ptr 19 0 0),(6,.ptr 20 0 0),(59,.im (.row (a0.f2.map Z0n))),(60,iV .i64 (a0.f2.length:Int)),(61,iV .i64 az),(101,bV ca)],[(19,some (.box 62 (Z3d a0))),(20,some (.box 122 (Zeg ba)))],0⟩) fun ca=>.cd (fun cb=>.r0<|.ret [] [] [] ⟨[(2,bV false)],[],0⟩)
 (fun cb=>.rg [(2,hG Z4 ba.f3)]<|.join (.sp (fun cc=>.el fun cf cj cm=>.sp (fun cn=>.rg [(2,hB cc),(7,hA Z4 cj cm),(14,hB cn)]<|.o [(19,23),(20,24)])
 (fun cn=>.bd fun co ct=>.rg [(2,hB cc),(7,hA Z4 cj cm),(14,hB cn),(17,hC [] [(0,21)] [] [21] Tryz.call48 (Z0o.ok ba.f2 co ct)),(18,hG Zb co)]<|.o [(19,23),(20,24)]))
 (fun cc=>.bd fun cw cx=>.rg [(2,hB cc),(17,hC [] [(0,22)] [] [22] Tryz.call48 (Z0o.ok ba.f2 cw cx)),(18,hG Zb cw)]<|.o [(19,23),(20,24)]))
 (.st .normal (fun cy=>⟨[(1,.ptr 23 0 0),(6,.ptr 24 0 0),(59,.im (.row (a0.f2.map Z0n))),(60,iV .i64 (a0.f2.length:Int)),(61,iV .i64 az),(125,bV cy)],[(23,some (.box 62 (Z3d a0))),(24,some (.box 122 (Zeg ba)))],0⟩) fun cy=>.cd (fun cz=>.r0<|.ret [] [] [] ⟨[(2,bV false)],[],0⟩)
 (fun cz=>.bd fun c8 c9=>.rg [(2,hC [] [(0,25)] [] [25] Tryz.call48 (Z0o.ok ba.f2 c8 c9))]<|.join (.sp (fun da=>.el fun db dc dd=>.sp (fun de=>.rg [(1,hG Zb c8),(3,hB da),(6,hG Zb c8),(8,hX Zb dc dd),(10,hL Zb dd),(15,hB de)]<|.o [(23,28)])
 (fun de=>.bd fun df dg=>.rg [(1,hG Zb c8),(3,hB da),(6,hG Zb c8),(8,hX Zb dc dd),(10,hL Zb dd),(15,hB de),(20,hC [] [(0,26)] [] [26] Tryz.call60 (Z2p.ok ba.f2 ba.f3 df dg)),(21,hG Z4 df),(24,hG Z4 ba.f3)]<|.o [(23,28)]))
 (fun da=>.bd fun dh di=>.rg [(1,hG Zb c8),(3,hB da),(20,hC [] [(0,27)] [] [27] Tryz.call60 (Z2p.ok ba.f2 ba.f3 dh di)),(21,hG Z4 dh),(24,hG Z4 ba.f3)]<|.o [(23,28)]))
 (.st .normal (fun dj=>⟨[(1,.ptr 28 0 0),(59,.im (.row (a0.f2.map Z0n))),(60,iV .i64 (a0.f2.length:Int)),(61,iV .i64 az),(155,bV dj)],[(28,some (.box 62 (Z3d a0)))],0⟩) fun dj=>.cd (fun dk=>.r0<|.ret [] [] [] ⟨[(2,bV false)],[],0⟩)
 (fun dk=>.r0<|.bk [(28,17)] rfl)))))))
 (fun a9=>.o []))
 (.sm (.rt (fun rr=>bV rr) (fun rr=>[]))
 (.st (.exit 2) (fun _=>⟨[],[],0⟩) fun _=>.r0<|.ret [] [] [] ⟨[(2,bV true)],[],0⟩)))))))
def Z1m.l0 (a1:Int) (aa:List Int) (ab:Int×Bool) (ac:List Int) (ad:Int) (ae:Int):Option ((List Int)×Int):=if(decide (ae<ab.1))=true then((Z09.f ac ad true)>>=fun af=>Z1m.l0 a1 aa ab af.1 af.2 (i64.wrap (ae+(1:Int)))) else(some (ac,ad))
partial_fixpoint
def Z1m.f (a0_c1:Int) (a1:Int):Option ((List Int)×Int):=(Z2s.f)>>=fun aa=>(Z2c.f a1)>>=fun ab=>(Z04.f aa ab)>>=fun ac=>(Z1m.l0 a1 aa ac [] a0_c1 0)>>=fun oo=>match oo with | (ad,ae)=>(((if(decide (ac.1<(i64.wrap ((aa.length:Int)-(1:Int)))))=true then((Z09.f ad ae false)>>=fun af=>some (af.1,af.2)) else(some (ad,ae))):Option ((List Int)×Int))>>=fun oo=>match oo with | (ah,ai)=>((at? aa ac.1)>>=fun aj=>(Z05.f ah ai a1 aj)>>=fun ak=>some (ak.1,ak.2)))
theorem Z1m.ok (a0_c1:Int) (a1:Int) (r:(List Int)×Int) (H:Z1m.f a0_c1 a1=some r):Pv.Fn Tryz.prog 33 [.ptr 0 0 0,iV .u64 a1] [(0,some (.box 86 [.none0,iV .u64 a0_c1]))] 1 (fun x o=>x = .tup []∧o=[(0,some (.box 86 [.own 1,iV .u64 r.2])),(1,some (.row 1 5 (r.1.map (Z1 .u8))))]):=by
 unfold Z1m.f at H
 exact HT.fn H (fun r=>.tup []) (fun r=>[(0,some (.box 86 [.own 1,iV .u64 r.2])),(1,some (.row 1 5 (r.1.map (Z1 .u8))))]) [0,1] Tryz.func33 rfl rfl hmx (.bd fun aa ab=>.rg [(0,hC [] [(0,1)] [] [1] Tryz.call69 (Z2s.ok  aa ab))]<|.bd fun ac ad=>.bd fun ae af=>.rg [(2,hC [] [] [] [] Tryz.call71 (Z2c.ok a1 ac ad)),(3,hC [] [] [1] [] Tryz.call70 (Z04.ok aa ac ae af))]<|.r0<|.bl<|.loop (.c3 (Z1m.l0.partial_correctness a1 aa ae)) ([],a0_c1,0) [(0,0),(1,4)] [] [3] (fun _=>.pr fun ah=>.pr fun ai=>.one (fun aj=>⟨[(0,.ptr 0 0 0),(1,iV .u64 a1),(4,.own 4),(5,iV .i64 ae.1),(15,iV .i64 ae.1),(16,iV .i64 aj)],[(0,some (.box 86 [.own 3,iV .u64 ai])),(3,some (.row 1 5 (ah.map (Z1 .u8)))),(4,some (.row 1 3 (aa.map (Z1 .i64))))],1⟩) fun aj=>.r0<|.cd (fun ak=>.bl<|.bd fun al am=>.rg [(1,hC [(0,0),(3,1)] [(0,0),(2,5)] [] [5] Tryz.call68 (Z09.ok ah ai true al am))]<|.r0<|.bk [(0,0),(4,4),(5,3)] rfl)
 (fun ak=>.o [(0,0),(3,6),(4,7)]))
 (.pr fun ao=>.st (.exit 0) (fun aq=>⟨[(0,.ptr 0 0 0),(1,iV .u64 a1),(4,.own 7),(5,iV .i64 ae.1)],[(0,some (.box 86 [.own 6,iV .u64 aq])),(6,some (.row 1 5 (ao.map (Z1 .u8)))),(7,some (.row 1 3 (aa.map (Z1 .i64))))],1⟩) fun aq=>.rg [(2,hG (Z1 .i64) aa)]<|.join (.cd (fun ar=>.bd fun au av=>.rg [(1,hC [(0,0),(6,1)] [(0,0),(2,8)] [] [8] Tryz.call68 (Z09.ok ao aq false au av))]<|.o [(0,0),(8,9),(7,10)])
 (fun ar=>.o [(0,0),(6,9),(7,10)]))
 (.pr fun ax=>.st .normal (fun az=>⟨[(0,.ptr 0 0 0),(1,iV .u64 a1),(4,.own 10),(5,iV .i64 ae.1)],[(0,some (.box 86 [.own 9,iV .u64 az])),(9,some (.row 1 5 (ax.map (Z1 .u8)))),(10,some (.row 1 3 (aa.map (Z1 .i64))))],1⟩) fun az=>.el fun a9 ba bb=>.bd fun bc be=>.rg [(4,hX (Z1 .i64) ba bb),(5,hL (Z1 .i64) bb),(6,hC [(0,0),(9,1)] [(0,0),(2,11)] [] [11] Tryz.call32 (Z05.ok ax az a1 a9 bc be))]<|.ret [(0,0),(11,1)] [] [] ⟨[],[(0,some (.box 86 [.own 1,iV .u64 bc.2])),(1,some (.row 1 5 (bc.1.map (Z1 .u8))))],1⟩)))
def Z1l.l0 (a1:ByteArray) (aa:List Int) (ab:Int) (ac:Int):Option ((List Int)×Int):=if(decide (ac<(a1.size:Int)))=true then((chk (0≤ac∧ac<(a1.size:Int)))>>=fun _=>(Z05.f aa ab (u64.wrap (bt a1 ac)) 8)>>=fun ad=>Z1l.l0 a1 ad.1 ad.2 (i64.wrap (ac+(1:Int)))) else(some (aa,ab))
partial_fixpoint
def Z1l.f (a0_c0:List Int) (a0_c1:Int) (a1:ByteArray):Option ((List Int)×Int):=(Z9.f a0_c0 a0_c1 (u64.wrap ((a1.size:Int))))>>=fun aa=>(Z1l.l0 a1 aa.1 aa.2 0)>>=fun oo=>match oo with | (ab,ac)=>(some (ab,ac))
theorem Z1l.ok (a0_c0:List Int) (a0_c1:Int) (a1:ByteArray) (r:(List Int)×Int) (H:Z1l.f a0_c0 a0_c1 a1=some r):Pv.Fn Tryz.prog 34 [.ptr 0 0 0,sV a1] [(0,some (.box 86 [.own 1,iV .u64 a0_c1])),(1,some (.row 1 5 (a0_c0.map (Z1 .u8))))] 2 (fun x o=>x = .tup []∧o=[(0,some (.box 86 [.own 2,iV .u64 r.2])),(1,none),(2,some (.row 1 5 (r.1.map (Z1 .u8))))]):=by
 unfold Z1l.f at H
 exact HT.fn H (fun r=>.tup []) (fun r=>[(0,some (.box 86 [.own 2,iV .u64 r.2])),(1,none),(2,some (.row 1 5 (r.1.map (Z1 .u8))))]) [0,1,2] Tryz.func34 rfl rfl hmx (.bd fun aa ab=>.rg [(4,hC [(0,0),(1,1)] [(0,0),(2,2)] [] [2] Tryz.call33 (Z9.ok a0_c0 a0_c1 (u64.wrap ((a1.size:Int))) aa ab))]<|.r0<|.bl<|.loop (.c3 (Z1l.l0.partial_correctness a1)) (aa.1,aa.2,0) [(0,0),(2,4)] [] [] (fun _=>.pr fun ac=>.pr fun ad=>.one (fun ae=>⟨[(0,.ptr 0 0 0),(1,sV a1),(11,iV .i64 (a1.size:Int)),(12,iV .i64 ae)],[(0,some (.box 86 [.own 4,iV .u64 ad])),(4,some (.row 1 5 (ac.map (Z1 .u8))))],2⟩) fun ae=>.r0<|.cd (fun af=>.bl<|.r0<|.ck fun ah=>.bd fun ai aj=>.rg [(3,hN (p2 ah)),(5,hC [(0,0),(4,1)] [(0,0),(2,5)] [] [5] Tryz.call32 (Z05.ok ac ad (u64.wrap (bt a1 ae)) 8 ai aj))]<|.r0<|.bk [(0,0),(5,4)] rfl)
 (fun af=>.o [(0,0),(4,6)]))
 (.pr fun ak=>.st (.exit 0) (fun al=>⟨[],[(0,some (.box 86 [.own 6,iV .u64 al])),(6,some (.row 1 5 (ak.map (Z1 .u8))))],2⟩) fun al=>.ret [(0,0),(6,2)] [] [] ⟨[],[(0,some (.box 86 [.own 2,iV .u64 al])),(2,some (.row 1 5 (ak.map (Z1 .u8))))],2⟩))
def Z1e.l0 (a0:Z35) (aa:List Int) (ab:Int) (ac:Int) (ad:Int):Option ((List Int)×Int):=if(decide (ad<(a0.f0.length:Int)))=true then((at? a0.f0 ad)>>=fun ae=>(Z9.f aa ab (u64.wrap (i64.wrap (ae.f0-ac))))>>=fun af=>(Z9.f af.1 af.2 (u64.wrap (i64.wrap (ae.f1-ae.f0))))>>=fun ah=>Z1e.l0 a0 ah.1 ah.2 (i64.wrap (ae.f1+(2:Int))) (i64.wrap (ad+(1:Int)))) else(some (aa,ab))
partial_fixpoint
def Z1e.f (a0:Z35) (a1_c0:List Int) (a1_c1:Int):Option ((List Int)×Int):=(Z9.f a1_c0 a1_c1 (u64.wrap ((a0.f0.length:Int))))>>=fun aa=>(Z1e.l0 a0 aa.1 aa.2 0 0)>>=fun oo=>match oo with | (ab,ac)=>(some (ab,ac))
theorem Z1e.ok (a0:Z35) (a1_c0:List Int) (a1_c1:Int) (r:(List Int)×Int) (H:Z1e.f a0 a1_c0 a1_c1=some r):Pv.Fn Tryz.prog 37 [.agg [.im (.row (a0.f0.map Zb))],.ptr 0 0 0] [(0,some (.box 86 [.own 1,iV .u64 a1_c1])),(1,some (.row 1 5 (a1_c0.map (Z1 .u8))))] 2 (fun x o=>x = .tup []∧o=[(0,some (.box 86 [.own 2,iV .u64 r.2])),(1,none),(2,some (.row 1 5 (r.1.map (Z1 .u8))))]):=by
 unfold Z1e.f at H
 exact HT.fn H (fun r=>.tup []) (fun r=>[(0,some (.box 86 [.own 2,iV .u64 r.2])),(1,none),(2,some (.row 1 5 (r.1.map (Z1 .u8))))]) [0,1,2] Tryz.func37 rfl rfl hmx (.rg [(0,⟨.k 2,.n⟩)]<|.bd fun aa ab=>.rg [(3,hG Zb a0.f0),(5,hC [(0,0),(1,1)] [(0,0),(2,3)] [] [3] Tryz.call33 (Z9.ok a1_c0 a1_c1 (u64.wrap ((a0.f0.length:Int))) aa ab))]<|.r0<|.rg [(2,hG Zb a0.f0)]<|.bl<|.loop (.c4 (Z1e.l0.partial_correctness a0)) (aa.1,aa.2,0,0) [(0,0),(3,7)] [] [] (fun _=>.pr fun ac=>.pr fun ad=>.pr fun ae=>.one (fun af=>⟨[(1,.ptr 0 0 0),(4,iV .i64 ae),(14,.im (.row (a0.f0.map Zb))),(15,iV .i64 (a0.f0.length:Int)),(16,iV .i64 af)],[(0,some (.box 86 [.own 7,iV .u64 ad])),(7,some (.row 1 5 (ac.map (Z1 .u8))))],2⟩) fun af=>.r0<|.cd (fun ah=>.bl<|.el fun ai aj ak=>.rg [(0,hA Zb aj ak),(2,⟨.k 8,.n⟩)]<|.bd fun al am=>.rg [(6,hC [(0,0),(7,1)] [(0,0),(2,9)] [] [9] Tryz.call33 (Z9.ok ac ad (u64.wrap (i64.wrap (ai.f0-ae))) al am))]<|.bd fun ao aq=>.rg [(7,hC [(0,0),(9,1)] [(0,0),(2,10)] [] [10] Tryz.call33 (Z9.ok al.1 al.2 (u64.wrap (i64.wrap (ai.f1-ai.f0))) ao aq))]<|.r0<|.r0<|.bk [(0,0),(10,7)] rfl)
 (fun ah=>.o [(0,0),(7,11)]))
 (.pr fun ar=>.st (.exit 0) (fun au=>⟨[],[(0,some (.box 86 [.own 11,iV .u64 au])),(11,some (.row 1 5 (ar.map (Z1 .u8))))],2⟩) fun au=>.ret [(0,0),(11,2)] [] [] ⟨[],[(0,some (.box 86 [.own 2,iV .u64 au])),(2,some (.row 1 5 (ar.map (Z1 .u8))))],2⟩))
def Z1w.l0 (a0:List Z7) (x1:List (List Z7)) (x2:List Z7) (x3:Int):Option (List (List Z7)):=if(decide (x3<(a0.length:Int)))=true then((at? a0 x3)>>=fun b1=>(chk ((x1.length+2)*24≤140737488355328))>>=fun _=>(Z1h.f x2 b1)>>=fun t1=>if(!t1)=true then Z1w.l0 a0 (x1++[x2]) [b1] (i64.wrap (x3+(1:Int))) else(chk ((x2.length+1)*104≤140737488355328))>>=fun _=>Z1w.l0 a0 x1 (x2++[b1]) (i64.wrap (x3+(1:Int)))) else some (x1++[x2])
partial_fixpoint
def Z1w.f (a0:List Z7):Option (List (List Z7)):=if(decide ((0:Int)<(a0.length:Int)))=true then((at? a0 0)>>=fun b1=>Z1w.l0 a0 [] [b1] (i64.wrap ((0:Int)+(1:Int)))) else some []
theorem Z1w.ok (a0:List Z7) (r:List (List Z7)) (H:Z1w.f a0=some r):Pv.Fn Tryz.prog 72 [.im (.row (a0.map Z4))] [] 0 (fun x o=>x = .own 0∧o=[(0,some (.row 1 44 (r.map (Z20 Z4))))]):=by
 unfold Z1w.f at H
 refine Fn.bodyK [0] Tryz.func72 rfl rfl (fun Γ hP hn => ?_)
 have hm:Tryz.prog.follows .mixedOrders=true:=by kernel_rfl
 replace hn:Γ.n=46:=hn
 refine sO hP hn hm [] [] [0] [] [] ?_
 refine sO hP hn hm [] [(3,.none0)] [0,3] [] [] ?_
 refine AWp.seq ?_
 refine AWp.seq ?_
 refine rG hP hn hm [(1,.any (iV .i64 (a0.length:Int)))] [(7,.im (.row (a0.map Z4))),(8,iV .i64 (a0.length:Int)),(9,iV .i64 0)] [3,7,8,9] [] [] [((a0.map Z4).length:Int)=(a0.length:Int)] ⟨by rw[Z8t],trivial⟩ ?_
 refine AWp.block ?_
 refine AWp.loop (LWp.mono (Q:=fun e s=>e = .exit 0∧s=⟨[(3,.own 0)],[(0,some (.row 1 44 (r.map (Z20 Z4))))],0⟩) (LWp.cv (withBody (fun body hbody => ?_))) ?_)
 ·have main:∀ x1 x2 x3 o,        Z1w.l0 a0 x1 x2 x3=some o→LWp Γ body (fun e s=>∃ t,Cv Γ s t∧(e = .exit 0∧t=⟨[(3,.own 0)],[(0,some (.row 1 44 (o.map (Z20    Z4     ))))],0⟩)) ⟨[(3,.own 20),(7,.im (.row (a0.map Z4     ))),(8,iV .i64 (a0.length:Int)),(9,iV .i64 x3)],[(20,some (.arow 1 44 (x1.map (Z20    Z4     )) [[.own 21]])),(21,some (.row 9 50 (x2.map Z4     )))],0⟩:=by
   intro x1 x2 x3 o e1
   refine Z1w.l0.partial_correctness a0 (motive:=fun x1 x2 x3 o=>LWp Γ body (fun e s=>∃ t,Cv Γ s t∧(e = .exit 0∧t=⟨[(3,.own 0)],[(0,some (.row 1 44 (o.map (Z20 Z4))))],0⟩)) ⟨[(3,.own 20),(7,.im (.row (a0.map Z4))),(8,iV .i64 (a0.length:Int)),(9,iV .i64 x3)],[(20,some (.arow 1 44 (x1.map (Z20 Z4)) [[.own 21]])),(21,some (.row 9 50 (x2.map Z4)))],0⟩) ?_ _ _ _ _ e1
   clear H e1 o x1 x2 x3;intro self ih x1 x2 x3 o H
   subst hbody
   refine LWp.round ?_
   refine sO hP hn hm [] [(10,bV (decide (x3<(a0.length:Int))))] [3,7,8,9,10] [] [20,21] ?_
   refine AWp.seq ?_
   refine AWp.cond (decide (x3<(a0.length:Int))) (by kernel_rfl) (fun c1 => ?_) (fun c1 => ?_)
   ·replace H:=iT c1 H
    refine AWp.skip ?_
    refine AWp.seq ?_
    refine AWp.block ?_
    obtain⟨b1,p1,q1,H⟩:=at_of H
    obtain⟨d1,H⟩:=Za6 H
    have w0:=cut_w0 d1
    have w1:=cut_w1 d1
    rw[← Z8t x1 (Z20 Z4)] at w0 w1
    refine sR hP hn hm [(0,.c (Z4 b1)),(2,.k 23)] [(5,.ptr 23 0 0)] [3,5,7,8,9] [(23,some (.box 50 (aSample b1)))] [20,21,23] [_,_] ⟨p1,Za4 Z4 q1,trivial⟩ ?_
    refine sO hP hn hm [(1,.more xLenT)] [(6,iV .i64 (((x1.map (Z20 Z4)).length+1:Nat):Int))] [3,5,6,7,8,9] [] [20,21,23] ?_
    refine AWp.seq ?_
    obtain⟨t1,e2,H⟩:=Z76 H
    refine sR hP hn hm [(1,.b false),(6,.more (Zen 0)),(7,.more (Zes 0)),(9,.more (Z4z [] [] [21] [] 0 (bV t1) []))] [(26,bV (!t1))] [3,5,6,7,8,9,26] [] [20,21,23] [((((x1.map (Z20 Z4)).length+1:Nat):Int)==(0:Int))=false,_,(x1.map (Z20 Z4)).length+0=(x1.map (Z20 Z4)).length+0,_,_] ⟨by simp;omega,w0,rfl,Tryz.call104,Z1h.ok x2 b1 t1 e2,trivial⟩ ?_
    refine AWp.cond (!t1) (by kernel_rfl) (fun c2 => ?_) (fun c2 => ?_)
    ·replace H:=iT c2 H
     refine sR hP hn hm [(1,.more (xOneT 24)),(2,.more (xAppT 25))] [(3,.own 25)] [3,5,6,7,8,9] [(25,some (.arow 1 44 (x1.map (Z20 Z4)) [[.own 21],[.none0]]))] [21,23,25] [((x1.map (Z20 Z4)).length+1+1)*24≤140737488355328] ⟨by rw[Z8t];omega,trivial⟩ ?_
     refine rO hP hn hm [] [(6,iV .i64 (i64.wrap ((((x1.map (Z20 Z4)).length+1:Nat):Int)+1)))] [3,5,6,7,8,9] [] [21,23,25] ?_
     refine rG hP hn hm [(6,.more (Zen 1)),(7,.more (Zes 1)),(9,.app 26 ([b1].map Z4)),(10,.app 27 ([b1].map Z4)),(11,.more (Zen 1)),(12,.more (xStoreT 1))] [] [3,7,8,9] [(25,some (.arow 1 44 (x1.map (Z20 Z4)) [[.own 21],[.own 27]])),(27,some (.row 9 50 ([b1].map Z4)))] [21,25,27] [_,(x1.map (Z20 Z4)).length+1=(x1.map (Z20 Z4)).length+1,[b1].map Z4=[Z4 b1],[b1].map Z4=[]++([b1].map Z4),∀ c∈([b1].map Z4),c.length=9,∀ c∈([b1].map Z4),Z3b (c.map .im)=true,(([]:List (List Im)).length+([b1].map Z4).length)*104≤140737488355328,_,(x1.map (Z20 Z4)).length+1=(x1.map (Z20 Z4)).length+1] ⟨w1,rfl,rfl,rfl,by exact Z5c _ _ _ (fun _=>rfl),by exact Z4p _ _ (fun _=>rfl),by simp,w1,rfl,trivial⟩ ?_
     refine rO hP hn hm [] [(9,iV .i64 (i64.wrap (x3+(1:Int))))] [3,7,8,9] [] [21,25,27] ?_
     have h:=ih _ _ _ _ H
     rw[app1] at h
     exact LWp.conv [(25,20),(27,21)] [21] [] (by kernel_rfl) h
    ·replace H:=iF c2 H
     obtain⟨d2,H⟩:=Za6 H
     refine AWp.skip ?_
     refine rG hP hn hm [(6,.more (Zen 0)),(7,.more (Zes 0)),(9,.app 26 ([b1].map Z4)),(10,.app 27 ((x2++[b1]).map Z4)),(11,.more (Zen 0)),(12,.more (xStoreT 0))] [] [3,7,8,9] [(20,some (.arow 1 44 (x1.map (Z20 Z4)) [[.own 27]])),(27,some (.row 9 50 ((x2++[b1]).map Z4)))] [20,27] [_,(x1.map (Z20 Z4)).length+0=(x1.map (Z20 Z4)).length+0,[b1].map Z4=[Z4 b1],(x2++[b1]).map Z4=(x2.map Z4)++([b1].map Z4),∀ c∈([b1].map Z4),c.length=9,∀ c∈([b1].map Z4),Z3b (c.map .im)=true,((x2.map Z4).length+([b1].map Z4).length)*104≤140737488355328,_,(x1.map (Z20 Z4)).length+0=(x1.map (Z20 Z4)).length+0] ⟨w0,rfl,rfl,by simp,by exact Z5c _ _ _ (fun _=>rfl),by exact Z4p _ _ (fun _=>rfl),by simpa using d2,w0,rfl,trivial⟩ ?_
     refine rO hP hn hm [] [(9,iV .i64 (i64.wrap (x3+(1:Int))))] [3,7,8,9] [] [20,27] ?_
     exact LWp.conv [(20,20),(27,21)] [] [] (by kernel_rfl) (ih _ _ _ _ H)
   ·replace H:=iF c1 H
    refine AWp.exit ?_
    obtain rfl:=sj H
    exact lf (t:=⟨[(3,.own 0)],[(0,some (.row 1 44 (x1.map (Z20 Z4)++[(Z20 Z4) x2])))],0⟩) [(20,0)] [21] [] (by kernel_rfl) ⟨rfl,by rw[app1]⟩
  subst hbody
  refine LWp.round ?_
  refine sO hP hn hm [] [(10,bV (decide ((0:Int)<(a0.length:Int))))] [3,7,8,9,10] [] [] ?_
  refine AWp.seq ?_
  refine AWp.cond (decide ((0:Int)<(a0.length:Int))) (by kernel_rfl) (fun c1 => ?_) (fun c1 => ?_)
  ·replace H:=iT c1 H
   refine AWp.skip ?_
   refine AWp.seq ?_
   refine AWp.block ?_
   obtain⟨b1,p1,q1,H⟩:=at_of H
   refine sR hP hn hm [(0,.c (Z4 b1)),(2,.k 23)] [(5,.ptr 23 0 0)] [3,5,7,8,9] [(23,some (.box 50 (aSample b1)))] [23] [_,_] ⟨p1,Za4 Z4 q1,trivial⟩ ?_
   refine sO hP hn hm [] [(6,iV .i64 0)] [3,5,6,7,8,9] [] [23] ?_
   refine AWp.seq ?_
   refine sR hP hn hm [(1,.b true)] [(26,bV true)] [3,5,6,7,8,9,26] [] [23] [((0:Int)==0)=true] ⟨rfl,trivial⟩ ?_
   refine AWp.cond true (by kernel_rfl) (fun c2 => ?_) (fun c2=>nomatch c2)
   refine sR hP hn hm [(1,.more (xOneT 24)),(2,.more (xAppT 25))] [(3,.own 25)] [3,5,6,7,8,9] [(25,some (.arow 1 44 [] [[.none0]]))] [23,25] [1*24≤140737488355328] ⟨by decide,trivial⟩ ?_
   refine rO hP hn hm [] [(6,iV .i64 1)] [3,5,6,7,8,9] [] [23,25] ?_
   refine rG hP hn hm [(6,.more (Zen 0)),(7,.more (Zes 0)),(9,.app 26 ([b1].map Z4)),(10,.app 27 ([b1].map Z4)),(11,.more (Zen 0)),(12,.more (xStoreT 0))] [] [3,7,8,9] [(25,some (.arow 1 44 [] [[.own 27]])),(27,some (.row 9 50 ([b1].map Z4)))] [25,27] [i64.wrap ((1:Int)-1)=((([]:List (List Im)).length+0:Nat):Int),([]:List (List Im)).length+0=([]:List (List Im)).length+0,[b1].map Z4=[Z4 b1],[b1].map Z4=[]++([b1].map Z4),∀ c∈([b1].map Z4),c.length=9,∀ c∈([b1].map Z4),Z3b (c.map .im)=true,(([]:List (List Im)).length+([b1].map Z4).length)*104≤140737488355328,i64.wrap ((1:Int)-1)=((([]:List (List Im)).length+0:Nat):Int),([]:List (List Im)).length+0=([]:List (List Im)).length+0] ⟨rfl,rfl,rfl,rfl,by exact Z5c _ _ _ (fun _=>rfl),by exact Z4p _ _ (fun _=>rfl),by simp,rfl,rfl,trivial⟩ ?_
   refine rO hP hn hm [] [(9,iV .i64 (i64.wrap ((0:Int)+(1:Int))))] [3,7,8,9] [] [25,27] ?_
   exact LWp.conv [(25,20),(27,21)] [] [] (by kernel_rfl) (main [] [b1] _ _ H)
  ·replace H:=iF c1 H
   refine AWp.exit ?_
   obtain rfl:=sj H
   exact lf [] [] [0] (by kernel_rfl) ⟨rfl,rfl⟩
 ·rintro e s ⟨rfl,rfl⟩
  refine sO hP hn hm [] [(2,.own 0)] [2] [] [0] ?_
  refine AWp.ret ?_
  exact rl (.inl rfl) rfl (by kernel_rfl) (by kernel_rfl)
def Z19.l0 (aa:List (List Z7)) (ab:List Int) (ac:Int) (ad:Int):Option ((List Int)×Int):=if(decide (ad<(aa.length:Int)))=true then((at? aa ad)>>=fun ae=>(Z02.f ae)>>=fun af=>(Z1l.f ab ac (Z5l af.1))>>=fun ah=>Z19.l0 aa ah.1 ah.2 (i64.wrap (ad+(1:Int)))) else(some (ab,ac))
partial_fixpoint
def Z19.f (a0_c0:List Int) (a0_c1:Int) (a1:List Z7):Option ((List Int)×Int):=(Z1w.f a1)>>=fun aa=>(Z9.f a0_c0 a0_c1 (u64.wrap ((aa.length:Int))))>>=fun ab=>(Z19.l0 aa ab.1 ab.2 0)>>=fun oo=>match oo with | (ac,ad)=>(some (ac,ad))
theorem Z19.ok (a0_c0:List Int) (a0_c1:Int) (a1:List Z7) (r:(List Int)×Int) (H:Z19.f a0_c0 a0_c1 a1=some r):Pv.Fn Tryz.prog 35 [.ptr 0 0 0,.im (.row (a1.map Z4))] [(0,some (.box 86 [.own 1,iV .u64 a0_c1])),(1,some (.row 1 5 (a0_c0.map (Z1 .u8))))] 2 (fun x o=>x = .tup []∧o=[(0,some (.box 86 [.own 2,iV .u64 r.2])),(1,none),(2,some (.row 1 5 (r.1.map (Z1 .u8))))]):=by
 unfold Z19.f at H
 exact HT.fn H (fun r=>.tup []) (fun r=>[(0,some (.box 86 [.own 2,iV .u64 r.2])),(1,none),(2,some (.row 1 5 (r.1.map (Z1 .u8))))]) [0,1,2] Tryz.func35 rfl rfl hmx (.bd fun aa ab=>.rg [(1,hC [] [(0,2)] [] [2] Tryz.call72 (Z1w.ok a1 aa ab))]<|.bd fun ac ad=>.rg [(2,hG (Z20 Z4) aa),(4,hC [(0,0),(1,1)] [(0,0),(2,3)] [] [3] Tryz.call33 (Z9.ok a0_c0 a0_c1 (u64.wrap ((aa.length:Int))) ac ad))]<|.rg [(1,hG (Z20 Z4) aa)]<|.bl<|.loop (.c3 (Z19.l0.partial_correctness aa)) (ac.1,ac.2,0) [(0,0),(2,7),(3,6)] [] [] (fun _=>.pr fun ae=>.pr fun af=>.one (fun ah=>⟨[(0,.ptr 0 0 0),(16,.own 7),(17,iV .i64 (aa.length:Int)),(18,iV .i64 ah)],[(0,some (.box 86 [.own 6,iV .u64 af])),(6,some (.row 1 5 (ae.map (Z1 .u8)))),(7,some (.row 1 44 (aa.map (Z20 Z4))))],2⟩) fun ah=>.r0<|.cd (fun ai=>.bl<|.el fun aj ak al=>.rg [(0,hX (Z20 Z4) ak al),(1,hL (Z20 Z4) al)]<|.bd fun am ao=>.rg [(1,hC [] [(0,8)] [] [8] Tryz.call73 (Z02.ok aj am ao))]<|.bd fun aq ar=>.rg [(2,hT (xStr am.1) am.1),(3,hC [(0,0),(6,1)] [(0,0),(2,9)] [] [9] Tryz.call34 (Z1l.ok ae af (Z5l am.1) aq ar))]<|.r0<|.bk [(0,0),(7,7),(9,6)] rfl)
 (fun ai=>.o [(0,0),(6,10)]))
 (.pr fun au=>.st (.exit 0) (fun av=>⟨[],[(0,some (.box 86 [.own 10,iV .u64 av])),(10,some (.row 1 5 (au.map (Z1 .u8))))],2⟩) fun av=>.ret [(0,0),(10,2)] [] [] ⟨[],[(0,some (.box 86 [.own 2,iV .u64 av])),(2,some (.row 1 5 (au.map (Z1 .u8))))],2⟩))
def Z1d.l0 (a0:Zo) (aa:List Int) (ab:Int) (ac:Int):Option ((List Int)×Int):=if(decide (ac<(a0.f1.length:Int)))=true then((at? a0.f1 ac)>>=fun ad=>(Z9.f aa ab (u64.wrap (ad)))>>=fun ae=>Z1d.l0 a0 ae.1 ae.2 (i64.wrap (ac+(1:Int)))) else(some (aa,ab))
partial_fixpoint
def Z1d.l1 (a0:Zo) (aa:List Int) (ab:Int) (ac:Int):Option ((List Int)×Int):=if(decide (ac<(a0.f2.length:Int)))=true then((at? a0.f2 ac)>>=fun ad=>(Z1l.f aa ab ad.f0)>>=fun ae=>(Z9.f ae.1 ae.2 (u64.wrap (ad.f1)))>>=fun af=>(Z1e.f ad.f2 af.1 af.2)>>=fun ah=>(Z19.f ah.1 ah.2 ad.f3)>>=fun ai=>Z1d.l1 a0 ai.1 ai.2 (i64.wrap (ac+(1:Int)))) else(some (aa,ab))
partial_fixpoint
def Z1d.f (a0:Zo):Option ((List Int)×Int):=(Z12.f a0)>>=fun aa=>if(!aa)=true then(some ([],6)) else((Z1m.f 0 (u64.wrap (a0.f0)))>>=fun ab=>(Z9.f ab.1 ab.2 (u64.wrap ((a0.f1.length:Int))))>>=fun ac=>(Z1d.l0 a0 ac.1 ac.2 0)>>=fun oo=>match oo with | (ad,ae)=>((Z9.f ad ae (u64.wrap ((a0.f2.length:Int))))>>=fun af=>(Z1d.l1 a0 af.1 af.2 0)>>=fun oo=>match oo with | (ah,ai)=>((Z0y.f ah ai)>>=fun aj=>some (aj,0))))
theorem Z1d.ok (a0:Zo) (r:(List Int)×Int) (H:Z1d.f a0=some r):Pv.Fn Tryz.prog 23 [.agg (Z3d a0)] [] 0 (fun x o=>x = .tup [.own 0,iV .i64 r.2]∧o=[(0,some (.row 1 5 (r.1.map (Z1 .u8))))]):=by
 unfold Z1d.f at H
 exact HT.fn H (fun r=>.tup [.own 0,iV .i64 r.2]) (fun r=>[(0,some (.row 1 5 (r.1.map (Z1 .u8))))]) [0] Tryz.func23 rfl rfl hmx (.rg [(0,⟨.k 0,.n⟩)]<|.bd fun aa ab=>.rg [(1,hC [] [] [] [] Tryz.call24 (Z12.ok a0 aa ab))]<|.cd (fun ac=>.r0<|.ret [] [] [0] ⟨[(2,.own 0),(3,iV .i64 6)],[(0,some (.row 1 5 ([].map (Z1 .u8))))],0⟩)
 (fun ac=>.rg [(1,⟨.k 1,.n⟩)]<|.bd fun ad ae=>.rg [(4,hC [(1,0)] [(0,1),(1,2)] [] [2] Tryz.call33 (Z1m.ok 0 (u64.wrap (a0.f0)) ad ae))]<|.bd fun af ah=>.rg [(3,hG (Z1 .i64) a0.f1),(5,hC [(1,0),(2,1)] [(0,1),(2,3)] [] [3] Tryz.call33 (Z9.ok ad.1 ad.2 (u64.wrap ((a0.f1.length:Int))) af ah))]<|.rg [(2,hG (Z1 .i64) a0.f1)]<|.bl<|.loop (.c3 (Z1d.l0.partial_correctness a0)) (af.1,af.2,0) [(0,5),(1,6),(3,7)] [] [] (fun _=>.pr fun ai=>.pr fun aj=>.one (fun ak=>⟨[(1,.ptr 5 0 0),(4,.ptr 6 0 0),(26,.im (.row (a0.f1.map (Z1 .i64)))),(27,iV .i64 (a0.f1.length:Int)),(28,iV .i64 ak)],[(5,some (.box 62 (Z3d a0))),(6,some (.box 86 [.own 7,iV .u64 aj])),(7,some (.row 1 5 (ai.map (Z1 .u8))))],0⟩) fun ak=>.r0<|.cd (fun al=>.bl<|.el fun am ao aq=>.rg [(0,hA (Z1 .i64) ao aq)]<|.bd fun ar au=>.rg [(3,hC [(6,0),(7,1)] [(0,6),(2,8)] [] [8] Tryz.call33 (Z9.ok ai aj (u64.wrap (am)) ar au))]<|.r0<|.bk [(5,5),(6,6),(8,7)] rfl)
 (fun al=>.o [(5,9),(6,10),(7,11)]))
 (.pr fun av=>.st (.exit 0) (fun ax=>⟨[(1,.ptr 9 0 0),(4,.ptr 10 0 0)],[(9,some (.box 62 (Z3d a0))),(10,some (.box 86 [.own 11,iV .u64 ax])),(11,some (.row 1 5 (av.map (Z1 .u8))))],0⟩) fun ax=>.bd fun az a9=>.rg [(3,hG Z0n a0.f2),(5,hC [(10,0),(11,1)] [(0,10),(2,12)] [] [12] Tryz.call33 (Z9.ok av ax (u64.wrap ((a0.f2.length:Int))) az a9))]<|.rg [(2,hG Z0n a0.f2)]<|.bl<|.loop (.c3 (Z1d.l1.partial_correctness a0)) (az.1,az.2,0) [(10,18),(12,19)] [] [] (fun _=>.pr fun ba=>.pr fun bb=>.one (fun bc=>⟨[(4,.ptr 18 0 0),(44,.im (.row (a0.f2.map Z0n))),(45,iV .i64 (a0.f2.length:Int)),(46,iV .i64 bc)],[(18,some (.box 86 [.own 19,iV .u64 bb])),(19,some (.row 1 5 (ba.map (Z1 .u8))))],0⟩) fun bc=>.r0<|.cd (fun be=>.bl<|.el fun bf bg bh=>.rg [(0,hA Z0n bg bh),(2,⟨.k 20,.n⟩)]<|.bd fun bi bj=>.rg [(3,hC [(18,0),(19,1)] [(0,18),(2,21)] [] [21] Tryz.call34 (Z1l.ok ba bb bf.f0 bi bj))]<|.bd fun bn bo=>.rg [(4,hC [(18,0),(21,1)] [(0,18),(2,22)] [] [22] Tryz.call33 (Z9.ok bi.1 bi.2 (u64.wrap (bf.f1)) bn bo))]<|.bd fun bp bq=>.rg [(3,hC [(18,0),(22,1)] [(0,18),(2,23)] [] [23] Tryz.call37 (Z1e.ok bf.f2 bn.1 bn.2 bp bq))]<|.bd fun br bu=>.rg [(3,hC [(18,0),(23,1)] [(0,18),(2,24)] [] [24] Tryz.call35 (Z19.ok bp.1 bp.2 bf.f3 br bu))]<|.r0<|.bk [(18,18),(24,19)] rfl)
 (fun be=>.o [(18,25),(19,26)]))
 (.pr fun bv=>.st (.exit 2) (fun bw=>⟨[(4,.ptr 25 0 0)],[(25,some (.box 86 [.own 26,iV .u64 bw])),(26,some (.row 1 5 (bv.map (Z1 .u8))))],0⟩) fun bw=>.bd fun bx bz=>.rg [(1,hC [(25,0),(26,1)] [(0,25),(1,26),(2,27)] [] [27] Tryz.call38 (Z0y.ok bv bw bx bz))]<|.ret [(27,0)] [] [] ⟨[(2,.own 0),(3,iV .i64 0)],[(0,some (.row 1 5 (bx.map (Z1 .u8))))],0⟩))))
def Z1c.l0 (a0:List Int) (aa:Int×Int×Int) (ab:Int×Int×Int) (ac:Int) (ad:Int) (ae:List Int) (af:Int):Option (Int×Int×(List Int)):=((if(decide (af<ab.1))=true then((Zk.f a0 ac ad)>>=fun ah=>some (ad==(0:Int))) else(some false)):Option (Bool))>>=fun ai=>if ai=true then((Z3.f a0 ac ad 65536)>>=fun aj=>(chk ((ae.length+[aj.1].length)*8≤140737488355328))>>=fun _=>Z1c.l0 a0 aa ab aj.2.1 aj.2.2 (ae++[aj.1]) (i64.wrap (af+(1:Int)))) else(some (ac,ad,ae))
partial_fixpoint
def Z1c.l1 (a0:List Int) (aa:Int×Int×Int) (ab:Int×Int×Int) (ac:List Int) (ad:Int) (ae:Int) (af:List Zy) (ah:Bool) (ai:Int):Option (Int×Int×(List Zy)×Bool):=((if(decide (ai<ab.1))=true then(if ah=true then((Zk.f a0 ad ae)>>=fun aj=>some (ae==(0:Int))) else(some false)) else(some false)):Option (Bool))>>=fun ak=>if ak=true then((Z07.f a0 ad ae)>>=fun al=>(Z3.f a0 al.2.1 al.2.2 1099511627776)>>=fun am=>(Z0u.f a0 am.2.1 am.2.2 65536)>>=fun ao=>(Z0k.f a0 ao.2.1 ao.2.2)>>=fun aq=>(chk ((af.length+[(⟨al.1,am.1,(ao.1),aq.1⟩:Zy)].length)*72≤140737488355328))>>=fun _=>Z1c.l1 a0 aa ab ac aq.2.2.1 aq.2.2.2 (af++[(⟨al.1,am.1,(ao.1),aq.1⟩:Zy)]) aq.2.1 (i64.wrap (ai+(1:Int)))) else(some (ad,ae,af,ah))
partial_fixpoint
def Z1c.f (a0:List Int):Option (Zo×Int):=(Z4g.f a0)>>=fun aa=>(Z3.f a0 0 0 1099511627776)>>=fun ab=>(Z3.f a0 ab.2.1 ab.2.2 256)>>=fun ac=>(Z1c.l0 a0 ab ac ac.2.1 ac.2.2 [] 0)>>=fun oo=>match oo with | (ad,ae,af)=>((Z3.f a0 ad ae 64)>>=fun ah=>(Z1c.l1 a0 ab ah af ah.2.1 ah.2.2 [] true 0)>>=fun oo=>match oo with | (ai,aj,ak,al)=>(((if(!al)=true then(some true) else((Zn.f a0 ai aj)>>=fun am=>if(am.1 != (0:Int))=true then(some true) else((Z12.f (⟨ab.1,af,ak⟩:Zo))>>=fun ao=>some (!ao)))):Option (Bool))>>=fun aq=>if aq=true then(some ((⟨0,[],[]⟩:Zo),6)) else((Z1d.f (⟨ab.1,af,ak⟩:Zo))>>=fun ar=>((if(ar.2 != (0:Int))=true then(some true) else((Z0t.f ar.1 a0)>>=fun au=>some (!au))):Option (Bool))>>=fun av=>if av=true then(some ((⟨0,[],[]⟩:Zo),6)) else(some ((⟨ab.1,af,ak⟩:Zo),0)))))
theorem Z1c.ok (a0:List Int) (r:Zo×Int) (H:Z1c.f a0=some r):Pv.Fn Tryz.prog 25 [.im (.row (a0.map (Z1 .u8)))] [] 0 (fun x o=>x = .tup [.agg [iV .i64 ((r.1).f0),.own 0,.own 1],iV .i64 r.2]∧o=[(0,some (.row 1 3 (((r.1).f1).map (Z1 .i64)))),(1,some (.row 4 122 (((r.1).f2).map Z0n)))]):=by
 unfold Z1c.f at H
 exact HT.fn H (fun r=>.tup [.agg [iV .i64 ((r.1).f0),.own 0,.own 1],iV .i64 r.2]) (fun r=>[(0,some (.row 1 3 (((r.1).f1).map (Z1 .i64)))),(1,some (.row 4 122 (((r.1).f2).map Z0n)))]) [0,1] Tryz.func25 rfl rfl hmx (.rg [(0,⟨.k 0,.n⟩)]<|.bd fun aa ab=>.rg [(1,hC [] [(0,1)] [] [1] Tryz.call41 (Z4g.ok a0 aa ab))]<|.bd fun ac ad=>.rg [(1,hC [(1,0)] [(0,1)] [] [] Tryz.call43 (Z3.ok a0 0 0 1099511627776 ac ad)),(3,⟨.k 2,.n⟩)]<|.bd fun ae af=>.rg [(1,hC [(1,0)] [(0,1)] [] [] Tryz.call43 (Z3.ok a0 ac.2.1 ac.2.2 256 ae af))]<|.r0<|.bl<|.loop (.c4 (Z1c.l0.partial_correctness a0 ac ae)) (ae.2.1,ae.2.2,[],0) [(0,8),(1,9),(2,10)] [] [11] (fun _=>.pr fun ah=>.pr fun ai=>.pr fun aj=>.one (fun ak=>⟨[(0,.im (.row (a0.map (Z1 .u8)))),(2,.ptr 8 0 0),(4,.ptr 9 0 0),(5,.ptr 10 0 0),(6,iV .i64 ae.1),(7,iV .i64 ak)],[(8,some (.box 62 [iV .i64 0,.none0,.none0])),(9,some (.box 158 (Z8 ⟨a0,ah,ai⟩))),(10,some (.box 62 [iV .i64 ac.1,.own 11,.none0])),(11,some (.row 1 3 (aj.map (Z1 .i64))))],0⟩) fun ak=>.join (.sp (fun al=>.bd fun am ao=>.rg [(3,hB al),(5,hC [(9,0)] [(0,9)] [] [] Tryz.call44 (Zk.ok a0 ah ai am ao))]<|.o [(8,12),(9,13),(10,14),(11,15)])
 (fun al=>.rg [(3,hB al)]<|.o [(8,12),(9,13),(10,14),(11,15)]))
 (.st .normal (fun aq=>⟨[(0,.im (.row (a0.map (Z1 .u8)))),(2,.ptr 12 0 0),(4,.ptr 13 0 0),(5,.ptr 14 0 0),(6,iV .i64 ae.1),(7,iV .i64 ak),(27,bV aq)],[(12,some (.box 62 [iV .i64 0,.none0,.none0])),(13,some (.box 158 (Z8 ⟨a0,ah,ai⟩))),(14,some (.box 62 [iV .i64 ac.1,.own 15,.none0])),(15,some (.row 1 3 (aj.map (Z1 .i64))))],0⟩) fun aq=>.cd (fun ar=>.bl<|.bd fun au av=>.ck fun ax=>.rg [(3,hC [(13,0)] [(0,13)] [] [] Tryz.call43 (Z3.ok a0 ah ai 65536 au av)),(4,hQ 16 (Z1 .i64) ([au.1]:List Int)),(5,hP 17 (Z1 .i64) 1 ax)]<|.r0<|.bk [(12,8),(13,9),(14,10),(17,11)] rfl)
 (fun ar=>.o [(12,18),(13,19),(14,20),(15,21)])))
 (.pr fun az=>.pr fun a9=>.st (.exit 0) (fun ba=>⟨[(0,.im (.row (a0.map (Z1 .u8)))),(2,.ptr 18 0 0),(4,.ptr 19 0 0),(5,.ptr 20 0 0)],[(18,some (.box 62 [iV .i64 0,.none0,.none0])),(19,some (.box 158 (Z8 ⟨a0,az,a9⟩))),(20,some (.box 62 [iV .i64 ac.1,.own 21,.none0])),(21,some (.row 1 3 (ba.map (Z1 .i64))))],0⟩) fun ba=>.bd fun bb bc=>.rg [(1,hC [(19,0)] [(0,19)] [] [] Tryz.call43 (Z3.ok a0 az a9 64 bb bc))]<|.r0<|.r0<|.bl<|.loop (.c5 (Z1c.l1.partial_correctness a0 ac bb ba)) (bb.2.1,bb.2.2,[],true,0) [(18,31),(19,32),(20,33),(21,34)] [] [35] (fun _=>.pr fun be=>.pr fun bf=>.pr fun bg=>.pr fun bh=>.one (fun bi=>⟨[(0,.im (.row (a0.map (Z1 .u8)))),(2,.ptr 31 0 0),(4,.ptr 32 0 0),(5,.ptr 33 0 0),(6,iV .i64 bb.1),(8,bV bh),(9,iV .i64 bi)],[(31,some (.box 62 [iV .i64 0,.none0,.none0])),(32,some (.box 158 (Z8 ⟨a0,be,bf⟩))),(33,some (.box 62 [iV .i64 ac.1,.own 34,.own 35])),(34,some (.row 1 3 (ba.map (Z1 .i64)))),(35,some (.row 4 122 (bg.map Z0n)))],0⟩) fun bi=>.join (.sp (fun bj=>.sp (fun bn=>.bd fun bo bp=>.rg [(3,hB bj),(6,hB bn),(8,hC [(32,0)] [(0,32)] [] [] Tryz.call44 (Zk.ok a0 be bf bo bp))]<|.o [(31,36),(32,37),(33,38),(34,39),(35,40)])
 (fun bn=>.rg [(3,hB bj),(6,hB bn)]<|.o [(31,36),(32,37),(33,38),(34,39),(35,40)]))
 (fun bj=>.rg [(3,hB bj)]<|.o [(31,36),(32,37),(33,38),(34,39),(35,40)]))
 (.st .normal (fun bq=>⟨[(0,.im (.row (a0.map (Z1 .u8)))),(2,.ptr 36 0 0),(4,.ptr 37 0 0),(5,.ptr 38 0 0),(6,iV .i64 bb.1),(8,bV bh),(9,iV .i64 bi),(49,bV bq)],[(36,some (.box 62 [iV .i64 0,.none0,.none0])),(37,some (.box 158 (Z8 ⟨a0,be,bf⟩))),(38,some (.box 62 [iV .i64 ac.1,.own 39,.own 40])),(39,some (.row 1 3 (ba.map (Z1 .i64)))),(40,some (.row 4 122 (bg.map Z0n)))],0⟩) fun bq=>.cd (fun br=>.bl<|.bd fun bu bv=>.bd fun bw bx=>.bd fun bz ca=>.rg [(1,hC [(37,0)] [(0,37)] [] [] Tryz.call45 (Z07.ok a0 be bf bu bv)),(3,hC [(37,0)] [(0,37)] [] [] Tryz.call43 (Z3.ok a0 bu.2.1 bu.2.2 1099511627776 bw bx)),(5,hC [(37,0)] [(0,37),(1,41)] [] [41] Tryz.call47 (Z0u.ok a0 bw.2.1 bw.2.2 65536 bz ca)),(7,⟨.k 42,.n⟩)]<|.bd fun cb cc=>.rg [(1,hC [(37,0)] [(0,37),(1,43)] [] [43] Tryz.call46 (Z0k.ok a0 bz.2.1 bz.2.2 cb cc))]<|.cv [(36,36),(38,38),(39,39),(40,40),(42,42),(37,37)] [41,43] [] ⟨[(0,.im (.row (a0.map (Z1 .u8)))),(2,.ptr 36 0 0),(4,.ptr 37 0 0),(5,.ptr 38 0 0),(6,iV .i64 bb.1),(8,bV cb.2.1),(9,iV .i64 bi),(10,.ptr 42 0 0)],[(36,some (.box 62 [iV .i64 0,.none0,.none0])),(37,some (.box 158 (Z8 ⟨a0,cb.2.2.1,cb.2.2.2⟩))),(38,some (.box 62 [iV .i64 ac.1,.own 39,.own 40])),(39,some (.row 1 3 (ba.map (Z1 .i64)))),(40,some (.row 4 122 (bg.map Z0n))),(42,some (.box 122 [sV bu.1,iV .i64 bw.1,.im (.row (((bz.1).f0).map Zb)),.im (.row (cb.1.map Z4))]))],0⟩<|.ck fun cf=>.rg [(3,hQ 44 Z0n ([(⟨bu.1,bw.1,(bz.1),cb.1⟩:Zy)]:List Zy)),(4,hP 45 Z0n 4 cf)]<|.r0<|.bk [(36,31),(37,32),(38,33),(39,34),(45,35)] rfl)
 (fun br=>.o [(36,46),(37,47),(38,48),(39,49),(40,50)])))
 (.pr fun cj=>.pr fun cm=>.pr fun cn=>.st (.exit 2) (fun co=>⟨[(0,.im (.row (a0.map (Z1 .u8)))),(2,.ptr 46 0 0),(4,.ptr 47 0 0),(5,.ptr 48 0 0),(8,bV co)],[(46,some (.box 62 [iV .i64 0,.none0,.none0])),(47,some (.box 158 (Z8 ⟨a0,cj,cm⟩))),(48,some (.box 62 [iV .i64 ac.1,.own 49,.own 50])),(49,some (.row 1 3 (ba.map (Z1 .i64)))),(50,some (.row 4 122 (cn.map Z0n)))],0⟩) fun co=>.join (.sp (fun ct=>.rg [(2,hB ct)]<|.o [(46,51),(48,52),(49,53),(50,54)])
 (fun ct=>.bd fun cw cx=>.sp (fun cy=>.rg [(2,hB ct),(4,hC [(47,0)] [(0,47)] [] [] Tryz.call49 (Zn.ok a0 cj cm cw cx)),(7,hB cy)]<|.o [(46,51),(48,52),(49,53),(50,54)])
 (fun cy=>.bd fun cz c8=>.rg [(2,hB ct),(4,hC [(47,0)] [(0,47)] [] [] Tryz.call49 (Zn.ok a0 cj cm cw cx)),(7,hB cy),(9,hC [] [] [49,50] [] Tryz.call24 (Z12.ok (⟨ac.1,ba,cn⟩:Zo) cz c8))]<|.o [(46,51),(48,52),(49,53),(50,54)])))
 (.st .normal (fun c9=>⟨[(0,.im (.row (a0.map (Z1 .u8)))),(2,.ptr 51 0 0),(5,.ptr 52 0 0),(82,bV c9)],[(51,some (.box 62 [iV .i64 0,.none0,.none0])),(52,some (.box 62 [iV .i64 ac.1,.own 53,.own 54])),(53,some (.row 1 3 (ba.map (Z1 .i64)))),(54,some (.row 4 122 (cn.map Z0n)))],0⟩) fun c9=>.cd (fun da=>.r0<|.ret [(51,2)] [] [0,1] ⟨[(2,.ptr 2 0 0),(3,iV .i64 6)],[(0,some (.row 1 3 ((((⟨0,[],[]⟩:Zo)).f1).map (Z1 .i64)))),(1,some (.row 4 122 ((((⟨0,[],[]⟩:Zo)).f2).map Z0n))),(2,some (.box 62 [iV .i64 (((⟨0,[],[]⟩:Zo)).f0),.own 0,.own 1]))],0⟩)
 (fun da=>.bd fun db dc=>.rg [(1,⟨.more (Z4z [] [(0,55)] [53,54] [55] 0 (.tup [.own 0,iV .i64 db.2]) [(0,some (.row 1 5 (db.1.map (Z1 .u8))))]),.c (Tryz.call23) (.c (Z1d.ok (⟨ac.1,ba,cn⟩:Zo) db dc) (.c (p:=∀ c∈db.1.map (Z1 .u8),∀ x∈c,∃ v,x=Im.sc v) (Z5d _ _ (fun _=>by simp)) .n))⟩)]<|.join (.sp (fun dd=>.rg [(2,hB dd)]<|.o [(51,56),(52,57),(53,58),(54,59)])
 (fun dd=>.bd fun de df=>.rg [(2,hB dd),(5,hC [] [] [55] [] Tryz.call61 (Z0t.ok db.1 a0 de df))]<|.o [(51,56),(52,57),(53,58),(54,59)]))
 (.st .normal (fun dg=>⟨[(2,.ptr 56 0 0),(5,.ptr 57 0 0),(96,bV dg)],[(56,some (.box 62 [iV .i64 0,.none0,.none0])),(57,some (.box 62 [iV .i64 ac.1,.own 58,.own 59])),(58,some (.row 1 3 (ba.map (Z1 .i64)))),(59,some (.row 4 122 (cn.map Z0n)))],0⟩) fun dg=>.cd (fun dh=>.r0<|.ret [(56,2)] [] [0,1] ⟨[(2,.ptr 2 0 0),(3,iV .i64 6)],[(0,some (.row 1 3 ((((⟨0,[],[]⟩:Zo)).f1).map (Z1 .i64)))),(1,some (.row 4 122 ((((⟨0,[],[]⟩:Zo)).f2).map Z0n))),(2,some (.box 62 [iV .i64 (((⟨0,[],[]⟩:Zo)).f0),.own 0,.own 1]))],0⟩)
 (fun dh=>.r0<|.ret [(56,2),(58,0),(59,1)] [] [] ⟨[(2,.ptr 2 0 0),(3,iV .i64 0)],[(0,some (.row 1 3 ((((⟨ac.1,ba,cn⟩:Zo)).f1).map (Z1 .i64)))),(1,some (.row 4 122 ((((⟨ac.1,ba,cn⟩:Zo)).f2).map Z0n))),(2,some (.box 62 [iV .i64 (((⟨ac.1,ba,cn⟩:Zo)).f0),.own 0,.own 1]))],0⟩)))))))
def Z2f.l1 (a0:Zo) (aa:Zy) (ab:List Zc) (ac:List Z42) (ad:Int) (ae:List Zc) (af:Int):Option (List Zc):=if(decide (af<(ab.length:Int)))=true then((at? ab af)>>=fun ah=>(chk ((ae.length+[ah].length)*16≤140737488355328))>>=fun _=>Z2f.l1 a0 aa ab ac ad (ae++[ah]) (i64.wrap (af+(1:Int)))) else(some ae)
partial_fixpoint
def Z2f.l0 (a0:Zo) (aa:List Z42) (ab:Int):Option (List Z42):=if(decide (ab<(a0.f2.length:Int)))=true then((at? a0.f2 ab)>>=fun ac=>(Z0o.f ac.f2)>>=fun ad=>(Z2f.l1 a0 ac ad aa ab [] 0)>>=fun ae=>(chk ((aa.length+[(⟨ac.f0,ac.f1,ae,ac.f3⟩:Z42)].length)*72≤140737488355328))>>=fun _=>Z2f.l0 a0 (aa++[(⟨ac.f0,ac.f1,ae,ac.f3⟩:Z42)]) (i64.wrap (ab+(1:Int)))) else(some aa)
partial_fixpoint
def Z2f.f (a0:Zo):Option (Z2j):=(Z2f.l0 a0 [] 0)>>=fun aa=>some (⟨a0.f0,a0.f1,aa⟩:Z2j)
theorem Z2f.ok (a0:Zo) (r:Z2j) (H:Z2f.f a0=some r):Pv.Fn Tryz.prog 21 [.agg (Z3d a0)] [] 0 (fun x o=>x = .agg [iV .i64 ((r).f0),.im (.row (((r).f1).map (Z1 .i64))),.own 0]∧o=[(0,some (.row 4 59 (((r).f2).map Z3t)))]):=by
 unfold Z2f.f at H
 exact HT.fn H (fun r=>.agg [iV .i64 ((r).f0),.im (.row (((r).f1).map (Z1 .i64))),.own 0]) (fun r=>[(0,some (.row 4 59 (((r).f2).map Z3t)))]) [0] Tryz.func21 rfl rfl hmx (.rg [(0,⟨.k 0,.n⟩),(1,⟨.k 1,.n⟩)]<|.rg [(5,⟨.k 2,.n⟩)]<|.rg [(2,hG Z0n a0.f2)]<|.bl<|.loop (.c2 (Z2f.l0.partial_correctness a0)) ([],0) [(1,23),(2,24)] [] [25] (fun _=>.pr fun aa=>.one (fun ab=>⟨[(2,.ptr 23 0 0),(3,.ptr 24 0 0),(15,.im (.row (a0.f2.map Z0n))),(16,iV .i64 (a0.f2.length:Int)),(17,iV .i64 ab)],[(23,some (.box 56 [iV .i64 0,.none0,.none0])),(24,some (.box 56 [iV .i64 a0.f0,.im (.row (a0.f1.map (Z1 .i64))),.own 25])),(25,some (.row 4 59 (aa.map Z3t)))],0⟩) fun ab=>.r0<|.cd (fun ac=>.bl<|.el fun ad ae af=>.rg [(0,hA Z0n ae af),(2,⟨.k 26,.n⟩)]<|.rg [(7,⟨.k 27,.n⟩)]<|.bd fun ah ai=>.rg [(2,hC [] [(0,28)] [] [28] Tryz.call48 (Z0o.ok ad.f2 ah ai)),(3,hG Zb ah)]<|.bl<|.loop (.c2 (Z2f.l1.partial_correctness a0 ad ah aa ab)) ([],0) [(23,32),(24,33),(25,34),(27,35),(28,37)] [] [36] (fun _=>.pr fun aj=>.one (fun ak=>⟨[(2,.ptr 32 0 0),(3,.ptr 33 0 0),(6,.ptr 35 0 0),(15,.im (.row (a0.f2.map Z0n))),(16,iV .i64 (a0.f2.length:Int)),(17,iV .i64 ab),(30,.own 37),(31,iV .i64 (ah.length:Int)),(32,iV .i64 ak)],[(32,some (.box 56 [iV .i64 0,.none0,.none0])),(33,some (.box 56 [iV .i64 a0.f0,.im (.row (a0.f1.map (Z1 .i64))),.own 34])),(34,some (.row 4 59 (aa.map Z3t))),(35,some (.box 59 [sV ad.f0,iV .i64 ad.f1,.own 36,.im (.row (ad.f3.map Z4))])),(36,some (.row 2 76 (aj.map Zb))),(37,some (.row 2 92 (ah.map Zb)))],0⟩) fun ak=>.r0<|.cd (fun al=>.bl<|.el fun am ao aq=>.rg [(0,hX Zb ao aq),(1,hL Zb aq),(2,⟨.k 38,.n⟩)]<|.ck fun ar=>.rg [(3,hQ 39 Zb ([am]:List Zc)),(4,hP 40 Zb 2 ar)]<|.r0<|.bk [(32,32),(33,33),(34,34),(35,35),(37,37),(40,36)] rfl)
 (fun al=>.o [(32,41),(33,42),(34,43),(35,44),(36,45)]))
 (.st (.exit 2) (fun au=>⟨[(2,.ptr 41 0 0),(3,.ptr 42 0 0),(6,.ptr 44 0 0),(15,.im (.row (a0.f2.map Z0n))),(16,iV .i64 (a0.f2.length:Int)),(17,iV .i64 ab)],[(41,some (.box 56 [iV .i64 0,.none0,.none0])),(42,some (.box 56 [iV .i64 a0.f0,.im (.row (a0.f1.map (Z1 .i64))),.own 43])),(43,some (.row 4 59 (aa.map Z3t))),(44,some (.box 59 [sV ad.f0,iV .i64 ad.f1,.own 45,.im (.row (ad.f3.map Z4))])),(45,some (.row 2 76 (au.map Zb)))],0⟩) fun au=>.cv [(41,41),(42,42),(43,43),(44,44)] [45] [] ⟨[(2,.ptr 41 0 0),(3,.ptr 42 0 0),(6,.ptr 44 0 0),(15,.im (.row (a0.f2.map Z0n))),(16,iV .i64 (a0.f2.length:Int)),(17,iV .i64 ab)],[(41,some (.box 56 [iV .i64 0,.none0,.none0])),(42,some (.box 56 [iV .i64 a0.f0,.im (.row (a0.f1.map (Z1 .i64))),.own 43])),(43,some (.row 4 59 (aa.map Z3t))),(44,some (.box 59 (Z8l ⟨ad.f0,ad.f1,au,ad.f3⟩)))],0⟩<|.ck fun av=>.rg [(3,hQ 46 Z3t ([(⟨ad.f0,ad.f1,au,ad.f3⟩:Z42)]:List Z42)),(4,hP 47 Z3t 4 av)]<|.r0<|.bk [(41,23),(42,24),(47,25)] rfl))
 (fun ac=>.o [(23,48),(24,49),(25,50)]))
 (.st (.exit 0) (fun ax=>⟨[(2,.ptr 48 0 0),(3,.ptr 49 0 0)],[(48,some (.box 56 [iV .i64 0,.none0,.none0])),(49,some (.box 56 [iV .i64 a0.f0,.im (.row (a0.f1.map (Z1 .i64))),.own 50])),(50,some (.row 4 59 (ax.map Z3t)))],0⟩) fun ax=>.r0<|.ret [(48,1),(50,0)] [] [] ⟨[(2,.ptr 1 0 0)],[(0,some (.row 4 59 ((((⟨a0.f0,a0.f1,ax⟩:Z2j)).f2).map Z3t))),(1,some (.box 56 [iV .i64 (((⟨a0.f0,a0.f1,ax⟩:Z2j)).f0),.im (.row ((((⟨a0.f0,a0.f1,ax⟩:Z2j)).f1).map (Z1 .i64))),.own 0]))],0⟩))
def Z22.l0 (a0:List Z7) (aa:Int):Option (Bool ⊕ Unit):=if(decide (aa<(a0.length:Int)))=true then((((at? a0 aa)>>=fun ab=>(Z15.f ab.f0)>>=fun ac=>if(!ac)=true then(some true) else((Z08.f ab.f1)>>=fun ad=>if(ad != (0:Int))=true then(some true) else(if(decide (aa>(0:Int)))=true then((at? a0 (i64.wrap (aa-(1:Int))))>>=fun ae=>some (decide (ab.f0≤ae.f0))) else(some false)))):Option (Bool))>>=fun af=>if af=true then(some (.inl false)) else(Z22.l0 a0 (i64.wrap (aa+(1:Int))))) else(some (.inr ()))
partial_fixpoint
def Z22.f (a0:List Z7):Option (Bool):=(Z22.l0 a0 0)>>=fun oo=>match oo with | .inl rr=>(some rr) | .inr _=>(some true)
theorem Z22.ok (a0:List Z7) (r:Bool) (H:Z22.f a0=some r):Pv.Fn Tryz.prog 19 [.im (.row (a0.map Z4))] [] 0 (fun x o=>x=bV r∧o=[]):=by
 unfold Z22.f at H
 exact HT.fn H (fun r=>bV r) (fun r=>[]) [] Tryz.func19 rfl rfl hmx (.r0<|.r0<|.bl<|.loop (.one (Z22.l0.partial_correctness a0)) 0 [] [] [] (fun _=>.one (fun aa=>⟨[(0,.im (.row (a0.map Z4))),(3,iV .i64 aa)],[],0⟩) fun aa=>.rg [(2,hG Z4 a0)]<|.cd (fun ab=>.bl<|.join (.el fun ac ad ae=>.bd fun af ah=>.sp (fun ai=>.rg [(2,hA Z4 ad ae),(5,hC [] [] [] [] Tryz.call29 (Z15.ok ac.f0 af ah)),(7,hB ai)]<|.o [])
 (fun ai=>.bd fun aj ak=>.sp (fun al=>.rg [(2,hA Z4 ad ae),(5,hC [] [] [] [] Tryz.call29 (Z15.ok ac.f0 af ah)),(7,hB ai),(10,hA Z4 ad ae),(13,hC [] [] [] [] Tryz.call30 (Z08.ok ac.f1 aj ak)),(16,hB al)]<|.o [])
 (fun al=>.sp (fun am=>.el fun ao aq ar=>.rg [(2,hA Z4 ad ae),(5,hC [] [] [] [] Tryz.call29 (Z15.ok ac.f0 af ah)),(7,hB ai),(10,hA Z4 ad ae),(13,hC [] [] [] [] Tryz.call30 (Z08.ok ac.f1 aj ak)),(16,hB al),(19,hB am),(22,hA Z4 ad ae),(28,hA Z4 aq ar)]<|.o [])
 (fun am=>.rg [(2,hA Z4 ad ae),(5,hC [] [] [] [] Tryz.call29 (Z15.ok ac.f0 af ah)),(7,hB ai),(10,hA Z4 ad ae),(13,hC [] [] [] [] Tryz.call30 (Z08.ok ac.f1 aj ak)),(16,hB al),(19,hB am)]<|.o []))))
 (.st .normal (fun au=>⟨[(0,.im (.row (a0.map Z4))),(3,iV .i64 aa),(43,bV au)],[],0⟩) fun au=>.cd (fun av=>.r0<|.ret [] [] [] ⟨[(2,bV false)],[],0⟩)
 (fun av=>.r0<|.bk [] rfl)))
 (fun ab=>.o []))
 (.sm (.rt (fun rr=>bV rr) (fun rr=>[]))
 (.st (.exit 0) (fun _=>⟨[],[],0⟩) fun _=>.r0<|.ret [] [] [] ⟨[(2,bV true)],[],0⟩)))
def Z53.l0 (a0:List Zc) (a1:Int) (aa:Int):Option (Bool ⊕ Unit):=if(decide (aa<(a0.length:Int)))=true then((((at? a0 aa)>>=fun ab=>(Z38.f ab)>>=fun ac=>if ac=true then(if(decide (ab.f0≤a1))=true then(some (decide (a1≤ab.f1))) else(some false)) else(some false)):Option (Bool))>>=fun ad=>if ad=true then(some (.inl true)) else(Z53.l0 a0 a1 (i64.wrap (aa+(1:Int))))) else(some (.inr ()))
partial_fixpoint
def Z53.f (a0:List Zc) (a1:Int):Option (Bool):=(Z53.l0 a0 a1 0)>>=fun oo=>match oo with | .inl rr=>(some rr) | .inr _=>(some false)
theorem Z53.ok (a0:List Zc) (a1:Int) (r:Bool) (H:Z53.f a0 a1=some r):Pv.Fn Tryz.prog 59 [.im (.row (a0.map Zb)),iV .i64 a1] [] 0 (fun x o=>x=bV r∧o=[]):=by
 unfold Z53.f at H
 exact HT.fn H (fun r=>bV r) (fun r=>[]) [] Tryz.func59 rfl rfl hmx (.r0<|.r0<|.bl<|.loop (.one (Z53.l0.partial_correctness a0 a1)) 0 [] [] [] (fun _=>.one (fun aa=>⟨[(0,.im (.row (a0.map Zb))),(1,iV .i64 a1),(5,iV .i64 aa)],[],0⟩) fun aa=>.rg [(2,hG Zb a0)]<|.cd (fun ab=>.bl<|.join (.el fun ac ad ae=>.bd fun af ah=>.sp (fun ai=>.sp (fun aj=>.rg [(2,hA Zb ad ae),(4,hC [] [] [] [] Tryz.call31 (Z38.ok ac af ah)),(5,hB ai),(8,hA Zb ad ae),(14,hB aj),(18,hA Zb ad ae)]<|.o [])
 (fun aj=>.rg [(2,hA Zb ad ae),(4,hC [] [] [] [] Tryz.call31 (Z38.ok ac af ah)),(5,hB ai),(8,hA Zb ad ae),(14,hB aj)]<|.o []))
 (fun ai=>.rg [(2,hA Zb ad ae),(4,hC [] [] [] [] Tryz.call31 (Z38.ok ac af ah)),(5,hB ai)]<|.o []))
 (.st .normal (fun ak=>⟨[(0,.im (.row (a0.map Zb))),(1,iV .i64 a1),(5,iV .i64 aa),(34,bV ak)],[],0⟩) fun ak=>.cd (fun al=>.r0<|.ret [] [] [] ⟨[(4,bV true)],[],0⟩)
 (fun al=>.r0<|.bk [] rfl)))
 (fun ab=>.o []))
 (.sm (.rt (fun rr=>bV rr) (fun rr=>[]))
 (.st (.exit 0) (fun _=>⟨[],[],0⟩) fun _=>.r0<|.ret [] [] [] ⟨[(4,bV false)],[],0⟩)))
def Z0i.l0 (a0:Z2j) (aa:Int):Option (Bool ⊕ Unit):=if(decide (aa<(a0.f1.length:Int)))=true then((((at? a0.f1 aa)>>=fun ab=>if(decide (ab<(0:Int)))=true then(some true) else(if(decide (ab>(65536:Int)))=true then(some true) else(if(decide (aa>(0:Int)))=true then((at? a0.f1 (i64.wrap (aa-(1:Int))))>>=fun ac=>some (decide (ab≤ac))) else(some false)))):Option (Bool))>>=fun ad=>if ad=true then(some (.inl false)) else(Z0i.l0 a0 (i64.wrap (aa+(1:Int))))) else(some (.inr ()))
partial_fixpoint
def Z0i.l2 (a0:Z2j) (aa:Z42) (ab:Int) (ac:Int):Option (Bool ⊕ Unit):=if(decide (ac<(aa.f3.length:Int)))=true then((((at? aa.f3 ac)>>=fun ad=>if(decide (ad.f0>aa.f1))=true then(some true) else((Z53.f aa.f2 ad.f0)>>=fun ae=>some ae)):Option (Bool))>>=fun af=>if af=true then(some (.inl false)) else(Z0i.l2 a0 aa ab (i64.wrap (ac+(1:Int))))) else(some (.inr ()))
partial_fixpoint
def Z0i.l3 (a0:Z2j) (aa:Z42) (ab:Int) (ac:Int):Option (Bool ⊕ Unit):=if(decide (ac<(aa.f2.length:Int)))=true then((at? aa.f2 ac)>>=fun ad=>if(decide (ad.f1>aa.f1))=true then(some (.inl false)) else(Z0i.l3 a0 aa ab (i64.wrap (ac+(1:Int))))) else(some (.inr ()))
partial_fixpoint
def Z0i.l1 (a0:Z2j) (aa:Int):Option (Bool ⊕ Unit):=if(decide (aa<(a0.f2.length:Int)))=true then((at? a0.f2 aa)>>=fun ab=>(((Z1a.f ab.f0)>>=fun ac=>if(!ac)=true then(some true) else(if(decide (aa>(0:Int)))=true then((at? a0.f2 (i64.wrap (aa-(1:Int))))>>=fun ad=>if(Op.bytesLess ab.f0.toList ad.f0.toList||ab.f0.toList==ad.f0.toList)=true then(some true) else((Z15.f ab.f1)>>=fun ae=>if(!ae)=true then(some true) else((Z22.f ab.f3)>>=fun af=>some (!af)))) else((Z15.f ab.f1)>>=fun ah=>if(!ah)=true then(some true) else((Z22.f ab.f3)>>=fun ai=>some (!ai))))):Option (Bool))>>=fun aj=>if aj=true then(some (.inl false)) else((Z0i.l2 a0 ab aa 0)>>=fun oo=>match oo with | .inl rr=>(some (.inl rr)) | .inr _=>(if(decide ((ab.f2.length:Int)>(65536:Int)))=true then(some (.inl false)) else((Z0i.l3 a0 ab aa 0)>>=fun oo=>match oo with | .inl rr=>(some (.inl rr)) | .inr _=>(Z0i.l1 a0 (i64.wrap (aa+(1:Int)))))))) else(some (.inr ()))
partial_fixpoint
def Z0i.f (a0:Z2j):Option (Bool):=(((Z15.f a0.f0)>>=fun aa=>if(!aa)=true then(some true) else(if(decide ((a0.f1.length:Int)>(256:Int)))=true then(some true) else(some (decide ((a0.f2.length:Int)>(64:Int)))))):Option (Bool))>>=fun ab=>if ab=true then(some false) else((Z0i.l0 a0 0)>>=fun oo=>match oo with | .inl rr=>(some rr) | .inr _=>((Z0i.l1 a0 0)>>=fun oo=>match oo with | .inl rr=>(some rr) | .inr _=>(some true)))
theorem Z0i.ok (a0:Z2j) (r:Bool) (H:Z0i.f a0=some r):Pv.Fn Tryz.prog 22 [.agg (Z3z a0)] [] 0 (fun x o=>x=bV r∧o=[]):=by
 unfold Z0i.f at H
 exact HT.fn H (fun r=>bV r) (fun r=>[]) [] Tryz.func22 rfl rfl hmx (.rg [(0,⟨.k 0,.n⟩)]<|.join (.bd fun aa ab=>.sp (fun ac=>.rg [(2,hC [] [] [] [] Tryz.call29 (Z15.ok a0.f0 aa ab)),(4,hB ac)]<|.o [(0,1)])
 (fun ac=>.sp (fun ad=>.rg [(2,hC [] [] [] [] Tryz.call29 (Z15.ok a0.f0 aa ab)),(4,hB ac),(7,hG (Z1 .i64) a0.f1),(10,hB ad)]<|.o [(0,1)])
 (fun ad=>.rg [(2,hC [] [] [] [] Tryz.call29 (Z15.ok a0.f0 aa ab)),(4,hB ac),(7,hG (Z1 .i64) a0.f1),(10,hB ad),(13,hG Z3t a0.f2)]<|.o [(0,1)])))
 (.st .normal (fun ae=>⟨[(1,.ptr 1 0 0),(23,bV ae)],[(1,some (.box 56 (Z3z a0)))],0⟩) fun ae=>.cd (fun af=>.r0<|.ret [] [] [] ⟨[(2,bV false)],[],0⟩)
 (fun af=>.r0<|.bl<|.loop (.one (Z0i.l0.partial_correctness a0)) 0 [(1,3)] [] [] (fun _=>.one (fun ah=>⟨[(1,.ptr 3 0 0),(3,iV .i64 ah)],[(3,some (.box 56 (Z3z a0)))],0⟩) fun ah=>.rg [(3,hG (Z1 .i64) a0.f1)]<|.cd (fun ai=>.bl<|.join (.el fun aj ak al=>.sp (fun am=>.rg [(3,hA (Z1 .i64) ak al),(6,hB am)]<|.o [(3,4)])
 (fun am=>.sp (fun ao=>.rg [(3,hA (Z1 .i64) ak al),(6,hB am),(10,hA (Z1 .i64) ak al),(14,hB ao)]<|.o [(3,4)])
 (fun ao=>.sp (fun aq=>.el fun ar au av=>.rg [(3,hA (Z1 .i64) ak al),(6,hB am),(10,hA (Z1 .i64) ak al),(14,hB ao),(17,hB aq),(21,hA (Z1 .i64) ak al),(27,hA (Z1 .i64) au av)]<|.o [(3,4)])
 (fun aq=>.rg [(3,hA (Z1 .i64) ak al),(6,hB am),(10,hA (Z1 .i64) ak al),(14,hB ao),(17,hB aq)]<|.o [(3,4)]))))
 (.st .normal (fun ax=>⟨[(1,.ptr 4 0 0),(3,iV .i64 ah),(62,bV ax)],[(4,some (.box 56 (Z3z a0)))],0⟩) fun ax=>.cd (fun az=>.r0<|.ret [] [] [] ⟨[(2,bV false)],[],0⟩)
 (fun az=>.r0<|.bk [(4,3)] rfl)))
 (fun ai=>.o [(3,5)]))
 (.sm (.rt (fun rr=>bV rr) (fun rr=>[]))
 (.st (.exit 0) (fun _=>⟨[(1,.ptr 5 0 0)],[(5,some (.box 56 (Z3z a0)))],0⟩) fun _=>.r0<|.bl<|.loop (.one (Z0i.l1.partial_correctness a0)) 0 [(5,20)] [] [] (fun _=>.one (fun a9=>⟨[(1,.ptr 20 0 0),(4,iV .i64 a9)],[(20,some (.box 56 (Z3z a0)))],0⟩) fun a9=>.rg [(3,hG Z3t a0.f2)]<|.cd (fun ba=>.bl<|.el fun bb bc be=>.rg [(3,hA Z3t bc be),(5,⟨.k 21,.n⟩)]<|.join (.bd fun bf bg=>.sp (fun bh=>.rg [(2,hC [] [] [] [] Tryz.call28 (Z1a.ok bb.f0 bf bg)),(4,hB bh)]<|.o [(20,22),(21,23)])
 (fun bh=>.sp (fun bi=>.el fun bj bn bo=>.sp (fun bp=>.rg [(2,hC [] [] [] [] Tryz.call28 (Z1a.ok bb.f0 bf bg)),(4,hB bh),(7,hB bi),(14,hA Z3t bn bo),(20,hB bp)]<|.o [(20,22),(21,23)])
 (fun bp=>.bd fun bq br=>.sp (fun bu=>.rg [(2,hC [] [] [] [] Tryz.call28 (Z1a.ok bb.f0 bf bg)),(4,hB bh),(7,hB bi),(14,hA Z3t bn bo),(20,hB bp),(23,hC [] [] [] [] Tryz.call29 (Z15.ok bb.f1 bq br)),(26,hB bu)]<|.o [(20,22),(21,23)])
 (fun bu=>.bd fun bv bw=>.rg [(2,hC [] [] [] [] Tryz.call28 (Z1a.ok bb.f0 bf bg)),(4,hB bh),(7,hB bi),(14,hA Z3t bn bo),(20,hB bp),(23,hC [] [] [] [] Tryz.call29 (Z15.ok bb.f1 bq br)),(26,hB bu),(29,hC [] [] [] [] Tryz.call19 (Z22.ok bb.f3 bv bw))]<|.o [(20,22),(21,23)])))
 (fun bi=>.bd fun bx bz=>.sp (fun ca=>.rg [(2,hC [] [] [] [] Tryz.call28 (Z1a.ok bb.f0 bf bg)),(4,hB bh),(7,hB bi),(23,hC [] [] [] [] Tryz.call29 (Z15.ok bb.f1 bx bz)),(26,hB ca)]<|.o [(20,22),(21,23)])
 (fun ca=>.bd fun cb cc=>.rg [(2,hC [] [] [] [] Tryz.call28 (Z1a.ok bb.f0 bf bg)),(4,hB bh),(7,hB bi),(23,hC [] [] [] [] Tryz.call29 (Z15.ok bb.f1 bx bz)),(26,hB ca),(29,hC [] [] [] [] Tryz.call19 (Z22.ok bb.f3 cb cc))]<|.o [(20,22),(21,23)]))))
 (.st .normal (fun cf=>⟨[(1,.ptr 22 0 0),(4,iV .i64 a9),(5,.ptr 23 0 0),(106,bV cf)],[(22,some (.box 56 (Z3z a0))),(23,some (.box 59 (Z8l bb)))],0⟩) fun cf=>.cd (fun cj=>.r0<|.ret [] [] [] ⟨[(2,bV false)],[],0⟩)
 (fun cj=>.r0<|.bl<|.loop (.one (Z0i.l2.partial_correctness a0 bb a9)) 0 [(22,26),(23,27)] [] [] (fun _=>.one (fun cm=>⟨[(1,.ptr 26 0 0),(4,iV .i64 a9),(5,.ptr 27 0 0),(6,iV .i64 cm)],[(26,some (.box 56 (Z3z a0))),(27,some (.box 59 (Z8l bb)))],0⟩) fun cm=>.rg [(3,hG Z4 bb.f3)]<|.cd (fun cn=>.bl<|.join (.el fun co ct cw=>.sp (fun cx=>.rg [(3,hA Z4 ct cw),(9,hB cx)]<|.o [(26,28),(27,29)])
 (fun cx=>.bd fun cy cz=>.rg [(3,hA Z4 ct cw),(9,hB cx),(15,hA Z4 ct cw),(18,hC [] [] [] [] Tryz.call59 (Z53.ok bb.f2 co.f0 cy cz))]<|.o [(26,28),(27,29)]))
 (.st .normal (fun c8=>⟨[(1,.ptr 28 0 0),(4,iV .i64 a9),(5,.ptr 29 0 0),(6,iV .i64 cm),(133,bV c8)],[(28,some (.box 56 (Z3z a0))),(29,some (.box 59 (Z8l bb)))],0⟩) fun c8=>.cd (fun c9=>.r0<|.ret [] [] [] ⟨[(2,bV false)],[],0⟩)
 (fun c9=>.r0<|.bk [(28,26),(29,27)] rfl)))
 (fun cn=>.o [(26,30),(27,31)]))
 (.sm (.rt (fun rr=>bV rr) (fun rr=>[]))
 (.st (.exit 4) (fun _=>⟨[(1,.ptr 30 0 0),(4,iV .i64 a9),(5,.ptr 31 0 0)],[(30,some (.box 56 (Z3z a0))),(31,some (.box 59 (Z8l bb)))],0⟩) fun _=>.rg [(2,hG Zb bb.f2)]<|.cd (fun da=>.r0<|.ret [] [] [] ⟨[(2,bV false)],[],0⟩)
 (fun da=>.r0<|.bl<|.loop (.one (Z0i.l3.partial_correctness a0 bb a9)) 0 [(30,32),(31,33)] [] [] (fun _=>.one (fun db=>⟨[(1,.ptr 32 0 0),(4,iV .i64 a9),(5,.ptr 33 0 0),(7,iV .i64 db)],[(32,some (.box 56 (Z3z a0))),(33,some (.box 59 (Z8l bb)))],0⟩) fun db=>.rg [(3,hG Zb bb.f2)]<|.cd (fun dc=>.bl<|.el fun dd de df=>.rg [(3,hA Zb de df)]<|.cd (fun dg=>.r0<|.ret [] [] [] ⟨[(2,bV false)],[],0⟩)
 (fun dg=>.r0<|.bk [(32,32),(33,33)] rfl))
 (fun dc=>.o [(32,34)]))
 (.sm (.rt (fun rr=>bV rr) (fun rr=>[]))
 (.st (.exit 6) (fun _=>⟨[(1,.ptr 34 0 0),(4,iV .i64 a9)],[(34,some (.box 56 (Z3z a0)))],0⟩) fun _=>.r0<|.bk [(34,20)] rfl))))))))
 (fun ba=>.o []))
 (.sm (.rt (fun rr=>bV rr) (fun rr=>[]))
 (.st (.exit 2) (fun _=>⟨[],[],0⟩) fun _=>.r0<|.ret [] [] [] ⟨[(2,bV true)],[],0⟩)))))))
def Z2b.l0 (a0:Z2j) (aa:ByteArray) (ab:Int):Option (ByteArray):=if(decide (ab<(a0.f1.length:Int)))=true then((at? a0.f1 ab)>>=fun ac=>(Zv.f (u64.wrap (ac)))>>=fun ad=>(chk (((aa.size+ad.size:Nat):Int)≤9223372036854775807))>>=fun _=>Z2b.l0 a0 (aa++ad) (i64.wrap (ab+(1:Int)))) else(some aa)
partial_fixpoint
def Z2b.l1 (a0:Z2j) (aa:ByteArray) (ab:Int):Option (ByteArray):=if(decide (ab<(a0.f2.length:Int)))=true then((at? a0.f2 ab)>>=fun ac=>(Z4b.f ac.f0)>>=fun ad=>(chk (((aa.size+ad.size:Nat):Int)≤9223372036854775807))>>=fun _=>(Zv.f (u64.wrap (ac.f1)))>>=fun ae=>(chk ((((aa++ad).size+ae.size:Nat):Int)≤9223372036854775807))>>=fun _=>(Z3h.f ac.f2)>>=fun af=>(chk (((((aa++ad)++ae).size+af.size:Nat):Int)≤9223372036854775807))>>=fun _=>(Z01.f ac.f3)>>=fun ah=>(chk ((((((aa++ad)++ae)++af).size+ah.size:Nat):Int)≤9223372036854775807))>>=fun _=>Z2b.l1 a0 ((((aa++ad)++ae)++af)++ah) (i64.wrap (ab+(1:Int)))) else(some aa)
partial_fixpoint
def Z2b.f (a0:Z2j):Option (List Int):=(Zv.f (u64.wrap (a0.f0)))>>=fun aa=>(Zv.f (u64.wrap ((a0.f1.length:Int))))>>=fun ab=>(chk (((aa.size+ab.size:Nat):Int)≤9223372036854775807))>>=fun _=>(Z2b.l0 a0 (aa++ab) 0)>>=fun ac=>(Zv.f (u64.wrap ((a0.f2.length:Int))))>>=fun ad=>(chk (((ac.size+ad.size:Nat):Int)≤9223372036854775807))>>=fun _=>(Z2b.l1 a0 (ac++ad) 0)>>=fun ae=>(Z1p.f ae)>>=fun af=>some af
theorem Z2b.ok (a0:Z2j) (r:List Int) (H:Z2b.f a0=some r):Pv.Fn Tryz.prog 26 [.agg (Z3z a0)] [] 0 (fun x o=>x = .own 0∧o=[(0,some (.row 1 5 (r.map (Z1 .u8))))]):=by
 unfold Z2b.f at H
 exact HT.fn H (fun r=>.own 0) (fun r=>[(0,some (.row 1 5 (r.map (Z1 .u8))))]) [0] Tryz.func26 rfl rfl hmx (.rg [(0,⟨.k 0,.n⟩)]<|.bd fun aa ab=>.bd fun ac ad=>.ck fun ae=>.rg [(3,hC [] [] [] [] Tryz.call51 (Zv.ok (u64.wrap (a0.f0)) aa ab)),(6,hG (Z1 .i64) a0.f1),(8,hC [] [] [] [] Tryz.call51 (Zv.ok (u64.wrap ((a0.f1.length:Int))) ac ad)),(9,hN (p1 ae))]<|.r0<|.bl<|.loop (.c2 (Z2b.l0.partial_correctness a0)) (aa++ac,0) [(0,1)] [] [] (fun _=>.pr fun af=>.one (fun ah=>⟨[(1,.ptr 1 0 0),(3,sV af),(4,iV .i64 ah)],[(1,some (.box 56 (Z3z a0)))],0⟩) fun ah=>.rg [(3,hG (Z1 .i64) a0.f1)]<|.cd (fun ai=>.bl<|.el fun aj ak al=>.bd fun am ao=>.ck fun aq=>.rg [(4,hA (Z1 .i64) ak al),(7,hC [] [] [] [] Tryz.call51 (Zv.ok (u64.wrap (aj)) am ao)),(8,hN (p1 aq))]<|.r0<|.bk [(1,1)] rfl)
 (fun ai=>.o [(1,2)]))
 (.st (.exit 0) (fun ar=>⟨[(1,.ptr 2 0 0),(3,sV ar)],[(2,some (.box 56 (Z3z a0)))],0⟩) fun ar=>.bd fun au av=>.ck fun ax=>.rg [(3,hG Z3t a0.f2),(5,hC [] [] [] [] Tryz.call51 (Zv.ok (u64.wrap ((a0.f2.length:Int))) au av)),(6,hN (p1 ax))]<|.r0<|.bl<|.loop (.c2 (Z2b.l1.partial_correctness a0)) (ar++au,0) [(2,4)] [] [] (fun _=>.pr fun az=>.one (fun a9=>⟨[(1,.ptr 4 0 0),(3,sV az),(5,iV .i64 a9)],[(4,some (.box 56 (Z3z a0)))],0⟩) fun a9=>.rg [(3,hG Z3t a0.f2)]<|.cd (fun ba=>.bl<|.el fun bb bc be=>.rg [(3,hA Z3t bc be),(5,⟨.k 5,.n⟩)]<|.bd fun bf bg=>.ck fun bh=>.bd fun bi bj=>.ck fun bn=>.bd fun bo bp=>.ck fun bq=>.bd fun br bu=>.ck fun bv=>.rg [(3,hC [] [] [] [] Tryz.call52 (Z4b.ok bb.f0 bf bg)),(4,hN (p1 bh)),(8,hC [] [] [] [] Tryz.call51 (Zv.ok (u64.wrap (bb.f1)) bi bj)),(9,hN (p1 bn)),(12,hC [] [] [] [] Tryz.call54 (Z3h.ok bb.f2 bo bp)),(13,hN (p1 bq)),(16,hC [] [] [] [] Tryz.call53 (Z01.ok bb.f3 br bu)),(17,hN (p1 bv))]<|.r0<|.bk [(4,4)] rfl)
 (fun ba=>.o []))
 (.st (.exit 2) (fun bw=>⟨[(3,sV bw)],[],0⟩) fun bw=>.bd fun bx bz=>.rg [(1,hC [] [(0,6)] [] [6] Tryz.call55 (Z1p.ok bw bx bz))]<|.ret [(6,0)] [] [] ⟨[(2,.own 0)],[(0,some (.row 1 5 (bx.map (Z1 .u8))))],0⟩)))
def Z4x.f (a0:List Int):Option (Bool):=if(decide ((a0.length:Int)>(1500:Int)))=true then((Z45.f)>>=fun aa=>some aa) else((Z0d.f a0)>>=fun ab=>((if(ab.2==(0:Int))=true then((Z1n.f (ab.1))>>=fun ac=>(Z1u.f (ac))>>=fun ad=>if(!ad)=true then(some true) else((Z1n.f (ab.1))>>=fun ae=>(Z1f.f (ae))>>=fun af=>if(!((Z5l af).toList==(Z5l a0).toList))=true then(some true) else(if(ab.2 != (0:Int))=true then(some (ab.2 != (6:Int))) else(some false)))) else(if(ab.2 != (0:Int))=true then(some (ab.2 != (6:Int))) else(some false))):Option (Bool))>>=fun ah=>if ah=true then(some false) else((Z1c.f a0)>>=fun ai=>if(ai.2 != (0:Int))=true then((((Z45.f)>>=fun aj=>if aj=true then(some (ai.2==(6:Int))) else(some false)):Option (Bool))>>=fun ak=>some ak) else((((Z45.f)>>=fun al=>if al=true then((Z2f.f (ai.1))>>=fun am=>(Z0i.f (am))>>=fun ao=>if ao=true then((Z2f.f (ai.1))>>=fun aq=>(Z2b.f (aq))>>=fun ar=>some ((Z5l ar).toList==(Z5l a0).toList)) else(some false)) else(some false)):Option (Bool))>>=fun au=>some au)))
theorem Z4x.ok (a0:List Int) (r:Bool) (H:Z4x.f a0=some r):Pv.Fn Tryz.prog 7 [.im (.row (a0.map (Z1 .u8)))] [] 0 (fun x o=>x=bV r∧o=[]):=by
 unfold Z4x.f at H
 exact HT.fn H (fun r=>bV r) (fun r=>[]) [] Tryz.func7 rfl rfl hmx (.r0<|.rg [(1,hG (Z1 .u8) a0)]<|.cd (fun c1=>.bd fun aa ab=>.rg [(0,hC [] [] [] [] Tryz.call9 (Z45.ok  aa ab))]<|.ret [] [] [] ⟨[(2,bV aa)],[],0⟩)
 (fun c1=>.bd fun ac ad=>.rg [(1,hC [] [(0,0),(1,1)] [] [0,1] Tryz.call14 (Z0d.ok a0 ac ad)),(5,⟨.k 2,.n⟩)]<|.cv [(2,2)] [0,1] [] ⟨[(0,.im (.row (a0.map (Z1 .u8)))),(3,.ptr 2 0 0),(4,iV .i64 ac.2)],[(2,some (.box 35 (Z3k (ac.1))))],0⟩<|.join (.sp (fun ae=>.bd fun af ah=>.bd fun ai aj=>.sp (fun ak=>.rg [(2,hB ae),(4,hC [] [(0,3),(1,4)] [] [3,4] Tryz.call17 (Z1n.ok (ac.1) af ah)),(5,hC [] [] [3,4] [] Tryz.call10 (Z1u.ok (af) ai aj)),(7,hB ak)]<|.o [])
 (fun ak=>.bd fun al am=>.bd fun ao aq=>.sp (fun ar=>.rg [(2,hB ae),(4,hC [] [(0,3),(1,4)] [] [3,4] Tryz.call17 (Z1n.ok (ac.1) af ah)),(5,hC [] [] [3,4] [] Tryz.call10 (Z1u.ok (af) ai aj)),(7,hB ak),(9,hC [] [(0,5),(1,6)] [] [5,6] Tryz.call17 (Z1n.ok (ac.1) al am)),(10,⟨.more (Z4z [] [(0,7)] [5,6] [7] 0 (.own 0) [(0,some (.row 1 5 (ao.map (Z1 .u8))))]),.c (Tryz.call15) (.c (Z1f.ok (al) ao aq) (.c (p:=∀ c∈ao.map (Z1 .u8),∀ x∈c,∃ v,x=Im.sc v) (Z5d _ _ (fun _=>by simp)) .n))⟩),(11,hT (xStr ao) ao),(13,hT (xStr a0) a0),(17,hB ar)]<|.o [])
 (fun ar=>.sp (fun au=>.rg [(2,hB ae),(4,hC [] [(0,3),(1,4)] [] [3,4] Tryz.call17 (Z1n.ok (ac.1) af ah)),(5,hC [] [] [3,4] [] Tryz.call10 (Z1u.ok (af) ai aj)),(7,hB ak),(9,hC [] [(0,5),(1,6)] [] [5,6] Tryz.call17 (Z1n.ok (ac.1) al am)),(10,⟨.more (Z4z [] [(0,7)] [5,6] [7] 0 (.own 0) [(0,some (.row 1 5 (ao.map (Z1 .u8))))]),.c (Tryz.call15) (.c (Z1f.ok (al) ao aq) (.c (p:=∀ c∈ao.map (Z1 .u8),∀ x∈c,∃ v,x=Im.sc v) (Z5d _ _ (fun _=>by simp)) .n))⟩),(11,hT (xStr ao) ao),(13,hT (xStr a0) a0),(17,hB ar),(20,hB au)]<|.o [])
 (fun au=>.rg [(2,hB ae),(4,hC [] [(0,3),(1,4)] [] [3,4] Tryz.call17 (Z1n.ok (ac.1) af ah)),(5,hC [] [] [3,4] [] Tryz.call10 (Z1u.ok (af) ai aj)),(7,hB ak),(9,hC [] [(0,5),(1,6)] [] [5,6] Tryz.call17 (Z1n.ok (ac.1) al am)),(10,⟨.more (Z4z [] [(0,7)] [5,6] [7] 0 (.own 0) [(0,some (.row 1 5 (ao.map (Z1 .u8))))]),.c (Tryz.call15) (.c (Z1f.ok (al) ao aq) (.c (p:=∀ c∈ao.map (Z1 .u8),∀ x∈c,∃ v,x=Im.sc v) (Z5d _ _ (fun _=>by simp)) .n))⟩),(11,hT (xStr ao) ao),(13,hT (xStr a0) a0),(17,hB ar),(20,hB au)]<|.o []))))
 (fun ae=>.sp (fun av=>.rg [(2,hB ae),(20,hB av)]<|.o [])
 (fun av=>.rg [(2,hB ae),(20,hB av)]<|.o [])))
 (.st .normal (fun ax=>⟨[(0,.im (.row (a0.map (Z1 .u8)))),(40,bV ax)],[],0⟩) fun ax=>.cd (fun az=>.r0<|.ret [] [] [] ⟨[(2,bV false)],[],0⟩)
 (fun az=>.bd fun a9 ba=>.rg [(1,hC [] [(0,8),(1,9)] [] [8,9] Tryz.call25 (Z1c.ok a0 a9 ba)),(5,⟨.k 10,.n⟩)]<|.r0<|.cd (fun bb=>.join (.bd fun bc be=>.sp (fun bf=>.rg [(0,hC [] [] [] [] Tryz.call9 (Z45.ok  bc be)),(1,hB bf)]<|.o [])
 (fun bf=>.rg [(0,hC [] [] [] [] Tryz.call9 (Z45.ok  bc be)),(1,hB bf)]<|.o []))
 (.st .normal (fun bg=>⟨[(2,bV bg)],[],0⟩) fun bg=>.ret [] [] [] ⟨[(2,bV bg)],[],0⟩))
 (fun bb=>.cv [(10,10)] [8,9] [] ⟨[(0,.im (.row (a0.map (Z1 .u8)))),(5,.ptr 10 0 0),(6,iV .i64 a9.2),(47,bV (a9.2 != (0:Int)))],[(10,some (.box 62 (Z3d (a9.1))))],0⟩<|.join (.bd fun bh bi=>.sp (fun bj=>.bd fun bn bo=>.bd fun bp bq=>.sp (fun br=>.bd fun bu bv=>.bd fun bw bx=>.rg [(0,hC [] [] [] [] Tryz.call9 (Z45.ok  bh bi)),(1,hB bj),(3,hC [] [(0,11)] [] [11] Tryz.call21 (Z2f.ok (a9.1) bn bo)),(4,hC [] [] [11] [] Tryz.call22 (Z0i.ok (bn) bp bq)),(6,hB br),(8,hC [] [(0,12)] [] [12] Tryz.call21 (Z2f.ok (a9.1) bu bv)),(9,⟨.more (Z4z [] [(0,13)] [12] [13] 0 (.own 0) [(0,some (.row 1 5 (bw.map (Z1 .u8))))]),.c (Tryz.call26) (.c (Z2b.ok (bu) bw bx) (.c (p:=∀ c∈bw.map (Z1 .u8),∀ x∈c,∃ v,x=Im.sc v) (Z5d _ _ (fun _=>by simp)) .n))⟩),(10,hT (xStr bw) bw),(12,hT (xStr a0) a0)]<|.o [])
 (fun br=>.rg [(0,hC [] [] [] [] Tryz.call9 (Z45.ok  bh bi)),(1,hB bj),(3,hC [] [(0,11)] [] [11] Tryz.call21 (Z2f.ok (a9.1) bn bo)),(4,hC [] [] [11] [] Tryz.call22 (Z0i.ok (bn) bp bq)),(6,hB br)]<|.o []))
 (fun bj=>.rg [(0,hC [] [] [] [] Tryz.call9 (Z45.ok  bh bi)),(1,hB bj)]<|.o []))
 (.st .normal (fun bz=>⟨[(2,bV bz)],[],0⟩) fun bz=>.ret [] [] [] ⟨[(2,bV bz)],[],0⟩))))))
end Go.Proofs.YtinhldbfifpakaaGreat.PvGL2
