import Derived.Sort.AssemblyPlain
import Derived.Test.YtcilcefjcaimoaaGreatPxGroupTops14
set_option linter.unusedVariables false
set_option linter.unusedSimpArgs false
set_option linter.unusedSectionVars false
namespace Go.Pv.GS
section Defs
variable {α:Type} (cmp:α→α→Option Int)
def bitsLen64.f (a0:Int):Option (Int):=((if(decide (a0≥(4294967296:Int)))=true then(some (Int.fdiv a0 4294967296,32)) else(some (a0,0))):Option (Int×Int))>>=fun oo=>match oo with | (x110,x111)=>(((if(decide (x110≥(65536:Int)))=true then(some (Int.fdiv x110 65536,IntKind.i64.wrap (x111+(16:Int)))) else(some (x110,x111))):Option (Int×Int))>>=fun oo=>match oo with | (x113,x114)=>(((if(decide (x113≥(256:Int)))=true then(some (Int.fdiv x113 256,IntKind.i64.wrap (x114+(8:Int)))) else(some (x113,x114))):Option (Int×Int))>>=fun oo=>match oo with | (x116,x117)=>((chk (0≤(IntKind.u8.wrap (x116))∧(IntKind.u8.wrap (x116))<((⟨#[0,1,2,2,3,3,3,3,4,4,4,4,4,4,4,4,5,5,5,5,5,5,5,5,5,5,5,5,5,5,5,5,6,6,6,6,6,6,6,6,6,6,6,6,6,6,6,6,6,6,6,6,6,6,6,6,6,6,6,6,6,6,6,6,7,7,7,7,7,7,7,7,7,7,7,7,7,7,7,7,7,7,7,7,7,7,7,7,7,7,7,7,7,7,7,7,7,7,7,7,7,7,7,7,7,7,7,7,7,7,7,7,7,7,7,7,7,7,7,7,7,7,7,7,7,7,7,7,8,8,8,8,8,8,8,8,8,8,8,8,8,8,8,8,8,8,8,8,8,8,8,8,8,8,8,8,8,8,8,8,8,8,8,8,8,8,8,8,8,8,8,8,8,8,8,8,8,8,8,8,8,8,8,8,8,8,8,8,8,8,8,8,8,8,8,8,8,8,8,8,8,8,8,8,8,8,8,8,8,8,8,8,8,8,8,8,8,8,8,8,8,8,8,8,8,8,8,8,8,8,8,8,8,8,8,8,8,8,8,8,8,8,8,8,8,8,8,8,8,8,8,8,8,8,8,8]⟩:ByteArray).size:Int)))>>=fun _=>some (IntKind.i64.wrap (x117+(IntKind.i64.wrap (bt (⟨#[0,1,2,2,3,3,3,3,4,4,4,4,4,4,4,4,5,5,5,5,5,5,5,5,5,5,5,5,5,5,5,5,6,6,6,6,6,6,6,6,6,6,6,6,6,6,6,6,6,6,6,6,6,6,6,6,6,6,6,6,6,6,6,6,7,7,7,7,7,7,7,7,7,7,7,7,7,7,7,7,7,7,7,7,7,7,7,7,7,7,7,7,7,7,7,7,7,7,7,7,7,7,7,7,7,7,7,7,7,7,7,7,7,7,7,7,7,7,7,7,7,7,7,7,7,7,7,7,8,8,8,8,8,8,8,8,8,8,8,8,8,8,8,8,8,8,8,8,8,8,8,8,8,8,8,8,8,8,8,8,8,8,8,8,8,8,8,8,8,8,8,8,8,8,8,8,8,8,8,8,8,8,8,8,8,8,8,8,8,8,8,8,8,8,8,8,8,8,8,8,8,8,8,8,8,8,8,8,8,8,8,8,8,8,8,8,8,8,8,8,8,8,8,8,8,8,8,8,8,8,8,8,8,8,8,8,8,8,8,8,8,8,8,8,8,8,8,8,8,8,8,8,8,8,8,8]⟩:ByteArray) (IntKind.u8.wrap (x116)))))))))
def bitsLen.f (a0:Int):Option (Int):=(bitsLen64.f a0)>>=fun t128=>some t128
def nextPow.f (a0:Int):Option (Int):=(bitsLen.f (IntKind.u64.wrap (a0)))>>=fun t1694=>(chk (0≤t1694))>>=fun _=>some (IntKind.u64.wrap ((1:Int)*2 ^ (min (Int.toNat (t1694)) 64)))
def xorNext.f (a0_c0:Int):Option (Unit):=some ()
def siftDown.l0 (a2:Int) (a3:Int) (x397:List α) (x398:Int):Option ((List α) ⊕ (List α)):=if(decide ((IntKind.i64.wrap ((IntKind.i64.wrap ((2:Int)*x398))+(1:Int)))≥a2))=true then(some (.inr x397)) else(((if(decide ((IntKind.i64.wrap ((IntKind.i64.wrap ((IntKind.i64.wrap ((2:Int)*x398))+(1:Int)))+(1:Int)))<a2))=true then((at? x397 (IntKind.i64.wrap (a3+(IntKind.i64.wrap ((IntKind.i64.wrap ((2:Int)*x398))+(1:Int))))))>>=fun b410=>(at? x397 (IntKind.i64.wrap ((IntKind.i64.wrap (a3+(IntKind.i64.wrap ((IntKind.i64.wrap ((2:Int)*x398))+(1:Int)))))+(1:Int))))>>=fun b413=>(cmp b410 b413)>>=fun t416=>some (decide (t416<(0:Int)))) else(some false)):Option (Bool))>>=fun x418=>((if x418=true then(some (IntKind.i64.wrap ((IntKind.i64.wrap ((IntKind.i64.wrap ((2:Int)*x398))+(1:Int)))+(1:Int)))) else(some (IntKind.i64.wrap ((IntKind.i64.wrap ((2:Int)*x398))+(1:Int))))):Option (Int))>>=fun x420=>(at? x397 (IntKind.i64.wrap (a3+x398)))>>=fun b429=>(at? x397 (IntKind.i64.wrap (a3+x420)))>>=fun b432=>(cmp b429 b432)>>=fun t435=>if(!(decide (t435<(0:Int))))=true then(some (.inl x397)) else((at? (x397.set (Int.toNat (IntKind.i64.wrap (a3+x398))) b432) (IntKind.i64.wrap (a3+x420)))>>=fun b441=>siftDown.l0 a2 a3 ((x397.set (Int.toNat (IntKind.i64.wrap (a3+x398))) b432).set (Int.toNat (IntKind.i64.wrap (a3+x420))) b429) x420))
partial_fixpoint
def siftDown.f (a0:List α) (a1:Int) (a2:Int) (a3:Int):Option (List α):=(siftDown.l0 cmp a2 a3 a0 a1)>>=fun oo=>match oo with | .inl rr=>(some rr) | .inr x444=>(some x444)
def heapSort.l0 (a1:Int) (a2:Int) (x455:List α) (x456:Int):Option (List α):=if(decide (x456≥(0:Int)))=true then((siftDown.f cmp x455 x456 (IntKind.i64.wrap (a2-a1)) a1)>>=fun t460=>heapSort.l0 a1 a2 t460 (IntKind.i64.wrap (x456-(1:Int)))) else(some x455)
partial_fixpoint
def heapSort.l1 (a1:Int) (x486:List α) (x487:Int):Option (List α):=if(decide (x487≥(0:Int)))=true then((at? x486 (IntKind.i64.wrap (a1+x487)))>>=fun b498=>(at? x486 a1)>>=fun b501=>(at? (x486.set (Int.toNat (a1)) b498) (IntKind.i64.wrap (a1+x487)))>>=fun b504=>(siftDown.f cmp ((x486.set (Int.toNat (a1)) b498).set (Int.toNat (IntKind.i64.wrap (a1+x487))) b501) 0 x487 a1)>>=fun t509=>heapSort.l1 a1 t509 (IntKind.i64.wrap (x487-(1:Int)))) else(some x486)
partial_fixpoint
def heapSort.f (a0:List α) (a1:Int) (a2:Int):Option (List α):=(heapSort.l0 cmp a1 a2 a0 (IntKind.i64.wrap (Int.tdiv (IntKind.i64.wrap ((IntKind.i64.wrap (a2-a1))-(1:Int))) (2:Int))))>>=fun x462=>(heapSort.l1 cmp a1 x462 (IntKind.i64.wrap ((IntKind.i64.wrap (a2-a1))-(1:Int))))>>=fun x511=>some x511
def order2.f (a0:List α) (a1:Int) (a2:Int) (a3_c0:Int):Option (Int×Int×Int):=(at? a0 a2)>>=fun b530=>(at? a0 a1)>>=fun b533=>(cmp b530 b533)>>=fun t536=>if(decide (t536<(0:Int)))=true then(some (a2,a1,IntKind.i64.wrap (a3_c0+(1:Int)))) else(some (a1,a2,a3_c0))
def median.f (a0:List α) (a1:Int) (a2:Int) (a3:Int) (a4_c0:Int):Option (Int×Int):=(order2.f cmp a0 a1 a2 a4_c0)>>=fun t541=>(order2.f cmp a0 t541.2.1 a3 t541.2.2)>>=fun t545=>(order2.f cmp a0 t541.1 t545.1 t545.2.2)>>=fun t549=>some (t549.2.1,t549.2.2)
def medianAdjacent.f (a0:List α) (a1:Int) (a2_c0:Int):Option (Int×Int):=(median.f cmp a0 (IntKind.i64.wrap (a1-(1:Int))) a1 (IntKind.i64.wrap (a1+(1:Int))) a2_c0)>>=fun t553=>some (t553.1,t553.2)
def choosePivot.f (a0:List α) (a1:Int) (a2:Int):Option (Int×Int):=((if(decide ((IntKind.i64.wrap (a2-a1))≥(8:Int)))=true then(((if(decide ((IntKind.i64.wrap (a2-a1))≥(50:Int)))=true then((medianAdjacent.f cmp a0 (IntKind.i64.wrap (a1+(IntKind.i64.wrap ((IntKind.i64.wrap (Int.tdiv (IntKind.i64.wrap (a2-a1)) (4:Int)))*(1:Int))))) 0)>>=fun t557=>(medianAdjacent.f cmp a0 (IntKind.i64.wrap (a1+(IntKind.i64.wrap ((IntKind.i64.wrap (Int.tdiv (IntKind.i64.wrap (a2-a1)) (4:Int)))*(2:Int))))) t557.2)>>=fun t561=>(medianAdjacent.f cmp a0 (IntKind.i64.wrap (a1+(IntKind.i64.wrap ((IntKind.i64.wrap (Int.tdiv (IntKind.i64.wrap (a2-a1)) (4:Int)))*(3:Int))))) t561.2)>>=fun t565=>some (t565.2,t557.1,t561.1,t565.1)) else(some (0,IntKind.i64.wrap (a1+(IntKind.i64.wrap ((IntKind.i64.wrap (Int.tdiv (IntKind.i64.wrap (a2-a1)) (4:Int)))*(1:Int)))),IntKind.i64.wrap (a1+(IntKind.i64.wrap ((IntKind.i64.wrap (Int.tdiv (IntKind.i64.wrap (a2-a1)) (4:Int)))*(2:Int)))),IntKind.i64.wrap (a1+(IntKind.i64.wrap ((IntKind.i64.wrap (Int.tdiv (IntKind.i64.wrap (a2-a1)) (4:Int)))*(3:Int))))))):Option (Int×Int×Int×Int))>>=fun oo=>match oo with | (x567,x568,x569,x570)=>((median.f cmp a0 x568 x569 x570 x567)>>=fun t573=>some (t573.2,t573.1))) else(some (0,IntKind.i64.wrap (a1+(IntKind.i64.wrap ((IntKind.i64.wrap (Int.tdiv (IntKind.i64.wrap (a2-a1)) (4:Int)))*(2:Int))))))):Option (Int×Int))>>=fun oo=>match oo with | (x575,x576)=>(if(x575==(0:Int))=true then(some (x576,1)) else(if(x575==(12:Int))=true then(some (x576,2)) else(some (x576,0))))
def reverseRange.l0 (x607:List α) (x608:Int) (x609:Int):Option (List α):=if(decide (x608<x609))=true then((at? x607 x609)>>=fun b620=>(at? x607 x608)>>=fun b623=>(at? (x607.set (Int.toNat (x608)) b620) x609)>>=fun b626=>reverseRange.l0  ((x607.set (Int.toNat (x608)) b620).set (Int.toNat (x609)) b623) (IntKind.i64.wrap (x608+(1:Int))) (IntKind.i64.wrap (x609-(1:Int)))) else(some x607)
partial_fixpoint
def reverseRange.f (a0:List α) (a1:Int) (a2:Int):Option (List α):=(reverseRange.l0  a0 a1 (IntKind.i64.wrap (a2-(1:Int))))>>=fun x629=>some x629
def partialInsertionSort.l1 (a1:Int) (a2:Int) (x808:List α) (x810:Int) (x832:Int):Option (Int):=((if(decide (x832<a2))=true then((at? x808 x832)>>=fun b843=>(at? x808 (IntKind.i64.wrap (x832-(1:Int))))>>=fun b846=>(cmp b843 b846)>>=fun t849=>some (!(decide (t849<(0:Int))))) else(some false)):Option (Bool))>>=fun x851=>if x851=true then(partialInsertionSort.l1 a1 a2 x808 x810 (IntKind.i64.wrap (x832+(1:Int)))) else(some x832)
partial_fixpoint
def partialInsertionSort.l2 (a1:Int) (a2:Int) (x810:Int) (x853:Int) (x899:List α) (x900:Int):Option (List α):=if(decide (x900≥(1:Int)))=true then((at? x899 x900)>>=fun b910=>(at? x899 (IntKind.i64.wrap (x900-(1:Int))))>>=fun b913=>(cmp b910 b913)>>=fun t916=>if(!(decide (t916<(0:Int))))=true then(some x899) else((at? (x899.set (Int.toNat (x900)) b913) (IntKind.i64.wrap (x900-(1:Int))))>>=fun b922=>partialInsertionSort.l2 a1 a2 x810 x853 ((x899.set (Int.toNat (x900)) b913).set (Int.toNat (IntKind.i64.wrap (x900-(1:Int)))) b910) (IntKind.i64.wrap (x900-(1:Int))))) else(some x899)
partial_fixpoint
def partialInsertionSort.l3 (a1:Int) (a2:Int) (x810:Int) (x853:Int) (x952:List α) (x953:Int):Option (List α):=if(decide (x953<a2))=true then((at? x952 x953)>>=fun b963=>(at? x952 (IntKind.i64.wrap (x953-(1:Int))))>>=fun b966=>(cmp b963 b966)>>=fun t969=>if(!(decide (t969<(0:Int))))=true then(some x952) else((at? (x952.set (Int.toNat (x953)) b966) (IntKind.i64.wrap (x953-(1:Int))))>>=fun b975=>partialInsertionSort.l3 a1 a2 x810 x853 ((x952.set (Int.toNat (x953)) b966).set (Int.toNat (IntKind.i64.wrap (x953-(1:Int)))) b963) (IntKind.i64.wrap (x953+(1:Int))))) else(some x952)
partial_fixpoint
def partialInsertionSort.l0 (a1:Int) (a2:Int) (x808:List α) (x809:Int) (x810:Int):Option ((Bool×(List α)) ⊕ (List α)):=if(decide (x810<(5:Int)))=true then((partialInsertionSort.l1 cmp a1 a2 x808 x810 x809)>>=fun x853=>if(x853==a2)=true then(some (.inl (true,x808))) else(if(decide ((IntKind.i64.wrap (a2-a1))<(50:Int)))=true then(some (.inl (false,x808))) else((at? x808 (IntKind.i64.wrap (x853-(1:Int))))>>=fun b865=>(at? x808 x853)>>=fun b868=>(at? (x808.set (Int.toNat (x853)) b865) (IntKind.i64.wrap (x853-(1:Int))))>>=fun b871=>((if(decide ((IntKind.i64.wrap (x853-a1))≥(2:Int)))=true then((partialInsertionSort.l2 cmp a1 a2 x810 x853 ((x808.set (Int.toNat (x853)) b865).set (Int.toNat (IntKind.i64.wrap (x853-(1:Int)))) b868) (IntKind.i64.wrap (x853-(1:Int))))>>=fun x925=>some x925) else(some ((x808.set (Int.toNat (x853)) b865).set (Int.toNat (IntKind.i64.wrap (x853-(1:Int)))) b868))):Option (List α))>>=fun x926=>((if(decide ((IntKind.i64.wrap (a2-x853))≥(2:Int)))=true then((partialInsertionSort.l3 cmp a1 a2 x810 x853 x926 (IntKind.i64.wrap (x853+(1:Int))))>>=fun x978=>some x978) else(some x926)):Option (List α))>>=fun x979=>partialInsertionSort.l0 a1 a2 x979 x853 (IntKind.i64.wrap (x810+(1:Int)))))) else(some (.inr x808))
partial_fixpoint
def partialInsertionSort.f (a0:List α) (a1:Int) (a2:Int):Option (Bool×(List α)):=(partialInsertionSort.l0 cmp a1 a2 a0 (IntKind.i64.wrap (a1+(1:Int))) 0)>>=fun oo=>match oo with | .inl rr=>(some rr) | .inr x980=>(some (false,x980))
def partitionEqual.l1 (a1:Int) (x1142:List α) (x1144:Int) (x1165:Int):Option (Int):=((if(decide (x1165≤x1144))=true then((at? x1142 a1)>>=fun b1176=>(at? x1142 x1165)>>=fun b1179=>(cmp b1176 b1179)>>=fun t1182=>some (!(decide (t1182<(0:Int))))) else(some false)):Option (Bool))>>=fun x1184=>if x1184=true then(partitionEqual.l1 a1 x1142 x1144 (IntKind.i64.wrap (x1165+(1:Int)))) else(some x1165)
partial_fixpoint
def partitionEqual.l2 (a1:Int) (x1142:List α) (x1186:Int) (x1207:Int):Option (Int):=((if(decide (x1186≤x1207))=true then((at? x1142 a1)>>=fun b1218=>(at? x1142 x1207)>>=fun b1221=>(cmp b1218 b1221)>>=fun t1224=>some (decide (t1224<(0:Int)))) else(some false)):Option (Bool))>>=fun x1226=>if x1226=true then(partitionEqual.l2 a1 x1142 x1186 (IntKind.i64.wrap (x1207-(1:Int)))) else(some x1207)
partial_fixpoint
def partitionEqual.l0 (a1:Int) (x1142:List α) (x1143:Int) (x1144:Int):Option (Int×(List α)):=(partitionEqual.l1 cmp a1 x1142 x1144 x1143)>>=fun x1186=>(partitionEqual.l2 cmp a1 x1142 x1186 x1144)>>=fun x1228=>if(decide (x1186>x1228))=true then(some (x1186,x1142)) else((at? x1142 x1228)>>=fun b1239=>(at? x1142 x1186)>>=fun b1242=>(at? (x1142.set (Int.toNat (x1186)) b1239) x1228)>>=fun b1245=>partitionEqual.l0 a1 ((x1142.set (Int.toNat (x1186)) b1239).set (Int.toNat (x1228)) b1242) (IntKind.i64.wrap (x1186+(1:Int))) (IntKind.i64.wrap (x1228-(1:Int))))
partial_fixpoint
def partitionEqual.f (a0:List α) (a1:Int) (a2:Int) (a3:Int):Option (Int×(List α)):=(at? a0 a3)>>=fun b1030=>(at? a0 a1)>>=fun b1033=>(at? (a0.set (Int.toNat (a1)) b1030) a3)>>=fun b1036=>(partitionEqual.l0 cmp a1 ((a0.set (Int.toNat (a1)) b1030).set (Int.toNat (a3)) b1033) (IntKind.i64.wrap (a1+(1:Int))) (IntKind.i64.wrap (a2-(1:Int))))>>=fun oo=>match oo with | (x1248,x1249)=>(some (x1248,x1249))
def partition.l0 (a0:List α) (a1:Int) (a2:Int) (a3:Int) (b1273:α) (b1276:α) (x1302:Int):Option (Int):=((if(decide (x1302≤(IntKind.i64.wrap (a2-(1:Int)))))=true then((at? ((a0.set (Int.toNat (a1)) b1273).set (Int.toNat (a3)) b1276) x1302)>>=fun b1313=>(at? ((a0.set (Int.toNat (a1)) b1273).set (Int.toNat (a3)) b1276) a1)>>=fun b1316=>(cmp b1313 b1316)>>=fun t1319=>some (decide (t1319<(0:Int)))) else(some false)):Option (Bool))>>=fun x1321=>if x1321=true then(partition.l0 a0 a1 a2 a3 b1273 b1276 (IntKind.i64.wrap (x1302+(1:Int)))) else(some x1302)
partial_fixpoint
def partition.l1 (a0:List α) (a1:Int) (a3:Int) (b1273:α) (b1276:α) (x1323:Int) (x1344:Int):Option (Int):=((if(decide (x1323≤x1344))=true then((at? ((a0.set (Int.toNat (a1)) b1273).set (Int.toNat (a3)) b1276) x1344)>>=fun b1355=>(at? ((a0.set (Int.toNat (a1)) b1273).set (Int.toNat (a3)) b1276) a1)>>=fun b1358=>(cmp b1355 b1358)>>=fun t1361=>some (!(decide (t1361<(0:Int))))) else(some false)):Option (Bool))>>=fun x1363=>if x1363=true then(partition.l1 a0 a1 a3 b1273 b1276 x1323 (IntKind.i64.wrap (x1344-(1:Int)))) else(some x1344)
partial_fixpoint
def partition.l3 (a1:Int) (x1506:List α) (x1508:Int) (x1529:Int):Option (Int):=((if(decide (x1529≤x1508))=true then((at? x1506 x1529)>>=fun b1540=>(at? x1506 a1)>>=fun b1543=>(cmp b1540 b1543)>>=fun t1546=>some (decide (t1546<(0:Int)))) else(some false)):Option (Bool))>>=fun x1548=>if x1548=true then(partition.l3 a1 x1506 x1508 (IntKind.i64.wrap (x1529+(1:Int)))) else(some x1529)
partial_fixpoint
def partition.l4 (a1:Int) (x1506:List α) (x1550:Int) (x1571:Int):Option (Int):=((if(decide (x1550≤x1571))=true then((at? x1506 x1571)>>=fun b1582=>(at? x1506 a1)>>=fun b1585=>(cmp b1582 b1585)>>=fun t1588=>some (!(decide (t1588<(0:Int))))) else(some false)):Option (Bool))>>=fun x1590=>if x1590=true then(partition.l4 a1 x1506 x1550 (IntKind.i64.wrap (x1571-(1:Int)))) else(some x1571)
partial_fixpoint
def partition.l2 (a1:Int) (x1506:List α) (x1507:Int) (x1508:Int):Option ((List α)×Int):=(partition.l3 cmp a1 x1506 x1508 x1507)>>=fun x1550=>(partition.l4 cmp a1 x1506 x1550 x1508)>>=fun x1592=>if(decide (x1550>x1592))=true then(some (x1506,x1592)) else((at? x1506 x1592)>>=fun b1603=>(at? x1506 x1550)>>=fun b1606=>(at? (x1506.set (Int.toNat (x1550)) b1603) x1592)>>=fun b1609=>partition.l2 a1 ((x1506.set (Int.toNat (x1550)) b1603).set (Int.toNat (x1592)) b1606) (IntKind.i64.wrap (x1550+(1:Int))) (IntKind.i64.wrap (x1592-(1:Int))))
partial_fixpoint
def partition.f (a0:List α) (a1:Int) (a2:Int) (a3:Int):Option (Int×Bool×(List α)):=(at? a0 a3)>>=fun b1273=>(at? a0 a1)>>=fun b1276=>(at? (a0.set (Int.toNat (a1)) b1273) a3)>>=fun b1279=>(partition.l0 cmp a0 a1 a2 a3 b1273 b1276 (IntKind.i64.wrap (a1+(1:Int))))>>=fun x1323=>(partition.l1 cmp a0 a1 a3 b1273 b1276 x1323 (IntKind.i64.wrap (a2-(1:Int))))>>=fun x1365=>if(decide (x1323>x1365))=true then((at? ((a0.set (Int.toNat (a1)) b1273).set (Int.toNat (a3)) b1276) a1)>>=fun b1376=>(at? ((a0.set (Int.toNat (a1)) b1273).set (Int.toNat (a3)) b1276) x1365)>>=fun b1379=>(at? (((a0.set (Int.toNat (a1)) b1273).set (Int.toNat (a3)) b1276).set (Int.toNat (x1365)) b1376) a1)>>=fun b1382=>some (x1365,true,(((a0.set (Int.toNat (a1)) b1273).set (Int.toNat (a3)) b1276).set (Int.toNat (x1365)) b1376).set (Int.toNat (a1)) b1379)) else((at? ((a0.set (Int.toNat (a1)) b1273).set (Int.toNat (a3)) b1276) x1365)>>=fun b1394=>(at? ((a0.set (Int.toNat (a1)) b1273).set (Int.toNat (a3)) b1276) x1323)>>=fun b1397=>(at? (((a0.set (Int.toNat (a1)) b1273).set (Int.toNat (a3)) b1276).set (Int.toNat (x1323)) b1394) x1365)>>=fun b1400=>(partition.l2 cmp a1 ((((a0.set (Int.toNat (a1)) b1273).set (Int.toNat (a3)) b1276).set (Int.toNat (x1323)) b1394).set (Int.toNat (x1365)) b1397) (IntKind.i64.wrap (x1323+(1:Int))) (IntKind.i64.wrap (x1365-(1:Int))))>>=fun oo=>match oo with | (x1612,x1613)=>((at? x1612 a1)>>=fun b1623=>(at? x1612 x1613)>>=fun b1626=>(at? (x1612.set (Int.toNat (x1613)) b1623) a1)>>=fun b1629=>some (x1613,false,(x1612.set (Int.toNat (x1613)) b1623).set (Int.toNat (a1)) b1626)))
def breakPatterns.l0 (a1:Int) (a2:Int) (t1699:Int) (x1726:List α) (x1727:Int) (x1728:Int):Option (List α):=if(decide (x1728≤(IntKind.i64.wrap ((IntKind.i64.wrap (a1+(IntKind.i64.wrap ((IntKind.i64.wrap (Int.tdiv (IntKind.i64.wrap (a2-a1)) (4:Int)))*(2:Int)))))+(1:Int)))))=true then((xorNext.f x1727)>>=fun t1732=>((if(decide ((IntKind.i64.wrap (IntKind.u64.wrap (((BitVec.toNat (BitVec.ofInt 64 (IntKind.u64.wrap (((BitVec.toNat (BitVec.ofInt 64 (IntKind.u64.wrap (((BitVec.toNat (BitVec.ofInt 64 (IntKind.u64.wrap (((BitVec.toNat (BitVec.ofInt 64 x1727 ^^^ BitVec.ofInt 64 (IntKind.u64.wrap (x1727*8192))):Nat):Int))) ^^^ BitVec.ofInt 64 (Int.fdiv (IntKind.u64.wrap (((BitVec.toNat (BitVec.ofInt 64 x1727 ^^^ BitVec.ofInt 64 (IntKind.u64.wrap (x1727*8192))):Nat):Int))) 128)):Nat):Int))) ^^^ BitVec.ofInt 64 (IntKind.u64.wrap ((IntKind.u64.wrap (((BitVec.toNat (BitVec.ofInt 64 (IntKind.u64.wrap (((BitVec.toNat (BitVec.ofInt 64 x1727 ^^^ BitVec.ofInt 64 (IntKind.u64.wrap (x1727*8192))):Nat):Int))) ^^^ BitVec.ofInt 64 (Int.fdiv (IntKind.u64.wrap (((BitVec.toNat (BitVec.ofInt 64 x1727 ^^^ BitVec.ofInt 64 (IntKind.u64.wrap (x1727*8192))):Nat):Int))) 128)):Nat):Int)))*131072))):Nat):Int))) &&& BitVec.ofInt 64 (IntKind.u64.wrap (t1699-(1:Int)))):Nat):Int))))≥(IntKind.i64.wrap (a2-a1))))=true then(some (IntKind.i64.wrap ((IntKind.i64.wrap (IntKind.u64.wrap (((BitVec.toNat (BitVec.ofInt 64 (IntKind.u64.wrap (((BitVec.toNat (BitVec.ofInt 64 (IntKind.u64.wrap (((BitVec.toNat (BitVec.ofInt 64 (IntKind.u64.wrap (((BitVec.toNat (BitVec.ofInt 64 x1727 ^^^ BitVec.ofInt 64 (IntKind.u64.wrap (x1727*8192))):Nat):Int))) ^^^ BitVec.ofInt 64 (Int.fdiv (IntKind.u64.wrap (((BitVec.toNat (BitVec.ofInt 64 x1727 ^^^ BitVec.ofInt 64 (IntKind.u64.wrap (x1727*8192))):Nat):Int))) 128)):Nat):Int))) ^^^ BitVec.ofInt 64 (IntKind.u64.wrap ((IntKind.u64.wrap (((BitVec.toNat (BitVec.ofInt 64 (IntKind.u64.wrap (((BitVec.toNat (BitVec.ofInt 64 x1727 ^^^ BitVec.ofInt 64 (IntKind.u64.wrap (x1727*8192))):Nat):Int))) ^^^ BitVec.ofInt 64 (Int.fdiv (IntKind.u64.wrap (((BitVec.toNat (BitVec.ofInt 64 x1727 ^^^ BitVec.ofInt 64 (IntKind.u64.wrap (x1727*8192))):Nat):Int))) 128)):Nat):Int)))*131072))):Nat):Int))) &&& BitVec.ofInt 64 (IntKind.u64.wrap (t1699-(1:Int)))):Nat):Int))))-(IntKind.i64.wrap (a2-a1))))) else(some (IntKind.i64.wrap (IntKind.u64.wrap (((BitVec.toNat (BitVec.ofInt 64 (IntKind.u64.wrap (((BitVec.toNat (BitVec.ofInt 64 (IntKind.u64.wrap (((BitVec.toNat (BitVec.ofInt 64 (IntKind.u64.wrap (((BitVec.toNat (BitVec.ofInt 64 x1727 ^^^ BitVec.ofInt 64 (IntKind.u64.wrap (x1727*8192))):Nat):Int))) ^^^ BitVec.ofInt 64 (Int.fdiv (IntKind.u64.wrap (((BitVec.toNat (BitVec.ofInt 64 x1727 ^^^ BitVec.ofInt 64 (IntKind.u64.wrap (x1727*8192))):Nat):Int))) 128)):Nat):Int))) ^^^ BitVec.ofInt 64 (IntKind.u64.wrap ((IntKind.u64.wrap (((BitVec.toNat (BitVec.ofInt 64 (IntKind.u64.wrap (((BitVec.toNat (BitVec.ofInt 64 x1727 ^^^ BitVec.ofInt 64 (IntKind.u64.wrap (x1727*8192))):Nat):Int))) ^^^ BitVec.ofInt 64 (Int.fdiv (IntKind.u64.wrap (((BitVec.toNat (BitVec.ofInt 64 x1727 ^^^ BitVec.ofInt 64 (IntKind.u64.wrap (x1727*8192))):Nat):Int))) 128)):Nat):Int)))*131072))):Nat):Int))) &&& BitVec.ofInt 64 (IntKind.u64.wrap (t1699-(1:Int)))):Nat):Int)))))):Option (Int))>>=fun x1735=>(at? x1726 (IntKind.i64.wrap (a1+x1735)))>>=fun b1745=>(at? x1726 x1728)>>=fun b1748=>(at? (x1726.set (Int.toNat (x1728)) b1745) (IntKind.i64.wrap (a1+x1735)))>>=fun b1751=>breakPatterns.l0 a1 a2 t1699 ((x1726.set (Int.toNat (x1728)) b1745).set (Int.toNat (IntKind.i64.wrap (a1+x1735))) b1748) (IntKind.u64.wrap (((BitVec.toNat (BitVec.ofInt 64 (IntKind.u64.wrap (((BitVec.toNat (BitVec.ofInt 64 (IntKind.u64.wrap (((BitVec.toNat (BitVec.ofInt 64 x1727 ^^^ BitVec.ofInt 64 (IntKind.u64.wrap (x1727*8192))):Nat):Int))) ^^^ BitVec.ofInt 64 (Int.fdiv (IntKind.u64.wrap (((BitVec.toNat (BitVec.ofInt 64 x1727 ^^^ BitVec.ofInt 64 (IntKind.u64.wrap (x1727*8192))):Nat):Int))) 128)):Nat):Int))) ^^^ BitVec.ofInt 64 (IntKind.u64.wrap ((IntKind.u64.wrap (((BitVec.toNat (BitVec.ofInt 64 (IntKind.u64.wrap (((BitVec.toNat (BitVec.ofInt 64 x1727 ^^^ BitVec.ofInt 64 (IntKind.u64.wrap (x1727*8192))):Nat):Int))) ^^^ BitVec.ofInt 64 (Int.fdiv (IntKind.u64.wrap (((BitVec.toNat (BitVec.ofInt 64 x1727 ^^^ BitVec.ofInt 64 (IntKind.u64.wrap (x1727*8192))):Nat):Int))) 128)):Nat):Int)))*131072))):Nat):Int))) (IntKind.i64.wrap (x1728+(1:Int)))) else(some x1726)
partial_fixpoint
def breakPatterns.f (a0:List α) (a1:Int) (a2:Int):Option (List α):=((if(decide ((IntKind.i64.wrap (a2-a1))≥(8:Int)))=true then((nextPow.f (IntKind.i64.wrap (a2-a1)))>>=fun t1699=>(breakPatterns.l0 a1 a2 t1699 a0 (IntKind.u64.wrap (IntKind.i64.wrap (a2-a1))) (IntKind.i64.wrap ((IntKind.i64.wrap (a1+(IntKind.i64.wrap ((IntKind.i64.wrap (Int.tdiv (IntKind.i64.wrap (a2-a1)) (4:Int)))*(2:Int)))))-(1:Int))))>>=fun x1754=>some x1754) else(some a0)):Option (List α))>>=fun x1755=>some x1755
def pdqsort.l0 (self:(List α)→Int→Int→Int→Option (List α)) (x1839:List α) (x1840:Int) (x1841:Int) (x1842:Int) (x1843:Bool) (x1844:Bool):Option (List α):=((if(decide ((IntKind.i64.wrap (x1841-x1840))≤(12:Int)))=true then((insertionSort.f cmp x1839 x1840 x1841)>>=fun t1848=>some (.inl t1848)) else(if(x1842==(0:Int))=true then((heapSort.f cmp x1839 x1840 x1841)>>=fun t1853=>some (.inl t1853)) else(((if(!x1843)=true then((breakPatterns.f x1839 x1840 x1841)>>=fun t1858=>some (t1858,IntKind.i64.wrap (x1842-(1:Int)))) else(some (x1839,x1842))):Option ((List α)×Int))>>=fun oo=>match oo with | (x1860,x1861)=>((choosePivot.f cmp x1860 x1840 x1841)>>=fun t1864=>((if(t1864.2==(2:Int))=true then((reverseRange.f x1860 x1840 x1841)>>=fun t1869=>some (t1869,IntKind.i64.wrap ((IntKind.i64.wrap (x1841-(1:Int)))-(IntKind.i64.wrap (t1864.1-x1840))),1)) else(some (x1860,t1864.1,t1864.2))):Option ((List α)×Int×Int))>>=fun oo=>match oo with | (x1871,x1872,x1873)=>(((if x1843=true then(if x1844=true then(some (x1873==(1:Int))) else(some false)) else(some false)):Option (Bool))>>=fun x1878=>((if x1878=true then((partialInsertionSort.f cmp x1871 x1840 x1841)>>=fun t1882=>if t1882.1=true then(some (.inl t1882.2)) else(some (.inr t1882.2))) else(some (.inr x1871))):Option ((List α) ⊕ (List α)))>>=fun oo=>match oo with | .inl rr=>(some (.inl rr)) | .inr x1885=>(((if(decide (x1840>(0:Int)))=true then((at? x1885 (IntKind.i64.wrap (x1840-(1:Int))))>>=fun b1896=>(at? x1885 x1872)>>=fun b1899=>(cmp b1896 b1899)>>=fun t1902=>some (!(decide (t1902<(0:Int))))) else(some false)):Option (Bool))>>=fun x1904=>if x1904=true then((partitionEqual.f cmp x1885 x1840 x1841 x1872)>>=fun t1908=>some (.inr (t1908.2,t1908.1,x1841,x1861,x1843,x1844))) else((partition.f cmp x1885 x1840 x1841 x1872)>>=fun t1912=>((if(decide ((IntKind.i64.wrap (t1912.1-x1840))<(IntKind.i64.wrap (x1841-t1912.1))))=true then((self t1912.2.2 x1840 t1912.1 x1861)>>=fun t1917=>some (t1917,IntKind.i64.wrap (t1912.1+(1:Int)),x1841,(decide ((IntKind.i64.wrap (t1912.1-x1840))≥(IntKind.i64.wrap (Int.tdiv (IntKind.i64.wrap (x1841-x1840)) (8:Int))))))) else((self t1912.2.2 (IntKind.i64.wrap (t1912.1+(1:Int))) x1841 x1861)>>=fun t1921=>some (t1921,x1840,t1912.1,(decide ((IntKind.i64.wrap (x1841-t1912.1))≥(IntKind.i64.wrap (Int.tdiv (IntKind.i64.wrap (x1841-x1840)) (8:Int)))))))):Option ((List α)×Int×Int×Bool))>>=fun oo=>match oo with | (x1923,x1924,x1925,x1926)=>(some (.inr (x1923,x1924,x1925,x1861,x1926,t1912.2.1)))))))))):Option ((List α) ⊕ ((List α)×Int×Int×Int×Bool×Bool)))>>=fun oo=>match oo with | .inl rr=>(some rr) | .inr (x1927,x1928,x1929,x1930,x1931,x1932)=>(pdqsort.l0 self x1927 x1928 x1929 x1930 x1931 x1932)
partial_fixpoint
def pdqsort.fu:Nat→(List α)→Int→Int→Int→Option (List α)
 | 0,_,_,_,_=>none
 | k+1,a0,a1,a2,a3=>(pdqsort.l0 cmp (pdqsort.fu k) a0 a1 a2 a3 true true)>>=fun rr=>some rr
def pdqsort.f (a0:List α) (a1:Int) (a2:Int) (a3:Int):Option (List α):=pdqsort.fu cmp 100 a0 a1 a2 a3
def SortF.f (a0:List α):Option (List α):=(bitsLen.f (IntKind.u64.wrap ((a0.length:Int))))>>=fun t1951=>(pdqsort.f cmp a0 0 (a0.length:Int) t1951)>>=fun t1953=>some t1953
end Defs
end Go.Pv.GS
namespace Go.Pv.GS
open Go.Sort (swp)
variable {α:Type} [Inhabited α] {cmp:α→α→Option Int} {lt:α→α→Bool}
theorem wN {x:Int} {k:Nat} (h:x=(k:Int)) (hk:k<1000000000000):IntKind.i64.wrap x=(k:Int):=by subst h;exact Z08 (by omega) (by omega)
theorem atA {d:Array α} {k:Nat} (h:k<d.size):at? d.toList (k:Int)=some d[k]! := by
 rw[Z62 (k:=k) rfl];rw[Array.getElem?_toList,getElem!_def];simp[h]
theorem atS {d:Array α} {i j:Nat} {x:α} (h:j<d.size):∃ y,at? (d.toList.set (Int.toNat (i:Int)) x) (j:Int)=some y :=
 ⟨_,Z62 (k:=j) rfl (List.getElem?_eq_getElem (by simpa using h))⟩
theorem setA (d:Array α) (i j:Nat):(d.toList.set (Int.toNat (i:Int)) d[j]!).set (Int.toNat (j:Int)) d[i]! = (swp d i j).toList:=by
 simp[swp]
theorem Z0s (d:Array α) (i j:Nat):(swp d i j).size=d.size:=by simp[swp]
theorem Z78 (lt:α→α→Bool) (a:Nat):∀ (j:Nat) (d:Array α),(Go.Sort.insInner lt a j d).size=d.size:=by
 intro j
 induction j with
 | zero=>intro d;rfl
 | succ j ih => intro d; rw [Go.Sort.insInner]; split
                ·rw[ih,Z0s]
                ·rfl
end Go.Pv.GS
namespace Go.Pv.GS
open Go.Sort (swp)
variable {α:Type} [Inhabited α] {cmp:α→α→Option Int} {lt:α→α→Bool}
theorem Z6z (lt:α→α→Bool) (hi first:Nat):∀ (k root:Nat) (d:Array α),hi-root≤k→(Go.Sort.siftDown lt hi first root d).size=d.size:=by
 intro k
 induction k with
 | zero=>intro root d h;rw[Go.Sort.siftDown,dif_pos (by omega)]
 | succ k ih =>
  intro root d h;rw[Go.Sort.siftDown];split
  ·rfl
  ·split
   ·split
    ·rfl
    ·split
     ·rw[ih _ _ (by omega),Z0s]
     ·rfl
   ·split
    ·rfl
    ·rw[ih _ _ (by omega),Z0s]
theorem pq_rev_l0:∀ (k i j:Nat) (d:Array α),j-i≤k→j<d.size→d.size<1000000000→reverseRange.l0 d.toList (i:Int) (j:Int)=some (Go.Sort.reverseLoop i j d).toList:=by
 intro k
 induction k with
 | zero=>intro i j d h0 h1 h2;rw[reverseRange.l0,if_neg (by simp;omega),Go.Sort.reverseLoop,if_neg (by omega)]
 | succ k ih =>
  intro i j d h0 h1 h2;rw[reverseRange.l0,Go.Sort.reverseLoop];by_cases h:i<j
  ·obtain⟨y,ey⟩:=atS (d:=d) (i:=i) (j:=j) (x:=d[j]!) (by omega)
   rw[if_pos (by simp;omega),if_pos h,atA h1,sb,atA (by omega),sb,ey,sb,setA,wN (x:=(i:Int)+1) (k:=i+1) (by omega) (by omega),wN (x:=(j:Int)-1) (k:=j-1) (by omega) (by omega)];exact ih _ _ _ (by omega) (by rw[Z0s];omega) (by rw[Z0s];exact h2)
  ·rw[if_neg (by simp;omega),if_neg h]
theorem pq_rev (d:Array α) (a b:Nat) (hab:a<b) (hb:b≤d.size) (hd:d.size<1000000000):reverseRange.f d.toList a b=some (Go.Sort.reverseRange d a b).toList:=by
 unfold reverseRange.f Go.Sort.reverseRange;rw[wN (x:=(b:Int)-1) (k:=b-1) (by omega) (by omega),pq_rev_l0 (b-1) a (b-1) d (by omega) (by omega) hd,sb]
theorem Z5w (d:Array α) (a b s:Nat):(Go.Sort.order2 lt d a b s).2.2≤s+1:=by unfold Go.Sort.order2;split<;>simp
theorem order2_lt {d:Array α} {a b s n:Nat} (ha:a<n) (hb:b<n):(Go.Sort.order2 lt d a b s).1<n∧(Go.Sort.order2 lt d a b s).2.1<n:=by unfold Go.Sort.order2;split<;>exact⟨by assumption,by assumption⟩
theorem Z9f (d:Array α) (a b c s:Nat):(Go.Sort.median lt d a b c s).2≤s+3:=by
 unfold Go.Sort.median;have s1:=Z5w (lt:=lt) d a b s;have s2:=Z5w (lt:=lt) d (Go.Sort.order2 lt d a b s).2.1 c (Go.Sort.order2 lt d a b s).2.2;have s3:=Z5w (lt:=lt) d (Go.Sort.order2 lt d a b s).1 (Go.Sort.order2 lt d (Go.Sort.order2 lt d a b s).2.1 c (Go.Sort.order2 lt d a b s).2.2).1 (Go.Sort.order2 lt d (Go.Sort.order2 lt d a b s).2.1 c (Go.Sort.order2 lt d a b s).2.2).2.2;simp only;omega
def hnt:Go.Sort.Hint→Int
 | .unknown=>0
 | .increasing=>1
 | .decreasing=>2
def cpr (r:Nat×Nat):Nat×Go.Sort.Hint:=(r.1,if r.2=0 then .increasing else if r.2=12 then .decreasing else .unknown)
theorem cpv (d:Array α) (a b:Nat):Go.Sort.choosePivot lt d a b=cpr (if b-a≥8 then if b-a≥50 then Go.Sort.median lt d (Go.Sort.medianAdjacent lt d (a+(b-a) / 4*1) 0).1 (Go.Sort.medianAdjacent lt d (a+(b-a) / 4*2) (Go.Sort.medianAdjacent lt d (a+(b-a) / 4*1) 0).2).1 (Go.Sort.medianAdjacent lt d (a+(b-a) / 4*3) (Go.Sort.medianAdjacent lt d (a+(b-a) / 4*2) (Go.Sort.medianAdjacent lt d (a+(b-a) / 4*1) 0).2).2).1 (Go.Sort.medianAdjacent lt d (a+(b-a) / 4*3) (Go.Sort.medianAdjacent lt d (a+(b-a) / 4*2) (Go.Sort.medianAdjacent lt d (a+(b-a) / 4*1) 0).2).2).2 else Go.Sort.median lt d (a+(b-a) / 4*1) (a+(b-a) / 4*2) (a+(b-a) / 4*3) 0 else(a+(b-a) / 4*2,0)):=rfl
end Go.Pv.GS
namespace Go.Pv.GS
open Go.Sort (swp)
variable {α:Type} [Inhabited α] {cmp:α→α→Option Int} {lt:α→α→Bool}
theorem Z8b (lt:α→α→Bool) (d:Array α) (b:Nat):∀ (k i:Nat),b-i≤k→i≤Go.Sort.scanSorted lt d b i∧(i≤b→Go.Sort.scanSorted lt d b i≤b):=by
 intro k
 induction k with
 | zero=>intro i h;rw[Go.Sort.scanSorted,if_neg (by simp;omega)];exact⟨Nat.le_refl _,id⟩
 | succ k ih =>
  intro i h;rw[Go.Sort.scanSorted];split
  ·rename_i hh
   simp at hh;have:=ih (i+1) (by omega);exact⟨by omega,fun _=>this.2 (by omega)⟩
  ·exact⟨Nat.le_refl _,id⟩
theorem Z6g (lt:α→α→Bool):∀ (j:Nat) (d:Array α),(Go.Sort.shiftDown lt j d).size=d.size
 | 0,d=>rfl
 | j+1,d=>by
  rw[Go.Sort.shiftDown];split
  ·rfl
  ·rw[Z6g lt j,Z0s]
theorem shiftUp_size (lt:α→α→Bool) (b:Nat):∀ (k j:Nat) (d:Array α),b-j≤k→(Go.Sort.shiftUp lt b j d).size=d.size:=by
 intro k
 induction k with
 | zero=>intro j d h;rw[Go.Sort.shiftUp,if_neg (by omega)]
 | succ k ih =>
  intro j d h;rw[Go.Sort.shiftUp];split
  ·split
   ·rfl
   ·rw[ih _ _ (by omega),Z0s]
  ·rfl
end Go.Pv.GS
namespace Go.Pv.GS
open Go.Sort (swp)
variable {α:Type} [Inhabited α] {cmp:α→α→Option Int} {lt:α→α→Bool}
theorem scan_up (p:α→Bool) (d:Array α) (j:Nat) (F:Int→Option Int) (h1:∀ i:Nat,i≤j→F i=if p d[i]! = true then F ((i+1:Nat):Int) else some (i:Int)) (h2:∀ i:Nat,j<i→F i=some (i:Int)) :
  ∀ (k i:Nat),j+1-i≤k→F i=some (Go.Sort.scanUp p d j i:Int):=by
 intro k
 induction k with
 | zero=>intro i h;rw[h2 i (by omega),Go.Sort.scanUp,if_neg (by simp;omega)]
 | succ k ih =>
  intro i h;by_cases c:i≤j
  ·rw[h1 i c,Go.Sort.scanUp]
   cases q:p d[i]! with
   | true=>rw[if_pos rfl,if_pos (by simp[c])];exact ih (i+1) (by omega)
   | false=>rw[if_neg (by simp),if_neg (by simp)]
  ·rw[h2 i (by omega),Go.Sort.scanUp,if_neg (by simp;omega)]
theorem Z8x (p:α→Bool) (d:Array α) (i:Nat) (hi:1≤i) (F:Int→Option Int):∀ (j:Nat) (h1:∀ j':Nat,i≤j'→j'≤j→F j'=if p d[j']! = true then F ((j'-1:Nat):Int) else some (j':Int)) (h2:∀ j':Nat,j'<i→F j'=some (j':Int)),
  F j=some (Go.Sort.scanDown p d i j:Int):=by
 intro j
 induction j with
 | zero=>intro h1 h2;rw[h2 0 (by omega)];rfl
 | succ j ih =>
  intro h1 h2;rw[Go.Sort.scanDown];by_cases c:i≤j+1
  ·rw[h1 (j+1) c (Nat.le_refl _)]
   cases q:p d[j+1]! with
   | true=>rw[if_pos rfl,if_pos (by simp[c])];exact ih (fun j' a b=>h1 j' a (by omega)) h2
   | false=>rw[if_neg (by simp),if_neg (by simp)]
  ·rw[h2 (j+1) (by omega),if_neg (by simp;omega)]
end Go.Pv.GS
namespace Go.Pv.GS
open Go.Sort (swp)
theorem fdivP (a:Int) {b:Int} (h:0≤b):Int.fdiv a b=a / b:=Int.fdiv_eq_ediv_of_nonneg a h
def len8:ByteArray:=⟨#[0,1,2,2,3,3,3,3,4,4,4,4,4,4,4,4,5,5,5,5,5,5,5,5,5,5,5,5,5,5,5,5,6,6,6,6,6,6,6,6,6,6,6,6,6,6,6,6,6,6,6,6,6,6,6,6,6,6,6,6,6,6,6,6,7,7,7,7,7,7,7,7,7,7,7,7,7,7,7,7,7,7,7,7,7,7,7,7,7,7,7,7,7,7,7,7,7,7,7,7,7,7,7,7,7,7,7,7,7,7,7,7,7,7,7,7,7,7,7,7,7,7,7,7,7,7,7,7,8,8,8,8,8,8,8,8,8,8,8,8,8,8,8,8,8,8,8,8,8,8,8,8,8,8,8,8,8,8,8,8,8,8,8,8,8,8,8,8,8,8,8,8,8,8,8,8,8,8,8,8,8,8,8,8,8,8,8,8,8,8,8,8,8,8,8,8,8,8,8,8,8,8,8,8,8,8,8,8,8,8,8,8,8,8,8,8,8,8,8,8,8,8,8,8,8,8,8,8,8,8,8,8,8,8,8,8,8,8,8,8,8,8,8,8,8,8,8,8,8,8,8,8,8,8,8,8]⟩
def Len8 (v t:Int):Prop:=(v=0∧t=0)∨(v=1∧t=1)∨(2≤v∧v<4∧t=2)∨(4≤v∧v<8∧t=3)∨(8≤v∧v<16∧t=4)∨(16≤v∧v<32∧t=5)∨(32≤v∧v<64∧t=6)∨(64≤v∧v<128∧t=7)∨(128≤v∧v<256∧t=8)
set_option maxRecDepth 100000 in
theorem Z9i:(len8.size:Int)=256:=by rfl
set_option maxRecDepth 100000 in
theorem len8_nat:∀ k:Nat,k<256→Len8 k (bt len8 k):=by
 have h:∀ k:Fin 256,((k.val:Int)=0∧bt len8 k.val=0)∨((k.val:Int)=1∧bt len8 k.val=1)∨(2≤(k.val:Int)∧(k.val:Int)<4∧bt len8 k.val=2)∨(4≤(k.val:Int)∧(k.val:Int)<8∧bt len8 k.val=3)∨(8≤(k.val:Int)∧(k.val:Int)<16∧bt len8 k.val=4)∨(16≤(k.val:Int)∧(k.val:Int)<32∧bt len8 k.val=5)∨(32≤(k.val:Int)∧(k.val:Int)<64∧bt len8 k.val=6)∨(64≤(k.val:Int)∧(k.val:Int)<128∧bt len8 k.val=7)∨(128≤(k.val:Int)∧(k.val:Int)<256∧bt len8 k.val=8):=by decide +kernel
 exact fun k hk=>h ⟨k,hk⟩
theorem len8_tab {v:Int} (h0:0≤v) (h1:v<256):Len8 v (bt len8 v):=by
 have:=len8_nat v.toNat (by omega)
 rwa [Int.toNat_of_nonneg h0] at this
theorem u8_id {v:Int} (h0:0≤v) (h1:v<256):IntKind.u8.wrap v=v:=by
 simp only[IntKind.wrap,IntKind.signed,IntKind.bits];simp;omega
theorem Z9j {v n:Int} (h0:0≤v) (h1:v<256) (hn:0≤n∧n≤56):((chk (0≤(IntKind.u8.wrap (v))∧(IntKind.u8.wrap (v))<((len8.size:Nat):Int)))>>=fun _=>some (IntKind.i64.wrap (n+(IntKind.i64.wrap (bt len8 (IntKind.u8.wrap (v)))))))=some (n+bt len8 v)∧Len8 v (bt len8 v):=by
 have L:=len8_tab h0 h1;have hb:0≤bt len8 v∧bt len8 v≤8:=by unfold Len8 at L;omega
 rw[u8_id h0 h1,chkB ⟨h0,by rw[Z9i];exact h1⟩,Z08 (n:=bt len8 v) (by omega) (by omega),Z08 (by omega) (by omega)];exact⟨rfl,L⟩
theorem len_unique {n L:Nat} (h1:n<2 ^ L) (h2:L=0∨2 ^ (L-1)≤n):Go.Sort.bitsLen n=L:=by
 have u:=(Go.Sort.bitsLen_le_iff n L).2 h1;rcases h2 with rfl | h2
 ·omega
 ·by_cases c:Go.Sort.bitsLen n≤L-1
  ·have:=(Go.Sort.bitsLen_le_iff n (L-1)).1 c;omega
  ·omega
theorem pq_len64 {n:Nat} (hn:n<18446744073709551616):bitsLen64.f (n:Int)=some (Go.Sort.bitsLen n:Int):=by
 obtain⟨y,hy⟩:∃ y:Int,y=(n:Int):=⟨_,rfl⟩
 rw[← hy];have E:bitsLen64.f y=((if(decide (y≥(4294967296:Int)))=true then(some (Int.fdiv y 4294967296,32)) else(some (y,0))):Option (Int×Int))>>=fun oo=>match oo with | (x110,x111)=>(((if(decide (x110≥(65536:Int)))=true then(some (Int.fdiv x110 65536,IntKind.i64.wrap (x111+(16:Int)))) else(some (x110,x111))):Option (Int×Int))>>=fun oo=>match oo with | (x113,x114)=>(((if(decide (x113≥(256:Int)))=true then(some (Int.fdiv x113 256,IntKind.i64.wrap (x114+(8:Int)))) else(some (x113,x114))):Option (Int×Int))>>=fun oo=>match oo with | (x116,x117)=>((chk (0≤(IntKind.u8.wrap (x116))∧(IntKind.u8.wrap (x116))<(len8.size:Int)))>>=fun _=>some (IntKind.i64.wrap (x117+(IntKind.i64.wrap (bt len8 (IntKind.u8.wrap (x116))))))))):=rfl
 by_cases hz:n=0
 ·have y0:y=0:=by omega
  rw[y0] at E ⊢;obtain⟨e4,L⟩:=Z9j (v:=0) (n:=0) (by decide) (by decide) (by decide);rw[if_neg (by decide),sb] at E;simp only at E;rw[if_neg (by decide),sb] at E;simp only at E;rw[if_neg (by decide),sb] at E;simp only at E;rw[e4] at E;have hb:bt len8 0=0:=by unfold Len8 at L;omega
  rw[hb] at E;rw[E,hz];rfl
 have fin:∀ (q v t:Int),0<v→Len8 v t→(bitsLen64.f y=some (q+t))→(q=0∨q=8∨q=16∨q=24∨q=32∨q=40∨q=48∨q=56)→(∀ P:Int,P=2 ^ q.toNat→v*P≤y∧y<v*P+P)→bitsLen64.f y=some (Go.Sort.bitsLen n:Int):=by
  intro q v t hv hL he hq hP;have hP:=hP _ rfl;have ht:0≤t∧t≤8:=by unfold Len8 at hL;omega
  rw[he];congr 1;have:Go.Sort.bitsLen n=(q+t).toNat:=by
   refine len_unique ?_ (.inr ?_)
   ·unfold Len8 at hL
    rcases hq with rfl | rfl | rfl | rfl | rfl | rfl | rfl | rfl<;>rcases hL with ⟨rfl,rfl⟩ | ⟨rfl,rfl⟩ | ⟨a,b,rfl⟩ | ⟨a,b,rfl⟩ | ⟨a,b,rfl⟩ | ⟨a,b,rfl⟩ | ⟨a,b,rfl⟩ | ⟨a,b,rfl⟩ | ⟨a,b,rfl⟩<;>simp at hP ⊢<;>omega
   ·unfold Len8 at hL
    rcases hq with rfl | rfl | rfl | rfl | rfl | rfl | rfl | rfl<;>rcases hL with ⟨rfl,rfl⟩ | ⟨rfl,rfl⟩ | ⟨a,b,rfl⟩ | ⟨a,b,rfl⟩ | ⟨a,b,rfl⟩ | ⟨a,b,rfl⟩ | ⟨a,b,rfl⟩ | ⟨a,b,rfl⟩ | ⟨a,b,rfl⟩<;>simp at hP ⊢<;>omega
  omega
 have st1:∃ v q,((if(decide (y≥(4294967296:Int)))=true then(some (Int.fdiv y 4294967296,32)) else(some (y,0))):Option (Int×Int))=some (v,q)∧((q=32∧v=y / 4294967296)∨(q=0∧v=y))∧0<v∧v<4294967296:=by
  by_cases h:y≥4294967296
  ·exact⟨_,_,by rw[if_pos (by simpa using h),fdivP _ (by decide)],.inl ⟨rfl,rfl⟩,by omega,by omega⟩
  ·exact⟨_,_,by rw[if_neg (by simpa using h)],.inr ⟨rfl,rfl⟩,by omega,by omega⟩
 obtain⟨v1,n1,e1,c1,a1,b1⟩:=st1;have st2:∃ v q,((if(decide (v1≥(65536:Int)))=true then(some (Int.fdiv v1 65536,IntKind.i64.wrap (n1+(16:Int)))) else(some (v1,n1))):Option (Int×Int))=some (v,q)∧((q=n1+16∧v=v1 / 65536)∨(q=n1∧v=v1))∧0<v∧v<65536:=by
  by_cases h:v1≥65536
  ·exact⟨_,_,by rw[if_pos (by simpa using h),fdivP _ (by decide),Z08 (by omega) (by omega)],.inl ⟨rfl,rfl⟩,by omega,by omega⟩
  ·exact⟨_,_,by rw[if_neg (by simpa using h)],.inr ⟨rfl,rfl⟩,by omega,by omega⟩
 obtain⟨v2,n2,e2,c2,a2,b2⟩:=st2;have st3:∃ v q,((if(decide (v2≥(256:Int)))=true then(some (Int.fdiv v2 256,IntKind.i64.wrap (n2+(8:Int)))) else(some (v2,n2))):Option (Int×Int))=some (v,q)∧((q=n2+8∧v=v2 / 256)∨(q=n2∧v=v2))∧0<v∧v<256:=by
  by_cases h:v2≥256
  ·exact⟨_,_,by rw[if_pos (by simpa using h),fdivP _ (by decide),Z08 (by omega) (by omega)],.inl ⟨rfl,rfl⟩,by omega,by omega⟩
  ·exact⟨_,_,by rw[if_neg (by simpa using h)],.inr ⟨rfl,rfl⟩,by omega,by omega⟩
 obtain⟨v3,n3,e3,c3,a3,b3⟩:=st3;obtain⟨e4,L⟩:=Z9j (Int.le_of_lt a3) b3 (n:=n3) (by omega);rw[e1,sb] at E;simp only at E;rw[e2,sb] at E;simp only at E;rw[e3,sb] at E;simp only at E;rw[e4] at E;refine fin n3 v3 _ a3 L E (by omega) ?_;intro P hP;rcases c1 with ⟨rfl,rfl⟩ | ⟨rfl,rfl⟩<;>rcases c2 with ⟨rfl,rfl⟩ | ⟨rfl,rfl⟩<;>rcases c3 with ⟨rfl,rfl⟩ | ⟨rfl,rfl⟩<;>simp at hP<;>subst hP<;>omega
theorem pq_len {n:Nat} (hn:n<18446744073709551616):bitsLen.f (n:Int)=some (Go.Sort.bitsLen n:Int):=by
 unfold bitsLen.f;rw[pq_len64 hn,sb]
theorem pq_pow {n:Nat} (hn:n<1000000000):nextPow.f (n:Int)=some ((1 <<< Go.Sort.bitsLen n:Nat):Int):=by
 unfold nextPow.f;have hb:Go.Sort.bitsLen n≤30:=(Go.Sort.bitsLen_le_iff n 30).2 (by omega);rw[wrapU (n:=(n:Int)) (by omega) (by omega),pq_len (by omega),sb,chkB (by omega)];have e:min (Int.toNat (Go.Sort.bitsLen n:Int)) 64=Go.Sort.bitsLen n:=by omega
 have p:2 ^ Go.Sort.bitsLen n≤2 ^ 30:=Nat.pow_le_pow_right (by decide) hb;rw[e,Nat.shiftLeft_eq,Nat.one_mul,Int.one_mul];congr 1;have:((2:Int) ^ Go.Sort.bitsLen n)=((2 ^ Go.Sort.bitsLen n:Nat):Int):=by rw[Int.natCast_pow];rfl
 rw[this];generalize 2 ^ Go.Sort.bitsLen n=w at *;exact wrapU (by omega) (by omega)
end Go.Pv.GS
namespace Go.Pv.GS
open Go.Sort (swp)
variable {α:Type} [Inhabited α] {cmp:α→α→Option Int} {lt:α→α→Bool}
theorem u64_toNat (n:Nat) (h:n<18446744073709551616):IntKind.u64.wrap (n:Int)=(n:Int):=wrapU (by omega) (by omega)
theorem Z9b (r:UInt64):BitVec.ofInt 64 (r.toNat:Int)=r.toBitVec:=by
 apply BitVec.eq_of_toNat_eq;rw[BitVec.toNat_ofInt];have:=r.toNat_lt;show((r.toNat:Int) % ((2 ^ 64:Nat):Int)).toNat=r.toNat;omega
theorem xorU (a b:UInt64):IntKind.u64.wrap (((BitVec.toNat (BitVec.ofInt 64 (a.toNat:Int) ^^^ BitVec.ofInt 64 (b.toNat:Int)):Nat)):Int)=((a ^^^ b).toNat:Int):=by
 rw[Z9b,Z9b];exact u64_toNat _ (a ^^^ b).toNat_lt
theorem shlU (a:UInt64) (k:Nat) (hk:k<64) (m:Int) (hm:m=2 ^ k):IntKind.u64.wrap ((a.toNat:Int)*m)=((a <<< (UInt64.ofNat k)).toNat:Int):=by
 rw[wrapU_eq,UInt64.toNat_shiftLeft];have e:(UInt64.ofNat k).toNat % 64=k:=by rw[UInt64.toNat_ofNat'];omega
 rw[e,Nat.shiftLeft_eq,hm];have:((2:Int) ^ k)=((2 ^ k:Nat):Int):=by rw[Int.natCast_pow];rfl
 rw[this];generalize 2 ^ k=w;rw[← Int.natCast_mul];omega
theorem shrU (a:UInt64):Int.fdiv (a.toNat:Int) 128=((a >>> 7).toNat:Int):=by
 rw[fdivP _ (by decide),UInt64.toNat_shiftRight];have e:(7:UInt64).toNat % 64=7:=by decide
 rw[e,Nat.shiftRight_eq_div_pow];omega
theorem xorN (r:UInt64):IntKind.u64.wrap (((BitVec.toNat (BitVec.ofInt 64 (IntKind.u64.wrap (((BitVec.toNat (BitVec.ofInt 64 (IntKind.u64.wrap (((BitVec.toNat (BitVec.ofInt 64 (r.toNat:Int) ^^^ BitVec.ofInt 64 (IntKind.u64.wrap ((r.toNat:Int)*8192))):Nat)):Int)) ^^^ BitVec.ofInt 64 (Int.fdiv (IntKind.u64.wrap (((BitVec.toNat (BitVec.ofInt 64 (r.toNat:Int) ^^^ BitVec.ofInt 64 (IntKind.u64.wrap ((r.toNat:Int)*8192))):Nat)):Int)) 128)):Nat)):Int)) ^^^ BitVec.ofInt 64 (IntKind.u64.wrap ((IntKind.u64.wrap (((BitVec.toNat (BitVec.ofInt 64 (IntKind.u64.wrap (((BitVec.toNat (BitVec.ofInt 64 (r.toNat:Int) ^^^ BitVec.ofInt 64 (IntKind.u64.wrap ((r.toNat:Int)*8192))):Nat)):Int)) ^^^ BitVec.ofInt 64 (Int.fdiv (IntKind.u64.wrap (((BitVec.toNat (BitVec.ofInt 64 (r.toNat:Int) ^^^ BitVec.ofInt 64 (IntKind.u64.wrap ((r.toNat:Int)*8192))):Nat)):Int)) 128)):Nat)):Int))*131072))):Nat)):Int)=((Go.Sort.xorNext r).toNat:Int):=by
 rw[shlU r 13 (by decide) 8192 (by decide),xorU,shrU,xorU,shlU _ 17 (by decide) 131072 (by decide),xorU];rfl
theorem andN (r:UInt64) (m:Nat) (h1:1≤m) (hm:m<18446744073709551616):IntKind.u64.wrap (((BitVec.toNat (BitVec.ofInt 64 (r.toNat:Int) &&& BitVec.ofInt 64 (IntKind.u64.wrap ((m:Int)-(1:Int)))):Nat)):Int)=((r.toNat &&& (m-1):Nat):Int):=by
 rw[Z9b,wrapU (n:=(m:Int)-1) (by omega) (by omega),BitVec.toNat_and,BitVec.toNat_ofInt];have e:(((m:Int)-1) % ((2 ^ 64:Nat):Int)).toNat=m-1:=by omega
 rw[e];have:r.toBitVec.toNat &&& (m-1)≤m-1:=Nat.and_le_right;exact wrapU (by omega) (by omega)
theorem Z7o (a b len m:Nat) (hl:len=b-a) (h8:8≤len) (hm1:1≤m) (hm2:m≤2*len) (idx:Nat) (st:UInt64×Array α) (hb:b≤st.2.size) (hd:st.2.size<1000000000) (hi1:a≤idx) (hi2:idx<b) (hle:idx≤a+len / 4*2+1) :
  breakPatterns.l0 a b m st.2.toList (st.1.toNat:Int) idx=breakPatterns.l0 a b m (Go.Sort.breakStep a len m st idx).2.toList ((Go.Sort.breakStep a len m st idx).1.toNat:Int) ((idx+1:Nat):Int):=by
 have q:IntKind.i64.wrap (Int.tdiv ((len:Nat):Int) 4)=((len / 4:Nat):Int):=by
  rw[Int.tdiv_eq_ediv_of_nonneg (by omega)];exact wN (by omega) (by omega)
 conv=>lhs;rw[breakPatterns.l0]
 rw[xorN];have eL:IntKind.i64.wrap ((b:Int)-a)=(len:Int):=wN (by omega) (by omega);rw[eL,q,wN (x:=((len / 4:Nat):Int)*2) (k:=len / 4*2) (by omega) (by omega),wN (x:=(a:Int)+((len / 4*2:Nat):Int)) (k:=a+len / 4*2) (by omega) (by omega),wN (x:=((a+len / 4*2:Nat):Int)+1) (k:=a+len / 4*2+1) (by omega) (by omega)];rw[if_pos (by simp;omega),show xorNext.f (st.1.toNat:Int)=some () from rfl,sb,andN _ m hm1 (by omega)];unfold Go.Sort.breakStep;have hlt:(Go.Sort.xorNext st.1).toNat &&& (m-1)≤m-1:=Nat.and_le_right
 try dsimp only
 generalize Go.Sort.xorNext st.1=r at *;generalize r.toNat &&& (m-1)=o at *;have O:((if(decide ((IntKind.i64.wrap (o:Int))≥(len:Int)))=true then(some (IntKind.i64.wrap ((IntKind.i64.wrap (o:Int))-(len:Int)))) else(some (IntKind.i64.wrap (o:Int)))):Option Int)=some ((if o≥len then o-len else o:Nat):Int):=by
  rw[wN (x:=(o:Int)) (k:=o) rfl (by omega)];by_cases c:o≥len
  ·rw[if_pos (by simp;omega),if_pos c];congr 1;exact wN (by omega) (by omega)
  ·rw[if_neg (by simp;omega),if_neg c]
 rw[O,sb];have o2:(if o≥len then o-len else o)<len:=by split<;>omega
 generalize (if o≥len then o-len else o)=w at *;obtain⟨y,ey⟩:=atS (d:=st.2) (i:=idx) (j:=a+w) (x:=st.2[a+w]!) (by omega);rw[wN (x:=(a:Int)+(w:Int)) (k:=a+w) (by omega) (by omega),atA (by omega),sb,atA (by omega),sb,ey,sb,setA,wN (x:=(idx:Int)+1) (k:=idx+1) (by omega) (by omega)]
theorem Z3a (a len m:Nat) (st:UInt64×Array α) (idx:Nat):(Go.Sort.breakStep a len m st idx).2.size=st.2.size:=by
 unfold Go.Sort.breakStep;simp[Z0s]
theorem pq_bp (d:Array α) (a b:Nat) (hab:a≤b) (hb:b≤d.size) (hd:d.size<1000000000):breakPatterns.f d.toList a b=some (Go.Sort.breakPatterns d a b).toList:=by
 unfold breakPatterns.f Go.Sort.breakPatterns;obtain⟨len,hl⟩:∃ len,len=b-a:=⟨_,rfl⟩
 rw[wN (x:=(b:Int)-a) (k:=len) (by omega) (by omega)]
 try dsimp only
 rw[← hl];by_cases h8:len≥8
 case neg=>rw[if_neg (by simp;omega),if_neg h8,sb]
 have q:IntKind.i64.wrap (Int.tdiv ((len:Nat):Int) 4)=((len / 4:Nat):Int):=by
  rw[Int.tdiv_eq_ediv_of_nonneg (by omega)];exact wN (by omega) (by omega)
 rw[if_pos (by simp;omega),if_pos h8,pq_pow (by omega),sb,q,wN (x:=((len / 4:Nat):Int)*2) (k:=len / 4*2) (by omega) (by omega),wN (x:=(a:Int)+((len / 4*2:Nat):Int)) (k:=a+len / 4*2) (by omega) (by omega),wN (x:=((a+len / 4*2:Nat):Int)-1) (k:=a+len / 4*2-1) (by omega) (by omega)];have m1:1≤1 <<< Go.Sort.bitsLen len:=by rw[Nat.shiftLeft_eq,Nat.one_mul];exact Nat.pow_pos (by decide)
 have m2:1 <<< Go.Sort.bitsLen len≤2*len:=by rw[Nat.shiftLeft_eq,Nat.one_mul];exact Go.Sort.two_pow_bitsLen_le (by omega)
 generalize 1 <<< Go.Sort.bitsLen len=m at *;have e0:IntKind.u64.wrap ((len:Nat):Int)=((UInt64.ofNat len).toNat:Int):=by
  rw[wrapU (by omega) (by omega),UInt64.toNat_ofNat'];omega
 rw[e0];have z0:d=((UInt64.ofNat len,d):UInt64×Array α).2:=rfl;have s1:=Z7o a b len m hl h8 m1 m2 (a+len / 4*2-1) (UInt64.ofNat len,d) hb hd (by omega) (by omega) (by omega);have e1:a+len / 4*2-1+1=a+len / 4*2:=by omega
 rw[show breakPatterns.l0 a b m d.toList ((UInt64.ofNat len).toNat:Int) ((a+len / 4*2-1:Nat):Int)=_ from s1];have s2:=Z7o a b len m hl h8 m1 m2 (a+len / 4*2-1+1) (Go.Sort.breakStep a len m (UInt64.ofNat len,d) (a+len / 4*2-1)) (by rw[Z3a];exact hb) (by rw[Z3a];exact hd) (by omega) (by omega) (by omega);rw[s2];have s3:=Z7o a b len m hl h8 m1 m2 (a+len / 4*2-1+1+1) (Go.Sort.breakStep a len m (Go.Sort.breakStep a len m (UInt64.ofNat len,d) (a+len / 4*2-1)) (a+len / 4*2-1+1)) (by rw[Z3a,Z3a];exact hb) (by rw[Z3a,Z3a];exact hd) (by omega) (by omega) (by omega);rw[s3,breakPatterns.l0,wN (x:=(b:Int)-a) (k:=len) (by omega) (by omega),q,wN (x:=((len / 4:Nat):Int)*2) (k:=len / 4*2) (by omega) (by omega),wN (x:=(a:Int)+((len / 4*2:Nat):Int)) (k:=a+len / 4*2) (by omega) (by omega),wN (x:=((a+len / 4*2:Nat):Int)+1) (k:=a+len / 4*2+1) (by omega) (by omega),if_neg (by simp;omega),sb,sb]
end Go.Pv.GS
namespace Go.Pv.GS
open Go.Sort (swp)
variable {α:Type} [Inhabited α] {cmp:α→α→Option Int} {lt:α→α→Bool}
theorem pdq_eq (d:Array α) (a b limit:Nat) (wb wp:Bool) (h12:¬ b-a≤12) (hl:¬ limit=0) (d1:Array α) (e1:d1=if wb=true then d else Go.Sort.breakPatterns d a b) (lim:Nat) (e2:lim=if wb=true then limit else limit-1)
  (c:Nat×Go.Sort.Hint) (e3:c=Go.Sort.choosePivot lt d1 a b) (d2:Array α) (e4:d2=if c.2 = .decreasing then Go.Sort.reverseRange d1 a b else d1) (pv:Nat) (e5:pv=if c.2 = .decreasing then(b-1)-(c.1-a) else c.1)
  (hint:Go.Sort.Hint) (e6:hint=if c.2 = .decreasing then .increasing else c.2) (pi:Array α×Bool) (e7:pi=if(wb&&wp&&decide (hint = .increasing))=true then Go.Sort.partialInsertionSort lt d2 a b else(d2,false)) :
  Go.Sort.pdq lt d a b limit wb wp=if pi.2=true then pi.1 else
   if(decide (a>0) && !lt pi.1[a-1]! pi.1[pv]!)=true then
    (if a<(Go.Sort.partitionEqual lt pi.1 a b pv).1∧(Go.Sort.partitionEqual lt pi.1 a b pv).1≤b then Go.Sort.pdq lt (Go.Sort.partitionEqual lt pi.1 a b pv).2 (Go.Sort.partitionEqual lt pi.1 a b pv).1 b lim wb wp else(Go.Sort.partitionEqual lt pi.1 a b pv).2)
   else
    (if a≤(Go.Sort.partition lt pi.1 a b pv).1∧(Go.Sort.partition lt pi.1 a b pv).1<b then
     (if(Go.Sort.partition lt pi.1 a b pv).1-a<b-(Go.Sort.partition lt pi.1 a b pv).1 then
      Go.Sort.pdq lt (Go.Sort.pdq lt (Go.Sort.partition lt pi.1 a b pv).2.2 a (Go.Sort.partition lt pi.1 a b pv).1 lim true true) ((Go.Sort.partition lt pi.1 a b pv).1+1) b lim (decide ((Go.Sort.partition lt pi.1 a b pv).1-a≥(b-a) / 8)) (Go.Sort.partition lt pi.1 a b pv).2.1
     else
      Go.Sort.pdq lt (Go.Sort.pdq lt (Go.Sort.partition lt pi.1 a b pv).2.2 ((Go.Sort.partition lt pi.1 a b pv).1+1) b lim true true) a (Go.Sort.partition lt pi.1 a b pv).1 lim (decide (b-(Go.Sort.partition lt pi.1 a b pv).1≥(b-a) / 8)) (Go.Sort.partition lt pi.1 a b pv).2.1)
    else(Go.Sort.partition lt pi.1 a b pv).2.2):=by
 have e1':d1=if(!wb)=true then Go.Sort.breakPatterns d a b else d:=by rw[e1];cases wb<;>rfl
 have e2':lim=if(!wb)=true then limit-1 else limit:=by rw[e2];cases wb<;>rfl
 clear e1 e2;subst e7;subst e6;subst e5;subst e4;subst e3;subst e1';subst e2';rw[Go.Sort.pdq,if_neg h12,if_neg hl];simp only[dite_eq_ite]
end Go.Pv.GS
namespace Go.Pv.GS
variable {α:Type} [Inhabited α] {cmp:α→α→Option Int} {lt:α→α→Bool}
theorem swo_kit (h:SWO lt):Go.Sort.SWO lt where
 irrefl x:=by
  cases e:lt x x with
  | false=>rfl
  | true=>have q:=h.asymm x x e;rw[e] at q;exact absurd q (by simp)
 trans x y z h1 h2:=by
  cases e:lt x z with
  | true=>rfl
  | false=>have q:=h.trans y z x (h.asymm _ _ h2) e;rw[h1] at q;exact absurd q (by simp)
 ntrans x y z h1 h2:=h.trans z y x h2 h1
end Go.Pv.GS
namespace Go.Pv.GS
section Defs
variable {α:Type} (cmp:α→α→Option Bool)
def oInsertionSort.l1 (a1:Int) (a2:Int) (x0:Int) (x1:List α) (x2:Int):Option (List α):=((if(decide (x2>a1))=true then((at? x1 x2)>>=fun b3=>(at? x1 (IntKind.i64.wrap (x2-(1:Int))))>>=fun b4=>(cmp b3 b4)>>=fun t5=>some t5) else(some false)):Option (Bool))>>=fun x6=>if x6=true then((at? x1 (IntKind.i64.wrap (x2-(1:Int))))>>=fun b7=>(at? x1 x2)>>=fun b8=>(at? (x1.set (Int.toNat (x2)) b7) (IntKind.i64.wrap (x2-(1:Int))))>>=fun b9=>oInsertionSort.l1 a1 a2 x0 ((x1.set (Int.toNat (x2)) b7).set (Int.toNat (IntKind.i64.wrap (x2-(1:Int)))) b8) (IntKind.i64.wrap (x2-(1:Int)))) else(some x1)
partial_fixpoint
def oInsertionSort.l0 (a1:Int) (a2:Int) (x0:List α) (x1:Int):Option (List α):=if(decide (x1<a2))=true then((oInsertionSort.l1 cmp a1 a2 x1 x0 x1)>>=fun x2=>oInsertionSort.l0 a1 a2 x2 (IntKind.i64.wrap (x1+(1:Int)))) else(some x0)
partial_fixpoint
def oInsertionSort.f (a0:List α) (a1:Int) (a2:Int):Option (List α):=(oInsertionSort.l0 cmp a1 a2 a0 (IntKind.i64.wrap (a1+(1:Int))))>>=fun x0=>some x0
def oSiftDown.l0 (a2:Int) (a3:Int) (x397:List α) (x398:Int):Option ((List α) ⊕ (List α)):=if(decide ((IntKind.i64.wrap ((IntKind.i64.wrap ((2:Int)*x398))+(1:Int)))≥a2))=true then(some (.inr x397)) else(((if(decide ((IntKind.i64.wrap ((IntKind.i64.wrap ((IntKind.i64.wrap ((2:Int)*x398))+(1:Int)))+(1:Int)))<a2))=true then((at? x397 (IntKind.i64.wrap (a3+(IntKind.i64.wrap ((IntKind.i64.wrap ((2:Int)*x398))+(1:Int))))))>>=fun b410=>(at? x397 (IntKind.i64.wrap ((IntKind.i64.wrap (a3+(IntKind.i64.wrap ((IntKind.i64.wrap ((2:Int)*x398))+(1:Int)))))+(1:Int))))>>=fun b413=>(cmp b410 b413)>>=fun t416=>some t416) else(some false)):Option (Bool))>>=fun x418=>((if x418=true then(some (IntKind.i64.wrap ((IntKind.i64.wrap ((IntKind.i64.wrap ((2:Int)*x398))+(1:Int)))+(1:Int)))) else(some (IntKind.i64.wrap ((IntKind.i64.wrap ((2:Int)*x398))+(1:Int))))):Option (Int))>>=fun x420=>(at? x397 (IntKind.i64.wrap (a3+x398)))>>=fun b429=>(at? x397 (IntKind.i64.wrap (a3+x420)))>>=fun b432=>(cmp b429 b432)>>=fun t435=>if(!t435)=true then(some (.inl x397)) else((at? (x397.set (Int.toNat (IntKind.i64.wrap (a3+x398))) b432) (IntKind.i64.wrap (a3+x420)))>>=fun b441=>oSiftDown.l0 a2 a3 ((x397.set (Int.toNat (IntKind.i64.wrap (a3+x398))) b432).set (Int.toNat (IntKind.i64.wrap (a3+x420))) b429) x420))
partial_fixpoint
def oSiftDown.f (a0:List α) (a1:Int) (a2:Int) (a3:Int):Option (List α):=(oSiftDown.l0 cmp a2 a3 a0 a1)>>=fun oo=>match oo with | .inl rr=>(some rr) | .inr x444=>(some x444)
def oHeapSort.l0 (a1:Int) (a2:Int) (x455:List α) (x456:Int):Option (List α):=if(decide (x456≥(0:Int)))=true then((oSiftDown.f cmp x455 x456 (IntKind.i64.wrap (a2-a1)) a1)>>=fun t460=>oHeapSort.l0 a1 a2 t460 (IntKind.i64.wrap (x456-(1:Int)))) else(some x455)
partial_fixpoint
def oHeapSort.l1 (a1:Int) (x486:List α) (x487:Int):Option (List α):=if(decide (x487≥(0:Int)))=true then((at? x486 (IntKind.i64.wrap (a1+x487)))>>=fun b498=>(at? x486 a1)>>=fun b501=>(at? (x486.set (Int.toNat (a1)) b498) (IntKind.i64.wrap (a1+x487)))>>=fun b504=>(oSiftDown.f cmp ((x486.set (Int.toNat (a1)) b498).set (Int.toNat (IntKind.i64.wrap (a1+x487))) b501) 0 x487 a1)>>=fun t509=>oHeapSort.l1 a1 t509 (IntKind.i64.wrap (x487-(1:Int)))) else(some x486)
partial_fixpoint
def oHeapSort.f (a0:List α) (a1:Int) (a2:Int):Option (List α):=(oHeapSort.l0 cmp a1 a2 a0 (IntKind.i64.wrap (Int.tdiv (IntKind.i64.wrap ((IntKind.i64.wrap (a2-a1))-(1:Int))) (2:Int))))>>=fun x462=>(oHeapSort.l1 cmp a1 x462 (IntKind.i64.wrap ((IntKind.i64.wrap (a2-a1))-(1:Int))))>>=fun x511=>some x511
def oOrder2.f (a0:List α) (a1:Int) (a2:Int) (a3_c0:Int):Option (Int×Int×Int):=(at? a0 a2)>>=fun b530=>(at? a0 a1)>>=fun b533=>(cmp b530 b533)>>=fun t536=>if t536=true then(some (a2,a1,IntKind.i64.wrap (a3_c0+(1:Int)))) else(some (a1,a2,a3_c0))
def oMedian.f (a0:List α) (a1:Int) (a2:Int) (a3:Int) (a4_c0:Int):Option (Int×Int):=(oOrder2.f cmp a0 a1 a2 a4_c0)>>=fun t541=>(oOrder2.f cmp a0 t541.2.1 a3 t541.2.2)>>=fun t545=>(oOrder2.f cmp a0 t541.1 t545.1 t545.2.2)>>=fun t549=>some (t549.2.1,t549.2.2)
def oMedianAdjacent.f (a0:List α) (a1:Int) (a2_c0:Int):Option (Int×Int):=(oMedian.f cmp a0 (IntKind.i64.wrap (a1-(1:Int))) a1 (IntKind.i64.wrap (a1+(1:Int))) a2_c0)>>=fun t553=>some (t553.1,t553.2)
def oChoosePivot.f (a0:List α) (a1:Int) (a2:Int):Option (Int×Int):=((if(decide ((IntKind.i64.wrap (a2-a1))≥(8:Int)))=true then(((if(decide ((IntKind.i64.wrap (a2-a1))≥(50:Int)))=true then((oMedianAdjacent.f cmp a0 (IntKind.i64.wrap (a1+(IntKind.i64.wrap ((IntKind.i64.wrap (Int.tdiv (IntKind.i64.wrap (a2-a1)) (4:Int)))*(1:Int))))) 0)>>=fun t557=>(oMedianAdjacent.f cmp a0 (IntKind.i64.wrap (a1+(IntKind.i64.wrap ((IntKind.i64.wrap (Int.tdiv (IntKind.i64.wrap (a2-a1)) (4:Int)))*(2:Int))))) t557.2)>>=fun t561=>(oMedianAdjacent.f cmp a0 (IntKind.i64.wrap (a1+(IntKind.i64.wrap ((IntKind.i64.wrap (Int.tdiv (IntKind.i64.wrap (a2-a1)) (4:Int)))*(3:Int))))) t561.2)>>=fun t565=>some (t565.2,t557.1,t561.1,t565.1)) else(some (0,IntKind.i64.wrap (a1+(IntKind.i64.wrap ((IntKind.i64.wrap (Int.tdiv (IntKind.i64.wrap (a2-a1)) (4:Int)))*(1:Int)))),IntKind.i64.wrap (a1+(IntKind.i64.wrap ((IntKind.i64.wrap (Int.tdiv (IntKind.i64.wrap (a2-a1)) (4:Int)))*(2:Int)))),IntKind.i64.wrap (a1+(IntKind.i64.wrap ((IntKind.i64.wrap (Int.tdiv (IntKind.i64.wrap (a2-a1)) (4:Int)))*(3:Int))))))):Option (Int×Int×Int×Int))>>=fun oo=>match oo with | (x567,x568,x569,x570)=>((oMedian.f cmp a0 x568 x569 x570 x567)>>=fun t573=>some (t573.2,t573.1))) else(some (0,IntKind.i64.wrap (a1+(IntKind.i64.wrap ((IntKind.i64.wrap (Int.tdiv (IntKind.i64.wrap (a2-a1)) (4:Int)))*(2:Int))))))):Option (Int×Int))>>=fun oo=>match oo with | (x575,x576)=>(if(x575==(0:Int))=true then(some (x576,1)) else(if(x575==(12:Int))=true then(some (x576,2)) else(some (x576,0))))
def oPartialInsertionSort.l1 (a1:Int) (a2:Int) (x808:List α) (x810:Int) (x832:Int):Option (Int):=((if(decide (x832<a2))=true then((at? x808 x832)>>=fun b843=>(at? x808 (IntKind.i64.wrap (x832-(1:Int))))>>=fun b846=>(cmp b843 b846)>>=fun t849=>some (!t849)) else(some false)):Option (Bool))>>=fun x851=>if x851=true then(oPartialInsertionSort.l1 a1 a2 x808 x810 (IntKind.i64.wrap (x832+(1:Int)))) else(some x832)
partial_fixpoint
def oPartialInsertionSort.l2 (a1:Int) (a2:Int) (x810:Int) (x853:Int) (x899:List α) (x900:Int):Option (List α):=if(decide (x900≥(1:Int)))=true then((at? x899 x900)>>=fun b910=>(at? x899 (IntKind.i64.wrap (x900-(1:Int))))>>=fun b913=>(cmp b910 b913)>>=fun t916=>if(!t916)=true then(some x899) else((at? (x899.set (Int.toNat (x900)) b913) (IntKind.i64.wrap (x900-(1:Int))))>>=fun b922=>oPartialInsertionSort.l2 a1 a2 x810 x853 ((x899.set (Int.toNat (x900)) b913).set (Int.toNat (IntKind.i64.wrap (x900-(1:Int)))) b910) (IntKind.i64.wrap (x900-(1:Int))))) else(some x899)
partial_fixpoint
def oPartialInsertionSort.l3 (a1:Int) (a2:Int) (x810:Int) (x853:Int) (x952:List α) (x953:Int):Option (List α):=if(decide (x953<a2))=true then((at? x952 x953)>>=fun b963=>(at? x952 (IntKind.i64.wrap (x953-(1:Int))))>>=fun b966=>(cmp b963 b966)>>=fun t969=>if(!t969)=true then(some x952) else((at? (x952.set (Int.toNat (x953)) b966) (IntKind.i64.wrap (x953-(1:Int))))>>=fun b975=>oPartialInsertionSort.l3 a1 a2 x810 x853 ((x952.set (Int.toNat (x953)) b966).set (Int.toNat (IntKind.i64.wrap (x953-(1:Int)))) b963) (IntKind.i64.wrap (x953+(1:Int))))) else(some x952)
partial_fixpoint
def oPartialInsertionSort.l0 (a1:Int) (a2:Int) (x808:List α) (x809:Int) (x810:Int):Option ((Bool×(List α)) ⊕ (List α)):=if(decide (x810<(5:Int)))=true then((oPartialInsertionSort.l1 cmp a1 a2 x808 x810 x809)>>=fun x853=>if(x853==a2)=true then(some (.inl (true,x808))) else(if(decide ((IntKind.i64.wrap (a2-a1))<(50:Int)))=true then(some (.inl (false,x808))) else((at? x808 (IntKind.i64.wrap (x853-(1:Int))))>>=fun b865=>(at? x808 x853)>>=fun b868=>(at? (x808.set (Int.toNat (x853)) b865) (IntKind.i64.wrap (x853-(1:Int))))>>=fun b871=>((if(decide ((IntKind.i64.wrap (x853-a1))≥(2:Int)))=true then((oPartialInsertionSort.l2 cmp a1 a2 x810 x853 ((x808.set (Int.toNat (x853)) b865).set (Int.toNat (IntKind.i64.wrap (x853-(1:Int)))) b868) (IntKind.i64.wrap (x853-(1:Int))))>>=fun x925=>some x925) else(some ((x808.set (Int.toNat (x853)) b865).set (Int.toNat (IntKind.i64.wrap (x853-(1:Int)))) b868))):Option (List α))>>=fun x926=>((if(decide ((IntKind.i64.wrap (a2-x853))≥(2:Int)))=true then((oPartialInsertionSort.l3 cmp a1 a2 x810 x853 x926 (IntKind.i64.wrap (x853+(1:Int))))>>=fun x978=>some x978) else(some x926)):Option (List α))>>=fun x979=>oPartialInsertionSort.l0 a1 a2 x979 x853 (IntKind.i64.wrap (x810+(1:Int)))))) else(some (.inr x808))
partial_fixpoint
def oPartialInsertionSort.f (a0:List α) (a1:Int) (a2:Int):Option (Bool×(List α)):=(oPartialInsertionSort.l0 cmp a1 a2 a0 (IntKind.i64.wrap (a1+(1:Int))) 0)>>=fun oo=>match oo with | .inl rr=>(some rr) | .inr x980=>(some (false,x980))
def oPartitionEqual.l1 (a1:Int) (x1142:List α) (x1144:Int) (x1165:Int):Option (Int):=((if(decide (x1165≤x1144))=true then((at? x1142 a1)>>=fun b1176=>(at? x1142 x1165)>>=fun b1179=>(cmp b1176 b1179)>>=fun t1182=>some (!t1182)) else(some false)):Option (Bool))>>=fun x1184=>if x1184=true then(oPartitionEqual.l1 a1 x1142 x1144 (IntKind.i64.wrap (x1165+(1:Int)))) else(some x1165)
partial_fixpoint
def oPartitionEqual.l2 (a1:Int) (x1142:List α) (x1186:Int) (x1207:Int):Option (Int):=((if(decide (x1186≤x1207))=true then((at? x1142 a1)>>=fun b1218=>(at? x1142 x1207)>>=fun b1221=>(cmp b1218 b1221)>>=fun t1224=>some t1224) else(some false)):Option (Bool))>>=fun x1226=>if x1226=true then(oPartitionEqual.l2 a1 x1142 x1186 (IntKind.i64.wrap (x1207-(1:Int)))) else(some x1207)
partial_fixpoint
def oPartitionEqual.l0 (a1:Int) (x1142:List α) (x1143:Int) (x1144:Int):Option (Int×(List α)):=(oPartitionEqual.l1 cmp a1 x1142 x1144 x1143)>>=fun x1186=>(oPartitionEqual.l2 cmp a1 x1142 x1186 x1144)>>=fun x1228=>if(decide (x1186>x1228))=true then(some (x1186,x1142)) else((at? x1142 x1228)>>=fun b1239=>(at? x1142 x1186)>>=fun b1242=>(at? (x1142.set (Int.toNat (x1186)) b1239) x1228)>>=fun b1245=>oPartitionEqual.l0 a1 ((x1142.set (Int.toNat (x1186)) b1239).set (Int.toNat (x1228)) b1242) (IntKind.i64.wrap (x1186+(1:Int))) (IntKind.i64.wrap (x1228-(1:Int))))
partial_fixpoint
def oPartitionEqual.f (a0:List α) (a1:Int) (a2:Int) (a3:Int):Option (Int×(List α)):=(at? a0 a3)>>=fun b1030=>(at? a0 a1)>>=fun b1033=>(at? (a0.set (Int.toNat (a1)) b1030) a3)>>=fun b1036=>(oPartitionEqual.l0 cmp a1 ((a0.set (Int.toNat (a1)) b1030).set (Int.toNat (a3)) b1033) (IntKind.i64.wrap (a1+(1:Int))) (IntKind.i64.wrap (a2-(1:Int))))>>=fun oo=>match oo with | (x1248,x1249)=>(some (x1248,x1249))
def oPartition.l0 (a0:List α) (a1:Int) (a2:Int) (a3:Int) (b1273:α) (b1276:α) (x1302:Int):Option (Int):=((if(decide (x1302≤(IntKind.i64.wrap (a2-(1:Int)))))=true then((at? ((a0.set (Int.toNat (a1)) b1273).set (Int.toNat (a3)) b1276) x1302)>>=fun b1313=>(at? ((a0.set (Int.toNat (a1)) b1273).set (Int.toNat (a3)) b1276) a1)>>=fun b1316=>(cmp b1313 b1316)>>=fun t1319=>some t1319) else(some false)):Option (Bool))>>=fun x1321=>if x1321=true then(oPartition.l0 a0 a1 a2 a3 b1273 b1276 (IntKind.i64.wrap (x1302+(1:Int)))) else(some x1302)
partial_fixpoint
def oPartition.l1 (a0:List α) (a1:Int) (a3:Int) (b1273:α) (b1276:α) (x1323:Int) (x1344:Int):Option (Int):=((if(decide (x1323≤x1344))=true then((at? ((a0.set (Int.toNat (a1)) b1273).set (Int.toNat (a3)) b1276) x1344)>>=fun b1355=>(at? ((a0.set (Int.toNat (a1)) b1273).set (Int.toNat (a3)) b1276) a1)>>=fun b1358=>(cmp b1355 b1358)>>=fun t1361=>some (!t1361)) else(some false)):Option (Bool))>>=fun x1363=>if x1363=true then(oPartition.l1 a0 a1 a3 b1273 b1276 x1323 (IntKind.i64.wrap (x1344-(1:Int)))) else(some x1344)
partial_fixpoint
def oPartition.l3 (a1:Int) (x1506:List α) (x1508:Int) (x1529:Int):Option (Int):=((if(decide (x1529≤x1508))=true then((at? x1506 x1529)>>=fun b1540=>(at? x1506 a1)>>=fun b1543=>(cmp b1540 b1543)>>=fun t1546=>some t1546) else(some false)):Option (Bool))>>=fun x1548=>if x1548=true then(oPartition.l3 a1 x1506 x1508 (IntKind.i64.wrap (x1529+(1:Int)))) else(some x1529)
partial_fixpoint
def oPartition.l4 (a1:Int) (x1506:List α) (x1550:Int) (x1571:Int):Option (Int):=((if(decide (x1550≤x1571))=true then((at? x1506 x1571)>>=fun b1582=>(at? x1506 a1)>>=fun b1585=>(cmp b1582 b1585)>>=fun t1588=>some (!t1588)) else(some false)):Option (Bool))>>=fun x1590=>if x1590=true then(oPartition.l4 a1 x1506 x1550 (IntKind.i64.wrap (x1571-(1:Int)))) else(some x1571)
partial_fixpoint
def oPartition.l2 (a1:Int) (x1506:List α) (x1507:Int) (x1508:Int):Option ((List α)×Int):=(oPartition.l3 cmp a1 x1506 x1508 x1507)>>=fun x1550=>(oPartition.l4 cmp a1 x1506 x1550 x1508)>>=fun x1592=>if(decide (x1550>x1592))=true then(some (x1506,x1592)) else((at? x1506 x1592)>>=fun b1603=>(at? x1506 x1550)>>=fun b1606=>(at? (x1506.set (Int.toNat (x1550)) b1603) x1592)>>=fun b1609=>oPartition.l2 a1 ((x1506.set (Int.toNat (x1550)) b1603).set (Int.toNat (x1592)) b1606) (IntKind.i64.wrap (x1550+(1:Int))) (IntKind.i64.wrap (x1592-(1:Int))))
partial_fixpoint
def oPartition.f (a0:List α) (a1:Int) (a2:Int) (a3:Int):Option (Int×Bool×(List α)):=(at? a0 a3)>>=fun b1273=>(at? a0 a1)>>=fun b1276=>(at? (a0.set (Int.toNat (a1)) b1273) a3)>>=fun b1279=>(oPartition.l0 cmp a0 a1 a2 a3 b1273 b1276 (IntKind.i64.wrap (a1+(1:Int))))>>=fun x1323=>(oPartition.l1 cmp a0 a1 a3 b1273 b1276 x1323 (IntKind.i64.wrap (a2-(1:Int))))>>=fun x1365=>if(decide (x1323>x1365))=true then((at? ((a0.set (Int.toNat (a1)) b1273).set (Int.toNat (a3)) b1276) a1)>>=fun b1376=>(at? ((a0.set (Int.toNat (a1)) b1273).set (Int.toNat (a3)) b1276) x1365)>>=fun b1379=>(at? (((a0.set (Int.toNat (a1)) b1273).set (Int.toNat (a3)) b1276).set (Int.toNat (x1365)) b1376) a1)>>=fun b1382=>some (x1365,true,(((a0.set (Int.toNat (a1)) b1273).set (Int.toNat (a3)) b1276).set (Int.toNat (x1365)) b1376).set (Int.toNat (a1)) b1379)) else((at? ((a0.set (Int.toNat (a1)) b1273).set (Int.toNat (a3)) b1276) x1365)>>=fun b1394=>(at? ((a0.set (Int.toNat (a1)) b1273).set (Int.toNat (a3)) b1276) x1323)>>=fun b1397=>(at? (((a0.set (Int.toNat (a1)) b1273).set (Int.toNat (a3)) b1276).set (Int.toNat (x1323)) b1394) x1365)>>=fun b1400=>(oPartition.l2 cmp a1 ((((a0.set (Int.toNat (a1)) b1273).set (Int.toNat (a3)) b1276).set (Int.toNat (x1323)) b1394).set (Int.toNat (x1365)) b1397) (IntKind.i64.wrap (x1323+(1:Int))) (IntKind.i64.wrap (x1365-(1:Int))))>>=fun oo=>match oo with | (x1612,x1613)=>((at? x1612 a1)>>=fun b1623=>(at? x1612 x1613)>>=fun b1626=>(at? (x1612.set (Int.toNat (x1613)) b1623) a1)>>=fun b1629=>some (x1613,false,(x1612.set (Int.toNat (x1613)) b1623).set (Int.toNat (a1)) b1626)))
def oPdqsort.l0 (self:(List α)→Int→Int→Int→Option (List α)) (x1839:List α) (x1840:Int) (x1841:Int) (x1842:Int) (x1843:Bool) (x1844:Bool):Option (List α):=((if(decide ((IntKind.i64.wrap (x1841-x1840))≤(12:Int)))=true then((oInsertionSort.f cmp x1839 x1840 x1841)>>=fun t1848=>some (.inl t1848)) else(if(x1842==(0:Int))=true then((oHeapSort.f cmp x1839 x1840 x1841)>>=fun t1853=>some (.inl t1853)) else(((if(!x1843)=true then((breakPatterns.f x1839 x1840 x1841)>>=fun t1858=>some (t1858,IntKind.i64.wrap (x1842-(1:Int)))) else(some (x1839,x1842))):Option ((List α)×Int))>>=fun oo=>match oo with | (x1860,x1861)=>((oChoosePivot.f cmp x1860 x1840 x1841)>>=fun t1864=>((if(t1864.2==(2:Int))=true then((reverseRange.f x1860 x1840 x1841)>>=fun t1869=>some (t1869,IntKind.i64.wrap ((IntKind.i64.wrap (x1841-(1:Int)))-(IntKind.i64.wrap (t1864.1-x1840))),1)) else(some (x1860,t1864.1,t1864.2))):Option ((List α)×Int×Int))>>=fun oo=>match oo with | (x1871,x1872,x1873)=>(((if x1843=true then(if x1844=true then(some (x1873==(1:Int))) else(some false)) else(some false)):Option (Bool))>>=fun x1878=>((if x1878=true then((oPartialInsertionSort.f cmp x1871 x1840 x1841)>>=fun t1882=>if t1882.1=true then(some (.inl t1882.2)) else(some (.inr t1882.2))) else(some (.inr x1871))):Option ((List α) ⊕ (List α)))>>=fun oo=>match oo with | .inl rr=>(some (.inl rr)) | .inr x1885=>(((if(decide (x1840>(0:Int)))=true then((at? x1885 (IntKind.i64.wrap (x1840-(1:Int))))>>=fun b1896=>(at? x1885 x1872)>>=fun b1899=>(cmp b1896 b1899)>>=fun t1902=>some (!t1902)) else(some false)):Option (Bool))>>=fun x1904=>if x1904=true then((oPartitionEqual.f cmp x1885 x1840 x1841 x1872)>>=fun t1908=>some (.inr (t1908.2,t1908.1,x1841,x1861,x1843,x1844))) else((oPartition.f cmp x1885 x1840 x1841 x1872)>>=fun t1912=>((if(decide ((IntKind.i64.wrap (t1912.1-x1840))<(IntKind.i64.wrap (x1841-t1912.1))))=true then((self t1912.2.2 x1840 t1912.1 x1861)>>=fun t1917=>some (t1917,IntKind.i64.wrap (t1912.1+(1:Int)),x1841,(decide ((IntKind.i64.wrap (t1912.1-x1840))≥(IntKind.i64.wrap (Int.tdiv (IntKind.i64.wrap (x1841-x1840)) (8:Int))))))) else((self t1912.2.2 (IntKind.i64.wrap (t1912.1+(1:Int))) x1841 x1861)>>=fun t1921=>some (t1921,x1840,t1912.1,(decide ((IntKind.i64.wrap (x1841-t1912.1))≥(IntKind.i64.wrap (Int.tdiv (IntKind.i64.wrap (x1841-x1840)) (8:Int)))))))):Option ((List α)×Int×Int×Bool))>>=fun oo=>match oo with | (x1923,x1924,x1925,x1926)=>(some (.inr (x1923,x1924,x1925,x1861,x1926,t1912.2.1)))))))))):Option ((List α) ⊕ ((List α)×Int×Int×Int×Bool×Bool)))>>=fun oo=>match oo with | .inl rr=>(some rr) | .inr (x1927,x1928,x1929,x1930,x1931,x1932)=>(oPdqsort.l0 self x1927 x1928 x1929 x1930 x1931 x1932)
partial_fixpoint
def oPdqsort.fu:Nat→(List α)→Int→Int→Int→Option (List α)
 | 0,_,_,_,_=>none
 | k+1,a0,a1,a2,a3=>(oPdqsort.l0 cmp (oPdqsort.fu k) a0 a1 a2 a3 true true)>>=fun rr=>some rr
def oPdqsort.f (a0:List α) (a1:Int) (a2:Int) (a3:Int):Option (List α):=oPdqsort.fu cmp 100 a0 a1 a2 a3
def oSortF.f (a0:List α):Option (List α):=(bitsLen.f (IntKind.u64.wrap ((a0.length:Int))))>>=fun t1951=>(oPdqsort.f cmp a0 0 (a0.length:Int) t1951)>>=fun t1953=>some t1953
end Defs
end Go.Pv.GS
