import Derived.Sort.AssemblyPlain
import Derived.Test.YtpoihfcehejgfaaGreatPxBlockMakes17
set_option linter.unusedVariables false
set_option linter.unusedSimpArgs false
set_option linter.unusedSectionVars false
namespace Go.Pv.GS
section Defs
variable {α:Type} (cmp:α→α→Option Int)
def bitsLen64.f (a0:Int):Option (Int):=((if(decide (a0≥(4294967296:Int)))=true then(some (Int.fdiv a0 4294967296,32)) else(some (a0,0))):Option (Int×Int))>>=fun oo=>match oo with | (x110,x111)=>(((if(decide (x110≥(65536:Int)))=true then(some (Int.fdiv x110 65536,IntKind.i64.wrap (x111+(16:Int)))) else(some (x110,x111))):Option (Int×Int))>>=fun oo=>match oo with | (x113,x114)=>(((if(decide (x113≥(256:Int)))=true then(some (Int.fdiv x113 256,IntKind.i64.wrap (x114+(8:Int)))) else(some (x113,x114))):Option (Int×Int))>>=fun oo=>match oo with | (x116,x117)=>((chk (0≤(IntKind.u8.wrap (x116))∧(IntKind.u8.wrap (x116))<((⟨#[0,1,2,2,3,3,3,3,4,4,4,4,4,4,4,4,5,5,5,5,5,5,5,5,5,5,5,5,5,5,5,5,6,6,6,6,6,6,6,6,6,6,6,6,6,6,6,6,6,6,6,6,6,6,6,6,6,6,6,6,6,6,6,6,7,7,7,7,7,7,7,7,7,7,7,7,7,7,7,7,7,7,7,7,7,7,7,7,7,7,7,7,7,7,7,7,7,7,7,7,7,7,7,7,7,7,7,7,7,7,7,7,7,7,7,7,7,7,7,7,7,7,7,7,7,7,7,7,8,8,8,8,8,8,8,8,8,8,8,8,8,8,8,8,8,8,8,8,8,8,8,8,8,8,8,8,8,8,8,8,8,8,8,8,8,8,8,8,8,8,8,8,8,8,8,8,8,8,8,8,8,8,8,8,8,8,8,8,8,8,8,8,8,8,8,8,8,8,8,8,8,8,8,8,8,8,8,8,8,8,8,8,8,8,8,8,8,8,8,8,8,8,8,8,8,8,8,8,8,8,8,8,8,8,8,8,8,8,8,8,8,8,8,8,8,8,8,8,8,8,8,8,8,8,8,8]⟩:ByteArray).size:Int)))>>=fun _=>some (IntKind.i64.wrap (x117+(IntKind.i64.wrap (bt (⟨#[0,1,2,2,3,3,3,3,4,4,4,4,4,4,4,4,5,5,5,5,5,5,5,5,5,5,5,5,5,5,5,5,6,6,6,6,6,6,6,6,6,6,6,6,6,6,6,6,6,6,6,6,6,6,6,6,6,6,6,6,6,6,6,6,7,7,7,7,7,7,7,7,7,7,7,7,7,7,7,7,7,7,7,7,7,7,7,7,7,7,7,7,7,7,7,7,7,7,7,7,7,7,7,7,7,7,7,7,7,7,7,7,7,7,7,7,7,7,7,7,7,7,7,7,7,7,7,7,8,8,8,8,8,8,8,8,8,8,8,8,8,8,8,8,8,8,8,8,8,8,8,8,8,8,8,8,8,8,8,8,8,8,8,8,8,8,8,8,8,8,8,8,8,8,8,8,8,8,8,8,8,8,8,8,8,8,8,8,8,8,8,8,8,8,8,8,8,8,8,8,8,8,8,8,8,8,8,8,8,8,8,8,8,8,8,8,8,8,8,8,8,8,8,8,8,8,8,8,8,8,8,8,8,8,8,8,8,8,8,8,8,8,8,8,8,8,8,8,8,8,8,8,8,8,8,8]⟩:ByteArray) (IntKind.u8.wrap (x116)))))))))
def bitsLen.f (a0:Int):Option (Int):=(bitsLen64.f a0)>>=fun t128=>some t128
def nextPow.f (a0:Int):Option (Int):=(bitsLen.f (IntKind.u64.wrap (a0)))>>=fun t1694=>(chk (0≤t1694))>>=fun _=>some (IntKind.u64.wrap ((1:Int)*2 ^ (min (Int.toNat (t1694)) 64)))
def xorNext.f (a0_c0:Int):Option (Unit):=some ()
def siftDown.l0 (a2 a3:Int) (x397:List α) (x398:Int):Option ((List α) ⊕ (List α)):=if(decide ((IntKind.i64.wrap ((IntKind.i64.wrap ((2:Int)*x398))+(1:Int)))≥a2))=true then(some (.inr x397)) else(((if(decide ((IntKind.i64.wrap ((IntKind.i64.wrap ((IntKind.i64.wrap ((2:Int)*x398))+(1:Int)))+(1:Int)))<a2))=true then((at? x397 (IntKind.i64.wrap (a3+(IntKind.i64.wrap ((IntKind.i64.wrap ((2:Int)*x398))+(1:Int))))))>>=fun b410=>(at? x397 (IntKind.i64.wrap ((IntKind.i64.wrap (a3+(IntKind.i64.wrap ((IntKind.i64.wrap ((2:Int)*x398))+(1:Int)))))+(1:Int))))>>=fun b413=>(cmp b410 b413)>>=fun t416=>some (decide (t416<(0:Int)))) else(some false)):Option (Bool))>>=fun x418=>((if x418=true then(some (IntKind.i64.wrap ((IntKind.i64.wrap ((IntKind.i64.wrap ((2:Int)*x398))+(1:Int)))+(1:Int)))) else(some (IntKind.i64.wrap ((IntKind.i64.wrap ((2:Int)*x398))+(1:Int))))):Option (Int))>>=fun x420=>(at? x397 (IntKind.i64.wrap (a3+x398)))>>=fun b429=>(at? x397 (IntKind.i64.wrap (a3+x420)))>>=fun b432=>(cmp b429 b432)>>=fun t435=>if(!(decide (t435<(0:Int))))=true then(some (.inl x397)) else((at? (x397.set (Int.toNat (IntKind.i64.wrap (a3+x398))) b432) (IntKind.i64.wrap (a3+x420)))>>=fun b441=>siftDown.l0 a2 a3 ((x397.set (Int.toNat (IntKind.i64.wrap (a3+x398))) b432).set (Int.toNat (IntKind.i64.wrap (a3+x420))) b429) x420))
partial_fixpoint
def siftDown.f (a0:List α) (a1 a2 a3:Int):Option (List α):=(siftDown.l0 cmp a2 a3 a0 a1)>>=fun oo=>match oo with | .inl rr=>(some rr) | .inr x444=>(some x444)
def heapSort.l0 (a1 a2:Int) (x455:List α) (x456:Int):Option (List α):=if(decide (x456≥(0:Int)))=true then((siftDown.f cmp x455 x456 (IntKind.i64.wrap (a2-a1)) a1)>>=fun t460=>heapSort.l0 a1 a2 t460 (IntKind.i64.wrap (x456-(1:Int)))) else(some x455)
partial_fixpoint
def heapSort.l1 (a1:Int) (x486:List α) (x487:Int):Option (List α):=if(decide (x487≥(0:Int)))=true then((at? x486 (IntKind.i64.wrap (a1+x487)))>>=fun b498=>(at? x486 a1)>>=fun b501=>(at? (x486.set (Int.toNat (a1)) b498) (IntKind.i64.wrap (a1+x487)))>>=fun b504=>(siftDown.f cmp ((x486.set (Int.toNat (a1)) b498).set (Int.toNat (IntKind.i64.wrap (a1+x487))) b501) 0 x487 a1)>>=fun t509=>heapSort.l1 a1 t509 (IntKind.i64.wrap (x487-(1:Int)))) else(some x486)
partial_fixpoint
def heapSort.f (a0:List α) (a1 a2:Int):Option (List α):=(heapSort.l0 cmp a1 a2 a0 (IntKind.i64.wrap (Int.tdiv (IntKind.i64.wrap ((IntKind.i64.wrap (a2-a1))-(1:Int))) (2:Int))))>>=fun x462=>(heapSort.l1 cmp a1 x462 (IntKind.i64.wrap ((IntKind.i64.wrap (a2-a1))-(1:Int))))>>=fun x511=>some x511
def order2.f (a0:List α) (a1 a2 a3_c0:Int):Option (Int×Int×Int):=(at? a0 a2)>>=fun b530=>(at? a0 a1)>>=fun b533=>(cmp b530 b533)>>=fun t536=>if(decide (t536<(0:Int)))=true then(some (a2,a1,IntKind.i64.wrap (a3_c0+(1:Int)))) else(some (a1,a2,a3_c0))
def median.f (a0:List α) (a1 a2 a3 a4_c0:Int):Option (Int×Int):=(order2.f cmp a0 a1 a2 a4_c0)>>=fun t541=>(order2.f cmp a0 t541.2.1 a3 t541.2.2)>>=fun t545=>(order2.f cmp a0 t541.1 t545.1 t545.2.2)>>=fun t549=>some (t549.2.1,t549.2.2)
def medianAdjacent.f (a0:List α) (a1 a2_c0:Int):Option (Int×Int):=(median.f cmp a0 (IntKind.i64.wrap (a1-(1:Int))) a1 (IntKind.i64.wrap (a1+(1:Int))) a2_c0)>>=fun t553=>some (t553.1,t553.2)
def choosePivot.f (a0:List α) (a1 a2:Int):Option (Int×Int):=((if(decide ((IntKind.i64.wrap (a2-a1))≥(8:Int)))=true then(((if(decide ((IntKind.i64.wrap (a2-a1))≥(50:Int)))=true then((medianAdjacent.f cmp a0 (IntKind.i64.wrap (a1+(IntKind.i64.wrap ((IntKind.i64.wrap (Int.tdiv (IntKind.i64.wrap (a2-a1)) (4:Int)))*(1:Int))))) 0)>>=fun t557=>(medianAdjacent.f cmp a0 (IntKind.i64.wrap (a1+(IntKind.i64.wrap ((IntKind.i64.wrap (Int.tdiv (IntKind.i64.wrap (a2-a1)) (4:Int)))*(2:Int))))) t557.2)>>=fun t561=>(medianAdjacent.f cmp a0 (IntKind.i64.wrap (a1+(IntKind.i64.wrap ((IntKind.i64.wrap (Int.tdiv (IntKind.i64.wrap (a2-a1)) (4:Int)))*(3:Int))))) t561.2)>>=fun t565=>some (t565.2,t557.1,t561.1,t565.1)) else(some (0,IntKind.i64.wrap (a1+(IntKind.i64.wrap ((IntKind.i64.wrap (Int.tdiv (IntKind.i64.wrap (a2-a1)) (4:Int)))*(1:Int)))),IntKind.i64.wrap (a1+(IntKind.i64.wrap ((IntKind.i64.wrap (Int.tdiv (IntKind.i64.wrap (a2-a1)) (4:Int)))*(2:Int)))),IntKind.i64.wrap (a1+(IntKind.i64.wrap ((IntKind.i64.wrap (Int.tdiv (IntKind.i64.wrap (a2-a1)) (4:Int)))*(3:Int))))))):Option (Int×Int×Int×Int))>>=fun oo=>match oo with | (x567,x568,x569,x570)=>((median.f cmp a0 x568 x569 x570 x567)>>=fun t573=>some (t573.2,t573.1))) else(some (0,IntKind.i64.wrap (a1+(IntKind.i64.wrap ((IntKind.i64.wrap (Int.tdiv (IntKind.i64.wrap (a2-a1)) (4:Int)))*(2:Int))))))):Option (Int×Int))>>=fun oo=>match oo with | (x575,x576)=>(if(x575==(0:Int))=true then(some (x576,1)) else(if(x575==(12:Int))=true then(some (x576,2)) else(some (x576,0))))
def reverseRange.l0 (x607:List α) (x608 x609:Int):Option (List α):=if(decide (x608<x609))=true then((at? x607 x609)>>=fun b620=>(at? x607 x608)>>=fun b623=>(at? (x607.set (Int.toNat (x608)) b620) x609)>>=fun b626=>reverseRange.l0  ((x607.set (Int.toNat (x608)) b620).set (Int.toNat (x609)) b623) (IntKind.i64.wrap (x608+(1:Int))) (IntKind.i64.wrap (x609-(1:Int)))) else(some x607)
partial_fixpoint
def reverseRange.f (a0:List α) (a1 a2:Int):Option (List α):=(reverseRange.l0  a0 a1 (IntKind.i64.wrap (a2-(1:Int))))>>=fun x629=>some x629
def partialInsertionSort.l1 (a1 a2:Int) (x808:List α) (x810 x832:Int):Option (Int):=((if(decide (x832<a2))=true then((at? x808 x832)>>=fun b843=>(at? x808 (IntKind.i64.wrap (x832-(1:Int))))>>=fun b846=>(cmp b843 b846)>>=fun t849=>some (!(decide (t849<(0:Int))))) else(some false)):Option (Bool))>>=fun x851=>if x851=true then(partialInsertionSort.l1 a1 a2 x808 x810 (IntKind.i64.wrap (x832+(1:Int)))) else(some x832)
partial_fixpoint
def partialInsertionSort.l2 (a1 a2 x810 x853:Int) (x899:List α) (x900:Int):Option (List α):=if(decide (x900≥(1:Int)))=true then((at? x899 x900)>>=fun b910=>(at? x899 (IntKind.i64.wrap (x900-(1:Int))))>>=fun b913=>(cmp b910 b913)>>=fun t916=>if(!(decide (t916<(0:Int))))=true then(some x899) else((at? (x899.set (Int.toNat (x900)) b913) (IntKind.i64.wrap (x900-(1:Int))))>>=fun b922=>partialInsertionSort.l2 a1 a2 x810 x853 ((x899.set (Int.toNat (x900)) b913).set (Int.toNat (IntKind.i64.wrap (x900-(1:Int)))) b910) (IntKind.i64.wrap (x900-(1:Int))))) else(some x899)
partial_fixpoint
def partialInsertionSort.l3 (a1 a2 x810 x853:Int) (x952:List α) (x953:Int):Option (List α):=if(decide (x953<a2))=true then((at? x952 x953)>>=fun b963=>(at? x952 (IntKind.i64.wrap (x953-(1:Int))))>>=fun b966=>(cmp b963 b966)>>=fun t969=>if(!(decide (t969<(0:Int))))=true then(some x952) else((at? (x952.set (Int.toNat (x953)) b966) (IntKind.i64.wrap (x953-(1:Int))))>>=fun b975=>partialInsertionSort.l3 a1 a2 x810 x853 ((x952.set (Int.toNat (x953)) b966).set (Int.toNat (IntKind.i64.wrap (x953-(1:Int)))) b963) (IntKind.i64.wrap (x953+(1:Int))))) else(some x952)
partial_fixpoint
def partialInsertionSort.l0 (a1 a2:Int) (x808:List α) (x809 x810:Int):Option ((Bool×(List α)) ⊕ (List α)):=if(decide (x810<(5:Int)))=true then((partialInsertionSort.l1 cmp a1 a2 x808 x810 x809)>>=fun x853=>if(x853==a2)=true then(some (.inl (true,x808))) else(if(decide ((IntKind.i64.wrap (a2-a1))<(50:Int)))=true then(some (.inl (false,x808))) else((at? x808 (IntKind.i64.wrap (x853-(1:Int))))>>=fun b865=>(at? x808 x853)>>=fun b868=>(at? (x808.set (Int.toNat (x853)) b865) (IntKind.i64.wrap (x853-(1:Int))))>>=fun b871=>((if(decide ((IntKind.i64.wrap (x853-a1))≥(2:Int)))=true then((partialInsertionSort.l2 cmp a1 a2 x810 x853 ((x808.set (Int.toNat (x853)) b865).set (Int.toNat (IntKind.i64.wrap (x853-(1:Int)))) b868) (IntKind.i64.wrap (x853-(1:Int))))>>=fun x925=>some x925) else(some ((x808.set (Int.toNat (x853)) b865).set (Int.toNat (IntKind.i64.wrap (x853-(1:Int)))) b868))):Option (List α))>>=fun x926=>((if(decide ((IntKind.i64.wrap (a2-x853))≥(2:Int)))=true then((partialInsertionSort.l3 cmp a1 a2 x810 x853 x926 (IntKind.i64.wrap (x853+(1:Int))))>>=fun x978=>some x978) else(some x926)):Option (List α))>>=fun x979=>partialInsertionSort.l0 a1 a2 x979 x853 (IntKind.i64.wrap (x810+(1:Int)))))) else(some (.inr x808))
partial_fixpoint
def partialInsertionSort.f (a0:List α) (a1 a2:Int):Option (Bool×(List α)):=(partialInsertionSort.l0 cmp a1 a2 a0 (IntKind.i64.wrap (a1+(1:Int))) 0)>>=fun oo=>match oo with | .inl rr=>(some rr) | .inr x980=>(some (false,x980))
def partitionEqual.l1 (a1:Int) (x1142:List α) (x1144 x1165:Int):Option (Int):=((if(decide (x1165≤x1144))=true then((at? x1142 a1)>>=fun b1176=>(at? x1142 x1165)>>=fun b1179=>(cmp b1176 b1179)>>=fun t1182=>some (!(decide (t1182<(0:Int))))) else(some false)):Option (Bool))>>=fun x1184=>if x1184=true then(partitionEqual.l1 a1 x1142 x1144 (IntKind.i64.wrap (x1165+(1:Int)))) else(some x1165)
partial_fixpoint
def partitionEqual.l2 (a1:Int) (x1142:List α) (x1186 x1207:Int):Option (Int):=((if(decide (x1186≤x1207))=true then((at? x1142 a1)>>=fun b1218=>(at? x1142 x1207)>>=fun b1221=>(cmp b1218 b1221)>>=fun t1224=>some (decide (t1224<(0:Int)))) else(some false)):Option (Bool))>>=fun x1226=>if x1226=true then(partitionEqual.l2 a1 x1142 x1186 (IntKind.i64.wrap (x1207-(1:Int)))) else(some x1207)
partial_fixpoint
def partitionEqual.l0 (a1:Int) (x1142:List α) (x1143 x1144:Int):Option (Int×(List α)):=(partitionEqual.l1 cmp a1 x1142 x1144 x1143)>>=fun x1186=>(partitionEqual.l2 cmp a1 x1142 x1186 x1144)>>=fun x1228=>if(decide (x1186>x1228))=true then(some (x1186,x1142)) else((at? x1142 x1228)>>=fun b1239=>(at? x1142 x1186)>>=fun b1242=>(at? (x1142.set (Int.toNat (x1186)) b1239) x1228)>>=fun b1245=>partitionEqual.l0 a1 ((x1142.set (Int.toNat (x1186)) b1239).set (Int.toNat (x1228)) b1242) (IntKind.i64.wrap (x1186+(1:Int))) (IntKind.i64.wrap (x1228-(1:Int))))
partial_fixpoint
def partitionEqual.f (a0:List α) (a1 a2 a3:Int):Option (Int×(List α)):=(at? a0 a3)>>=fun b1030=>(at? a0 a1)>>=fun b1033=>(at? (a0.set (Int.toNat (a1)) b1030) a3)>>=fun b1036=>(partitionEqual.l0 cmp a1 ((a0.set (Int.toNat (a1)) b1030).set (Int.toNat (a3)) b1033) (IntKind.i64.wrap (a1+(1:Int))) (IntKind.i64.wrap (a2-(1:Int))))>>=fun oo=>match oo with | (x1248,x1249)=>(some (x1248,x1249))
def partition.l0 (a0:List α) (a1 a2 a3:Int) (b1273 b1276:α) (x1302:Int):Option (Int):=((if(decide (x1302≤(IntKind.i64.wrap (a2-(1:Int)))))=true then((at? ((a0.set (Int.toNat (a1)) b1273).set (Int.toNat (a3)) b1276) x1302)>>=fun b1313=>(at? ((a0.set (Int.toNat (a1)) b1273).set (Int.toNat (a3)) b1276) a1)>>=fun b1316=>(cmp b1313 b1316)>>=fun t1319=>some (decide (t1319<(0:Int)))) else(some false)):Option (Bool))>>=fun x1321=>if x1321=true then(partition.l0 a0 a1 a2 a3 b1273 b1276 (IntKind.i64.wrap (x1302+(1:Int)))) else(some x1302)
partial_fixpoint
def partition.l1 (a0:List α) (a1 a3:Int) (b1273 b1276:α) (x1323 x1344:Int):Option (Int):=((if(decide (x1323≤x1344))=true then((at? ((a0.set (Int.toNat (a1)) b1273).set (Int.toNat (a3)) b1276) x1344)>>=fun b1355=>(at? ((a0.set (Int.toNat (a1)) b1273).set (Int.toNat (a3)) b1276) a1)>>=fun b1358=>(cmp b1355 b1358)>>=fun t1361=>some (!(decide (t1361<(0:Int))))) else(some false)):Option (Bool))>>=fun x1363=>if x1363=true then(partition.l1 a0 a1 a3 b1273 b1276 x1323 (IntKind.i64.wrap (x1344-(1:Int)))) else(some x1344)
partial_fixpoint
def partition.l3 (a1:Int) (x1506:List α) (x1508 x1529:Int):Option (Int):=((if(decide (x1529≤x1508))=true then((at? x1506 x1529)>>=fun b1540=>(at? x1506 a1)>>=fun b1543=>(cmp b1540 b1543)>>=fun t1546=>some (decide (t1546<(0:Int)))) else(some false)):Option (Bool))>>=fun x1548=>if x1548=true then(partition.l3 a1 x1506 x1508 (IntKind.i64.wrap (x1529+(1:Int)))) else(some x1529)
partial_fixpoint
def partition.l4 (a1:Int) (x1506:List α) (x1550 x1571:Int):Option (Int):=((if(decide (x1550≤x1571))=true then((at? x1506 x1571)>>=fun b1582=>(at? x1506 a1)>>=fun b1585=>(cmp b1582 b1585)>>=fun t1588=>some (!(decide (t1588<(0:Int))))) else(some false)):Option (Bool))>>=fun x1590=>if x1590=true then(partition.l4 a1 x1506 x1550 (IntKind.i64.wrap (x1571-(1:Int)))) else(some x1571)
partial_fixpoint
def partition.l2 (a1:Int) (x1506:List α) (x1507 x1508:Int):Option ((List α)×Int):=(partition.l3 cmp a1 x1506 x1508 x1507)>>=fun x1550=>(partition.l4 cmp a1 x1506 x1550 x1508)>>=fun x1592=>if(decide (x1550>x1592))=true then(some (x1506,x1592)) else((at? x1506 x1592)>>=fun b1603=>(at? x1506 x1550)>>=fun b1606=>(at? (x1506.set (Int.toNat (x1550)) b1603) x1592)>>=fun b1609=>partition.l2 a1 ((x1506.set (Int.toNat (x1550)) b1603).set (Int.toNat (x1592)) b1606) (IntKind.i64.wrap (x1550+(1:Int))) (IntKind.i64.wrap (x1592-(1:Int))))
partial_fixpoint
def partition.f (a0:List α) (a1 a2 a3:Int):Option (Int×Bool×(List α)):=(at? a0 a3)>>=fun b1273=>(at? a0 a1)>>=fun b1276=>(at? (a0.set (Int.toNat (a1)) b1273) a3)>>=fun b1279=>(partition.l0 cmp a0 a1 a2 a3 b1273 b1276 (IntKind.i64.wrap (a1+(1:Int))))>>=fun x1323=>(partition.l1 cmp a0 a1 a3 b1273 b1276 x1323 (IntKind.i64.wrap (a2-(1:Int))))>>=fun x1365=>if(decide (x1323>x1365))=true then((at? ((a0.set (Int.toNat (a1)) b1273).set (Int.toNat (a3)) b1276) a1)>>=fun b1376=>(at? ((a0.set (Int.toNat (a1)) b1273).set (Int.toNat (a3)) b1276) x1365)>>=fun b1379=>(at? (((a0.set (Int.toNat (a1)) b1273).set (Int.toNat (a3)) b1276).set (Int.toNat (x1365)) b1376) a1)>>=fun b1382=>some (x1365,true,(((a0.set (Int.toNat (a1)) b1273).set (Int.toNat (a3)) b1276).set (Int.toNat (x1365)) b1376).set (Int.toNat (a1)) b1379)) else((at? ((a0.set (Int.toNat (a1)) b1273).set (Int.toNat (a3)) b1276) x1365)>>=fun b1394=>(at? ((a0.set (Int.toNat (a1)) b1273).set (Int.toNat (a3)) b1276) x1323)>>=fun b1397=>(at? (((a0.set (Int.toNat (a1)) b1273).set (Int.toNat (a3)) b1276).set (Int.toNat (x1323)) b1394) x1365)>>=fun b1400=>(partition.l2 cmp a1 ((((a0.set (Int.toNat (a1)) b1273).set (Int.toNat (a3)) b1276).set (Int.toNat (x1323)) b1394).set (Int.toNat (x1365)) b1397) (IntKind.i64.wrap (x1323+(1:Int))) (IntKind.i64.wrap (x1365-(1:Int))))>>=fun oo=>match oo with | (x1612,x1613)=>((at? x1612 a1)>>=fun b1623=>(at? x1612 x1613)>>=fun b1626=>(at? (x1612.set (Int.toNat (x1613)) b1623) a1)>>=fun b1629=>some (x1613,false,(x1612.set (Int.toNat (x1613)) b1623).set (Int.toNat (a1)) b1626)))
def breakPatterns.l0 (a1 a2 t1699:Int) (x1726:List α) (x1727 x1728:Int):Option (List α):=if(decide (x1728≤(IntKind.i64.wrap ((IntKind.i64.wrap (a1+(IntKind.i64.wrap ((IntKind.i64.wrap (Int.tdiv (IntKind.i64.wrap (a2-a1)) (4:Int)))*(2:Int)))))+(1:Int)))))=true then((xorNext.f x1727)>>=fun t1732=>((if(decide ((IntKind.i64.wrap (IntKind.u64.wrap (((BitVec.toNat (BitVec.ofInt 64 (IntKind.u64.wrap (((BitVec.toNat (BitVec.ofInt 64 (IntKind.u64.wrap (((BitVec.toNat (BitVec.ofInt 64 (IntKind.u64.wrap (((BitVec.toNat (BitVec.ofInt 64 x1727 ^^^ BitVec.ofInt 64 (IntKind.u64.wrap (x1727*8192))):Nat):Int))) ^^^ BitVec.ofInt 64 (Int.fdiv (IntKind.u64.wrap (((BitVec.toNat (BitVec.ofInt 64 x1727 ^^^ BitVec.ofInt 64 (IntKind.u64.wrap (x1727*8192))):Nat):Int))) 128)):Nat):Int))) ^^^ BitVec.ofInt 64 (IntKind.u64.wrap ((IntKind.u64.wrap (((BitVec.toNat (BitVec.ofInt 64 (IntKind.u64.wrap (((BitVec.toNat (BitVec.ofInt 64 x1727 ^^^ BitVec.ofInt 64 (IntKind.u64.wrap (x1727*8192))):Nat):Int))) ^^^ BitVec.ofInt 64 (Int.fdiv (IntKind.u64.wrap (((BitVec.toNat (BitVec.ofInt 64 x1727 ^^^ BitVec.ofInt 64 (IntKind.u64.wrap (x1727*8192))):Nat):Int))) 128)):Nat):Int)))*131072))):Nat):Int))) &&& BitVec.ofInt 64 (IntKind.u64.wrap (t1699-(1:Int)))):Nat):Int))))≥(IntKind.i64.wrap (a2-a1))))=true then(some (IntKind.i64.wrap ((IntKind.i64.wrap (IntKind.u64.wrap (((BitVec.toNat (BitVec.ofInt 64 (IntKind.u64.wrap (((BitVec.toNat (BitVec.ofInt 64 (IntKind.u64.wrap (((BitVec.toNat (BitVec.ofInt 64 (IntKind.u64.wrap (((BitVec.toNat (BitVec.ofInt 64 x1727 ^^^ BitVec.ofInt 64 (IntKind.u64.wrap (x1727*8192))):Nat):Int))) ^^^ BitVec.ofInt 64 (Int.fdiv (IntKind.u64.wrap (((BitVec.toNat (BitVec.ofInt 64 x1727 ^^^ BitVec.ofInt 64 (IntKind.u64.wrap (x1727*8192))):Nat):Int))) 128)):Nat):Int))) ^^^ BitVec.ofInt 64 (IntKind.u64.wrap ((IntKind.u64.wrap (((BitVec.toNat (BitVec.ofInt 64 (IntKind.u64.wrap (((BitVec.toNat (BitVec.ofInt 64 x1727 ^^^ BitVec.ofInt 64 (IntKind.u64.wrap (x1727*8192))):Nat):Int))) ^^^ BitVec.ofInt 64 (Int.fdiv (IntKind.u64.wrap (((BitVec.toNat (BitVec.ofInt 64 x1727 ^^^ BitVec.ofInt 64 (IntKind.u64.wrap (x1727*8192))):Nat):Int))) 128)):Nat):Int)))*131072))):Nat):Int))) &&& BitVec.ofInt 64 (IntKind.u64.wrap (t1699-(1:Int)))):Nat):Int))))-(IntKind.i64.wrap (a2-a1))))) else(some (IntKind.i64.wrap (IntKind.u64.wrap (((BitVec.toNat (BitVec.ofInt 64 (IntKind.u64.wrap (((BitVec.toNat (BitVec.ofInt 64 (IntKind.u64.wrap (((BitVec.toNat (BitVec.ofInt 64 (IntKind.u64.wrap (((BitVec.toNat (BitVec.ofInt 64 x1727 ^^^ BitVec.ofInt 64 (IntKind.u64.wrap (x1727*8192))):Nat):Int))) ^^^ BitVec.ofInt 64 (Int.fdiv (IntKind.u64.wrap (((BitVec.toNat (BitVec.ofInt 64 x1727 ^^^ BitVec.ofInt 64 (IntKind.u64.wrap (x1727*8192))):Nat):Int))) 128)):Nat):Int))) ^^^ BitVec.ofInt 64 (IntKind.u64.wrap ((IntKind.u64.wrap (((BitVec.toNat (BitVec.ofInt 64 (IntKind.u64.wrap (((BitVec.toNat (BitVec.ofInt 64 x1727 ^^^ BitVec.ofInt 64 (IntKind.u64.wrap (x1727*8192))):Nat):Int))) ^^^ BitVec.ofInt 64 (Int.fdiv (IntKind.u64.wrap (((BitVec.toNat (BitVec.ofInt 64 x1727 ^^^ BitVec.ofInt 64 (IntKind.u64.wrap (x1727*8192))):Nat):Int))) 128)):Nat):Int)))*131072))):Nat):Int))) &&& BitVec.ofInt 64 (IntKind.u64.wrap (t1699-(1:Int)))):Nat):Int)))))):Option (Int))>>=fun x1735=>(at? x1726 (IntKind.i64.wrap (a1+x1735)))>>=fun b1745=>(at? x1726 x1728)>>=fun b1748=>(at? (x1726.set (Int.toNat (x1728)) b1745) (IntKind.i64.wrap (a1+x1735)))>>=fun b1751=>breakPatterns.l0 a1 a2 t1699 ((x1726.set (Int.toNat (x1728)) b1745).set (Int.toNat (IntKind.i64.wrap (a1+x1735))) b1748) (IntKind.u64.wrap (((BitVec.toNat (BitVec.ofInt 64 (IntKind.u64.wrap (((BitVec.toNat (BitVec.ofInt 64 (IntKind.u64.wrap (((BitVec.toNat (BitVec.ofInt 64 x1727 ^^^ BitVec.ofInt 64 (IntKind.u64.wrap (x1727*8192))):Nat):Int))) ^^^ BitVec.ofInt 64 (Int.fdiv (IntKind.u64.wrap (((BitVec.toNat (BitVec.ofInt 64 x1727 ^^^ BitVec.ofInt 64 (IntKind.u64.wrap (x1727*8192))):Nat):Int))) 128)):Nat):Int))) ^^^ BitVec.ofInt 64 (IntKind.u64.wrap ((IntKind.u64.wrap (((BitVec.toNat (BitVec.ofInt 64 (IntKind.u64.wrap (((BitVec.toNat (BitVec.ofInt 64 x1727 ^^^ BitVec.ofInt 64 (IntKind.u64.wrap (x1727*8192))):Nat):Int))) ^^^ BitVec.ofInt 64 (Int.fdiv (IntKind.u64.wrap (((BitVec.toNat (BitVec.ofInt 64 x1727 ^^^ BitVec.ofInt 64 (IntKind.u64.wrap (x1727*8192))):Nat):Int))) 128)):Nat):Int)))*131072))):Nat):Int))) (IntKind.i64.wrap (x1728+(1:Int)))) else(some x1726)
partial_fixpoint
def breakPatterns.f (a0:List α) (a1 a2:Int):Option (List α):=((if(decide ((IntKind.i64.wrap (a2-a1))≥(8:Int)))=true then((nextPow.f (IntKind.i64.wrap (a2-a1)))>>=fun t1699=>(breakPatterns.l0 a1 a2 t1699 a0 (IntKind.u64.wrap (IntKind.i64.wrap (a2-a1))) (IntKind.i64.wrap ((IntKind.i64.wrap (a1+(IntKind.i64.wrap ((IntKind.i64.wrap (Int.tdiv (IntKind.i64.wrap (a2-a1)) (4:Int)))*(2:Int)))))-(1:Int))))>>=fun x1754=>some x1754) else(some a0)):Option (List α))>>=fun x1755=>some x1755
def pdqsort.l0 (self:(List α)→Int→Int→Int→Option (List α)) (x1839:List α) (x1840 x1841 x1842:Int) (x1843 x1844:Bool):Option (List α):=((if(decide ((IntKind.i64.wrap (x1841-x1840))≤(12:Int)))=true then((insertionSort.f cmp x1839 x1840 x1841)>>=fun t1848=>some (.inl t1848)) else(if(x1842==(0:Int))=true then((heapSort.f cmp x1839 x1840 x1841)>>=fun t1853=>some (.inl t1853)) else(((if(!x1843)=true then((breakPatterns.f x1839 x1840 x1841)>>=fun t1858=>some (t1858,IntKind.i64.wrap (x1842-(1:Int)))) else(some (x1839,x1842))):Option ((List α)×Int))>>=fun oo=>match oo with | (x1860,x1861)=>((choosePivot.f cmp x1860 x1840 x1841)>>=fun t1864=>((if(t1864.2==(2:Int))=true then((reverseRange.f x1860 x1840 x1841)>>=fun t1869=>some (t1869,IntKind.i64.wrap ((IntKind.i64.wrap (x1841-(1:Int)))-(IntKind.i64.wrap (t1864.1-x1840))),1)) else(some (x1860,t1864.1,t1864.2))):Option ((List α)×Int×Int))>>=fun oo=>match oo with | (x1871,x1872,x1873)=>(((if x1843=true then(if x1844=true then(some (x1873==(1:Int))) else(some false)) else(some false)):Option (Bool))>>=fun x1878=>((if x1878=true then((partialInsertionSort.f cmp x1871 x1840 x1841)>>=fun t1882=>if t1882.1=true then(some (.inl t1882.2)) else(some (.inr t1882.2))) else(some (.inr x1871))):Option ((List α) ⊕ (List α)))>>=fun oo=>match oo with | .inl rr=>(some (.inl rr)) | .inr x1885=>(((if(decide (x1840>(0:Int)))=true then((at? x1885 (IntKind.i64.wrap (x1840-(1:Int))))>>=fun b1896=>(at? x1885 x1872)>>=fun b1899=>(cmp b1896 b1899)>>=fun t1902=>some (!(decide (t1902<(0:Int))))) else(some false)):Option (Bool))>>=fun x1904=>if x1904=true then((partitionEqual.f cmp x1885 x1840 x1841 x1872)>>=fun t1908=>some (.inr (t1908.2,t1908.1,x1841,x1861,x1843,x1844))) else((partition.f cmp x1885 x1840 x1841 x1872)>>=fun t1912=>((if(decide ((IntKind.i64.wrap (t1912.1-x1840))<(IntKind.i64.wrap (x1841-t1912.1))))=true then((self t1912.2.2 x1840 t1912.1 x1861)>>=fun t1917=>some (t1917,IntKind.i64.wrap (t1912.1+(1:Int)),x1841,(decide ((IntKind.i64.wrap (t1912.1-x1840))≥(IntKind.i64.wrap (Int.tdiv (IntKind.i64.wrap (x1841-x1840)) (8:Int))))))) else((self t1912.2.2 (IntKind.i64.wrap (t1912.1+(1:Int))) x1841 x1861)>>=fun t1921=>some (t1921,x1840,t1912.1,(decide ((IntKind.i64.wrap (x1841-t1912.1))≥(IntKind.i64.wrap (Int.tdiv (IntKind.i64.wrap (x1841-x1840)) (8:Int)))))))):Option ((List α)×Int×Int×Bool))>>=fun oo=>match oo with | (x1923,x1924,x1925,x1926)=>(some (.inr (x1923,x1924,x1925,x1861,x1926,t1912.2.1)))))))))):Option ((List α) ⊕ ((List α)×Int×Int×Int×Bool×Bool)))>>=fun oo=>match oo with | .inl rr=>(some rr) | .inr (x1927,x1928,x1929,x1930,x1931,x1932)=>(pdqsort.l0 self x1927 x1928 x1929 x1930 x1931 x1932)
partial_fixpoint
def pdqsort.fu:Nat→(List α)→Int→Int→Int→Option (List α)
 | 0,_,_,_,_=>none
 | k+1,a0,a1,a2,a3=>(pdqsort.l0 cmp (pdqsort.fu k) a0 a1 a2 a3 true true)>>=fun rr=>some rr
def pdqsort.f (a0:List α) (a1 a2 a3:Int):Option (List α):=pdqsort.fu cmp 100 a0 a1 a2 a3
def SortF.f (a0:List α):Option (List α):=(bitsLen.f (IntKind.u64.wrap ((a0.length:Int))))>>=fun t1951=>(pdqsort.f cmp a0 0 (a0.length:Int) t1951)>>=fun t1953=>some t1953
end Defs
end Go.Pv.GS
namespace Go.Pv.GS
open Go.Sort (swp)
variable {α:Type} [Inhabited α] {cmp:α→α→Option Int} {lt:α→α→Bool}
theorem wN {x:Int} {k:Nat} (h:x=(k:Int)) (hk:k<1000000000000):IntKind.i64.wrap x=(k:Int):=by subst h;exact Z0b (by omega) (by omega)
theorem atA {d:Array α} {k:Nat} (h:k<d.size):at? d.toList (k:Int)=some d[k]! := by
 rw[at_nat (k:=k) rfl];rw[Array.getElem?_toList,getElem!_def];simp[h]
theorem atS {d:Array α} {i j:Nat} {x:α} (h:j<d.size):∃ y,at? (d.toList.set (Int.toNat (i:Int)) x) (j:Int)=some y :=
 ⟨_,at_nat (k:=j) rfl (List.getElem?_eq_getElem (by simpa using h))⟩
theorem setA (d:Array α) (i j:Nat):(d.toList.set (Int.toNat (i:Int)) d[j]!).set (Int.toNat (j:Int)) d[i]! = (swp d i j).toList:=by
 simp[swp]
theorem Z18 (d:Array α) (i j:Nat):(swp d i j).size=d.size:=by simp[swp]
theorem pq_ins_l1 (hc:Cmp cmp lt) (a2 x0:Int) (a:Nat):∀ (j:Nat) (d:Array α),j<d.size→d.size<1000000000→insertionSort.l1 cmp a a2 x0 d.toList j=some (Go.Sort.insInner lt a j d).toList:=by
 intro j
 induction j with
 | zero =>
  intro d h1 h2;rw[insertionSort.l1,if_neg (by simp),sb,if_neg (by simp)];rfl
 | succ j ih =>
  intro d h1 h2;have e1:IntKind.i64.wrap (((j+1:Nat):Int)-1)=(j:Int):=wN (by omega) (by omega);rw[insertionSort.l1,e1,Go.Sort.insInner];by_cases hj:j+1>a
  case neg=>rw[if_neg (by simp;omega),sb,if_neg (by simp),if_neg (by simp;omega)]
  rw[if_pos (by simp;omega),atA h1,sb,atA (by omega),sb];obtain⟨c,e,hlt⟩:=hc d[j+1]! d[j]!;rw[e,sb,hlt,sb];cases hl:lt d[j+1]! d[j]! with
  | false=>rw[if_neg (by simp),if_neg (by simp)]
  | true =>
   obtain⟨y,ey⟩:=atS (d:=d) (i:=j+1) (j:=j) (x:=d[j]!) (by omega);rw[if_pos rfl,sb,sb,ey,sb,setA,if_pos (by simp;omega)];exact ih (swp d (j+1) j) (by rw[Z18];omega) (by rw[Z18];exact h2)
theorem Z84 (lt:α→α→Bool) (a:Nat):∀ (j:Nat) (d:Array α),(Go.Sort.insInner lt a j d).size=d.size:=by
 intro j
 induction j with
 | zero=>intro d;rfl
 | succ j ih => intro d; rw [Go.Sort.insInner]; split
                ·rw[ih,Z18]
                ·rfl
theorem pq_ins_l0 (hc:Cmp cmp lt) (a b:Nat):∀ (k i:Nat) (d:Array α),b-i≤k→b≤d.size→d.size<1000000000→insertionSort.l0 cmp a b d.toList i=some (Go.Sort.insOuter lt a b i d).toList:=by
 intro k
 induction k with
 | zero=>intro i d h0 h1 h2;rw[insertionSort.l0,if_neg (by simp;omega),Go.Sort.insOuter,if_neg (by omega)]
 | succ k ih =>
  intro i d h0 h1 h2;rw[insertionSort.l0,Go.Sort.insOuter];by_cases h:i<b
  ·rw[if_pos (by simp;omega),if_pos h,pq_ins_l1 hc b i a i d (by omega) h2,sb,wN (k:=i+1) (by omega) (by omega)]
   exact ih (i+1) _ (by omega) (by rw[Z84];exact h1) (by rw[Z84];exact h2)
  ·rw[if_neg (by simp;omega),if_neg h]
theorem pq_ins (hc:Cmp cmp lt) (d:Array α) (a b:Nat) (hab:a≤b) (hb:b≤d.size) (hd:d.size<1000000000):insertionSort.f cmp d.toList a b=some (Go.Sort.insertionSort lt d a b).toList:=by
 unfold insertionSort.f;rw[wN (k:=a+1) (by omega) (by omega),pq_ins_l0 hc a b b (a+1) d (by omega) hb hd,sb];rfl
theorem pq_sift_l0 (hc:Cmp cmp lt) (hi first:Nat):∀ (k root:Nat) (d:Array α),hi-root≤k→first+hi≤d.size→d.size<1000000000→(root<hi∨hi≤1)→root≤d.size →
  ∃ r,siftDown.l0 cmp hi first d.toList root=some r∧(r = .inl (Go.Sort.siftDown lt hi first root d).toList∨r = .inr (Go.Sort.siftDown lt hi first root d).toList):=by
 intro k
 induction k with
 | zero =>
  intro root d h0 h1 h2 h3 h4;rw[siftDown.l0,wN (x:=2*(root:Int)) (k:=2*root) (by omega) (by omega),wN (x:=((2*root:Nat):Int)+1) (k:=2*root+1) (by omega) (by omega),if_pos (by simp;omega),Go.Sort.siftDown,dif_pos (by omega)];exact⟨_,rfl,.inr rfl⟩
 | succ k ih =>
  intro root d h0 h1 h2 h3 h4;rw[siftDown.l0,Go.Sort.siftDown,wN (x:=2*(root:Int)) (k:=2*root) (by omega) (by omega),wN (x:=((2*root:Nat):Int)+1) (k:=2*root+1) (by omega) (by omega)];by_cases hb:2*root+1≥hi
  ·rw[if_pos (by simp;omega),dif_pos hb];exact⟨_,rfl,.inr rfl⟩
  rw[if_neg (by simp;omega),dif_neg hb];rw[wN (x:=((2*root+1:Nat):Int)+1) (k:=2*root+2) (by omega) (by omega),wN (x:=(first:Int)+((2*root+1:Nat):Int)) (k:=first+(2*root+1)) (by omega) (by omega),wN (x:=((first+(2*root+1):Nat):Int)+1) (k:=first+(2*root+1)+1) (by omega) (by omega),wN (x:=(first:Int)+(root:Int)) (k:=first+root) (by omega) (by omega)];have fin:∀ ch:Nat,root<ch→ch<hi→∃ r,((at? d.toList ((first+root:Nat):Int))>>=fun b429=>(at? d.toList (IntKind.i64.wrap ((first:Int)+(ch:Int))))>>=fun b432=>(cmp b429 b432)>>=fun t435=>if(!(decide (t435<(0:Int))))=true then(some (.inl d.toList)) else((at? (d.toList.set (Int.toNat ((first+root:Nat):Int)) b432) (IntKind.i64.wrap ((first:Int)+(ch:Int))))>>=fun b441=>siftDown.l0 cmp hi first ((d.toList.set (Int.toNat ((first+root:Nat):Int)) b432).set (Int.toNat (IntKind.i64.wrap ((first:Int)+(ch:Int)))) b429) ch))=some r ∧
    (r = .inl (if !lt d[first+root]! d[first+ch]! then d else Go.Sort.siftDown lt hi first ch (swp d (first+root) (first+ch))).toList∨r = .inr (if !lt d[first+root]! d[first+ch]! then d else Go.Sort.siftDown lt hi first ch (swp d (first+root) (first+ch))).toList):=by
   intro ch g1 g2;rw[wN (x:=(first:Int)+(ch:Int)) (k:=first+ch) (by omega) (by omega),atA (by omega),sb,atA (by omega),sb];obtain⟨c,e,hlt⟩:=hc d[first+root]! d[first+ch]!;rw[e,sb,hlt];cases hl:lt d[first+root]! d[first+ch]! with
   | false=>rw[if_pos (show(!false)=true from rfl),if_pos (show(!false)=true from rfl)];exact⟨_,rfl,.inl rfl⟩
   | true =>
    obtain⟨y,ey⟩:=atS (d:=d) (i:=first+root) (j:=first+ch) (x:=d[first+ch]!) (by omega);rw[if_neg (show ¬ (!true)=true from by simp),if_neg (show ¬ (!true)=true from by simp),ey,sb,setA];exact ih ch (swp d (first+root) (first+ch)) (by omega) (by rw[Z18];exact h1) (by rw[Z18];exact h2) (.inl g2) (by rw[Z18];omega)
  by_cases h6:2*root+2<hi
  ·rw[if_pos (by simp;omega),atA (by omega),sb,atA (by omega),sb]
   obtain⟨c,e,hlt⟩:=hc d[first+(2*root+1)]! d[first+(2*root+1)+1]!;rw[e,sb,hlt,sb];cases hl:lt d[first+(2*root+1)]! d[first+(2*root+1)+1]! with
   | false =>
    rw[if_neg (by simp),sb,if_neg (by simp)];exact fin (2*root+1) (by omega) (by omega)
   | true =>
    rw[if_pos rfl,sb,if_pos (by simp;omega),dif_pos h6];exact fin (2*root+2) (by omega) (by omega)
  ·rw[if_neg (by simp;omega),sb,if_neg (by simp),sb,if_neg (by simp;omega)]
   exact fin (2*root+1) (by omega) (by omega)
end Go.Pv.GS
namespace Go.Pv.GS
open Go.Sort (swp)
variable {α:Type} [Inhabited α] {cmp:α→α→Option Int} {lt:α→α→Bool}
theorem Z7r (lt:α→α→Bool) (hi first:Nat):∀ (k root:Nat) (d:Array α),hi-root≤k→(Go.Sort.siftDown lt hi first root d).size=d.size:=by
 intro k
 induction k with
 | zero=>intro root d h;rw[Go.Sort.siftDown,dif_pos (by omega)]
 | succ k ih =>
  intro root d h;rw[Go.Sort.siftDown];split
  ·rfl
  ·split
   ·split
    ·rfl
    ·split
     ·rw[ih _ _ (by omega),Z18]
     ·rfl
   ·split
    ·rfl
    ·rw[ih _ _ (by omega),Z18]
theorem pq_sift (hc:Cmp cmp lt) (hi first root:Nat) (d:Array α) (h1:first+hi≤d.size) (h2:d.size<1000000000) (h3:root<hi∨hi≤1) (h4:root≤d.size):siftDown.f cmp d.toList root hi first=some (Go.Sort.siftDown lt hi first root d).toList:=by
 unfold siftDown.f;obtain⟨r,e,h⟩:=pq_sift_l0 hc hi first (hi-root) root d (Nat.le_refl _) h1 h2 h3 h4
 rw[e,sb];rcases h with rfl | rfl<;>rfl
theorem pq_heap_l0 (hc:Cmp cmp lt) (a b:Nat) (hab:a≤b):∀ (k:Nat) (d:Array α),b≤d.size→d.size<1000000000→(k≤b-a∨(k≤1∧b-a≤1)) →
  heapSort.l0 cmp a b d.toList ((k:Int)-1)=some (Go.Sort.heapBuild lt (b-a) a k d).toList∧(Go.Sort.heapBuild lt (b-a) a k d).size=d.size:=by
 intro k
 induction k with
 | zero=>intro d h1 h2 h3;rw[heapSort.l0,if_neg (by simp)];exact⟨rfl,rfl⟩
 | succ k ih =>
  intro d h1 h2 h3;have e0:((k+1:Nat):Int)-1=(k:Int):=by omega
  rw[e0,heapSort.l0,if_pos (by simp),wN (x:=(b:Int)-a) (k:=b-a) (by omega) (by omega),pq_sift hc (b-a) a k d (by omega) h2 (by omega) (by omega),sb,Z0b (by omega) (by omega),Go.Sort.heapBuild];have es:=Z7r lt (b-a) a (b-a-k) k d (Nat.le_refl _);obtain⟨i1,i2⟩:=ih (Go.Sort.siftDown lt (b-a) a k d) (by rw[es];exact h1) (by rw[es];exact h2) (by omega);exact⟨i1,i2.trans es⟩
theorem pq_heap_l1 (hc:Cmp cmp lt) (a n:Nat):∀ (k:Nat) (d:Array α),k≤n→a+n≤d.size→d.size<1000000000 →
  heapSort.l1 cmp a d.toList ((k:Int)-1)=some (Go.Sort.heapPop lt a k d).toList:=by
 intro k
 induction k with
 | zero=>intro d h0 h1 h2;rw[heapSort.l1,if_neg (by simp)];rfl
 | succ k ih =>
  intro d h0 h1 h2;have e0:((k+1:Nat):Int)-1=(k:Int):=by omega
  obtain⟨y,ey⟩:=atS (d:=d) (i:=a) (j:=a+k) (x:=d[a+k]!) (by omega);rw[e0,heapSort.l1,if_pos (by simp),wN (x:=(a:Int)+k) (k:=a+k) (by omega) (by omega),atA (by omega),sb,atA (by omega),sb,ey,sb,setA];have es:=Z7r lt k a k 0 (swp d a (a+k)) (by omega);rw[show siftDown.f cmp (swp d a (a+k)).toList 0 k a=_ from pq_sift hc k a 0 (swp d a (a+k)) (by rw[Z18];omega) (by rw[Z18];exact h2) (by omega) (by omega),sb,Z0b (by omega) (by omega),Go.Sort.heapPop];exact ih _ (by omega) (by rw[es,Z18];exact h1) (by rw[es,Z18];exact h2)
theorem pq_heap (hc:Cmp cmp lt) (d:Array α) (a b:Nat) (hab:a≤b) (hb:b≤d.size) (hd:d.size<1000000000):heapSort.f cmp d.toList a b=some (Go.Sort.heapSort lt d a b).toList:=by
 unfold heapSort.f Go.Sort.heapSort;rw[wN (x:=(b:Int)-a) (k:=b-a) (by omega) (by omega),Z0b (n:=((b-a:Nat):Int)-1) (by omega) (by omega)];have e:IntKind.i64.wrap (Int.tdiv (((b-a:Nat):Int)-1) 2)=(((b-a-1) / 2+1:Nat):Int)-1:=by
  by_cases h:b-a=0
  ·rw[h];rfl
  ·rw[Int.tdiv_eq_ediv_of_nonneg (by omega),Z0b (by omega) (by omega)];omega
 obtain⟨i1,i2⟩:=pq_heap_l0 hc a b hab ((b-a-1) / 2+1) d hb hd (by omega);rw[e,i1,sb,pq_heap_l1 hc a (b-a) (b-a) _ (Nat.le_refl _) (by rw[i2];omega) (by rw[i2];exact hd),sb]
theorem pq_rev_l0:∀ (k i j:Nat) (d:Array α),j-i≤k→j<d.size→d.size<1000000000→reverseRange.l0 d.toList (i:Int) (j:Int)=some (Go.Sort.reverseLoop i j d).toList:=by
 intro k
 induction k with
 | zero=>intro i j d h0 h1 h2;rw[reverseRange.l0,if_neg (by simp;omega),Go.Sort.reverseLoop,if_neg (by omega)]
 | succ k ih =>
  intro i j d h0 h1 h2;rw[reverseRange.l0,Go.Sort.reverseLoop];by_cases h:i<j
  ·obtain⟨y,ey⟩:=atS (d:=d) (i:=i) (j:=j) (x:=d[j]!) (by omega)
   rw[if_pos (by simp;omega),if_pos h,atA h1,sb,atA (by omega),sb,ey,sb,setA,wN (x:=(i:Int)+1) (k:=i+1) (by omega) (by omega),wN (x:=(j:Int)-1) (k:=j-1) (by omega) (by omega)];exact ih _ _ _ (by omega) (by rw[Z18];omega) (by rw[Z18];exact h2)
  ·rw[if_neg (by simp;omega),if_neg h]
theorem pq_rev (d:Array α) (a b:Nat) (hab:a<b) (hb:b≤d.size) (hd:d.size<1000000000):reverseRange.f d.toList a b=some (Go.Sort.reverseRange d a b).toList:=by
 unfold reverseRange.f Go.Sort.reverseRange;rw[wN (x:=(b:Int)-1) (k:=b-1) (by omega) (by omega),pq_rev_l0 (b-1) a (b-1) d (by omega) (by omega) hd,sb]
theorem pq_ord2 (hc:Cmp cmp lt) (d:Array α) (a b s:Nat) (ha:a<d.size) (hb:b<d.size) (hs:s<1000):order2.f cmp d.toList a b s=some (((Go.Sort.order2 lt d a b s).1:Int),((Go.Sort.order2 lt d a b s).2.1:Int),((Go.Sort.order2 lt d a b s).2.2:Int)):=by
 unfold order2.f Go.Sort.order2;obtain⟨c,e,hlt⟩:=hc d[b]! d[a]!;rw[atA hb,sb,atA ha,sb,e,sb,hlt,wN (x:=(s:Int)+1) (k:=s+1) (by omega) (by omega)];cases lt d[b]! d[a]!<;>rfl
theorem Z6h (d:Array α) (a b s:Nat):(Go.Sort.order2 lt d a b s).2.2≤s+1:=by unfold Go.Sort.order2;split<;>simp
theorem order2_lt {d:Array α} {a b s n:Nat} (ha:a<n) (hb:b<n):(Go.Sort.order2 lt d a b s).1<n∧(Go.Sort.order2 lt d a b s).2.1<n:=by unfold Go.Sort.order2;split<;>exact⟨by assumption,by assumption⟩
theorem pq_med (hc:Cmp cmp lt) (d:Array α) (a b c s:Nat) (ha:a<d.size) (hb:b<d.size) (hcc:c<d.size) (hs:s<900):median.f cmp d.toList a b c s=some (((Go.Sort.median lt d a b c s).1:Int),((Go.Sort.median lt d a b c s).2:Int)):=by
 unfold median.f Go.Sort.median;have s1:=Z6h (lt:=lt) d a b s;have l1:=order2_lt (lt:=lt) (d:=d) (s:=s) ha hb;rw[pq_ord2 hc d a b s ha hb (by omega),sb];have s2:=Z6h (lt:=lt) d (Go.Sort.order2 lt d a b s).2.1 c (Go.Sort.order2 lt d a b s).2.2;have l2:=order2_lt (lt:=lt) (d:=d) (s:=(Go.Sort.order2 lt d a b s).2.2) l1.2 hcc
 try dsimp only
 rw[pq_ord2 hc d _ c _ l1.2 hcc (by omega),sb]
 try dsimp only
 rw[pq_ord2 hc d _ _ _ l1.1 l2.1 (by omega),sb]
theorem Zaj (d:Array α) (a b c s:Nat):(Go.Sort.median lt d a b c s).2≤s+3:=by
 unfold Go.Sort.median;have s1:=Z6h (lt:=lt) d a b s;have s2:=Z6h (lt:=lt) d (Go.Sort.order2 lt d a b s).2.1 c (Go.Sort.order2 lt d a b s).2.2;have s3:=Z6h (lt:=lt) d (Go.Sort.order2 lt d a b s).1 (Go.Sort.order2 lt d (Go.Sort.order2 lt d a b s).2.1 c (Go.Sort.order2 lt d a b s).2.2).1 (Go.Sort.order2 lt d (Go.Sort.order2 lt d a b s).2.1 c (Go.Sort.order2 lt d a b s).2.2).2.2;simp only;omega
theorem pq_madj (hc:Cmp cmp lt) (d:Array α) (a s:Nat) (h1:1≤a) (ha:a+1<d.size) (hd:d.size<1000000000) (hs:s<900):medianAdjacent.f cmp d.toList a s=some (((Go.Sort.medianAdjacent lt d a s).1:Int),((Go.Sort.medianAdjacent lt d a s).2:Int)):=by
 unfold medianAdjacent.f Go.Sort.medianAdjacent;rw[wN (x:=(a:Int)-1) (k:=a-1) (by omega) (by omega),wN (x:=(a:Int)+1) (k:=a+1) (by omega) (by omega),pq_med hc d _ _ _ _ (by omega) (by omega) (by omega) hs,sb]
def hnt:Go.Sort.Hint→Int
 | .unknown=>0
 | .increasing=>1
 | .decreasing=>2
def cpr (r:Nat×Nat):Nat×Go.Sort.Hint:=(r.1,if r.2=0 then .increasing else if r.2=12 then .decreasing else .unknown)
theorem cpv (d:Array α) (a b:Nat):Go.Sort.choosePivot lt d a b=cpr (if b-a≥8 then if b-a≥50 then Go.Sort.median lt d (Go.Sort.medianAdjacent lt d (a+(b-a) / 4*1) 0).1 (Go.Sort.medianAdjacent lt d (a+(b-a) / 4*2) (Go.Sort.medianAdjacent lt d (a+(b-a) / 4*1) 0).2).1 (Go.Sort.medianAdjacent lt d (a+(b-a) / 4*3) (Go.Sort.medianAdjacent lt d (a+(b-a) / 4*2) (Go.Sort.medianAdjacent lt d (a+(b-a) / 4*1) 0).2).2).1 (Go.Sort.medianAdjacent lt d (a+(b-a) / 4*3) (Go.Sort.medianAdjacent lt d (a+(b-a) / 4*2) (Go.Sort.medianAdjacent lt d (a+(b-a) / 4*1) 0).2).2).2 else Go.Sort.median lt d (a+(b-a) / 4*1) (a+(b-a) / 4*2) (a+(b-a) / 4*3) 0 else(a+(b-a) / 4*2,0)):=rfl
theorem pq_piv (hc:Cmp cmp lt) (d:Array α) (a b:Nat) (hab:a<b) (hb:b≤d.size) (hd:d.size<1000000000):choosePivot.f cmp d.toList a b=some (((Go.Sort.choosePivot lt d a b).1:Int),hnt (Go.Sort.choosePivot lt d a b).2):=by
 rw[cpv];unfold choosePivot.f;obtain⟨l,el⟩:∃ l,l=b-a:=⟨_,rfl⟩
 have q:IntKind.i64.wrap (Int.tdiv ((l:Nat):Int) 4)=((l / 4:Nat):Int):=by
  rw[Int.tdiv_eq_ediv_of_nonneg (by omega)];exact wN (by omega) (by omega)
 rw[wN (x:=(b:Int)-a) (k:=l) (by omega) (by omega),q,← el];rw[wN (x:=((l / 4:Nat):Int)*1) (k:=l / 4*1) (by omega) (by omega),wN (x:=((l / 4:Nat):Int)*2) (k:=l / 4*2) (by omega) (by omega),wN (x:=((l / 4:Nat):Int)*3) (k:=l / 4*3) (by omega) (by omega)];rw[wN (x:=(a:Int)+((l / 4*1:Nat):Int)) (k:=a+l / 4*1) (by omega) (by omega),wN (x:=(a:Int)+((l / 4*2:Nat):Int)) (k:=a+l / 4*2) (by omega) (by omega),wN (x:=(a:Int)+((l / 4*3:Nat):Int)) (k:=a+l / 4*3) (by omega) (by omega)];have fin:∀ (p s:Nat),(if((s:Int)==(0:Int))=true then(some ((p:Int),(1:Int))) else(if((s:Int)==(12:Int))=true then(some ((p:Int),2)) else(some ((p:Int),0))))=some ((p:Int),hnt (if s=0 then .increasing else if s=12 then .decreasing else .unknown)):=by
  intro p s;by_cases h0:s=0
  ·subst h0;rfl
  ·rw[if_neg (by simp;omega),if_neg h0]
   by_cases h1:s=12
   ·subst h1;rfl
   ·rw[if_neg (by simp;omega),if_neg h1];rfl
 by_cases h8:l≥8
 ·rw[if_pos (by simp;omega),if_pos h8]
  by_cases h50:l≥50
  ·rw[if_pos (by simp;omega),if_pos h50]
   have m1:=Go.Sort.medianAdjacent_mem lt d (a+l / 4*1) 0;have w1:(Go.Sort.medianAdjacent lt d (a+l / 4*1) 0).2≤3:=Zaj d _ _ _ _;rw[show medianAdjacent.f cmp d.toList ((a+l / 4*1:Nat):Int) 0=_ from pq_madj hc d (a+l / 4*1) 0 (by omega) (by omega) hd (by omega),sb];generalize Go.Sort.medianAdjacent lt d (a+l / 4*1) 0=r1 at *;have m2:=Go.Sort.medianAdjacent_mem lt d (a+l / 4*2) r1.2;have w2:(Go.Sort.medianAdjacent lt d (a+l / 4*2) r1.2).2≤r1.2+3:=Zaj d _ _ _ _
   try dsimp only
   rw[pq_madj hc d (a+l / 4*2) r1.2 (by omega) (by omega) hd (by omega),sb];generalize Go.Sort.medianAdjacent lt d (a+l / 4*2) r1.2=r2 at *;have m3:=Go.Sort.medianAdjacent_mem lt d (a+l / 4*3) r2.2;have w3:(Go.Sort.medianAdjacent lt d (a+l / 4*3) r2.2).2≤r2.2+3:=Zaj d _ _ _ _
   try dsimp only
   rw[pq_madj hc d (a+l / 4*3) r2.2 (by omega) (by omega) hd (by omega),sb];generalize Go.Sort.medianAdjacent lt d (a+l / 4*3) r2.2=r3 at *
   try dsimp only
   rw[sb]
   try dsimp only
   rw[pq_med hc d r1.1 r2.1 r3.1 r3.2 (by omega) (by omega) (by omega) (by omega),sb,sb];exact fin _ _
  ·rw[if_neg (by simp;omega),if_neg h50,sb]
   try dsimp only
   rw[show median.f cmp d.toList ((a+l / 4*1:Nat):Int) ((a+l / 4*2:Nat):Int) ((a+l / 4*3:Nat):Int) 0=_ from pq_med hc d (a+l / 4*1) (a+l / 4*2) (a+l / 4*3) 0 (by omega) (by omega) (by omega) (by omega),sb,sb];exact fin _ _
 ·rw[if_neg (by simp;omega),if_neg h8,sb]
  exact fin (a+l / 4*2) 0
end Go.Pv.GS
namespace Go.Pv.GS
open Go.Sort (swp)
variable {α:Type} [Inhabited α] {cmp:α→α→Option Int} {lt:α→α→Bool}
theorem pq_pi_l1 (hc:Cmp cmp lt) (a1 x810:Int) (b:Nat) (d:Array α) (hb:b≤d.size) (hd:d.size<1000000000):∀ (k i:Nat),b-i≤k→1≤i→i≤d.size →
  partialInsertionSort.l1 cmp a1 b d.toList x810 i=some (Go.Sort.scanSorted lt d b i:Int):=by
 intro k
 induction k with
 | zero =>
  intro i h0 h1 h2;rw[partialInsertionSort.l1,if_neg (by simp;omega),sb,if_neg (by simp),Go.Sort.scanSorted,if_neg (by simp;omega)]
 | succ k ih =>
  intro i h0 h1 h2;rw[partialInsertionSort.l1,Go.Sort.scanSorted];by_cases h:i<b
  ·rw[if_pos (by simp;omega),atA (by omega),sb,wN (x:=(i:Int)-1) (k:=i-1) (by omega) (by omega),atA (by omega),sb]
   obtain⟨c,e,hlt⟩:=hc d[i]! d[i-1]!;rw[e,sb,hlt,sb];cases hl:lt d[i]! d[i-1]! with
   | true=>rw[if_neg (by simp),if_neg (by simp)]
   | false =>
    rw[if_pos (show(!false)=true from rfl),if_pos (by simp;omega),wN (x:=(i:Int)+1) (k:=i+1) (by omega) (by omega)];exact ih (i+1) (by omega) (by omega) (by omega)
  ·rw[if_neg (by simp;omega),sb,if_neg (by simp),if_neg (by simp;omega)]
theorem Z9h (lt:α→α→Bool) (d:Array α) (b:Nat):∀ (k i:Nat),b-i≤k→i≤Go.Sort.scanSorted lt d b i∧(i≤b→Go.Sort.scanSorted lt d b i≤b):=by
 intro k
 induction k with
 | zero=>intro i h;rw[Go.Sort.scanSorted,if_neg (by simp;omega)];exact⟨Nat.le_refl _,id⟩
 | succ k ih =>
  intro i h;rw[Go.Sort.scanSorted];split
  ·rename_i hh
   simp at hh;have:=ih (i+1) (by omega);exact⟨by omega,fun _=>this.2 (by omega)⟩
  ·exact⟨Nat.le_refl _,id⟩
theorem pq_pi_l2 (hc:Cmp cmp lt) (a1 a2 x810 x853:Int):∀ (j:Nat) (d:Array α),j<d.size→d.size<1000000000 →
  partialInsertionSort.l2 cmp a1 a2 x810 x853 d.toList j=some (Go.Sort.shiftDown lt j d).toList:=by
 intro j
 induction j with
 | zero=>intro d h1 h2;rw[partialInsertionSort.l2,if_neg (by simp)];rfl
 | succ j ih =>
  intro d h1 h2;have e1:IntKind.i64.wrap (((j+1:Nat):Int)-1)=(j:Int):=wN (by omega) (by omega);rw[partialInsertionSort.l2,e1,if_pos (by simp;omega),atA h1,sb,atA (by omega),sb,Go.Sort.shiftDown];obtain⟨c,e,hlt⟩:=hc d[j+1]! d[j]!;rw[e,sb,hlt];cases hl:lt d[j+1]! d[j]! with
  | false=>rw[if_pos (show(!false)=true from rfl),if_pos (show(!false)=true from rfl)]
  | true =>
   obtain⟨y,ey⟩:=atS (d:=d) (i:=j+1) (j:=j) (x:=d[j]!) (by omega);rw[if_neg (show ¬ (!true)=true by simp),if_neg (show ¬ (!true)=true by simp),ey,sb,setA];exact ih (swp d (j+1) j) (by rw[Z18];omega) (by rw[Z18];exact h2)
theorem Z79 (lt:α→α→Bool):∀ (j:Nat) (d:Array α),(Go.Sort.shiftDown lt j d).size=d.size
 | 0,d=>rfl
 | j+1,d=>by
  rw[Go.Sort.shiftDown];split
  ·rfl
  ·rw[Z79 lt j,Z18]
theorem pq_pi_l3 (hc:Cmp cmp lt) (a1 x810 x853:Int) (b:Nat):∀ (k j:Nat) (d:Array α),b-j≤k→1≤j→b≤d.size→d.size<1000000000 →
  partialInsertionSort.l3 cmp a1 b x810 x853 d.toList j=some (Go.Sort.shiftUp lt b j d).toList:=by
 intro k
 induction k with
 | zero=>intro j d h0 h1 h2 h3;rw[partialInsertionSort.l3,if_neg (by simp;omega),Go.Sort.shiftUp,if_neg (by omega)]
 | succ k ih =>
  intro j d h0 h1 h2 h3;rw[partialInsertionSort.l3,Go.Sort.shiftUp];by_cases h:j<b
  ·rw[if_pos (by simp;omega),if_pos h,atA (by omega),sb,wN (x:=(j:Int)-1) (k:=j-1) (by omega) (by omega),atA (by omega),sb]
   obtain⟨c,e,hlt⟩:=hc d[j]! d[j-1]!;rw[e,sb,hlt];cases hl:lt d[j]! d[j-1]! with
   | false=>rw[if_pos (show(!false)=true from rfl),if_pos (show(!false)=true from rfl)]
   | true =>
    obtain⟨y,ey⟩:=atS (d:=d) (i:=j) (j:=j-1) (x:=d[j-1]!) (by omega);rw[if_neg (show ¬ (!true)=true by simp),if_neg (show ¬ (!true)=true by simp),ey,sb,setA,wN (x:=(j:Int)+1) (k:=j+1) (by omega) (by omega)];exact ih (j+1) _ (by omega) (by omega) (by rw[Z18];exact h2) (by rw[Z18];exact h3)
  ·rw[if_neg (by simp;omega),if_neg h]
theorem shiftUp_size (lt:α→α→Bool) (b:Nat):∀ (k j:Nat) (d:Array α),b-j≤k→(Go.Sort.shiftUp lt b j d).size=d.size:=by
 intro k
 induction k with
 | zero=>intro j d h;rw[Go.Sort.shiftUp,if_neg (by omega)]
 | succ k ih =>
  intro j d h;rw[Go.Sort.shiftUp];split
  ·split
   ·rfl
   ·rw[ih _ _ (by omega),Z18]
  ·rfl
theorem pq_pi_l0 (hc:Cmp cmp lt) (a b:Nat) (hab:a<b):∀ (s i:Nat) (d:Array α) (m:Int),m+s=5→0≤m→a+1≤i→i≤b→b≤d.size→d.size<1000000000 →
  ∃ r,partialInsertionSort.l0 cmp a b d.toList i m=some r∧((r = .inl ((Go.Sort.partialIns lt a b s i d).2,(Go.Sort.partialIns lt a b s i d).1.toList))∨(r = .inr (Go.Sort.partialIns lt a b s i d).1.toList∧(Go.Sort.partialIns lt a b s i d).2=false)):=by
 intro s
 induction s with
 | zero=>intro i d m h0 h00 h1 h2 h3 h4;rw[partialInsertionSort.l0,if_neg (by simp;omega)];exact⟨_,rfl,.inr ⟨rfl,rfl⟩⟩
 | succ s ih =>
  intro i d m h0 h00 h1 h2 h3 h4;have sr:=Z9h lt d b (b-i) i (Nat.le_refl _);have sr2:=sr.2 h2;rw[partialInsertionSort.l0,if_pos (by simp;omega),pq_pi_l1 hc a m b d h3 h4 (b-i) i (Nat.le_refl _) (by omega) (by omega),sb,Go.Sort.partialIns_succ];generalize Go.Sort.scanSorted lt d b i=q at *;by_cases e1:q=b
  ·rw[if_pos (by simp[e1]),if_pos e1];exact⟨_,rfl,.inl rfl⟩
  rw[if_neg (by simp;omega),if_neg e1,wN (x:=(b:Int)-a) (k:=b-a) (by omega) (by omega)];by_cases e2:b-a<50
  ·rw[if_pos (by simp;omega),if_pos e2];exact⟨_,rfl,.inl rfl⟩
  rw[if_neg (by simp;omega),if_neg e2];obtain⟨y,ey⟩:=atS (d:=d) (i:=q) (j:=q-1) (x:=d[q-1]!) (by omega);rw[wN (x:=(q:Int)-1) (k:=q-1) (by omega) (by omega),atA (by omega),sb,atA (by omega),sb,ey,sb,setA];rw[wN (x:=(q:Int)-a) (k:=q-a) (by omega) (by omega),wN (x:=(b:Int)-q) (k:=b-q) (by omega) (by omega),wN (x:=(q:Int)+1) (k:=q+1) (by omega) (by omega),Z0b (n:=m+1) (by omega) (by omega)];have A:((if(decide (((q-a:Nat):Int)≥(2:Int)))=true then((partialInsertionSort.l2 cmp a b m q (swp d q (q-1)).toList ((q-1:Nat):Int))>>=fun x925=>some x925) else(some (swp d q (q-1)).toList)):Option (List α))=some (if q-a≥2 then Go.Sort.shiftDown lt (q-1) (swp d q (q-1)) else swp d q (q-1)).toList:=by
   by_cases c:q-a≥2
   ·rw[if_pos (by simp;omega),if_pos c,pq_pi_l2 hc _ _ _ _ (q-1) _ (by rw[Z18];omega) (by rw[Z18];exact h4),sb]
   ·rw[if_neg (by simp;omega),if_neg c]
  rw[A,sb];obtain⟨d2,e5⟩:∃ d2,d2=(if q-a≥2 then Go.Sort.shiftDown lt (q-1) (swp d q (q-1)) else swp d q (q-1)):=⟨_,rfl⟩
  have z2 : d2.size = d.size := by rw [e5]; split
                                   ·rw[Z79,Z18]
                                   ·rw[Z18]
  rw[← e5];have B:((if(decide (((b-q:Nat):Int)≥(2:Int)))=true then((partialInsertionSort.l3 cmp a b m q d2.toList ((q+1:Nat):Int))>>=fun x978=>some x978) else(some d2.toList)):Option (List α))=some (if b-q≥2 then Go.Sort.shiftUp lt b (q+1) d2 else d2).toList:=by
   by_cases c:b-q≥2
   ·rw[if_pos (by simp;omega),if_pos c,pq_pi_l3 hc _ _ _ b (b-(q+1)) (q+1) d2 (Nat.le_refl _) (by omega) (by omega) (by omega),sb]
   ·rw[if_neg (by simp;omega),if_neg c]
  rw[B,sb];obtain⟨d3,e6⟩:∃ d3,d3=(if b-q≥2 then Go.Sort.shiftUp lt b (q+1) d2 else d2):=⟨_,rfl⟩
  have z3 : d3.size = d.size := by rw [e6]; split
                                   ·rw[shiftUp_size lt b _ _ _ (Nat.le_refl _),z2]
                                   ·exact z2
  rw[← e6,show Go.Sort.fixUp lt b q (Go.Sort.fixDown lt a q (swp d q (q-1)))=d3 from by rw[e6,e5];rfl];exact ih q d3 (m+1) (by omega) (by omega) (by omega) (by omega) (by omega) (by omega)
theorem pq_pi (hc:Cmp cmp lt) (d:Array α) (a b:Nat) (hab:a<b) (hb:b≤d.size) (hd:d.size<1000000000):partialInsertionSort.f cmp d.toList a b=some ((Go.Sort.partialInsertionSort lt d a b).2,(Go.Sort.partialInsertionSort lt d a b).1.toList):=by
 unfold partialInsertionSort.f Go.Sort.partialInsertionSort;obtain⟨r,e,h⟩:=pq_pi_l0 hc a b hab 5 (a+1) d 0 (by decide) (by decide) (Nat.le_refl _) (by omega) hb hd;rw[wN (x:=(a:Int)+1) (k:=a+1) (by omega) (by omega),e,sb];rcases h with rfl | ⟨rfl,h⟩
 ·rfl
 ·rw[h]
end Go.Pv.GS
namespace Go.Pv.GS
open Go.Sort (swp)
variable {α:Type} [Inhabited α] {cmp:α→α→Option Int} {lt:α→α→Bool}
theorem scan_up (p:α→Bool) (d:Array α) (j:Nat) (F:Int→Option Int) (h1:∀ i:Nat,i≤j→F i=if p d[i]! = true then F ((i+1:Nat):Int) else some (i:Int)) (h2:∀ i:Nat,j<i→F i=some (i:Int)) :
  ∀ (k i:Nat),j+1-i≤k→F i=some (Go.Sort.scanUp p d j i:Int):=by
 intro k
 induction k with
 | zero=>intro i h;rw[h2 i (by omega),Go.Sort.scanUp,if_neg (by simp;omega)]
 | succ k ih =>
  intro i h;by_cases c:i≤j
  ·rw[h1 i c,Go.Sort.scanUp]
   cases q:p d[i]! with
   | true=>rw[if_pos rfl,if_pos (by simp[c])];exact ih (i+1) (by omega)
   | false=>rw[if_neg (by simp),if_neg (by simp)]
  ·rw[h2 i (by omega),Go.Sort.scanUp,if_neg (by simp;omega)]
theorem Za5 (p:α→Bool) (d:Array α) (i:Nat) (hi:1≤i) (F:Int→Option Int):∀ (j:Nat) (h1:∀ j':Nat,i≤j'→j'≤j→F j'=if p d[j']! = true then F ((j'-1:Nat):Int) else some (j':Int)) (h2:∀ j':Nat,j'<i→F j'=some (j':Int)),
  F j=some (Go.Sort.scanDown p d i j:Int):=by
 intro j
 induction j with
 | zero=>intro h1 h2;rw[h2 0 (by omega)];rfl
 | succ j ih =>
  intro h1 h2;rw[Go.Sort.scanDown];by_cases c:i≤j+1
  ·rw[h1 (j+1) c (Nat.le_refl _)]
   cases q:p d[j+1]! with
   | true=>rw[if_pos rfl,if_pos (by simp[c])];exact ih (fun j' a b=>h1 j' a (by omega)) h2
   | false=>rw[if_neg (by simp),if_neg (by simp)]
  ·rw[h2 (j+1) (by omega),if_neg (by simp;omega)]
theorem pq_pe_l1 (hc:Cmp cmp lt) (a j:Nat) (d:Array α) (ha:a<d.size) (hj:j<d.size) (hd:d.size<1000000000) (i:Nat) :
  partitionEqual.l1 cmp a d.toList j i=some (Go.Sort.scanUp (fun x => !lt d[a]! x) d j i:Int):=by
 refine scan_up (fun x => !lt d[a]! x) d j (partitionEqual.l1 cmp a d.toList j) (fun i h => ?_) (fun i h => ?_) (j+1-i) i (Nat.le_refl _)
 ·rw[partitionEqual.l1,if_pos (by simp;omega),atA ha,sb,atA (by omega),sb]
  obtain⟨c,e,hlt⟩:=hc d[a]! d[i]!;rw[e,sb,hlt,sb,wN (x:=(i:Int)+1) (k:=i+1) (by omega) (by omega)]
 ·rw[partitionEqual.l1,if_neg (by simp;omega),sb,if_neg (by simp)]
theorem pq_pe_l2 (hc:Cmp cmp lt) (a j:Nat) (d:Array α) (ha:a<d.size) (hj:j<d.size) (hd:d.size<1000000000) (i:Nat) (hi:1≤i) :
  partitionEqual.l2 cmp a d.toList i j=some (Go.Sort.scanDown (fun x=>lt d[a]! x) d i j:Int):=by
 refine Za5 (fun x=>lt d[a]! x) d i hi (partitionEqual.l2 cmp a d.toList i) j (fun j' h h' => ?_) (fun j' h => ?_)
 ·rw[partitionEqual.l2,if_pos (by simp;omega),atA ha,sb,atA (by omega),sb]
  obtain⟨c,e,hlt⟩:=hc d[a]! d[j']!;rw[e,sb,hlt,sb,wN (x:=(j':Int)-1) (k:=j'-1) (by omega) (by omega)]
 ·rw[partitionEqual.l2,if_neg (by simp;omega),sb,if_neg (by simp)]
theorem pq_pe_l0 (hc:Cmp cmp lt) (a:Nat):∀ (k i j:Nat) (d:Array α),j+1-i≤k→1≤i→a<d.size→j<d.size→d.size<1000000000 →
  partitionEqual.l0 cmp a d.toList i j=some (((Go.Sort.partEqLoop lt a i j d).1:Int),(Go.Sort.partEqLoop lt a i j d).2.toList):=by
 intro k
 induction k with
 | zero =>
  intro i j d h0 h1 ha hj hd;have su:=(Go.Sort.scanUp_spec (fun x => !lt d[a]! x) d j _ i rfl).1;have sd:=(Go.Sort.scanDown_spec (fun x=>lt d[a]! x) d (Go.Sort.scanUp (fun x => !lt d[a]! x) d j i) j).1;rw[partitionEqual.l0,pq_pe_l1 hc a j d ha hj hd,sb,pq_pe_l2 hc a j d ha hj hd _ (by omega),sb,Go.Sort.partEqLoop_eq];rw[if_pos (by simp;omega),if_pos (by omega)]
 | succ k ih =>
  intro i j d h0 h1 ha hj hd;have su:=(Go.Sort.scanUp_spec (fun x => !lt d[a]! x) d j _ i rfl).1;have sd:=(Go.Sort.scanDown_spec (fun x=>lt d[a]! x) d (Go.Sort.scanUp (fun x => !lt d[a]! x) d j i) j).1;rw[partitionEqual.l0,pq_pe_l1 hc a j d ha hj hd,sb,pq_pe_l2 hc a j d ha hj hd _ (by omega),sb,Go.Sort.partEqLoop_eq];generalize Go.Sort.scanUp (fun x => !lt d[a]! x) d j i=p at *;generalize Go.Sort.scanDown (fun x=>lt d[a]! x) d p j=q at *;by_cases c:p>q
  ·rw[if_pos (by simp;omega),if_pos c]
  ·obtain⟨y,ey⟩:=atS (d:=d) (i:=p) (j:=q) (x:=d[q]!) (by omega)
   rw[if_neg (by simp;omega),if_neg c,atA (by omega),sb,atA (by omega),sb,ey,sb,setA,wN (x:=(p:Int)+1) (k:=p+1) (by omega) (by omega),wN (x:=(q:Int)-1) (k:=q-1) (by omega) (by omega)];exact ih (p+1) (q-1) (swp d p q) (by omega) (by omega) (by rw[Z18];exact ha) (by rw[Z18];omega) (by rw[Z18];exact hd)
theorem pq_pe (hc:Cmp cmp lt) (d:Array α) (a b p:Nat) (ha:a≤p) (hp:p<b) (hb:b≤d.size) (hd:d.size<1000000000) :
  partitionEqual.f cmp d.toList a b p=some (((Go.Sort.partitionEqual lt d a b p).1:Int),(Go.Sort.partitionEqual lt d a b p).2.toList):=by
 unfold partitionEqual.f Go.Sort.partitionEqual;obtain⟨y,ey⟩:=atS (d:=d) (i:=a) (j:=p) (x:=d[p]!) (by omega);rw[atA (by omega),sb,atA (by omega),sb,ey,sb,setA,wN (x:=(a:Int)+1) (k:=a+1) (by omega) (by omega),wN (x:=(b:Int)-1) (k:=b-1) (by omega) (by omega)];rw[pq_pe_l0 hc a (b-1+1-(a+1)) (a+1) (b-1) (swp d a p) (Nat.le_refl _) (by omega) (by rw[Z18];omega) (by rw[Z18];omega) (by rw[Z18];exact hd),sb]
theorem pq_pt_l0 (hc:Cmp cmp lt) (a b p:Nat) (d0:Array α) (ha:a<d0.size) (hb:b≤d0.size) (hb0:1≤b) (hp:p<d0.size) (hd:d0.size<1000000000) (i:Nat) :
  partition.l0 cmp d0.toList a b p d0[p]! d0[a]! i=some (Go.Sort.scanUp (fun x=>lt x (swp d0 a p)[a]!) (swp d0 a p) (b-1) i:Int):=by
 have z:=Z18 d0 a p;refine scan_up (fun x=>lt x (swp d0 a p)[a]!) (swp d0 a p) (b-1) (partition.l0 cmp d0.toList a b p d0[p]! d0[a]!) (fun i h => ?_) (fun i h => ?_) (b-1+1-i) i (Nat.le_refl _)
 ·rw[partition.l0,setA,wN (x:=(b:Int)-1) (k:=b-1) (by omega) (by omega),if_pos (by simp;omega),atA (by omega),sb,atA (by omega),sb]
  obtain⟨c,e,hlt⟩:=hc (swp d0 a p)[i]! (swp d0 a p)[a]!;rw[e,sb,hlt,sb,wN (x:=(i:Int)+1) (k:=i+1) (by omega) (by omega)]
 ·rw[partition.l0,wN (x:=(b:Int)-1) (k:=b-1) (by omega) (by omega),if_neg (by simp;omega),sb,if_neg (by simp)]
theorem pq_pt_l1 (hc:Cmp cmp lt) (a p:Nat) (d0:Array α) (ha:a<d0.size) (hp:p<d0.size) (hd:d0.size<1000000000) (i:Nat) (hi:1≤i) (j:Nat) (hj:j<d0.size) :
  partition.l1 cmp d0.toList a p d0[p]! d0[a]! i j=some (Go.Sort.scanDown (fun x => !lt x (swp d0 a p)[a]!) (swp d0 a p) i j:Int):=by
 have z:=Z18 d0 a p;refine Za5 (fun x => !lt x (swp d0 a p)[a]!) (swp d0 a p) i hi (partition.l1 cmp d0.toList a p d0[p]! d0[a]! i) j (fun j' h h' => ?_) (fun j' h => ?_)
 ·rw[partition.l1,setA,if_pos (by simp;omega),atA (by omega),sb,atA (by omega),sb]
  obtain⟨c,e,hlt⟩:=hc (swp d0 a p)[j']! (swp d0 a p)[a]!;rw[e,sb,hlt,sb,wN (x:=(j':Int)-1) (k:=j'-1) (by omega) (by omega)]
 ·rw[partition.l1,if_neg (by simp;omega),sb,if_neg (by simp)]
theorem pq_pt_l3 (hc:Cmp cmp lt) (a j:Nat) (d:Array α) (ha:a<d.size) (hj:j<d.size) (hd:d.size<1000000000) (i:Nat) :
  partition.l3 cmp a d.toList j i=some (Go.Sort.scanUp (fun x=>lt x d[a]!) d j i:Int):=by
 refine scan_up (fun x=>lt x d[a]!) d j (partition.l3 cmp a d.toList j) (fun i h => ?_) (fun i h => ?_) (j+1-i) i (Nat.le_refl _)
 ·rw[partition.l3,if_pos (by simp;omega),atA (by omega),sb,atA ha,sb]
  obtain⟨c,e,hlt⟩:=hc d[i]! d[a]!;rw[e,sb,hlt,sb,wN (x:=(i:Int)+1) (k:=i+1) (by omega) (by omega)]
 ·rw[partition.l3,if_neg (by simp;omega),sb,if_neg (by simp)]
theorem pq_pt_l4 (hc:Cmp cmp lt) (a j:Nat) (d:Array α) (ha:a<d.size) (hj:j<d.size) (hd:d.size<1000000000) (i:Nat) (hi:1≤i) :
  partition.l4 cmp a d.toList i j=some (Go.Sort.scanDown (fun x => !lt x d[a]!) d i j:Int):=by
 refine Za5 (fun x => !lt x d[a]!) d i hi (partition.l4 cmp a d.toList i) j (fun j' h h' => ?_) (fun j' h => ?_)
 ·rw[partition.l4,if_pos (by simp;omega),atA (by omega),sb,atA ha,sb]
  obtain⟨c,e,hlt⟩:=hc d[j']! d[a]!;rw[e,sb,hlt,sb,wN (x:=(j':Int)-1) (k:=j'-1) (by omega) (by omega)]
 ·rw[partition.l4,if_neg (by simp;omega),sb,if_neg (by simp)]
theorem pq_pt_l2 (hc:Cmp cmp lt) (a:Nat):∀ (k i j:Nat) (d:Array α),j+1-i≤k→1≤i→a<d.size→j<d.size→d.size<1000000000 →
  partition.l2 cmp a d.toList i j=some ((Go.Sort.partLoop lt a i j d).2.toList,((Go.Sort.partLoop lt a i j d).1:Int))∧(Go.Sort.partLoop lt a i j d).1<d.size∧(Go.Sort.partLoop lt a i j d).2.size=d.size:=by
 intro k
 induction k with
 | zero =>
  intro i j d h0 h1 ha hj hd;have su:=(Go.Sort.scanUp_spec (fun x=>lt x d[a]!) d j _ i rfl).1;have sd:=(Go.Sort.scanDown_spec (fun x => !lt x d[a]!) d (Go.Sort.scanUp (fun x=>lt x d[a]!) d j i) j).1;rw[partition.l2,pq_pt_l3 hc a j d ha hj hd,sb,pq_pt_l4 hc a j d ha hj hd _ (by omega),sb,Go.Sort.partLoop_eq];rw[if_pos (by simp;omega),if_pos (by omega)];exact⟨rfl,by show _<_;omega,rfl⟩
 | succ k ih =>
  intro i j d h0 h1 ha hj hd;have su:=(Go.Sort.scanUp_spec (fun x=>lt x d[a]!) d j _ i rfl).1;have sd:=(Go.Sort.scanDown_spec (fun x => !lt x d[a]!) d (Go.Sort.scanUp (fun x=>lt x d[a]!) d j i) j).1;rw[partition.l2,pq_pt_l3 hc a j d ha hj hd,sb,pq_pt_l4 hc a j d ha hj hd _ (by omega),sb,Go.Sort.partLoop_eq];generalize Go.Sort.scanUp (fun x=>lt x d[a]!) d j i=p at *;generalize Go.Sort.scanDown (fun x => !lt x d[a]!) d p j=q at *;by_cases c:p>q
  ·rw[if_pos (by simp;omega),if_pos c]
   exact⟨rfl,by show q<d.size;omega,rfl⟩
  ·obtain⟨y,ey⟩:=atS (d:=d) (i:=p) (j:=q) (x:=d[q]!) (by omega)
   rw[if_neg (by simp;omega),if_neg c,atA (by omega),sb,atA (by omega),sb,ey,sb,setA,wN (x:=(p:Int)+1) (k:=p+1) (by omega) (by omega),wN (x:=(q:Int)-1) (k:=q-1) (by omega) (by omega)];have:=ih (p+1) (q-1) (swp d p q) (by omega) (by omega) (by rw[Z18];exact ha) (by rw[Z18];omega) (by rw[Z18];exact hd);rw[Z18] at this;exact this
theorem pq_pt (hc:Cmp cmp lt) (d:Array α) (a b p:Nat) (ha:a≤p) (hp:p<b) (hb:b≤d.size) (hd:d.size<1000000000) :
  partition.f cmp d.toList a b p=some (((Go.Sort.partition lt d a b p).1:Int),(Go.Sort.partition lt d a b p).2.1,(Go.Sort.partition lt d a b p).2.2.toList):=by
 have z:=Z18 d a p;have su:=(Go.Sort.scanUp_spec (fun x=>lt x (swp d a p)[a]!) (swp d a p) (b-1) _ (a+1) rfl).1;have sd:=(Go.Sort.scanDown_spec (fun x => !lt x (swp d a p)[a]!) (swp d a p) (Go.Sort.scanUp (fun x=>lt x (swp d a p)[a]!) (swp d a p) (b-1) (a+1)) (b-1)).1;unfold partition.f Go.Sort.partition;obtain⟨y,ey⟩:=atS (d:=d) (i:=a) (j:=p) (x:=d[p]!) (by omega);rw[atA (by omega),sb,atA (by omega),sb,ey,sb,wN (x:=(a:Int)+1) (k:=a+1) (by omega) (by omega),wN (x:=(b:Int)-1) (k:=b-1) (by omega) (by omega),pq_pt_l0 hc a b p d (by omega) hb (by omega) (by omega) hd,sb,pq_pt_l1 hc a p d (by omega) (by omega) hd _ (by omega) _ (by omega),sb,setA]
 try dsimp only
 generalize Go.Sort.scanUp (fun x=>lt x (swp d a p)[a]!) (swp d a p) (b-1) (a+1)=i at *;generalize Go.Sort.scanDown (fun x => !lt x (swp d a p)[a]!) (swp d a p) i (b-1)=j at *;generalize swp d a p=d1 at *;by_cases c:i>j
 ·obtain⟨y2,ey2⟩:=atS (d:=d1) (i:=j) (j:=a) (x:=d1[a]!) (by omega)
  rw[if_pos (by simp;omega),if_pos c,atA (by omega),sb,atA (by omega),sb,ey2,sb,setA]
 ·obtain⟨y2,ey2⟩:=atS (d:=d1) (i:=i) (j:=j) (x:=d1[j]!) (by omega)
  rw[if_neg (by simp;omega),if_neg c,atA (by omega),sb,atA (by omega),sb,ey2,sb,setA,wN (x:=(i:Int)+1) (k:=i+1) (by omega) (by omega),wN (x:=(j:Int)-1) (k:=j-1) (by omega) (by omega)];obtain⟨e,l1,l2⟩:=pq_pt_l2 hc a (j-1+1-(i+1)) (i+1) (j-1) (swp d1 i j) (Nat.le_refl _) (by omega) (by rw[Z18];omega) (by rw[Z18];omega) (by rw[Z18];omega);rw[Z18] at l1 l2;rw[e,sb];generalize Go.Sort.partLoop lt a (i+1) (j-1) (swp d1 i j)=r at *;obtain⟨y3,ey3⟩:=atS (d:=r.2) (i:=r.1) (j:=a) (x:=r.2[a]!) (by omega)
  try dsimp only
  rw[atA (by omega),sb,atA (by omega),sb,ey3,sb,setA]
end Go.Pv.GS
namespace Go.Pv.GS
open Go.Sort (swp)
theorem fdivP (a:Int) {b:Int} (h:0≤b):Int.fdiv a b=a / b:=Int.fdiv_eq_ediv_of_nonneg a h
def len8:ByteArray:=⟨#[0,1,2,2,3,3,3,3,4,4,4,4,4,4,4,4,5,5,5,5,5,5,5,5,5,5,5,5,5,5,5,5,6,6,6,6,6,6,6,6,6,6,6,6,6,6,6,6,6,6,6,6,6,6,6,6,6,6,6,6,6,6,6,6,7,7,7,7,7,7,7,7,7,7,7,7,7,7,7,7,7,7,7,7,7,7,7,7,7,7,7,7,7,7,7,7,7,7,7,7,7,7,7,7,7,7,7,7,7,7,7,7,7,7,7,7,7,7,7,7,7,7,7,7,7,7,7,7,8,8,8,8,8,8,8,8,8,8,8,8,8,8,8,8,8,8,8,8,8,8,8,8,8,8,8,8,8,8,8,8,8,8,8,8,8,8,8,8,8,8,8,8,8,8,8,8,8,8,8,8,8,8,8,8,8,8,8,8,8,8,8,8,8,8,8,8,8,8,8,8,8,8,8,8,8,8,8,8,8,8,8,8,8,8,8,8,8,8,8,8,8,8,8,8,8,8,8,8,8,8,8,8,8,8,8,8,8,8,8,8,8,8,8,8,8,8,8,8,8,8,8,8,8,8,8,8]⟩
def Len8 (v t:Int):Prop:=(v=0∧t=0)∨(v=1∧t=1)∨(2≤v∧v<4∧t=2)∨(4≤v∧v<8∧t=3)∨(8≤v∧v<16∧t=4)∨(16≤v∧v<32∧t=5)∨(32≤v∧v<64∧t=6)∨(64≤v∧v<128∧t=7)∨(128≤v∧v<256∧t=8)
set_option maxRecDepth 100000 in
theorem len8_size:(len8.size:Int)=256:=by rfl
set_option maxRecDepth 100000 in
theorem len8_nat:∀ k:Nat,k<256→Len8 k (bt len8 k):=by
 have h:∀ k:Fin 256,((k.val:Int)=0∧bt len8 k.val=0)∨((k.val:Int)=1∧bt len8 k.val=1)∨(2≤(k.val:Int)∧(k.val:Int)<4∧bt len8 k.val=2)∨(4≤(k.val:Int)∧(k.val:Int)<8∧bt len8 k.val=3)∨(8≤(k.val:Int)∧(k.val:Int)<16∧bt len8 k.val=4)∨(16≤(k.val:Int)∧(k.val:Int)<32∧bt len8 k.val=5)∨(32≤(k.val:Int)∧(k.val:Int)<64∧bt len8 k.val=6)∨(64≤(k.val:Int)∧(k.val:Int)<128∧bt len8 k.val=7)∨(128≤(k.val:Int)∧(k.val:Int)<256∧bt len8 k.val=8):=by decide +kernel
 exact fun k hk=>h ⟨k,hk⟩
theorem len8_tab {v:Int} (h0:0≤v) (h1:v<256):Len8 v (bt len8 v):=by
 have:=len8_nat v.toNat (by omega)
 rwa [Int.toNat_of_nonneg h0] at this
theorem u8_id {v:Int} (h0:0≤v) (h1:v<256):IntKind.u8.wrap v=v:=by
 simp only[IntKind.wrap,IntKind.signed,IntKind.bits];simp;omega
theorem len64_end {v n:Int} (h0:0≤v) (h1:v<256) (hn:0≤n∧n≤56):((chk (0≤(IntKind.u8.wrap (v))∧(IntKind.u8.wrap (v))<((len8.size:Nat):Int)))>>=fun _=>some (IntKind.i64.wrap (n+(IntKind.i64.wrap (bt len8 (IntKind.u8.wrap (v)))))))=some (n+bt len8 v)∧Len8 v (bt len8 v):=by
 have L:=len8_tab h0 h1;have hb:0≤bt len8 v∧bt len8 v≤8:=by unfold Len8 at L;omega
 rw[u8_id h0 h1,chkB ⟨h0,by rw[len8_size];exact h1⟩,Z0b (n:=bt len8 v) (by omega) (by omega),Z0b (by omega) (by omega)];exact⟨rfl,L⟩
theorem len_unique {n L:Nat} (h1:n<2 ^ L) (h2:L=0∨2 ^ (L-1)≤n):Go.Sort.bitsLen n=L:=by
 have u:=(Go.Sort.bitsLen_le_iff n L).2 h1;rcases h2 with rfl | h2
 ·omega
 ·by_cases c:Go.Sort.bitsLen n≤L-1
  ·have:=(Go.Sort.bitsLen_le_iff n (L-1)).1 c;omega
  ·omega
theorem pq_len64 {n:Nat} (hn:n<18446744073709551616):bitsLen64.f (n:Int)=some (Go.Sort.bitsLen n:Int):=by
 obtain⟨y,hy⟩:∃ y:Int,y=(n:Int):=⟨_,rfl⟩
 rw[← hy];have E:bitsLen64.f y=((if(decide (y≥(4294967296:Int)))=true then(some (Int.fdiv y 4294967296,32)) else(some (y,0))):Option (Int×Int))>>=fun oo=>match oo with | (x110,x111)=>(((if(decide (x110≥(65536:Int)))=true then(some (Int.fdiv x110 65536,IntKind.i64.wrap (x111+(16:Int)))) else(some (x110,x111))):Option (Int×Int))>>=fun oo=>match oo with | (x113,x114)=>(((if(decide (x113≥(256:Int)))=true then(some (Int.fdiv x113 256,IntKind.i64.wrap (x114+(8:Int)))) else(some (x113,x114))):Option (Int×Int))>>=fun oo=>match oo with | (x116,x117)=>((chk (0≤(IntKind.u8.wrap (x116))∧(IntKind.u8.wrap (x116))<(len8.size:Int)))>>=fun _=>some (IntKind.i64.wrap (x117+(IntKind.i64.wrap (bt len8 (IntKind.u8.wrap (x116))))))))):=rfl
 by_cases hz:n=0
 ·have y0:y=0:=by omega
  rw[y0] at E ⊢;obtain⟨e4,L⟩:=len64_end (v:=0) (n:=0) (by decide) (by decide) (by decide);rw[if_neg (by decide),sb] at E;simp only at E;rw[if_neg (by decide),sb] at E;simp only at E;rw[if_neg (by decide),sb] at E;simp only at E;rw[e4] at E;have hb:bt len8 0=0:=by unfold Len8 at L;omega
  rw[hb] at E;rw[E,hz];rfl
 have fin:∀ (q v t:Int),0<v→Len8 v t→(bitsLen64.f y=some (q+t))→(q=0∨q=8∨q=16∨q=24∨q=32∨q=40∨q=48∨q=56)→(∀ P:Int,P=2 ^ q.toNat→v*P≤y∧y<v*P+P)→bitsLen64.f y=some (Go.Sort.bitsLen n:Int):=by
  intro q v t hv hL he hq hP;have hP:=hP _ rfl;have ht:0≤t∧t≤8:=by unfold Len8 at hL;omega
  rw[he];congr 1;have:Go.Sort.bitsLen n=(q+t).toNat:=by
   refine len_unique ?_ (.inr ?_)
   ·unfold Len8 at hL
    rcases hq with rfl | rfl | rfl | rfl | rfl | rfl | rfl | rfl<;>rcases hL with ⟨rfl,rfl⟩ | ⟨rfl,rfl⟩ | ⟨a,b,rfl⟩ | ⟨a,b,rfl⟩ | ⟨a,b,rfl⟩ | ⟨a,b,rfl⟩ | ⟨a,b,rfl⟩ | ⟨a,b,rfl⟩ | ⟨a,b,rfl⟩<;>simp at hP ⊢<;>omega
   ·unfold Len8 at hL
    rcases hq with rfl | rfl | rfl | rfl | rfl | rfl | rfl | rfl<;>rcases hL with ⟨rfl,rfl⟩ | ⟨rfl,rfl⟩ | ⟨a,b,rfl⟩ | ⟨a,b,rfl⟩ | ⟨a,b,rfl⟩ | ⟨a,b,rfl⟩ | ⟨a,b,rfl⟩ | ⟨a,b,rfl⟩ | ⟨a,b,rfl⟩<;>simp at hP ⊢<;>omega
  omega
 have st1:∃ v q,((if(decide (y≥(4294967296:Int)))=true then(some (Int.fdiv y 4294967296,32)) else(some (y,0))):Option (Int×Int))=some (v,q)∧((q=32∧v=y / 4294967296)∨(q=0∧v=y))∧0<v∧v<4294967296:=by
  by_cases h:y≥4294967296
  ·exact⟨_,_,by rw[if_pos (by simpa using h),fdivP _ (by decide)],.inl ⟨rfl,rfl⟩,by omega,by omega⟩
  ·exact⟨_,_,by rw[if_neg (by simpa using h)],.inr ⟨rfl,rfl⟩,by omega,by omega⟩
 obtain⟨v1,n1,e1,c1,a1,b1⟩:=st1;have st2:∃ v q,((if(decide (v1≥(65536:Int)))=true then(some (Int.fdiv v1 65536,IntKind.i64.wrap (n1+(16:Int)))) else(some (v1,n1))):Option (Int×Int))=some (v,q)∧((q=n1+16∧v=v1 / 65536)∨(q=n1∧v=v1))∧0<v∧v<65536:=by
  by_cases h:v1≥65536
  ·exact⟨_,_,by rw[if_pos (by simpa using h),fdivP _ (by decide),Z0b (by omega) (by omega)],.inl ⟨rfl,rfl⟩,by omega,by omega⟩
  ·exact⟨_,_,by rw[if_neg (by simpa using h)],.inr ⟨rfl,rfl⟩,by omega,by omega⟩
 obtain⟨v2,n2,e2,c2,a2,b2⟩:=st2;have st3:∃ v q,((if(decide (v2≥(256:Int)))=true then(some (Int.fdiv v2 256,IntKind.i64.wrap (n2+(8:Int)))) else(some (v2,n2))):Option (Int×Int))=some (v,q)∧((q=n2+8∧v=v2 / 256)∨(q=n2∧v=v2))∧0<v∧v<256:=by
  by_cases h:v2≥256
  ·exact⟨_,_,by rw[if_pos (by simpa using h),fdivP _ (by decide),Z0b (by omega) (by omega)],.inl ⟨rfl,rfl⟩,by omega,by omega⟩
  ·exact⟨_,_,by rw[if_neg (by simpa using h)],.inr ⟨rfl,rfl⟩,by omega,by omega⟩
 obtain⟨v3,n3,e3,c3,a3,b3⟩:=st3;obtain⟨e4,L⟩:=len64_end (Int.le_of_lt a3) b3 (n:=n3) (by omega);rw[e1,sb] at E;simp only at E;rw[e2,sb] at E;simp only at E;rw[e3,sb] at E;simp only at E;rw[e4] at E;refine fin n3 v3 _ a3 L E (by omega) ?_;intro P hP;rcases c1 with ⟨rfl,rfl⟩ | ⟨rfl,rfl⟩<;>rcases c2 with ⟨rfl,rfl⟩ | ⟨rfl,rfl⟩<;>rcases c3 with ⟨rfl,rfl⟩ | ⟨rfl,rfl⟩<;>simp at hP<;>subst hP<;>omega
theorem pq_len {n:Nat} (hn:n<18446744073709551616):bitsLen.f (n:Int)=some (Go.Sort.bitsLen n:Int):=by
 unfold bitsLen.f;rw[pq_len64 hn,sb]
theorem pq_pow {n:Nat} (hn:n<1000000000):nextPow.f (n:Int)=some ((1 <<< Go.Sort.bitsLen n:Nat):Int):=by
 unfold nextPow.f;have hb:Go.Sort.bitsLen n≤30:=(Go.Sort.bitsLen_le_iff n 30).2 (by omega);rw[Z9z (n:=(n:Int)) (by omega) (by omega),pq_len (by omega),sb,chkB (by omega)];have e:min (Int.toNat (Go.Sort.bitsLen n:Int)) 64=Go.Sort.bitsLen n:=by omega
 have p:2 ^ Go.Sort.bitsLen n≤2 ^ 30:=Nat.pow_le_pow_right (by decide) hb;rw[e,Nat.shiftLeft_eq,Nat.one_mul,Int.one_mul];congr 1;have:((2:Int) ^ Go.Sort.bitsLen n)=((2 ^ Go.Sort.bitsLen n:Nat):Int):=by rw[Int.natCast_pow];rfl
 rw[this];generalize 2 ^ Go.Sort.bitsLen n=w at *;exact Z9z (by omega) (by omega)
end Go.Pv.GS
namespace Go.Pv.GS
open Go.Sort (swp)
variable {α:Type} [Inhabited α] {cmp:α→α→Option Int} {lt:α→α→Bool}
theorem u64_toNat (n:Nat) (h:n<18446744073709551616):IntKind.u64.wrap (n:Int)=(n:Int):=Z9z (by omega) (by omega)
theorem Z7x (r:UInt64):BitVec.ofInt 64 (r.toNat:Int)=r.toBitVec:=by
 apply BitVec.eq_of_toNat_eq;rw[BitVec.toNat_ofInt];have:=r.toNat_lt;show((r.toNat:Int) % ((2 ^ 64:Nat):Int)).toNat=r.toNat;omega
theorem xorU (a b:UInt64):IntKind.u64.wrap (((BitVec.toNat (BitVec.ofInt 64 (a.toNat:Int) ^^^ BitVec.ofInt 64 (b.toNat:Int)):Nat)):Int)=((a ^^^ b).toNat:Int):=by
 rw[Z7x,Z7x];exact u64_toNat _ (a ^^^ b).toNat_lt
theorem shlU (a:UInt64) (k:Nat) (hk:k<64) (m:Int) (hm:m=2 ^ k):IntKind.u64.wrap ((a.toNat:Int)*m)=((a <<< (UInt64.ofNat k)).toNat:Int):=by
 rw[wrapU_eq,UInt64.toNat_shiftLeft];have e:(UInt64.ofNat k).toNat % 64=k:=by rw[UInt64.toNat_ofNat'];omega
 rw[e,Nat.shiftLeft_eq,hm];have:((2:Int) ^ k)=((2 ^ k:Nat):Int):=by rw[Int.natCast_pow];rfl
 rw[this];generalize 2 ^ k=w;rw[← Int.natCast_mul];omega
theorem shrU (a:UInt64):Int.fdiv (a.toNat:Int) 128=((a >>> 7).toNat:Int):=by
 rw[fdivP _ (by decide),UInt64.toNat_shiftRight];have e:(7:UInt64).toNat % 64=7:=by decide
 rw[e,Nat.shiftRight_eq_div_pow];omega
theorem xorN (r:UInt64):IntKind.u64.wrap (((BitVec.toNat (BitVec.ofInt 64 (IntKind.u64.wrap (((BitVec.toNat (BitVec.ofInt 64 (IntKind.u64.wrap (((BitVec.toNat (BitVec.ofInt 64 (r.toNat:Int) ^^^ BitVec.ofInt 64 (IntKind.u64.wrap ((r.toNat:Int)*8192))):Nat)):Int)) ^^^ BitVec.ofInt 64 (Int.fdiv (IntKind.u64.wrap (((BitVec.toNat (BitVec.ofInt 64 (r.toNat:Int) ^^^ BitVec.ofInt 64 (IntKind.u64.wrap ((r.toNat:Int)*8192))):Nat)):Int)) 128)):Nat)):Int)) ^^^ BitVec.ofInt 64 (IntKind.u64.wrap ((IntKind.u64.wrap (((BitVec.toNat (BitVec.ofInt 64 (IntKind.u64.wrap (((BitVec.toNat (BitVec.ofInt 64 (r.toNat:Int) ^^^ BitVec.ofInt 64 (IntKind.u64.wrap ((r.toNat:Int)*8192))):Nat)):Int)) ^^^ BitVec.ofInt 64 (Int.fdiv (IntKind.u64.wrap (((BitVec.toNat (BitVec.ofInt 64 (r.toNat:Int) ^^^ BitVec.ofInt 64 (IntKind.u64.wrap ((r.toNat:Int)*8192))):Nat)):Int)) 128)):Nat)):Int))*131072))):Nat)):Int)=((Go.Sort.xorNext r).toNat:Int):=by
 rw[shlU r 13 (by decide) 8192 (by decide),xorU,shrU,xorU,shlU _ 17 (by decide) 131072 (by decide),xorU];rfl
theorem andN (r:UInt64) (m:Nat) (h1:1≤m) (hm:m<18446744073709551616):IntKind.u64.wrap (((BitVec.toNat (BitVec.ofInt 64 (r.toNat:Int) &&& BitVec.ofInt 64 (IntKind.u64.wrap ((m:Int)-(1:Int)))):Nat)):Int)=((r.toNat &&& (m-1):Nat):Int):=by
 rw[Z7x,Z9z (n:=(m:Int)-1) (by omega) (by omega),BitVec.toNat_and,BitVec.toNat_ofInt];have e:(((m:Int)-1) % ((2 ^ 64:Nat):Int)).toNat=m-1:=by omega
 rw[e];have:r.toBitVec.toNat &&& (m-1)≤m-1:=Nat.and_le_right;exact Z9z (by omega) (by omega)
theorem Z8r (a b len m:Nat) (hl:len=b-a) (h8:8≤len) (hm1:1≤m) (hm2:m≤2*len) (idx:Nat) (st:UInt64×Array α) (hb:b≤st.2.size) (hd:st.2.size<1000000000) (hi1:a≤idx) (hi2:idx<b) (hle:idx≤a+len / 4*2+1) :
  breakPatterns.l0 a b m st.2.toList (st.1.toNat:Int) idx=breakPatterns.l0 a b m (Go.Sort.breakStep a len m st idx).2.toList ((Go.Sort.breakStep a len m st idx).1.toNat:Int) ((idx+1:Nat):Int):=by
 have q:IntKind.i64.wrap (Int.tdiv ((len:Nat):Int) 4)=((len / 4:Nat):Int):=by
  rw[Int.tdiv_eq_ediv_of_nonneg (by omega)];exact wN (by omega) (by omega)
 conv=>lhs;rw[breakPatterns.l0]
 rw[xorN];have eL:IntKind.i64.wrap ((b:Int)-a)=(len:Int):=wN (by omega) (by omega);rw[eL,q,wN (x:=((len / 4:Nat):Int)*2) (k:=len / 4*2) (by omega) (by omega),wN (x:=(a:Int)+((len / 4*2:Nat):Int)) (k:=a+len / 4*2) (by omega) (by omega),wN (x:=((a+len / 4*2:Nat):Int)+1) (k:=a+len / 4*2+1) (by omega) (by omega)];rw[if_pos (by simp;omega),show xorNext.f (st.1.toNat:Int)=some () from rfl,sb,andN _ m hm1 (by omega)];unfold Go.Sort.breakStep;have hlt:(Go.Sort.xorNext st.1).toNat &&& (m-1)≤m-1:=Nat.and_le_right
 try dsimp only
 generalize Go.Sort.xorNext st.1=r at *;generalize r.toNat &&& (m-1)=o at *;have O:((if(decide ((IntKind.i64.wrap (o:Int))≥(len:Int)))=true then(some (IntKind.i64.wrap ((IntKind.i64.wrap (o:Int))-(len:Int)))) else(some (IntKind.i64.wrap (o:Int)))):Option Int)=some ((if o≥len then o-len else o:Nat):Int):=by
  rw[wN (x:=(o:Int)) (k:=o) rfl (by omega)];by_cases c:o≥len
  ·rw[if_pos (by simp;omega),if_pos c];congr 1;exact wN (by omega) (by omega)
  ·rw[if_neg (by simp;omega),if_neg c]
 rw[O,sb];have o2:(if o≥len then o-len else o)<len:=by split<;>omega
 generalize (if o≥len then o-len else o)=w at *;obtain⟨y,ey⟩:=atS (d:=st.2) (i:=idx) (j:=a+w) (x:=st.2[a+w]!) (by omega);rw[wN (x:=(a:Int)+(w:Int)) (k:=a+w) (by omega) (by omega),atA (by omega),sb,atA (by omega),sb,ey,sb,setA,wN (x:=(idx:Int)+1) (k:=idx+1) (by omega) (by omega)]
theorem Z3l (a len m:Nat) (st:UInt64×Array α) (idx:Nat):(Go.Sort.breakStep a len m st idx).2.size=st.2.size:=by
 unfold Go.Sort.breakStep;simp[Z18]
theorem pq_bp (d:Array α) (a b:Nat) (hab:a≤b) (hb:b≤d.size) (hd:d.size<1000000000):breakPatterns.f d.toList a b=some (Go.Sort.breakPatterns d a b).toList:=by
 unfold breakPatterns.f Go.Sort.breakPatterns;obtain⟨len,hl⟩:∃ len,len=b-a:=⟨_,rfl⟩
 rw[wN (x:=(b:Int)-a) (k:=len) (by omega) (by omega)]
 try dsimp only
 rw[← hl];by_cases h8:len≥8
 case neg=>rw[if_neg (by simp;omega),if_neg h8,sb]
 have q:IntKind.i64.wrap (Int.tdiv ((len:Nat):Int) 4)=((len / 4:Nat):Int):=by
  rw[Int.tdiv_eq_ediv_of_nonneg (by omega)];exact wN (by omega) (by omega)
 rw[if_pos (by simp;omega),if_pos h8,pq_pow (by omega),sb,q,wN (x:=((len / 4:Nat):Int)*2) (k:=len / 4*2) (by omega) (by omega),wN (x:=(a:Int)+((len / 4*2:Nat):Int)) (k:=a+len / 4*2) (by omega) (by omega),wN (x:=((a+len / 4*2:Nat):Int)-1) (k:=a+len / 4*2-1) (by omega) (by omega)];have m1:1≤1 <<< Go.Sort.bitsLen len:=by rw[Nat.shiftLeft_eq,Nat.one_mul];exact Nat.pow_pos (by decide)
 have m2:1 <<< Go.Sort.bitsLen len≤2*len:=by rw[Nat.shiftLeft_eq,Nat.one_mul];exact Go.Sort.two_pow_bitsLen_le (by omega)
 generalize 1 <<< Go.Sort.bitsLen len=m at *;have e0:IntKind.u64.wrap ((len:Nat):Int)=((UInt64.ofNat len).toNat:Int):=by
  rw[Z9z (by omega) (by omega),UInt64.toNat_ofNat'];omega
 rw[e0];have z0:d=((UInt64.ofNat len,d):UInt64×Array α).2:=rfl;have s1:=Z8r a b len m hl h8 m1 m2 (a+len / 4*2-1) (UInt64.ofNat len,d) hb hd (by omega) (by omega) (by omega);have e1:a+len / 4*2-1+1=a+len / 4*2:=by omega
 rw[show breakPatterns.l0 a b m d.toList ((UInt64.ofNat len).toNat:Int) ((a+len / 4*2-1:Nat):Int)=_ from s1];have s2:=Z8r a b len m hl h8 m1 m2 (a+len / 4*2-1+1) (Go.Sort.breakStep a len m (UInt64.ofNat len,d) (a+len / 4*2-1)) (by rw[Z3l];exact hb) (by rw[Z3l];exact hd) (by omega) (by omega) (by omega);rw[s2];have s3:=Z8r a b len m hl h8 m1 m2 (a+len / 4*2-1+1+1) (Go.Sort.breakStep a len m (Go.Sort.breakStep a len m (UInt64.ofNat len,d) (a+len / 4*2-1)) (a+len / 4*2-1+1)) (by rw[Z3l,Z3l];exact hb) (by rw[Z3l,Z3l];exact hd) (by omega) (by omega) (by omega);rw[s3,breakPatterns.l0,wN (x:=(b:Int)-a) (k:=len) (by omega) (by omega),q,wN (x:=((len / 4:Nat):Int)*2) (k:=len / 4*2) (by omega) (by omega),wN (x:=(a:Int)+((len / 4*2:Nat):Int)) (k:=a+len / 4*2) (by omega) (by omega),wN (x:=((a+len / 4*2:Nat):Int)+1) (k:=a+len / 4*2+1) (by omega) (by omega),if_neg (by simp;omega),sb,sb]
end Go.Pv.GS
namespace Go.Pv.GS
open Go.Sort (swp)
variable {α:Type} [Inhabited α] {cmp:α→α→Option Int} {lt:α→α→Bool}
theorem pdq_eq (d:Array α) (a b limit:Nat) (wb wp:Bool) (h12:¬ b-a≤12) (hl:¬ limit=0) (d1:Array α) (e1:d1=if wb=true then d else Go.Sort.breakPatterns d a b) (lim:Nat) (e2:lim=if wb=true then limit else limit-1) (c:Nat×Go.Sort.Hint) (e3:c=Go.Sort.choosePivot lt d1 a b) (d2:Array α) (e4:d2=if c.2 = .decreasing then Go.Sort.reverseRange d1 a b else d1) (pv:Nat) (e5:pv=if c.2 = .decreasing then(b-1)-(c.1-a) else c.1) (hint:Go.Sort.Hint) (e6:hint=if c.2 = .decreasing then .increasing else c.2) (pi:Array α×Bool) (e7:pi=if(wb&&wp&&decide (hint = .increasing))=true then Go.Sort.partialInsertionSort lt d2 a b else(d2,false)) :
  Go.Sort.pdq lt d a b limit wb wp=if pi.2=true then pi.1 else
   if(decide (a>0) && !lt pi.1[a-1]! pi.1[pv]!)=true then
    (if a<(Go.Sort.partitionEqual lt pi.1 a b pv).1∧(Go.Sort.partitionEqual lt pi.1 a b pv).1≤b then Go.Sort.pdq lt (Go.Sort.partitionEqual lt pi.1 a b pv).2 (Go.Sort.partitionEqual lt pi.1 a b pv).1 b lim wb wp else(Go.Sort.partitionEqual lt pi.1 a b pv).2)
   else
    (if a≤(Go.Sort.partition lt pi.1 a b pv).1∧(Go.Sort.partition lt pi.1 a b pv).1<b then
     (if(Go.Sort.partition lt pi.1 a b pv).1-a<b-(Go.Sort.partition lt pi.1 a b pv).1 then
      Go.Sort.pdq lt (Go.Sort.pdq lt (Go.Sort.partition lt pi.1 a b pv).2.2 a (Go.Sort.partition lt pi.1 a b pv).1 lim true true) ((Go.Sort.partition lt pi.1 a b pv).1+1) b lim (decide ((Go.Sort.partition lt pi.1 a b pv).1-a≥(b-a) / 8)) (Go.Sort.partition lt pi.1 a b pv).2.1
     else
      Go.Sort.pdq lt (Go.Sort.pdq lt (Go.Sort.partition lt pi.1 a b pv).2.2 ((Go.Sort.partition lt pi.1 a b pv).1+1) b lim true true) a (Go.Sort.partition lt pi.1 a b pv).1 lim (decide (b-(Go.Sort.partition lt pi.1 a b pv).1≥(b-a) / 8)) (Go.Sort.partition lt pi.1 a b pv).2.1)
    else(Go.Sort.partition lt pi.1 a b pv).2.2):=by
 have e1':d1=if(!wb)=true then Go.Sort.breakPatterns d a b else d:=by rw[e1];cases wb<;>rfl
 have e2':lim=if(!wb)=true then limit-1 else limit:=by rw[e2];cases wb<;>rfl
 clear e1 e2;subst e7;subst e6;subst e5;subst e4;subst e3;subst e1';subst e2';rw[Go.Sort.pdq,if_neg h12,if_neg hl];simp only[dite_eq_ite]
theorem pq_main (hc:Cmp cmp lt) (hS:Go.Sort.SWO lt):∀ (n K:Nat) (d:Array α) (a b limit:Nat) (wb wp:Bool),b-a≤n→a≤b→b≤d.size→d.size<1000000000→limit<1000000000→Go.Sort.Below lt a b d→Go.Sort.bitsLen (b-a)≤K →
  pdqsort.l0 cmp (pdqsort.fu cmp K) d.toList a b limit wb wp=some (Go.Sort.pdq lt d a b limit wb wp).toList:=by
 intro n
 induction n with
 | zero =>
  intro K d a b limit wb wp hn hab hb hd hlim hB hK;rw[pdqsort.l0,wN (x:=(b:Int)-a) (k:=b-a) (by omega) (by omega),if_pos (by simp;omega),pq_ins hc d a b hab hb hd,sb,sb,Go.Sort.pdq,if_pos (by omega)]
 | succ n ih =>
  intro K d a b limit wb wp hn hab hb hd hlim hB hK;by_cases h12:b-a≤12
  ·rw[pdqsort.l0,wN (x:=(b:Int)-a) (k:=b-a) (by omega) (by omega),if_pos (by simp;omega),pq_ins hc d a b hab hb hd,sb,sb,Go.Sort.pdq,if_pos h12]
  by_cases hl:limit=0
  ·rw[pdqsort.l0,wN (x:=(b:Int)-a) (k:=b-a) (by omega) (by omega),if_neg (by simp;omega),if_pos (by simp[hl]),pq_heap hc d a b hab hb hd,sb,sb,Go.Sort.pdq,if_neg h12,if_pos hl]
  obtain⟨d1,e1⟩:∃ x,x=if wb=true then d else Go.Sort.breakPatterns d a b:=⟨_,rfl⟩
  obtain⟨lim,e2⟩:∃ x,x=if wb=true then limit else limit-1:=⟨_,rfl⟩
  obtain⟨c,e3⟩:∃ x,x=Go.Sort.choosePivot lt d1 a b:=⟨_,rfl⟩
  obtain⟨d2,e4⟩:∃ x,x=if c.2 = .decreasing then Go.Sort.reverseRange d1 a b else d1:=⟨_,rfl⟩
  obtain⟨pv,e5⟩:∃ x,x=if c.2 = .decreasing then(b-1)-(c.1-a) else c.1:=⟨_,rfl⟩
  obtain⟨hint,e6⟩:∃ x,x=if c.2 = .decreasing then Go.Sort.Hint.increasing else c.2:=⟨_,rfl⟩
  obtain⟨pi,e7⟩:∃ x,x=if(wb&&wp&&decide (hint = .increasing))=true then Go.Sort.partialInsertionSort lt d2 a b else(d2,false):=⟨_,rfl⟩
  have s1:Go.Sort.PermIn a b d d1:=by
   rw[e1];split
   ·exact Go.Sort.permIn_refl d a b
   ·exact Go.Sort.breakPatterns_holds d a b hab hb
  have b1:b≤d1.size:=by rw[s1.1];exact hb
  have z1:d1.size<1000000000:=by rw[s1.1];exact hd
  have s2:Go.Sort.PermIn a b d1 d2:=by
   rw[e4];split
   ·exact Go.Sort.reverseRange_holds d1 a b hab b1
   ·exact Go.Sort.permIn_refl d1 a b
  have b2:b≤d2.size:=by rw[s2.1];exact b1
  have z2:d2.size<1000000000:=by rw[s2.1];exact z1
  have B2:Go.Sort.Below lt a b d2:=(hB.perm hb s1).perm b1 s2;have s3:Go.Sort.PermIn a b d2 pi.1:=by
   rw[e7];split
   ·exact(Go.Sort.partialInsertionSort_holds hS d2 a b (by omega) b2 B2).1
   ·exact Go.Sort.permIn_refl d2 a b
  have b3:b≤pi.1.size:=by rw[s3.1];exact b2
  have z3:pi.1.size<1000000000:=by rw[s3.1];exact z2
  have B3:Go.Sort.Below lt a b pi.1:=B2.perm b2 s3;have hc0:=Go.Sort.choosePivot_holds lt d1 a b (by omega);rw[← e3] at hc0;have hpv:a≤pv∧pv<b:=by rw[e5];split<;>omega
  have hlim2:lim<1000000000:=by rw[e2];split<;>omega
  have T1:((if(!wb)=true then((breakPatterns.f d.toList a b)>>=fun t1858=>some (t1858,IntKind.i64.wrap ((limit:Int)-(1:Int)))) else(some (d.toList,(limit:Int)))):Option ((List α)×Int))=some (d1.toList,(lim:Int)):=by
   cases wb with
   | true=>rw[if_neg (show ¬ (!true)=true by simp),e1,e2];rfl
   | false=>rw[if_pos (show(!false)=true from rfl),pq_bp d a b hab hb hd,sb,e1,e2,wN (x:=(limit:Int)-1) (k:=limit-1) (by omega) (by omega)];rfl
  have T2:((if(hnt c.2==(2:Int))=true then((reverseRange.f d1.toList a b)>>=fun t1869=>some (t1869,IntKind.i64.wrap ((IntKind.i64.wrap ((b:Int)-(1:Int)))-(IntKind.i64.wrap ((c.1:Int)-a))),(1:Int))) else(some (d1.toList,(c.1:Int),hnt c.2))):Option ((List α)×Int×Int))=some (d2.toList,(pv:Int),hnt hint):=by
   by_cases h:c.2 = .decreasing
   ·rw[if_pos (by rw[h];rfl),pq_rev d1 a b (by omega) b1 z1,sb,e4,e5,e6,if_pos h,if_pos h,if_pos h,wN (x:=(b:Int)-1) (k:=b-1) (by omega) (by omega),wN (x:=(c.1:Int)-a) (k:=c.1-a) (by omega) (by omega),wN (x:=((b-1:Nat):Int)-((c.1-a:Nat):Int)) (k:=(b-1)-(c.1-a)) (by omega) (by omega)]
    rfl
   ·rw[if_neg (by cases hh:c.2<;>simp_all [hnt]),e4,e5,e6,if_neg h,if_neg h,if_neg h]
  have T3:((if wb=true then(if wp=true then(some (hnt hint==(1:Int))) else(some false)) else(some false)):Option (Bool))=some (wb&&wp&&decide (hint = .increasing)):=by
   cases wb<;>cases wp<;>cases hint<;>rfl
  have T4:((if(wb&&wp&&decide (hint = .increasing))=true then((partialInsertionSort.f cmp d2.toList a b)>>=fun t1882=>if t1882.1=true then(some (.inl t1882.2)) else(some (.inr t1882.2))) else(some (.inr d2.toList))):Option ((List α) ⊕ (List α)))=some (if pi.2=true then .inl pi.1.toList else .inr pi.1.toList):=by
   by_cases h:(wb&&wp&&decide (hint = .increasing))=true
   ·rw[if_pos h,pq_pi hc d2 a b (by omega) b2 z2,sb]
    rw[if_pos h] at e7;rw[e7];cases (Go.Sort.partialInsertionSort lt d2 a b).2<;>rfl
   ·rw[if_neg h]
    rw[if_neg h] at e7;rw[e7];rfl
  rw[pdqsort.l0,wN (x:=(b:Int)-a) (k:=b-a) (by omega) (by omega),if_neg (by simp;omega),if_neg (by simp;omega),T1,sb]
  try dsimp only
  rw[pq_piv hc d1 a b (by omega) b1 z1,sb,← e3]
  try dsimp only
  rw[T2,sb]
  try dsimp only
  rw[T3,sb,T4,sb];rw[pdq_eq d a b limit wb wp h12 hl d1 e1 lim e2 c e3 d2 e4 pv e5 hint e6 pi e7];clear T1 T2 T3 T4 e1 e2 e3 e4 e5 e6 e7;cases hp2:pi.2 with
  | true=>rw[if_pos rfl,if_pos rfl];rfl
  | false =>
   rw[if_neg (by simp),if_neg (by simp)]
   try dsimp only
   have T5:((if(decide ((a:Int)>(0:Int)))=true then((at? pi.1.toList (IntKind.i64.wrap ((a:Int)-(1:Int))))>>=fun b1896=>(at? pi.1.toList (pv:Int))>>=fun b1899=>(cmp b1896 b1899)>>=fun t1902=>some (!(decide (t1902<(0:Int))))) else(some false)):Option (Bool))=some (decide (a>0) && !lt pi.1[a-1]! pi.1[pv]!):=by
    by_cases h:a>0
    ·obtain⟨x,e,hlt⟩:=hc pi.1[a-1]! pi.1[pv]!
     rw[if_pos (by simp;omega),wN (x:=(a:Int)-1) (k:=a-1) (by omega) (by omega),atA (by omega),sb,atA (by omega),sb,e,sb,hlt];simp[h]
    ·rw[if_neg (by simp;omega)];simp[h]
   rw[T5,sb];by_cases hcond:(decide (a>0) && !lt pi.1[a-1]! pi.1[pv]!)=true
   ·rw[if_pos hcond,if_pos hcond,pq_pe hc pi.1 a b pv hpv.1 hpv.2 b3 z3,sb,sb]
    simp only[Bool.and_eq_true,decide_eq_true_eq,Bool.not_eq_true'] at hcond;obtain⟨m1,m2,s4,B4,_⟩:=Go.Sort.round_eq (mid:=(Go.Sort.partitionEqual lt pi.1 a b pv).1) (d4:=(Go.Sort.partitionEqual lt pi.1 a b pv).2) hS (Go.Sort.partitionEqual_holds lt) hcond.1 hpv.1 hpv.2 b3 B3 hcond.2 rfl;generalize Go.Sort.partitionEqual lt pi.1 a b pv=r at *;obtain⟨mid,d4⟩:=r;simp only at m1 m2 s4 B4 ⊢;rw[if_pos (show a<mid∧mid≤b from⟨m1,m2⟩)];exact ih K d4 mid b lim wb wp (by omega) m2 (by rw[s4];exact b3) (by rw[s4];exact z3) hlim2 B4 (Nat.le_trans (Go.Sort.bitsLen_mono (by omega)) hK)
   ·rw[if_neg hcond,if_neg hcond,pq_pt hc pi.1 a b pv hpv.1 hpv.2 b3 z3,sb]
    obtain⟨m1,m2,s4,Ba,Br,hL,hR⟩:=Go.Sort.round_part (mid:=(Go.Sort.partition lt pi.1 a b pv).1) (ap:=(Go.Sort.partition lt pi.1 a b pv).2.1) (d4:=(Go.Sort.partition lt pi.1 a b pv).2.2) hS (Go.Sort.partition_holds lt) hpv.1 hpv.2 b3 B3 rfl;generalize Go.Sort.partition lt pi.1 a b pv=r at *;obtain⟨mid,ap,d4⟩:=r;simp only at m1 m2 s4 Ba Br hL hR ⊢;rw[if_pos (show a≤mid∧mid<b from⟨m1,m2⟩)];have q8:IntKind.i64.wrap (Int.tdiv ((b-a:Nat):Int) 8)=(((b-a) / 8:Nat):Int):=by
     rw[Int.tdiv_eq_ediv_of_nonneg (by omega)];exact wN (by omega) (by omega)
    rw[wN (x:=(mid:Int)-a) (k:=mid-a) (by omega) (by omega),wN (x:=(b:Int)-mid) (k:=b-mid) (by omega) (by omega),wN (x:=(mid:Int)+1) (k:=mid+1) (by omega) (by omega),q8];have b4:b≤d4.size:=by rw[s4];exact b3
    have z4:d4.size<1000000000:=by rw[s4];exact z3
    by_cases hlt:mid-a<b-mid
    ·have hk:=Go.Sort.bitsLen_half (x:=mid-a) (y:=b-a) (by omega) (by omega)
     obtain⟨K',rfl⟩:∃ K',K=K'+1:=⟨K-1,by omega⟩
     have L:=ih K' d4 a mid lim true true (by omega) m1 (by omega) z4 hlim2 Ba (by omega);have P:=Go.Sort.pdq_sorts lt hS d4 a mid lim true true m1 (by omega) Ba;obtain⟨BL,_⟩:=hL _ P.1 P.2;rw[if_pos (by simp;omega),if_pos hlt];have call:pdqsort.fu cmp (K'+1) d4.toList a mid lim=some (Go.Sort.pdq lt d4 a mid lim true true).toList:=by
      show(pdqsort.l0 cmp (pdqsort.fu cmp K') d4.toList a mid lim true true>>=fun rr=>some rr)=_;rw[L,sb]
     rw[call,sb,sb]
     try dsimp only
     rw[sb];have hdec:decide (((mid-a:Nat):Int)≥(((b-a) / 8:Nat):Int))=decide (mid-a≥(b-a) / 8):=by rw[decide_eq_decide];omega
     rw[hdec];exact ih (K'+1) _ (mid+1) b lim _ ap (by omega) (by omega) (by rw[P.1.1];exact b4) (by rw[P.1.1];exact z4) hlim2 BL (Nat.le_trans (Go.Sort.bitsLen_mono (by omega)) hK)
    ·have hk:=Go.Sort.bitsLen_half (x:=b-(mid+1)) (y:=b-a) (by omega) (by omega)
     obtain⟨K',rfl⟩:∃ K',K=K'+1:=⟨K-1,by omega⟩
     have L:=ih K' d4 (mid+1) b lim true true (by omega) (by omega) b4 z4 hlim2 Br (by omega);have P:=Go.Sort.pdq_sorts lt hS d4 (mid+1) b lim true true (by omega) b4 Br;obtain⟨BL,_⟩:=hR _ P.1 P.2;rw[if_neg (by simp;omega),if_neg hlt];have call:pdqsort.fu cmp (K'+1) d4.toList ((mid+1:Nat):Int) b lim=some (Go.Sort.pdq lt d4 (mid+1) b lim true true).toList:=by
      show(pdqsort.l0 cmp (pdqsort.fu cmp K') d4.toList ((mid+1:Nat):Int) b lim true true>>=fun rr=>some rr)=_;rw[L,sb]
     rw[call,sb,sb]
     try dsimp only
     rw[sb];have hdec:decide (((b-mid:Nat):Int)≥(((b-a) / 8:Nat):Int))=decide (b-mid≥(b-a) / 8):=by rw[decide_eq_decide];omega
     rw[hdec];exact ih (K'+1) _ a mid lim _ ap (by omega) m1 (by rw[P.1.1];omega) (by rw[P.1.1];exact z4) hlim2 BL (Nat.le_trans (Go.Sort.bitsLen_mono (by omega)) hK)
end Go.Pv.GS
namespace Go.Pv.GS
variable {α:Type} [Inhabited α] {cmp:α→α→Option Int} {lt:α→α→Bool}
theorem swo_kit (h:SWO lt):Go.Sort.SWO lt where
 irrefl x:=by
  cases e:lt x x with
  | false=>rfl
  | true=>have q:=h.asymm x x e;rw[e] at q;exact absurd q (by simp)
 trans x y z h1 h2:=by
  cases e:lt x z with
  | true=>rfl
  | false=>have q:=h.trans y z x (h.asymm _ _ h2) e;rw[h1] at q;exact absurd q (by simp)
 ntrans x y z h1 h2:=h.trans z y x h2 h1
theorem pq_sort (hc:Cmp cmp lt) (h:SWO lt) (d:Array α) (hd:d.size<1000000000):SortF.f cmp d.toList=some (Go.Sort.sort lt d).toList:=by
 unfold SortF.f;have e:((d.toList.length:Nat):Int)=(d.size:Int):=by simp
 have hb:Go.Sort.bitsLen d.size≤30:=(Go.Sort.bitsLen_le_iff _ 30).2 (by omega);rw[e,Z9z (n:=(d.size:Int)) (by omega) (by omega),pq_len (by omega),sb];have m:=pq_main hc (swo_kit h) d.size 99 d 0 d.size (Go.Sort.bitsLen d.size) true true (by omega) (by omega) (Nat.le_refl _) hd (by omega) (.inl rfl) (by rw[Nat.sub_zero];omega);have c:pdqsort.f cmp d.toList 0 d.size (Go.Sort.bitsLen d.size)=some (Go.Sort.sort lt d).toList:=by
  show(pdqsort.l0 cmp (pdqsort.fu cmp 99) d.toList ((0:Nat):Int) d.size (Go.Sort.bitsLen d.size) true true>>=fun rr=>some rr)=_;rw[m,sb];rfl
 rw[c,sb]
theorem sortF (hc:Cmp cmp lt) (h:SWO lt) (l:List α) (hl:l.length<1000000000):∃ r,SortF.f cmp l=some r∧r.Perm l∧r.Pairwise (fun a b=>lt b a=false):=by
 have e:=pq_sort hc h l.toArray (by simpa using hl);obtain⟨p,s⟩:=Go.Sort.sort_sorts lt (swo_kit h) l.toArray;refine⟨_,e,?_,?_⟩
 ·have:=p.2.2
  rw[show(Go.Sort.sort lt l.toArray).extract 0 l.toArray.size=Go.Sort.sort lt l.toArray from by rw[← p.1];simp] at this;simpa using this
 ·rw[List.pairwise_iff_getElem]
  intro i j hi hj hij;have hj':j<l.toArray.size:=by rw[← p.1];simpa using hj
  have:=s i j (by omega) hij hj';have hi':i<(Go.Sort.sort lt l.toArray).size:=by simpa using hi
  have hj2:j<(Go.Sort.sort lt l.toArray).size:=by simpa using hj
  rw[getElem!_pos _ i hi',getElem!_pos _ j hj2] at this;simpa using this
end Go.Pv.GS
