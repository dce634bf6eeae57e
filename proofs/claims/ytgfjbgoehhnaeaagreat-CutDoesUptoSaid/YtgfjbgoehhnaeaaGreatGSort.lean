/- The models of pdqsort, over any comparison; written by a program out of the models of one instance. -/
import Derived.Test.YtgfjbgoehhnaeaaGreatSortBase
import Derived.Test.YtgfjbgoehhnaeaaGreatVHC4
set_option linter.unusedVariables false
set_option linter.unusedSimpArgs false
set_option linter.unusedSectionVars false
namespace Go.SM
open Go Go.VI
abbrev Br (α:Type):Type 1:=∀ (β:Type),α→α→(Bool→Option β)→Option β
def brC {α:Type} (cmp:α→α→Option Int):Br α:=fun _ x y k=>(cmp x y).bind fun r=>k (decide (r<0))
noncomputable def uJ:(Int×Int)→Option (Int):=fun j3 =>
  (Qd (ByteArray.mk #[0,1,2,2,3,3,3,3,4,4,4,4,4,4,4,4,5,5,5,5,5,5,5,5,5,5,5,5,5,5,5,5,6,6,6,6,6,6,6,6,6,6,6,6,6,6,6,6,6,6,6,6,6,6,6,6,6,6,6,6,6,6,6,6,7,7,7,7,7,7,7,7,7,7,7,7,7,7,7,7,7,7,7,7,7,7,7,7,7,7,7,7,7,7,7,7,7,7,7,7,7,7,7,7,7,7,7,7,7,7,7,7,7,7,7,7,7,7,7,7,7,7,7,7,7,7,7,7,8,8,8,8,8,8,8,8,8,8,8,8,8,8,8,8,8,8,8,8,8,8,8,8,8,8,8,8,8,8,8,8,8,8,8,8,8,8,8,8,8,8,8,8,8,8,8,8,8,8,8,8,8,8,8,8,8,8,8,8,8,8,8,8,8,8,8,8,8,8,8,8,8,8,8,8,8,8,8,8,8,8,8,8,8,8,8,8,8,8,8,8,8,8,8,8,8,8,8,8,8,8,8,8,8,8,8,8,8,8,8,8,8,8,8,8,8,8,8,8,8,8,8,8,8,8,8,8]) (IntKind.wrap .u8 j3.1)).bind fun x5=>some (aL j3.2 (IntKind.wrap .i64 x5))
noncomputable def xH:(Int×Int)→Option (Int):=fun j2 =>
  if (decide (j2.1 ≥ 256)) then (uJ ((Int.fdiv j2.1 (2^(min (Int.toNat 8) 64))),(aL j2.2 8))) else (uJ (j2.1,j2.2))
noncomputable def Bg:(Int×Int)→Option (Int):=fun j1 =>
  if (decide (j1.1 ≥ 65536)) then (xH ((Int.fdiv j1.1 (2^(min (Int.toNat 16) 64))),(aL j1.2 16))) else (xH (j1.1,j1.2))
noncomputable def Rl (x0:Int):Option (Int):=
  if (decide (x0 ≥ 4294967296)) then (Bg ((Int.fdiv x0 (2^(min (Int.toNat 32) 64))),32)) else (Bg (x0,0))
noncomputable def Il (x0:Int):Option (Int):=
  (Rl x0).bind fun r2=>some r2
noncomputable def zY (length:Int):Option (Int):=
  (Il (IntKind.wrap .u64 length)).bind fun r2=>if (decide (0≤r2)) then (some (IntKind.wrap .u64 (1*2^(min (Int.toNat r2) 64)))) else none
noncomputable def Kw (h0_0:Int):Option (Int):=
  some (jT .u64 (jT .u64 (jT .u64 h0_0 (IntKind.wrap .u64 (h0_0*2^(min (Int.toNat 13) 64)))) (Int.fdiv (jT .u64 h0_0 (IntKind.wrap .u64 (h0_0*2^(min (Int.toNat 13) 64)))) (2^(min (Int.toNat 7) 64)))) (IntKind.wrap .u64 ((jT .u64 (jT .u64 h0_0 (IntKind.wrap .u64 (h0_0*2^(min (Int.toNat 13) 64)))) (Int.fdiv (jT .u64 h0_0 (IntKind.wrap .u64 (h0_0*2^(min (Int.toNat 13) 64)))) (2^(min (Int.toNat 7) 64))))*2^(min (Int.toNat 17) 64))))
noncomputable def uE {α:Type} (br:Br α) (a:Int):Int×(List α)→Option (Int×(List α) ⊕ (List α)):=fun s723 =>
  (if (decide (s723.1>a)) then ((idx s723.2 s723.1).bind fun x785=>(idx s723.2 (aJ s723.1 1)).bind fun x786=>br _ x785 x786 fun r787=>some r787) else (some false)).bind fun j784=>if j784 then ((idx s723.2 (aJ s723.1 1)).bind fun x808=>(idx s723.2 s723.1).bind fun x809=>(idx s723.2 s723.1).bind fun x810=>(idx (List.set s723.2 (Int.toNat s723.1) x808) (aJ s723.1 1)).bind fun x811=>some (.inl ((aJ s723.1 1),(List.set (List.set s723.2 (Int.toNat s723.1) x808) (Int.toNat (aJ s723.1 1)) x809)))) else (some (.inr s723.2))
noncomputable def xM {α:Type} (br:Br α) (a:Int) (b:Int):Int×(List α)→Option (Int×(List α) ⊕ (List α)):=fun s272 =>
  if (decide (s272.1<b)) then ((aM (uE br a) (s272.1,s272.2)).bind fun x812=>some (.inl ((aL s272.1 1),x812))) else (some (.inr s272.2))
noncomputable def Bi {α:Type} (br:Br α) (a:Int) (b:Int) (h0:(List α)):Option ((List α)):=
  (aM (xM br a b) ((aL a 1),h0)).bind fun x813=>some x813
noncomputable def wS {α:Type} (br:Br α) (first:Int) (s53:Int×(List α)):Int→Option (Int×(List α) ⊕ ((List α) ⊕ (List α))):=fun j115 =>
  (idx s53.2 (aL first s53.1)).bind fun x131=>(idx s53.2 (aL first j115)).bind fun x132=>br _ x131 x132 fun r133=>if (!r133) then (some (.inr (.inr s53.2))) else ((idx s53.2 (aL first j115)).bind fun x142=>(idx s53.2 (aL first s53.1)).bind fun x143=>(idx s53.2 (aL first s53.1)).bind fun x144=>(idx (List.set s53.2 (Int.toNat (aL first s53.1)) x142) (aL first j115)).bind fun x145=>some (.inl (j115,(List.set (List.set s53.2 (Int.toNat (aL first s53.1)) x142) (Int.toNat (aL first j115)) x143))))
noncomputable def Gl {α:Type} (br:Br α) (hi:Int) (first:Int):Int×(List α)→Option (Int×(List α) ⊕ ((List α) ⊕ (List α))):=fun s53 =>
  if (decide ((aL (mZ 2 s53.1) 1) ≥ hi)) then (some (.inr (.inl s53.2))) else ((if (decide ((aL (aL (mZ 2 s53.1) 1) 1)<hi)) then ((idx s53.2 (aL first (aL (mZ 2 s53.1) 1))).bind fun x153=>(idx s53.2 (aL (aL first (aL (mZ 2 s53.1) 1)) 1)).bind fun x154=>br _ x153 x154 fun r155=>some r155) else (some false)).bind fun j152=>if j152 then (wS br first s53 (aL (aL (mZ 2 s53.1) 1) 1)) else (wS br first s53 (aL (mZ 2 s53.1) 1)))
noncomputable def Dp {α:Type} (br:Br α) (lo:Int) (hi:Int) (first:Int) (h0:(List α)):Option ((List α)):=
  (aM (Gl br hi first) (lo,h0)).bind fun x156=>match x156 with | .inl j157=>some j157 | .inr j158=>some j158
noncomputable def Gi {α:Type} (br:Br α) (a:Int) (b:Int):Int×(List α)→Option (Int×(List α) ⊕ (List α)):=fun s21 =>
  if (decide (s21.1 ≥ 0)) then ((Dp br s21.1 (aJ b a) a s21.2).bind fun r29=>some (.inl ((aJ s21.1 1),r29))) else (some (.inr s21.2))
noncomputable def Gj {α:Type} (br:Br α) (a:Int):Int×(List α)→Option (Int×(List α) ⊕ (List α)):=fun s60 =>
  if (decide (s60.1 ≥ 0)) then ((idx s60.2 (aL a s60.1)).bind fun x111=>(idx s60.2 a).bind fun x112=>(idx s60.2 a).bind fun x113=>(idx (List.set s60.2 (Int.toNat a) x111) (aL a s60.1)).bind fun x114=>(Dp br 0 s60.1 a (List.set (List.set s60.2 (Int.toNat a) x111) (Int.toNat (aL a s60.1)) x112)).bind fun r116=>some (.inl ((aJ s60.1 1),r116))) else (some (.inr s60.2))
noncomputable def Pj {α:Type} (br:Br α) (a:Int) (b:Int) (h0:(List α)):Option ((List α)):=
  (aM (Gi br a b) ((xN (aJ (aJ b a) 1) 2),h0)).bind fun x30=>(aM (Gj br a) ((aJ (aJ b a) 1),x30)).bind fun x117=>some x117
noncomputable def uD {α:Type} (br:Br α) (a:Int) (s34:Int×Int×(List α)):Int→Option (Int×Int×(List α) ⊕ (List α)):=fun j82 =>
  (idx s34.2.2 (aL a j82)).bind fun x91=>(idx s34.2.2 s34.1).bind fun x92=>(idx s34.2.2 s34.1).bind fun x93=>(idx (List.set s34.2.2 (Int.toNat s34.1) x91) (aL a j82)).bind fun x94=>some (.inl ((aL s34.1 1),(jT .u64 (jT .u64 (jT .u64 s34.2.1 (IntKind.wrap .u64 (s34.2.1*2^(min (Int.toNat 13) 64)))) (Int.fdiv (jT .u64 s34.2.1 (IntKind.wrap .u64 (s34.2.1*2^(min (Int.toNat 13) 64)))) (2^(min (Int.toNat 7) 64)))) (IntKind.wrap .u64 ((jT .u64 (jT .u64 s34.2.1 (IntKind.wrap .u64 (s34.2.1*2^(min (Int.toNat 13) 64)))) (Int.fdiv (jT .u64 s34.2.1 (IntKind.wrap .u64 (s34.2.1*2^(min (Int.toNat 13) 64)))) (2^(min (Int.toNat 7) 64))))*2^(min (Int.toNat 17) 64)))),(List.set (List.set s34.2.2 (Int.toNat s34.1) x91) (Int.toNat (aL a j82)) x92)))
noncomputable def xL {α:Type} (br:Br α) (a:Int) (b:Int) (r2:Int):Int×Int×(List α)→Option (Int×Int×(List α) ⊕ (List α)):=fun s34 =>
  if (decide (s34.1≤(aL (aL a (mZ (xN (aJ b a) 4) 2)) 1))) then ((Kw s34.2.1).bind fun r81=>if (decide ((IntKind.wrap .i64 (Uz .u64 r81 (IntKind.wrap .u64 (r2-1)))) ≥ (aJ b a))) then (uD br a s34 (aJ (IntKind.wrap .i64 (Uz .u64 r81 (IntKind.wrap .u64 (r2-1)))) (aJ b a))) else (uD br a s34 (IntKind.wrap .i64 (Uz .u64 r81 (IntKind.wrap .u64 (r2-1)))))) else (some (.inr s34.2.2))
noncomputable def Bh {α:Type} (br:Br α) (a:Int) (b:Int) (h0:(List α)):Option ((List α)):=
  if (decide ((aJ b a) ≥ 8)) then ((zY (aJ b a)).bind fun r2=>(aM (xL br a b r2) ((aJ (aL a (mZ (xN (aJ b a) 4) 2)) 1),(IntKind.wrap .u64 (aJ b a)),h0)).bind fun x95=>some x95) else (some h0)
noncomputable def Kv {α:Type} (br:Br α) (data:(List α)) (a:Int) (b:Int) (h0_0:Int):Option (Int×Int×Int):=
  (idx data b).bind fun x16=>(idx data a).bind fun x17=>br _ x16 x17 fun r18=>if r18 then (some (b,a,(aL h0_0 1))) else (some (a,b,h0_0))
noncomputable def Qo {α:Type} (br:Br α) (data:(List α)) (a:Int) (b:Int) (c:Int) (h0_0:Int):Option (Int×Int):=
  (Kv br data a b h0_0).bind fun r2=>(Kv br data r2.2.1 c r2.2.2).bind fun r4=>(Kv br data r2.1 r4.1 r4.2.2).bind fun r6=>some (r6.2.1,r6.2.2)
noncomputable def rU {α:Type} (br:Br α) (data:(List α)) (a:Int) (h0_0:Int):Option (Int×Int):=
  (Qo br data (aJ a 1) a (aL a 1) h0_0).bind fun r2=>some (r2.1,r2.2)
noncomputable def vX {α:Type} (br:Br α):(Int×Int)→Option (Int×Int):=fun j16 =>
  if (j16.2==0) then (some (j16.1,1)) else (if (j16.2==12) then (some (j16.1,2)) else (some (j16.1,0)))
noncomputable def vY {α:Type} (br:Br α) (data:(List α)):(Int×Int×Int×Int)→Option (Int×Int):=fun j23 =>
  (Qo br data j23.1 j23.2.1 j23.2.2.1 j23.2.2.2).bind fun r25=>vX br (r25.1,r25.2)
noncomputable def Gh {α:Type} (br:Br α) (data:(List α)) (a:Int) (b:Int):Option (Int×Int):=
  if (decide ((aJ b a) ≥ 8)) then (if (decide ((aJ b a) ≥ 50)) then ((rU br data (aL a (mZ (xN (aJ b a) 4) 1)) 0).bind fun r27=>(rU br data (aL a (mZ (xN (aJ b a) 4) 2)) r27.2).bind fun r29=>(rU br data (aL a (mZ (xN (aJ b a) 4) 3)) r29.2).bind fun r31=>vY br data (r27.1,r29.1,r31.1,r31.2)) else (vY br data ((aL a (mZ (xN (aJ b a) 4) 1)),(aL a (mZ (xN (aJ b a) 4) 2)),(aL a (mZ (xN (aJ b a) 4) 3)),0))) else (vX br ((aL a (mZ (xN (aJ b a) 4) 2)),0))
noncomputable def yO {α:Type} (br:Br α):Int×Int×(List α)→Option (Int×Int×(List α) ⊕ (List α)):=fun s14 =>
  if (decide (s14.1<s14.2.1)) then ((idx s14.2.2 s14.2.1).bind fun x35=>(idx s14.2.2 s14.1).bind fun x36=>(idx s14.2.2 s14.1).bind fun x37=>(idx (List.set s14.2.2 (Int.toNat s14.1) x35) s14.2.1).bind fun x38=>some (.inl ((aL s14.1 1),(aJ s14.2.1 1),(List.set (List.set s14.2.2 (Int.toNat s14.1) x35) (Int.toNat s14.2.1) x36)))) else (some (.inr s14.2.2))
noncomputable def Dv {α:Type} (br:Br α) (a:Int) (b:Int) (h0:(List α)):Option ((List α)):=
  (aM (yO br) (a,(aJ b 1),h0)).bind fun x39=>some x39
noncomputable def pQ {α:Type} (br:Br α) (s5515:Int×Int×(List α)):Int×(List α)→Option (Int×Int×(List α) ⊕ (Bool×(List α) ⊕ (List α))):=fun j7581 =>
  some (.inl (j7581.1,(aL s5515.2.1 1),j7581.2))
noncomputable def kW {α:Type} (br:Br α) (b:Int) (s5515:Int×Int×(List α)):Int→Option (Int ⊕ Int):=fun s7666 =>
  (if (decide (s7666<b)) then ((idx s5515.2.2 s7666).bind fun x7704=>(idx s5515.2.2 (aJ s7666 1)).bind fun x7705=>br _ x7704 x7705 fun r7706=>some (!r7706)) else (some false)).bind fun j7703=>if j7703 then (some (.inl (aL s7666 1))) else (some (.inr s7666))
noncomputable def kX {α:Type} (br:Br α) (b:Int):Int×(List α)→Option (Int×(List α) ⊕ (List α)):=fun s7965 =>
  if (decide (s7965.1<b)) then ((idx s7965.2 s7965.1).bind fun x8071=>(idx s7965.2 (aJ s7965.1 1)).bind fun x8072=>br _ x8071 x8072 fun r8073=>if (!r8073) then (some (.inr s7965.2)) else ((idx s7965.2 (aJ s7965.1 1)).bind fun x8082=>(idx s7965.2 s7965.1).bind fun x8083=>(idx s7965.2 s7965.1).bind fun x8084=>(idx (List.set s7965.2 (Int.toNat s7965.1) x8082) (aJ s7965.1 1)).bind fun x8085=>some (.inl ((aL s7965.1 1),(List.set (List.set s7965.2 (Int.toNat s7965.1) x8082) (Int.toNat (aJ s7965.1 1)) x8083))))) else (some (.inr s7965.2))
noncomputable def kV {α:Type} (br:Br α) (b:Int) (s5515:Int×Int×(List α)) (x7707:Int):(List α)→Option (Int×Int×(List α) ⊕ (Bool×(List α) ⊕ (List α))):=fun j7903 =>
  if (decide ((aJ b x7707) ≥ 2)) then ((aM (kX br b) ((aL x7707 1),j7903)).bind fun x8086=>pQ br s5515 (x7707,x8086)) else (pQ br s5515 (x7707,j7903))
noncomputable def kY {α:Type} (br:Br α):Int×(List α)→Option (Int×(List α) ⊕ (List α)):=fun s8148 =>
  if (decide (s8148.1 ≥ 1)) then ((idx s8148.2 s8148.1).bind fun x8254=>(idx s8148.2 (aJ s8148.1 1)).bind fun x8255=>br _ x8254 x8255 fun r8256=>if (!r8256) then (some (.inr s8148.2)) else ((idx s8148.2 (aJ s8148.1 1)).bind fun x8265=>(idx s8148.2 s8148.1).bind fun x8266=>(idx s8148.2 s8148.1).bind fun x8267=>(idx (List.set s8148.2 (Int.toNat s8148.1) x8265) (aJ s8148.1 1)).bind fun x8268=>some (.inl ((aJ s8148.1 1),(List.set (List.set s8148.2 (Int.toNat s8148.1) x8265) (Int.toNat (aJ s8148.1 1)) x8266))))) else (some (.inr s8148.2))
noncomputable def pR {α:Type} (br:Br α) (a:Int) (b:Int):Int×Int×(List α)→Option (Int×Int×(List α) ⊕ (Bool×(List α) ⊕ (List α))):=fun s5515 =>
  if (decide (s5515.2.1<5)) then ((aM (kW br b s5515) s5515.1).bind fun x7707=>if (x7707==b) then (some (.inr (.inl (true,s5515.2.2)))) else (if (decide ((aJ b a)<50)) then (some (.inr (.inl (false,s5515.2.2)))) else ((idx s5515.2.2 (aJ x7707 1)).bind fun x7716=>(idx s5515.2.2 x7707).bind fun x7717=>(idx s5515.2.2 x7707).bind fun x7718=>(idx (List.set s5515.2.2 (Int.toNat x7707) x7716) (aJ x7707 1)).bind fun x7719=>if (decide ((aJ x7707 a) ≥ 2)) then ((aM (kY br) ((aJ x7707 1),(List.set (List.set s5515.2.2 (Int.toNat x7707) x7716) (Int.toNat (aJ x7707 1)) x7717))).bind fun x8269=>kV br b s5515 x7707 x8269) else (kV br b s5515 x7707 (List.set (List.set s5515.2.2 (Int.toNat x7707) x7716) (Int.toNat (aJ x7707 1)) x7717))))) else (some (.inr (.inr s5515.2.2)))
noncomputable def uK {α:Type} (br:Br α) (a:Int) (b:Int) (h0:(List α)):Option (Bool×(List α)):=
  (aM (pR br a b) ((aL a 1),0,h0)).bind fun x8270=>match x8270 with | .inl j8271=>some (j8271.1,j8271.2) | .inr j8272=>some (false,j8272)
noncomputable def rX {α:Type} (br:Br α) (a:Int) (s1073:Int×Int×(List α)):Int→Option (Int ⊕ Int):=fun s1422 =>
  (if (decide (s1422≤s1073.2.1)) then ((idx s1073.2.2 a).bind fun x1460=>(idx s1073.2.2 s1422).bind fun x1461=>br _ x1460 x1461 fun r1462=>some (!r1462)) else (some false)).bind fun j1459=>if j1459 then (some (.inl (aL s1422 1))) else (some (.inr s1422))
noncomputable def rY {α:Type} (br:Br α) (a:Int) (s1073:Int×Int×(List α)) (x1463:Int):Int→Option (Int ⊕ Int):=fun s1548 =>
  (if (decide (x1463≤s1548)) then ((idx s1073.2.2 a).bind fun x1586=>(idx s1073.2.2 s1548).bind fun x1587=>br _ x1586 x1587 fun r1588=>some r1588) else (some false)).bind fun j1585=>if j1585 then (some (.inl (aJ s1548 1))) else (some (.inr s1548))
noncomputable def wR {α:Type} (br:Br α) (a:Int):Int×Int×(List α)→Option (Int×Int×(List α) ⊕ Int×(List α)):=fun s1073 =>
  (aM (rX br a s1073) s1073.1).bind fun x1463=>(aM (rY br a s1073 x1463) s1073.2.1).bind fun x1589=>if (decide (x1463>x1589)) then (some (.inr (x1463,s1073.2.2))) else ((idx s1073.2.2 x1589).bind fun x1598=>(idx s1073.2.2 x1463).bind fun x1599=>(idx s1073.2.2 x1463).bind fun x1600=>(idx (List.set s1073.2.2 (Int.toNat x1463) x1598) x1589).bind fun x1601=>some (.inl ((aL x1463 1),(aJ x1589 1),(List.set (List.set s1073.2.2 (Int.toNat x1463) x1598) (Int.toNat x1589) x1599))))
noncomputable def zZ {α:Type} (br:Br α) (a:Int) (b:Int) (pivot:Int) (h0:(List α)):Option (Int×(List α)):=
  (idx h0 pivot).bind fun x9=>(idx h0 a).bind fun x10=>(idx h0 a).bind fun x11=>(idx (List.set h0 (Int.toNat a) x9) pivot).bind fun x12=>(aM (wR br a) ((aL a 1),(aJ b 1),(List.set (List.set h0 (Int.toNat a) x9) (Int.toNat pivot) x10))).bind fun x1602=>some (x1602.1,x1602.2)
noncomputable def yG {α:Type} (br:Br α) (a:Int) (b:Int) (pivot:Int) (h0:(List α)) (x9:α) (x10:α):Int→Option (Int ⊕ Int):=fun s97 =>
  (if (decide (s97≤(aJ b 1))) then ((idx (List.set (List.set h0 (Int.toNat a) x9) (Int.toNat pivot) x10) s97).bind fun x135=>(idx (List.set (List.set h0 (Int.toNat a) x9) (Int.toNat pivot) x10) a).bind fun x136=>br _ x135 x136 fun r137=>some r137) else (some false)).bind fun j134=>if j134 then (some (.inl (aL s97 1))) else (some (.inr s97))
noncomputable def yH {α:Type} (br:Br α) (a:Int) (pivot:Int) (h0:(List α)) (x9:α) (x10:α) (x138:Int):Int→Option (Int ⊕ Int):=fun s223 =>
  (if (decide (x138≤s223)) then ((idx (List.set (List.set h0 (Int.toNat a) x9) (Int.toNat pivot) x10) s223).bind fun x261=>(idx (List.set (List.set h0 (Int.toNat a) x9) (Int.toNat pivot) x10) a).bind fun x262=>br _ x261 x262 fun r263=>some (!r263)) else (some false)).bind fun j260=>if j260 then (some (.inl (aJ s223 1))) else (some (.inr s223))
noncomputable def yI {α:Type} (br:Br α) (a:Int) (s1361:Int×Int×(List α)):Int→Option (Int ⊕ Int):=fun s1710 =>
  (if (decide (s1710≤s1361.2.1)) then ((idx s1361.2.2 s1710).bind fun x1748=>(idx s1361.2.2 a).bind fun x1749=>br _ x1748 x1749 fun r1750=>some r1750) else (some false)).bind fun j1747=>if j1747 then (some (.inl (aL s1710 1))) else (some (.inr s1710))
noncomputable def yJ {α:Type} (br:Br α) (a:Int) (s1361:Int×Int×(List α)) (x1751:Int):Int→Option (Int ⊕ Int):=fun s1836 =>
  (if (decide (x1751≤s1836)) then ((idx s1361.2.2 s1836).bind fun x1874=>(idx s1361.2.2 a).bind fun x1875=>br _ x1874 x1875 fun r1876=>some (!r1876)) else (some false)).bind fun j1873=>if j1873 then (some (.inl (aJ s1836 1))) else (some (.inr s1836))
noncomputable def yL {α:Type} (br:Br α) (a:Int):Int×Int×(List α)→Option (Int×Int×(List α) ⊕ Int×(List α)):=fun s1361 =>
  (aM (yI br a s1361) s1361.1).bind fun x1751=>(aM (yJ br a s1361 x1751) s1361.2.1).bind fun x1877=>if (decide (x1751>x1877)) then (some (.inr (x1877,s1361.2.2))) else ((idx s1361.2.2 x1877).bind fun x1886=>(idx s1361.2.2 x1751).bind fun x1887=>(idx s1361.2.2 x1751).bind fun x1888=>(idx (List.set s1361.2.2 (Int.toNat x1751) x1886) x1877).bind fun x1889=>some (.inl ((aL x1751 1),(aJ x1877 1),(List.set (List.set s1361.2.2 (Int.toNat x1751) x1886) (Int.toNat x1877) x1887))))
noncomputable def Eh {α:Type} (br:Br α) (a:Int) (b:Int) (pivot:Int) (h0:(List α)):Option (Int×Bool×(List α)):=
  (idx h0 pivot).bind fun x9=>(idx h0 a).bind fun x10=>(idx h0 a).bind fun x11=>(idx (List.set h0 (Int.toNat a) x9) pivot).bind fun x12=>(aM (yG br a b pivot h0 x9 x10) (aL a 1)).bind fun x138=>(aM (yH br a pivot h0 x9 x10 x138) (aJ b 1)).bind fun x264=>if (decide (x138>x264)) then ((idx (List.set (List.set h0 (Int.toNat a) x9) (Int.toNat pivot) x10) a).bind fun x285=>(idx (List.set (List.set h0 (Int.toNat a) x9) (Int.toNat pivot) x10) x264).bind fun x286=>(idx (List.set (List.set h0 (Int.toNat a) x9) (Int.toNat pivot) x10) x264).bind fun x287=>(idx (List.set (List.set (List.set h0 (Int.toNat a) x9) (Int.toNat pivot) x10) (Int.toNat x264) x285) a).bind fun x288=>some (x264,true,(List.set (List.set (List.set (List.set h0 (Int.toNat a) x9) (Int.toNat pivot) x10) (Int.toNat x264) x285) (Int.toNat a) x286))) else ((idx (List.set (List.set h0 (Int.toNat a) x9) (Int.toNat pivot) x10) x264).bind fun x297=>(idx (List.set (List.set h0 (Int.toNat a) x9) (Int.toNat pivot) x10) x138).bind fun x298=>(idx (List.set (List.set h0 (Int.toNat a) x9) (Int.toNat pivot) x10) x138).bind fun x299=>(idx (List.set (List.set (List.set h0 (Int.toNat a) x9) (Int.toNat pivot) x10) (Int.toNat x138) x297) x264).bind fun x300=>(aM (yL br a) ((aL x138 1),(aJ x264 1),(List.set (List.set (List.set (List.set h0 (Int.toNat a) x9) (Int.toNat pivot) x10) (Int.toNat x138) x297) (Int.toNat x264) x298))).bind fun x1890=>(idx x1890.2 a).bind fun x1899=>(idx x1890.2 x1890.1).bind fun x1900=>(idx x1890.2 x1890.1).bind fun x1901=>(idx (List.set x1890.2 (Int.toNat x1890.1) x1899) a).bind fun x1902=>some (x1890.1,false,(List.set (List.set x1890.2 (Int.toNat x1890.1) x1899) (Int.toNat a) x1900)))
noncomputable def xO {α:Type} (br:Br α) (self:Int→Int→Int→(List α)→Option ((List α))) (s59:Int×Int×Int×Bool×Bool×(List α)) (j127:Int×(List α)) (j132:Int×Int×(List α)):Bool×Bool×(List α)→Option (Int×Int×Int×Bool×Bool×(List α) ⊕ (List α)):=fun j136 =>
  (if (decide (s59.1>0)) then ((idx j136.2.2 (aJ s59.1 1)).bind fun x156=>(idx j136.2.2 j132.1).bind fun x157=>br _ x156 x157 fun r158=>some (!r158)) else (some false)).bind fun j155=>if j155 then ((zZ br s59.1 s59.2.1 j132.1 j136.2.2).bind fun r160=>some (.inl (r160.1,s59.2.1,j127.1,j136.1,j136.2.1,r160.2))) else ((Eh br s59.1 s59.2.1 j132.1 j136.2.2).bind fun r162=>if (decide ((aJ r162.1 s59.1)<(aJ s59.2.1 r162.1))) then ((self s59.1 r162.1 j127.1 r162.2.2).bind fun r164=>some (.inl ((aL r162.1 1),s59.2.1,j127.1,(decide ((aJ r162.1 s59.1) ≥ (xN (aJ s59.2.1 s59.1) 8))),r162.2.1,r164))) else ((self (aL r162.1 1) s59.2.1 j127.1 r162.2.2).bind fun r166=>some (.inl (s59.1,r162.1,j127.1,(decide ((aJ s59.2.1 r162.1) ≥ (xN (aJ s59.2.1 s59.1) 8))),r162.2.1,r166))))
noncomputable def xP {α:Type} (br:Br α) (self:Int→Int→Int→(List α)→Option ((List α))) (s59:Int×Int×Int×Bool×Bool×(List α)) (j127:Int×(List α)):Int×Int×(List α)→Option (Int×Int×Int×Bool×Bool×(List α) ⊕ (List α)):=fun j132 =>
  (if s59.2.2.2.1 then (if s59.2.2.2.2.1 then (some (true,true,(j132.2.1==1))) else (some (true,false,false))) else (some (false,s59.2.2.2.2.1,false))).bind fun j167=>if j167.2.2 then ((uK br s59.1 s59.2.1 j132.2.2).bind fun r169=>if r169.1 then (some (.inr r169.2)) else (xO br self s59 j127 j132 (j167.1,j167.2.1,r169.2))) else (xO br self s59 j127 j132 (j167.1,j167.2.1,j132.2.2))
noncomputable def xQ {α:Type} (br:Br α) (self:Int→Int→Int→(List α)→Option ((List α))) (s59:Int×Int×Int×Bool×Bool×(List α)):Int×(List α)→Option (Int×Int×Int×Bool×Bool×(List α) ⊕ (List α)):=fun j127 =>
  (Gh br j127.2 s59.1 s59.2.1).bind fun r129=>if (r129.2==2) then ((Dv br s59.1 s59.2.1 j127.2).bind fun r171=>xP br self s59 j127 ((aJ (aJ s59.2.1 1) (aJ r129.1 s59.1)),1,r171)) else (xP br self s59 j127 (r129.1,r129.2,j127.2))
noncomputable def Df {α:Type} (br:Br α) (self:Int→Int→Int→(List α)→Option ((List α))):Int×Int×Int×Bool×Bool×(List α)→Option (Int×Int×Int×Bool×Bool×(List α) ⊕ (List α)):=fun s59 =>
  if (decide ((aJ s59.2.1 s59.1)≤12)) then ((Bi br s59.1 s59.2.1 s59.2.2.2.2.2).bind fun r120=>some (.inr r120)) else (if (s59.2.2.1==0) then ((Pj br s59.1 s59.2.1 s59.2.2.2.2.2).bind fun r124=>some (.inr r124)) else (if (!s59.2.2.2.1) then ((Bh br s59.1 s59.2.1 s59.2.2.2.2.2).bind fun r173=>xQ br self s59 ((aJ s59.2.2.1 1),r173)) else (xQ br self s59 (s59.2.2.1,s59.2.2.2.2.2))))
noncomputable def vO {α:Type} (br:Br α) (self:Int→Int→Int→(List α)→Option ((List α))) (a:Int) (b:Int) (limit:Int) (h0:(List α)):Option ((List α)):=
  (aM (Df br self) (a,b,limit,true,true,h0)).bind fun x174=>some x174
noncomputable def rZ {α:Type} (br:Br α):Nat→Int→Int→Int→(List α)→Option ((List α))
  | 0=>fun _ _ _ _=>none
  | n+1=>vO br (rZ br n)
noncomputable def AC {α:Type} (br:Br α) (a:Int) (b:Int) (limit:Int) (h0:(List α)):Option ((List α)):=rZ br 1000 a b limit h0
noncomputable def Pi {α:Type} (br:Br α) (h0:(List α)):Option ((List α)):=
  (Il (IntKind.wrap .u64 (h0.length:Int))).bind fun r3=>(AC br 0 (h0.length:Int) r3 h0).bind fun r4=>some r4
end Go.SM
