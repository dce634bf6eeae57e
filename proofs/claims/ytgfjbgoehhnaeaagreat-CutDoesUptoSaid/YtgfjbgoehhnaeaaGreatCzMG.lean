/- The Go functions as plain functions; written by a program out of the translation. -/
import Derived.Test.YtgfjbgoehhnaeaaGreatCzML
set_option linter.unusedVariables false
set_option linter.unusedSimpArgs false
set_option linter.unusedSectionVars false
namespace Go.SM
open Go Go.VI
noncomputable def Iw:(Int×Int)→Option (Int):=fun j3 =>
  (Qd (ByteArray.mk #[0,1,2,2,3,3,3,3,4,4,4,4,4,4,4,4,5,5,5,5,5,5,5,5,5,5,5,5,5,5,5,5,6,6,6,6,6,6,6,6,6,6,6,6,6,6,6,6,6,6,6,6,6,6,6,6,6,6,6,6,6,6,6,6,7,7,7,7,7,7,7,7,7,7,7,7,7,7,7,7,7,7,7,7,7,7,7,7,7,7,7,7,7,7,7,7,7,7,7,7,7,7,7,7,7,7,7,7,7,7,7,7,7,7,7,7,7,7,7,7,7,7,7,7,7,7,7,7,8,8,8,8,8,8,8,8,8,8,8,8,8,8,8,8,8,8,8,8,8,8,8,8,8,8,8,8,8,8,8,8,8,8,8,8,8,8,8,8,8,8,8,8,8,8,8,8,8,8,8,8,8,8,8,8,8,8,8,8,8,8,8,8,8,8,8,8,8,8,8,8,8,8,8,8,8,8,8,8,8,8,8,8,8,8,8,8,8,8,8,8,8,8,8,8,8,8,8,8,8,8,8,8,8,8,8,8,8,8,8,8,8,8,8,8,8,8,8,8,8,8,8,8,8,8,8,8]) (IntKind.wrap .u8 j3.1)).bind fun x5=>some (aL j3.2 (IntKind.wrap .i64 x5))
noncomputable def Iy:(Int×Int)→Option (Int):=fun j2 =>
  if (decide (j2.1 ≥ 256)) then (Iw ((Int.fdiv j2.1 (2^(min (Int.toNat 8) 64))),(aL j2.2 8))) else (Iw (j2.1,j2.2))
noncomputable def Iz:(Int×Int)→Option (Int):=fun j1 =>
  if (decide (j1.1 ≥ 65536)) then (Iy ((Int.fdiv j1.1 (2^(min (Int.toNat 16) 64))),(aL j1.2 16))) else (Iy (j1.1,j1.2))
noncomputable def bits_Len64 (x0:Int):Option (Int):=
  if (decide (x0 ≥ 4294967296)) then (Iz ((Int.fdiv x0 (2^(min (Int.toNat 32) 64))),32)) else (Iz (x0,0))
noncomputable def bits_Len (x0:Int):Option (Int):=
  (bits_Len64 x0).bind fun r2=>some r2
noncomputable def cmp_isNaN_int (x0:Int):Option (Bool):=
  some (x0 != x0)
noncomputable def cmp_Compare_int (x0:Int) (y:Int):Option (Int):=
  (cmp_isNaN_int x0).bind fun r2=>(cmp_isNaN_int y).bind fun r4=>if r2 then (if r4 then (some 0) else (some (-1))) else (if r4 then (some 1) else (if (decide (x0<y)) then (some (-1)) else (if (decide (x0>y)) then (some 1) else (some 0))))
noncomputable def pI (a:Int):Int×(List Int)→Option (Int×(List Int) ⊕ (List Int)):=fun s723 =>
  (if (decide (s723.1>a)) then ((idx s723.2 s723.1).bind fun x785=>(idx s723.2 (aJ s723.1 1)).bind fun x786=>(cmp_Compare_int x785 x786).bind fun r787=>some (decide (r787<0))) else (some false)).bind fun j784=>if j784 then ((idx s723.2 (aJ s723.1 1)).bind fun x808=>(idx s723.2 s723.1).bind fun x809=>(idx s723.2 s723.1).bind fun x810=>(idx (List.set s723.2 (Int.toNat s723.1) x808) (aJ s723.1 1)).bind fun x811=>some (.inl ((aJ s723.1 1),(List.set (List.set s723.2 (Int.toNat s723.1) x808) (Int.toNat (aJ s723.1 1)) x809)))) else (some (.inr s723.2))
noncomputable def pJ (a:Int) (b:Int):Int×(List Int)→Option (Int×(List Int) ⊕ (List Int)):=fun s272 =>
  if (decide (s272.1<b)) then ((aM (pI a) (s272.1,s272.2)).bind fun x812=>some (.inl ((aL s272.1 1),x812))) else (some (.inr s272.2))
noncomputable def jC (a:Int) (b:Int) (h0:(List Int)):Option ((List Int)):=
  (aM (pJ a b) ((aL a 1),h0)).bind fun x813=>some x813
noncomputable def eZ (first:Int) (s53:Int×(List Int)):Int→Option (Int×(List Int) ⊕ ((List Int) ⊕ (List Int))):=fun j115 =>
  (idx s53.2 (aL first s53.1)).bind fun x131=>(idx s53.2 (aL first j115)).bind fun x132=>(cmp_Compare_int x131 x132).bind fun r133=>if (!(decide (r133<0))) then (some (.inr (.inr s53.2))) else ((idx s53.2 (aL first j115)).bind fun x142=>(idx s53.2 (aL first s53.1)).bind fun x143=>(idx s53.2 (aL first s53.1)).bind fun x144=>(idx (List.set s53.2 (Int.toNat (aL first s53.1)) x142) (aL first j115)).bind fun x145=>some (.inl (j115,(List.set (List.set s53.2 (Int.toNat (aL first s53.1)) x142) (Int.toNat (aL first j115)) x143))))
noncomputable def uA (hi:Int) (first:Int):Int×(List Int)→Option (Int×(List Int) ⊕ ((List Int) ⊕ (List Int))):=fun s53 =>
  if (decide ((aL (mZ 2 s53.1) 1) ≥ hi)) then (some (.inr (.inl s53.2))) else ((if (decide ((aL (aL (mZ 2 s53.1) 1) 1)<hi)) then ((idx s53.2 (aL first (aL (mZ 2 s53.1) 1))).bind fun x153=>(idx s53.2 (aL (aL first (aL (mZ 2 s53.1) 1)) 1)).bind fun x154=>(cmp_Compare_int x153 x154).bind fun r155=>some (decide (r155<0))) else (some false)).bind fun j152=>if j152 then (eZ first s53 (aL (aL (mZ 2 s53.1) 1) 1)) else (eZ first s53 (aL (mZ 2 s53.1) 1)))
noncomputable def fT (lo:Int) (hi:Int) (first:Int) (h0:(List Int)):Option ((List Int)):=
  (aM (uA hi first) (lo,h0)).bind fun x156=>match x156 with | .inl j157=>some j157 | .inr j158=>some j158
noncomputable def tX (a:Int) (b:Int):Int×(List Int)→Option (Int×(List Int) ⊕ (List Int)):=fun s21 =>
  if (decide (s21.1 ≥ 0)) then ((fT s21.1 (aJ b a) a s21.2).bind fun r29=>some (.inl ((aJ s21.1 1),r29))) else (some (.inr s21.2))
noncomputable def tY (a:Int):Int×(List Int)→Option (Int×(List Int) ⊕ (List Int)):=fun s60 =>
  if (decide (s60.1 ≥ 0)) then ((idx s60.2 (aL a s60.1)).bind fun x111=>(idx s60.2 a).bind fun x112=>(idx s60.2 a).bind fun x113=>(idx (List.set s60.2 (Int.toNat a) x111) (aL a s60.1)).bind fun x114=>(fT 0 s60.1 a (List.set (List.set s60.2 (Int.toNat a) x111) (Int.toNat (aL a s60.1)) x112)).bind fun r116=>some (.inl ((aJ s60.1 1),r116))) else (some (.inr s60.2))
noncomputable def kT (a:Int) (b:Int) (h0:(List Int)):Option ((List Int)):=
  (aM (tX a b) ((xN (aJ (aJ b a) 1) 2),h0)).bind fun x30=>(aM (tY a) ((aJ (aJ b a) 1),x30)).bind fun x117=>some x117
noncomputable def Av (length:Int):Option (Int):=
  (bits_Len (IntKind.wrap .u64 length)).bind fun r2=>if (decide (0≤r2)) then (some (IntKind.wrap .u64 (1*2^(min (Int.toNat r2) 64)))) else none
noncomputable def Dr (h0_0:Int):Option (Int):=
  some (jT .u64 (jT .u64 (jT .u64 h0_0 (IntKind.wrap .u64 (h0_0*2^(min (Int.toNat 13) 64)))) (Int.fdiv (jT .u64 h0_0 (IntKind.wrap .u64 (h0_0*2^(min (Int.toNat 13) 64)))) (2^(min (Int.toNat 7) 64)))) (IntKind.wrap .u64 ((jT .u64 (jT .u64 h0_0 (IntKind.wrap .u64 (h0_0*2^(min (Int.toNat 13) 64)))) (Int.fdiv (jT .u64 h0_0 (IntKind.wrap .u64 (h0_0*2^(min (Int.toNat 13) 64)))) (2^(min (Int.toNat 7) 64))))*2^(min (Int.toNat 17) 64))))
noncomputable def dK (a:Int) (s34:Int×Int×(List Int)):Int→Option (Int×Int×(List Int) ⊕ (List Int)):=fun j82 =>
  (idx s34.2.2 (aL a j82)).bind fun x91=>(idx s34.2.2 s34.1).bind fun x92=>(idx s34.2.2 s34.1).bind fun x93=>(idx (List.set s34.2.2 (Int.toNat s34.1) x91) (aL a j82)).bind fun x94=>some (.inl ((aL s34.1 1),(jT .u64 (jT .u64 (jT .u64 s34.2.1 (IntKind.wrap .u64 (s34.2.1*2^(min (Int.toNat 13) 64)))) (Int.fdiv (jT .u64 s34.2.1 (IntKind.wrap .u64 (s34.2.1*2^(min (Int.toNat 13) 64)))) (2^(min (Int.toNat 7) 64)))) (IntKind.wrap .u64 ((jT .u64 (jT .u64 s34.2.1 (IntKind.wrap .u64 (s34.2.1*2^(min (Int.toNat 13) 64)))) (Int.fdiv (jT .u64 s34.2.1 (IntKind.wrap .u64 (s34.2.1*2^(min (Int.toNat 13) 64)))) (2^(min (Int.toNat 7) 64))))*2^(min (Int.toNat 17) 64)))),(List.set (List.set s34.2.2 (Int.toNat s34.1) x91) (Int.toNat (aL a j82)) x92)))
noncomputable def pF (a:Int) (b:Int) (r2:Int):Int×Int×(List Int)→Option (Int×Int×(List Int) ⊕ (List Int)):=fun s34 =>
  if (decide (s34.1≤(aL (aL a (mZ (xN (aJ b a) 4) 2)) 1))) then ((Dr s34.2.1).bind fun r81=>if (decide ((IntKind.wrap .i64 (Uz .u64 r81 (IntKind.wrap .u64 (r2-1)))) ≥ (aJ b a))) then (dK a s34 (aJ (IntKind.wrap .i64 (Uz .u64 r81 (IntKind.wrap .u64 (r2-1)))) (aJ b a))) else (dK a s34 (IntKind.wrap .i64 (Uz .u64 r81 (IntKind.wrap .u64 (r2-1)))))) else (some (.inr s34.2.2))
noncomputable def jB (a:Int) (b:Int) (h0:(List Int)):Option ((List Int)):=
  if (decide ((aJ b a) ≥ 8)) then ((Av (aJ b a)).bind fun r2=>(aM (pF a b r2) ((aJ (aL a (mZ (xN (aJ b a) 4) 2)) 1),(IntKind.wrap .u64 (aJ b a)),h0)).bind fun x95=>some x95) else (some h0)
noncomputable def dQ (data:(List Int)) (a:Int) (b:Int) (h0_0:Int):Option (Int×Int×Int):=
  (idx data b).bind fun x16=>(idx data a).bind fun x17=>(cmp_Compare_int x16 x17).bind fun r18=>if (decide (r18<0)) then (some (b,a,(aL h0_0 1))) else (some (a,b,h0_0))
noncomputable def gH (data:(List Int)) (a:Int) (b:Int) (c:Int) (h0_0:Int):Option (Int×Int):=
  (dQ data a b h0_0).bind fun r2=>(dQ data r2.2.1 c r2.2.2).bind fun r4=>(dQ data r2.1 r4.1 r4.2.2).bind fun r6=>some (r6.2.1,r6.2.2)
noncomputable def bN (data:(List Int)) (a:Int) (h0_0:Int):Option (Int×Int):=
  (gH data (aJ a 1) a (aL a 1) h0_0).bind fun r2=>some (r2.1,r2.2)
noncomputable def dV:(Int×Int)→Option (Int×Int):=fun j16 =>
  if (j16.2==0) then (some (j16.1,1)) else (if (j16.2==12) then (some (j16.1,2)) else (some (j16.1,0)))
noncomputable def dW (data:(List Int)):(Int×Int×Int×Int)→Option (Int×Int):=fun j23 =>
  (gH data j23.1 j23.2.1 j23.2.2.1 j23.2.2.2).bind fun r25=>dV (r25.1,r25.2)
noncomputable def jR (data:(List Int)) (a:Int) (b:Int):Option (Int×Int):=
  if (decide ((aJ b a) ≥ 8)) then (if (decide ((aJ b a) ≥ 50)) then ((bN data (aL a (mZ (xN (aJ b a) 4) 1)) 0).bind fun r27=>(bN data (aL a (mZ (xN (aJ b a) 4) 2)) r27.2).bind fun r29=>(bN data (aL a (mZ (xN (aJ b a) 4) 3)) r29.2).bind fun r31=>dW data (r27.1,r29.1,r31.1,r31.2)) else (dW data ((aL a (mZ (xN (aJ b a) 4) 1)),(aL a (mZ (xN (aJ b a) 4) 2)),(aL a (mZ (xN (aJ b a) 4) 3)),0))) else (dV ((aL a (mZ (xN (aJ b a) 4) 2)),0))
noncomputable def pY:Int×Int×(List Int)→Option (Int×Int×(List Int) ⊕ (List Int)):=fun s14 =>
  if (decide (s14.1<s14.2.1)) then ((idx s14.2.2 s14.2.1).bind fun x35=>(idx s14.2.2 s14.1).bind fun x36=>(idx s14.2.2 s14.1).bind fun x37=>(idx (List.set s14.2.2 (Int.toNat s14.1) x35) s14.2.1).bind fun x38=>some (.inl ((aL s14.1 1),(aJ s14.2.1 1),(List.set (List.set s14.2.2 (Int.toNat s14.1) x35) (Int.toNat s14.2.1) x36)))) else (some (.inr s14.2.2))
noncomputable def jI (a:Int) (b:Int) (h0:(List Int)):Option ((List Int)):=
  (aM (pY) (a,(aJ b 1),h0)).bind fun x39=>some x39
noncomputable def bS (s5515:Int×Int×(List Int)):Int×(List Int)→Option (Int×Int×(List Int) ⊕ (Bool×(List Int) ⊕ (List Int))):=fun j7581 =>
  some (.inl (j7581.1,(aL s5515.2.1 1),j7581.2))
noncomputable def mO (b:Int) (s5515:Int×Int×(List Int)):Int→Option (Int ⊕ Int):=fun s7666 =>
  (if (decide (s7666<b)) then ((idx s5515.2.2 s7666).bind fun x7704=>(idx s5515.2.2 (aJ s7666 1)).bind fun x7705=>(cmp_Compare_int x7704 x7705).bind fun r7706=>some (!(decide (r7706<0)))) else (some false)).bind fun j7703=>if j7703 then (some (.inl (aL s7666 1))) else (some (.inr s7666))
noncomputable def mP (b:Int):Int×(List Int)→Option (Int×(List Int) ⊕ (List Int)):=fun s7965 =>
  if (decide (s7965.1<b)) then ((idx s7965.2 s7965.1).bind fun x8071=>(idx s7965.2 (aJ s7965.1 1)).bind fun x8072=>(cmp_Compare_int x8071 x8072).bind fun r8073=>if (!(decide (r8073<0))) then (some (.inr s7965.2)) else ((idx s7965.2 (aJ s7965.1 1)).bind fun x8082=>(idx s7965.2 s7965.1).bind fun x8083=>(idx s7965.2 s7965.1).bind fun x8084=>(idx (List.set s7965.2 (Int.toNat s7965.1) x8082) (aJ s7965.1 1)).bind fun x8085=>some (.inl ((aL s7965.1 1),(List.set (List.set s7965.2 (Int.toNat s7965.1) x8082) (Int.toNat (aJ s7965.1 1)) x8083))))) else (some (.inr s7965.2))
noncomputable def bT (b:Int) (s5515:Int×Int×(List Int)) (x7707:Int):(List Int)→Option (Int×Int×(List Int) ⊕ (Bool×(List Int) ⊕ (List Int))):=fun j7903 =>
  if (decide ((aJ b x7707) ≥ 2)) then ((aM (mP b) ((aL x7707 1),j7903)).bind fun x8086=>bS s5515 (x7707,x8086)) else (bS s5515 (x7707,j7903))
noncomputable def mQ:Int×(List Int)→Option (Int×(List Int) ⊕ (List Int)):=fun s8148 =>
  if (decide (s8148.1 ≥ 1)) then ((idx s8148.2 s8148.1).bind fun x8254=>(idx s8148.2 (aJ s8148.1 1)).bind fun x8255=>(cmp_Compare_int x8254 x8255).bind fun r8256=>if (!(decide (r8256<0))) then (some (.inr s8148.2)) else ((idx s8148.2 (aJ s8148.1 1)).bind fun x8265=>(idx s8148.2 s8148.1).bind fun x8266=>(idx s8148.2 s8148.1).bind fun x8267=>(idx (List.set s8148.2 (Int.toNat s8148.1) x8265) (aJ s8148.1 1)).bind fun x8268=>some (.inl ((aJ s8148.1 1),(List.set (List.set s8148.2 (Int.toNat s8148.1) x8265) (Int.toNat (aJ s8148.1 1)) x8266))))) else (some (.inr s8148.2))
noncomputable def mR (a:Int) (b:Int):Int×Int×(List Int)→Option (Int×Int×(List Int) ⊕ (Bool×(List Int) ⊕ (List Int))):=fun s5515 =>
  if (decide (s5515.2.1<5)) then ((aM (mO b s5515) s5515.1).bind fun x7707=>if (x7707==b) then (some (.inr (.inl (true,s5515.2.2)))) else (if (decide ((aJ b a)<50)) then (some (.inr (.inl (false,s5515.2.2)))) else ((idx s5515.2.2 (aJ x7707 1)).bind fun x7716=>(idx s5515.2.2 x7707).bind fun x7717=>(idx s5515.2.2 x7707).bind fun x7718=>(idx (List.set s5515.2.2 (Int.toNat x7707) x7716) (aJ x7707 1)).bind fun x7719=>if (decide ((aJ x7707 a) ≥ 2)) then ((aM (mQ) ((aJ x7707 1),(List.set (List.set s5515.2.2 (Int.toNat x7707) x7716) (Int.toNat (aJ x7707 1)) x7717))).bind fun x8269=>bT b s5515 x7707 x8269) else (bT b s5515 x7707 (List.set (List.set s5515.2.2 (Int.toNat x7707) x7716) (Int.toNat (aJ x7707 1)) x7717))))) else (some (.inr (.inr s5515.2.2)))
noncomputable def gF (a:Int) (b:Int) (h0:(List Int)):Option (Bool×(List Int)):=
  (aM (mR a b) ((aL a 1),0,h0)).bind fun x8270=>match x8270 with | .inl j8271=>some (j8271.1,j8271.2) | .inr j8272=>some (false,j8272)
noncomputable def oU (a:Int) (s1073:Int×Int×(List Int)):Int→Option (Int ⊕ Int):=fun s1422 =>
  (if (decide (s1422≤s1073.2.1)) then ((idx s1073.2.2 a).bind fun x1460=>(idx s1073.2.2 s1422).bind fun x1461=>(cmp_Compare_int x1460 x1461).bind fun r1462=>some (!(decide (r1462<0)))) else (some false)).bind fun j1459=>if j1459 then (some (.inl (aL s1422 1))) else (some (.inr s1422))
noncomputable def oV (a:Int) (s1073:Int×Int×(List Int)) (x1463:Int):Int→Option (Int ⊕ Int):=fun s1548 =>
  (if (decide (x1463≤s1548)) then ((idx s1073.2.2 a).bind fun x1586=>(idx s1073.2.2 s1548).bind fun x1587=>(cmp_Compare_int x1586 x1587).bind fun r1588=>some (decide (r1588<0))) else (some false)).bind fun j1585=>if j1585 then (some (.inl (aJ s1548 1))) else (some (.inr s1548))
noncomputable def oW (a:Int):Int×Int×(List Int)→Option (Int×Int×(List Int) ⊕ Int×(List Int)):=fun s1073 =>
  (aM (oU a s1073) s1073.1).bind fun x1463=>(aM (oV a s1073 x1463) s1073.2.1).bind fun x1589=>if (decide (x1463>x1589)) then (some (.inr (x1463,s1073.2.2))) else ((idx s1073.2.2 x1589).bind fun x1598=>(idx s1073.2.2 x1463).bind fun x1599=>(idx s1073.2.2 x1463).bind fun x1600=>(idx (List.set s1073.2.2 (Int.toNat x1463) x1598) x1589).bind fun x1601=>some (.inl ((aL x1463 1),(aJ x1589 1),(List.set (List.set s1073.2.2 (Int.toNat x1463) x1598) (Int.toNat x1589) x1599))))
noncomputable def iR (a:Int) (b:Int) (pivot:Int) (h0:(List Int)):Option (Int×(List Int)):=
  (idx h0 pivot).bind fun x9=>(idx h0 a).bind fun x10=>(idx h0 a).bind fun x11=>(idx (List.set h0 (Int.toNat a) x9) pivot).bind fun x12=>(aM (oW a) ((aL a 1),(aJ b 1),(List.set (List.set h0 (Int.toNat a) x9) (Int.toNat pivot) x10))).bind fun x1602=>some (x1602.1,x1602.2)
noncomputable def sU (a:Int) (b:Int) (pivot:Int) (h0:(List Int)) (x9:Int) (x10:Int):Int→Option (Int ⊕ Int):=fun s97 =>
  (if (decide (s97≤(aJ b 1))) then ((idx (List.set (List.set h0 (Int.toNat a) x9) (Int.toNat pivot) x10) s97).bind fun x135=>(idx (List.set (List.set h0 (Int.toNat a) x9) (Int.toNat pivot) x10) a).bind fun x136=>(cmp_Compare_int x135 x136).bind fun r137=>some (decide (r137<0))) else (some false)).bind fun j134=>if j134 then (some (.inl (aL s97 1))) else (some (.inr s97))
noncomputable def sV (a:Int) (pivot:Int) (h0:(List Int)) (x9:Int) (x10:Int) (x138:Int):Int→Option (Int ⊕ Int):=fun s223 =>
  (if (decide (x138≤s223)) then ((idx (List.set (List.set h0 (Int.toNat a) x9) (Int.toNat pivot) x10) s223).bind fun x261=>(idx (List.set (List.set h0 (Int.toNat a) x9) (Int.toNat pivot) x10) a).bind fun x262=>(cmp_Compare_int x261 x262).bind fun r263=>some (!(decide (r263<0)))) else (some false)).bind fun j260=>if j260 then (some (.inl (aJ s223 1))) else (some (.inr s223))
noncomputable def sW (a:Int) (s1361:Int×Int×(List Int)):Int→Option (Int ⊕ Int):=fun s1710 =>
  (if (decide (s1710≤s1361.2.1)) then ((idx s1361.2.2 s1710).bind fun x1748=>(idx s1361.2.2 a).bind fun x1749=>(cmp_Compare_int x1748 x1749).bind fun r1750=>some (decide (r1750<0))) else (some false)).bind fun j1747=>if j1747 then (some (.inl (aL s1710 1))) else (some (.inr s1710))
noncomputable def sZ (a:Int) (s1361:Int×Int×(List Int)) (x1751:Int):Int→Option (Int ⊕ Int):=fun s1836 =>
  (if (decide (x1751≤s1836)) then ((idx s1361.2.2 s1836).bind fun x1874=>(idx s1361.2.2 a).bind fun x1875=>(cmp_Compare_int x1874 x1875).bind fun r1876=>some (!(decide (r1876<0)))) else (some false)).bind fun j1873=>if j1873 then (some (.inl (aJ s1836 1))) else (some (.inr s1836))
noncomputable def tC (a:Int):Int×Int×(List Int)→Option (Int×Int×(List Int) ⊕ Int×(List Int)):=fun s1361 =>
  (aM (sW a s1361) s1361.1).bind fun x1751=>(aM (sZ a s1361 x1751) s1361.2.1).bind fun x1877=>if (decide (x1751>x1877)) then (some (.inr (x1877,s1361.2.2))) else ((idx s1361.2.2 x1877).bind fun x1886=>(idx s1361.2.2 x1751).bind fun x1887=>(idx s1361.2.2 x1751).bind fun x1888=>(idx (List.set s1361.2.2 (Int.toNat x1751) x1886) x1877).bind fun x1889=>some (.inl ((aL x1751 1),(aJ x1877 1),(List.set (List.set s1361.2.2 (Int.toNat x1751) x1886) (Int.toNat x1877) x1887))))
noncomputable def kQ (a:Int) (b:Int) (pivot:Int) (h0:(List Int)):Option (Int×Bool×(List Int)):=
  (idx h0 pivot).bind fun x9=>(idx h0 a).bind fun x10=>(idx h0 a).bind fun x11=>(idx (List.set h0 (Int.toNat a) x9) pivot).bind fun x12=>(aM (sU a b pivot h0 x9 x10) (aL a 1)).bind fun x138=>(aM (sV a pivot h0 x9 x10 x138) (aJ b 1)).bind fun x264=>if (decide (x138>x264)) then ((idx (List.set (List.set h0 (Int.toNat a) x9) (Int.toNat pivot) x10) a).bind fun x285=>(idx (List.set (List.set h0 (Int.toNat a) x9) (Int.toNat pivot) x10) x264).bind fun x286=>(idx (List.set (List.set h0 (Int.toNat a) x9) (Int.toNat pivot) x10) x264).bind fun x287=>(idx (List.set (List.set (List.set h0 (Int.toNat a) x9) (Int.toNat pivot) x10) (Int.toNat x264) x285) a).bind fun x288=>some (x264,true,(List.set (List.set (List.set (List.set h0 (Int.toNat a) x9) (Int.toNat pivot) x10) (Int.toNat x264) x285) (Int.toNat a) x286))) else ((idx (List.set (List.set h0 (Int.toNat a) x9) (Int.toNat pivot) x10) x264).bind fun x297=>(idx (List.set (List.set h0 (Int.toNat a) x9) (Int.toNat pivot) x10) x138).bind fun x298=>(idx (List.set (List.set h0 (Int.toNat a) x9) (Int.toNat pivot) x10) x138).bind fun x299=>(idx (List.set (List.set (List.set h0 (Int.toNat a) x9) (Int.toNat pivot) x10) (Int.toNat x138) x297) x264).bind fun x300=>(aM (tC a) ((aL x138 1),(aJ x264 1),(List.set (List.set (List.set (List.set h0 (Int.toNat a) x9) (Int.toNat pivot) x10) (Int.toNat x138) x297) (Int.toNat x264) x298))).bind fun x1890=>(idx x1890.2 a).bind fun x1899=>(idx x1890.2 x1890.1).bind fun x1900=>(idx x1890.2 x1890.1).bind fun x1901=>(idx (List.set x1890.2 (Int.toNat x1890.1) x1899) a).bind fun x1902=>some (x1890.1,false,(List.set (List.set x1890.2 (Int.toNat x1890.1) x1899) (Int.toNat a) x1900)))
noncomputable def fB (self:Int→Int→Int→(List Int)→Option ((List Int))) (s59:Int×Int×Int×Bool×Bool×(List Int)) (j127:Int×(List Int)) (j132:Int×Int×(List Int)):Bool×Bool×(List Int)→Option (Int×Int×Int×Bool×Bool×(List Int) ⊕ (List Int)):=fun j136 =>
  (if (decide (s59.1>0)) then ((idx j136.2.2 (aJ s59.1 1)).bind fun x156=>(idx j136.2.2 j132.1).bind fun x157=>(cmp_Compare_int x156 x157).bind fun r158=>some (!(decide (r158<0)))) else (some false)).bind fun j155=>if j155 then ((iR s59.1 s59.2.1 j132.1 j136.2.2).bind fun r160=>some (.inl (r160.1,s59.2.1,j127.1,j136.1,j136.2.1,r160.2))) else ((kQ s59.1 s59.2.1 j132.1 j136.2.2).bind fun r162=>if (decide ((aJ r162.1 s59.1)<(aJ s59.2.1 r162.1))) then ((self s59.1 r162.1 j127.1 r162.2.2).bind fun r164=>some (.inl ((aL r162.1 1),s59.2.1,j127.1,(decide ((aJ r162.1 s59.1) ≥ (xN (aJ s59.2.1 s59.1) 8))),r162.2.1,r164))) else ((self (aL r162.1 1) s59.2.1 j127.1 r162.2.2).bind fun r166=>some (.inl (s59.1,r162.1,j127.1,(decide ((aJ s59.2.1 r162.1) ≥ (xN (aJ s59.2.1 s59.1) 8))),r162.2.1,r166))))
noncomputable def fC (self:Int→Int→Int→(List Int)→Option ((List Int))) (s59:Int×Int×Int×Bool×Bool×(List Int)) (j127:Int×(List Int)):Int×Int×(List Int)→Option (Int×Int×Int×Bool×Bool×(List Int) ⊕ (List Int)):=fun j132 =>
  (if s59.2.2.2.1 then (if s59.2.2.2.2.1 then (some (true,true,(j132.2.1==1))) else (some (true,false,false))) else (some (false,s59.2.2.2.2.1,false))).bind fun j167=>if j167.2.2 then ((gF s59.1 s59.2.1 j132.2.2).bind fun r169=>if r169.1 then (some (.inr r169.2)) else (fB self s59 j127 j132 (j167.1,j167.2.1,r169.2))) else (fB self s59 j127 j132 (j167.1,j167.2.1,j132.2.2))
noncomputable def fD (self:Int→Int→Int→(List Int)→Option ((List Int))) (s59:Int×Int×Int×Bool×Bool×(List Int)):Int×(List Int)→Option (Int×Int×Int×Bool×Bool×(List Int) ⊕ (List Int)):=fun j127 =>
  (jR j127.2 s59.1 s59.2.1).bind fun r129=>if (r129.2==2) then ((jI s59.1 s59.2.1 j127.2).bind fun r171=>fC self s59 j127 ((aJ (aJ s59.2.1 1) (aJ r129.1 s59.1)),1,r171)) else (fC self s59 j127 (r129.1,r129.2,j127.2))
noncomputable def uB (self:Int→Int→Int→(List Int)→Option ((List Int))):Int×Int×Int×Bool×Bool×(List Int)→Option (Int×Int×Int×Bool×Bool×(List Int) ⊕ (List Int)):=fun s59 =>
  if (decide ((aJ s59.2.1 s59.1)≤12)) then ((jC s59.1 s59.2.1 s59.2.2.2.2.2).bind fun r120=>some (.inr r120)) else (if (s59.2.2.1==0) then ((kT s59.1 s59.2.1 s59.2.2.2.2.2).bind fun r124=>some (.inr r124)) else (if (!s59.2.2.2.1) then ((jB s59.1 s59.2.1 s59.2.2.2.2.2).bind fun r173=>fD self s59 ((aJ s59.2.2.1 1),r173)) else (fD self s59 (s59.2.2.1,s59.2.2.2.2.2))))
noncomputable def jG (self:Int→Int→Int→(List Int)→Option ((List Int))) (a:Int) (b:Int) (limit:Int) (h0:(List Int)):Option ((List Int)):=
  (aM (uB self) (a,b,limit,true,true,h0)).bind fun x174=>some x174
noncomputable def bK:Nat→Int→Int→Int→(List Int)→Option ((List Int))
  | 0=>fun _ _ _ _=>none
  | n+1=>jG (bK n)
noncomputable def lI (a:Int) (b:Int) (limit:Int) (h0:(List Int)):Option ((List Int)):=bK 1000 a b limit h0
noncomputable def dP (h0:(List Int)):Option ((List Int)):=
  (bits_Len (IntKind.wrap .u64 (h0.length:Int))).bind fun r3=>(lI 0 (h0.length:Int) r3 h0).bind fun r4=>some r4
noncomputable def pW (s1642:Int×Int×(List Int)):Int×(List Int)→Option (Int×Int×(List Int) ⊕ Int×(List Int)):=fun j1674 =>
  some (.inl (j1674.1,(aL s1642.2.1 1),j1674.2))
noncomputable def Ha (h0:(List Int)) (s1127:Int):Int×Int×(List Int)→Option (Int×Int×(List Int) ⊕ Int×(List Int)):=fun s1642 =>
  if (decide (s1642.2.1<((Int.toNat (h0.length:Int)-Int.toNat s1127:Nat):Int))) then ((idx (List.take (Int.toNat (h0.length:Int)-Int.toNat s1127) (List.drop (Int.toNat s1127) s1642.2.2)) s1642.2.1).bind fun x1679=>(idx (List.take (Int.toNat (h0.length:Int)-Int.toNat s1127) (List.drop (Int.toNat s1127) s1642.2.2)) (aJ s1642.2.1 1)).bind fun x1680=>if (x1679 != x1680) then ((idx (List.take (Int.toNat (h0.length:Int)-Int.toNat s1127) (List.drop (Int.toNat s1127) s1642.2.2)) s1642.2.1).bind fun x1683=>(idx s1642.2.2 s1642.1).bind fun x1684=>pW s1642 ((aL s1642.1 1),(List.set s1642.2.2 (Int.toNat s1642.1) x1683))) else (pW s1642 (s1642.1,s1642.2.2))) else (some (.inr (s1642.1,s1642.2.2)))
noncomputable def He (h0:(List Int)):Int→Option (Int ⊕ ((List Int) ⊕ Unit)):=fun s1127 =>
  if (decide (s1127<(h0.length:Int))) then ((idx h0 s1127).bind fun x1552=>(idx h0 (aJ s1127 1)).bind fun x1553=>if (x1552==x1553) then (if (decide ((0:Int)≤s1127)&&(decide (s1127≤(h0.length:Int))&&decide ((h0.length:Int)≤(h0.length:Int)))) then ((aM (Ha h0 s1127) (s1127,1,h0)).bind fun x1685=>if (decide ((0:Int)≤x1685.1)&&(decide (x1685.1≤(x1685.2.length:Int))&&decide ((x1685.2.length:Int)≤(x1685.2.length:Int)))) then ((slc (cpy x1685.2 (Int.toNat x1685.1) (List.replicate (Int.toNat (x1685.2.length:Int)-Int.toNat x1685.1) 0)) 0 x1685.1).bind fun l1687=>some (.inr (.inl l1687))) else none) else none) else (some (.inl (aL s1127 1)))) else (some (.inr (.inr (()))))
noncomputable def uN (h0:(List Int)):Option ((List Int)):=
  if (decide ((h0.length:Int)<2)) then (some h0) else ((aM (He h0) 1).bind fun x1688=>match x1688 with | .inl j1689=>some j1689 | .inr j1690=>some h0)
noncomputable def Um (h0:(List Int)):Option ((List Int)):=
  (dP h0).bind fun r2=>(uN r2).bind fun r4=>some r4
noncomputable def Jv (x1:Int) (y:Int) (x284:Piece):Int→Option (Int ⊕ (Unit ⊕ Unit)):=fun s292 =>
  if (decide (s292<(x284.Rects.length:Int))) then ((idx x284.Rects s292).bind fun x303=>(if (decide (x303.X≤x1)) then (if (decide (x1<(aL x303.X x303.W))) then (if (decide (x303.Y≤y)) then (some (decide (y<(aL x303.Y x303.H)))) else (some false)) else (some false)) else (some false)).bind fun j304=>if j304 then (some (.inr (.inl ()))) else (some (.inl (aL s292 1)))) else (some (.inr (.inr (()))))
noncomputable def Qi (l:LayoutT) (x1:Int) (y:Int):Int→Option (Int ⊕ ((Option Int) ⊕ Unit)):=fun s207 =>
  if (decide (s207<(l.Pieces.length:Int))) then ((idx l.Pieces s207).bind fun x284=>(aM (Jv x1 y x284) 0).bind fun x305=>match x305 with | .inl j306=>some (.inr (.inl (some s207))) | .inr j307=>some (.inl (aL s207 1))) else (some (.inr (.inr (()))))
noncomputable def Fv (l:LayoutT) (x1:Int) (y:Int):Option ((Option Int)):=
  (aM (Qi l x1 y) 0).bind fun x308=>match x308 with | .inl j309=>some j309 | .inr j310=>some none
noncomputable def Ic (x0:Int) (a_0:ByteArray) (a_1:ByteArray) (a_2:Int) (a_3:Int) (a_4:Int) (a_5:Int) (a_6:(List Rect)) (a_7:(List Rect)) (a_8:(List Piece)) (a2_0:Int):Option ((Option Int)×(Option Int)):=
  (Fv (LayoutT.mk (Sheet.mk a_0 a_1 a_2 a_3 a_4 a_5 a_6 a_7) a_8) x0 a2_0).bind fun r5=>(Fv (LayoutT.mk (Sheet.mk a_0 a_1 a_2 a_3 a_4 a_5 a_6 a_7) a_8) x0 (aJ a2_0 1)).bind fun r6=>some (r5,r6)
noncomputable def fP (a:Int):Option (Bool):=
  some true
noncomputable def fM (a:cut_nothing):Option (Bool):=
  some false
noncomputable def Ie (from0:Int) (to1:Int) (a_0:Int):Option (Segment):=
  some (Segment.mk from0 a_0 to1 a_0)
noncomputable def wP (t:(Option Int)):Option (Int):=
  if (Option.isSome t) then (some (Option.getD t 0)) else (some (-1))
noncomputable def Ib (s0:Segment):(Int×Int)→Option (EdgeT×Int×Int):=fun j2 =>
  some ((EdgeT.mk s0 j2.1 j2.2),j2.1,j2.2)
noncomputable def Jy (s0:Segment) (a:Int) (b:Int):Option (EdgeT×Int×Int):=
  (if (decide (a<0)) then (some true) else (if (decide (b ≥ 0)) then (some (decide (b<a))) else (some false))).bind fun j3=>if j3 then (Ib s0 (b,a)) else (Ib s0 (a,b))
noncomputable def iB (s329:Int×(Option Int)×(Option Int)×Int×(List EdgeT)):(Int×(Option Int)×(Option Int)×(List EdgeT))→Option ((Int×(Option Int)×(Option Int)×Int×(List EdgeT)) ⊕ (List EdgeT)):=fun j451 =>
  some (.inl (j451.1,j451.2.1,j451.2.2.1,(aL s329.2.2.2.1 1),j451.2.2.2))
noncomputable def iD (s329:Int×(Option Int)×(Option Int)×Int×(List EdgeT)) (x453:Int) (j456:(Option Int)×(Option Int)):(List EdgeT)→Option ((Int×(Option Int)×(Option Int)×Int×(List EdgeT)) ⊕ (List EdgeT)):=fun j474 =>
  iB s329 (x453,j456.1,j456.2,j474)
noncomputable def iE (line_0_0:Int) (s329:Int×(Option Int)×(Option Int)×Int×(List EdgeT)) (x453:Int):((Option Int)×(Option Int))→Option ((Int×(Option Int)×(Option Int)×Int×(List EdgeT)) ⊕ (List EdgeT)):=fun j456 =>
  (if (j456.1==s329.2.1) then (some (j456.2==s329.2.2.1)) else (some false)).bind fun j458=>if j458 then (iB s329 (s329.1,s329.2.1,s329.2.2.1,s329.2.2.2.2)) else ((if (s329.2.1==s329.2.2.1) then (some false) else ((match s329.2.1 with | some n=>fP n | none=>fM (cut_nothing.mk )).bind fun b478=>if b478 then (some true) else ((match s329.2.2.1 with | some n=>fP n | none=>fM (cut_nothing.mk )).bind fun b479=>some b479))).bind fun j477=>if j477 then ((Ie s329.1 x453 line_0_0).bind fun r485=>(wP s329.2.1).bind fun r486=>(wP s329.2.2.1).bind fun r487=>(Jy r485 r486 r487).bind fun r488=>(app s329.2.2.2.2 [(EdgeT.mk (Segment.mk r488.1.Line.X1 r488.1.Line.Y1 r488.1.Line.X2 r488.1.Line.Y2) r488.1.A r488.1.B)]).bind fun l489=>iD s329 x453 j456 l489) else (iD s329 x453 j456 s329.2.2.2.2))
noncomputable def wL (ends:(List Int)) (sides_0_0:ByteArray) (sides_0_1:ByteArray) (sides_0_2:Int) (sides_0_3:Int) (sides_0_4:Int) (sides_0_5:Int) (sides_0_6:(List Rect)) (sides_0_7:(List Rect)) (sides_0_8:(List Piece)) (sides_1_0:Int) (line_0_0:Int):(Int×(Option Int)×(Option Int)×Int×(List EdgeT))→Option ((Int×(Option Int)×(Option Int)×Int×(List EdgeT)) ⊕ (List EdgeT)):=fun s329 =>
  if (decide (s329.2.2.2.1<(ends.length:Int))) then ((idx ends s329.2.2.2.1).bind fun x453=>if (decide ((aL s329.2.2.2.1 1)<(ends.length:Int))) then ((Ic x453 sides_0_0 sides_0_1 sides_0_2 sides_0_3 sides_0_4 sides_0_5 sides_0_6 sides_0_7 sides_0_8 sides_1_0).bind fun r491=>iE line_0_0 s329 x453 (r491.1,r491.2)) else (iE line_0_0 s329 x453 (none,none))) else (some (.inr s329.2.2.2.2))
noncomputable def fJ (ends:(List Int)) (sides_0_0:ByteArray) (sides_0_1:ByteArray) (sides_0_2:Int) (sides_0_3:Int) (sides_0_4:Int) (sides_0_5:Int) (sides_0_6:(List Rect)) (sides_0_7:(List Rect)) (sides_0_8:(List Piece)) (sides_1_0:Int) (line_0_0:Int):Option ((List EdgeT)):=
  (aM (wL ends sides_0_0 sides_0_1 sides_0_2 sides_0_3 sides_0_4 sides_0_5 sides_0_6 sides_0_7 sides_0_8 sides_1_0 line_0_0) (0,none,none,0,[])).bind fun x492=>some x492
noncomputable def Ig (y:Int) (a_0:ByteArray) (a_1:ByteArray) (a_2:Int) (a_3:Int) (a_4:Int) (a_5:Int) (a_6:(List Rect)) (a_7:(List Rect)) (a_8:(List Piece)) (a2_0:Int):Option ((Option Int)×(Option Int)):=
  (Fv (LayoutT.mk (Sheet.mk a_0 a_1 a_2 a_3 a_4 a_5 a_6 a_7) a_8) a2_0 y).bind fun r5=>(Fv (LayoutT.mk (Sheet.mk a_0 a_1 a_2 a_3 a_4 a_5 a_6 a_7) a_8) (aJ a2_0 1) y).bind fun r6=>some (r5,r6)
noncomputable def Ih (from0:Int) (to1:Int) (a_0:Int):Option (Segment):=
  some (Segment.mk a_0 from0 a_0 to1)
noncomputable def iF (s329:Int×(Option Int)×(Option Int)×Int×(List EdgeT)):(Int×(Option Int)×(Option Int)×(List EdgeT))→Option ((Int×(Option Int)×(Option Int)×Int×(List EdgeT)) ⊕ (List EdgeT)):=fun j451 =>
  some (.inl (j451.1,j451.2.1,j451.2.2.1,(aL s329.2.2.2.1 1),j451.2.2.2))
noncomputable def iG (s329:Int×(Option Int)×(Option Int)×Int×(List EdgeT)) (x453:Int) (j456:(Option Int)×(Option Int)):(List EdgeT)→Option ((Int×(Option Int)×(Option Int)×Int×(List EdgeT)) ⊕ (List EdgeT)):=fun j474 =>
  iF s329 (x453,j456.1,j456.2,j474)
noncomputable def iH (line_0_0:Int) (s329:Int×(Option Int)×(Option Int)×Int×(List EdgeT)) (x453:Int):((Option Int)×(Option Int))→Option ((Int×(Option Int)×(Option Int)×Int×(List EdgeT)) ⊕ (List EdgeT)):=fun j456 =>
  (if (j456.1==s329.2.1) then (some (j456.2==s329.2.2.1)) else (some false)).bind fun j458=>if j458 then (iF s329 (s329.1,s329.2.1,s329.2.2.1,s329.2.2.2.2)) else ((if (s329.2.1==s329.2.2.1) then (some false) else ((match s329.2.1 with | some n=>fP n | none=>fM (cut_nothing.mk )).bind fun b478=>if b478 then (some true) else ((match s329.2.2.1 with | some n=>fP n | none=>fM (cut_nothing.mk )).bind fun b479=>some b479))).bind fun j477=>if j477 then ((Ih s329.1 x453 line_0_0).bind fun r485=>(wP s329.2.1).bind fun r486=>(wP s329.2.2.1).bind fun r487=>(Jy r485 r486 r487).bind fun r488=>(app s329.2.2.2.2 [(EdgeT.mk (Segment.mk r488.1.Line.X1 r488.1.Line.Y1 r488.1.Line.X2 r488.1.Line.Y2) r488.1.A r488.1.B)]).bind fun l489=>iG s329 x453 j456 l489) else (iG s329 x453 j456 s329.2.2.2.2))
noncomputable def wN (ends:(List Int)) (sides_0_0:ByteArray) (sides_0_1:ByteArray) (sides_0_2:Int) (sides_0_3:Int) (sides_0_4:Int) (sides_0_5:Int) (sides_0_6:(List Rect)) (sides_0_7:(List Rect)) (sides_0_8:(List Piece)) (sides_1_0:Int) (line_0_0:Int):(Int×(Option Int)×(Option Int)×Int×(List EdgeT))→Option ((Int×(Option Int)×(Option Int)×Int×(List EdgeT)) ⊕ (List EdgeT)):=fun s329 =>
  if (decide (s329.2.2.2.1<(ends.length:Int))) then ((idx ends s329.2.2.2.1).bind fun x453=>if (decide ((aL s329.2.2.2.1 1)<(ends.length:Int))) then ((Ig x453 sides_0_0 sides_0_1 sides_0_2 sides_0_3 sides_0_4 sides_0_5 sides_0_6 sides_0_7 sides_0_8 sides_1_0).bind fun r491=>iH line_0_0 s329 x453 (r491.1,r491.2)) else (iH line_0_0 s329 x453 (none,none))) else (some (.inr s329.2.2.2.2))
noncomputable def fK (ends:(List Int)) (sides_0_0:ByteArray) (sides_0_1:ByteArray) (sides_0_2:Int) (sides_0_3:Int) (sides_0_4:Int) (sides_0_5:Int) (sides_0_6:(List Rect)) (sides_0_7:(List Rect)) (sides_0_8:(List Piece)) (sides_1_0:Int) (line_0_0:Int):Option ((List EdgeT)):=
  (aM (wN ends sides_0_0 sides_0_1 sides_0_2 sides_0_3 sides_0_4 sides_0_5 sides_0_6 sides_0_7 sides_0_8 sides_1_0 line_0_0) (0,none,none,0,[])).bind fun x492=>some x492
noncomputable def Ec (x458:Piece):(Int×(List Int)×(List Int))→Option ((Int×(List Int)×(List Int)) ⊕ ((List Int)×(List Int))):=fun s472 =>
  if (decide (s472.1<(x458.Rects.length:Int))) then ((idx x458.Rects s472.1).bind fun x492=>(app s472.2.1 [x492.X,(aL x492.X x492.W)]).bind fun l494=>(app s472.2.2 [x492.Y,(aL x492.Y x492.H)]).bind fun l496=>some (.inl ((aL s472.1 1),l494,l496))) else (some (.inr (s472.2.1,s472.2.2)))
noncomputable def zR (l:LayoutT):(Int×(List Int)×(List Int))→Option ((Int×(List Int)×(List Int)) ⊕ ((List Int)×(List Int))):=fun s333 =>
  if (decide (s333.1<(l.Pieces.length:Int))) then ((idx l.Pieces s333.1).bind fun x458=>(aM (Ec x458) (0,s333.2.1,s333.2.2)).bind fun x497=>some (.inl ((aL s333.1 1),x497.1,x497.2))) else (some (.inr (s333.2.1,s333.2.2)))
noncomputable def Ed (l:LayoutT) (r501:(List Int)) (r502:(List Int)):Int×(List EdgeT)→Option (Int×(List EdgeT) ⊕ (List EdgeT)):=fun s555 =>
  if (decide (s555.1<(r502.length:Int))) then ((idx r502 s555.1).bind fun x575=>(fJ r501 l.Sheet.Name l.Sheet.Material l.Sheet.Gauge l.Sheet.Grain l.Sheet.Width l.Sheet.Height l.Sheet.Clamps l.Sheet.Used l.Pieces x575 x575).bind fun r578=>(app s555.2 r578).bind fun l579=>some (.inl ((aL s555.1 1),l579))) else (some (.inr s555.2))
noncomputable def Ee (l:LayoutT) (r501:(List Int)) (r502:(List Int)):Int×(List EdgeT)→Option (Int×(List EdgeT) ⊕ (List EdgeT)):=fun s633 =>
  if (decide (s633.1<(r501.length:Int))) then ((idx r501 s633.1).bind fun x653=>(fK r502 l.Sheet.Name l.Sheet.Material l.Sheet.Gauge l.Sheet.Grain l.Sheet.Width l.Sheet.Height l.Sheet.Clamps l.Sheet.Used l.Pieces x653 x653).bind fun r656=>(app s633.2 r656).bind fun l657=>some (.inl ((aL s633.1 1),l657))) else (some (.inr s633.2))
noncomputable def Jz (l:LayoutT):Option ((List EdgeT)):=
  (aM (zR l) (0,[],[])).bind fun x498=>(Um x498.1).bind fun r501=>(Um x498.2).bind fun r502=>(aM (Ed l r501 r502) (0,[])).bind fun x580=>(aM (Ee l r501 r502) (0,x580)).bind fun x658=>some x658
noncomputable def Bd (l:LayoutT):Option ((List EdgeT)×Int):=
  (uV l).bind fun r4=>if (r4 != 0) then (some ([],r4)) else ((Jz l).bind fun r6=>some (r6,0))
noncomputable def rA (n:Int) (h0:(List Int)):Int→Option (Int ⊕ Int):=fun s29 =>
  (if (decide (s29>0)) then ((idx h0 (aJ s29 1)).bind fun x41=>some (decide (x41>n))) else (some false)).bind fun j40=>if j40 then (some (.inl (aJ s29 1))) else (some (.inr s29))
noncomputable def rD (x42:Int):Int×(List Int)→Option (Int×(List Int) ⊕ (List Int)):=fun s87 =>
  if (decide (s87.1>x42)) then ((idx s87.2 (aJ s87.1 1)).bind fun x102=>(idx s87.2 s87.1).bind fun x103=>some (.inl ((aJ s87.1 1),(List.set s87.2 (Int.toNat s87.1) x102)))) else (some (.inr s87.2))
noncomputable def fZ (n:Int) (h0:(List Int)):Option ((List Int)):=
  (aM (rA n h0) (h0.length:Int)).bind fun x42=>(if (decide (x42>0)) then ((idx h0 (aJ x42 1)).bind fun x48=>some (x48==n)) else (some false)).bind fun j47=>if j47 then (some h0) else ((app h0 [0]).bind fun l50=>(aM (rD x42) ((aJ (l50.length:Int) 1),l50)).bind fun x104=>(idx x104 x42).bind fun x106=>some (List.set x104 (Int.toNat x42) n))
noncomputable def nS (l:(List Rect)):(Int×(List Int)×(List Int))→Option ((Int×(List Int)×(List Int)) ⊕ ((List Int)×(List Int))):=fun s213 =>
  if (decide (s213.1<(l.length:Int))) then ((idx l s213.1).bind fun x294=>(fZ x294.X s213.2.1).bind fun r295=>(idx l s213.1).bind fun x302=>(idx l s213.1).bind fun x303=>(fZ (aL x302.X x303.W) r295).bind fun r304=>(idx l s213.1).bind fun x307=>(fZ x307.Y s213.2.2).bind fun r308=>(idx l s213.1).bind fun x315=>(idx l s213.1).bind fun x316=>(fZ (aL x315.Y x316.H) r308).bind fun r317=>some (.inl ((aL s213.1 1),r304,r317))) else (some (.inr (s213.2.1,s213.2.2)))
noncomputable def sM (l:(List Rect)):Option ((List Int)×(List Int)):=
  (aM (nS l) (0,[],[])).bind fun x318=>some (x318.1,x318.2)
noncomputable def lT (l:(List Rect)) (x1:Int) (y:Int):Int→Option (Int ⊕ (Unit ⊕ Unit)):=fun s31 =>
  if (decide (s31<(l.length:Int))) then ((idx l s31).bind fun x42=>(if (decide (x42.X≤x1)) then (if (decide (x1<(aL x42.X x42.W))) then (if (decide (x42.Y≤y)) then (some (decide (y<(aL x42.Y x42.H)))) else (some false)) else (some false)) else (some false)).bind fun j43=>if j43 then (some (.inr (.inl ()))) else (some (.inl (aL s31 1)))) else (some (.inr (.inr (()))))
noncomputable def oL (l:(List Rect)) (x1:Int) (y:Int):Option (Bool):=
  (aM (lT l x1 y) 0).bind fun x44=>match x44 with | .inl j45=>some true | .inr j46=>some false
noncomputable def nH (regions:(List (List Rect))) (x1:Int) (y:Int):Int→Option (Int ⊕ (Int ⊕ Unit)):=fun s39 =>
  if (decide (s39<(regions.length:Int))) then ((idx regions s39).bind fun x54=>(oL x54 x1 y).bind fun r55=>if r55 then (some (.inr (.inl s39))) else (some (.inl (aL s39 1)))) else (some (.inr (.inr (()))))
noncomputable def qF (regions:(List (List Rect))) (x1:Int) (y:Int):Option (Int):=
  (aM (nH regions x1 y) 0).bind fun x56=>match x56 with | .inl j57=>some j57 | .inr j58=>some (-1)
noncomputable def iY (s1088:Int×(List (List Int))):(List (List Int))→Option (Int×(List (List Int)) ⊕ (List (List Int))):=fun j1150 =>
  some (.inl ((aL s1088.1 1),j1150))
noncomputable def iZ (regions:(List (List Rect))) (xs:(List Int)) (ys:(List Int)) (s651:Int×(List (List Int))):Int×(List (List Int))→Option (Int×(List (List Int)) ⊕ (List (List Int))):=fun s1088 =>
  if (decide (s1088.1≤(ys.length:Int))) then ((idx s1088.2 s651.1).bind fun x1153=>(idx x1153 s1088.1).bind fun x1154=>(if (decide (s651.1>0)) then (if (decide (s1088.1>0)) then (if (decide (s651.1<(xs.length:Int))) then (some (decide (s1088.1<(ys.length:Int)))) else (some false)) else (some false)) else (some false)).bind fun j1155=>if j1155 then ((idx (List.set s1088.2 (Int.toNat s651.1) (List.set x1153 (Int.toNat s1088.1) (-1))) s651.1).bind fun x1166=>(idx xs (aJ s651.1 1)).bind fun x1167=>(idx ys (aJ s1088.1 1)).bind fun x1168=>(qF regions x1167 x1168).bind fun r1169=>(idx x1166 s1088.1).bind fun x1170=>iY s1088 (List.set (List.set s1088.2 (Int.toNat s651.1) (List.set x1153 (Int.toNat s1088.1) (-1))) (Int.toNat s651.1) (List.set x1166 (Int.toNat s1088.1) r1169))) else (iY s1088 (List.set s1088.2 (Int.toNat s651.1) (List.set x1153 (Int.toNat s1088.1) (-1))))) else (some (.inr s1088.2))
noncomputable def lW (regions:(List (List Rect))) (xs:(List Int)) (ys:(List Int)):Int×(List (List Int))→Option (Int×(List (List Int)) ⊕ (List (List Int))):=fun s651 =>
  if (decide (s651.1≤(xs.length:Int))) then ((mk (aL (ys.length:Int) 1) 0).bind fun l1044=>(idx s651.2 s651.1).bind fun x1045=>(aM (iZ regions xs ys s651) (0,(List.set s651.2 (Int.toNat s651.1) l1044))).bind fun x1171=>some (.inl ((aL s651.1 1),x1171))) else (some (.inr s651.2))
noncomputable def oO (regions:(List (List Rect))) (xs:(List Int)) (ys:(List Int)):Option ((List (List Int))):=
  (mk (aL (xs.length:Int) 1) []).bind fun l2=>(aM (lW regions xs ys) (0,l2)).bind fun x1172=>some x1172
noncomputable def bO (x1:sheetmetalref06_Line) (h0:(List sheetmetalref06_Line)):Option ((List sheetmetalref06_Line)):=
  if (x1.Low==x1.High) then (some h0) else ((if (decide ((aJ (h0.length:Int) 1) ≥ 0)) then ((idx h0 (aJ (h0.length:Int) 1)).bind fun x37=>if (x37.Low==x1.Low) then ((idx h0 (aJ (h0.length:Int) 1)).bind fun x38=>if (x38.High==x1.High) then ((idx h0 (aJ (h0.length:Int) 1)).bind fun x39=>if (x39.At.X2==x1.At.X1) then ((idx h0 (aJ (h0.length:Int) 1)).bind fun x40=>if (x40.At.Y2==x1.At.Y1) then ((idx h0 (aJ (h0.length:Int) 1)).bind fun x41=>if (x41.At.Y1==x1.At.Y2) then (some true) else ((idx h0 (aJ (h0.length:Int) 1)).bind fun x42=>some (x42.At.X1==x1.At.X2))) else (some false)) else (some false)) else (some false)) else (some false)) else (some false)).bind fun j36=>if j36 then ((idx h0 (aJ (h0.length:Int) 1)).bind fun x44=>(idx (List.set h0 (Int.toNat (aJ (h0.length:Int) 1)) (sheetmetalref06_Line.mk (Segment.mk x44.At.X1 x44.At.Y1 x1.At.X2 x44.At.Y2) x44.Low x44.High)) (aJ (h0.length:Int) 1)).bind fun x46=>some (List.set (List.set h0 (Int.toNat (aJ (h0.length:Int) 1)) (sheetmetalref06_Line.mk (Segment.mk x44.At.X1 x44.At.Y1 x1.At.X2 x44.At.Y2) x44.Low x44.High)) (Int.toNat (aJ (h0.length:Int) 1)) (sheetmetalref06_Line.mk (Segment.mk x46.At.X1 x46.At.Y1 x46.At.X2 x1.At.Y2) x46.Low x46.High))) else ((app h0 [x1]).bind fun l48=>some l48))
noncomputable def lD (regions:(List (List Rect))):Int×(List Rect)→Option (Int×(List Rect) ⊕ (List Rect)):=fun s37 =>
  if (decide (s37.1<(regions.length:Int))) then ((idx regions s37.1).bind fun x52=>(app s37.2 x52).bind fun l53=>some (.inl ((aL s37.1 1),l53))) else (some (.inr s37.2))
noncomputable def iL (r56:(List Int)×(List Int)) (r58:(List (List Int))) (s1383:Int×(List sheetmetalref06_Line)):Int×(List sheetmetalref06_Line)→Option (Int×(List sheetmetalref06_Line) ⊕ (List sheetmetalref06_Line)):=fun s1934 =>
  if (decide ((aL s1934.1 1)<(r56.1.length:Int))) then ((idx r56.1 s1934.1).bind fun x2034=>(idx r56.2 s1383.1).bind fun x2035=>(idx r56.1 (aL s1934.1 1)).bind fun x2036=>(idx r56.2 s1383.1).bind fun x2037=>(idx r58 (aL s1934.1 1)).bind fun x2038=>(idx x2038 s1383.1).bind fun x2039=>(idx r58 (aL s1934.1 1)).bind fun x2040=>(idx x2040 (aL s1383.1 1)).bind fun x2041=>(bO (sheetmetalref06_Line.mk (Segment.mk x2034 x2035 x2036 x2037) x2039 x2041) s1934.2).bind fun r2042=>some (.inl ((aL s1934.1 1),r2042))) else (some (.inr s1934.2))
noncomputable def iM (r56:(List Int)×(List Int)) (r58:(List (List Int))):Int×(List sheetmetalref06_Line)→Option (Int×(List sheetmetalref06_Line) ⊕ (List sheetmetalref06_Line)):=fun s1383 =>
  if (decide (s1383.1<(r56.2.length:Int))) then ((aM (iL r56 r58 s1383) (0,s1383.2)).bind fun x2043=>some (.inl ((aL s1383.1 1),x2043))) else (some (.inr s1383.2))
noncomputable def iN (r56:(List Int)×(List Int)) (r58:(List (List Int))) (s3369:Int×(List sheetmetalref06_Line)):Int×(List sheetmetalref06_Line)→Option (Int×(List sheetmetalref06_Line) ⊕ (List sheetmetalref06_Line)):=fun s3920 =>
  if (decide ((aL s3920.1 1)<(r56.2.length:Int))) then ((idx r56.1 s3369.1).bind fun x4020=>(idx r56.2 s3920.1).bind fun x4021=>(idx r56.1 s3369.1).bind fun x4022=>(idx r56.2 (aL s3920.1 1)).bind fun x4023=>(idx r58 s3369.1).bind fun x4024=>(idx x4024 (aL s3920.1 1)).bind fun x4025=>(idx r58 (aL s3369.1 1)).bind fun x4026=>(idx x4026 (aL s3920.1 1)).bind fun x4027=>(bO (sheetmetalref06_Line.mk (Segment.mk x4020 x4021 x4022 x4023) x4025 x4027) s3920.2).bind fun r4028=>some (.inl ((aL s3920.1 1),r4028))) else (some (.inr s3920.2))
noncomputable def iO (r56:(List Int)×(List Int)) (r58:(List (List Int))):Int×(List sheetmetalref06_Line)→Option (Int×(List sheetmetalref06_Line) ⊕ (List sheetmetalref06_Line)):=fun s3369 =>
  if (decide (s3369.1<(r56.1.length:Int))) then ((aM (iN r56 r58 s3369) (0,s3369.2)).bind fun x4029=>some (.inl ((aL s3369.1 1),x4029))) else (some (.inr s3369.2))
noncomputable def kE (regions:(List (List Rect))):Option ((List sheetmetalref06_Line)):=
  (aM (lD regions) (0,[])).bind fun x54=>(sM x54).bind fun r56=>(oO regions r56.1 r56.2).bind fun r58=>(aM (iM r56 r58) (0,[])).bind fun x2044=>(aM (iO r56 r58) (0,x2044)).bind fun x4030=>some x4030
noncomputable def nL (l:LayoutT):Int×(List (List Rect))→Option (Int×(List (List Rect)) ⊕ (List (List Rect))):=fun s37 =>
  if (decide (s37.1<(l.Pieces.length:Int))) then ((idx l.Pieces s37.1).bind fun x52=>(app s37.2 [x52.Rects]).bind fun l53=>some (.inl ((aL s37.1 1),l53))) else (some (.inr s37.2))
noncomputable def nK (r56:(List sheetmetalref06_Line)) (s197:Int×(List EdgeT)):(Int×Int)→Option (Int×(List EdgeT) ⊕ (List EdgeT)):=fun j261 =>
  (idx r56 s197.1).bind fun x264=>(app s197.2 [(EdgeT.mk x264.At j261.1 j261.2)]).bind fun l265=>some (.inl ((aL s197.1 1),l265))
noncomputable def nM (r56:(List sheetmetalref06_Line)):Int×(List EdgeT)→Option (Int×(List EdgeT) ⊕ (List EdgeT)):=fun s197 =>
  if (decide (s197.1<(r56.length:Int))) then ((idx r56 s197.1).bind fun x257=>(idx r56 s197.1).bind fun x258=>(idx r56 s197.1).bind fun x259=>(idx r56 s197.1).bind fun x260=>if (decide ((mY x257.Low x258.High)<0)) then (nK r56 s197 ((eU x259.Low x260.High),(mY x257.Low x258.High))) else (nK r56 s197 ((mY x257.Low x258.High),(eU x259.Low x260.High)))) else (some (.inr s197.2))
noncomputable def fE (l:LayoutT):Option ((List EdgeT)):=
  (aM (nL l) (0,[])).bind fun x54=>(kE x54).bind fun r56=>(aM (nM r56) (0,[])).bind fun x266=>some x266
noncomputable def Au (l:LayoutT):Option ((List EdgeT)×Int):=
  (dG l).bind fun r2=>if (r2 != 0) then (some ([],r2)) else ((fE l).bind fun r4=>some (r4,0))
end Go.SM
