/- What the functions compute, part 2. -/
import Derived.Test.YtgfjbgoehhnaeaaGreatPl1
import Derived.Lib.IndexMore
set_option linter.unusedVariables false
set_option linter.unusedSimpArgs false
set_option linter.unusedSectionVars false
namespace Go.SM
open Go Go.VI
noncomputable def Kq:(Int×Int)→Option (Int):=fun j3 =>
 (Rn (ByteArray.mk #[0,1,2,2,3,3,3,3,4,4,4,4,4,4,4,4,5,5,5,5,5,5,5,5,5,5,5,5,5,5,5,5,6,6,6,6,6,6,6,6,6,6,6,6,6,6,6,6,6,6,6,6,6,6,6,6,6,6,6,6,6,6,6,6,7,7,7,7,7,7,7,7,7,7,7,7,7,7,7,7,7,7,7,7,7,7,7,7,7,7,7,7,7,7,7,7,7,7,7,7,7,7,7,7,7,7,7,7,7,7,7,7,7,7,7,7,7,7,7,7,7,7,7,7,7,7,7,7,8,8,8,8,8,8,8,8,8,8,8,8,8,8,8,8,8,8,8,8,8,8,8,8,8,8,8,8,8,8,8,8,8,8,8,8,8,8,8,8,8,8,8,8,8,8,8,8,8,8,8,8,8,8,8,8,8,8,8,8,8,8,8,8,8,8,8,8,8,8,8,8,8,8,8,8,8,8,8,8,8,8,8,8,8,8,8,8,8,8,8,8,8,8,8,8,8,8,8,8,8,8,8,8,8,8,8,8,8,8,8,8,8,8,8,8,8,8,8,8,8,8,8,8,8,8,8,8]) (IntKind.wrap .u8 j3.1)).bind fun x5=>some (aL j3.2 (IntKind.wrap .i64 x5))
noncomputable def Kr:(Int×Int)→Option (Int):=fun j2 =>
 if (decide (j2.1 ≥ 256)) then (Kq ((Int.fdiv j2.1 (2^(min (Int.toNat 8) 64))),(aL j2.2 8))) else (Kq (j2.1,j2.2))
noncomputable def Kt:(Int×Int)→Option (Int):=fun j1 =>
 if (decide (j1.1 ≥ 65536)) then (Kr ((Int.fdiv j1.1 (2^(min (Int.toNat 16) 64))),(aL j1.2 16))) else (Kr (j1.1,j1.2))
noncomputable def bits_Len64 (x0:Int):Option (Int):=
 if (decide (x0 ≥ 4294967296)) then (Kt ((Int.fdiv x0 (2^(min (Int.toNat 32) 64))),32)) else (Kt (x0,0))
noncomputable def bits_Len (x0:Int):Option (Int):=
 (bits_Len64 x0).bind fun r2=>some r2
noncomputable def cmp_isNaN_int (x0:Int):Option (Bool):=
 some (x0 != x0)
noncomputable def cmp_Compare_int (x0:Int) (y:Int):Option (Int):=
 (cmp_isNaN_int x0).bind fun r2=>(cmp_isNaN_int y).bind fun r4=>if r2 then (if r4 then (some 0) else (some (-1))) else (if r4 then (some 1) else (if (decide (x0<y)) then (some (-1)) else (if (decide (x0>y)) then (some 1) else (some 0))))
noncomputable def qO (a:Int):Int×(List Int)→Option (Int×(List Int) ⊕ (List Int)):=fun s723 =>
 (if (decide (s723.1>a)) then ((idx s723.2 s723.1).bind fun x785=>(idx s723.2 (aJ s723.1 1)).bind fun x786=>(cmp_Compare_int x785 x786).bind fun r787=>some (decide (r787<0))) else (some false)).bind fun j784=>if j784 then ((idx s723.2 (aJ s723.1 1)).bind fun x808=>(idx s723.2 s723.1).bind fun x809=>(idx s723.2 s723.1).bind fun x810=>(idx (List.set s723.2 (Int.toNat s723.1) x808) (aJ s723.1 1)).bind fun x811=>some (.inl ((aJ s723.1 1),(List.set (List.set s723.2 (Int.toNat s723.1) x808) (Int.toNat (aJ s723.1 1)) x809)))) else (some (.inr s723.2))
noncomputable def qQ (a:Int) (b:Int):Int×(List Int)→Option (Int×(List Int) ⊕ (List Int)):=fun s272 =>
 if (decide (s272.1<b)) then ((aK (qO a) (s272.1,s272.2)).bind fun x812=>some (.inl ((aL s272.1 1),x812))) else (some (.inr s272.2))
noncomputable def jL (a:Int) (b:Int) (h0:(List Int)):Option ((List Int)):=
 (aK (qQ a b) ((aL a 1),h0)).bind fun x813=>some x813
noncomputable def fI (first:Int) (s53:Int×(List Int)):Int→Option (Int×(List Int) ⊕ ((List Int) ⊕ (List Int))):=fun j115 =>
 (idx s53.2 (aL first s53.1)).bind fun x131=>(idx s53.2 (aL first j115)).bind fun x132=>(cmp_Compare_int x131 x132).bind fun r133=>if (!(decide (r133<0))) then (some (.inr (.inr s53.2))) else ((idx s53.2 (aL first j115)).bind fun x142=>(idx s53.2 (aL first s53.1)).bind fun x143=>(idx s53.2 (aL first s53.1)).bind fun x144=>(idx (List.set s53.2 (Int.toNat (aL first s53.1)) x142) (aL first j115)).bind fun x145=>some (.inl (j115,(List.set (List.set s53.2 (Int.toNat (aL first s53.1)) x142) (Int.toNat (aL first j115)) x143))))
noncomputable def uV (hi:Int) (first:Int):Int×(List Int)→Option (Int×(List Int) ⊕ ((List Int) ⊕ (List Int))):=fun s53 =>
 if (decide ((aL (lZ 2 s53.1) 1) ≥ hi)) then (some (.inr (.inl s53.2))) else ((if (decide ((aL (aL (lZ 2 s53.1) 1) 1)<hi)) then ((idx s53.2 (aL first (aL (lZ 2 s53.1) 1))).bind fun x153=>(idx s53.2 (aL (aL first (aL (lZ 2 s53.1) 1)) 1)).bind fun x154=>(cmp_Compare_int x153 x154).bind fun r155=>some (decide (r155<0))) else (some false)).bind fun j152=>if j152 then (fI first s53 (aL (aL (lZ 2 s53.1) 1) 1)) else (fI first s53 (aL (lZ 2 s53.1) 1)))
noncomputable def gI (lo:Int) (hi:Int) (first:Int) (h0:(List Int)):Option ((List Int)):=
 (aK (uV hi first) (lo,h0)).bind fun x156=>match x156 with | .inl j157=>some j157 | .inr j158=>some j158
noncomputable def uS (a:Int) (b:Int):Int×(List Int)→Option (Int×(List Int) ⊕ (List Int)):=fun s21 =>
 if (decide (s21.1 ≥ 0)) then ((gI s21.1 (aJ b a) a s21.2).bind fun r29=>some (.inl ((aJ s21.1 1),r29))) else (some (.inr s21.2))
noncomputable def uT (a:Int):Int×(List Int)→Option (Int×(List Int) ⊕ (List Int)):=fun s60 =>
 if (decide (s60.1 ≥ 0)) then ((idx s60.2 (aL a s60.1)).bind fun x111=>(idx s60.2 a).bind fun x112=>(idx s60.2 a).bind fun x113=>(idx (List.set s60.2 (Int.toNat a) x111) (aL a s60.1)).bind fun x114=>(gI 0 s60.1 a (List.set (List.set s60.2 (Int.toNat a) x111) (Int.toNat (aL a s60.1)) x112)).bind fun r116=>some (.inl ((aJ s60.1 1),r116))) else (some (.inr s60.2))
noncomputable def lH (a:Int) (b:Int) (h0:(List Int)):Option ((List Int)):=
 (aK (uS a b) ((yP (aJ (aJ b a) 1) 2),h0)).bind fun x30=>(aK (uT a) ((aJ (aJ b a) 1),x30)).bind fun x117=>some x117
noncomputable def Da (length:Int):Option (Int):=
 (bits_Len (IntKind.wrap .u64 length)).bind fun r2=>if (decide (0≤r2)) then (some (IntKind.wrap .u64 (1*2^(min (Int.toNat r2) 64)))) else none
noncomputable def Eu (h0_0:Int):Option (Int):=
 some (kI .u64 (kI .u64 (kI .u64 h0_0 (IntKind.wrap .u64 (h0_0*2^(min (Int.toNat 13) 64)))) (Int.fdiv (kI .u64 h0_0 (IntKind.wrap .u64 (h0_0*2^(min (Int.toNat 13) 64)))) (2^(min (Int.toNat 7) 64)))) (IntKind.wrap .u64 ((kI .u64 (kI .u64 h0_0 (IntKind.wrap .u64 (h0_0*2^(min (Int.toNat 13) 64)))) (Int.fdiv (kI .u64 h0_0 (IntKind.wrap .u64 (h0_0*2^(min (Int.toNat 13) 64)))) (2^(min (Int.toNat 7) 64))))*2^(min (Int.toNat 17) 64))))
noncomputable def dW (a:Int) (s34:Int×Int×(List Int)):Int→Option (Int×Int×(List Int) ⊕ (List Int)):=fun j82 =>
 (idx s34.2.2 (aL a j82)).bind fun x91=>(idx s34.2.2 s34.1).bind fun x92=>(idx s34.2.2 s34.1).bind fun x93=>(idx (List.set s34.2.2 (Int.toNat s34.1) x91) (aL a j82)).bind fun x94=>some (.inl ((aL s34.1 1),(kI .u64 (kI .u64 (kI .u64 s34.2.1 (IntKind.wrap .u64 (s34.2.1*2^(min (Int.toNat 13) 64)))) (Int.fdiv (kI .u64 s34.2.1 (IntKind.wrap .u64 (s34.2.1*2^(min (Int.toNat 13) 64)))) (2^(min (Int.toNat 7) 64)))) (IntKind.wrap .u64 ((kI .u64 (kI .u64 s34.2.1 (IntKind.wrap .u64 (s34.2.1*2^(min (Int.toNat 13) 64)))) (Int.fdiv (kI .u64 s34.2.1 (IntKind.wrap .u64 (s34.2.1*2^(min (Int.toNat 13) 64)))) (2^(min (Int.toNat 7) 64))))*2^(min (Int.toNat 17) 64)))),(List.set (List.set s34.2.2 (Int.toNat s34.1) x91) (Int.toNat (aL a j82)) x92)))
noncomputable def qJ (a:Int) (b:Int) (r2:Int):Int×Int×(List Int)→Option (Int×Int×(List Int) ⊕ (List Int)):=fun s34 =>
 if (decide (s34.1≤(aL (aL a (lZ (yP (aJ b a) 4) 2)) 1))) then ((Eu s34.2.1).bind fun r81=>if (decide ((IntKind.wrap .i64 (Wn .u64 r81 (IntKind.wrap .u64 (r2-1)))) ≥ (aJ b a))) then (dW a s34 (aJ (IntKind.wrap .i64 (Wn .u64 r81 (IntKind.wrap .u64 (r2-1)))) (aJ b a))) else (dW a s34 (IntKind.wrap .i64 (Wn .u64 r81 (IntKind.wrap .u64 (r2-1)))))) else (some (.inr s34.2.2))
noncomputable def jK (a:Int) (b:Int) (h0:(List Int)):Option ((List Int)):=
 if (decide ((aJ b a) ≥ 8)) then ((Da (aJ b a)).bind fun r2=>(aK (qJ a b r2) ((aJ (aL a (lZ (yP (aJ b a) 4) 2)) 1),(IntKind.wrap .u64 (aJ b a)),h0)).bind fun x95=>some x95) else (some h0)
noncomputable def eB (data:(List Int)) (a:Int) (b:Int) (h0_0:Int):Option (Int×Int×Int):=
 (idx data b).bind fun x16=>(idx data a).bind fun x17=>(cmp_Compare_int x16 x17).bind fun r18=>if (decide (r18<0)) then (some (b,a,(aL h0_0 1))) else (some (a,b,h0_0))
noncomputable def gW (data:(List Int)) (a:Int) (b:Int) (c:Int) (h0_0:Int):Option (Int×Int):=
 (eB data a b h0_0).bind fun r2=>(eB data r2.2.1 c r2.2.2).bind fun r4=>(eB data r2.1 r4.1 r4.2.2).bind fun r6=>some (r6.2.1,r6.2.2)
noncomputable def bR (data:(List Int)) (a:Int) (h0_0:Int):Option (Int×Int):=
 (gW data (aJ a 1) a (aL a 1) h0_0).bind fun r2=>some (r2.1,r2.2)
noncomputable def eH:(Int×Int)→Option (Int×Int):=fun j16 =>
 if (j16.2==0) then (some (j16.1,1)) else (if (j16.2==12) then (some (j16.1,2)) else (some (j16.1,0)))
noncomputable def eO (data:(List Int)):(Int×Int×Int×Int)→Option (Int×Int):=fun j23 =>
 (gW data j23.1 j23.2.1 j23.2.2.1 j23.2.2.2).bind fun r25=>eH (r25.1,r25.2)
noncomputable def kG (data:(List Int)) (a:Int) (b:Int):Option (Int×Int):=
 if (decide ((aJ b a) ≥ 8)) then (if (decide ((aJ b a) ≥ 50)) then ((bR data (aL a (lZ (yP (aJ b a) 4) 1)) 0).bind fun r27=>(bR data (aL a (lZ (yP (aJ b a) 4) 2)) r27.2).bind fun r29=>(bR data (aL a (lZ (yP (aJ b a) 4) 3)) r29.2).bind fun r31=>eO data (r27.1,r29.1,r31.1,r31.2)) else (eO data ((aL a (lZ (yP (aJ b a) 4) 1)),(aL a (lZ (yP (aJ b a) 4) 2)),(aL a (lZ (yP (aJ b a) 4) 3)),0))) else (eH ((aL a (lZ (yP (aJ b a) 4) 2)),0))
noncomputable def rP:Int×Int×(List Int)→Option (Int×Int×(List Int) ⊕ (List Int)):=fun s14 =>
 if (decide (s14.1<s14.2.1)) then ((idx s14.2.2 s14.2.1).bind fun x35=>(idx s14.2.2 s14.1).bind fun x36=>(idx s14.2.2 s14.1).bind fun x37=>(idx (List.set s14.2.2 (Int.toNat s14.1) x35) s14.2.1).bind fun x38=>some (.inl ((aL s14.1 1),(aJ s14.2.1 1),(List.set (List.set s14.2.2 (Int.toNat s14.1) x35) (Int.toNat s14.2.1) x36)))) else (some (.inr s14.2.2))
noncomputable def jT (a:Int) (b:Int) (h0:(List Int)):Option ((List Int)):=
 (aK (rP) (a,(aJ b 1),h0)).bind fun x39=>some x39
noncomputable def bX (s5515:Int×Int×(List Int)):Int×(List Int)→Option (Int×Int×(List Int) ⊕ (Bool×(List Int) ⊕ (List Int))):=fun j7581 =>
 some (.inl (j7581.1,(aL s5515.2.1 1),j7581.2))
noncomputable def nE (b:Int) (s5515:Int×Int×(List Int)):Int→Option (Int ⊕ Int):=fun s7666 =>
 (if (decide (s7666<b)) then ((idx s5515.2.2 s7666).bind fun x7704=>(idx s5515.2.2 (aJ s7666 1)).bind fun x7705=>(cmp_Compare_int x7704 x7705).bind fun r7706=>some (!(decide (r7706<0)))) else (some false)).bind fun j7703=>if j7703 then (some (.inl (aL s7666 1))) else (some (.inr s7666))
noncomputable def nG (b:Int):Int×(List Int)→Option (Int×(List Int) ⊕ (List Int)):=fun s7965 =>
 if (decide (s7965.1<b)) then ((idx s7965.2 s7965.1).bind fun x8071=>(idx s7965.2 (aJ s7965.1 1)).bind fun x8072=>(cmp_Compare_int x8071 x8072).bind fun r8073=>if (!(decide (r8073<0))) then (some (.inr s7965.2)) else ((idx s7965.2 (aJ s7965.1 1)).bind fun x8082=>(idx s7965.2 s7965.1).bind fun x8083=>(idx s7965.2 s7965.1).bind fun x8084=>(idx (List.set s7965.2 (Int.toNat s7965.1) x8082) (aJ s7965.1 1)).bind fun x8085=>some (.inl ((aL s7965.1 1),(List.set (List.set s7965.2 (Int.toNat s7965.1) x8082) (Int.toNat (aJ s7965.1 1)) x8083))))) else (some (.inr s7965.2))
noncomputable def bY (b:Int) (s5515:Int×Int×(List Int)) (x7707:Int):(List Int)→Option (Int×Int×(List Int) ⊕ (Bool×(List Int) ⊕ (List Int))):=fun j7903 =>
 if (decide ((aJ b x7707) ≥ 2)) then ((aK (nG b) ((aL x7707 1),j7903)).bind fun x8086=>bX s5515 (x7707,x8086)) else (bX s5515 (x7707,j7903))
noncomputable def nH:Int×(List Int)→Option (Int×(List Int) ⊕ (List Int)):=fun s8148 =>
 if (decide (s8148.1 ≥ 1)) then ((idx s8148.2 s8148.1).bind fun x8254=>(idx s8148.2 (aJ s8148.1 1)).bind fun x8255=>(cmp_Compare_int x8254 x8255).bind fun r8256=>if (!(decide (r8256<0))) then (some (.inr s8148.2)) else ((idx s8148.2 (aJ s8148.1 1)).bind fun x8265=>(idx s8148.2 s8148.1).bind fun x8266=>(idx s8148.2 s8148.1).bind fun x8267=>(idx (List.set s8148.2 (Int.toNat s8148.1) x8265) (aJ s8148.1 1)).bind fun x8268=>some (.inl ((aJ s8148.1 1),(List.set (List.set s8148.2 (Int.toNat s8148.1) x8265) (Int.toNat (aJ s8148.1 1)) x8266))))) else (some (.inr s8148.2))
noncomputable def nI (a:Int) (b:Int):Int×Int×(List Int)→Option (Int×Int×(List Int) ⊕ (Bool×(List Int) ⊕ (List Int))):=fun s5515 =>
 if (decide (s5515.2.1<5)) then ((aK (nE b s5515) s5515.1).bind fun x7707=>if (x7707==b) then (some (.inr (.inl (true,s5515.2.2)))) else (if (decide ((aJ b a)<50)) then (some (.inr (.inl (false,s5515.2.2)))) else ((idx s5515.2.2 (aJ x7707 1)).bind fun x7716=>(idx s5515.2.2 x7707).bind fun x7717=>(idx s5515.2.2 x7707).bind fun x7718=>(idx (List.set s5515.2.2 (Int.toNat x7707) x7716) (aJ x7707 1)).bind fun x7719=>if (decide ((aJ x7707 a) ≥ 2)) then ((aK (nH) ((aJ x7707 1),(List.set (List.set s5515.2.2 (Int.toNat x7707) x7716) (Int.toNat (aJ x7707 1)) x7717))).bind fun x8269=>bY b s5515 x7707 x8269) else (bY b s5515 x7707 (List.set (List.set s5515.2.2 (Int.toNat x7707) x7716) (Int.toNat (aJ x7707 1)) x7717))))) else (some (.inr (.inr s5515.2.2)))
noncomputable def gU (a:Int) (b:Int) (h0:(List Int)):Option (Bool×(List Int)):=
 (aK (nI a b) ((aL a 1),0,h0)).bind fun x8270=>match x8270 with | .inl j8271=>some (j8271.1,j8271.2) | .inr j8272=>some (false,j8272)
noncomputable def pY (a:Int) (s1073:Int×Int×(List Int)):Int→Option (Int ⊕ Int):=fun s1422 =>
 (if (decide (s1422≤s1073.2.1)) then ((idx s1073.2.2 a).bind fun x1460=>(idx s1073.2.2 s1422).bind fun x1461=>(cmp_Compare_int x1460 x1461).bind fun r1462=>some (!(decide (r1462<0)))) else (some false)).bind fun j1459=>if j1459 then (some (.inl (aL s1422 1))) else (some (.inr s1422))
noncomputable def qD (a:Int) (s1073:Int×Int×(List Int)) (x1463:Int):Int→Option (Int ⊕ Int):=fun s1548 =>
 (if (decide (x1463≤s1548)) then ((idx s1073.2.2 a).bind fun x1586=>(idx s1073.2.2 s1548).bind fun x1587=>(cmp_Compare_int x1586 x1587).bind fun r1588=>some (decide (r1588<0))) else (some false)).bind fun j1585=>if j1585 then (some (.inl (aJ s1548 1))) else (some (.inr s1548))
noncomputable def qE (a:Int):Int×Int×(List Int)→Option (Int×Int×(List Int) ⊕ Int×(List Int)):=fun s1073 =>
 (aK (pY a s1073) s1073.1).bind fun x1463=>(aK (qD a s1073 x1463) s1073.2.1).bind fun x1589=>if (decide (x1463>x1589)) then (some (.inr (x1463,s1073.2.2))) else ((idx s1073.2.2 x1589).bind fun x1598=>(idx s1073.2.2 x1463).bind fun x1599=>(idx s1073.2.2 x1463).bind fun x1600=>(idx (List.set s1073.2.2 (Int.toNat x1463) x1598) x1589).bind fun x1601=>some (.inl ((aL x1463 1),(aJ x1589 1),(List.set (List.set s1073.2.2 (Int.toNat x1463) x1598) (Int.toNat x1589) x1599))))
noncomputable def jB (a:Int) (b:Int) (pivot:Int) (h0:(List Int)):Option (Int×(List Int)):=
 (idx h0 pivot).bind fun x9=>(idx h0 a).bind fun x10=>(idx h0 a).bind fun x11=>(idx (List.set h0 (Int.toNat a) x9) pivot).bind fun x12=>(aK (qE a) ((aL a 1),(aJ b 1),(List.set (List.set h0 (Int.toNat a) x9) (Int.toNat pivot) x10))).bind fun x1602=>some (x1602.1,x1602.2)
noncomputable def uC (a:Int) (b:Int) (pivot:Int) (h0:(List Int)) (x9:Int) (x10:Int):Int→Option (Int ⊕ Int):=fun s97 =>
 (if (decide (s97≤(aJ b 1))) then ((idx (List.set (List.set h0 (Int.toNat a) x9) (Int.toNat pivot) x10) s97).bind fun x135=>(idx (List.set (List.set h0 (Int.toNat a) x9) (Int.toNat pivot) x10) a).bind fun x136=>(cmp_Compare_int x135 x136).bind fun r137=>some (decide (r137<0))) else (some false)).bind fun j134=>if j134 then (some (.inl (aL s97 1))) else (some (.inr s97))
noncomputable def uD (a:Int) (pivot:Int) (h0:(List Int)) (x9:Int) (x10:Int) (x138:Int):Int→Option (Int ⊕ Int):=fun s223 =>
 (if (decide (x138≤s223)) then ((idx (List.set (List.set h0 (Int.toNat a) x9) (Int.toNat pivot) x10) s223).bind fun x261=>(idx (List.set (List.set h0 (Int.toNat a) x9) (Int.toNat pivot) x10) a).bind fun x262=>(cmp_Compare_int x261 x262).bind fun r263=>some (!(decide (r263<0)))) else (some false)).bind fun j260=>if j260 then (some (.inl (aJ s223 1))) else (some (.inr s223))
noncomputable def uE (a:Int) (s1361:Int×Int×(List Int)):Int→Option (Int ⊕ Int):=fun s1710 =>
 (if (decide (s1710≤s1361.2.1)) then ((idx s1361.2.2 s1710).bind fun x1748=>(idx s1361.2.2 a).bind fun x1749=>(cmp_Compare_int x1748 x1749).bind fun r1750=>some (decide (r1750<0))) else (some false)).bind fun j1747=>if j1747 then (some (.inl (aL s1710 1))) else (some (.inr s1710))
noncomputable def uF (a:Int) (s1361:Int×Int×(List Int)) (x1751:Int):Int→Option (Int ⊕ Int):=fun s1836 =>
 (if (decide (x1751≤s1836)) then ((idx s1361.2.2 s1836).bind fun x1874=>(idx s1361.2.2 a).bind fun x1875=>(cmp_Compare_int x1874 x1875).bind fun r1876=>some (!(decide (r1876<0)))) else (some false)).bind fun j1873=>if j1873 then (some (.inl (aJ s1836 1))) else (some (.inr s1836))
noncomputable def uG (a:Int):Int×Int×(List Int)→Option (Int×Int×(List Int) ⊕ Int×(List Int)):=fun s1361 =>
 (aK (uE a s1361) s1361.1).bind fun x1751=>(aK (uF a s1361 x1751) s1361.2.1).bind fun x1877=>if (decide (x1751>x1877)) then (some (.inr (x1877,s1361.2.2))) else ((idx s1361.2.2 x1877).bind fun x1886=>(idx s1361.2.2 x1751).bind fun x1887=>(idx s1361.2.2 x1751).bind fun x1888=>(idx (List.set s1361.2.2 (Int.toNat x1751) x1886) x1877).bind fun x1889=>some (.inl ((aL x1751 1),(aJ x1877 1),(List.set (List.set s1361.2.2 (Int.toNat x1751) x1886) (Int.toNat x1877) x1887))))
noncomputable def lD (a:Int) (b:Int) (pivot:Int) (h0:(List Int)):Option (Int×Bool×(List Int)):=
 (idx h0 pivot).bind fun x9=>(idx h0 a).bind fun x10=>(idx h0 a).bind fun x11=>(idx (List.set h0 (Int.toNat a) x9) pivot).bind fun x12=>(aK (uC a b pivot h0 x9 x10) (aL a 1)).bind fun x138=>(aK (uD a pivot h0 x9 x10 x138) (aJ b 1)).bind fun x264=>if (decide (x138>x264)) then ((idx (List.set (List.set h0 (Int.toNat a) x9) (Int.toNat pivot) x10) a).bind fun x285=>(idx (List.set (List.set h0 (Int.toNat a) x9) (Int.toNat pivot) x10) x264).bind fun x286=>(idx (List.set (List.set h0 (Int.toNat a) x9) (Int.toNat pivot) x10) x264).bind fun x287=>(idx (List.set (List.set (List.set h0 (Int.toNat a) x9) (Int.toNat pivot) x10) (Int.toNat x264) x285) a).bind fun x288=>some (x264,true,(List.set (List.set (List.set (List.set h0 (Int.toNat a) x9) (Int.toNat pivot) x10) (Int.toNat x264) x285) (Int.toNat a) x286))) else ((idx (List.set (List.set h0 (Int.toNat a) x9) (Int.toNat pivot) x10) x264).bind fun x297=>(idx (List.set (List.set h0 (Int.toNat a) x9) (Int.toNat pivot) x10) x138).bind fun x298=>(idx (List.set (List.set h0 (Int.toNat a) x9) (Int.toNat pivot) x10) x138).bind fun x299=>(idx (List.set (List.set (List.set h0 (Int.toNat a) x9) (Int.toNat pivot) x10) (Int.toNat x138) x297) x264).bind fun x300=>(aK (uG a) ((aL x138 1),(aJ x264 1),(List.set (List.set (List.set (List.set h0 (Int.toNat a) x9) (Int.toNat pivot) x10) (Int.toNat x138) x297) (Int.toNat x264) x298))).bind fun x1890=>(idx x1890.2 a).bind fun x1899=>(idx x1890.2 x1890.1).bind fun x1900=>(idx x1890.2 x1890.1).bind fun x1901=>(idx (List.set x1890.2 (Int.toNat x1890.1) x1899) a).bind fun x1902=>some (x1890.1,false,(List.set (List.set x1890.2 (Int.toNat x1890.1) x1899) (Int.toNat a) x1900)))
noncomputable def fK (self:Int→Int→Int→(List Int)→Option ((List Int))) (s59:Int×Int×Int×Bool×Bool×(List Int)) (j127:Int×(List Int)) (j132:Int×Int×(List Int)):Bool×Bool×(List Int)→Option (Int×Int×Int×Bool×Bool×(List Int) ⊕ (List Int)):=fun j136 =>
 (if (decide (s59.1>0)) then ((idx j136.2.2 (aJ s59.1 1)).bind fun x156=>(idx j136.2.2 j132.1).bind fun x157=>(cmp_Compare_int x156 x157).bind fun r158=>some (!(decide (r158<0)))) else (some false)).bind fun j155=>if j155 then ((jB s59.1 s59.2.1 j132.1 j136.2.2).bind fun r160=>some (.inl (r160.1,s59.2.1,j127.1,j136.1,j136.2.1,r160.2))) else ((lD s59.1 s59.2.1 j132.1 j136.2.2).bind fun r162=>if (decide ((aJ r162.1 s59.1)<(aJ s59.2.1 r162.1))) then ((self s59.1 r162.1 j127.1 r162.2.2).bind fun r164=>some (.inl ((aL r162.1 1),s59.2.1,j127.1,(decide ((aJ r162.1 s59.1) ≥ (yP (aJ s59.2.1 s59.1) 8))),r162.2.1,r164))) else ((self (aL r162.1 1) s59.2.1 j127.1 r162.2.2).bind fun r166=>some (.inl (s59.1,r162.1,j127.1,(decide ((aJ s59.2.1 r162.1) ≥ (yP (aJ s59.2.1 s59.1) 8))),r162.2.1,r166))))
noncomputable def fM (self:Int→Int→Int→(List Int)→Option ((List Int))) (s59:Int×Int×Int×Bool×Bool×(List Int)) (j127:Int×(List Int)):Int×Int×(List Int)→Option (Int×Int×Int×Bool×Bool×(List Int) ⊕ (List Int)):=fun j132 =>
 (if s59.2.2.2.1 then (if s59.2.2.2.2.1 then (some (true,true,(j132.2.1==1))) else (some (true,false,false))) else (some (false,s59.2.2.2.2.1,false))).bind fun j167=>if j167.2.2 then ((gU s59.1 s59.2.1 j132.2.2).bind fun r169=>if r169.1 then (some (.inr r169.2)) else (fK self s59 j127 j132 (j167.1,j167.2.1,r169.2))) else (fK self s59 j127 j132 (j167.1,j167.2.1,j132.2.2))
noncomputable def fO (self:Int→Int→Int→(List Int)→Option ((List Int))) (s59:Int×Int×Int×Bool×Bool×(List Int)):Int×(List Int)→Option (Int×Int×Int×Bool×Bool×(List Int) ⊕ (List Int)):=fun j127 =>
 (kG j127.2 s59.1 s59.2.1).bind fun r129=>if (r129.2==2) then ((jT s59.1 s59.2.1 j127.2).bind fun r171=>fM self s59 j127 ((aJ (aJ s59.2.1 1) (aJ r129.1 s59.1)),1,r171)) else (fM self s59 j127 (r129.1,r129.2,j127.2))
noncomputable def uW (self:Int→Int→Int→(List Int)→Option ((List Int))):Int×Int×Int×Bool×Bool×(List Int)→Option (Int×Int×Int×Bool×Bool×(List Int) ⊕ (List Int)):=fun s59 =>
 if (decide ((aJ s59.2.1 s59.1)≤12)) then ((jL s59.1 s59.2.1 s59.2.2.2.2.2).bind fun r120=>some (.inr r120)) else (if (s59.2.2.1==0) then ((lH s59.1 s59.2.1 s59.2.2.2.2.2).bind fun r124=>some (.inr r124)) else (if (!s59.2.2.2.1) then ((jK s59.1 s59.2.1 s59.2.2.2.2.2).bind fun r173=>fO self s59 ((aJ s59.2.2.1 1),r173)) else (fO self s59 (s59.2.2.1,s59.2.2.2.2.2))))
noncomputable def jR (self:Int→Int→Int→(List Int)→Option ((List Int))) (a:Int) (b:Int) (limit:Int) (h0:(List Int)):Option ((List Int)):=
 (aK (uW self) (a,b,limit,true,true,h0)).bind fun x174=>some x174
noncomputable def bN:Nat→Int→Int→Int→(List Int)→Option ((List Int))
 | 0=>fun _ _ _ _=>none
 | n+1=>jR (bN n)
noncomputable def lV (a:Int) (b:Int) (limit:Int) (h0:(List Int)):Option ((List Int)):=bN 1000 a b limit h0
noncomputable def dZ (h0:(List Int)):Option ((List Int)):=
 (bits_Len (IntKind.wrap .u64 (h0.length:Int))).bind fun r3=>(lV 0 (h0.length:Int) r3 h0).bind fun r4=>some r4
noncomputable def rM (s1642:Int×Int×(List Int)):Int×(List Int)→Option (Int×Int×(List Int) ⊕ Int×(List Int)):=fun j1674 =>
 some (.inl (j1674.1,(aL s1642.2.1 1),j1674.2))
noncomputable def Iu (h0:(List Int)) (s1127:Int):Int×Int×(List Int)→Option (Int×Int×(List Int) ⊕ Int×(List Int)):=fun s1642 =>
 if (decide (s1642.2.1<((Int.toNat (h0.length:Int)-Int.toNat s1127:Nat):Int))) then ((idx (List.take (Int.toNat (h0.length:Int)-Int.toNat s1127) (List.drop (Int.toNat s1127) s1642.2.2)) s1642.2.1).bind fun x1679=>(idx (List.take (Int.toNat (h0.length:Int)-Int.toNat s1127) (List.drop (Int.toNat s1127) s1642.2.2)) (aJ s1642.2.1 1)).bind fun x1680=>if (x1679 != x1680) then ((idx (List.take (Int.toNat (h0.length:Int)-Int.toNat s1127) (List.drop (Int.toNat s1127) s1642.2.2)) s1642.2.1).bind fun x1683=>(idx s1642.2.2 s1642.1).bind fun x1684=>rM s1642 ((aL s1642.1 1),(List.set s1642.2.2 (Int.toNat s1642.1) x1683))) else (rM s1642 (s1642.1,s1642.2.2))) else (some (.inr (s1642.1,s1642.2.2)))
noncomputable def Iw (h0:(List Int)):Int→Option (Int ⊕ ((List Int) ⊕ Unit)):=fun s1127 =>
 if (decide (s1127<(h0.length:Int))) then ((idx h0 s1127).bind fun x1552=>(idx h0 (aJ s1127 1)).bind fun x1553=>if (x1552==x1553) then (if (decide ((0:Int)≤s1127)&&(decide (s1127≤(h0.length:Int))&&decide ((h0.length:Int)≤(h0.length:Int)))) then ((aK (Iu h0 s1127) (s1127,1,h0)).bind fun x1685=>if (decide ((0:Int)≤x1685.1)&&(decide (x1685.1≤(x1685.2.length:Int))&&decide ((x1685.2.length:Int)≤(x1685.2.length:Int)))) then ((slc (cpy x1685.2 (Int.toNat x1685.1) (List.replicate (Int.toNat (x1685.2.length:Int)-Int.toNat x1685.1) 0)) 0 x1685.1).bind fun l1687=>some (.inr (.inl l1687))) else none) else none) else (some (.inl (aL s1127 1)))) else (some (.inr (.inr (()))))
noncomputable def vL (h0:(List Int)):Option ((List Int)):=
 if (decide ((h0.length:Int)<2)) then (some h0) else ((aK (Iw h0) 1).bind fun x1688=>match x1688 with | .inl j1689=>some j1689 | .inr j1690=>some h0)
noncomputable def Vw (h0:(List Int)):Option ((List Int)):=
 (dZ h0).bind fun r2=>(vL r2).bind fun r4=>some r4
noncomputable def Na (x1:Int) (y:Int) (x284:Piece):Int→Option (Int ⊕ (Unit ⊕ Unit)):=fun s292 =>
 if (decide (s292<(x284.Rects.length:Int))) then ((idx x284.Rects s292).bind fun x303=>(if (decide (x303.X≤x1)) then (if (decide (x1<(aL x303.X x303.W))) then (if (decide (x303.Y≤y)) then (some (decide (y<(aL x303.Y x303.H)))) else (some false)) else (some false)) else (some false)).bind fun j304=>if j304 then (some (.inr (.inl ()))) else (some (.inl (aL s292 1)))) else (some (.inr (.inr (()))))
noncomputable def Ry (l:LayoutT) (x1:Int) (y:Int):Int→Option (Int ⊕ ((Option Int) ⊕ Unit)):=fun s207 =>
 if (decide (s207<(l.Pieces.length:Int))) then ((idx l.Pieces s207).bind fun x284=>(aK (Na x1 y x284) 0).bind fun x305=>match x305 with | .inl j306=>some (.inr (.inl (some s207))) | .inr j307=>some (.inl (aL s207 1))) else (some (.inr (.inr (()))))
noncomputable def Hu (l:LayoutT) (x1:Int) (y:Int):Option ((Option Int)):=
 (aK (Ry l x1 y) 0).bind fun x308=>match x308 with | .inl j309=>some j309 | .inr j310=>some none
noncomputable def Jo (x0:Int) (a_0:ByteArray) (a_1:ByteArray) (a_2:Int) (a_3:Int) (a_4:Int) (a_5:Int) (a_6:(List Rect)) (a_7:(List Rect)) (a_8:(List Piece)) (a2_0:Int):Option ((Option Int)×(Option Int)):=
 (Hu (LayoutT.mk (Sheet.mk a_0 a_1 a_2 a_3 a_4 a_5 a_6 a_7) a_8) x0 a2_0).bind fun r5=>(Hu (LayoutT.mk (Sheet.mk a_0 a_1 a_2 a_3 a_4 a_5 a_6 a_7) a_8) x0 (aJ a2_0 1)).bind fun r6=>some (r5,r6)
noncomputable def gG (a:Int):Option (Bool):=
 some true
noncomputable def gD (a:cut_nothing):Option (Bool):=
 some false
noncomputable def Jp (from0:Int) (to1:Int) (a_0:Int):Option (Segment):=
 some (Segment.mk from0 a_0 to1 a_0)
noncomputable def xN (t:(Option Int)):Option (Int):=
 if (Option.isSome t) then (some (Option.getD t 0)) else (some (-1))
noncomputable def Jn (s0:Segment):(Int×Int)→Option (EdgeT×Int×Int):=fun j2 =>
 some ((EdgeT.mk s0 j2.1 j2.2),j2.1,j2.2)
noncomputable def Nc (s0:Segment) (a:Int) (b:Int):Option (EdgeT×Int×Int):=
 (if (decide (a<0)) then (some true) else (if (decide (b ≥ 0)) then (some (decide (b<a))) else (some false))).bind fun j3=>if j3 then (Jn s0 (b,a)) else (Jn s0 (a,b))
noncomputable def iN (s329:Int×(Option Int)×(Option Int)×Int×(List EdgeT)):(Int×(Option Int)×(Option Int)×(List EdgeT))→Option ((Int×(Option Int)×(Option Int)×Int×(List EdgeT)) ⊕ (List EdgeT)):=fun j451 =>
 some (.inl (j451.1,j451.2.1,j451.2.2.1,(aL s329.2.2.2.1 1),j451.2.2.2))
noncomputable def iO (s329:Int×(Option Int)×(Option Int)×Int×(List EdgeT)) (x453:Int) (j456:(Option Int)×(Option Int)):(List EdgeT)→Option ((Int×(Option Int)×(Option Int)×Int×(List EdgeT)) ⊕ (List EdgeT)):=fun j474 =>
 iN s329 (x453,j456.1,j456.2,j474)
noncomputable def iP (line_0_0:Int) (s329:Int×(Option Int)×(Option Int)×Int×(List EdgeT)) (x453:Int):((Option Int)×(Option Int))→Option ((Int×(Option Int)×(Option Int)×Int×(List EdgeT)) ⊕ (List EdgeT)):=fun j456 =>
 (if (j456.1==s329.2.1) then (some (j456.2==s329.2.2.1)) else (some false)).bind fun j458=>if j458 then (iN s329 (s329.1,s329.2.1,s329.2.2.1,s329.2.2.2.2)) else ((if (s329.2.1==s329.2.2.1) then (some false) else ((match s329.2.1 with | some n=>gG n | none=>gD (cut_nothing.mk )).bind fun b478=>if b478 then (some true) else ((match s329.2.2.1 with | some n=>gG n | none=>gD (cut_nothing.mk )).bind fun b479=>some b479))).bind fun j477=>if j477 then ((Jp s329.1 x453 line_0_0).bind fun r485=>(xN s329.2.1).bind fun r486=>(xN s329.2.2.1).bind fun r487=>(Nc r485 r486 r487).bind fun r488=>(app s329.2.2.2.2 [(EdgeT.mk (Segment.mk r488.1.Line.X1 r488.1.Line.Y1 r488.1.Line.X2 r488.1.Line.Y2) r488.1.A r488.1.B)]).bind fun l489=>iO s329 x453 j456 l489) else (iO s329 x453 j456 s329.2.2.2.2))
noncomputable def xJ (ends:(List Int)) (sides_0_0:ByteArray) (sides_0_1:ByteArray) (sides_0_2:Int) (sides_0_3:Int) (sides_0_4:Int) (sides_0_5:Int) (sides_0_6:(List Rect)) (sides_0_7:(List Rect)) (sides_0_8:(List Piece)) (sides_1_0:Int) (line_0_0:Int):(Int×(Option Int)×(Option Int)×Int×(List EdgeT))→Option ((Int×(Option Int)×(Option Int)×Int×(List EdgeT)) ⊕ (List EdgeT)):=fun s329 =>
 if (decide (s329.2.2.2.1<(ends.length:Int))) then ((idx ends s329.2.2.2.1).bind fun x453=>if (decide ((aL s329.2.2.2.1 1)<(ends.length:Int))) then ((Jo x453 sides_0_0 sides_0_1 sides_0_2 sides_0_3 sides_0_4 sides_0_5 sides_0_6 sides_0_7 sides_0_8 sides_1_0).bind fun r491=>iP line_0_0 s329 x453 (r491.1,r491.2)) else (iP line_0_0 s329 x453 (none,none))) else (some (.inr s329.2.2.2.2))
noncomputable def fZ (ends:(List Int)) (sides_0_0:ByteArray) (sides_0_1:ByteArray) (sides_0_2:Int) (sides_0_3:Int) (sides_0_4:Int) (sides_0_5:Int) (sides_0_6:(List Rect)) (sides_0_7:(List Rect)) (sides_0_8:(List Piece)) (sides_1_0:Int) (line_0_0:Int):Option ((List EdgeT)):=
 (aK (xJ ends sides_0_0 sides_0_1 sides_0_2 sides_0_3 sides_0_4 sides_0_5 sides_0_6 sides_0_7 sides_0_8 sides_1_0 line_0_0) (0,none,none,0,[])).bind fun x492=>some x492
noncomputable def Jq (y:Int) (a_0:ByteArray) (a_1:ByteArray) (a_2:Int) (a_3:Int) (a_4:Int) (a_5:Int) (a_6:(List Rect)) (a_7:(List Rect)) (a_8:(List Piece)) (a2_0:Int):Option ((Option Int)×(Option Int)):=
 (Hu (LayoutT.mk (Sheet.mk a_0 a_1 a_2 a_3 a_4 a_5 a_6 a_7) a_8) a2_0 y).bind fun r5=>(Hu (LayoutT.mk (Sheet.mk a_0 a_1 a_2 a_3 a_4 a_5 a_6 a_7) a_8) (aJ a2_0 1) y).bind fun r6=>some (r5,r6)
noncomputable def Jr (from0:Int) (to1:Int) (a_0:Int):Option (Segment):=
 some (Segment.mk a_0 from0 a_0 to1)
noncomputable def iQ (s329:Int×(Option Int)×(Option Int)×Int×(List EdgeT)):(Int×(Option Int)×(Option Int)×(List EdgeT))→Option ((Int×(Option Int)×(Option Int)×Int×(List EdgeT)) ⊕ (List EdgeT)):=fun j451 =>
 some (.inl (j451.1,j451.2.1,j451.2.2.1,(aL s329.2.2.2.1 1),j451.2.2.2))
noncomputable def iR (s329:Int×(Option Int)×(Option Int)×Int×(List EdgeT)) (x453:Int) (j456:(Option Int)×(Option Int)):(List EdgeT)→Option ((Int×(Option Int)×(Option Int)×Int×(List EdgeT)) ⊕ (List EdgeT)):=fun j474 =>
 iQ s329 (x453,j456.1,j456.2,j474)
noncomputable def iT (line_0_0:Int) (s329:Int×(Option Int)×(Option Int)×Int×(List EdgeT)) (x453:Int):((Option Int)×(Option Int))→Option ((Int×(Option Int)×(Option Int)×Int×(List EdgeT)) ⊕ (List EdgeT)):=fun j456 =>
 (if (j456.1==s329.2.1) then (some (j456.2==s329.2.2.1)) else (some false)).bind fun j458=>if j458 then (iQ s329 (s329.1,s329.2.1,s329.2.2.1,s329.2.2.2.2)) else ((if (s329.2.1==s329.2.2.1) then (some false) else ((match s329.2.1 with | some n=>gG n | none=>gD (cut_nothing.mk )).bind fun b478=>if b478 then (some true) else ((match s329.2.2.1 with | some n=>gG n | none=>gD (cut_nothing.mk )).bind fun b479=>some b479))).bind fun j477=>if j477 then ((Jr s329.1 x453 line_0_0).bind fun r485=>(xN s329.2.1).bind fun r486=>(xN s329.2.2.1).bind fun r487=>(Nc r485 r486 r487).bind fun r488=>(app s329.2.2.2.2 [(EdgeT.mk (Segment.mk r488.1.Line.X1 r488.1.Line.Y1 r488.1.Line.X2 r488.1.Line.Y2) r488.1.A r488.1.B)]).bind fun l489=>iR s329 x453 j456 l489) else (iR s329 x453 j456 s329.2.2.2.2))
noncomputable def xL (ends:(List Int)) (sides_0_0:ByteArray) (sides_0_1:ByteArray) (sides_0_2:Int) (sides_0_3:Int) (sides_0_4:Int) (sides_0_5:Int) (sides_0_6:(List Rect)) (sides_0_7:(List Rect)) (sides_0_8:(List Piece)) (sides_1_0:Int) (line_0_0:Int):(Int×(Option Int)×(Option Int)×Int×(List EdgeT))→Option ((Int×(Option Int)×(Option Int)×Int×(List EdgeT)) ⊕ (List EdgeT)):=fun s329 =>
 if (decide (s329.2.2.2.1<(ends.length:Int))) then ((idx ends s329.2.2.2.1).bind fun x453=>if (decide ((aL s329.2.2.2.1 1)<(ends.length:Int))) then ((Jq x453 sides_0_0 sides_0_1 sides_0_2 sides_0_3 sides_0_4 sides_0_5 sides_0_6 sides_0_7 sides_0_8 sides_1_0).bind fun r491=>iT line_0_0 s329 x453 (r491.1,r491.2)) else (iT line_0_0 s329 x453 (none,none))) else (some (.inr s329.2.2.2.2))
noncomputable def gB (ends:(List Int)) (sides_0_0:ByteArray) (sides_0_1:ByteArray) (sides_0_2:Int) (sides_0_3:Int) (sides_0_4:Int) (sides_0_5:Int) (sides_0_6:(List Rect)) (sides_0_7:(List Rect)) (sides_0_8:(List Piece)) (sides_1_0:Int) (line_0_0:Int):Option ((List EdgeT)):=
 (aK (xL ends sides_0_0 sides_0_1 sides_0_2 sides_0_3 sides_0_4 sides_0_5 sides_0_6 sides_0_7 sides_0_8 sides_1_0 line_0_0) (0,none,none,0,[])).bind fun x492=>some x492
noncomputable def Fp (x458:Piece):(Int×(List Int)×(List Int))→Option ((Int×(List Int)×(List Int)) ⊕ ((List Int)×(List Int))):=fun s472 =>
 if (decide (s472.1<(x458.Rects.length:Int))) then ((idx x458.Rects s472.1).bind fun x492=>(app s472.2.1 [x492.X,(aL x492.X x492.W)]).bind fun l494=>(app s472.2.2 [x492.Y,(aL x492.Y x492.H)]).bind fun l496=>some (.inl ((aL s472.1 1),l494,l496))) else (some (.inr (s472.2.1,s472.2.2)))
noncomputable def Bg (l:LayoutT):(Int×(List Int)×(List Int))→Option ((Int×(List Int)×(List Int)) ⊕ ((List Int)×(List Int))):=fun s333 =>
 if (decide (s333.1<(l.Pieces.length:Int))) then ((idx l.Pieces s333.1).bind fun x458=>(aK (Fp x458) (0,s333.2.1,s333.2.2)).bind fun x497=>some (.inl ((aL s333.1 1),x497.1,x497.2))) else (some (.inr (s333.2.1,s333.2.2)))
noncomputable def Fq (l:LayoutT) (r501:(List Int)) (r502:(List Int)):Int×(List EdgeT)→Option (Int×(List EdgeT) ⊕ (List EdgeT)):=fun s555 =>
 if (decide (s555.1<(r502.length:Int))) then ((idx r502 s555.1).bind fun x575=>(fZ r501 l.Sheet.Name l.Sheet.Material l.Sheet.Gauge l.Sheet.Grain l.Sheet.Width l.Sheet.Height l.Sheet.Clamps l.Sheet.Used l.Pieces x575 x575).bind fun r578=>(app s555.2 r578).bind fun l579=>some (.inl ((aL s555.1 1),l579))) else (some (.inr s555.2))
noncomputable def Fv (l:LayoutT) (r501:(List Int)) (r502:(List Int)):Int×(List EdgeT)→Option (Int×(List EdgeT) ⊕ (List EdgeT)):=fun s633 =>
 if (decide (s633.1<(r501.length:Int))) then ((idx r501 s633.1).bind fun x653=>(gB r502 l.Sheet.Name l.Sheet.Material l.Sheet.Gauge l.Sheet.Grain l.Sheet.Width l.Sheet.Height l.Sheet.Clamps l.Sheet.Used l.Pieces x653 x653).bind fun r656=>(app s633.2 r656).bind fun l657=>some (.inl ((aL s633.1 1),l657))) else (some (.inr s633.2))
noncomputable def Di (l:LayoutT):Option ((List EdgeT)):=
 (aK (Bg l) (0,[],[])).bind fun x498=>(Vw x498.1).bind fun r501=>(Vw x498.2).bind fun r502=>(aK (Fq l r501 r502) (0,[])).bind fun x580=>(aK (Fv l r501 r502) (0,x580)).bind fun x658=>some x658
noncomputable def wW (l:LayoutT):Option ((List EdgeT)×Int):=
 (vX l).bind fun r4=>if (r4 != 0) then (some ([],r4)) else ((Di l).bind fun r6=>some (r6,0))
noncomputable def sM (n:Int) (h0:(List Int)):Int→Option (Int ⊕ Int):=fun s29 =>
 (if (decide (s29>0)) then ((idx h0 (aJ s29 1)).bind fun x41=>some (decide (x41>n))) else (some false)).bind fun j40=>if j40 then (some (.inl (aJ s29 1))) else (some (.inr s29))
noncomputable def sN (x42:Int):Int×(List Int)→Option (Int×(List Int) ⊕ (List Int)):=fun s87 =>
 if (decide (s87.1>x42)) then ((idx s87.2 (aJ s87.1 1)).bind fun x102=>(idx s87.2 s87.1).bind fun x103=>some (.inl ((aJ s87.1 1),(List.set s87.2 (Int.toNat s87.1) x102)))) else (some (.inr s87.2))
noncomputable def gL (n:Int) (h0:(List Int)):Option ((List Int)):=
 (aK (sM n h0) (h0.length:Int)).bind fun x42=>(if (decide (x42>0)) then ((idx h0 (aJ x42 1)).bind fun x48=>some (x48==n)) else (some false)).bind fun j47=>if j47 then (some h0) else ((app h0 [0]).bind fun l50=>(aK (sN x42) ((aJ (l50.length:Int) 1),l50)).bind fun x104=>(idx x104 x42).bind fun x106=>some (List.set x104 (Int.toNat x42) n))
noncomputable def oO (l:(List Rect)):(Int×(List Int)×(List Int))→Option ((Int×(List Int)×(List Int)) ⊕ ((List Int)×(List Int))):=fun s213 =>
 if (decide (s213.1<(l.length:Int))) then ((idx l s213.1).bind fun x294=>(gL x294.X s213.2.1).bind fun r295=>(idx l s213.1).bind fun x302=>(idx l s213.1).bind fun x303=>(gL (aL x302.X x303.W) r295).bind fun r304=>(idx l s213.1).bind fun x307=>(gL x307.Y s213.2.2).bind fun r308=>(idx l s213.1).bind fun x315=>(idx l s213.1).bind fun x316=>(gL (aL x315.Y x316.H) r308).bind fun r317=>some (.inl ((aL s213.1 1),r304,r317))) else (some (.inr (s213.2.1,s213.2.2)))
noncomputable def tX (l:(List Rect)):Option ((List Int)×(List Int)):=
 (aK (oO l) (0,[],[])).bind fun x318=>some (x318.1,x318.2)
noncomputable def mG (l:(List Rect)) (x1:Int) (y:Int):Int→Option (Int ⊕ (Unit ⊕ Unit)):=fun s31 =>
 if (decide (s31<(l.length:Int))) then ((idx l s31).bind fun x42=>(if (decide (x42.X≤x1)) then (if (decide (x1<(aL x42.X x42.W))) then (if (decide (x42.Y≤y)) then (some (decide (y<(aL x42.Y x42.H)))) else (some false)) else (some false)) else (some false)).bind fun j43=>if j43 then (some (.inr (.inl ()))) else (some (.inl (aL s31 1)))) else (some (.inr (.inr (()))))
noncomputable def pR (l:(List Rect)) (x1:Int) (y:Int):Option (Bool):=
 (aK (mG l x1 y) 0).bind fun x44=>match x44 with | .inl j45=>some true | .inr j46=>some false
noncomputable def nU (regions:(List (List Rect))) (x1:Int) (y:Int):Int→Option (Int ⊕ (Int ⊕ Unit)):=fun s39 =>
 if (decide (s39<(regions.length:Int))) then ((idx regions s39).bind fun x54=>(pR x54 x1 y).bind fun r55=>if r55 then (some (.inr (.inl s39))) else (some (.inl (aL s39 1)))) else (some (.inr (.inr (()))))
noncomputable def rX (regions:(List (List Rect))) (x1:Int) (y:Int):Option (Int):=
 (aK (nU regions x1 y) 0).bind fun x56=>match x56 with | .inl j57=>some j57 | .inr j58=>some (-1)
noncomputable def jG (s1088:Int×(List (List Int))):(List (List Int))→Option (Int×(List (List Int)) ⊕ (List (List Int))):=fun j1150 =>
 some (.inl ((aL s1088.1 1),j1150))
noncomputable def jH (regions:(List (List Rect))) (xs:(List Int)) (ys:(List Int)) (s651:Int×(List (List Int))):Int×(List (List Int))→Option (Int×(List (List Int)) ⊕ (List (List Int))):=fun s1088 =>
 if (decide (s1088.1≤(ys.length:Int))) then ((idx s1088.2 s651.1).bind fun x1153=>(idx x1153 s1088.1).bind fun x1154=>(if (decide (s651.1>0)) then (if (decide (s1088.1>0)) then (if (decide (s651.1<(xs.length:Int))) then (some (decide (s1088.1<(ys.length:Int)))) else (some false)) else (some false)) else (some false)).bind fun j1155=>if j1155 then ((idx (List.set s1088.2 (Int.toNat s651.1) (List.set x1153 (Int.toNat s1088.1) (-1))) s651.1).bind fun x1166=>(idx xs (aJ s651.1 1)).bind fun x1167=>(idx ys (aJ s1088.1 1)).bind fun x1168=>(rX regions x1167 x1168).bind fun r1169=>(idx x1166 s1088.1).bind fun x1170=>jG s1088 (List.set (List.set s1088.2 (Int.toNat s651.1) (List.set x1153 (Int.toNat s1088.1) (-1))) (Int.toNat s651.1) (List.set x1166 (Int.toNat s1088.1) r1169))) else (jG s1088 (List.set s1088.2 (Int.toNat s651.1) (List.set x1153 (Int.toNat s1088.1) (-1))))) else (some (.inr s1088.2))
noncomputable def mK (regions:(List (List Rect))) (xs:(List Int)) (ys:(List Int)):Int×(List (List Int))→Option (Int×(List (List Int)) ⊕ (List (List Int))):=fun s651 =>
 if (decide (s651.1≤(xs.length:Int))) then ((mk (aL (ys.length:Int) 1) 0).bind fun l1044=>(idx s651.2 s651.1).bind fun x1045=>(aK (jH regions xs ys s651) (0,(List.set s651.2 (Int.toNat s651.1) l1044))).bind fun x1171=>some (.inl ((aL s651.1 1),x1171))) else (some (.inr s651.2))
noncomputable def pV (regions:(List (List Rect))) (xs:(List Int)) (ys:(List Int)):Option ((List (List Int))):=
 (mk (aL (xs.length:Int) 1) []).bind fun l2=>(aK (mK regions xs ys) (0,l2)).bind fun x1172=>some x1172
noncomputable def bS (x1:sheetmetalref06_Line) (h0:(List sheetmetalref06_Line)):Option ((List sheetmetalref06_Line)):=
 if (x1.Low==x1.High) then (some h0) else ((if (decide ((aJ (h0.length:Int) 1) ≥ 0)) then ((idx h0 (aJ (h0.length:Int) 1)).bind fun x37=>if (x37.Low==x1.Low) then ((idx h0 (aJ (h0.length:Int) 1)).bind fun x38=>if (x38.High==x1.High) then ((idx h0 (aJ (h0.length:Int) 1)).bind fun x39=>if (x39.At.X2==x1.At.X1) then ((idx h0 (aJ (h0.length:Int) 1)).bind fun x40=>if (x40.At.Y2==x1.At.Y1) then ((idx h0 (aJ (h0.length:Int) 1)).bind fun x41=>if (x41.At.Y1==x1.At.Y2) then (some true) else ((idx h0 (aJ (h0.length:Int) 1)).bind fun x42=>some (x42.At.X1==x1.At.X2))) else (some false)) else (some false)) else (some false)) else (some false)) else (some false)).bind fun j36=>if j36 then ((idx h0 (aJ (h0.length:Int) 1)).bind fun x44=>(idx (List.set h0 (Int.toNat (aJ (h0.length:Int) 1)) (sheetmetalref06_Line.mk (Segment.mk x44.At.X1 x44.At.Y1 x1.At.X2 x44.At.Y2) x44.Low x44.High)) (aJ (h0.length:Int) 1)).bind fun x46=>some (List.set (List.set h0 (Int.toNat (aJ (h0.length:Int) 1)) (sheetmetalref06_Line.mk (Segment.mk x44.At.X1 x44.At.Y1 x1.At.X2 x44.At.Y2) x44.Low x44.High)) (Int.toNat (aJ (h0.length:Int) 1)) (sheetmetalref06_Line.mk (Segment.mk x46.At.X1 x46.At.Y1 x46.At.X2 x1.At.Y2) x46.Low x46.High))) else ((app h0 [x1]).bind fun l48=>some l48))
noncomputable def lS (regions:(List (List Rect))):Int×(List Rect)→Option (Int×(List Rect) ⊕ (List Rect)):=fun s37 =>
 if (decide (s37.1<(regions.length:Int))) then ((idx regions s37.1).bind fun x52=>(app s37.2 x52).bind fun l53=>some (.inl ((aL s37.1 1),l53))) else (some (.inr s37.2))
noncomputable def iU (r56:(List Int)×(List Int)) (r58:(List (List Int))) (s1383:Int×(List sheetmetalref06_Line)):Int×(List sheetmetalref06_Line)→Option (Int×(List sheetmetalref06_Line) ⊕ (List sheetmetalref06_Line)):=fun s1934 =>
 if (decide ((aL s1934.1 1)<(r56.1.length:Int))) then ((idx r56.1 s1934.1).bind fun x2034=>(idx r56.2 s1383.1).bind fun x2035=>(idx r56.1 (aL s1934.1 1)).bind fun x2036=>(idx r56.2 s1383.1).bind fun x2037=>(idx r58 (aL s1934.1 1)).bind fun x2038=>(idx x2038 s1383.1).bind fun x2039=>(idx r58 (aL s1934.1 1)).bind fun x2040=>(idx x2040 (aL s1383.1 1)).bind fun x2041=>(bS (sheetmetalref06_Line.mk (Segment.mk x2034 x2035 x2036 x2037) x2039 x2041) s1934.2).bind fun r2042=>some (.inl ((aL s1934.1 1),r2042))) else (some (.inr s1934.2))
noncomputable def iW (r56:(List Int)×(List Int)) (r58:(List (List Int))):Int×(List sheetmetalref06_Line)→Option (Int×(List sheetmetalref06_Line) ⊕ (List sheetmetalref06_Line)):=fun s1383 =>
 if (decide (s1383.1<(r56.2.length:Int))) then ((aK (iU r56 r58 s1383) (0,s1383.2)).bind fun x2043=>some (.inl ((aL s1383.1 1),x2043))) else (some (.inr s1383.2))
noncomputable def iX (r56:(List Int)×(List Int)) (r58:(List (List Int))) (s3369:Int×(List sheetmetalref06_Line)):Int×(List sheetmetalref06_Line)→Option (Int×(List sheetmetalref06_Line) ⊕ (List sheetmetalref06_Line)):=fun s3920 =>
 if (decide ((aL s3920.1 1)<(r56.2.length:Int))) then ((idx r56.1 s3369.1).bind fun x4020=>(idx r56.2 s3920.1).bind fun x4021=>(idx r56.1 s3369.1).bind fun x4022=>(idx r56.2 (aL s3920.1 1)).bind fun x4023=>(idx r58 s3369.1).bind fun x4024=>(idx x4024 (aL s3920.1 1)).bind fun x4025=>(idx r58 (aL s3369.1 1)).bind fun x4026=>(idx x4026 (aL s3920.1 1)).bind fun x4027=>(bS (sheetmetalref06_Line.mk (Segment.mk x4020 x4021 x4022 x4023) x4025 x4027) s3920.2).bind fun r4028=>some (.inl ((aL s3920.1 1),r4028))) else (some (.inr s3920.2))
noncomputable def iY (r56:(List Int)×(List Int)) (r58:(List (List Int))):Int×(List sheetmetalref06_Line)→Option (Int×(List sheetmetalref06_Line) ⊕ (List sheetmetalref06_Line)):=fun s3369 =>
 if (decide (s3369.1<(r56.1.length:Int))) then ((aK (iX r56 r58 s3369) (0,s3369.2)).bind fun x4029=>some (.inl ((aL s3369.1 1),x4029))) else (some (.inr s3369.2))
noncomputable def kT (regions:(List (List Rect))):Option ((List sheetmetalref06_Line)):=
 (aK (lS regions) (0,[])).bind fun x54=>(tX x54).bind fun r56=>(pV regions r56.1 r56.2).bind fun r58=>(aK (iW r56 r58) (0,[])).bind fun x2044=>(aK (iY r56 r58) (0,x2044)).bind fun x4030=>some x4030
noncomputable def oD (l:LayoutT):Int×(List (List Rect))→Option (Int×(List (List Rect)) ⊕ (List (List Rect))):=fun s37 =>
 if (decide (s37.1<(l.Pieces.length:Int))) then ((idx l.Pieces s37.1).bind fun x52=>(app s37.2 [x52.Rects]).bind fun l53=>some (.inl ((aL s37.1 1),l53))) else (some (.inr s37.2))
noncomputable def nZ (r56:(List sheetmetalref06_Line)) (s197:Int×(List EdgeT)):(Int×Int)→Option (Int×(List EdgeT) ⊕ (List EdgeT)):=fun j261 =>
 (idx r56 s197.1).bind fun x264=>(app s197.2 [(EdgeT.mk x264.At j261.1 j261.2)]).bind fun l265=>some (.inl ((aL s197.1 1),l265))
noncomputable def oF (r56:(List sheetmetalref06_Line)):Int×(List EdgeT)→Option (Int×(List EdgeT) ⊕ (List EdgeT)):=fun s197 =>
 if (decide (s197.1<(r56.length:Int))) then ((idx r56 s197.1).bind fun x257=>(idx r56 s197.1).bind fun x258=>(idx r56 s197.1).bind fun x259=>(idx r56 s197.1).bind fun x260=>if (decide ((nO x257.Low x258.High)<0)) then (nZ r56 s197 ((fF x259.Low x260.High),(nO x257.Low x258.High))) else (nZ r56 s197 ((nO x257.Low x258.High),(fF x259.Low x260.High)))) else (some (.inr s197.2))
noncomputable def bV (l:LayoutT):Option ((List EdgeT)):=
 (aK (oD l) (0,[])).bind fun x54=>(kT x54).bind fun r56=>(aK (oF r56) (0,[])).bind fun x266=>some x266
noncomputable def Cm (l:LayoutT):Option ((List EdgeT)×Int):=
 (dP l).bind fun r2=>if (r2 != 0) then (some ([],r2)) else ((bV l).bind fun r4=>some (r4,0))
end Go.SM
namespace Go.SM
open Go Go.VI
set_option maxRecDepth 10000
theorem PP (h:List Int):dZ h=Qu (brC cmp_Compare_int) h:=by kernel_rfl
theorem ES (h:List Int):vL h=Ux (fun x y=>x==y) 0 h:=by kernel_rfl
def ltI (x y:Int):Bool:=decide (x<y)
theorem Q3:Zk ltI where
 asymm x y h:=by unfold ltI at *;simp at *;omega
 neg x y z h:=by unfold ltI at *;simp at *;omega
theorem aAg (x y:Int):cmp_Compare_int x y=some (if x<y then -1 else if y<x then 1 else 0):=by
 unfold cmp_Compare_int cmp_isNaN_int
 have e:∀ z:Int,(z != z)=false:=fun z=>by simp
 simp only [e,Option.bind_some,Bool.false_eq_true,if_false]
 by_cases h1:x<y
 ·simp [h1]
 ·by_cases h2:x>y
  ·have:y<x:=h2
   simp [h1,h2,this]
  ·have:¬ y<x:=h2
   simp [h1,h2,this]
theorem brI (β:Type) (x y:Int) (k:Bool→Option β):brC cmp_Compare_int β x y k=k (ltI x y):=by
 unfold brC ltI
 rw [aAg,Option.bind_some]
 congr 1
 by_cases h1:x<y
 ·simp [h1]
 ·by_cases h2:y<x <;> simp [h1,h2]
theorem PQ {l:List Int} (hl:l.length≤1073741824):∃ r,dZ l=some r∧r.Perm l∧r.Pairwise fun x y=>ltI y x=false:=by
 rw [PP]
 exact NA (P:=fun _=>True) (d:=0) (fun β x y k _ _=>brI β x y k) Q3 ⟨by omega,fun _ _ _=>trivial⟩
theorem ZJ {l:List Int} (hl:l.length≤1073741824):∃ r,Vw l=some r∧r.Pairwise (fun x y=>x<y)∧∀ x,x ∈ r↔x ∈ l:=by
 obtain ⟨r,h1,h2,h3⟩:=PQ hl
 have hr:r.length=l.length:=h2.length_eq
 obtain ⟨q,q1,q2,q3⟩:=NQ Q3 (fun x y a b=>by unfold ltI at a b;simp at a b;omega) (eqb:=fun x y=>x==y) (fun x y=>by simp) (0:Int) (l:=r) (by omega) h3
 refine ⟨q, ?_,q2.imp (fun h=>by unfold ltI at h;simpa using h),fun x=>by rw [q3,h2.mem_iff]⟩
 unfold Vw
 simp only [Option.bind_some,h1,ES,q1]
end Go.SM
namespace Go.SM
open Go Go.VI Go.Cells
noncomputable def KF (s329:Int×(Option Int)×(Option Int)×Int×(List EdgeT)):(Int×(Option Int)×(Option Int)×(List EdgeT))→Option ((Int×(Option Int)×(Option Int)×Int×(List EdgeT)) ⊕ (List EdgeT)):=fun j451 =>
 some (.inl (j451.1,j451.2.1,j451.2.2.1,(aL s329.2.2.2.1 1),j451.2.2.2))
noncomputable def QA (s329:Int×(Option Int)×(Option Int)×Int×(List EdgeT)) (x453:Int) (j456:(Option Int)×(Option Int)):(List EdgeT)→Option ((Int×(Option Int)×(Option Int)×Int×(List EdgeT)) ⊕ (List EdgeT)):=fun j474 =>
 KF s329 (x453,j456.1,j456.2,j474)
noncomputable def QB (line:Int→Int→Option Segment) (s329:Int×(Option Int)×(Option Int)×Int×(List EdgeT)) (x453:Int):((Option Int)×(Option Int))→Option ((Int×(Option Int)×(Option Int)×Int×(List EdgeT)) ⊕ (List EdgeT)):=fun j456 =>
 (if (j456.1==s329.2.1) then (some (j456.2==s329.2.2.1)) else (some false)).bind fun j458=>if j458 then (KF s329 (s329.1,s329.2.1,s329.2.2.1,s329.2.2.2.2)) else ((if (s329.2.1==s329.2.2.1) then (some false) else ((match s329.2.1 with | some n=>gG n | none=>gD (cut_nothing.mk )).bind fun b478=>if b478 then (some true) else ((match s329.2.2.1 with | some n=>gG n | none=>gD (cut_nothing.mk )).bind fun b479=>some b479))).bind fun j477=>if j477 then ((line s329.1 x453).bind fun r485=>(xN s329.2.1).bind fun r486=>(xN s329.2.2.1).bind fun r487=>(Nc r485 r486 r487).bind fun r488=>(app s329.2.2.2.2 [(EdgeT.mk (Segment.mk r488.1.Line.X1 r488.1.Line.Y1 r488.1.Line.X2 r488.1.Line.Y2) r488.1.A r488.1.B)]).bind fun l489=>QA s329 x453 j456 l489) else (QA s329 x453 j456 s329.2.2.2.2))
noncomputable def VL (ends:(List Int)) (side:Int→Option (Option Int×Option Int)) (line:Int→Int→Option Segment):(Int×(Option Int)×(Option Int)×Int×(List EdgeT))→Option ((Int×(Option Int)×(Option Int)×Int×(List EdgeT)) ⊕ (List EdgeT)):=fun s329 =>
 if (decide (s329.2.2.2.1<(ends.length:Int))) then ((idx ends s329.2.2.2.1).bind fun x453=>if (decide ((aL s329.2.2.2.1 1)<(ends.length:Int))) then ((side x453).bind fun r491=>QB line s329 x453 (r491.1,r491.2)) else (QB line s329 x453 (none,none))) else (some (.inr s329.2.2.2.2))
noncomputable def al (ends:(List Int)) (side:Int→Option (Option Int×Option Int)) (line:Int→Int→Option Segment):Option ((List EdgeT)):=
 (aK (VL ends side line) (0,none,none,0,[])).bind fun x492=>some x492
theorem SA (ends:List Int) (n m:ByteArray) (g r w t:Int) (c u:List Rect) (p:List Piece) (y z:Int):fZ ends n m g r w t c u p y z=al ends (fun i=>Jo i n m g r w t c u p y) (fun a b=>Jp a b z):=rfl
theorem SB (ends:List Int) (n m:ByteArray) (g r w t:Int) (c u:List Rect) (p:List Piece) (y z:Int):gB ends n m g r w t c u p y z=al ends (fun i=>Jq i n m g r w t c u p y) (fun a b=>Jr a b z):=rfl
def mkE (s:Segment) (a b:Option Int):EdgeT:=
 let p:Int:=match a with | some i=>i | none=>-1
 let q:Int:=match b with | some i=>i | none=>-1
 if p<0∨(q ≥ 0∧q<p) then ⟨s,q,p⟩ else ⟨s,p,q⟩
theorem number_eq (a:Option Int):xN a=some (match a with | some i=>i | none=>-1):=by cases a <;> rfl
theorem F4 (s:Segment) (a b:Option Int):∃ u v,Nc s (match a with | some i=>i | none=>-1) (match b with | some i=>i | none=>-1)=some (mkE s a b,u,v):=by
 unfold Nc mkE Jn
 generalize (match a with | some i=>i | none=>(-1:Int))=p
 generalize (match b with | some i=>i | none=>(-1:Int))=q
 simp only
 by_cases h1:p<0
 ·simp [h1]
 ·by_cases h2:q ≥ 0
  ·by_cases h3:q<p
   ·simp [h1,h2,h3]
   ·simp [h1,h2,h3]
  ·simp [h1,h2]
theorem MZ (a:Option Int):(match a with | some n=>gG n | none=>gD cut_nothing.mk)=some a.isSome:=by cases a <;> rfl
theorem KG {line:Int→Int→Option Segment} {ln:Int→Int→Segment} (hline:∀ a b,line a b=some (ln a b)) {begin_:Int} {one two:Option Int} {k:Nat} (hk:k≤1000) {out:List EdgeT} (ho:out.length≤1000000) (x:Int) (a b:Option Int) :
  QB line (begin_,one,two,(k:Int),out) x (a,b)=some (.inl (if a=one∧b=two then (begin_,one,two,((k+1:Nat):Int),out) else (x,a,b,((k+1:Nat):Int),if one=two then out else out++[mkE (ln begin_ x) one two]))):=by
 unfold QB
 simp only
 by_cases h:a=one∧b=two
 ·obtain ⟨rfl,rfl⟩:=h
  simp only [beq_self_eq_true,if_true,Option.bind_some,KF,and_self,aX k (by omega)]
 ·have e:(if (a==one)=true then some (b==two) else some false)=some false:=by
   by_cases h1:a=one
   ·have h2:¬ b=two:=fun q=>h ⟨h1,q⟩
    simp [h1,h2]
   ·simp [h1]
  rw [e,if_neg h]
  simp only [Option.bind_some,Bool.false_eq_true,if_false]
  by_cases h3:one=two
  ·have:(one==two)=true:=by simp [h3]
   rw [this,if_pos h3]
   simp only [if_true,Option.bind_some,Bool.false_eq_true,if_false,QA,KF,aX k (by omega)]
  ·have h4:(one==two)=false:=by simp [h3]
   have h5:(one.isSome || two.isSome)=true:=by
    cases one with
    | some _=>rfl
    | none=>cases two with
      | some _=>rfl
      | none=>exact absurd rfl h3
   obtain ⟨u,v,e2⟩:=F4 (ln begin_ x) one two
   have e3:(if one.isSome=true then some true else some two.isSome)=some true:=by
    cases hh:one.isSome with
    | true=>rfl
    | false=>rw [hh,Bool.false_or] at h5;simp [h5]
   have e4:(match one with | some n=>gG n | none=>gD cut_nothing.mk).bind (fun b478=>if b478=true then some true else (match two with | some n=>gG n | none=>gD cut_nothing.mk).bind fun b479=>some b479)=some true:=by
    rw [MZ,MZ]
    exact e3
   rw [h4]
   simp only [Bool.false_eq_true,if_false]
   rw [e4]
   simp only [Option.bind_some,if_true,hline,number_eq,e2,if_neg h3]
   rw [nA (by simp [LIM];omega)]
   simp only [Option.bind_some,QA,KF,aX k (by omega)]
theorem N9 {A B:Int→Option Int} {xs:List Int} (h:Al A B xs) {side:Int→Option (Option Int×Option Int)} (hside:∀ (i:Nat) x,xs[i]?=some x→i+1<xs.length→side x=some (A x,B x)) {line:Int→Int→Option Segment} {ln:Int→Int→Segment} (hline:∀ a b,line a b=some (ln a b)) :
  ∃ L,al xs side line=some (L.map fun p=>mkE (ln p.1 p.2) (A p.1) (B p.1))∧sJ (fun z=>cod (A z) (B z)) L∧L.length≤xs.length:=by
 obtain ⟨s,hs⟩:∃ s:Int→Int,s=fun z=>cod (A z) (B z):=⟨_,rfl⟩
 have hlen:=h.len
 have s0:∀ z,s z=0↔A z=B z:=fun z=>by rw [hs];exact h.s0 z
 have sinj:∀ z w,s z≠0→s z=s w→A z=A w∧B z=B w:=fun z w q1 q2=>by subst hs;exact h.inj q1 q2
 obtain ⟨lo,hlo⟩:=h.lo
 replace hlo:∀ z,z<lo→s z=0:=fun z hz=>by rw [hs];exact hlo z hz
 have hst:Ko s xs:=by rw [hs];exact Oq (fun p:Option Int×Option Int=>cod p.1 p.2) (g:=fun z=>(A z,B z)) h.st
 rw [← hs]
 obtain ⟨mk,hmk⟩:∃ mk:Int×Int→EdgeT,mk=fun p=>mkE (ln p.1 p.2) (A p.1) (B p.1):=⟨_,rfl⟩
 rw [← hmk]
 obtain ⟨r,q1,q2⟩:=nP (fun t:Int×Option Int×Option Int×Int×List EdgeT=>((xs.length:Int)-t.2.2.2.1).toNat)
  (fun t:Int×Option Int×Option Int×Int×List EdgeT=>∃ k:Nat,t.2.2.2.1=k∧k≤xs.length∧(k=xs.length→∃ L,t.2.2.2.2=L.map mk∧sJ s L∧L.length≤xs.length) ∧
   (∀ e,xs[k]?=some e→∃ L,sJ (cut s e) L∧L.length≤k∧t.2.1=A (e-1)∧t.2.2.1=B (e-1)∧(t.2.1=t.2.2.1→t.2.2.2.2=L.map mk)∧(t.2.1≠t.2.2.1→∃ L0,L=L0++[(t.1,e)]∧t.2.2.2.2=L0.map mk)))
  (fun r=>∃ L,r=L.map mk∧sJ s L∧L.length≤xs.length) (VL xs side line) (by
   rintro ⟨bg,one,two,k',out⟩ ⟨k,hk',hk,hend,hI⟩
   simp only at hk' hend hI ⊢
   subst hk'
   unfold VL
   by_cases hkn:k<xs.length
   case neg =>
    right
    have hd:¬ (k:Int)<(xs.length:Int):=by omega
    exact ⟨out,by simp only [hd,decide_false,Bool.false_eq_true,if_false],hend (by omega)⟩
   left
   have hd:(k:Int)<(xs.length:Int):=by omega
   obtain ⟨e,he⟩:∃ e,xs[k]?=some e:=⟨_,List.getElem?_eq_getElem hkn⟩
   obtain ⟨L,hL,hLk,h1,h2,hzero,hopen⟩:=hI e he
   have hout:out.length≤1000000:=by
    rcases Classical.em (one=two) with q | q
    ·rw [hzero q,List.length_map];omega
    ·obtain ⟨L0,e1,e2⟩:=hopen q
     rw [e2,List.length_map]
     have:=congrArg List.length e1
     simp at this;omega
   have sone:s (e-1)=0↔one=two:=by rw [s0,h1,h2]
   -- what is closed
   have closed:one≠two→out++[mkE (ln bg e) one two]=L.map mk:=fun q=>by
    obtain ⟨L0,e1,e2⟩:=hopen q
    have hr:=wD.1 ((hL.2 bg e).1 (by rw [e1];simp))
    have hne:s (e-1)≠0:=fun z=>q (sone.1 z)
    have hb:=sinj (e-1) bg hne (hr.2.2.2.1 (e-1) (by omega) (by omega))
    rw [e1,e2,List.map_append,hmk]
    simp only [List.map_cons,List.map_nil]
    rw [h1,h2,hb.1,hb.2]
   have kk:((k:Int)+1)=((k+1:Nat):Int):=by omega
   by_cases hkl:k+1<xs.length
   ·obtain ⟨e',he'⟩:∃ e',xs[k+1]?=some e':=⟨_,List.getElem?_eq_getElem hkl⟩
    obtain ⟨hee,hst'⟩:=Dp hst he he'
    obtain ⟨b1,b2⟩:=h.before he he'
    have hd2:aL (k:Int) 1<(xs.length:Int):=by rw [aX k (by omega)];omega
    simp only [hd,decide_true,if_true,aP he,Option.bind_some,hd2,hside k e he hkl,KG hline (show k≤1000 by omega) hout e (A e) (B e)]
    have hprev:s (e'-1)=s e:=hst' _ (by omega) (by omega)
    by_cases hc:A e=one∧B e=two
    ·refine ⟨_,rfl, ?_,by rw [if_pos hc];simp only;omega⟩
     rw [if_pos hc]
     have es:s e=s (e-1):=by rw [hs];simp only;rw [← h1,← h2,hc.1,hc.2]
     refine ⟨k+1,rfl,by omega,fun q=>by omega,fun e2 he2=>?_⟩
     rw [he'] at he2;injection he2 with he2;subst he2
     simp only
     rcases Classical.em (one=two) with q | q
     ·have e0:s e=0:=by rw [es];exact sone.2 q
      exact ⟨L,Yi hL hee hst' e0,by omega,by rw [b1,hc.1],by rw [b2,hc.2],hzero,fun q'=>absurd q q'⟩
     ·have e0:s e≠0:=by rw [es];exact fun z=>q (sone.1 z)
      obtain ⟨l0,a,hla,hrun⟩:=GX hL hee hst' hlo e0 es.symm
      obtain ⟨L0,e1,e2⟩:=hopen q
      rw [hla] at e1
      obtain ⟨rfl,e3⟩:=List.append_inj' e1 rfl
      injection e3 with e3 _
      injection e3 with e3 _
      subst e3
      exact ⟨l0++[(a,e')],hrun,by rw [hla] at hLk;simp at hLk ⊢;omega,by rw [b1,hc.1],by rw [b2,hc.2],fun q'=>absurd q' q,fun _=>⟨l0,rfl,e2⟩⟩
    ·refine ⟨_,rfl, ?_,by rw [if_neg hc];simp only;omega⟩
     rw [if_neg hc]
     refine ⟨k+1,rfl,by omega,fun q=>by omega,fun e2 he2=>?_⟩
     rw [he'] at he2;injection he2 with he2;subst he2
     simp only
     have hout':(if one=two then out else out++[mkE (ln bg e) one two])=L.map mk:=by
      split
      ·rename_i q;exact hzero q
      ·rename_i q;exact closed q
     rcases Classical.em (A e=B e) with q | q
     ·exact ⟨L,Yi hL hee hst' ((s0 e).2 q),by omega,b1.symm,b2.symm,fun _=>hout',fun q'=>absurd q q'⟩
     ·have e0:s e≠0:=fun z=>q ((s0 e).1 z)
      have hne:s (e-1)≠s e:=fun z=>by
       have:=sinj e (e-1) e0 z.symm
       exact hc ⟨by rw [h1];exact this.1,by rw [h2];exact this.2⟩
      exact ⟨L++[(e,e')],MP hL hee hst' e0 hne,by simp;omega,b1.symm,b2.symm,fun q'=>absurd q' q,fun _=>⟨L,rfl,hout'⟩⟩
   ·have hd2:¬ aL (k:Int) 1<(xs.length:Int):=by rw [aX k (by omega)];omega
    simp only [hd,decide_true,if_true,aP he,Option.bind_some,hd2,decide_false,Bool.false_eq_true,if_false,KG hline (show k≤1000 by omega) hout e none none]
    have hz:∀ z,e≤z→s z=0:=fun z hz=>by
     have:=h.high e (by rw [show xs.length-1=k from by omega];exact he) z hz
     rw [s0,this.1,this.2]
    refine ⟨_,rfl,⟨k+1, ?_,by omega,fun _=>⟨L, ?_,DZ hL hz,by omega⟩,fun e2 he2=>by have:=aY he2;omega⟩, ?_⟩
    ·split <;> rfl
    ·by_cases hc:(none:Option Int)=one∧(none:Option Int)=two
     ·rw [if_pos hc];exact hzero (by rw [← hc.1,← hc.2])
     ·rw [if_neg hc]
      simp only
      split
      ·rename_i q;exact hzero q
      ·rename_i q;exact closed q
    ·split <;> simp only <;> omega) (0,none,none,0,[])
   ⟨0,rfl,by omega,fun q=>⟨[],rfl,by
    have:xs=[]:=List.eq_nil_of_length_eq_zero q.symm
    refine ⟨.nil,fun a b=>⟨fun m=>by simp at m,fun m=>absurd ((s0 a).2 ?_) m.2.1⟩⟩
    rw [(h.emp this a).1,(h.emp this a).2],by simp⟩,fun e he=>by
    have hl:=h.low e he
    exact ⟨[],EA fun z hz=>by rw [s0,(hl z hz).1,(hl z hz).2],by simp,(hl (e-1) (by omega)).1.symm,(hl (e-1) (by omega)).2.symm,fun _=>rfl,fun q=>absurd rfl q⟩⟩
 obtain ⟨L,rfl,q3,q4⟩:=q2
 exact ⟨L,by unfold al;rw [q1];rfl,q3,q4⟩
end Go.SM
namespace Go.SM
open Go Go.VI Go.Cells
def nm:Option Int→Int
 | some i=>i
 | none=>-1
theorem JE {a b:Option Int} (ha:SmO a) (hb:SmO b):nm a=nm b↔a=b:=by
 constructor
 ·intro h
  cases a with
  | none=>cases b with
    | none=>rfl
    | some j=>have:=hb j rfl;simp only [nm] at h;omega
  | some i=>cases b with
    | none=>have:=ha i rfl;simp only [nm] at h;omega
    | some j=>simp only [nm] at h;rw [h]
 ·intro h;rw [h]
theorem JF (R:List (List Rect)) (x y:Int):nm (kM R x y)=OI R x y:=by rw [U4];rfl
theorem LC {β:Type} {R:List β} {z v:β} {j:Nat} (h:R[j]?=some v):(R.take j++List.replicate (R.length-j) z)[j]?=some z:=by
 have:=aY h
 rw [List.getElem?_append_right (by rw [List.length_take];omega),List.length_take,List.getElem?_replicate,if_pos (by omega)]
theorem CK {β:Type} {R:List β} {z v:β} {j:Nat} (h:R[j]?=some v):(R.take j++List.replicate (R.length-j) z).set j v=R.take (j+1)++List.replicate (R.length-(j+1)) z:=by
 have:=aY h
 rw [List.set_append_right _ _ (by rw [List.length_take];omega),List.length_take,show j-min j R.length=0 from by omega,oZ h,show R.length-j=R.length-(j+1)+1 from by omega,List.replicate_succ,List.set_cons_zero,List.append_assoc]
 rfl
theorem set_self {β:Type} {l:List β} {i:Nat} {v:β} (h:l[i]?=some v):l.set i v=l:=by
 refine List.ext_getElem? fun n=>?_
 rw [List.getElem?_set]
 split
 ·rename_i e;subst e
  rw [if_pos (aY h),h]
 ·rfl
section
variable {R:List (List Rect)} (hv:EN R.flatten) (hm:R.length≤900) (hn:∀ l ∈ R,l.length≤1000)
include hv hm hn
theorem RX {l:List Rect} (hl:l ∈ R) (x y:Int):pR l x y=some (cov l x y):=by
 unfold pR cov
 have:=hn l hl
 rw [DC l (mG l x y) (fun r=>inC r x y) (.inr ()) (.inl ()) (fun k r hr=>?s) ?f]
 ·cases l.any (fun r=>inC r x y) <;> rfl
 case s =>
  have h1:=aY hr
  obtain ⟨e1,e2⟩:=JU (hv r (List.mem_flatten.2 ⟨l,hl,List.mem_of_getElem? hr⟩))
  unfold mG
  simp only [h1,Int.ofNat_lt,decide_true,if_true,aP hr,Option.bind_some,e1,e2]
  have hb':(if decide (r.X≤x) then (if decide (x<r.X+r.W) then (if decide (r.Y≤y) then some (decide (y<r.Y+r.H)) else some false) else some false) else some false)=some (inC r x y):=by
   unfold inC
   cases decide (r.X≤x) <;> cases decide (x<r.X+r.W) <;> cases decide (r.Y≤y) <;> simp
  rw [hb',Option.bind_some,aX k (by omega)]
 case f=>simp [mG]
theorem XU (x y:Int):rX R x y=some (OI R x y):=by
 unfold rX
 rw [Xz R (nU R x y) (fun l=>cov l x y) (fun k=>.inl (k:Int)) (.inr ()) (fun k l hl=>?s) ?f]
 ·unfold OI Ao
  cases R.findIdx? (fun l=>cov l x y) <;> rfl
 case s =>
  have h1:=aY hl
  unfold nU
  simp only [h1,Int.ofNat_lt,decide_true,if_true,aP hl,Option.bind_some,RX hv hm hn (List.mem_of_getElem? hl),aX k (by omega)]
 case f=>simp [nU]
def cellV (R:List (List Rect)) (xs ys:List Int) (i j:Nat):Int:=if 0<i∧0<j∧i<xs.length∧j<ys.length then OI R (xs.getD (i-1) 0) (ys.getD (j-1) 0) else -1
def Yu (R:List (List Rect)) (xs ys:List Int) (i:Nat):List Int:=(List.range (ys.length+1)).map fun j=>cellV R xs ys i j
def Lu (R:List (List Rect)) (xs ys:List Int):List (List Int):=(List.range (xs.length+1)).map fun i=>Yu R xs ys i
omit hv hm hn in
theorem Lx (xs ys:List Int) (i j:Nat) (hj:j≤ys.length):(Yu R xs ys i)[j]?=some (cellV R xs ys i j):=by
 unfold Yu;rw [List.getElem?_map,List.getElem?_range (by omega)];rfl
omit hv hm hn in
theorem Rw (xs ys:List Int) (i:Nat) (hi:i≤xs.length):(Lu R xs ys)[i]?=some (Yu R xs ys i):=by
 unfold Lu;rw [List.getElem?_map,List.getElem?_range (by omega)];rfl
theorem TV {xs ys:List Int} (hx:xs.length≤1000) (hy:ys.length≤1000):pV R xs ys=some (Lu R xs ys):=by
 have inner:∀ (i:Nat) (M0:List (List Int)) (base:List (List Int)),i≤xs.length→base[i]?=some (List.replicate (ys.length+1) 0) →
   aK (jH R xs ys ((i:Int),M0)) (0,base)=some (base.set i (Yu R xs ys i)):=fun i M0 base hi hb=>by
  obtain ⟨C,hC⟩:∃ C,Yu R xs ys i=C:=⟨_,rfl⟩
  have hCl:C.length=ys.length+1:=by rw [← hC];simp [Yu]
  have hil:=aY hb
  obtain ⟨r,q1,q2⟩:=wU (List.range (ys.length+1)) (fun k (s:List (List Int))=>((k:Int),s)) (jH R xs ys ((i:Int),M0)) (fun s=>s) (fun k s=>s=base.set i (C.take k++List.replicate (C.length-k) 0)) base (by
    rw [List.take_zero,List.nil_append,Nat.sub_zero,hCl,set_self hb])
   (fun k y s hy' hI=>by
    have hk:=aY hy'
    rw [List.length_range] at hk
    have hd:decide ((k:Int)≤(ys.length:Int))=true:=by simp;omega
    have hCk:C[k]?=some (cellV R xs ys i k):=by rw [← hC];exact Lx xs ys i k (by omega)
    have gb:s[i]?=some (C.take k++List.replicate (C.length-k) 0):=by rw [hI,List.getElem?_set,if_pos rfl,if_pos hil]
    have gz:(C.take k++List.replicate (C.length-k) 0)[k]?=some (0:Int):=LC hCk
    have hlk:=aY gz
    have hsl:s.length=base.length:=by rw [hI,List.length_set]
    unfold jH
    simp only [hd,if_true,aP gb,aP gz,Option.bind_some,Int.toNat_natCast]
    by_cases hc:0<i∧0<k∧i<xs.length∧k<ys.length
    ·obtain ⟨c1,c2,c3,c4⟩:=hc
     have e1:aJ (i:Int) 1=((i-1:Nat):Int):=by rw [bA (by omega) (by omega)];omega
     have e2:aJ (k:Int) 1=((k-1:Nat):Int):=by rw [bA (by omega) (by omega)];omega
     have g1:xs[i-1]?=some (xs.getD (i-1) 0):=by rw [List.getD_eq_getElem?_getD,List.getElem?_eq_getElem (by omega)];rfl
     have g2:ys[k-1]?=some (ys.getD (k-1) 0):=by rw [List.getD_eq_getElem?_getD,List.getElem?_eq_getElem (by omega)];rfl
     have g3:(s.set i ((C.take k++List.replicate (C.length-k) 0).set k (-1)))[i]?=some ((C.take k++List.replicate (C.length-k) 0).set k (-1)):=by rw [List.getElem?_set,if_pos rfl,if_pos (by omega)]
     have g4:((C.take k++List.replicate (C.length-k) 0).set k (-1))[k]?=some (-1:Int):=by rw [List.getElem?_set,if_pos rfl,if_pos hlk]
     have d1:decide ((i:Int)>0)=true:=by simp;omega
     have d2:decide ((k:Int)>0)=true:=by simp;omega
     have d3:decide ((i:Int)<(xs.length:Int))=true:=by simp;omega
     have d4:decide ((k:Int)<(ys.length:Int))=true:=by simp;omega
     simp only [d1,d2,d3,d4,if_true,Option.bind_some,aP g3,e1,e2,aP g1,aP g2,XU hv hm hn,aP g4,jG,aX k (by omega)]
     refine ⟨_,rfl, ?_⟩
     rw [List.set_set,List.set_set,hI,List.set_set]
     have:cellV R xs ys i k=OI R (xs.getD (i-1) 0) (ys.getD (k-1) 0):=by unfold cellV;rw [if_pos ⟨c1,c2,c3,c4⟩]
     rw [← this,CK hCk]
    ·have hcv:cellV R xs ys i k=-1:=by unfold cellV;rw [if_neg hc]
     have hb':(if decide ((i:Int)>0) then (if decide ((k:Int)>0) then (if decide ((i:Int)<(xs.length:Int)) then some (decide ((k:Int)<(ys.length:Int))) else some false) else some false) else some false)=some false:=by
      by_cases c1:0<i
      ·by_cases c2:0<k
       ·by_cases c3:i<xs.length
        ·have c4:¬ k<ys.length:=fun q=>hc ⟨c1,c2,c3,q⟩
         simp [c1,c2,c3,c4]
        ·simp [c1,c2,c3]
       ·simp [c1,c2]
      ·simp [c1]
     rw [hb']
     simp only [Option.bind_some,Bool.false_eq_true,if_false,jG,aX k (by omega)]
     refine ⟨_,rfl, ?_⟩
     rw [hI,List.set_set,← hcv,CK hCk]) (fun s _=>by
    have:¬ ((List.range (ys.length+1)).length:Int)≤(ys.length:Int):=by rw [List.length_range];omega
    unfold jH
    simp only [this,decide_false,Bool.false_eq_true,if_false])
  rw [List.length_range,← hCl,List.take_length,Nat.sub_self,List.replicate_zero,List.append_nil] at q2
  rw [show ((0:Int),base)=(((0:Nat):Int),base) from rfl,q1,q2,hC]
 obtain ⟨C,hC⟩:∃ C,Lu R xs ys=C:=⟨_,rfl⟩
 have hCl:C.length=xs.length+1:=by rw [← hC];simp [Lu]
 have mk1:∀ {β:Type} (n:Nat) (z:β),n≤1000→mk (aL (n:Int) 1) z=some (List.replicate (n+1) z):=fun {β} n z hn'=>by
  rw [aX n (by omega)]
  unfold mk
  rw [if_pos ⟨by omega,by simp [LIM];omega⟩,Int.toNat_natCast]
 obtain ⟨r,q1,q2⟩:=wU (List.range (xs.length+1)) (fun k (s:List (List Int))=>((k:Int),s)) (mK R xs ys) (fun s=>s) (fun k s=>s=C.take k++List.replicate (C.length-k) []) (List.replicate (xs.length+1) []) (by
   rw [List.take_zero,List.nil_append,Nat.sub_zero,hCl])
  (fun k x s hx' hI=>by
   have hk:=aY hx'
   rw [List.length_range] at hk
   have hd:decide ((k:Int)≤(xs.length:Int))=true:=by simp;omega
   have hCk:C[k]?=some (Yu R xs ys k):=by rw [← hC];exact Rw xs ys k (by omega)
   have g0:s[k]?=some []:=by rw [hI];exact LC hCk
   have hks:=aY g0
   have g1:(s.set k (List.replicate (ys.length+1) 0))[k]?=some (List.replicate (ys.length+1) 0):=by rw [List.getElem?_set,if_pos rfl,if_pos hks]
   unfold mK
   simp only [hd,if_true,mk1 ys.length (0:Int) hy,Option.bind_some,aP g0,Int.toNat_natCast,inner k s _ (by omega) g1,aX k (by omega)]
   refine ⟨_,rfl, ?_⟩
   rw [List.set_set,hI,CK hCk]) (fun s _=>by
   have:¬ ((List.range (xs.length+1)).length:Int)≤(xs.length:Int):=by rw [List.length_range];omega
   unfold mK
   simp only [this,decide_false,Bool.false_eq_true,if_false])
 rw [List.length_range,← hCl,List.take_length,Nat.sub_self,List.replicate_zero,List.append_nil] at q2
 unfold pV
 rw [mk1 xs.length ([]:List Int) hx]
 simp only [Option.bind_some]
 rw [show ((0:Int),List.replicate (xs.length+1) ([]:List Int))=(((0:Nat):Int),List.replicate (xs.length+1) []) from rfl,q1,q2,hC]
 rfl
end
def cS (q x:Segment):Prop:=q.X2=x.X1∧q.Y2=x.Y1∧(q.Y1=x.Y2∨q.X1=x.X2)
instance (q x:Segment):Decidable (cS q x):=by unfold cS;infer_instance
abbrev Ln:=sheetmetalref06_Line
def jn (q x:Ln):Prop:=q.Low=x.Low∧q.High=x.High∧cS q.At x.At
instance (q x:Ln):Decidable (jn q x):=by unfold jn;infer_instance
theorem join_nil (x:Ln) (h:x.Low≠x.High):bS x []=some [x]:=by
 unfold bS
 have e1:(x.Low==x.High)=false:=by simp [h]
 have e2:aJ (([]:List Ln).length:Int) 1=-1:=bA (by simp) (by simp)
 rw [e2]
 simp only [e1,Bool.false_eq_true,if_false,show decide ((-1:Int) ≥ 0)=false from rfl,Option.bind_some]
 rw [nA (by simp [LIM])]
 rfl
theorem TS (x:Ln) (l:List Ln) (h:x.Low=x.High):bS x l=some l:=by
 unfold bS
 simp [h]
theorem Xy (x q:Ln) (o:List Ln) (ho:o.length≤10000000) (h:x.Low≠x.High):bS x (o++[q])=some (if jn q x then o++[⟨⟨q.At.X1,q.At.Y1,x.At.X2,x.At.Y2⟩,q.Low,q.High⟩] else o++[q]++[x]):=by
 unfold bS
 have e1:(x.Low==x.High)=false:=by simp [h]
 have hlen:((o++[q]).length:Int)=(o.length:Int)+1:=by simp
 have e2:aJ ((o++[q]).length:Int) 1=(o.length:Int):=by rw [hlen,bA (by omega) (by omega)];omega
 have g:(o++[q])[o.length]?=some q:=by simp
 have d:decide ((o.length:Int) ≥ 0)=true:=by simp
 rw [e2]
 simp only [e1,Bool.false_eq_true,if_false,d,if_true,aP g,Option.bind_some,Int.toNat_natCast]
 have hj : (if (q.Low==x.Low)=true then (if (q.High==x.High)=true then (if (q.At.X2==x.At.X1)=true then (if (q.At.Y2==x.At.Y1)=true then (if (q.At.Y1==x.At.Y2)=true then some true else some (q.At.X1==x.At.X2)) else some false) else some false) else some false) else some false)=some (decide (jn q x)):=by
  unfold jn cS
  by_cases h1:q.Low=x.Low
  ·by_cases h2:q.High=x.High
   ·by_cases h3:q.At.X2=x.At.X1
    ·by_cases h4:q.At.Y2=x.At.Y1
     ·by_cases h5:q.At.Y1=x.At.Y2
      ·simp [h1,h2,h3,h4,h5]
      ·by_cases h6:q.At.X1=x.At.X2
       ·simp [h1,h2,h3,h4,h5,h6]
       ·simp [h1,h2,h3,h4,h5,h6]
     ·simp [h1,h2,h3,h4]
    ·simp [h1,h2,h3]
   ·simp [h1,h2]
  ·simp [h1]
 rw [hj,Option.bind_some]
 by_cases hc:jn q x
 ·have s1:(o++[q]).set o.length (⟨⟨q.At.X1,q.At.Y1,x.At.X2,q.At.Y2⟩,q.Low,q.High⟩:Ln)=o++[⟨⟨q.At.X1,q.At.Y1,x.At.X2,q.At.Y2⟩,q.Low,q.High⟩]:=by rw [List.set_append_right _ _ (Nat.le_refl _)];simp
  have g2:(o++[(⟨⟨q.At.X1,q.At.Y1,x.At.X2,q.At.Y2⟩,q.Low,q.High⟩:Ln)])[o.length]?=some ⟨⟨q.At.X1,q.At.Y1,x.At.X2,q.At.Y2⟩,q.Low,q.High⟩:=by simp
  simp only [hc,decide_true,if_true,s1,aP g2,Option.bind_some]
  rw [List.set_append_right _ _ (Nat.le_refl _)]
  simp
 ·simp only [hc,decide_false,Bool.false_eq_true,if_false]
  rw [nA (by simp [LIM];omega)]
  simp
theorem ZA {A B:Int→Option Int} {xs:List Int} (h:Al A B xs) {ln:Int→Int→Segment} {body:Int×List Ln→Option (Int×List Ln ⊕ List Ln)}
  (hb:∀ (k:Nat) x x' (out:List Ln),xs[k]?=some x→xs[k+1]?=some x'→body ((k:Int),out)=(bS ⟨ln x x',nm (B x),nm (A x)⟩ out).bind fun r=>some (.inl (((k+1:Nat):Int),r)))
  (hend:∀ (k:Nat) (out:List Ln),k<100000→xs.length≤k+1→body ((k:Int),out)=some (.inr out)) (hcs:∀ a b e e',cS (ln a b) (ln e e')↔b=e) (hmg:∀ a e e',(⟨(ln a e).X1,(ln a e).Y1,(ln e e').X2,(ln e e').Y2⟩:Segment)=ln a e')
  {out0:List Ln} (h0:out0.length≤5000000) (hout:∀ q ∈ out0,∀ x x',x<x'→¬ cS q.At (ln x x')) :
  ∃ L,aK body (0,out0)=some (out0++L.map fun p=>⟨ln p.1 p.2,nm (B p.1),nm (A p.1)⟩)∧sJ (fun z=>cod (A z) (B z)) L∧L.length≤xs.length:=by
 obtain ⟨s,hs⟩:∃ s:Int→Int,s=fun z=>cod (A z) (B z):=⟨_,rfl⟩
 have hlen:=h.len
 have s0:∀ z,s z=0↔A z=B z:=fun z=>by rw [hs];exact h.s0 z
 have sinj:∀ z w,s z≠0→s z=s w→A z=A w∧B z=B w:=fun z w q1 q2=>by subst hs;exact h.inj q1 q2
 obtain ⟨lo,hlo⟩:=h.lo
 replace hlo:∀ z,z<lo→s z=0:=fun z hz=>by rw [hs];exact hlo z hz
 have hst:Ko s xs:=by rw [hs];exact Oq (fun p:Option Int×Option Int=>cod p.1 p.2) (g:=fun z=>(A z,B z)) h.st
 rw [← hs]
 obtain ⟨mk,hmk⟩:∃ mk:Int×Int→Ln,mk=fun p=>⟨ln p.1 p.2,nm (B p.1),nm (A p.1)⟩:=⟨_,rfl⟩
 rw [← hmk]
 obtain ⟨r,q1,q2⟩:=nP (fun t:Int×List Ln=>((xs.length:Int)-t.1).toNat)
  (fun t:Int×List Ln=>∃ k:Nat,t.1=k∧(k<xs.length∨k=0)∧(xs=[]→t.2=out0)∧(∀ e,xs[k]?=some e→∃ L,sJ (cut s e) L∧L.length≤k∧t.2=out0++L.map mk))
  (fun r=>∃ L,r=out0++L.map mk∧sJ s L∧L.length≤xs.length) body (by
   rintro ⟨k',out⟩ ⟨k,hk',hk,hnil,hI⟩
   simp only at hk' hnil hI ⊢
   subst hk'
   by_cases hkl:k+1<xs.length
   case neg =>
    right
    refine ⟨out,hend k out (by omega) (by omega), ?_⟩
    rcases hk with hk | rfl
    ·obtain ⟨e,he⟩:∃ e,xs[k]?=some e:=⟨_,List.getElem?_eq_getElem hk⟩
     obtain ⟨L,hL,hLk,ho⟩:=hI e he
     refine ⟨L,ho,DZ hL fun z hz=>?_,by omega⟩
     have:=h.high e (by rw [show xs.length-1=k from by omega];exact he) z hz
     rw [s0,this.1,this.2]
    ·rcases Classical.em (xs=[]) with q | q
     ·refine ⟨[],by rw [hnil q];simp,⟨.nil,fun a b=>⟨fun m=>by simp at m,fun m=>absurd ((s0 a).2 ?_) m.2.1⟩⟩,by simp⟩
      rw [(h.emp q a).1,(h.emp q a).2]
     ·have hp:=List.length_pos_iff.2 q
      obtain ⟨e,he⟩:∃ e,xs[0]?=some e:=⟨_,List.getElem?_eq_getElem hp⟩
      obtain ⟨L,hL,hLk,ho⟩:=hI e he
      refine ⟨L,ho,DZ hL fun z hz=>?_,by omega⟩
      have:=h.high e (by rw [show xs.length-1=0 from by omega];exact he) z hz
      rw [s0,this.1,this.2]
   left
   obtain ⟨e,he⟩:∃ e,xs[k]?=some e:=⟨_,List.getElem?_eq_getElem (by omega)⟩
   obtain ⟨e',he'⟩:∃ e',xs[k+1]?=some e':=⟨_,List.getElem?_eq_getElem hkl⟩
   obtain ⟨hee,hst'⟩:=Dp hst he he'
   obtain ⟨L,hL,hLk,ho⟩:=hI e he
   rw [hb k e e' out he he']
   have fin:∀ L',sJ (cut s e') L'→L'.length≤k+1→bS ⟨ln e e',nm (B e),nm (A e)⟩ out=some (out0++L'.map mk) →
     ∃ s',(bS ⟨ln e e',nm (B e),nm (A e)⟩ out).bind (fun r=>some (.inl (((k+1:Nat):Int),r)))=some (.inl s':Int×List Ln ⊕ List Ln)∧(∃ k:Nat,s'.1=k∧(k<xs.length∨k=0)∧(xs=[]→s'.2=out0)∧(∀ e,xs[k]?=some e→∃ L,sJ (cut s e) L∧L.length≤k∧s'.2=out0++L.map mk))∧((xs.length:Int)-s'.1).toNat<((xs.length:Int)-(k:Int)).toNat:=fun L' h1 h2 h3=>by
    rw [h3]
    refine ⟨(((k+1:Nat):Int),out0++L'.map mk),rfl,⟨k+1,rfl,.inl hkl,fun q=>by rw [q] at hkl;simp at hkl,fun e2 he2=>?_⟩,by simp only;omega⟩
    rw [he'] at he2;injection he2 with he2;subst he2
    exact ⟨L',h1,h2,rfl⟩
   have hne_iff:nm (B e)=nm (A e)↔s e=0:=by rw [s0,JE (h.sb e) (h.sa e)];exact eq_comm
   rcases Classical.em (s e=0) with e0 | e0
   ·refine fin L (Yi hL hee hst' e0) (by omega) ?_
    rw [TS _ _ (hne_iff.2 e0),ho]
   ·have hlh:(⟨ln e e',nm (B e),nm (A e)⟩:Ln).Low≠(⟨ln e e',nm (B e),nm (A e)⟩:Ln).High:=fun q=>e0 (hne_iff.1 q)
    rcases Classical.em (s (e-1)=s e) with e1 | e1
    ·obtain ⟨l0,a,hla,hrun⟩:=GX hL hee hst' hlo e0 e1
     have hr:=wD.1 ((hL.2 a e).1 (by rw [hla];simp))
     have hb2:=sinj (e-1) a (by rw [e1];exact e0) (hr.2.2.2.1 (e-1) (by omega) (by omega))
     have hb3:=sinj (e-1) e (by rw [e1];exact e0) e1
     refine fin (l0++[(a,e')]) hrun (by rw [hla] at hLk;simp at hLk ⊢;omega) ?_
     have hout':out=(out0++l0.map mk)++[mk (a,e)]:=by rw [ho,hla];simp
     rw [hout',Xy _ _ _ (by rw [hla] at hLk;simp at hLk ⊢;omega) hlh,if_pos,List.map_append,← List.append_assoc]
     ·rw [hmk]
      simp only [List.map_cons,List.map_nil]
      rw [hmg]
     ·rw [hmk]
      refine ⟨?_, ?_,(hcs _ _ _ _).2 rfl⟩
      ·show nm (B a)=nm (B e);rw [← hb2.2,hb3.2]
      ·show nm (A a)=nm (A e);rw [← hb2.1,hb3.1]
    ·refine fin (L++[(e,e')]) (MP hL hee hst' e0 e1) (by simp;omega) ?_
     have hres:(out0++L.map mk)++[(⟨ln e e',nm (B e),nm (A e)⟩:Ln)]=out0++(L++[(e,e')]).map mk:=by rw [List.map_append,← List.append_assoc,hmk];rfl
     rw [← hres,ho]
     rcases List.eq_nil_or_concat L with rfl | ⟨l0,p,hLp⟩
     ·rcases List.eq_nil_or_concat out0 with rfl | ⟨o,q,hoq⟩
      ·simp only [List.map_nil,List.append_nil,List.nil_append]
       exact join_nil _ hlh
      ·have hoq':out0=o++[q]:=by rw [hoq];exact List.concat_eq_append
       simp only [List.map_nil,List.append_nil]
       rw [hoq',Xy _ _ _ (by rw [hoq'] at h0;simp at h0;omega) hlh,if_neg]
       exact fun z=>hout q (by rw [hoq'];simp) e e' hee z.2.2
     ·have hLp':L=l0++[p]:=by rw [hLp];exact List.concat_eq_append
      have hout':out0++L.map mk=(out0++l0.map mk)++[mk p]:=by rw [hLp'];simp
      rw [hout',Xy _ _ _ (by rw [hLp'] at hLk;simp at hLk ⊢;omega) hlh,if_neg]
      intro z
      have hr:=wD.1 ((hL.2 p.1 p.2).1 (by rw [hLp'];simp))
      rw [hmk] at z
      obtain ⟨z1,z2,z3⟩:=z
      have z3':=(hcs p.1 p.2 e e').1 z3
      have z1':nm (B p.1)=nm (B e):=z1
      have z2':nm (A p.1)=nm (A e):=z2
      have y1:=(JE (h.sb _) (h.sb _)).1 z1'
      have y2:=(JE (h.sa _) (h.sa _)).1 z2'
      refine e1 ?_
      have:=hr.2.2.2.1 (e-1) (by omega) (by omega)
      rw [this,hs]
      simp only
      rw [y1,y2]) (0,out0)
   ⟨0,rfl,by omega,fun _=>rfl,fun e he=>by
    have hl:=h.low e he
    exact ⟨[],EA fun z hz=>by rw [s0,(hl z hz).1,(hl z hz).2],by simp,by simp⟩⟩
 obtain ⟨L,rfl,q3,q4⟩:=q2
 exact ⟨L,q1,q3,q4⟩
end Go.SM
namespace Go.SM
open Go Go.VI
noncomputable def Bh (l:LayoutT):Int×(List (List Bool))→Option (Int×(List (List Bool)) ⊕ (List (List Bool))):=fun s81 =>
 if (decide (s81.1<(l.Pieces.length:Int))) then ((idx l.Pieces s81.1).bind fun x107=>(mk (x107.Cuts.length:Int) false).bind fun l112=>(app s81.2 [l112]).bind fun l113=>some (.inl ((aL s81.1 1),l113))) else (some (.inr s81.2))
noncomputable def Dj (l:LayoutT) (edges:Int):Option (cut_State):=
 (mk edges false).bind fun l9=>(mk (l.Pieces.length:Int) false).bind fun l10=>(mk (l.Pieces.length:Int) 0).bind fun l11=>(mk (l.Pieces.length:Int) false).bind fun l12=>(aK (Bh l) (0,[])).bind fun x114=>some (cut_State.mk l9 x114 l10 l11 l12)
noncomputable def kF (l:LayoutT):Int×(List (List Bool))→Option (Int×(List (List Bool)) ⊕ (List (List Bool))):=fun s92 =>
 if (decide (s92.1<(l.Pieces.length:Int))) then ((idx l.Pieces s92.1).bind fun x126=>(mk (x126.Cuts.length:Int) false).bind fun l127=>(app s92.2 [l127]).bind fun l128=>some (.inl ((aL s92.1 1),l128))) else (some (.inr s92.2))
noncomputable def iE (l:LayoutT):Option (sheetmetalref07_State):=
 (bV l).bind fun r11=>(mk (r11.length:Int) false).bind fun l12=>(mk (l.Pieces.length:Int) false).bind fun l13=>(mk (l.Pieces.length:Int) 0).bind fun l14=>(mk (l.Pieces.length:Int) false).bind fun l15=>(aK (kF l) (0,[])).bind fun x129=>some (sheetmetalref07_State.mk l12 x129 l13 l14 l15)
noncomputable def lF (a:(List Int)) (b:(List Int)):Int→Option (Int ⊕ (Unit ⊕ Unit)):=fun s55 =>
 if (decide (s55<(a.length:Int))) then ((idx a s55).bind fun x78=>(idx b s55).bind fun x79=>if (x78 != x79) then (some (.inr (.inl ()))) else (some (.inl (aL s55 1)))) else (some (.inr (.inr (()))))
noncomputable def iA (a:(List Int)) (b:(List Int)):Option (Bool):=
 if ((a.length:Int) != (b.length:Int)) then (some false) else ((aK (lF a b) 0).bind fun x80=>match x80 with | .inl j81=>some false | .inr j82=>some true)
noncomputable def sS (st:cut_State) (l:LayoutT):Int→Option (Int ⊕ (Unit ⊕ Unit)):=fun s49 =>
 if (decide (s49<(l.Pieces.length:Int))) then ((idx l.Pieces s49).bind fun x66=>(idx st.Holes s49).bind fun x69=>if ((x69.length:Int) != (x66.Cuts.length:Int)) then (some (.inr (.inl ()))) else (some (.inl (aL s49 1)))) else (some (.inr (.inr (()))))
noncomputable def lI (st:cut_State) (l:LayoutT) (edges:Int):Option (Bool):=
 (if ((st.Cut.length:Int) != edges) then (some true) else (if ((st.Holes.length:Int) != (l.Pieces.length:Int)) then (some true) else (if ((st.Done.length:Int) != (l.Pieces.length:Int)) then (some true) else (if ((st.Joints.length:Int) != (l.Pieces.length:Int)) then (some true) else (some ((st.Fallen.length:Int) != (l.Pieces.length:Int))))))).bind fun j2=>if j2 then (some false) else ((aK (sS st l) 0).bind fun x70=>match x70 with | .inl j71=>some false | .inr j72=>some true)
noncomputable def lU (s0:(List Bool)) (v:Bool):Int→Option (Int ⊕ (Int ⊕ Unit)):=fun s23 =>
 if (decide (s23<(s0.length:Int))) then ((idx s0 s23).bind fun x31=>if (v==x31) then (some (.inr (.inl s23))) else (some (.inl (aL s23 1)))) else (some (.inr (.inr (()))))
noncomputable def vM (s0:(List Bool)) (v:Bool):Option (Int):=
 (aK (lU s0 v) 0).bind fun x32=>match x32 with | .inl j33=>some j33 | .inr j34=>some (-1)
noncomputable def eF (s0:(List Bool)) (v:Bool):Option (Bool):=
 (vM s0 v).bind fun r2=>some (decide (r2 ≥ 0))
noncomputable def Xq (e:EdgeT) (piece:Int):Option (Bool):=
 (if (e.A==piece) then (some true) else (some (e.B==piece))).bind fun j1=>some j1
noncomputable def sU (st:cut_State) (all:(List EdgeT)) (piece:Int):Int→Option (Int ⊕ (Unit ⊕ Unit)):=fun s63 =>
 if (decide (s63<(all.length:Int))) then ((idx all s63).bind fun x86=>((Xq x86 piece).bind fun r90=>if r90 then ((idx st.Cut s63).bind fun x91=>some (!x91)) else (some false)).bind fun j89=>if j89 then (some (.inr (.inl ()))) else (some (.inl (aL s63 1)))) else (some (.inr (.inr (()))))
noncomputable def vC (st:cut_State) (all:(List EdgeT)) (piece:Int):Option (Bool):=
 (aK (sU st all piece) 0).bind fun x92=>match x92 with | .inl j93=>some false | .inr j94=>some true
noncomputable def Aa (st:cut_State) (all:(List EdgeT)) (x2:ItemT):Option (Bool):=
 (idx st.Fallen x2.Piece).bind fun x10=>if x10 then (some false) else (if (decide (x2.Hole ≥ 0)) then ((idx st.Holes x2.Piece).bind fun x15=>(idx x15 x2.Hole).bind fun x16=>some (!x16)) else (((idx st.Done x2.Piece).bind fun x22=>if x22 then (some false) else ((idx st.Holes x2.Piece).bind fun x23=>(eF x23 false).bind fun r24=>if r24 then (some false) else ((vC st all x2.Piece).bind fun r25=>some (!r25)))).bind fun j21=>some j21))
noncomputable def Be (s41:Int×Int×Int×Int×Int):(Int×Int×Int×Int)→Option ((Int×Int×Int×Int×Int) ⊕ (Int×Int×Int×Int)):=fun j55 =>
 some (.inl ((aL s41.1 1),j55.1,j55.2.1,j55.2.2.1,j55.2.2.2))
noncomputable def Bf (x0:Piece):(Int×Int×Int×Int×Int)→Option ((Int×Int×Int×Int×Int) ⊕ (Int×Int×Int×Int)):=fun s41 =>
 if (decide (s41.1<(x0.Rects.length:Int))) then ((idx x0.Rects s41.1).bind fun x57=>(fT x57).bind fun r59=>if (!r59) then (Be s41 (s41.2.1,s41.2.2.1,s41.2.2.2.1,s41.2.2.2.2)) else (if (s41.2.2.2.1==0) then (Be s41 (x57.X,x57.Y,x57.W,x57.H)) else (Be s41 ((nO s41.2.1 x57.X),(nO s41.2.2.1 x57.Y),(aJ (fF (aL s41.2.1 s41.2.2.2.1) (aL x57.X x57.W)) (nO s41.2.1 x57.X)),(aJ (fF (aL s41.2.2.1 s41.2.2.2.2) (aL x57.Y x57.H)) (nO s41.2.2.1 x57.Y)))))) else (some (.inr (s41.2.1,s41.2.2.1,s41.2.2.2.1,s41.2.2.2.2)))
noncomputable def Me (x0:Piece):Option (Bool):=
 (aK (Bf x0) (0,0,0,0,0)).bind fun x60=>some (decide ((nO x60.2.2.1 x60.2.2.2)<7200))
noncomputable def Ht (r0:Rect) (a_0:Int) (a_1:Int) (a_2:Int) (a_3:Int):Option (Bool):=
 (Au (Rect.mk a_0 a_1 a_2 a_3) r0).bind fun r2=>some r2
noncomputable def bG (s0:(List Rect)) (f_0_0:Int) (f_0_1:Int) (f_0_2:Int) (f_0_3:Int):Int→Option (Int ⊕ (Int ⊕ Unit)):=fun s39 =>
 if (decide (s39<(s0.length:Int))) then ((idx s0 s39).bind fun x54=>(Ht x54 f_0_0 f_0_1 f_0_2 f_0_3).bind fun r55=>if r55 then (some (.inr (.inl s39))) else (some (.inl (aL s39 1)))) else (some (.inr (.inr (()))))
noncomputable def dV (s0:(List Rect)) (f_0_0:Int) (f_0_1:Int) (f_0_2:Int) (f_0_3:Int):Option (Int):=
 (aK (bG s0 f_0_0 f_0_1 f_0_2 f_0_3) 0).bind fun x56=>match x56 with | .inl j57=>some j57 | .inr j58=>some (-1)
noncomputable def bM (s0:(List Rect)) (f_0_0:Int) (f_0_1:Int) (f_0_2:Int) (f_0_3:Int):Option (Bool):=
 (dV s0 f_0_0 f_0_1 f_0_2 f_0_3).bind fun r2=>some (decide (r2 ≥ 0))
noncomputable def wM (l:(List Rect)) (s1:Spot):Int→Option (Int ⊕ (Unit ⊕ Unit)):=fun s41 =>
 if (decide (s41<([(Rect.mk (aJ s1.X 1) (aJ s1.Y 1) 1 1),(Rect.mk s1.X (aJ s1.Y 1) 1 1),(Rect.mk (aJ s1.X 1) s1.Y 1 1),(Rect.mk s1.X s1.Y 1 1)].length:Int))) then ((idx [(Rect.mk (aJ s1.X 1) (aJ s1.Y 1) 1 1),(Rect.mk s1.X (aJ s1.Y 1) 1 1),(Rect.mk (aJ s1.X 1) s1.Y 1 1),(Rect.mk s1.X s1.Y 1 1)] s41).bind fun x55=>(bM l x55.X x55.Y x55.W x55.H).bind fun r57=>if (!r57) then (some (.inr (.inl ()))) else (some (.inl (aL s41 1)))) else (some (.inr (.inr (()))))
noncomputable def nL (l:(List Rect)) (s1:Spot):Option (Bool):=
 (if (decide (s1.X<(-4194304))) then (some true) else (if (decide (s1.X>4194304)) then (some true) else (if (decide (s1.Y<(-4194304))) then (some true) else (some (decide (s1.Y>4194304)))))).bind fun j2=>if j2 then (some false) else ((aK (wM l s1) 0).bind fun x58=>match x58 with | .inl j59=>some false | .inr j60=>some true)
noncomputable def IQ (s0:Spot) (l:Segment):Option (Int):=
 some (fF (fF (fF (fF 0 (aJ l.X1 s0.X)) (aJ s0.X l.X2)) (aJ l.Y1 s0.Y)) (aJ s0.Y l.Y2))
noncomputable def sV (l:LayoutT) (x3:ItemT):Int→Option (Int ⊕ (Unit ⊕ Unit)):=fun s59 =>
 if (decide (s59<(l.Pieces.length:Int))) then ((idx l.Pieces s59).bind fun x73=>(nL x73.Rects (Spot.mk x3.Lead.X x3.Lead.Y)).bind fun r75=>if r75 then (some (.inr (.inl ()))) else (some (.inl (aL s59 1)))) else (some (.inr (.inr (()))))
noncomputable def sW (st:cut_State) (all:(List EdgeT)) (x3:ItemT):Int→Option (Int ⊕ (Unit ⊕ Unit)):=fun s157 =>
 if (decide (s157<(all.length:Int))) then ((idx all s157).bind fun x186=>((Xq x186 x3.Piece).bind fun r191=>if r191 then ((idx st.Cut s157).bind fun x192=>if x192 then (some false) else ((IQ (Spot.mk x3.Lead.X x3.Lead.Y) x186.Line).bind fun r193=>some (decide (r193≤7200)))) else (some false)).bind fun j190=>if j190 then (some (.inr (.inl ()))) else (some (.inl (aL s157 1)))) else (some (.inr (.inr (()))))
noncomputable def xI (st:cut_State) (l:LayoutT) (all:(List EdgeT)) (x3:ItemT):Option (Bool):=
 if (decide (x3.Hole ≥ 0)) then ((idx l.Pieces x3.Piece).bind fun x12=>(idx x12.Cuts x3.Hole).bind fun x13=>(if (decide (x3.Lead.X>x13.X)) then (if (decide (x3.Lead.X<(aL x13.X x13.W))) then (if (decide (x3.Lead.Y>x13.Y)) then (some (decide (x3.Lead.Y<(aL x13.Y x13.H)))) else (some false)) else (some false)) else (some false)).bind fun j14=>some j14) else ((if (decide (x3.Lead.X<0)) then (some true) else (if (decide (x3.Lead.X>l.Sheet.Width)) then (some true) else (if (decide (x3.Lead.Y<0)) then (some true) else (if (decide (x3.Lead.Y>l.Sheet.Height)) then (some true) else ((nL l.Sheet.Clamps (Spot.mk x3.Lead.X x3.Lead.Y)).bind fun r20=>some r20))))).bind fun j19=>if j19 then (some false) else ((aK (sV l x3) 0).bind fun x76=>match x76 with | .inl j77=>some false | .inr j78=>(aK (sW st all x3) 0).bind fun x194=>match x194 with | .inl j195=>some true | .inr j196=>some false))
noncomputable def jA (s:(List Bool)):Option (List Bool):=app [] s
noncomputable def zK (s:(List Int)):Option (List Int):=app [] s
noncomputable def nC (st:cut_State):Int×(List (List Bool))→Option (Int×(List (List Bool)) ⊕ (List (List Bool))):=fun s81 =>
 if (decide (s81.1<(st.Holes.length:Int))) then ((idx st.Holes s81.1).bind fun x107=>(jA x107).bind fun r112=>(app s81.2 [r112]).bind fun l113=>some (.inl ((aL s81.1 1),l113))) else (some (.inr s81.2))
noncomputable def wN (st:cut_State):Option (cut_State):=
 (jA st.Cut).bind fun r9=>(jA st.Done).bind fun r10=>(zK st.Joints).bind fun r11=>(jA st.Fallen).bind fun r12=>(aK (nC st) (0,[])).bind fun x114=>some (cut_State.mk r9 x114 r10 r11 r12)
noncomputable def Sd (s170:Int×(List Bool)):(List Bool)→Option (Int×(List Bool) ⊕ (List Bool)):=fun j199 =>
 some (.inl ((aL s170.1 1),j199))
noncomputable def Dh (l:LayoutT) (all:(List EdgeT)) (j89:(List Bool)×(List (List Bool))×(List Bool)×(List Int)):Int×(List Bool)→Option (Int×(List Bool) ⊕ (List Bool)):=fun s170 =>
 if (decide (s170.1<(l.Pieces.length:Int))) then (((vC (cut_State.mk j89.1 j89.2.1 j89.2.2.1 j89.2.2.2 s170.2) all s170.1).bind fun r204=>if r204 then ((idx j89.2.2.1 s170.1).bind fun x205=>if x205 then ((idx j89.2.2.2 s170.1).bind fun x206=>some (!(decide (x206>0)))) else (some true)) else (some false)).bind fun j203=>if j203 then ((idx s170.2 s170.1).bind fun x208=>Sd s170 (List.set s170.2 (Int.toNat s170.1) true)) else (Sd s170 s170.2)) else (some (.inr s170.2))
noncomputable def Df (l:LayoutT) (all:(List EdgeT)) (r34:cut_State):((List Bool)×(List (List Bool))×(List Bool)×(List Int))→Option (cut_State×Int):=fun j89 =>
 (aK (Dh l all j89) (0,r34.Fallen)).bind fun x209=>some ((cut_State.mk j89.1 j89.2.1 j89.2.2.1 j89.2.2.2 x209),0)
noncomputable def Si (s236:Int×(List Bool)):(List Bool)→Option (Int×(List Bool) ⊕ (List Bool)):=fun j256 =>
 some (.inl ((aL s236.1 1),j256))
noncomputable def Ha (all:(List EdgeT)) (x3:ItemT):Int×(List Bool)→Option (Int×(List Bool) ⊕ (List Bool)):=fun s236 =>
 if (decide (s236.1<(all.length:Int))) then ((idx all s236.1).bind fun x258=>(Xq x258 x3.Piece).bind fun r260=>if r260 then ((idx s236.2 s236.1).bind fun x262=>Si s236 (List.set s236.2 (Int.toNat s236.1) true)) else (Si s236 s236.2)) else (some (.inr s236.2))
noncomputable def Ey (l:LayoutT) (all:(List EdgeT)) (st:cut_State) (x3:ItemT):Option (cut_State×Int):=
 ((lI st l (all.length:Int)).bind fun r19=>if r19 then (if (decide (x3.Piece<0)) then (some true) else (some (decide (x3.Piece ≥ (l.Pieces.length:Int))))) else (some true)).bind fun j18=>if j18 then (some ((cut_State.mk [] [] [] [] []),1)) else ((if (decide (x3.Hole<(-1))) then (some true) else ((idx l.Pieces x3.Piece).bind fun x23=>if (decide (x3.Hole ≥ (x23.Cuts.length:Int))) then (some true) else (if (decide (x3.Joints<0)) then (some true) else (if (decide (x3.Joints>4)) then (some true) else (if (decide (x3.Hole ≥ 0)) then (some (x3.Joints != 0)) else (some false)))))).bind fun j22=>if j22 then (some ((cut_State.mk [] [] [] [] []),1)) else ((Aa st all x3).bind fun r25=>if (!r25) then (some ((cut_State.mk [] [] [] [] []),12)) else ((if (decide (x3.Hole<0)) then (if (x3.Joints==0) then ((idx l.Pieces x3.Piece).bind fun x29=>(Me x29).bind fun r30=>some r30) else (some false)) else (some false)).bind fun j28=>if j28 then (some ((cut_State.mk [] [] [] [] []),15)) else ((xI st l all x3).bind fun r32=>if (!r32) then (some ((cut_State.mk [] [] [] [] []),14)) else ((wN st).bind fun r34=>if (decide (x3.Hole ≥ 0)) then ((idx r34.Holes x3.Piece).bind fun x214=>(idx x214 x3.Hole).bind fun x215=>Df l all r34 (r34.Cut,(List.set r34.Holes (Int.toNat x3.Piece) (List.set x214 (Int.toNat x3.Hole) true)),r34.Done,r34.Joints)) else ((idx r34.Done x3.Piece).bind fun x220=>(idx r34.Joints x3.Piece).bind fun x221=>(aK (Ha all x3) (0,r34.Cut)).bind fun x263=>Df l all r34 (x263,r34.Holes,(List.set r34.Done (Int.toNat x3.Piece) true),(List.set r34.Joints (Int.toNat x3.Piece) x3.Joints))))))))
noncomputable def kZ (l:LayoutT) (st:sheetmetalref07_State):Int→Option (Int ⊕ (Unit ⊕ Unit)):=fun s57 =>
 if (decide (s57<(l.Pieces.length:Int))) then ((idx st.Holes s57).bind fun x80=>(idx l.Pieces s57).bind fun x81=>if ((x80.length:Int) != (x81.Cuts.length:Int)) then (some (.inr (.inl ()))) else (some (.inl (aL s57 1)))) else (some (.inr (.inr (()))))
noncomputable def fD (l:LayoutT) (st:sheetmetalref07_State) (edges:Int):Option (Bool):=
 (if ((st.Cut.length:Int) != edges) then (some true) else (if ((st.Holes.length:Int) != (l.Pieces.length:Int)) then (some true) else (if ((st.Done.length:Int) != (l.Pieces.length:Int)) then (some true) else (if ((st.Joints.length:Int) != (l.Pieces.length:Int)) then (some true) else (some ((st.Fallen.length:Int) != (l.Pieces.length:Int))))))).bind fun j2=>if j2 then (some false) else ((aK (kZ l st) 0).bind fun x82=>match x82 with | .inl j83=>some false | .inr j84=>some true)
noncomputable def pX (l:(List Bool)):Int→Option (Int ⊕ (Unit ⊕ Unit)):=fun s23 =>
 if (decide (s23<(l.length:Int))) then ((idx l s23).bind fun x31=>if (!x31) then (some (.inr (.inl ()))) else (some (.inl (aL s23 1)))) else (some (.inr (.inr (()))))
noncomputable def lY (l:(List Bool)):Option (Bool):=
 (aK (pX l) 0).bind fun x32=>match x32 with | .inl j33=>some false | .inr j34=>some true
noncomputable def kE (l:(List EdgeT)) (st:sheetmetalref07_State) (piece:Int):Int→Option (Int ⊕ (Unit ⊕ Unit)):=fun s79 =>
 if (decide (s79<(l.length:Int))) then (((idx l s79).bind fun x112=>if (x112.A==piece) then ((idx st.Cut s79).bind fun x113=>some (!x113)) else ((idx l s79).bind fun x114=>if (x114.B==piece) then ((idx st.Cut s79).bind fun x115=>some (!x115)) else (some false))).bind fun j111=>if j111 then (some (.inr (.inl ()))) else (some (.inl (aL s79 1)))) else (some (.inr (.inr (()))))
noncomputable def jV (l:(List EdgeT)) (st:sheetmetalref07_State) (piece:Int):Option (Bool):=
 (aK (kE l st piece) 0).bind fun x116=>match x116 with | .inl j117=>some false | .inr j118=>some true
noncomputable def nX (s65:Bool×Int×Int×Int×Int×Int):(Bool×Int×Int×Int×Int)→Option ((Bool×Int×Int×Int×Int×Int) ⊕ (Bool×Int×Int×Int×Int)):=fun j88 =>
 some (.inl (j88.1,j88.2.1,j88.2.2.1,j88.2.2.2.1,j88.2.2.2.2,(aL s65.2.2.2.2.2 1)))
noncomputable def nY (s65:Bool×Int×Int×Int×Int×Int) (x90:Rect):(Bool×Int×Int×Int×Int)→Option ((Bool×Int×Int×Int×Int×Int) ⊕ (Bool×Int×Int×Int×Int)):=fun j95 =>
 nX s65 (j95.1,(nO j95.2.1 x90.X),(nO j95.2.2.1 x90.Y),(fF j95.2.2.2.1 (aL x90.X x90.W)),(fF j95.2.2.2.2 (aL x90.Y x90.H)))
noncomputable def jZ (x0:Piece):(Bool×Int×Int×Int×Int×Int)→Option ((Bool×Int×Int×Int×Int×Int) ⊕ (Bool×Int×Int×Int×Int)):=fun s65 =>
 if (decide (s65.2.2.2.2.2<(x0.Rects.length:Int))) then ((idx x0.Rects s65.2.2.2.2.2).bind fun x90=>(bU x90).bind fun r94=>if (!r94) then (nX s65 (s65.1,s65.2.1,s65.2.2.1,s65.2.2.2.1,s65.2.2.2.2.1)) else (if (!s65.1) then (nY s65 x90 (true,x90.X,x90.Y,(aL x90.X x90.W),(aL x90.Y x90.H))) else (nY s65 x90 (s65.1,s65.2.1,s65.2.2.1,s65.2.2.2.1,s65.2.2.2.2.1)))) else (some (.inr (s65.1,s65.2.1,s65.2.2.1,s65.2.2.2.1,s65.2.2.2.2.1)))
noncomputable def mZ (x0:Piece):Option (Bool):=
 (aK (jZ x0) (false,0,0,0,0,0)).bind fun x96=>(if x96.1 then (some (decide ((nO (aJ x96.2.2.2.1 x96.2.1) (aJ x96.2.2.2.2 x96.2.2.1))<7200))) else (some true)).bind fun j97=>some j97
noncomputable def jJ (l:(List Rect)) (x1:Int) (y:Int):Int→Option (Int ⊕ (Unit ⊕ Unit)):=fun s39 =>
 if (decide (s39<(l.length:Int))) then ((idx l s39).bind fun x54=>(jC (Rect.mk x1 y 1 1) x54).bind fun r55=>if r55 then (some (.inr (.inl ()))) else (some (.inl (aL s39 1)))) else (some (.inr (.inr (()))))
noncomputable def gP (l:(List Rect)) (x1:Int) (y:Int):Option (Bool):=
 (aK (jJ l x1 y) 0).bind fun x56=>match x56 with | .inl j57=>some true | .inr j58=>some false
noncomputable def fH (l:(List Rect)) (s1:Spot):Option (Bool):=
 (if (decide (s1.X≤(-1048576))) then (some true) else (if (decide (s1.X ≥ 1048576)) then (some true) else (if (decide (s1.Y≤(-1048576))) then (some true) else (some (decide (s1.Y ≥ 1048576)))))).bind fun j2=>if j2 then (some false) else (((gP l s1.X s1.Y).bind fun r8=>if r8 then ((gP l (aJ s1.X 1) s1.Y).bind fun r9=>if r9 then ((gP l s1.X (aJ s1.Y 1)).bind fun r10=>if r10 then ((gP l (aJ s1.X 1) (aJ s1.Y 1)).bind fun r11=>some r11) else (some false)) else (some false)) else (some false)).bind fun j7=>some j7)
noncomputable def uA (s0:Spot) (g:Segment):Option (Int):=
 some (fF (fF (fF (fF 0 (aJ g.X1 s0.X)) (aJ s0.X g.X2)) (aJ g.Y1 s0.Y)) (aJ s0.Y g.Y2))
noncomputable def kC (l:LayoutT) (s4:Spot):Int→Option (Int ⊕ (Unit ⊕ Unit)):=fun s61 =>
 if (decide (s61<(l.Pieces.length:Int))) then ((idx l.Pieces s61).bind fun x84=>(fH x84.Rects s4).bind fun r85=>if r85 then (some (.inr (.inl ()))) else (some (.inl (aL s61 1)))) else (some (.inr (.inr (()))))
noncomputable def kD (es:(List EdgeT)) (st:sheetmetalref07_State) (piece:Int) (s4:Spot):Int→Option (Int ⊕ (Unit ⊕ Unit)):=fun s295 =>
 if (decide (s295<(es.length:Int))) then (((idx es s295).bind fun x388=>if (x388.A==piece) then ((idx st.Cut s295).bind fun x389=>if x389 then (some false) else ((idx es s295).bind fun x390=>(uA s4 x390.Line).bind fun r391=>some (decide (r391≤7200)))) else ((idx es s295).bind fun x392=>if (x392.B==piece) then ((idx st.Cut s295).bind fun x393=>if x393 then (some false) else ((idx es s295).bind fun x394=>(uA s4 x394.Line).bind fun r395=>some (decide (r395≤7200)))) else (some false))).bind fun j387=>if j387 then (some (.inr (.inl ()))) else (some (.inl (aL s295 1)))) else (some (.inr (.inr (()))))
noncomputable def sF (l:LayoutT) (es:(List EdgeT)) (st:sheetmetalref07_State) (piece:Int) (s4:Spot):Option (Bool):=
 (if (decide (s4.X<0)) then (some true) else (if (decide (s4.Y<0)) then (some true) else (if (decide (s4.X>l.Sheet.Width)) then (some true) else (if (decide (s4.Y>l.Sheet.Height)) then (some true) else ((fH l.Sheet.Clamps s4).bind fun r6=>some r6))))).bind fun j5=>if j5 then (some false) else ((aK (kC l s4) 0).bind fun x86=>match x86 with | .inl j87=>some false | .inr j88=>(aK (kD es st piece s4) 0).bind fun x396=>match x396 with | .inl j397=>some true | .inr j398=>some false)
noncomputable def eG (l:LayoutT) (es:(List EdgeT)) (st:sheetmetalref07_State) (x3:ItemT):Option (Int):=
 ((fD l st (es.length:Int)).bind fun r13=>if r13 then (if (decide (x3.Piece<0)) then (some true) else (if (decide (x3.Piece ≥ (l.Pieces.length:Int))) then (some true) else (if (decide (x3.Hole<(-1))) then (some true) else ((idx l.Pieces x3.Piece).bind fun x14=>if (decide (x3.Hole ≥ (x14.Cuts.length:Int))) then (some true) else (if (decide (x3.Joints<0)) then (some true) else (if (decide (x3.Joints>4)) then (some true) else (if (decide (x3.Hole ≥ 0)) then (some (x3.Joints != 0)) else (some false)))))))) else (some true)).bind fun j12=>if j12 then (some 1) else ((idx l.Pieces x3.Piece).bind fun x16=>if (decide (x3.Hole ≥ 0)) then (((idx st.Fallen x3.Piece).bind fun x58=>if x58 then (some true) else ((idx st.Holes x3.Piece).bind fun x59=>(idx x59 x3.Hole).bind fun x60=>some x60)).bind fun j57=>if j57 then (some 12) else ((idx x16.Cuts x3.Hole).bind fun x62=>(if (decide (x3.Lead.X≤x62.X)) then (some true) else (if (decide (x3.Lead.X ≥ (aL x62.X x62.W))) then (some true) else (if (decide (x3.Lead.Y≤x62.Y)) then (some true) else (some (decide (x3.Lead.Y ≥ (aL x62.Y x62.H))))))).bind fun j64=>if j64 then (some 14) else (some 0))) else (((idx st.Fallen x3.Piece).bind fun x82=>if x82 then (some true) else ((idx st.Done x3.Piece).bind fun x83=>if x83 then (some true) else ((idx st.Holes x3.Piece).bind fun x84=>(lY x84).bind fun r85=>if r85 then ((jV es st x3.Piece).bind fun r86=>some r86) else (some true)))).bind fun j81=>if j81 then (some 12) else ((if (x3.Joints==0) then ((mZ x16).bind fun r92=>some r92) else (some false)).bind fun j91=>if j91 then (some 15) else ((sF l es st x3.Piece x3.Lead).bind fun r96=>if (!r96) then (some 14) else (some 0)))))
noncomputable def kV (st:sheetmetalref07_State):Int×(List (List Bool))→Option (Int×(List (List Bool)) ⊕ (List (List Bool))):=fun s89 =>
 if (decide (s89.1<(st.Holes.length:Int))) then ((idx st.Holes s89.1).bind fun x123=>(app [] x123).bind fun l124=>(app s89.2 [l124]).bind fun l125=>some (.inl ((aL s89.1 1),l125))) else (some (.inr s89.2))
noncomputable def tZ (st:sheetmetalref07_State):Option (sheetmetalref07_State):=
 (app [] st.Cut).bind fun l9=>(app [] st.Done).bind fun l10=>(app [] st.Joints).bind fun l11=>(app [] st.Fallen).bind fun l12=>(aK (kV st) (0,[])).bind fun x126=>some (sheetmetalref07_State.mk l9 x126 l10 l11 l12)
noncomputable def oV (s154:Int×(List Bool)):(List Bool)→Option (Int×(List Bool) ⊕ (List Bool)):=fun j183 =>
 some (.inl ((aL s154.1 1),j183))
noncomputable def kX (es:(List EdgeT)) (j73:(List Bool)×(List (List Bool))×(List Bool)×(List Int)):Int×(List Bool)→Option (Int×(List Bool) ⊕ (List Bool)):=fun s154 =>
 if (decide (s154.1<(s154.2.length:Int))) then (((jV es (sheetmetalref07_State.mk j73.1 j73.2.1 j73.2.2.1 j73.2.2.2 s154.2) s154.1).bind fun r188=>if r188 then ((idx j73.2.2.1 s154.1).bind fun x189=>if x189 then ((idx j73.2.2.2 s154.1).bind fun x190=>some (!(decide (x190>0)))) else (some true)) else (some false)).bind fun j187=>if j187 then ((idx s154.2 s154.1).bind fun x192=>oV s154 (List.set s154.2 (Int.toNat s154.1) true)) else (oV s154 s154.2)) else (some (.inr s154.2))
noncomputable def kW (es:(List EdgeT)) (r2:sheetmetalref07_State):((List Bool)×(List (List Bool))×(List Bool)×(List Int))→Option (sheetmetalref07_State):=fun j73 =>
 (aK (kX es j73) (0,r2.Fallen)).bind fun x193=>some (sheetmetalref07_State.mk j73.1 j73.2.1 j73.2.2.1 j73.2.2.2 x193)
noncomputable def oW (s224:Int×(List Bool)):(List Bool)→Option (Int×(List Bool) ⊕ (List Bool)):=fun j253 =>
 some (.inl ((aL s224.1 1),j253))
noncomputable def kY (es:(List EdgeT)) (x2:ItemT):Int×(List Bool)→Option (Int×(List Bool) ⊕ (List Bool)):=fun s224 =>
 if (decide (s224.1<(es.length:Int))) then (((idx es s224.1).bind fun x259=>if (x259.A==x2.Piece) then (some true) else ((idx es s224.1).bind fun x260=>some (x260.B==x2.Piece))).bind fun j258=>if j258 then ((idx s224.2 s224.1).bind fun x262=>oW s224 (List.set s224.2 (Int.toNat s224.1) true)) else (oW s224 s224.2)) else (some (.inr s224.2))
noncomputable def gJ (es:(List EdgeT)) (st:sheetmetalref07_State) (x2:ItemT):Option (sheetmetalref07_State):=
 (tZ st).bind fun r2=>if (decide (x2.Hole ≥ 0)) then ((idx r2.Holes x2.Piece).bind fun x198=>(idx x198 x2.Hole).bind fun x199=>kW es r2 (r2.Cut,(List.set r2.Holes (Int.toNat x2.Piece) (List.set x198 (Int.toNat x2.Hole) true)),r2.Done,r2.Joints)) else ((idx r2.Done x2.Piece).bind fun x201=>(idx r2.Joints x2.Piece).bind fun x203=>(aK (kY es x2) (0,r2.Cut)).bind fun x263=>kW es r2 (x263,r2.Holes,(List.set r2.Done (Int.toNat x2.Piece) true),(List.set r2.Joints (Int.toNat x2.Piece) x2.Joints)))
end Go.SM
namespace Go.SM
open Go Go.VI
def Zl (l:List Rect):Int×Int×Int×Int:=l.foldl (fun s r=>if vR r then (if s.2.2.1=0 then (r.X,r.Y,r.W,r.H) else (min s.1 r.X,min s.2.1 r.Y,max (s.1+s.2.2.1) (r.X+r.W)-min s.1 r.X,max (s.2.1+s.2.2.2) (r.Y+r.H)-min s.2.1 r.Y)) else s) (0,0,0,0)
def Xo (l:List Rect):Bool×Int×Int×Int×Int:=l.foldl (fun s r=>if vR r then (if s.1 then (true,min s.2.1 r.X,min s.2.2.1 r.Y,max s.2.2.2.1 (r.X+r.W),max s.2.2.2.2 (r.Y+r.H)) else (true,r.X,r.Y,r.X+r.W,r.Y+r.H)) else s) (false,0,0,0,0)
def VG (p:Int×Int×Int×Int) (d:Bool×Int×Int×Int×Int):Prop:=
 (d.1=false∧p=(0,0,0,0))∨(d.1=true∧p=(d.2.1,d.2.2.1,d.2.2.2.1-d.2.1,d.2.2.2.2-d.2.2.1)∧-1048576≤d.2.1∧d.2.1<d.2.2.2.1∧d.2.2.2.1≤1048576∧-1048576≤d.2.2.1∧d.2.2.1<d.2.2.2.2∧d.2.2.2.2≤1048576)
theorem take_snoc' {α:Type} {l:List α} {k:Nat} {x:α} (h:l[k]?=some x):l.take (k+1)=l.take k++[x]:=by
 rw [List.take_add_one,h];rfl
def stP (s:Int×Int×Int×Int) (r:Rect):Int×Int×Int×Int:=if vR r then (if s.2.2.1=0 then (r.X,r.Y,r.W,r.H) else (min s.1 r.X,min s.2.1 r.Y,max (s.1+s.2.2.1) (r.X+r.W)-min s.1 r.X,max (s.2.1+s.2.2.2) (r.Y+r.H)-min s.2.1 r.Y)) else s
def stD (s:Bool×Int×Int×Int×Int) (r:Rect):Bool×Int×Int×Int×Int:=if vR r then (if s.1 then (true,min s.2.1 r.X,min s.2.2.1 r.Y,max s.2.2.2.1 (r.X+r.W),max s.2.2.2.2 (r.Y+r.H)) else (true,r.X,r.Y,r.X+r.W,r.Y+r.H)) else s
theorem C9 {p:Int×Int×Int×Int} {d:Bool×Int×Int×Int×Int} (ih:VG p d) (r:Rect):VG (stP p r) (stD d r):=by
 unfold stP stD
 by_cases hv:vR r
 ·rw [if_pos hv,if_pos hv]
  unfold vR at hv
  rcases ih with ⟨h1,rfl⟩ | ⟨h1,rfl,hb⟩
  ·rw [h1]
   refine .inr ⟨by simp, ?_, ?_⟩
   ·simp
    omega
   ·simp;omega
  ·rw [h1]
   simp only [if_true]
   rw [if_neg (by omega)]
   refine .inr ⟨rfl, ?_, ?_⟩
   ·simp only [Prod.mk.injEq,true_and]
    omega
   ·simp only;omega
 ·rw [if_neg hv,if_neg hv];exact ih
theorem O1:∀ (l:List Rect) {p:Int×Int×Int×Int} {d:Bool×Int×Int×Int×Int},VG p d→VG (l.foldl stP p) (l.foldl stD d)
 | [],_,_,h=>h
 | r::l,_,_,h=>O1 l (C9 h r)
theorem Y3 (l:List Rect):VG (Zl l) (Xo l):=O1 l (.inl ⟨rfl,rfl⟩)
theorem SI {l:List Rect} {k:Nat} {r:Rect} (h:l[k]?=some r):Zl (l.take (k+1))=stP (Zl (l.take k)) r:=by
 rw [take_snoc' h];unfold Zl;rw [List.foldl_append];rfl
theorem SH {l:List Rect} {k:Nat} {r:Rect} (h:l[k]?=some r):Xo (l.take (k+1))=stD (Xo (l.take k)) r:=by
 rw [take_snoc' h];unfold Xo;rw [List.foldl_append];rfl
theorem NL (x:Piece) (h:x.Rects.length≤9223372036854775806):aK (Bf x) (0,0,0,0,0)=some (Zl x.Rects):=by
 refine yI x.Rects (Bf x) (fun k=>((k:Int),Zl (x.Rects.take k))) _ (fun k r hr=>?_) ?_
 ·have hk:=(List.getElem?_eq_some_iff.1 hr).1
  have hb:=Y3 (x.Rects.take k)
  rw [SI hr]
  unfold Bf
  have h1:decide ((k:Int)<(x.Rects.length:Int))=true:=by simp;omega
  generalize Zl (x.Rects.take k)=p at hb ⊢
  generalize Xo (x.Rects.take k)=d at hb
  simp only [h1,if_true,aP hr,Option.bind_some,vW,Be,stP]
  rw [aS (a:=(k:Int)) (by omega) (by omega)]
  by_cases hv:vR r
  ·have hv':=hv
   unfold vR at hv'
   simp only [hv,decide_true,Bool.not_true,Bool.false_eq_true,if_false,if_true]
   by_cases h0:p.2.2.1=0
   ·simp [h0]
   ·rcases hb with ⟨_,rfl⟩ | ⟨_,rfl,hb⟩
    ·exact absurd rfl h0
    ·simp only at h0 ⊢
     have h0':(d.2.2.2.1-d.2.1==0)=false:=by rw [beq_eq_false_iff_ne];exact h0
     simp only [h0',h0,Bool.false_eq_true,if_false,Gh,Wj]
     rw [aS (a:=d.2.1) (by omega) (by omega),aS (a:=d.2.2.1) (by omega) (by omega),aS (a:=r.X) (by omega) (by omega),aS (a:=r.Y) (by omega) (by omega),bA (by omega) (by omega),bA (by omega) (by omega)]
     rfl
  ·simp [hv]
 ·simp [Bf]
theorem VJ (x:Piece) (h:x.Rects.length≤9223372036854775806):Me x=some (decide (min (Zl x.Rects).2.2.1 (Zl x.Rects).2.2.2<7200)):=by
 unfold Me
 rw [NL x h]
 simp [Gh]
theorem MM (x:Piece) (h:x.Rects.length≤9223372036854775806):aK (jZ x) (false,0,0,0,0,0)=some (Xo x.Rects):=by
 refine yI x.Rects (jZ x) (fun k=>((Xo (x.Rects.take k)).1,(Xo (x.Rects.take k)).2.1,(Xo (x.Rects.take k)).2.2.1,(Xo (x.Rects.take k)).2.2.2.1,(Xo (x.Rects.take k)).2.2.2.2,(k:Int))) _ (fun k r hr=>?_) ?_
 ·have hk:=(List.getElem?_eq_some_iff.1 hr).1
  rw [SH hr]
  unfold jZ
  have h1:decide ((k:Int)<(x.Rects.length:Int))=true:=by simp;omega
  generalize Xo (x.Rects.take k)=d
  obtain ⟨d1,d2,d3,d4,d5⟩:=d
  simp only [h1,if_true,aP hr,Option.bind_some,Ql,nX,nY,stD]
  rw [aS (a:=(k:Int)) (by omega) (by omega)]
  by_cases hv:vR r
  ·have hv':=hv
   unfold vR at hv'
   simp only [hv,decide_true,Bool.not_true,Bool.false_eq_true,if_false,if_true,Gh,Wj]
   rw [aS (a:=r.X) (by omega) (by omega),aS (a:=r.Y) (by omega) (by omega)]
   cases d1 with
   | false =>
     simp
   | true=>simp
  ·simp [hv]
 ·simp [jZ]
theorem UJ (x:Piece) (h:x.Rects.length≤9223372036854775806):mZ x=some (decide (min (Zl x.Rects).2.2.1 (Zl x.Rects).2.2.2<7200)):=by
 unfold mZ
 rw [MM x h]
 have hb:=Y3 x.Rects
 simp only [Option.bind_some]
 generalize Zl x.Rects=p at hb ⊢
 generalize Xo x.Rects=d at hb ⊢
 rcases hb with ⟨h1,rfl⟩ | ⟨h1,rfl,hb⟩
 ·simp [h1]
 ·simp only [h1,if_true,Option.bind_some,Gh]
  rw [bA (by omega) (by omega),bA (by omega) (by omega)]
def Bc (l:List Rect) (x y:Int):Bool:=l.any fun r=>decide (wZ ⟨x,y,1,1⟩ r)
theorem VA (l:List Rect) (x y:Int) (h:l.length≤9223372036854775806):gP l x y=some (Bc l x y):=by
 unfold gP
 have hL:aK (jJ l x y) 0=some (if l.any (fun r=>decide (wZ ⟨x,y,1,1⟩ r)) then .inl () else .inr ()):=by
  refine DC l (jJ l x y) (fun r=>decide (wZ ⟨x,y,1,1⟩ r)) (.inr ()) (.inl ()) (fun k r hr=>?_) ?_
  ·have hk:=(List.getElem?_eq_some_iff.1 hr).1
   have h1:decide ((k:Int)<(l.length:Int))=true:=by simp;omega
   unfold jJ
   simp only [h1,if_true,aP hr,Option.bind_some,Xk]
   rw [aS (by omega) (by omega)]
   rfl
  ·simp [jJ]
 rw [hL]
 unfold Bc
 cases l.any fun r=>decide (wZ ⟨x,y,1,1⟩ r) <;> rfl
theorem KR (l:List Rect) (x y:Int) (h:l.length≤9223372036854775806):bM l x y 1 1=some (Bc l x y):=by
 unfold bM dV
 have key:∀ n k,k+n=l.length→∃ r:Int ⊕ Unit,aK (bG l x y 1 1) (k:Int)=some r∧(match r with | .inl j=>0≤j∧Bc (l.drop k) x y=true | .inr _=>Bc (l.drop k) x y=false):=by
  intro n
  induction n with
  | zero =>
    intro k hk
    obtain rfl:k=l.length:=by omega
    exact ⟨.inr (),eP (by simp [bG]),by simp [Bc]⟩
  | succ n ih =>
    intro k hk
    have hlt:k<l.length:=by omega
    have hr:l[k]?=some l[k]:=by simp
    have h1:decide ((k:Int)<(l.length:Int))=true:=by simp;omega
    have hb:bG l x y 1 1 (k:Int)=if decide (wZ ⟨x,y,1,1⟩ l[k]) then some (.inr (.inl (k:Int))) else some (.inl ((k+1:Nat):Int)):=by
     unfold bG Ht
     simp only [h1,if_true,aP hr,Option.bind_some,Xj]
     rw [aS (by omega) (by omega)]
     rfl
    have e:Bc (l.drop k) x y=(decide (wZ ⟨x,y,1,1⟩ l[k]) || Bc (l.drop (k+1)) x y):=by
     unfold Bc;rw [List.drop_eq_getElem_cons hlt,List.any_cons]
    by_cases hq:wZ ⟨x,y,1,1⟩ l[k]
    ·rw [if_pos (by simpa using hq)] at hb
     exact ⟨.inl k,eP hb,by omega,by rw [e];simp [hq]⟩
    ·rw [if_neg (by simpa using hq)] at hb
     obtain ⟨r,q1,q2⟩:=ih (k+1) (by omega)
     refine ⟨r,(kJ hb).trans q1, ?_⟩
     cases r with
     | inl j=>exact ⟨q2.1,by rw [e,q2.2];simp⟩
     | inr u=>simp only at q2 ⊢;rw [e,q2];simp [hq]
 obtain ⟨r,q1,q2⟩:=key l.length 0 (by omega)
 rw [show (0:Int)=((0:Nat):Int) from rfl,q1]
 cases r with
 | inl j=>simp only [List.drop_zero] at q2;simp [q2.1,q2.2]
 | inr u=>simp only [List.drop_zero] at q2;simp [q2]
theorem XO (l:List Rect) (s:Spot) (h:l.length≤9223372036854775806) (hb : -4194304≤s.X∧s.X≤4194304∧-4194304≤s.Y∧s.Y≤4194304):nL l s=some (Bc l (s.X-1) (s.Y-1)&&(Bc l s.X (s.Y-1)&&(Bc l (s.X-1) s.Y&&Bc l s.X s.Y))):=by
 unfold nL
 have b1:¬ s.X < -4194304:=by omega
 have b2:¬ s.X>4194304:=by omega
 have b3:¬ s.Y < -4194304:=by omega
 have b4:¬ s.Y>4194304:=by omega
 simp only [b1,b2,b3,b4,decide_false,Bool.false_eq_true,if_false,Option.bind_some]
 have hL:aK (wM l s) 0=some (if [(⟨s.X-1,s.Y-1,1,1⟩:Rect),⟨s.X,s.Y-1,1,1⟩,⟨s.X-1,s.Y,1,1⟩,⟨s.X,s.Y,1,1⟩].all (fun q=>Bc l q.X q.Y) then .inr () else .inl ()):=by
  refine Ij [(⟨s.X-1,s.Y-1,1,1⟩:Rect),⟨s.X,s.Y-1,1,1⟩,⟨s.X-1,s.Y,1,1⟩,⟨s.X,s.Y,1,1⟩] (wM l s) (fun q=>Bc l q.X q.Y) (.inl ()) (.inr ()) (fun k q hq=>?_) ?_
  ·have hk:=(List.getElem?_eq_some_iff.1 hq).1
   have h1:decide ((k:Int)<4)=true:=by simp at hk ⊢;omega
   have hwh:q.W=1∧q.H=1:=by
    have:=List.mem_of_getElem? hq
    simp only [List.mem_cons,List.not_mem_nil,or_false] at this
    rcases this with rfl | rfl | rfl | rfl <;> exact ⟨rfl,rfl⟩
   unfold wM
   rw [bA (by omega) (by omega),bA (by omega) (by omega)]
   simp only [List.length_cons,List.length_nil,Int.reduceAdd,Int.natCast_add,Int.cast_ofNat_Int,h1,if_true,aP hq,Option.bind_some,hwh.1,hwh.2,KR l _ _ h]
   rw [aS (by simp at hk;omega) (by simp at hk;omega)]
   cases Bc l q.X q.Y <;> rfl
  ·unfold wM
   simp
 rw [hL]
 simp only [List.all_cons,List.all_nil,Bool.and_true,Option.bind_some]
 cases Bc l (s.X-1) (s.Y-1)&&(Bc l s.X (s.Y-1)&&(Bc l (s.X-1) s.Y&&Bc l s.X s.Y)) <;> rfl
theorem ZP (l:List Rect) (x y:Int) (h:¬ (-1048576≤x∧x<1048576∧-1048576≤y∧y<1048576)):Bc l x y=false:=by
 unfold Bc
 rw [List.any_eq_false]
 intro r _
 simp only [decide_eq_true_eq]
 rintro ⟨hv,_⟩
 unfold vR at hv
 simp only at hv
 omega
theorem Tu (l:List Rect) (s:Spot) (h:l.length≤9223372036854775806):∃ b,nL l s=some b∧fH l s=some b:=by
 by_cases hb : -4194304≤s.X∧s.X≤4194304∧-4194304≤s.Y∧s.Y≤4194304
 ·refine ⟨_,XO l s h hb, ?_⟩
  unfold fH
  by_cases hn : -1048576<s.X∧s.X<1048576∧-1048576<s.Y∧s.Y<1048576
  ·have b1:¬ s.X≤-1048576:=by omega
   have b2:¬ s.X ≥ 1048576:=by omega
   have b3:¬ s.Y≤-1048576:=by omega
   have b4:¬ s.Y ≥ 1048576:=by omega
   rw [bA (by omega) (by omega),bA (by omega) (by omega)]
   simp only [b1,b2,b3,b4,decide_false,Bool.false_eq_true,if_false,Option.bind_some,VA l _ _ h]
   cases Bc l s.X s.Y <;> cases Bc l (s.X-1) s.Y <;> cases Bc l s.X (s.Y-1) <;> cases Bc l (s.X-1) (s.Y-1) <;> rfl
  ·have hf:(Bc l (s.X-1) (s.Y-1)&&(Bc l s.X (s.Y-1)&&(Bc l (s.X-1) s.Y&&Bc l s.X s.Y)))=false:=by
    by_cases q:s.X≤-1048576∨s.Y≤-1048576
    ·rw [ZP l (s.X-1) (s.Y-1) (by omega)];rfl
    ·rw [ZP l s.X s.Y (by omega)];simp
   rw [hf]
   by_cases q1:s.X≤-1048576
   ·simp [q1]
   ·by_cases q2:s.X ≥ 1048576
    ·simp [q1,q2]
    ·by_cases q3:s.Y≤-1048576
     ·simp [q1,q2,q3]
     ·have q4:s.Y ≥ 1048576:=by omega
      simp [q1,q2,q3,q4]
 ·refine ⟨false, ?_, ?_⟩
  ·unfold nL
   by_cases q1:s.X < -4194304
   ·simp [q1]
   ·by_cases q2:s.X>4194304
    ·simp [q1,q2]
    ·by_cases q3:s.Y < -4194304
     ·simp [q1,q2,q3]
     ·have q4:s.Y>4194304:=by omega
      simp [q1,q2,q3,q4]
  ·unfold fH
   by_cases q1:s.X≤-1048576
   ·simp [q1]
   ·by_cases q2:s.X ≥ 1048576
    ·simp [q1,q2]
    ·by_cases q3:s.Y≤-1048576
     ·simp [q1,q2,q3]
     ·have q4:s.Y ≥ 1048576:=by omega
      simp [q1,q2,q3,q4]
end Go.SM
namespace Go.SM
open Go Go.VI Go.Cells
theorem Sv {l:List Int} (h:l.Pairwise fun x y=>x<y) (hl:l.length≤10000) (n:Int) :
  ∃ r,gL n l=some r∧r.Pairwise (fun x y=>x<y)∧(∀ x,x ∈ r↔x ∈ l∨x=n)∧r.length≤l.length+1:=by
 obtain ⟨i',q1,i,rfl,hi,ha,hb⟩:=nP (fun s:Int=>s.toNat)
  (fun s:Int=>∃ k:Nat,s=k∧k≤l.length∧∀ x ∈ l.drop k,n<x)
  (fun r:Int=>∃ k:Nat,r=k∧k≤l.length∧(∀ x ∈ l.drop k,n<x)∧(0<k→∀ y,l[k-1]?=some y→y≤n)) (sM n l) (by
   rintro s ⟨k,rfl,hk,hI⟩
   unfold sM
   by_cases h0:0<k
   ·obtain ⟨x,hx⟩:∃ x,l[k-1]?=some x:=⟨_,List.getElem?_eq_getElem (by omega)⟩
    have e1:aJ (k:Int) 1=((k-1:Nat):Int):=by rw [bA (by omega) (by omega)];omega
    have d:decide ((k:Int)>0)=true:=by simp;omega
    simp only [d,if_true,e1,aP hx,Option.bind_some]
    by_cases hg:x>n
    ·left
     refine ⟨((k-1:Nat):Int),by simp [hg],⟨k-1,rfl,by omega,fun y hy=>?_⟩,by omega⟩
     rw [List.drop_eq_getElem_cons (show k-1<l.length by omega),show k-1+1=k by omega] at hy
     rcases List.mem_cons.1 hy with rfl | hy
     ·rw [List.getElem?_eq_getElem (by omega)] at hx;injection hx with hx;rw [hx];exact hg
     ·exact hI y hy
    ·right
     refine ⟨(k:Int),by simp [hg],k,rfl,hk,hI,fun _ y hy=>?_⟩
     rw [hx] at hy;injection hy with hy;omega
   ·right
    have d:decide ((k:Int)>0)=false:=by simp;omega
    exact ⟨(k:Int),by simp only [d,Bool.false_eq_true,if_false,Option.bind_some],k,rfl,hk,hI,fun q=>absurd q h0⟩) (l.length:Int) ⟨l.length,rfl,Nat.le_refl _,by simp⟩
 unfold gL
 rw [q1,Option.bind_some]
 have hj:∃ b:Bool,(if decide ((i:Int)>0) then (idx l (aJ (i:Int) 1)).bind (fun x48=>some (x48==n)) else some false)=some b∧(b=true↔0<i∧l[i-1]?=some n):=by
  by_cases h0:0<i
  ·obtain ⟨x,hx⟩:∃ x,l[i-1]?=some x:=⟨_,List.getElem?_eq_getElem (by omega)⟩
   have e1:aJ (i:Int) 1=((i-1:Nat):Int):=by rw [bA (by omega) (by omega)];omega
   have d:decide ((i:Int)>0)=true:=by simp;omega
   refine ⟨x==n,by simp only [d,if_true,e1,aP hx,Option.bind_some], ?_⟩
   rw [beq_iff_eq,hx]
   exact ⟨fun q=>⟨h0,by rw [q]⟩,fun q=>Option.some.inj q.2⟩
  ·have d:decide ((i:Int)>0)=false:=by simp;omega
   exact ⟨false,by simp only [d,Bool.false_eq_true,if_false],by simp;omega⟩
 obtain ⟨b,hj1,hj2⟩:=hj
 rw [hj1,Option.bind_some]
 cases b with
 | true =>
   obtain ⟨h0,hn⟩:=hj2.1 rfl
   refine ⟨l,rfl,h,fun x=>⟨.inl,fun q=>q.elim id fun e=>by rw [e];exact List.mem_of_getElem? hn⟩,by omega⟩
 | false =>
   have hnot:¬ (0<i∧l[i-1]?=some n):=fun q=>by have:=hj2.2 q;cases this
   rw [if_neg (by simp),nA (by simp [LIM];omega)]
   have hlen:aJ ((l++[0]).length:Int) 1=(l.length:Int):=by rw [List.length_append,List.length_singleton,bA (by omega) (by omega)];omega
   obtain ⟨r,t1,z,rfl⟩:=nP (fun s:Int×List Int=>(s.1-(i:Int)).toNat)
    (fun s:Int×List Int=>∃ j:Nat,s.1=j∧i≤j∧j≤l.length∧∃ z,s.2=l.take j++z::l.drop j)
    (fun r:List Int=>∃ z,r=l.take i++z::l.drop i) (sN (i:Int)) (by
     rintro ⟨s,c⟩ ⟨j,hs,hij,hjl,z,hc⟩
     simp only at hs hc
     subst hs hc
     unfold sN
     by_cases hg:i<j
     ·left
      have d:decide ((j:Int)>(i:Int))=true:=by simp;omega
      have e1:aJ (j:Int) 1=((j-1:Nat):Int):=by rw [bA (by omega) (by omega)];omega
      have ht:(l.take j).length=j:=by rw [List.length_take];omega
      have g1:(l.take j++z::l.drop j)[j-1]?=some (l[j-1]'(by omega)):=by
       rw [List.getElem?_append_left (by omega),List.getElem?_take,if_pos (by omega),List.getElem?_eq_getElem (by omega)]
      have g2:(l.take j++z::l.drop j)[j]?=some z:=by rw [List.getElem?_append_right (by omega),ht];simp
      simp only [d,if_true,e1,aP g1,aP g2,Option.bind_some,Int.toNat_natCast]
      refine ⟨_,rfl,⟨j-1,rfl,by omega,by omega,l[j-1]'(by omega), ?_⟩,by simp only;omega⟩
      simp only
      rw [List.set_append_right _ _ (by omega),ht]
      have e2:l.take j=l.take (j-1)++[l[j-1]'(by omega)]:=by
       conv=>lhs;rw [show j=(j-1)+1 by omega]
       rw [List.take_add_one,List.getElem?_eq_getElem (by omega)];rfl
      have e3:l.drop (j-1)=l[j-1]'(by omega)::l.drop j:=by
       rw [List.drop_eq_getElem_cons (show j-1<l.length by omega),show j-1+1=j by omega]
      rw [e2,e3,Nat.sub_self,List.set_cons_zero,List.append_assoc];rfl
     ·right
      have d:decide ((j:Int)>(i:Int))=false:=by simp;omega
      obtain rfl:j=i:=by omega
      exact ⟨l.take j++z::l.drop j,by simp only [d,Bool.false_eq_true,if_false],z,rfl⟩) (aJ ((l++[0]).length:Int) 1,l++[0]) ⟨l.length,hlen,hi,Nat.le_refl _,0,by simp⟩
   have ht:(l.take i).length=i:=by rw [List.length_take];omega
   have g2:(l.take i++z::l.drop i)[i]?=some z:=by rw [List.getElem?_append_right (by omega),ht];simp
   have e4:(l.take i++z::l.drop i).set i n=l.take i++n::l.drop i:=by rw [List.set_append_right _ _ (by omega),ht];simp
   simp only [Option.bind_some,t1,aP g2,Int.toNat_natCast,e4]
   have hlow:∀ x ∈ l.take i,x<n:=fun x hx=>by
    rcases Nat.eq_zero_or_pos i with q | q
    ·subst q;simp at hx
    ·obtain ⟨y,hy⟩:∃ y,l[i-1]?=some y:=⟨_,List.getElem?_eq_getElem (by omega)⟩
     have hyn:y<n:=by
      have h1:=hb q y hy
      have h2:y≠n:=fun e=>hnot ⟨q,by rw [hy,e]⟩
      omega
     obtain ⟨k,hk⟩:=List.mem_iff_getElem?.1 hx
     have hkl:=aY hk
     rw [List.getElem?_take,if_pos (by omega)] at hk
     by_cases e:k=i-1
     ·subst e;rw [hy] at hk;injection hk with hk;omega
     ·have:=Vm h (show k<i-1 by omega) hk hy;omega
   refine ⟨_,rfl, ?_,fun x=>?_,by rw [List.length_append,List.length_cons,List.length_take,List.length_drop];omega⟩
   ·have hp:=h
    rw [← List.take_append_drop i l,List.pairwise_append] at hp
    rw [List.pairwise_append,List.pairwise_cons]
    refine ⟨hp.1,⟨ha,hp.2.1⟩,fun x hx y hy=>?_⟩
    rcases List.mem_cons.1 hy with rfl | hy
    ·exact hlow x hx
    ·exact hp.2.2 x hx y hy
   ·conv=>rhs;rw [← List.take_append_drop i l]
    simp only [List.mem_append,List.mem_cons]
    grind
theorem ZX {l:List Rect} (hv:EN l) (hl:l.length≤400):∃ xs ys,tX l=some (xs,ys)∧Ew xs (xsL l)∧Ew ys (ysL l):=by
 obtain ⟨⟨xs,ys⟩,q1,⟨gx1,gx2⟩,⟨gy1,gy2⟩,lx,ly⟩:=wU l (fun k (s:List Int×List Int)=>((k:Int),s.1,s.2)) (oO l) (fun s=>(s.1,s.2)) (fun k s=>Ew s.1 (xsL (l.take k))∧Ew s.2 (ysL (l.take k))∧s.1.length≤2*k∧s.2.length≤2*k) ([],[])
  ⟨⟨.nil,by simp [xsL]⟩,⟨.nil,by simp [ysL]⟩,by simp,by simp⟩
  (fun k r s hr hI=>by
   obtain ⟨⟨a1,a2⟩,⟨b1,b2⟩,la,lb⟩:=hI
   have h1:=aY hr
   have hd:decide ((k:Int)<(l.length:Int))=true:=by simp [h1]
   obtain ⟨e1,e2⟩:=JU (hv r (List.mem_of_getElem? hr))
   obtain ⟨c1,i1,p1,m1,n1⟩:=Sv a1 (by omega) r.X
   obtain ⟨c2,i2,p2,m2,n2⟩:=Sv p1 (by omega) (r.X+r.W)
   obtain ⟨c3,i3,p3,m3,n3⟩:=Sv b1 (by omega) r.Y
   obtain ⟨c4,i4,p4,m4,n4⟩:=Sv p3 (by omega) (r.Y+r.H)
   unfold oO
   simp only [hd,if_true,aP hr,Option.bind_some,e1,e2,i1,i2,i3,i4,aX k (by omega)]
   refine ⟨(c2,c4),rfl,⟨p2,fun x=>?_⟩,⟨p4,fun x=>?_⟩,by simp only;omega,by simp only;omega⟩
   ·rw [m2,m1,a2,oZ hr,Vi]
    simp [xsL,or_assoc]
   ·rw [m4,m3,b2,oZ hr,Vj]
    simp [ysL,or_assoc]) (fun s _=>by simp [oO])
 rw [List.take_length] at gx2 gy2
 simp only at gx1 gx2 gy1 gy2
 refine ⟨xs,ys, ?_,⟨gx1,gx2⟩,⟨gy1,gy2⟩⟩
 unfold tX
 rw [show ((0:Int),([]:List Int),([]:List Int))=(((0:Nat):Int),(([],[]):List Int×List Int).1,(([],[]):List Int×List Int).2) from rfl,q1]
 rfl
end Go.SM
namespace Go.SM
open Go Go.VI
theorem YE {s sub:List UInt8} {i:Nat} (hne:sub≠[]) (h:Go.Lib.occAt s sub i=true):i+sub.length≤s.length:=by
 rcases Go.Lib.occAt_room h with h' | h'
 ·omega
 ·exact absurd h' hne
theorem BQ {s sub:List UInt8} (hne:sub≠[]):Go.Lib.contains s sub=(List.range (s.length+1-sub.length)).any (Go.Lib.occAt s sub):=by
 unfold Go.Lib.contains
 rcases Go.Lib.index_spec s sub with ⟨h1,h2⟩ | ⟨i,h1,h2,h3,h4⟩
 ·rw [h1]
  have:(List.range (s.length+1-sub.length)).any (Go.Lib.occAt s sub)=false:=by
   rw [List.any_eq_false];intro j hj
   rw [h2 j (by have:=List.mem_range.1 hj;omega)];simp
  rw [this];rfl
 ·rw [h1]
  have:(List.range (s.length+1-sub.length)).any (Go.Lib.occAt s sub)=true:=List.any_eq_true.2 ⟨i,List.mem_range.2 (by have:=YE hne h3;omega),h3⟩
  rw [this];simp
theorem BB {a b:ByteArray} (h:a.size+b.size≤9223372036854775807):Zv a b=some (a++b):=by unfold Zv;rw [if_pos h]
theorem TQ (T s1:ByteArray) (hT:T.size<4294967281) (hs:s1.size≤8):pQ T s1=some (Go.Lib.contains T.data.toList ((ByteArray.mk #[32]++s1)++ByteArray.mk #[32]).data.toList):=by
 have hsz:((ByteArray.mk #[32]++s1)++ByteArray.mk #[32]).size=s1.size+2:=by
  rw [ByteArray.size_append,ByteArray.size_append];show 1+s1.size+1=_;omega
 have hsub:s1.size+2=((ByteArray.mk #[32]++s1)++ByteArray.mk #[32]).data.toList.length:=by rw [← hsz];rfl
 have hne:((ByteArray.mk #[32]++s1)++ByteArray.mk #[32]).data.toList≠[]:=by
  intro h;rw [h] at hsub;simp at hsub
 have e1:Zv (ByteArray.mk #[32]) s1=some (ByteArray.mk #[32]++s1):=BB (by show 1+s1.size≤_;omega)
 have e2:Zv (ByteArray.mk #[32]++s1) (ByteArray.mk #[32])=some ((ByteArray.mk #[32]++s1)++ByteArray.mk #[32]):=BB (by rw [ByteArray.size_append];show 1+s1.size+1≤_;omega)
 generalize (ByteArray.mk #[32]++s1)++ByteArray.mk #[32]=W at hsz hsub hne e2 ⊢
 rw [BQ hne]
 have hTl:T.data.toList.length=T.size:=rfl
 have key:aK (jD T s1) 0=some (if (List.range (T.data.toList.length+1-W.data.toList.length)).any (Go.Lib.occAt T.data.toList W.data.toList) then .inl () else .inr ()):=by
  refine kS _ (jD T s1) (fun k=>(k:Int)) _ _ _ rfl (fun k hk=>?_) ?_
  ·unfold jD
   rw [hTl,← hsub] at hk
   rw [aS (a:=(k:Int)) (by omega) (by omega),aS (b:=2) (by omega) (by omega)]
   have h1:decide ((k:Int)+(s1.size:Int)+2≤(T.size:Int))=true:=by simp;omega
   simp only [h1,if_true]
   have e3:ZQ T k ((k:Int)+(s1.size:Int)+2)=some (T.extract k (k+W.size)):=by
    unfold ZQ
    rw [if_pos (by omega)]
    have:((k:Int)+(s1.size:Int)+2).toNat=k+W.size:=by omega
    rw [this];simp
   rw [e3]
   simp only [Option.bind_some,e1,e2]
   rw [Go.Lib.occ_of_piece T W k (by omega),aS (a:=(k:Int)) (by omega) (by omega)]
   cases (T.extract k (k+W.size)).toList==W.toList <;> simp
  ·unfold jD
   rw [hTl,← hsub]
   rw [aS (b:=(s1.size:Int)) (by omega) (by omega),aS (b:=2) (by omega) (by omega)]
   have h1:decide (((T.size+1-(s1.size+2):Nat):Int)+(s1.size:Int)+2≤(T.size:Int))=false:=by simp;omega
   simp only [h1];rfl
 unfold pQ
 rw [key]
 cases (List.range (T.data.toList.length+1-W.data.toList.length)).any (Go.Lib.occAt T.data.toList W.data.toList) <;> rfl
def R6 (x:Int):Bool:=decide (¬ (97≤x∧x≤122)∧(x<48∨x>57))
theorem JN {s:ByteArray} {k:Nat} (h:k<s.size):Rn s (k:Int)=some ((s[k].toNat:Nat):Int):=by
 unfold Rn
 rw [if_pos (Int.natCast_nonneg k),Int.toNat_natCast]
 simp [h]
def R7 (s:ByteArray):Bool:=(List.range s.size).any fun k=>if h:k<s.size then R6 s[k].toNat else false
theorem UD (s:ByteArray) (hs:s.size≤8):aK (tV s) 0=some (if R7 s then .inl () else .inr ()):=by
 refine kS s.size (tV s) (fun k=>(k:Int)) _ _ _ rfl (fun k hk=>?_) ?_
 ·unfold tV
  have h1:decide ((k:Int)<(s.size:Int))=true:=by simp;omega
  simp only [h1,if_true,JN hk,Option.bind_some,dif_pos hk]
  rw [aS (a:=(k:Int)) (by omega) (by omega)]
  generalize ((s[k].toNat:Nat):Int)=x
  unfold R6
  by_cases q1:x<97
  ·have:¬ (97≤x∧x≤122):=by omega
   by_cases q2:x<48
   ·simp [q1,q2]
   ·by_cases q3:x>57 <;> simp [q1,q2,q3]
  ·by_cases q4:x>122
   ·have q5:¬ x<48:=by omega
    have q6:x>57:=by omega
    simp [q1,q4,q5,q6]
   ·simp [q1,q4]
 ·simp [tV]
theorem PI (s:ByteArray) (hs:s.size≤8):aK (gV s) 0=some (if R7 s then .inl () else .inr ()):=by
 refine kS s.size (gV s) (fun k=>(k:Int)) _ _ _ rfl (fun k hk=>?_) ?_
 ·unfold gV
  have h1:decide ((k:Int)<(s.size:Int))=true:=by simp;omega
  simp only [h1,if_true,JN hk,Option.bind_some,dif_pos hk]
  rw [aS (a:=(k:Int)) (by omega) (by omega)]
  generalize ((s[k].toNat:Nat):Int)=x
  unfold R6
  by_cases q1:x ≥ 97
  ·by_cases q4:x≤122
   ·simp [q1,q4]
   ·have q5:¬ x<48:=by omega
    have q6:x>57:=by omega
    simp [q1,q4,q5,q6]
  ·by_cases q2:x<48
   ·simp [q1,q2]
   ·by_cases q3:x>57 <;> simp [q1,q2,q3]
 ·simp [gV]
theorem Name_same (s:ByteArray):∃ b,lQ s=some b∧eQ s=some b:=by
 unfold lQ eQ wE uM
 by_cases h1:(s.size:Int)<1
 ·exact ⟨false,by simp [h1],by simp [show ¬ (s.size:Int) ≥ 1 by omega]⟩
 by_cases h2:(s.size:Int)>8
 ·exact ⟨false,by simp [h1,h2],by simp [show (s.size:Int) ≥ 1 by omega,show ¬ (s.size:Int)≤8 by omega]⟩
 have g1:(s.size:Int) ≥ 1:=by omega
 have g2:(s.size:Int)≤8:=by omega
 have e0:Rn s 0=some ((s[0]'(by omega)).toNat:Int):=JN (k:=0) (by omega)
 generalize ((s[0]'(by omega)).toNat:Int)=x at e0
 by_cases h3:x<97
 ·exact ⟨false,by simp [h1,h2,e0,h3],by simp only [g1,g2,decide_true,if_true,Option.bind_some,e0,h3]⟩
 by_cases h4:x>122
 ·exact ⟨false,by simp [h1,h2,e0,h3,h4],by simp only [g1,g2,decide_true,if_true,Option.bind_some,e0,h3,h4,decide_false,Bool.false_eq_true,if_false]⟩
 simp only [g1,g2,h1,h2,h3,h4,decide_true,decide_false,if_true,Bool.false_eq_true,if_false,Option.bind_some,e0,UD s (by omega),PI s (by omega)]
 cases R7 s with
 | true=>exact ⟨false,rfl,rfl⟩
 | false =>
   have e1:Zv (ByteArray.mk #[32]) s=some (ByteArray.mk #[32]++s):=BB (by show 1+s.size≤_;omega)
   have e2:Zv (ByteArray.mk #[32]++s) (ByteArray.mk #[32])=some ((ByteArray.mk #[32]++s)++ByteArray.mk #[32]):=BB (by rw [ByteArray.size_append];show 1+s.size+1≤_;omega)
   simp only [Bool.false_eq_true,if_false,e1,e2,Option.bind_some]
   unfold strings_Contains
   rw [TQ _ s (by decide +kernel) (by omega),if_pos (by decide +kernel)]
   exact ⟨_,rfl,rfl⟩
end Go.SM
namespace Go.SM
open Go Go.VI
theorem IU (n lo hi:Int):Dr n lo hi=some (decide (lo≤n∧n≤hi)):=by
 unfold Dr
 by_cases h1:lo≤n <;> simp [h1]
theorem Ri (g r:Int):Ik g r=some (decide ((1≤g∧g≤60)∧0≤r∧r≤2)):=by
 unfold Ik
 simp only [IU,Option.bind_some]
 by_cases h1:1≤g∧g≤60
 ·simp [h1]
 ·simp only [h1,decide_false,false_and];rfl
theorem ND {n m:ByteArray} {a b:Bool} (hn:eQ n=some a) (hm:eQ m=some b) (g r:Int):mY n m g r=some (if a&&b then (if (1≤g∧g≤60)∧0≤r∧r≤2 then 0 else 1) else 2):=by
 unfold mY
 rw [hn,hm]
 cases a
 ·rfl
 ·cases b
  ·rfl
  ·by_cases h1:g<1
   ·have:¬ ((1≤g∧g≤60)∧0≤r∧r≤2):=by omega
    simp [h1,this]
   ·by_cases h2:g>60
    ·have:¬ ((1≤g∧g≤60)∧0≤r∧r≤2):=by omega
     simp [h1,h2,this]
    ·by_cases h3:r<0
     ·have:¬ ((1≤g∧g≤60)∧0≤r∧r≤2):=by omega
      simp [h1,h2,h3,this]
     ·by_cases h4:r>2
      ·have:¬ ((1≤g∧g≤60)∧0≤r∧r≤2):=by omega
       simp [h1,h2,h3,h4,this]
      ·have:((1≤g∧g≤60)∧0≤r∧r≤2):=by omega
       simp [h1,h2,h3,h4,this]
theorem valid_eq (l:List Rect) (hl:l.length≤9223372036854775806):yA l=some (!(l.any fun x=>!decide (vR x))):=by
 have key:aK (yX l) 0=some (if (l.any fun x=>!decide (vR x)) then .inl () else .inr ()):=by
  refine gX l (yX l) (fun k=>(k:Int)) _ _ _ rfl (fun k x hx=>?_) ?_
  ·have hk:=(List.getElem?_eq_some_iff.1 hx).1
   unfold yX
   have h1:decide ((k:Int)<(l.length:Int))=true:=by simp;omega
   simp only [h1,if_true,aP hx,Option.bind_some,vW]
   rw [aS (a:=(k:Int)) (by omega) (by omega)]
   rfl
  ·simp [yX]
 unfold yA
 rw [key]
 cases (l.any fun x=>!decide (vR x)) <;> rfl
theorem Gz (l:List Rect) (hl:l.length≤9223372036854775806):dJ l=some (!(l.any fun x=>!decide (vR x))):=by
 have key:aK (jE l) 0=some (if (l.any fun x=>!decide (vR x)) then .inl () else .inr ()):=by
  refine gX l (jE l) (fun k=>(k:Int)) _ _ _ rfl (fun k x hx=>?_) ?_
  ·have hk:=(List.getElem?_eq_some_iff.1 hx).1
   unfold jE
   have h1:decide ((k:Int)<(l.length:Int))=true:=by simp;omega
   simp only [h1,if_true,aP hx,Option.bind_some,Ql]
   rw [aS (a:=(k:Int)) (by omega) (by omega)]
   rfl
  ·simp [jE]
 unfold dJ
 rw [key]
 cases (l.any fun x=>!decide (vR x)) <;> rfl
def outs (r:Rect) (l:List Rect):Bool:=l.any fun x=>!decide (wZ x r)
theorem XM (r:Rect×Bool) (l:List Rect) (hl:l.length≤9223372036854775806):aK (mV r l) 0=some (if outs r.1 l then .inl () else .inr ()):=by
 refine gX l (mV r l) (fun k=>(k:Int)) _ _ _ rfl (fun k x hx=>?_) ?_
 ·have hk:=(List.getElem?_eq_some_iff.1 hx).1
  unfold mV
  have h1:decide ((k:Int)<(l.length:Int))=true:=by simp;omega
  simp only [h1,if_true,aP hx,Option.bind_some,Xj]
  rw [aS (a:=(k:Int)) (by omega) (by omega)]
  rfl
 ·simp [mV]
theorem GD (s:Sheet) (l:List Rect) (hl:l.length≤9223372036854775806):lT s l=some (!(outs ⟨0,0,s.Width,s.Height⟩ l)):=by
 have key:aK (jF s l) 0=some (if outs ⟨0,0,s.Width,s.Height⟩ l then .inl () else .inr ()):=by
  refine gX l (jF s l) (fun k=>(k:Int)) _ _ _ rfl (fun k x hx=>?_) ?_
  ·have hk:=(List.getElem?_eq_some_iff.1 hx).1
   unfold jF
   have h1:decide ((k:Int)<(l.length:Int))=true:=by simp;omega
   simp only [h1,if_true,aP hx,Option.bind_some,Xk]
   rw [aS (a:=(k:Int)) (by omega) (by omega)]
   rfl
  ·simp [jF]
 unfold lT
 rw [key]
 cases outs ⟨0,0,s.Width,s.Height⟩ l <;> rfl
theorem XN (s:Sheet) (r:Rect×Bool) (h1:s.Clamps.length≤9223372036854775806) (h2:s.Used.length≤9223372036854775806):aK (mW s r) 0=some (if outs r.1 s.Clamps || outs r.1 s.Used then .inl () else .inr ()):=by
 have:=gX [s.Clamps,s.Used] (mW s r) (fun k=>(k:Int)) (fun l=>outs r.1 l) (.inr ()) (.inl ()) rfl (fun k x hx=>?_) ?_
 ·refine this.trans ?_;simp
 ·have hk:=(List.getElem?_eq_some_iff.1 hx).1
  unfold mW
  have hm:x=s.Clamps∨x=s.Used:=by have:=List.mem_of_getElem? hx;simpa using this
  have hl:x.length≤9223372036854775806:=by rcases hm with rfl | rfl <;> assumption
  have h3:decide ((k:Int)<(([s.Clamps,s.Used]:List (List Rect)).length:Int))=true:=by rw [decide_eq_true_eq];exact Int.ofNat_lt.2 hk
  simp only [h3,if_true,aP hx,Option.bind_some,XM r x hl]
  have hk':k<2:=hk
  rw [aS (a:=(k:Int)) (by omega) (by omega)]
  cases outs r.1 x <;> simp
 ·simp [mW]
theorem BI (s:Sheet):∃ b,kP s=some b∧jP s=some b:=by
 obtain ⟨a,ha,ha'⟩:=Name_same s.Name
 obtain ⟨b,hb,hb'⟩:=Name_same s.Material
 unfold kP jP
 rw [ha,hb,ND ha' hb']
 cases a with
 | false=>exact ⟨2,rfl,rfl⟩
 | true =>
 cases b with
 | false=>exact ⟨2,rfl,rfl⟩
 | true =>
 simp only [Option.bind_some,Ri,IU,Bool.and_self,if_true,Bool.not_true,Bool.false_eq_true,if_false]
 by_cases h1:(1≤s.Gauge∧s.Gauge≤60)∧0≤s.Grain∧s.Grain≤2
 ·simp only [h1,and_self,decide_true,if_true,Option.bind_some]
  by_cases h2:1≤s.Width∧s.Width≤1048576
  ·by_cases h3:1≤s.Height∧s.Height≤1048576
   ·have q1:¬ s.Width<1:=by omega
    have q2:¬ s.Width>1048576:=by omega
    have q3:¬ s.Height<1:=by omega
    have q4:¬ s.Height>1048576:=by omega
    simp only [h2,h3,q1,q2,q3,q4,and_self,decide_true,decide_false,if_true,Option.bind_some,Bool.not_true,Bool.false_eq_true,if_false,bne_self_eq_false]
    by_cases h4:(s.Clamps.length:Int)>4
    ·exact ⟨4,by simp [h4],by simp [h4]⟩
    by_cases h5:(s.Used.length:Int)>48
    ·exact ⟨4,by simp [h5],by simp [h5]⟩
    simp only [h4,h5,decide_false,Bool.false_eq_true,if_false,Option.bind_some,valid_eq s.Clamps (by omega),valid_eq s.Used (by omega),Gz s.Clamps (by omega),Gz s.Used (by omega),GD s s.Clamps (by omega),GD s s.Used (by omega)]
    cases (s.Clamps.any fun x=>!decide (vR x)) with
    | true=>exact ⟨1,rfl,rfl⟩
    | false =>
    cases (s.Used.any fun x=>!decide (vR x)) with
    | true=>exact ⟨1,rfl,rfl⟩
    | false =>
    have hi:Pm s 0=some (⟨0,0,s.Width,s.Height⟩,decide (vR ⟨0,0,s.Width,s.Height⟩)):=by
     unfold Pm
     rw [vW]
     have e0:lZ 2 0=0:=by rw [Su (by omega) (by omega)];rfl
     rw [e0,bA (by omega) (by omega),bA (by omega) (by omega),Int.sub_zero,Int.sub_zero]
     rfl
    simp only [hi,Option.bind_some,XN s _ (show s.Clamps.length≤_ by omega) (show s.Used.length≤_ by omega),Bool.not_false,if_true,Bool.not_true,Bool.false_eq_true,if_false]
    cases outs ⟨0,0,s.Width,s.Height⟩ s.Clamps with
    | true=>exact ⟨13,rfl,rfl⟩
    | false =>
    cases outs ⟨0,0,s.Width,s.Height⟩ s.Used with
    | true=>exact ⟨13,rfl,rfl⟩
    | false=>exact ⟨0,rfl,rfl⟩
   ·refine ⟨1,by simp [h2,h3], ?_⟩
    by_cases q3:s.Height<1
    ·simp [q3]
    ·have q4:s.Height>1048576:=by omega
     simp [q3,q4]
  ·refine ⟨1,by simp [h2], ?_⟩
   by_cases q3:s.Width<1
   ·simp [q3]
   ·have q4:s.Width>1048576:=by omega
    simp [q3,q4]
 ·exact ⟨1,by simp only [h1,decide_false];rfl,by simp only [h1,if_false];rfl⟩
end Go.SM
namespace Go.SM
open Go Go.VI
def cnt (l:List Bool):Nat:=l.countP (·==true)
theorem QF {l:List Bool} {k:Nat} (h:l[k]?=some false):cnt (l.set k true)=cnt l+1:=by
 unfold cnt
 have hk:=(List.getElem?_eq_some_iff.1 h).1
 have hv:=(List.getElem?_eq_some_iff.1 h).2
 rw [List.countP_set hk]
 simp [hv]
theorem D6 {l:List Bool} (h:cnt l=l.length):∀ x ∈ l,x=true:=by
 have:=List.countP_eq_length.1 h
 intro x hx;simpa using this x hx
theorem Zi (a b:Rect):uP a b=Il a b:=rfl
theorem PW (a b:Rect):∃ t,Il a b=some t:=by
 unfold Il
 split
 ·split
  ·exact ⟨_,rfl⟩
  ·split <;> exact ⟨_,rfl⟩
 ·split <;> exact ⟨_,rfl⟩
theorem SV {l:List Rect} (hl:l.length≤1000) {x:Int} {r:Rect} (hx:idx l x=some r) {i:Nat} {b0:Bool×Unit} :
  ∀ (m k:Nat) (seen:List Bool) (w0 l0 ext:List Int) (s:Int×List Bool×List Int),k+m=l.length→seen.length=l.length→l0[i]?=some x→s.1=(i:Int)→w0.length+ext.length≤1000000-m→l0.length+ext.length≤1000000-m →
    ∃ seen' ext',aK (lN l x) ((k:Int),seen,w0++ext)=some (seen',w0++ext')∧aK (dG l s) ((k:Int),seen,l0++ext)=some (seen',l0++ext')∧seen'.length=l.length∧cnt seen'+ext.length=cnt seen+ext'.length∧(∀ y ∈ ext',y ∈ ext∨(0≤y∧y<l.length)):=by
 intro m
 induction m with
 | zero =>
   intro k seen w0 l0 ext s hk hs hi hsi h1 h2
   obtain rfl:k=l.length:=by omega
   refine ⟨seen,ext,eP ?_,eP ?_,hs,rfl,fun y hy=>.inl hy⟩
   ·simp [lN]
   ·simp [dG]
 | succ m ih =>
   intro k seen w0 l0 ext s hk hs hi hsi h1 h2
   have hkl:k<l.length:=by omega
   have hy:l[k]?=some l[k]:=by simp
   have hsn:seen[k]?=some seen[k]:=by simp [hs,hkl]
   have hle:i<l0.length:=(List.getElem?_eq_some_iff.1 hi).1
   have hi':∀ e:List Int,(l0++e)[i]?=some x:=fun e=>by rw [List.getElem?_append_left hle];exact hi
   have hd:decide ((k:Int)<(l.length:Int))=true:=by simp;omega
   have e1:aL (k:Int) 1=((k+1:Nat):Int):=by rw [aS (by omega) (by omega)];rfl
   obtain ⟨t,ht⟩:=PW r l[k]
   by_cases hb:seen[k]=true
   ·obtain ⟨seen',ext',p1,p2,p3⟩:=ih (k+1) seen w0 l0 ext s (by omega) hs hi hsi (by omega) (by omega)
    refine ⟨seen',ext', ?_, ?_,p3⟩
    ·rw [kJ (s':=(((k+1:Nat):Int),seen,w0++ext))]
     ·exact p1
     ·unfold lN oL
      simp only [hd,if_true,aP hsn,hb,Option.bind_some,Bool.false_eq_true,if_false,e1]
    ·rw [kJ (s':=(((k+1:Nat):Int),seen,l0++ext))]
     ·exact p2
     ·unfold dG eX
      simp only [hd,if_true,aP hsn,hb,Option.bind_some,Bool.false_eq_true,if_false,e1]
   ·have hb':seen[k]=false:=by simpa using hb
    cases t with
    | false =>
      obtain ⟨seen',ext',p1,p2,p3⟩:=ih (k+1) seen w0 l0 ext s (by omega) hs hi hsi (by omega) (by omega)
      refine ⟨seen',ext', ?_, ?_,p3⟩
      ·rw [kJ (s':=(((k+1:Nat):Int),seen,w0++ext))]
       ·exact p1
       ·unfold lN oL
        simp only [hd,if_true,aP hsn,aP hy,hx,ht,hb',Option.bind_some,Bool.false_eq_true,if_false,e1]
      ·rw [kJ (s':=(((k+1:Nat):Int),seen,l0++ext))]
       ·exact p2
       ·unfold dG eX
        simp only [hd,if_true,aP hsn,aP hy,hsi,aP (hi' ext),hx,Zi,ht,hb',Option.bind_some,Bool.false_eq_true,if_false,e1]
    | true =>
      have hset:(seen.set k true).length=l.length:=by rw [List.length_set];exact hs
      obtain ⟨seen',ext',p1,p2,p3,p4,p5⟩:=ih (k+1) (seen.set k true) w0 l0 (ext++[(k:Int)]) s (by omega) hset hi hsi (by simp;omega) (by simp;omega)
      have a1:app (w0++ext) [(k:Int)]=some (w0++(ext++[(k:Int)])):=by rw [nA (by unfold LIM;simp;omega),List.append_assoc]
      have a2:app (l0++ext) [(k:Int)]=some (l0++(ext++[(k:Int)])):=by rw [nA (by unfold LIM;simp;omega),List.append_assoc]
      refine ⟨seen',ext', ?_, ?_,p3, ?_,fun y hy'=>?_⟩
      ·rw [kJ (s':=(((k+1:Nat):Int),seen.set k true,w0++(ext++[(k:Int)])))]
       ·exact p1
       ·unfold lN oL
        simp only [hd,if_true,aP hsn,aP hy,hx,ht,hb',Option.bind_some,Bool.false_eq_true,if_false,e1,a1,Int.toNat_natCast]
      ·rw [kJ (s':=(((k+1:Nat):Int),seen.set k true,l0++(ext++[(k:Int)])))]
       ·exact p2
       ·unfold dG eX
        simp only [hd,if_true,aP hsn,aP hy,hsi,aP (hi' ext),hx,Zi,ht,hb',Option.bind_some,Bool.false_eq_true,if_false,e1,a2,Int.toNat_natCast]
      ·rw [QF (by rw [hsn,hb'])] at p4
       simp at p4;omega
      ·rcases p5 y hy' with h | h
       ·rcases List.mem_append.1 h with h | h
        ·exact .inl h
        ·right;rw [List.mem_singleton.1 h];omega
       ·exact .inr h
theorem SX {l:List Rect} (hl:l.length≤1000):∀ (m i:Nat) (seen:List Bool) (q:List Int),i+m=l.length→i≤q.length→seen.length=l.length→cnt seen=q.length→(∀ y ∈ q,0≤y∧y<l.length) →
  ∃ seen' q',aK (oM l) (seen,q.drop i)=some seen'∧aK (eY l) ((i:Int),seen,q)=some q'∧seen'.length=l.length∧cnt seen'=q'.length:=by
 intro m
 induction m with
 | zero =>
   intro i seen q him hiq hs hc hq
   have hcl:cnt seen≤seen.length:=List.countP_le_length
   obtain rfl:i=q.length:=by omega
   refine ⟨seen,q,eP ?_,eP ?_,hs,hc⟩
   ·simp [oM]
   ·simp [eY]
 | succ m ih =>
   intro i seen q him hiq hs hc hq
   have hcl:cnt seen≤seen.length:=List.countP_le_length
   by_cases hlt:i<q.length
   ·have hx:q[i]?=some q[i]:=by simp
    have hxm:=hq q[i] (List.getElem_mem hlt)
    have ed:q.drop i=q[i]::q.drop (i+1):=List.drop_eq_getElem_cons hlt
    have hr:idx l q[i]=some (l[q[i].toNat]'(by omega)):=by
     unfold idx;rw [if_pos hxm.1];simp [show q[i].toNat<l.length by omega]
    obtain ⟨seen',ext',p1,p2,p3,p4,p5⟩:=SV hl hr (b0:=(true,())) l.length 0 seen (q.drop (i+1)) q [] ((i:Int),seen,q) (by omega) hs hx rfl (by simp;omega) (by simp;omega)
    simp only [List.append_nil,List.length_nil,Nat.add_zero] at p1 p2 p4
    obtain ⟨seen2,q2,r1,r2,r3⟩:=ih (i+1) seen' (q++ext') (by omega) (by simp;omega) p3 (by simp;omega) (fun y hy=>by
     rcases List.mem_append.1 hy with h | h
     ·exact hq y h
     ·rcases p5 y h with h | h
      ·exact absurd h (by simp)
      ·exact h)
    refine ⟨seen2,q2, ?_, ?_,r3⟩
    ·rw [kJ (s':=(seen',(q++ext').drop (i+1)))]
     ·exact r1
     ·unfold oM
      have e0:idx (q.drop i) 0=some q[i]:=by rw [ed];rfl
      have e2:List.drop 1 (q.drop i)=q.drop (i+1):=by rw [List.drop_drop]
      have h1:decide (((q.drop i).length:Int)>0)=true:=by rw [ed];simp;omega
      have h2:decide (1≤(q.drop i).length)=true:=by rw [decide_eq_true_eq,List.length_drop];omega
      simp only [h1,if_true,e0,Option.bind_some,h2,e2]
      have p1':aK (lN l q[i]) (0,seen,List.drop (i+1) q)=some (seen',List.drop (i+1) q++ext'):=p1
      rw [p1',List.drop_append_of_le_length (by omega)]
      rfl
    ·rw [kJ (s':=(((i+1:Nat):Int),seen',q++ext'))]
     ·exact r2
     ·unfold eY
      have h1:decide ((i:Int)<(q.length:Int))=true:=by simp;omega
      have p2':aK (dG l ((i:Int),seen,q)) (0,seen,q)=some (seen',q++ext'):=p2
      simp only [h1,if_true,p2',Option.bind_some]
      rw [aS (by omega) (by omega)]
      rfl
   ·obtain rfl:i=q.length:=by omega
    refine ⟨seen,q,eP ?_,eP ?_,hs,hc⟩
    ·simp [oM]
    ·simp [eY]
theorem WH (l:List Bool) (hl:l.length≤1000):aK (tT l) 0=some (if l.any (fun x=>!x) then .inl () else .inr ()):=by
 refine gX l (tT l) (fun k=>(k:Int)) _ _ _ rfl (fun k x hx=>?_) ?_
 ·have hk:=(List.getElem?_eq_some_iff.1 hx).1
  unfold tT
  have h1:decide ((k:Int)<(l.length:Int))=true:=by simp;omega
  simp only [h1,if_true,aP hx,Option.bind_some]
  rw [aS (a:=(k:Int)) (by omega) (by omega)]
  rfl
 ·simp [tT]
theorem BP {l:List Rect} (hl:l.length≤1000) (h0:0<l.length):∃ b,Bt l=some b∧mH l=some b:=by
 have hmk:mk (l.length:Int) false=some (List.replicate l.length false):=by
  unfold mk;rw [if_pos (by unfold LIM;omega)];simp
 have hf:(List.replicate l.length false)[0]?=some false:=by simp [h0]
 have hc:cnt ((List.replicate l.length false).set 0 true)=1:=by
  rw [QF hf];unfold cnt;simp [List.countP_replicate]
 obtain ⟨seen',q',p1,p2,p3,p4⟩:=SX hl l.length 0 ((List.replicate l.length false).set 0 true) [0] (by omega) (by simp) (by simp) (by rw [hc];rfl) (by simp;omega)
 unfold Bt mH
 have i0:idx (List.replicate l.length false) 0=some false:=aP (k:=0) hf
 have p1':aK (oM l) ((List.replicate l.length false).set (Int.toNat 0) true,[0])=some seen':=p1
 have p2':aK (eY l) (0,(List.replicate l.length false).set (Int.toNat 0) true,[0])=some q':=p2
 simp only [hmk,Option.bind_some,i0,p1',p2',WH seen' (by omega)]
 refine ⟨_, ?_,rfl⟩
 by_cases ha:seen'.any (fun x=>!x)=true
 ·have:¬ (q'.length:Int)=(l.length:Int):=by
   intro h
   obtain ⟨x,hx,hn⟩:=List.any_eq_true.1 ha
   have:=D6 (l:=seen') (by omega) x hx
   subst this;simp at hn
  simp [ha,this]
 ·have:(q'.length:Int)=(l.length:Int):=by
   rw [← p4,← p3]
   congr 1
   unfold cnt
   rw [List.countP_eq_length]
   intro x hx
   by_cases h:x=true
   ·simp [h]
   ·exact absurd (List.any_eq_true.2 ⟨x,hx,by simpa using h⟩) ha
  rw [this]
  simp only [ha,Bool.false_eq_true,if_false,beq_self_eq_true,Option.bind_some]
end Go.SM
namespace Go.SM
open Go Go.VI
def Ep (h x:Rect):Bool:=if h.X>x.X then (if h.Y>x.Y then (if aL h.X h.W<aL x.X x.W then decide (aL h.Y h.H<aL x.Y x.H) else false) else false) else false
theorem NC (h:Rect) (l:List Rect) (hl:l.length≤1000):yV h l=some (l.any (Ep h)):=by
 have key:aK (vJ h l) 0=some (if l.any (Ep h) then .inl () else .inr ()):=by
  refine gX l (vJ h l) (fun k=>(k:Int)) _ _ _ rfl (fun k x hx=>?_) ?_
  ·have hk:=(List.getElem?_eq_some_iff.1 hx).1
   unfold vJ
   have h1:decide ((k:Int)<(l.length:Int))=true:=by simp;omega
   simp only [h1,if_true,aP hx,Option.bind_some]
   rw [aS (a:=(k:Int)) (by omega) (by omega)]
   unfold Ep
   by_cases q1:h.X>x.X
   ·by_cases q2:h.Y>x.Y
    ·by_cases q3:aL h.X h.W<aL x.X x.W
     ·by_cases q4:aL h.Y h.H<aL x.Y x.H <;> simp [q1,q2,q3,q4]
     ·simp [q1,q2,q3]
    ·simp [q1,q2]
   ·simp [q1]
  ·simp [vJ]
 unfold yV
 rw [key]
 cases l.any (Ep h) <;> rfl
theorem E9 (h:Rect) (l:List Rect) (hl:l.length≤1000):tY h l=some (l.any (Ep h)):=by
 have key:aK (kU h l) 0=some (if l.any (Ep h) then .inl () else .inr ()):=by
  refine gX l (kU h l) (fun k=>(k:Int)) _ _ _ rfl (fun k x hx=>?_) ?_
  ·have hk:=(List.getElem?_eq_some_iff.1 hx).1
   unfold kU
   have h1:decide ((k:Int)<(l.length:Int))=true:=by simp;omega
   simp only [h1,if_true,aP hx,Option.bind_some]
   rw [aS (a:=(k:Int)) (by omega) (by omega)]
   unfold Ep
   by_cases q1:h.X>x.X
   ·by_cases q2:h.Y>x.Y
    ·by_cases q3:aL h.X h.W<aL x.X x.W
     ·by_cases q4:aL h.Y h.H<aL x.Y x.H <;> simp [q1,q2,q3,q4]
     ·simp [q1,q2,q3]
    ·simp [q1,q2]
   ·simp [q1]
  ·simp [kU]
 unfold tY
 rw [key]
 cases l.any (Ep h) <;> rfl
def Vn (x0:Piece) (l:List Rect) (k:Nat):Bool:=match l[k]? with
 | some x=>!(x0.Rects.any (Ep x)) || (decide ((k:Int)<(x0.Cuts.length:Int))&&((x.W==1) || (x.H==1)))
 | none=>false
theorem TN (x0:Piece) (l:List Rect) (hl:l.length≤1000) (hr:x0.Rects.length≤1000):aK (xX x0 l) 0=some (if (List.range l.length).any (Vn x0 l) then .inl () else .inr ()):=by
 refine kS l.length (xX x0 l) (fun k=>(k:Int)) _ _ _ rfl (fun k hk=>?_) ?_
 ·have hx:l[k]?=some l[k]:=by simp
  unfold xX Vn
  have h1:decide ((k:Int)<(l.length:Int))=true:=by simp;omega
  simp only [h1,if_true,aP hx,hx,Option.bind_some,NC _ _ hr]
  rw [aS (a:=(k:Int)) (by omega) (by omega)]
  by_cases q1:(k:Int)<(x0.Cuts.length:Int)
  ·cases q2:(l[k].W==1)
   ·cases q3:(l[k].H==1)
    ·cases x0.Rects.any (Ep l[k]) <;> simp [q1,q2,q3]
    ·cases x0.Rects.any (Ep l[k]) <;> simp [q1,q2,q3]
   ·cases x0.Rects.any (Ep l[k]) <;> simp [q1,q2]
  ·cases x0.Rects.any (Ep l[k]) <;> simp [q1]
 ·simp [xX]
theorem PH (x0:Piece) (l:List Rect) (hl:l.length≤1000) (hr:x0.Rects.length≤1000):aK (fA x0 l) 0=some (if (List.range l.length).any (Vn x0 l) then .inl () else .inr ()):=by
 refine kS l.length (fA x0 l) (fun k=>(k:Int)) _ _ _ rfl (fun k hk=>?_) ?_
 ·have hx:l[k]?=some l[k]:=by simp
  unfold fA Vn
  have h1:decide ((k:Int)<(l.length:Int))=true:=by simp;omega
  simp only [h1,if_true,aP hx,hx,Option.bind_some,E9 _ _ hr]
  rw [aS (a:=(k:Int)) (by omega) (by omega)]
  by_cases q1:(k:Int)<(x0.Cuts.length:Int)
  ·cases q2:(l[k].W==1)
   ·cases q3:(l[k].H==1)
    ·cases x0.Rects.any (Ep l[k]) <;> simp [q1,q2,q3]
    ·cases x0.Rects.any (Ep l[k]) <;> simp [q1,q2,q3]
   ·cases x0.Rects.any (Ep l[k]) <;> simp [q1,q2]
  ·cases x0.Rects.any (Ep l[k]) <;> simp [q1]
 ·simp [fA]
def Ug (p:Rect→Rect→Bool) (l:List Rect) (k:Nat):Bool:=match l[k]? with
 | some x=>(l.take k).any (p x)
 | none=>false
def EL (x y:Rect):Bool:=KW x y==0
def vQ (x y:Rect):Bool:=decide (ovR x y)
theorem EF {l:List Rect} {k:Nat} (h:k≤l.length):slc l 0 (k:Int)=some (l.take k):=by
 unfold slc;rw [if_pos (by omega)];simp
theorem in2 (x:Rect) (l:List Rect) (hl:l.length≤1000):aK (xY x l) 0=some (if l.any (EL x) then .inl () else .inr ()):=by
 refine gX l (xY x l) (fun k=>(k:Int)) _ _ _ rfl (fun k y hy=>?_) ?_
 ·have hk:=(List.getElem?_eq_some_iff.1 hy).1
  unfold xY
  have h1:decide ((k:Int)<(l.length:Int))=true:=by simp;omega
  simp only [h1,if_true,aP hy,Option.bind_some,JX]
  rw [aS (a:=(k:Int)) (by omega) (by omega)]
  rfl
 ·simp [xY]
theorem in3 (l:List Rect) (hl:l.length≤1000):aK (xZ l) 0=some (if (List.range l.length).any (Ug EL l) then .inl () else .inr ()):=by
 refine kS l.length (xZ l) (fun k=>(k:Int)) _ _ _ rfl (fun k hk=>?_) ?_
 ·have hx:l[k]?=some l[k]:=by simp
  unfold xZ Ug
  have h1:decide ((k:Int)<(l.length:Int))=true:=by simp;omega
  simp only [h1,if_true,aP hx,hx,Option.bind_some,EF (Nat.le_of_lt hk),in2 _ (l.take k) (by simp;omega)]
  rw [aS (a:=(k:Int)) (by omega) (by omega)]
  cases (l.take k).any (EL l[k]) <;> simp
 ·simp [xZ]
theorem aAj (l:List Rect) (hl:l.length≤1000):aK (fC l) 0=some (if (List.range l.length).any (Ug EL l) then .inl () else .inr ()):=by
 have inner:∀ (k:Nat) (hk:k<l.length),aK (fB l (k:Int)) 0=some (if (l.take k).any (EL l[k]) then .inl () else .inr ()):=by
  intro k hk
  have hx:l[k]?=some l[k]:=by simp
  refine gX (l.take k) (fB l (k:Int)) (fun k=>(k:Int)) _ _ _ rfl (fun j y hy=>?_) ?_
  ·have hj:=(List.getElem?_eq_some_iff.1 hy).1
   rw [List.length_take] at hj
   have hy':l[j]?=some y:=by rw [List.getElem?_take] at hy;simpa [show j<k by omega] using hy
   unfold fB
   have h1:decide ((j:Int)<(k:Int))=true:=by simp;omega
   simp only [h1,if_true,aP hx,aP hy',Option.bind_some,VF]
   rw [aS (a:=(j:Int)) (by omega) (by omega)]
   rfl
  ·have:(l.take k).length=k:=by simp;omega
   simp [fB,this]
 refine kS l.length (fC l) (fun k=>(k:Int)) _ _ _ rfl (fun k hk=>?_) ?_
 ·have hx:l[k]?=some l[k]:=by simp
  unfold fC Ug
  have h1:decide ((k:Int)<(l.length:Int))=true:=by simp;omega
  simp only [h1,if_true,hx,Option.bind_some,inner k hk]
  rw [aS (a:=(k:Int)) (by omega) (by omega)]
  cases (l.take k).any (EL l[k]) <;> simp
 ·simp [fC]
theorem ov2 (x:Rect) (l:List Rect) (hl:l.length≤1000):aK (mR x l) 0=some (if l.any (vQ x) then .inl () else .inr ()):=by
 refine gX l (mR x l) (fun k=>(k:Int)) _ _ _ rfl (fun k y hy=>?_) ?_
 ·have hk:=(List.getElem?_eq_some_iff.1 hy).1
  unfold mR
  have h1:decide ((k:Int)<(l.length:Int))=true:=by simp;omega
  simp only [h1,if_true,aP hy,Option.bind_some,BD]
  rw [aS (a:=(k:Int)) (by omega) (by omega)]
  rfl
 ·simp [mR]
theorem ov3 (x0:Piece) (hl:x0.Rects.length≤1000):aK (mU x0) 0=some (if (List.range x0.Rects.length).any (Ug vQ x0.Rects) then .inl () else .inr ()):=by
 refine kS x0.Rects.length (mU x0) (fun k=>(k:Int)) _ _ _ rfl (fun k hk=>?_) ?_
 ·have hx:x0.Rects[k]?=some x0.Rects[k]:=by simp
  unfold mU Ug
  have h1:decide ((k:Int)<(x0.Rects.length:Int))=true:=by simp;omega
  simp only [h1,if_true,aP hx,hx,Option.bind_some,EF (Nat.le_of_lt hk),ov2 _ (x0.Rects.take k) (by simp;omega)]
  rw [aS (a:=(k:Int)) (by omega) (by omega)]
  cases (x0.Rects.take k).any (vQ x0.Rects[k]) <;> simp
 ·simp [mU]
theorem Vl (x:Rect) (l:List Rect) (hl:l.length≤1000):iD x l=some (l.any (vQ x)):=by
 have key:aK (jW x l) 0=some (if l.any (vQ x) then .inl () else .inr ()):=by
  refine gX l (jW x l) (fun k=>(k:Int)) _ _ _ rfl (fun k y hy=>?_) ?_
  ·have hk:=(List.getElem?_eq_some_iff.1 hy).1
   unfold jW
   have h1:decide ((k:Int)<(l.length:Int))=true:=by simp;omega
   simp only [h1,if_true,aP hy,Option.bind_some,KA]
   rw [aS (a:=(k:Int)) (by omega) (by omega)]
   rfl
  ·simp [jW]
 unfold iD
 rw [key]
 cases l.any (vQ x) <;> rfl
theorem aAk (x0:Piece) (hl:x0.Rects.length≤1000):aK (eZ x0) 0=some (if (List.range x0.Rects.length).any (Ug vQ x0.Rects) then .inl () else .inr ()):=by
 refine kS x0.Rects.length (eZ x0) (fun k=>(k:Int)) _ _ _ rfl (fun k hk=>?_) ?_
 ·have hx:x0.Rects[k]?=some x0.Rects[k]:=by simp
  unfold eZ Ug
  have h1:decide ((k:Int)<(x0.Rects.length:Int))=true:=by simp;omega
  simp only [h1,if_true,aP hx,hx,Option.bind_some,EF (Nat.le_of_lt hk),Vl _ (x0.Rects.take k) (by simp;omega)]
  rw [aS (a:=(k:Int)) (by omega) (by omega)]
  rfl
 ·simp [eZ]
def Wp (l:List Rect) (a:Int):Int:=l.foldl (fun s r=>min s r.X) a
def Wq (l:List Rect) (a:Int):Int:=l.foldl (fun s r=>min s r.Y) a
theorem LZ (x0:Piece) (hl:x0.Rects.length≤1000) (a b:Int):aK (dD x0) (a,b,0)=some (Wp x0.Rects a,Wq x0.Rects b):=by
 refine yI x0.Rects (dD x0) (fun k=>(Wp (x0.Rects.take k) a,Wq (x0.Rects.take k) b,(k:Int))) _ (fun k r hr=>?_) ?_
 ·have hk:=(List.getElem?_eq_some_iff.1 hr).1
  unfold dD
  have h1:decide ((k:Int)<(x0.Rects.length:Int))=true:=by simp;omega
  have e:x0.Rects.take (k+1)=x0.Rects.take k++[r]:=by rw [List.take_add_one,hr];rfl
  simp only [h1,if_true,aP hr,Option.bind_some,e,Gh]
  rw [aS (a:=(k:Int)) (by omega) (by omega)]
  unfold Wp Wq
  rw [List.foldl_append,List.foldl_append]
  rfl
 ·simp [dD]
theorem OJ (x0:Piece):uO x0.Rects=dD x0:=by
 funext s
 unfold uO dD
 cases idx x0.Rects s.2.2 <;> rfl
theorem XY (x0:Piece) (hl:x0.Rects.length≤1000) {r:Rect} (hr:x0.Rects[0]?=some r):rY x0.Rects=some (Wp x0.Rects r.X,Wq x0.Rects r.Y):=by
 unfold rY
 have i0:idx x0.Rects 0=some r:=aP (k:=0) hr
 have hk:=(List.getElem?_eq_some_iff.1 hr).1
 have h1:aK (dD x0) (r.X,r.Y,0)=aK (dD x0) (r.X,r.Y,1):=by
  refine kJ ?_
  unfold dD
  have hd:decide ((0:Int)<(x0.Rects.length:Int))=true:=by simp;omega
  simp only [hd,if_true,i0,Option.bind_some,Gh,Int.min_self]
  rfl
 rw [i0,OJ]
 simp only [Option.bind_some]
 rw [← h1,LZ x0 hl]
 rfl
theorem Um (x:Piece):∃ b,fG x=some b∧cO x=some b:=by
 obtain ⟨a,ha,ha'⟩:=Name_same x.Name
 obtain ⟨b,hb,hb'⟩:=Name_same x.Material
 unfold fG cO
 rw [ha,hb,ND ha' hb']
 cases a with
 | false=>exact ⟨2,rfl,rfl⟩
 | true =>
 cases b with
 | false=>exact ⟨2,rfl,rfl⟩
 | true =>
 simp only [Option.bind_some,Ri,Bool.and_self,if_true,Bool.not_true,Bool.false_eq_true,if_false]
 by_cases h1:(1≤x.Gauge∧x.Gauge≤60)∧0≤x.Grain∧x.Grain≤2
 ·simp only [h1,and_self,decide_true,if_true,Option.bind_some,Bool.not_true,Bool.false_eq_true,if_false,bne_self_eq_false]
  by_cases l1:(x.Rects.length:Int)>12
  ·exact ⟨4,by simp [l1],by simp [l1]⟩
  by_cases l2:(x.Cuts.length:Int)>12
  ·exact ⟨4,by simp [l2],by simp [l2]⟩
  by_cases l3:(x.Forms.length:Int)>12
  ·exact ⟨4,by simp [l3],by simp [l3]⟩
  have k1:x.Rects.length≤12:=by omega
  have k2:x.Cuts.length≤12:=by omega
  have k3:x.Forms.length≤12:=by omega
  simp only [l1,l2,l3,decide_false,Bool.false_eq_true,if_false,Option.bind_some]
  by_cases h0:(x.Rects.length:Int)=0
  ·exact ⟨1,by simp [h0],by simp [h0]⟩
  have h0':((x.Rects.length:Int)==0)=false:=by rw [beq_eq_false_iff_ne];exact h0
  simp only [h0',Bool.false_eq_true,if_false,valid_eq x.Rects (by omega),valid_eq x.Cuts (by omega),valid_eq x.Forms (by omega),Gz x.Rects (by omega),Gz x.Cuts (by omega),Gz x.Forms (by omega),Option.bind_some]
  cases (x.Rects.any fun x=>!decide (vR x)) with
  | true=>exact ⟨1,rfl,rfl⟩
  | false =>
  cases (x.Cuts.any fun x=>!decide (vR x)) with
  | true=>exact ⟨1,rfl,rfl⟩
  | false =>
  cases (x.Forms.any fun x=>!decide (vR x)) with
  | true=>exact ⟨1,rfl,rfl⟩
  | false =>
  have hr:x.Rects[0]?=some (x.Rects[0]'(by omega)):=by simp [show 0<x.Rects.length by omega]
  have i0:idx x.Rects 0=some (x.Rects[0]'(by omega)):=aP (k:=0) hr
  obtain ⟨cn,c1,c2⟩:=BP (l:=x.Rects) (by omega) (by omega)
  have ap1:app [] x.Cuts=some x.Cuts:=by rw [nA (by unfold LIM;simp;omega)];rfl
  have ap2:app x.Cuts x.Forms=some (x.Cuts++x.Forms):=nA (by unfold LIM;omega)
  have k4:(x.Cuts++x.Forms).length≤1000:=by simp;omega
  simp only [Bool.not_false,Bool.not_true,if_true,Bool.false_eq_true,if_false,Option.bind_some,i0,LZ x (by omega),XY x (by omega) hr,ov3 x (by omega),aAk x (by omega),c1,c2]
  generalize x.Rects[0]'(by omega)=r0
  by_cases m1:Wp x.Rects r0.X=0
  ·by_cases m2:Wq x.Rects r0.Y=0
   ·simp only [m1,m2,bne_self_eq_false,Bool.false_eq_true,if_false,Option.bind_some]
    cases (List.range x.Rects.length).any (Ug vQ x.Rects) with
    | true=>exact ⟨7,rfl,rfl⟩
    | false =>
    cases cn with
    | false=>exact ⟨6,rfl,rfl⟩
    | true =>
    simp only [Bool.not_true,Bool.false_eq_true,if_false,Option.bind_some]
    unfold Rh
    simp only [ap1,ap2,Option.bind_some,TN x _ k4 (show x.Rects.length≤1000 by omega),PH x _ k4 (show x.Rects.length≤1000 by omega),in3 _ k4,aAj _ k4]
    cases (List.range (x.Cuts++x.Forms).length).any (Vn x (x.Cuts++x.Forms)) with
    | true=>exact ⟨13,rfl,rfl⟩
    | false =>
    cases (List.range (x.Cuts++x.Forms).length).any (Ug EL (x.Cuts++x.Forms)) with
    | true=>exact ⟨7,rfl,rfl⟩
    | false=>exact ⟨0,rfl,rfl⟩
   ·have m2':(Wq x.Rects r0.Y != 0)=true:=by rw [bne_iff_ne];exact m2
    simp only [m1,m2',bne_self_eq_false,Bool.false_eq_true,if_false,Option.bind_some,if_true]
    exact ⟨1,rfl,rfl⟩
  ·have m1':(Wp x.Rects r0.X != 0)=true:=by rw [bne_iff_ne];exact m1
   simp only [m1',Option.bind_some,if_true]
   exact ⟨1,rfl,rfl⟩
 ·exact ⟨1,by simp only [h1,decide_false];rfl,by simp only [h1,if_false];rfl⟩
end Go.SM
