/- The Go functions as plain functions; written by a program out of the translation. -/
import Derived.Test.YtgfjbgoehhnaeaaGreatCzMG
set_option linter.unusedVariables false
set_option linter.unusedSimpArgs false
set_option linter.unusedSectionVars false
namespace Go.SM
open Go Go.VI
noncomputable def zW (l:LayoutT):Int×(List (List Bool))→Option (Int×(List (List Bool)) ⊕ (List (List Bool))):=fun s81 =>
  if (decide (s81.1<(l.Pieces.length:Int))) then ((idx l.Pieces s81.1).bind fun x107=>(mk (x107.Cuts.length:Int) false).bind fun l112=>(app s81.2 [l112]).bind fun l113=>some (.inl ((aL s81.1 1),l113))) else (some (.inr s81.2))
noncomputable def Ko (l:LayoutT) (edges:Int):Option (cut_State):=
  (mk edges false).bind fun l9=>(mk (l.Pieces.length:Int) false).bind fun l10=>(mk (l.Pieces.length:Int) 0).bind fun l11=>(mk (l.Pieces.length:Int) false).bind fun l12=>(aM (zW l) (0,[])).bind fun x114=>some (cut_State.mk l9 x114 l10 l11 l12)
noncomputable def Qh (l:LayoutT):Option (cut_State×Int):=
  (Bd l).bind fun r2=>if (r2.2 != 0) then (some ((cut_State.mk [] [] [] [] []),r2.2)) else ((Ko l (r2.1.length:Int)).bind fun r4=>some (r4,0))
noncomputable def jQ (l:LayoutT):Int×(List (List Bool))→Option (Int×(List (List Bool)) ⊕ (List (List Bool))):=fun s92 =>
  if (decide (s92.1<(l.Pieces.length:Int))) then ((idx l.Pieces s92.1).bind fun x126=>(mk (x126.Cuts.length:Int) false).bind fun l127=>(app s92.2 [l127]).bind fun l128=>some (.inl ((aL s92.1 1),l128))) else (some (.inr s92.2))
noncomputable def qO (l:LayoutT):Option (sheetmetalref07_State):=
  (fE l).bind fun r11=>(mk (r11.length:Int) false).bind fun l12=>(mk (l.Pieces.length:Int) false).bind fun l13=>(mk (l.Pieces.length:Int) 0).bind fun l14=>(mk (l.Pieces.length:Int) false).bind fun l15=>(aM (jQ l) (0,[])).bind fun x129=>some (sheetmetalref07_State.mk l12 x129 l13 l14 l15)
noncomputable def qJ (l:LayoutT):Option (sheetmetalref07_State×Int):=
  (dG l).bind fun r2=>if (r2 != 0) then (some ((sheetmetalref07_State.mk [] [] [] [] []),r2)) else ((qO l).bind fun r4=>some (r4,0))
noncomputable def jU (a:(List Bool)) (b:(List Bool)):Int→Option (Int ⊕ (Unit ⊕ Unit)):=fun s55 =>
  if (decide (s55<(a.length:Int))) then ((idx a s55).bind fun x78=>(idx b s55).bind fun x79=>if (!(x78==x79)) then (some (.inr (.inl ()))) else (some (.inl (aL s55 1)))) else (some (.inr (.inr (()))))
noncomputable def dZ (a:(List Bool)) (b:(List Bool)):Option (Bool):=
  if ((a.length:Int) != (b.length:Int)) then (some false) else ((aM (jU a b) 0).bind fun x80=>match x80 with | .inl j81=>some false | .inr j82=>some true)
noncomputable def kR (a:(List Int)) (b:(List Int)):Int→Option (Int ⊕ (Unit ⊕ Unit)):=fun s55 =>
  if (decide (s55<(a.length:Int))) then ((idx a s55).bind fun x78=>(idx b s55).bind fun x79=>if (x78 != x79) then (some (.inr (.inl ()))) else (some (.inl (aL s55 1)))) else (some (.inr (.inr (()))))
noncomputable def gL (a:(List Int)) (b:(List Int)):Option (Bool):=
  if ((a.length:Int) != (b.length:Int)) then (some false) else ((aM (kR a b) 0).bind fun x80=>match x80 with | .inl j81=>some false | .inr j82=>some true)
noncomputable def kH (a:sheetmetalref07_State) (b:sheetmetalref07_State):Int→Option (Int ⊕ (Unit ⊕ Unit)):=fun s97 =>
  if (decide (s97<(a.Holes.length:Int))) then ((idx a.Holes s97).bind fun x131=>(idx b.Holes s97).bind fun x132=>(dZ x131 x132).bind fun r133=>if (!r133) then (some (.inr (.inl ()))) else (some (.inl (aL s97 1)))) else (some (.inr (.inr (()))))
noncomputable def sP (a:sheetmetalref07_State) (b:sheetmetalref07_State):Option (Bool):=
  ((dZ a.Cut b.Cut).bind fun r15=>if r15 then ((dZ a.Done b.Done).bind fun r16=>if r16 then ((dZ a.Fallen b.Fallen).bind fun r17=>if r17 then ((gL a.Joints b.Joints).bind fun r18=>if r18 then (some ((a.Holes.length:Int) != (b.Holes.length:Int))) else (some true)) else (some true)) else (some true)) else (some true)).bind fun j14=>if j14 then (some false) else ((aM (kH a b) 0).bind fun x134=>match x134 with | .inl j135=>some false | .inr j136=>some true)
noncomputable def nP (a:cut_State) (b:sheetmetalref07_State):Option (Bool):=
  (sP (sheetmetalref07_State.mk a.Cut a.Holes a.Done a.Joints a.Fallen) b).bind fun r2=>some r2
noncomputable def rG (st:cut_State) (l:LayoutT):Int→Option (Int ⊕ (Unit ⊕ Unit)):=fun s49 =>
  if (decide (s49<(l.Pieces.length:Int))) then ((idx l.Pieces s49).bind fun x66=>(idx st.Holes s49).bind fun x69=>if ((x69.length:Int) != (x66.Cuts.length:Int)) then (some (.inr (.inl ()))) else (some (.inl (aL s49 1)))) else (some (.inr (.inr (()))))
noncomputable def kU (st:cut_State) (l:LayoutT) (edges:Int):Option (Bool):=
  (if ((st.Cut.length:Int) != edges) then (some true) else (if ((st.Holes.length:Int) != (l.Pieces.length:Int)) then (some true) else (if ((st.Done.length:Int) != (l.Pieces.length:Int)) then (some true) else (if ((st.Joints.length:Int) != (l.Pieces.length:Int)) then (some true) else (some ((st.Fallen.length:Int) != (l.Pieces.length:Int))))))).bind fun j2=>if j2 then (some false) else ((aM (rG st l) 0).bind fun x70=>match x70 with | .inl j71=>some false | .inr j72=>some true)
noncomputable def lH (s0:(List Bool)) (v:Bool):Int→Option (Int ⊕ (Int ⊕ Unit)):=fun s23 =>
  if (decide (s23<(s0.length:Int))) then ((idx s0 s23).bind fun x31=>if (v==x31) then (some (.inr (.inl s23))) else (some (.inl (aL s23 1)))) else (some (.inr (.inr (()))))
noncomputable def uO (s0:(List Bool)) (v:Bool):Option (Int):=
  (aM (lH s0 v) 0).bind fun x32=>match x32 with | .inl j33=>some j33 | .inr j34=>some (-1)
noncomputable def lG (s0:(List Bool)) (v:Bool):Option (Bool):=
  (uO s0 v).bind fun r2=>some (decide (r2 ≥ 0))
noncomputable def We (e:EdgeT) (piece:Int):Option (Bool):=
  (if (e.A==piece) then (some true) else (some (e.B==piece))).bind fun j1=>some j1
noncomputable def rH (st:cut_State) (all:(List EdgeT)) (piece:Int):Int→Option (Int ⊕ (Unit ⊕ Unit)):=fun s63 =>
  if (decide (s63<(all.length:Int))) then ((idx all s63).bind fun x86=>((We x86 piece).bind fun r90=>if r90 then ((idx st.Cut s63).bind fun x91=>some (!x91)) else (some false)).bind fun j89=>if j89 then (some (.inr (.inl ()))) else (some (.inl (aL s63 1)))) else (some (.inr (.inr (()))))
noncomputable def uG (st:cut_State) (all:(List EdgeT)) (piece:Int):Option (Bool):=
  (aM (rH st all piece) 0).bind fun x92=>match x92 with | .inl j93=>some false | .inr j94=>some true
noncomputable def yF (st:cut_State) (all:(List EdgeT)) (x2:ItemT):Option (Bool):=
  (idx st.Fallen x2.Piece).bind fun x10=>if x10 then (some false) else (if (decide (x2.Hole ≥ 0)) then ((idx st.Holes x2.Piece).bind fun x15=>(idx x15 x2.Hole).bind fun x16=>some (!x16)) else (((idx st.Done x2.Piece).bind fun x22=>if x22 then (some false) else ((idx st.Holes x2.Piece).bind fun x23=>(lG x23 false).bind fun r24=>if r24 then (some false) else ((uG st all x2.Piece).bind fun r25=>some (!r25)))).bind fun j21=>some j21))
noncomputable def zJ (s41:Int×Int×Int×Int×Int):(Int×Int×Int×Int)→Option ((Int×Int×Int×Int×Int) ⊕ (Int×Int×Int×Int)):=fun j55 =>
  some (.inl ((aL s41.1 1),j55.1,j55.2.1,j55.2.2.1,j55.2.2.2))
noncomputable def zK (x0:Piece):(Int×Int×Int×Int×Int)→Option ((Int×Int×Int×Int×Int) ⊕ (Int×Int×Int×Int)):=fun s41 =>
  if (decide (s41.1<(x0.Rects.length:Int))) then ((idx x0.Rects s41.1).bind fun x57=>(fG x57).bind fun r59=>if (!r59) then (zJ s41 (s41.2.1,s41.2.2.1,s41.2.2.2.1,s41.2.2.2.2)) else (if (s41.2.2.2.1==0) then (zJ s41 (x57.X,x57.Y,x57.W,x57.H)) else (zJ s41 ((mY s41.2.1 x57.X),(mY s41.2.2.1 x57.Y),(aJ (eU (aL s41.2.1 s41.2.2.2.1) (aL x57.X x57.W)) (mY s41.2.1 x57.X)),(aJ (eU (aL s41.2.2.1 s41.2.2.2.2) (aL x57.Y x57.H)) (mY s41.2.2.1 x57.Y)))))) else (some (.inr (s41.2.1,s41.2.2.1,s41.2.2.2.1,s41.2.2.2.2)))
noncomputable def Ju (x0:Piece):Option (Bool):=
  (aM (zK x0) (0,0,0,0,0)).bind fun x60=>some (decide ((mY x60.2.2.1 x60.2.2.2)<7200))
noncomputable def Fq (r0:Rect) (a_0:Int) (a_1:Int) (a_2:Int) (a_3:Int):Option (Bool):=
  (yS (Rect.mk a_0 a_1 a_2 a_3) r0).bind fun r2=>some r2
noncomputable def bE (s0:(List Rect)) (f_0_0:Int) (f_0_1:Int) (f_0_2:Int) (f_0_3:Int):Int→Option (Int ⊕ (Int ⊕ Unit)):=fun s39 =>
  if (decide (s39<(s0.length:Int))) then ((idx s0 s39).bind fun x54=>(Fq x54 f_0_0 f_0_1 f_0_2 f_0_3).bind fun r55=>if r55 then (some (.inr (.inl s39))) else (some (.inl (aL s39 1)))) else (some (.inr (.inr (()))))
noncomputable def dJ (s0:(List Rect)) (f_0_0:Int) (f_0_1:Int) (f_0_2:Int) (f_0_3:Int):Option (Int):=
  (aM (bE s0 f_0_0 f_0_1 f_0_2 f_0_3) 0).bind fun x56=>match x56 with | .inl j57=>some j57 | .inr j58=>some (-1)
noncomputable def bJ (s0:(List Rect)) (f_0_0:Int) (f_0_1:Int) (f_0_2:Int) (f_0_3:Int):Option (Bool):=
  (dJ s0 f_0_0 f_0_1 f_0_2 f_0_3).bind fun r2=>some (decide (r2 ≥ 0))
noncomputable def vE (l:(List Rect)) (s1:Spot):Int→Option (Int ⊕ (Unit ⊕ Unit)):=fun s41 =>
  if (decide (s41<([(Rect.mk (aJ s1.X 1) (aJ s1.Y 1) 1 1),(Rect.mk s1.X (aJ s1.Y 1) 1 1),(Rect.mk (aJ s1.X 1) s1.Y 1 1),(Rect.mk s1.X s1.Y 1 1)].length:Int))) then ((idx [(Rect.mk (aJ s1.X 1) (aJ s1.Y 1) 1 1),(Rect.mk s1.X (aJ s1.Y 1) 1 1),(Rect.mk (aJ s1.X 1) s1.Y 1 1),(Rect.mk s1.X s1.Y 1 1)] s41).bind fun x55=>(bJ l x55.X x55.Y x55.W x55.H).bind fun r57=>if (!r57) then (some (.inr (.inl ()))) else (some (.inl (aL s41 1)))) else (some (.inr (.inr (()))))
noncomputable def mW (l:(List Rect)) (s1:Spot):Option (Bool):=
  (if (decide (s1.X<(-4194304))) then (some true) else (if (decide (s1.X>4194304)) then (some true) else (if (decide (s1.Y<(-4194304))) then (some true) else (some (decide (s1.Y>4194304)))))).bind fun j2=>if j2 then (some false) else ((aM (vE l s1) 0).bind fun x58=>match x58 with | .inl j59=>some false | .inr j60=>some true)
noncomputable def EZ (s0:Spot) (l:Segment):Option (Int):=
  some (eU (eU (eU (eU 0 (aJ l.X1 s0.X)) (aJ s0.X l.X2)) (aJ l.Y1 s0.Y)) (aJ s0.Y l.Y2))
noncomputable def rJ (l:LayoutT) (x3:ItemT):Int→Option (Int ⊕ (Unit ⊕ Unit)):=fun s59 =>
  if (decide (s59<(l.Pieces.length:Int))) then ((idx l.Pieces s59).bind fun x73=>(mW x73.Rects (Spot.mk x3.Lead.X x3.Lead.Y)).bind fun r75=>if r75 then (some (.inr (.inl ()))) else (some (.inl (aL s59 1)))) else (some (.inr (.inr (()))))
noncomputable def rM (st:cut_State) (all:(List EdgeT)) (x3:ItemT):Int→Option (Int ⊕ (Unit ⊕ Unit)):=fun s157 =>
  if (decide (s157<(all.length:Int))) then ((idx all s157).bind fun x186=>((We x186 x3.Piece).bind fun r191=>if r191 then ((idx st.Cut s157).bind fun x192=>if x192 then (some false) else ((EZ (Spot.mk x3.Lead.X x3.Lead.Y) x186.Line).bind fun r193=>some (decide (r193≤7200)))) else (some false)).bind fun j190=>if j190 then (some (.inr (.inl ()))) else (some (.inl (aL s157 1)))) else (some (.inr (.inr (()))))
noncomputable def wK (st:cut_State) (l:LayoutT) (all:(List EdgeT)) (x3:ItemT):Option (Bool):=
  if (decide (x3.Hole ≥ 0)) then ((idx l.Pieces x3.Piece).bind fun x12=>(idx x12.Cuts x3.Hole).bind fun x13=>(if (decide (x3.Lead.X>x13.X)) then (if (decide (x3.Lead.X<(aL x13.X x13.W))) then (if (decide (x3.Lead.Y>x13.Y)) then (some (decide (x3.Lead.Y<(aL x13.Y x13.H)))) else (some false)) else (some false)) else (some false)).bind fun j14=>some j14) else ((if (decide (x3.Lead.X<0)) then (some true) else (if (decide (x3.Lead.X>l.Sheet.Width)) then (some true) else (if (decide (x3.Lead.Y<0)) then (some true) else (if (decide (x3.Lead.Y>l.Sheet.Height)) then (some true) else ((mW l.Sheet.Clamps (Spot.mk x3.Lead.X x3.Lead.Y)).bind fun r20=>some r20))))).bind fun j19=>if j19 then (some false) else ((aM (rJ l x3) 0).bind fun x76=>match x76 with | .inl j77=>some false | .inr j78=>(aM (rM st all x3) 0).bind fun x194=>match x194 with | .inl j195=>some true | .inr j196=>some false))
noncomputable def iQ (s:(List Bool)):Option (List Bool):=app [] s
noncomputable def yA (s:(List Int)):Option (List Int):=app [] s
noncomputable def mK (st:cut_State):Int×(List (List Bool))→Option (Int×(List (List Bool)) ⊕ (List (List Bool))):=fun s81 =>
  if (decide (s81.1<(st.Holes.length:Int))) then ((idx st.Holes s81.1).bind fun x107=>(iQ x107).bind fun r112=>(app s81.2 [r112]).bind fun l113=>some (.inl ((aL s81.1 1),l113))) else (some (.inr s81.2))
noncomputable def vG (st:cut_State):Option (cut_State):=
  (iQ st.Cut).bind fun r9=>(iQ st.Done).bind fun r10=>(yA st.Joints).bind fun r11=>(iQ st.Fallen).bind fun r12=>(aM (mK st) (0,[])).bind fun x114=>some (cut_State.mk r9 x114 r10 r11 r12)
noncomputable def Qk (s170:Int×(List Bool)):(List Bool)→Option (Int×(List Bool) ⊕ (List Bool)):=fun j199 =>
  some (.inl ((aL s170.1 1),j199))
noncomputable def Bf (l:LayoutT) (all:(List EdgeT)) (j89:(List Bool)×(List (List Bool))×(List Bool)×(List Int)):Int×(List Bool)→Option (Int×(List Bool) ⊕ (List Bool)):=fun s170 =>
  if (decide (s170.1<(l.Pieces.length:Int))) then (((uG (cut_State.mk j89.1 j89.2.1 j89.2.2.1 j89.2.2.2 s170.2) all s170.1).bind fun r204=>if r204 then ((idx j89.2.2.1 s170.1).bind fun x205=>if x205 then ((idx j89.2.2.2 s170.1).bind fun x206=>some (!(decide (x206>0)))) else (some true)) else (some false)).bind fun j203=>if j203 then ((idx s170.2 s170.1).bind fun x208=>Qk s170 (List.set s170.2 (Int.toNat s170.1) true)) else (Qk s170 s170.2)) else (some (.inr s170.2))
noncomputable def Be (l:LayoutT) (all:(List EdgeT)) (r34:cut_State):((List Bool)×(List (List Bool))×(List Bool)×(List Int))→Option (cut_State×Int):=fun j89 =>
  (aM (Bf l all j89) (0,r34.Fallen)).bind fun x209=>some ((cut_State.mk j89.1 j89.2.1 j89.2.2.1 j89.2.2.2 x209),0)
noncomputable def Ql (s236:Int×(List Bool)):(List Bool)→Option (Int×(List Bool) ⊕ (List Bool)):=fun j256 =>
  some (.inl ((aL s236.1 1),j256))
noncomputable def Fb (all:(List EdgeT)) (x3:ItemT):Int×(List Bool)→Option (Int×(List Bool) ⊕ (List Bool)):=fun s236 =>
  if (decide (s236.1<(all.length:Int))) then ((idx all s236.1).bind fun x258=>(We x258 x3.Piece).bind fun r260=>if r260 then ((idx s236.2 s236.1).bind fun x262=>Ql s236 (List.set s236.2 (Int.toNat s236.1) true)) else (Ql s236 s236.2)) else (some (.inr s236.2))
noncomputable def Vz (l:LayoutT) (all:(List EdgeT)) (st:cut_State) (x3:ItemT):Option (cut_State×Int):=
  ((kU st l (all.length:Int)).bind fun r19=>if r19 then (if (decide (x3.Piece<0)) then (some true) else (some (decide (x3.Piece ≥ (l.Pieces.length:Int))))) else (some true)).bind fun j18=>if j18 then (some ((cut_State.mk [] [] [] [] []),1)) else ((if (decide (x3.Hole<(-1))) then (some true) else ((idx l.Pieces x3.Piece).bind fun x23=>if (decide (x3.Hole ≥ (x23.Cuts.length:Int))) then (some true) else (if (decide (x3.Joints<0)) then (some true) else (if (decide (x3.Joints>4)) then (some true) else (if (decide (x3.Hole ≥ 0)) then (some (x3.Joints != 0)) else (some false)))))).bind fun j22=>if j22 then (some ((cut_State.mk [] [] [] [] []),1)) else ((yF st all x3).bind fun r25=>if (!r25) then (some ((cut_State.mk [] [] [] [] []),12)) else ((if (decide (x3.Hole<0)) then (if (x3.Joints==0) then ((idx l.Pieces x3.Piece).bind fun x29=>(Ju x29).bind fun r30=>some r30) else (some false)) else (some false)).bind fun j28=>if j28 then (some ((cut_State.mk [] [] [] [] []),15)) else ((wK st l all x3).bind fun r32=>if (!r32) then (some ((cut_State.mk [] [] [] [] []),14)) else ((vG st).bind fun r34=>if (decide (x3.Hole ≥ 0)) then ((idx r34.Holes x3.Piece).bind fun x214=>(idx x214 x3.Hole).bind fun x215=>Be l all r34 (r34.Cut,(List.set r34.Holes (Int.toNat x3.Piece) (List.set x214 (Int.toNat x3.Hole) true)),r34.Done,r34.Joints)) else ((idx r34.Done x3.Piece).bind fun x220=>(idx r34.Joints x3.Piece).bind fun x221=>(aM (Fb all x3) (0,r34.Cut)).bind fun x263=>Be l all r34 (x263,r34.Holes,(List.set r34.Done (Int.toNat x3.Piece) true),(List.set r34.Joints (Int.toNat x3.Piece) x3.Joints))))))))
noncomputable def Zn (l:LayoutT) (st:cut_State) (x2:ItemT):Option (cut_State×Int×(List (List Bool))):=
  (Bd l).bind fun r2=>if (r2.2 != 0) then (some ((cut_State.mk [] [] [] [] []),r2.2,[])) else ((Vz l r2.1 st x2).bind fun r4=>some (r4.1,r4.2,r4.1.Holes))
noncomputable def kM (l:LayoutT) (st:sheetmetalref07_State):Int→Option (Int ⊕ (Unit ⊕ Unit)):=fun s57 =>
  if (decide (s57<(l.Pieces.length:Int))) then ((idx st.Holes s57).bind fun x80=>(idx l.Pieces s57).bind fun x81=>if ((x80.length:Int) != (x81.Cuts.length:Int)) then (some (.inr (.inl ()))) else (some (.inl (aL s57 1)))) else (some (.inr (.inr (()))))
noncomputable def eT (l:LayoutT) (st:sheetmetalref07_State) (edges:Int):Option (Bool):=
  (if ((st.Cut.length:Int) != edges) then (some true) else (if ((st.Holes.length:Int) != (l.Pieces.length:Int)) then (some true) else (if ((st.Done.length:Int) != (l.Pieces.length:Int)) then (some true) else (if ((st.Joints.length:Int) != (l.Pieces.length:Int)) then (some true) else (some ((st.Fallen.length:Int) != (l.Pieces.length:Int))))))).bind fun j2=>if j2 then (some false) else ((aM (kM l st) 0).bind fun x82=>match x82 with | .inl j83=>some false | .inr j84=>some true)
noncomputable def oQ (l:(List Bool)):Int→Option (Int ⊕ (Unit ⊕ Unit)):=fun s23 =>
  if (decide (s23<(l.length:Int))) then ((idx l s23).bind fun x31=>if (!x31) then (some (.inr (.inl ()))) else (some (.inl (aL s23 1)))) else (some (.inr (.inr (()))))
noncomputable def uF (l:(List Bool)):Option (Bool):=
  (aM (oQ l) 0).bind fun x32=>match x32 with | .inl j33=>some false | .inr j34=>some true
noncomputable def jP (l:(List EdgeT)) (st:sheetmetalref07_State) (piece:Int):Int→Option (Int ⊕ (Unit ⊕ Unit)):=fun s79 =>
  if (decide (s79<(l.length:Int))) then (((idx l s79).bind fun x112=>if (x112.A==piece) then ((idx st.Cut s79).bind fun x113=>some (!x113)) else ((idx l s79).bind fun x114=>if (x114.B==piece) then ((idx st.Cut s79).bind fun x115=>some (!x115)) else (some false))).bind fun j111=>if j111 then (some (.inr (.inl ()))) else (some (.inl (aL s79 1)))) else (some (.inr (.inr (()))))
noncomputable def jK (l:(List EdgeT)) (st:sheetmetalref07_State) (piece:Int):Option (Bool):=
  (aM (jP l st piece) 0).bind fun x116=>match x116 with | .inl j117=>some false | .inr j118=>some true
noncomputable def nI (s65:Bool×Int×Int×Int×Int×Int):(Bool×Int×Int×Int×Int)→Option ((Bool×Int×Int×Int×Int×Int) ⊕ (Bool×Int×Int×Int×Int)):=fun j88 =>
  some (.inl (j88.1,j88.2.1,j88.2.2.1,j88.2.2.2.1,j88.2.2.2.2,(aL s65.2.2.2.2.2 1)))
noncomputable def nJ (s65:Bool×Int×Int×Int×Int×Int) (x90:Rect):(Bool×Int×Int×Int×Int)→Option ((Bool×Int×Int×Int×Int×Int) ⊕ (Bool×Int×Int×Int×Int)):=fun j95 =>
  nI s65 (j95.1,(mY j95.2.1 x90.X),(mY j95.2.2.1 x90.Y),(eU j95.2.2.2.1 (aL x90.X x90.W)),(eU j95.2.2.2.2 (aL x90.Y x90.H)))
noncomputable def jM (x0:Piece):(Bool×Int×Int×Int×Int×Int)→Option ((Bool×Int×Int×Int×Int×Int) ⊕ (Bool×Int×Int×Int×Int)):=fun s65 =>
  if (decide (s65.2.2.2.2.2<(x0.Rects.length:Int))) then ((idx x0.Rects s65.2.2.2.2.2).bind fun x90=>(bQ x90).bind fun r94=>if (!r94) then (nI s65 (s65.1,s65.2.1,s65.2.2.1,s65.2.2.2.1,s65.2.2.2.2.1)) else (if (!s65.1) then (nJ s65 x90 (true,x90.X,x90.Y,(aL x90.X x90.W),(aL x90.Y x90.H))) else (nJ s65 x90 (s65.1,s65.2.1,s65.2.2.1,s65.2.2.2.1,s65.2.2.2.2.1)))) else (some (.inr (s65.1,s65.2.1,s65.2.2.1,s65.2.2.2.1,s65.2.2.2.2.1)))
noncomputable def mJ (x0:Piece):Option (Bool):=
  (aM (jM x0) (false,0,0,0,0,0)).bind fun x96=>(if x96.1 then (some (decide ((mY (aJ x96.2.2.2.1 x96.2.1) (aJ x96.2.2.2.2 x96.2.2.1))<7200))) else (some true)).bind fun j97=>some j97
noncomputable def jA (l:(List Rect)) (x1:Int) (y:Int):Int→Option (Int ⊕ (Unit ⊕ Unit)):=fun s39 =>
  if (decide (s39<(l.length:Int))) then ((idx l s39).bind fun x54=>(iT (Rect.mk x1 y 1 1) x54).bind fun r55=>if r55 then (some (.inr (.inl ()))) else (some (.inl (aL s39 1)))) else (some (.inr (.inr (()))))
noncomputable def gB (l:(List Rect)) (x1:Int) (y:Int):Option (Bool):=
  (aM (jA l x1 y) 0).bind fun x56=>match x56 with | .inl j57=>some true | .inr j58=>some false
noncomputable def eY (l:(List Rect)) (s1:Spot):Option (Bool):=
  (if (decide (s1.X≤(-1048576))) then (some true) else (if (decide (s1.X ≥ 1048576)) then (some true) else (if (decide (s1.Y≤(-1048576))) then (some true) else (some (decide (s1.Y ≥ 1048576)))))).bind fun j2=>if j2 then (some false) else (((gB l s1.X s1.Y).bind fun r8=>if r8 then ((gB l (aJ s1.X 1) s1.Y).bind fun r9=>if r9 then ((gB l s1.X (aJ s1.Y 1)).bind fun r10=>if r10 then ((gB l (aJ s1.X 1) (aJ s1.Y 1)).bind fun r11=>some r11) else (some false)) else (some false)) else (some false)).bind fun j7=>some j7)
noncomputable def sQ (s0:Spot) (g:Segment):Option (Int):=
  some (eU (eU (eU (eU 0 (aJ g.X1 s0.X)) (aJ s0.X g.X2)) (aJ g.Y1 s0.Y)) (aJ s0.Y g.Y2))
noncomputable def jN (l:LayoutT) (s4:Spot):Int→Option (Int ⊕ (Unit ⊕ Unit)):=fun s61 =>
  if (decide (s61<(l.Pieces.length:Int))) then ((idx l.Pieces s61).bind fun x84=>(eY x84.Rects s4).bind fun r85=>if r85 then (some (.inr (.inl ()))) else (some (.inl (aL s61 1)))) else (some (.inr (.inr (()))))
noncomputable def jO (es:(List EdgeT)) (st:sheetmetalref07_State) (piece:Int) (s4:Spot):Int→Option (Int ⊕ (Unit ⊕ Unit)):=fun s295 =>
  if (decide (s295<(es.length:Int))) then (((idx es s295).bind fun x388=>if (x388.A==piece) then ((idx st.Cut s295).bind fun x389=>if x389 then (some false) else ((idx es s295).bind fun x390=>(sQ s4 x390.Line).bind fun r391=>some (decide (r391≤7200)))) else ((idx es s295).bind fun x392=>if (x392.B==piece) then ((idx st.Cut s295).bind fun x393=>if x393 then (some false) else ((idx es s295).bind fun x394=>(sQ s4 x394.Line).bind fun r395=>some (decide (r395≤7200)))) else (some false))).bind fun j387=>if j387 then (some (.inr (.inl ()))) else (some (.inl (aL s295 1)))) else (some (.inr (.inr (()))))
noncomputable def qK (l:LayoutT) (es:(List EdgeT)) (st:sheetmetalref07_State) (piece:Int) (s4:Spot):Option (Bool):=
  (if (decide (s4.X<0)) then (some true) else (if (decide (s4.Y<0)) then (some true) else (if (decide (s4.X>l.Sheet.Width)) then (some true) else (if (decide (s4.Y>l.Sheet.Height)) then (some true) else ((eY l.Sheet.Clamps s4).bind fun r6=>some r6))))).bind fun j5=>if j5 then (some false) else ((aM (jN l s4) 0).bind fun x86=>match x86 with | .inl j87=>some false | .inr j88=>(aM (jO es st piece s4) 0).bind fun x396=>match x396 with | .inl j397=>some true | .inr j398=>some false)
noncomputable def nX (l:LayoutT) (es:(List EdgeT)) (st:sheetmetalref07_State) (x3:ItemT):Option (Int):=
  ((eT l st (es.length:Int)).bind fun r13=>if r13 then (if (decide (x3.Piece<0)) then (some true) else (if (decide (x3.Piece ≥ (l.Pieces.length:Int))) then (some true) else (if (decide (x3.Hole<(-1))) then (some true) else ((idx l.Pieces x3.Piece).bind fun x14=>if (decide (x3.Hole ≥ (x14.Cuts.length:Int))) then (some true) else (if (decide (x3.Joints<0)) then (some true) else (if (decide (x3.Joints>4)) then (some true) else (if (decide (x3.Hole ≥ 0)) then (some (x3.Joints != 0)) else (some false)))))))) else (some true)).bind fun j12=>if j12 then (some 1) else ((idx l.Pieces x3.Piece).bind fun x16=>if (decide (x3.Hole ≥ 0)) then (((idx st.Fallen x3.Piece).bind fun x58=>if x58 then (some true) else ((idx st.Holes x3.Piece).bind fun x59=>(idx x59 x3.Hole).bind fun x60=>some x60)).bind fun j57=>if j57 then (some 12) else ((idx x16.Cuts x3.Hole).bind fun x62=>(if (decide (x3.Lead.X≤x62.X)) then (some true) else (if (decide (x3.Lead.X ≥ (aL x62.X x62.W))) then (some true) else (if (decide (x3.Lead.Y≤x62.Y)) then (some true) else (some (decide (x3.Lead.Y ≥ (aL x62.Y x62.H))))))).bind fun j64=>if j64 then (some 14) else (some 0))) else (((idx st.Fallen x3.Piece).bind fun x82=>if x82 then (some true) else ((idx st.Done x3.Piece).bind fun x83=>if x83 then (some true) else ((idx st.Holes x3.Piece).bind fun x84=>(uF x84).bind fun r85=>if r85 then ((jK es st x3.Piece).bind fun r86=>some r86) else (some true)))).bind fun j81=>if j81 then (some 12) else ((if (x3.Joints==0) then ((mJ x16).bind fun r92=>some r92) else (some false)).bind fun j91=>if j91 then (some 15) else ((qK l es st x3.Piece x3.Lead).bind fun r96=>if (!r96) then (some 14) else (some 0)))))
noncomputable def kG (st:sheetmetalref07_State):Int×(List (List Bool))→Option (Int×(List (List Bool)) ⊕ (List (List Bool))):=fun s89 =>
  if (decide (s89.1<(st.Holes.length:Int))) then ((idx st.Holes s89.1).bind fun x123=>(app [] x123).bind fun l124=>(app s89.2 [l124]).bind fun l125=>some (.inl ((aL s89.1 1),l125))) else (some (.inr s89.2))
noncomputable def sO (st:sheetmetalref07_State):Option (sheetmetalref07_State):=
  (app [] st.Cut).bind fun l9=>(app [] st.Done).bind fun l10=>(app [] st.Joints).bind fun l11=>(app [] st.Fallen).bind fun l12=>(aM (kG st) (0,[])).bind fun x126=>some (sheetmetalref07_State.mk l9 x126 l10 l11 l12)
noncomputable def nV (s154:Int×(List Bool)):(List Bool)→Option (Int×(List Bool) ⊕ (List Bool)):=fun j183 =>
  some (.inl ((aL s154.1 1),j183))
noncomputable def kK (es:(List EdgeT)) (j73:(List Bool)×(List (List Bool))×(List Bool)×(List Int)):Int×(List Bool)→Option (Int×(List Bool) ⊕ (List Bool)):=fun s154 =>
  if (decide (s154.1<(s154.2.length:Int))) then (((jK es (sheetmetalref07_State.mk j73.1 j73.2.1 j73.2.2.1 j73.2.2.2 s154.2) s154.1).bind fun r188=>if r188 then ((idx j73.2.2.1 s154.1).bind fun x189=>if x189 then ((idx j73.2.2.2 s154.1).bind fun x190=>some (!(decide (x190>0)))) else (some true)) else (some false)).bind fun j187=>if j187 then ((idx s154.2 s154.1).bind fun x192=>nV s154 (List.set s154.2 (Int.toNat s154.1) true)) else (nV s154 s154.2)) else (some (.inr s154.2))
noncomputable def kJ (es:(List EdgeT)) (r2:sheetmetalref07_State):((List Bool)×(List (List Bool))×(List Bool)×(List Int))→Option (sheetmetalref07_State):=fun j73 =>
  (aM (kK es j73) (0,r2.Fallen)).bind fun x193=>some (sheetmetalref07_State.mk j73.1 j73.2.1 j73.2.2.1 j73.2.2.2 x193)
noncomputable def nW (s224:Int×(List Bool)):(List Bool)→Option (Int×(List Bool) ⊕ (List Bool)):=fun j253 =>
  some (.inl ((aL s224.1 1),j253))
noncomputable def kL (es:(List EdgeT)) (x2:ItemT):Int×(List Bool)→Option (Int×(List Bool) ⊕ (List Bool)):=fun s224 =>
  if (decide (s224.1<(es.length:Int))) then (((idx es s224.1).bind fun x259=>if (x259.A==x2.Piece) then (some true) else ((idx es s224.1).bind fun x260=>some (x260.B==x2.Piece))).bind fun j258=>if j258 then ((idx s224.2 s224.1).bind fun x262=>nW s224 (List.set s224.2 (Int.toNat s224.1) true)) else (nW s224 s224.2)) else (some (.inr s224.2))
noncomputable def kI (es:(List EdgeT)) (st:sheetmetalref07_State) (x2:ItemT):Option (sheetmetalref07_State):=
  (sO st).bind fun r2=>if (decide (x2.Hole ≥ 0)) then ((idx r2.Holes x2.Piece).bind fun x198=>(idx x198 x2.Hole).bind fun x199=>kJ es r2 (r2.Cut,(List.set r2.Holes (Int.toNat x2.Piece) (List.set x198 (Int.toNat x2.Hole) true)),r2.Done,r2.Joints)) else ((idx r2.Done x2.Piece).bind fun x201=>(idx r2.Joints x2.Piece).bind fun x203=>(aM (kL es x2) (0,r2.Cut)).bind fun x263=>kJ es r2 (x263,r2.Holes,(List.set r2.Done (Int.toNat x2.Piece) true),(List.set r2.Joints (Int.toNat x2.Piece) x2.Joints)))
noncomputable def uZ (l:LayoutT) (st:sheetmetalref07_State) (x2:ItemT):Option (sheetmetalref07_State×Int×(List (List Bool))):=
  (dG l).bind fun r2=>if (r2 != 0) then (some ((sheetmetalref07_State.mk [] [] [] [] []),r2,[])) else ((fE l).bind fun r4=>(nX l r4 st x2).bind fun r6=>if (r6 != 0) then (some ((sheetmetalref07_State.mk [] [] [] [] []),r6,[])) else ((kI r4 st x2).bind fun r8=>some (r8,0,r8.Holes)))
noncomputable def yN (s65:Int×(List Int)):(List Int)→Option (Int×(List Int) ⊕ (List Int)):=fun j88 =>
  some (.inl ((aL s65.1 1),j88))
noncomputable def Sl (st:cut_State) (h0_0:(List Bool)):Int×(List Int)→Option (Int×(List Int) ⊕ (List Int)):=fun s65 =>
  if (decide (s65.1<(st.Fallen.length:Int))) then ((idx st.Fallen s65.1).bind fun x90=>(if x90 then ((idx h0_0 s65.1).bind fun x93=>some (!x93)) else (some false)).bind fun j92=>if j92 then ((app s65.2 [s65.1]).bind fun l95=>yN s65 l95) else (yN s65 s65.2)) else (some (.inr s65.2))
noncomputable def Ol (st:cut_State) (h0_0:(List Bool)) (h2:(List (List Int))):Option ((List (List Int))):=
  (aM (Sl st h0_0) (0,[])).bind fun x96=>(app h2 [x96]).bind fun l98=>some l98
noncomputable def Fz (l:LayoutT) (items:(List ItemT)) (r2:(List EdgeT)×Int):(Int×(List (List Int))×(List Bool)×(List (List Bool))×(List Bool)×(List Int)×(List Bool)×(List Bool))→Option ((Int×(List (List Int))×(List Bool)×(List (List Bool))×(List Bool)×(List Int)×(List Bool)×(List Bool)) ⊕ ((List Bool)×(List (List Bool))×(List Bool)×(List Int)×(List Bool)×(List (List Int))×(List Bool))):=fun s57 =>
  if (decide (s57.1<(items.length:Int))) then ((idx items s57.1).bind fun x77=>(Vz l r2.1 (cut_State.mk s57.2.2.1 s57.2.2.2.1 s57.2.2.2.2.1 s57.2.2.2.2.2.1 s57.2.2.2.2.2.2.1) x77).bind fun r79=>if (r79.2 != 0) then (none) else ((Ol r79.1 s57.2.2.2.2.2.2.2 s57.2.1).bind fun r81=>some (.inl ((aL s57.1 1),r81,r79.1.Cut,r79.1.Holes,r79.1.Done,r79.1.Joints,r79.1.Fallen,r79.1.Fallen)))) else (some (.inr (s57.2.2.1,s57.2.2.2.1,s57.2.2.2.2.1,s57.2.2.2.2.2.1,s57.2.2.2.2.2.2.1,s57.2.1,s57.2.2.2.2.2.2.2)))
noncomputable def yQ (l:LayoutT) (items:(List ItemT)) (h1:(List Bool)) (h3:(List (List Int))):Option (cut_State×Int×Int×(List Bool)×(List (List Bool))×(List Bool)×(List Int)×(List Bool)×(List (List Int))×(List Bool)):=
  (Bd l).bind fun r2=>if (r2.2 != 0) then (none) else (if (decide ((items.length:Int)>128)) then (none) else ((Ko l (r2.1.length:Int)).bind fun r4=>(aM (Fz l items r2) (0,h3,r4.Cut,r4.Holes,r4.Done,r4.Joints,r4.Fallen,h1)).bind fun x82=>some ((cut_State.mk x82.1 x82.2.1 x82.2.2.1 x82.2.2.2.1 x82.2.2.2.2.1),0,0,x82.1,x82.2.1,x82.2.2.1,x82.2.2.2.1,x82.2.2.2.2.1,x82.2.2.2.2.2.1,x82.2.2.2.2.2.2)))
noncomputable def Uh (l:LayoutT) (items:(List ItemT)):Option ((List (List Int))×Int):=
  (mk (l.Pieces.length:Int) false).bind fun l2=>(yQ l items l2 []).bind fun r4=>if (r4.2.2.1 != 0) then (none) else (some (r4.2.2.2.2.2.2.2.2.1,0))
noncomputable def tL:Option (Bool):=
  (Bd (LayoutT.mk (Sheet.mk (ByteArray.mk #[115]) (ByteArray.mk #[115,116,101,101,108]) 10 0 57600 57600 [] []) [(Piece.mk (ByteArray.mk #[97]) (ByteArray.mk #[115,116,101,101,108]) 10 0 [(Rect.mk 0 0 14400 14400)] [] []),(Piece.mk (ByteArray.mk #[98]) (ByteArray.mk #[115,116,101,101,108]) 10 0 [(Rect.mk 14400 0 14400 14400)] [] [])])).bind fun r2=>(Uh (LayoutT.mk (Sheet.mk (ByteArray.mk #[115]) (ByteArray.mk #[115,116,101,101,108]) 10 0 57600 57600 [] []) [(Piece.mk (ByteArray.mk #[97]) (ByteArray.mk #[115,116,101,101,108]) 10 0 [(Rect.mk 0 0 14400 14400)] [] []),(Piece.mk (ByteArray.mk #[98]) (ByteArray.mk #[115,116,101,101,108]) 10 0 [(Rect.mk 14400 0 14400 14400)] [] [])]) [(ItemT.mk 0 (-1) 0 (Spot.mk 0 0)),(ItemT.mk 1 (-1) 0 (Spot.mk 28800 0))]).bind fun r4=>if (r2.2==0) then (if ((r2.1.length:Int)==7) then (if (r4.2==0) then (if ((r4.1.length:Int)==2) then ((idx r4.1 0).bind fun x9=>(gL x9 [0]).bind fun r10=>if r10 then ((idx r4.1 1).bind fun x11=>(gL x11 [1]).bind fun r12=>some r12) else (none)) else (none)) else (none)) else (none)) else (none)
noncomputable def uM (l:LayoutT) (st:sheetmetalref07_State) (x2:ItemT):Option (Bool):=
  (Qh l).bind fun r2=>(qJ l).bind fun r4=>(if (r2.2 != r4.2) then (some true) else ((nP r2.1 r4.1).bind fun r10=>some (!r10))).bind fun j9=>if j9 then (some false) else ((Zn l (cut_State.mk st.Cut st.Holes st.Done st.Joints st.Fallen) x2).bind fun r12=>(uZ l st x2).bind fun r14=>(if (r12.2.1==r14.2.1) then ((nP (cut_State.mk r12.1.Cut r12.1.Holes r12.1.Done r12.1.Joints r12.1.Fallen) (sheetmetalref07_State.mk r14.1.Cut r14.1.Holes r14.1.Done r14.1.Joints r14.1.Fallen)).bind fun r18=>if r18 then ((tL).bind fun r19=>some r19) else (some false)) else (some false)).bind fun j17=>some j17)
end Go.SM
