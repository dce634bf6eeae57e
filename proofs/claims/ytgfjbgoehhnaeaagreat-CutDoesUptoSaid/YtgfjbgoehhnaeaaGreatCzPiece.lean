/- Pieces: both say the same of each. -/
import Derived.Test.YtgfjbgoehhnaeaaGreatCzTouch
set_option linter.unusedVariables false
set_option linter.unusedSimpArgs false
set_option linter.unusedSectionVars false
namespace Go.SM
open Go Go.VI
def Dn (h x:Rect):Bool:=if h.X>x.X then (if h.Y>x.Y then (if aL h.X h.W<aL x.X x.W then decide (aL h.Y h.H<aL x.Y x.H) else false) else false) else false
theorem KF (h:Rect) (l:List Rect) (hl:l.length≤1000):xS h l=some (l.any (Dn h)):=by
  have key:aM (uL h l) 0=some (if l.any (Dn h) then .inl () else .inr ()):=by
    refine gI l (uL h l) (fun k=>(k:Int)) _ _ _ rfl (fun k x hx=>?_) ?_
    · have hk:=(List.getElem?_eq_some_iff.1 hx).1
      unfold uL
      have h1:decide ((k:Int)<(l.length:Int))=true:=by simp;omega
      simp only [h1,if_true,aP hx,Option.bind_some]
      rw [aS (a:=(k:Int)) (by omega) (by omega)]
      unfold Dn
      by_cases q1:h.X>x.X
      · by_cases q2:h.Y>x.Y
        · by_cases q3:aL h.X h.W<aL x.X x.W
          · by_cases q4:aL h.Y h.H<aL x.Y x.H <;> simp [q1,q2,q3,q4]
          · simp [q1,q2,q3]
        · simp [q1,q2]
      · simp [q1]
    · simp [uL]
  unfold xS
  rw [key]
  cases l.any (Dn h) <;> rfl
theorem XF (h:Rect) (l:List Rect) (hl:l.length≤1000):sN h l=some (l.any (Dn h)):=by
  have key:aM (kF h l) 0=some (if l.any (Dn h) then .inl () else .inr ()):=by
    refine gI l (kF h l) (fun k=>(k:Int)) _ _ _ rfl (fun k x hx=>?_) ?_
    · have hk:=(List.getElem?_eq_some_iff.1 hx).1
      unfold kF
      have h1:decide ((k:Int)<(l.length:Int))=true:=by simp;omega
      simp only [h1,if_true,aP hx,Option.bind_some]
      rw [aS (a:=(k:Int)) (by omega) (by omega)]
      unfold Dn
      by_cases q1:h.X>x.X
      · by_cases q2:h.Y>x.Y
        · by_cases q3:aL h.X h.W<aL x.X x.W
          · by_cases q4:aL h.Y h.H<aL x.Y x.H <;> simp [q1,q2,q3,q4]
          · simp [q1,q2,q3]
        · simp [q1,q2]
      · simp [q1]
    · simp [kF]
  unfold sN
  rw [key]
  cases l.any (Dn h) <;> rfl
def Ud (x0:Piece) (l:List Rect) (k:Nat):Bool:=match l[k]? with
  | some x=>!(x0.Rects.any (Dn x)) || (decide ((k:Int)<(x0.Cuts.length:Int))&&((x.W==1) || (x.H==1)))
  | none=>false
theorem QB (x0:Piece) (l:List Rect) (hl:l.length≤1000) (hr:x0.Rects.length≤1000):aM (wY x0 l) 0=some (if (List.range l.length).any (Ud x0 l) then .inl () else .inr ()):=by
  refine kD l.length (wY x0 l) (fun k=>(k:Int)) _ _ _ rfl (fun k hk=>?_) ?_
  · have hx:l[k]?=some l[k]:=by simp
    unfold wY Ud
    have h1:decide ((k:Int)<(l.length:Int))=true:=by simp;omega
    simp only [h1,if_true,aP hx,hx,Option.bind_some,KF _ _ hr]
    rw [aS (a:=(k:Int)) (by omega) (by omega)]
    by_cases q1:(k:Int)<(x0.Cuts.length:Int)
    · cases q2:(l[k].W==1)
      · cases q3:(l[k].H==1)
        · cases x0.Rects.any (Dn l[k]) <;> simp [q1,q2,q3]
        · cases x0.Rects.any (Dn l[k]) <;> simp [q1,q2,q3]
      · cases x0.Rects.any (Dn l[k]) <;> simp [q1,q2]
    · cases x0.Rects.any (Dn l[k]) <;> simp [q1]
  · simp [wY]
theorem MJ (x0:Piece) (l:List Rect) (hl:l.length≤1000) (hr:x0.Rects.length≤1000):aM (eO x0 l) 0=some (if (List.range l.length).any (Ud x0 l) then .inl () else .inr ()):=by
  refine kD l.length (eO x0 l) (fun k=>(k:Int)) _ _ _ rfl (fun k hk=>?_) ?_
  · have hx:l[k]?=some l[k]:=by simp
    unfold eO Ud
    have h1:decide ((k:Int)<(l.length:Int))=true:=by simp;omega
    simp only [h1,if_true,aP hx,hx,Option.bind_some,XF _ _ hr]
    rw [aS (a:=(k:Int)) (by omega) (by omega)]
    by_cases q1:(k:Int)<(x0.Cuts.length:Int)
    · cases q2:(l[k].W==1)
      · cases q3:(l[k].H==1)
        · cases x0.Rects.any (Dn l[k]) <;> simp [q1,q2,q3]
        · cases x0.Rects.any (Dn l[k]) <;> simp [q1,q2,q3]
      · cases x0.Rects.any (Dn l[k]) <;> simp [q1,q2]
    · cases x0.Rects.any (Dn l[k]) <;> simp [q1]
  · simp [eO]
def Rt (p:Rect→Rect→Bool) (l:List Rect) (k:Nat):Bool:=match l[k]? with
  | some x=>(l.take k).any (p x)
  | none=>false
def BZ (x y:Rect):Bool:=IG x y==0
def uS (x y:Rect):Bool:=decide (ovR x y)
theorem BS {l:List Rect} {k:Nat} (h:k≤l.length):slc l 0 (k:Int)=some (l.take k):=by
  unfold slc;rw [if_pos (by omega)];simp
theorem in2 (x:Rect) (l:List Rect) (hl:l.length≤1000):aM (wZ x l) 0=some (if l.any (BZ x) then .inl () else .inr ()):=by
  refine gI l (wZ x l) (fun k=>(k:Int)) _ _ _ rfl (fun k y hy=>?_) ?_
  · have hk:=(List.getElem?_eq_some_iff.1 hy).1
    unfold wZ
    have h1:decide ((k:Int)<(l.length:Int))=true:=by simp;omega
    simp only [h1,if_true,aP hy,Option.bind_some,GI]
    rw [aS (a:=(k:Int)) (by omega) (by omega)]
    rfl
  · simp [wZ]
theorem in3 (l:List Rect) (hl:l.length≤1000):aM (xA l) 0=some (if (List.range l.length).any (Rt BZ l) then .inl () else .inr ()):=by
  refine kD l.length (xA l) (fun k=>(k:Int)) _ _ _ rfl (fun k hk=>?_) ?_
  · have hx:l[k]?=some l[k]:=by simp
    unfold xA Rt
    have h1:decide ((k:Int)<(l.length:Int))=true:=by simp;omega
    simp only [h1,if_true,aP hx,hx,Option.bind_some,BS (Nat.le_of_lt hk),in2 _ (l.take k) (by simp;omega)]
    rw [aS (a:=(k:Int)) (by omega) (by omega)]
    cases (l.take k).any (BZ l[k]) <;> simp
  · simp [xA]
theorem O4 (l:List Rect) (hl:l.length≤1000):aM (eQ l) 0=some (if (List.range l.length).any (Rt BZ l) then .inl () else .inr ()):=by
  have inner:∀ (k:Nat) (hk:k<l.length),aM (eP l (k:Int)) 0=some (if (l.take k).any (BZ l[k]) then .inl () else .inr ()):=by
    intro k hk
    have hx:l[k]?=some l[k]:=by simp
    refine gI (l.take k) (eP l (k:Int)) (fun k=>(k:Int)) _ _ _ rfl (fun j y hy=>?_) ?_
    · have hj:=(List.getElem?_eq_some_iff.1 hy).1
      rw [List.length_take] at hj
      have hy':l[j]?=some y:=by rw [List.getElem?_take] at hy;simpa [show j<k by omega] using hy
      unfold eP
      have h1:decide ((j:Int)<(k:Int))=true:=by simp;omega
      simp only [h1,if_true,aP hx,aP hy',Option.bind_some,RX]
      rw [aS (a:=(j:Int)) (by omega) (by omega)]
      rfl
    · have:(l.take k).length=k:=by simp;omega
      simp [eP,this]
  refine kD l.length (eQ l) (fun k=>(k:Int)) _ _ _ rfl (fun k hk=>?_) ?_
  · have hx:l[k]?=some l[k]:=by simp
    unfold eQ Rt
    have h1:decide ((k:Int)<(l.length:Int))=true:=by simp;omega
    simp only [h1,if_true,hx,Option.bind_some,inner k hk]
    rw [aS (a:=(k:Int)) (by omega) (by omega)]
    cases (l.take k).any (BZ l[k]) <;> simp
  · simp [eQ]
theorem ov2 (x:Rect) (l:List Rect) (hl:l.length≤1000):aM (lZ x l) 0=some (if l.any (uS x) then .inl () else .inr ()):=by
  refine gI l (lZ x l) (fun k=>(k:Int)) _ _ _ rfl (fun k y hy=>?_) ?_
  · have hk:=(List.getElem?_eq_some_iff.1 hy).1
    unfold lZ
    have h1:decide ((k:Int)<(l.length:Int))=true:=by simp;omega
    simp only [h1,if_true,aP hy,Option.bind_some,Yy]
    rw [aS (a:=(k:Int)) (by omega) (by omega)]
    rfl
  · simp [lZ]
theorem ov3 (x0:Piece) (hl:x0.Rects.length≤1000):aM (mD x0) 0=some (if (List.range x0.Rects.length).any (Rt uS x0.Rects) then .inl () else .inr ()):=by
  refine kD x0.Rects.length (mD x0) (fun k=>(k:Int)) _ _ _ rfl (fun k hk=>?_) ?_
  · have hx:x0.Rects[k]?=some x0.Rects[k]:=by simp
    unfold mD Rt
    have h1:decide ((k:Int)<(x0.Rects.length:Int))=true:=by simp;omega
    simp only [h1,if_true,aP hx,hx,Option.bind_some,BS (Nat.le_of_lt hk),ov2 _ (x0.Rects.take k) (by simp;omega)]
    rw [aS (a:=(k:Int)) (by omega) (by omega)]
    cases (x0.Rects.take k).any (uS x0.Rects[k]) <;> simp
  · simp [mD]
theorem Ub (x:Rect) (l:List Rect) (hl:l.length≤1000):gQ x l=some (l.any (uS x)):=by
  have key:aM (jL x l) 0=some (if l.any (uS x) then .inl () else .inr ()):=by
    refine gI l (jL x l) (fun k=>(k:Int)) _ _ _ rfl (fun k y hy=>?_) ?_
    · have hk:=(List.getElem?_eq_some_iff.1 hy).1
      unfold jL
      have h1:decide ((k:Int)<(l.length:Int))=true:=by simp;omega
      simp only [h1,if_true,aP hy,Option.bind_some,GL]
      rw [aS (a:=(k:Int)) (by omega) (by omega)]
      rfl
    · simp [jL]
  unfold gQ
  rw [key]
  cases l.any (uS x) <;> rfl
theorem O6 (x0:Piece) (hl:x0.Rects.length≤1000):aM (eH x0) 0=some (if (List.range x0.Rects.length).any (Rt uS x0.Rects) then .inl () else .inr ()):=by
  refine kD x0.Rects.length (eH x0) (fun k=>(k:Int)) _ _ _ rfl (fun k hk=>?_) ?_
  · have hx:x0.Rects[k]?=some x0.Rects[k]:=by simp
    unfold eH Rt
    have h1:decide ((k:Int)<(x0.Rects.length:Int))=true:=by simp;omega
    simp only [h1,if_true,aP hx,hx,Option.bind_some,BS (Nat.le_of_lt hk),Ub _ (x0.Rects.take k) (by simp;omega)]
    rw [aS (a:=(k:Int)) (by omega) (by omega)]
    rfl
  · simp [eH]
def Va (l:List Rect) (a:Int):Int:=l.foldl (fun s r=>min s r.X) a
def Vb (l:List Rect) (a:Int):Int:=l.foldl (fun s r=>min s r.Y) a
theorem JG (x0:Piece) (hl:x0.Rects.length≤1000) (a b:Int):aM (bZ x0) (a,b,0)=some (Va x0.Rects a,Vb x0.Rects b):=by
  refine Bn x0.Rects (bZ x0) (fun k=>(Va (x0.Rects.take k) a,Vb (x0.Rects.take k) b,(k:Int))) _ (fun k r hr=>?_) ?_
  · have hk:=(List.getElem?_eq_some_iff.1 hr).1
    unfold bZ
    have h1:decide ((k:Int)<(x0.Rects.length:Int))=true:=by simp;omega
    have e:x0.Rects.take (k+1)=x0.Rects.take k++[r]:=by rw [List.take_add_one,hr];rfl
    simp only [h1,if_true,aP hr,Option.bind_some,e,Ei]
    rw [aS (a:=(k:Int)) (by omega) (by omega)]
    unfold Va Vb
    rw [List.foldl_append,List.foldl_append]
    rfl
  · simp [bZ]
theorem LH (x0:Piece):tT x0.Rects=bZ x0:=by
  funext s
  unfold tT bZ
  cases idx x0.Rects s.2.2 <;> rfl
theorem UW (x0:Piece) (hl:x0.Rects.length≤1000) {r:Rect} (hr:x0.Rects[0]?=some r):qG x0.Rects=some (Va x0.Rects r.X,Vb x0.Rects r.Y):=by
  unfold qG
  have i0:idx x0.Rects 0=some r:=aP (k:=0) hr
  have hk:=(List.getElem?_eq_some_iff.1 hr).1
  have h1:aM (bZ x0) (r.X,r.Y,0)=aM (bZ x0) (r.X,r.Y,1):=by
    refine lQ ?_
    unfold bZ
    have hd:decide ((0:Int)<(x0.Rects.length:Int))=true:=by simp;omega
    simp only [hd,if_true,i0,Option.bind_some,Ei,Int.min_self]
    rfl
  rw [i0,LH]
  simp only [Option.bind_some]
  rw [← h1,JG x0 hl]
  rfl
theorem Sd (x:Piece):∃ b,eX x=some b∧bW x=some b:=by
  obtain ⟨a,ha,ha'⟩:=Name_same x.Name
  obtain ⟨b,hb,hb'⟩:=Name_same x.Material
  unfold eX bW
  rw [ha,hb,KG ha' hb']
  cases a with
  | false=>exact ⟨2,rfl,rfl⟩
  | true =>
  cases b with
  | false=>exact ⟨2,rfl,rfl⟩
  | true =>
  simp only [Option.bind_some,Pz,Bool.and_self,if_true,Bool.not_true,Bool.false_eq_true,if_false]
  by_cases h1:(1≤x.Gauge∧x.Gauge≤60)∧0≤x.Grain∧x.Grain≤2
  · simp only [h1,and_self,decide_true,if_true,Option.bind_some,Bool.not_true,Bool.false_eq_true,if_false,bne_self_eq_false]
    by_cases l1:(x.Rects.length:Int)>12
    · exact ⟨4,by simp [l1],by simp [l1]⟩
    by_cases l2:(x.Cuts.length:Int)>12
    · exact ⟨4,by simp [l2],by simp [l2]⟩
    by_cases l3:(x.Forms.length:Int)>12
    · exact ⟨4,by simp [l3],by simp [l3]⟩
    have k1:x.Rects.length≤12:=by omega
    have k2:x.Cuts.length≤12:=by omega
    have k3:x.Forms.length≤12:=by omega
    simp only [l1,l2,l3,decide_false,Bool.false_eq_true,if_false,Option.bind_some]
    by_cases h0:(x.Rects.length:Int)=0
    · exact ⟨1,by simp [h0],by simp [h0]⟩
    have h0':((x.Rects.length:Int)==0)=false:=by rw [beq_eq_false_iff_ne];exact h0
    simp only [h0',Bool.false_eq_true,if_false,valid_eq x.Rects (by omega),valid_eq x.Cuts (by omega),valid_eq x.Forms (by omega),Fa x.Rects (by omega),Fa x.Cuts (by omega),Fa x.Forms (by omega),Option.bind_some]
    cases (x.Rects.any fun x=>!decide (vR x)) with
    | true=>exact ⟨1,rfl,rfl⟩
    | false =>
    cases (x.Cuts.any fun x=>!decide (vR x)) with
    | true=>exact ⟨1,rfl,rfl⟩
    | false =>
    cases (x.Forms.any fun x=>!decide (vR x)) with
    | true=>exact ⟨1,rfl,rfl⟩
    | false =>
    have hr:x.Rects[0]?=some (x.Rects[0]'(by omega)):=by simp [show 0<x.Rects.length by omega]
    have i0:idx x.Rects 0=some (x.Rects[0]'(by omega)):=aP (k:=0) hr
    obtain ⟨cn,c1,c2⟩:=Zj (l:=x.Rects) (by omega) (by omega)
    have ap1:app [] x.Cuts=some x.Cuts:=by rw [qY (by unfold LIM;simp;omega)];rfl
    have ap2:app x.Cuts x.Forms=some (x.Cuts++x.Forms):=qY (by unfold LIM;omega)
    have k4:(x.Cuts++x.Forms).length≤1000:=by simp;omega
    simp only [Bool.not_false,Bool.not_true,if_true,Bool.false_eq_true,if_false,Option.bind_some,i0,JG x (by omega),UW x (by omega) hr,ov3 x (by omega),O6 x (by omega),c1,c2]
    generalize x.Rects[0]'(by omega)=r0
    by_cases m1:Va x.Rects r0.X=0
    · by_cases m2:Vb x.Rects r0.Y=0
      · simp only [m1,m2,bne_self_eq_false,Bool.false_eq_true,if_false,Option.bind_some]
        cases (List.range x.Rects.length).any (Rt uS x.Rects) with
        | true=>exact ⟨7,rfl,rfl⟩
        | false =>
        cases cn with
        | false=>exact ⟨6,rfl,rfl⟩
        | true =>
        simp only [Bool.not_true,Bool.false_eq_true,if_false,Option.bind_some]
        unfold Py
        simp only [ap1,ap2,Option.bind_some,QB x _ k4 (show x.Rects.length≤1000 by omega),MJ x _ k4 (show x.Rects.length≤1000 by omega),in3 _ k4,O4 _ k4]
        cases (List.range (x.Cuts++x.Forms).length).any (Ud x (x.Cuts++x.Forms)) with
        | true=>exact ⟨13,rfl,rfl⟩
        | false =>
        cases (List.range (x.Cuts++x.Forms).length).any (Rt BZ (x.Cuts++x.Forms)) with
        | true=>exact ⟨7,rfl,rfl⟩
        | false=>exact ⟨0,rfl,rfl⟩
      · have m2':(Vb x.Rects r0.Y != 0)=true:=by rw [bne_iff_ne];exact m2
        simp only [m1,m2',bne_self_eq_false,Bool.false_eq_true,if_false,Option.bind_some,if_true]
        exact ⟨1,rfl,rfl⟩
    · have m1':(Va x.Rects r0.X != 0)=true:=by rw [bne_iff_ne];exact m1
      simp only [m1',Option.bind_some,if_true]
      exact ⟨1,rfl,rfl⟩
  · exact ⟨1,by simp only [h1,decide_false];rfl,by simp only [h1,if_false];rfl⟩
end Go.SM
