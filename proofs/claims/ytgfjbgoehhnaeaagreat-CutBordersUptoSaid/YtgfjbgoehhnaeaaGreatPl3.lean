/- What the functions compute, part 3. -/
import Derived.Test.YtgfjbgoehhnaeaaGreatPl2
import Derived.Test.YtgfjbgoehhnaeaaGreatPl1
set_option linter.unusedVariables false
set_option linter.unusedSimpArgs false
set_option linter.unusedSectionVars false
noncomputable section
namespace Go.SM
open Go Go.VI
theorem Pz {s:bA} (h:iR s=some 0):s.cG.length≤4∧s.Used.length≤48:=by
 obtain ⟨a,ha,_⟩:=rB s.Name
 obtain ⟨b,hb,_⟩:=rB s.cA
 unfold iR at h
 rw [ha,hb] at h
 cases a with
 | false=>exact absurd (Option.some.inj h) (by decide)
 | true =>
 cases b with
 | false=>exact absurd (Option.some.inj h) (by decide)
 | true =>
 simp only [Option.bind_some,Ha,Vj,if_true,Bool.not_true,Bool.false_eq_true,if_false] at h
 generalize decide ((1≤s.iS∧s.iS≤60)∧0≤s.iT∧s.iT≤2)=g1 at h
 generalize decide (1≤s.gY∧s.gY≤1048576)=g2 at h
 generalize decide (1≤s.dK∧s.dK≤1048576)=g3 at h
 by_cases h4:(s.cG.length:Int)>4
 ·simp only [h4,decide_true,if_true,Option.bind_some] at h
  cases g1 <;> cases g2 <;> cases g3 <;> exact absurd (Option.some.inj h) (by decide)
 by_cases h5:(s.Used.length:Int)>48
 ·simp only [h4,h5,decide_false,decide_true,if_true,Bool.false_eq_true,if_false,Option.bind_some] at h
  cases g1 <;> cases g2 <;> cases g3 <;> exact absurd (Option.some.inj h) (by decide)
 omega
theorem FW {α:Type} {l:List α} {k:Nat} (h:k≤l.length):slc l 0 (k:Int)=some (l.take k):=by
 unfold slc;rw [if_pos (by omega)];simp
theorem Ty {l:List aM} {g:aM→Int}:∀ {a:Int},l.foldl (fun s r=>min s (g r)) a=a∨∃ r ∈ l,l.foldl (fun s r=>min s (g r)) a=g r:=by
 induction l with
 | nil=>intro a;exact .inl rfl
 | cons x l ih =>
   intro a
   simp only [List.foldl_cons]
   rcases ih (a:=min a (g x)) with h | ⟨r,hr,h⟩
   ·rw [h]
    by_cases hx:a≤g x
    ·left;omega
    ·right;exact ⟨x,by simp,by omega⟩
   ·exact .inr ⟨r,by simp [hr],h⟩
theorem FA {α β:Type} (l:List α) (f:α→β) (body:Int×List β→Option ((Int×List β) ⊕ List β)) (hl:l.length≤1048576) (step:∀ (k:Nat) x acc,l[k]?=some x→body ((k:Int),acc)=(app acc [f x]).bind fun l'=>some (.inl (((k+1:Nat):Int),l'))) (fin:∀ acc,body ((l.length:Int),acc)=some (.inr acc)) :
  aH body (0,[])=some (l.map f):=by
 refine Ie l body (fun k=>((k:Int),(l.take k).map f)) _ (fun k x hx=>?_) ?_
 ·have hk:=(List.getElem?_eq_some_iff.1 hx).1
  rw [step k x _ hx,jE (by unfold LIM;simp;omega)]
  simp only [Option.bind_some]
  rw [List.take_add_one,hx]
  simp
 ·rw [fin,List.take_length]
def bkR (x y:Int) (r:aM):aM:=if r.X < -4194304∨r.X>4194304∨r.Y < -4194304∨r.Y>4194304 then ⟨r.X,r.Y,0,r.H⟩ else ⟨aK r.X x,aK r.Y y,r.W,r.H⟩
def shR (x y:Int) (r:aM):aM:=if r.X > -2147483648∧r.X<2147483648∧r.Y > -2147483648∧r.Y<2147483648 then ⟨aJ r.X x,aJ r.Y y,r.W,r.H⟩ else r
theorem back_eq {l:List aM} (hl:l.length≤1048576) (x y:Int):Df l x y=some (l.map (bkR x y)):=by
 unfold Df jR
 rw [jE (by unfold LIM;simp;omega)]
 simp only [List.nil_append,Option.bind_some]
 have key:aH (xL x y l) (0,l)=some (l.map (bkR x y)):=by
  refine Ie l (xL x y l) (fun k=>((k:Int),(l.take k).map (bkR x y)++l.drop k)) _ (fun k r hr=>?_) ?_
  ·have hk:=(List.getElem?_eq_some_iff.1 hr).1
   have h1:decide ((k:Int)<(l.length:Int))=true:=by simp;omega
   have ht:((l.take k).map (bkR x y)).length=k:=by simp;omega
   have ed:l.drop k=r::l.drop (k+1):=by rw [List.drop_eq_getElem_cons hk];congr 1;exact (List.getElem?_eq_some_iff.1 hr).2
   have g1:∀ z:aM,((l.take k).map (bkR x y)++z::l.drop (k+1))[k]?=some z:=fun z=>by rw [List.getElem?_append_right (by omega),ht];simp
   have i1:∀ z:aM,idx ((l.take k).map (bkR x y)++z::l.drop (k+1)) (k:Int)=some z:=fun z=>aQ (g1 z)
   have s1:∀ z z':aM,List.set ((l.take k).map (bkR x y)++z::l.drop (k+1)) k z'=(l.take k).map (bkR x y)++z'::l.drop (k+1):=fun z z'=>by rw [List.set_append_right _ _ (by omega),ht];simp
   have e:l.take (k+1)=l.take k++[r]:=by rw [List.take_add_one,hr];rfl
   unfold xL Bk
   simp only [h1,if_true,ed,i1,g1,s1,Option.bind_some,Int.toNat_natCast]
   rw [aP (a:=(k:Int)) (by omega) (by omega),e,List.map_append,List.append_assoc]
   by_cases q1:r.X < -4194304
   ·simp [q1,bkR]
   ·by_cases q2:r.X>4194304
    ·simp [q1,q2,bkR]
    ·by_cases q3:r.Y < -4194304
     ·simp [q1,q2,q3,bkR]
     ·by_cases q4:r.Y>4194304
      ·simp [q1,q2,q3,q4,bkR]
      ·simp [q1,q2,q3,q4,bkR]
  ·simp [xL]
 rw [key]
 rfl
theorem Sd {l:List aM} (hl:l.length≤1048576) (x y:Int):kD l x y=some (l.map (shR x y)):=by
 unfold kD
 rw [FA l (shR x y) (kO l x y) hl (fun k r acc hx=>?_) (fun acc=>?_)]
 ·rfl
 ·have hk:=(List.getElem?_eq_some_iff.1 hx).1
  unfold kO oJ
  have h1:decide ((k:Int)<(l.length:Int))=true:=by simp;omega
  simp only [h1,if_true,aQ hx,Option.bind_some]
  rw [aP (a:=(k:Int)) (by omega) (by omega)]
  unfold shR
  by_cases g1:r.X > -2147483648
  ·by_cases g2:r.X<2147483648
   ·by_cases g3:r.Y > -2147483648
    ·by_cases g4:r.Y<2147483648
     ·simp [g1,g2,g3,g4]
     ·simp [g1,g2,g3,g4]
    ·simp [g1,g2,g3]
   ·simp [g1,g2]
  ·simp [g1]
 ·simp [kO]
theorem QR {mx my:Int} (hx : -1048576≤mx∧mx≤1048576) (hy : -1048576≤my∧my≤1048576) (r:aM) (hr:Py r):bkR mx my r=shR (pV mx) (pV my) r∨(¬ vR (bkR mx my r)∧¬ vR (shR (pV mx) (pV my) r)):=by
 obtain ⟨⟨a1,a2⟩,⟨b1,b2⟩,_,_⟩:=hr
 unfold bkR shR
 rw [Vo (a:=mx) (by omega) (by omega),Vo (a:=my) (by omega) (by omega)]
 by_cases h:r.X < -4194304∨r.X>4194304∨r.Y < -4194304∨r.Y>4194304
 ·right
  rw [if_pos h]
  refine ⟨fun q=>?_,fun q=>?_⟩
  ·have:=q.2.2.1;simp at this
  ·by_cases g:r.X > -2147483648∧r.X<2147483648∧r.Y > -2147483648∧r.Y<2147483648
   ·rw [if_pos g,aP (by omega) (by omega),aP (by omega) (by omega)] at q
    obtain ⟨q1,q2,_⟩:=q
    simp only at q1 q2
    omega
   ·rw [if_neg g] at q
    obtain ⟨q1,q2,_⟩:=q
    omega
 ·left
  rw [if_neg h,if_pos (by omega),bC (by omega) (by omega),bC (by omega) (by omega),aP (by omega) (by omega),aP (by omega) (by omega)]
  rfl
theorem GF {x:aW} {a b:Bool} (ha:jK x.Name=some a) (hb:jK x.cA=some b) (h:∃ r ∈ x.aD++(x.fD++x.Forms),¬ vR r) :
  dZ x=some (if a&&b then (if (1≤x.iS∧x.iS≤60)∧0≤x.iT∧x.iT≤2 then (if x.aD.length>12∨x.fD.length>12∨x.Forms.length>12 then 4 else 1) else 1) else 2):=by
 unfold dZ
 rw [ha,hb]
 cases a with
 | false=>rfl
 | true =>
 cases b with
 | false=>rfl
 | true =>
 simp only [Option.bind_some,Ha,Bool.and_self,if_true,Bool.not_true,Bool.false_eq_true,if_false]
 by_cases h1:(1≤x.iS∧x.iS≤60)∧0≤x.iT∧x.iT≤2
 ·simp only [h1,and_self,decide_true,Bool.not_true,Bool.false_eq_true,if_false,if_true]
  by_cases l1:x.aD.length>12
  ·simp [show (x.aD.length:Int)>12 by omega,l1]
  by_cases l2:x.fD.length>12
  ·simp [show ¬ (x.aD.length:Int)>12 by omega,show (x.fD.length:Int)>12 by omega,l1,l2]
  by_cases l3:x.Forms.length>12
  ·simp [show ¬ (x.aD.length:Int)>12 by omega,show ¬ (x.fD.length:Int)>12 by omega,show (x.Forms.length:Int)>12 by omega,l1,l2,l3]
  have d1:decide ((x.aD.length:Int)>12)=false:=by simp;omega
  have d2:decide ((x.fD.length:Int)>12)=false:=by simp;omega
  have d3:decide ((x.Forms.length:Int)>12)=false:=by simp;omega
  have hc:¬ (x.aD.length>12∨x.fD.length>12∨x.Forms.length>12):=by omega
  simp only [d1,d2,d3,hc,Bool.false_eq_true,if_false,Option.bind_some,xX x.aD (by omega),xX x.fD (by omega),xX x.Forms (by omega)]
  have anyb:∀ l:List aM,(∃ r ∈ l,¬ vR r)→(l.any fun x=>!decide (vR x))=true:=fun l ⟨r,hr,hv⟩=>List.any_eq_true.2 ⟨r,hr,by simp [hv]⟩
  obtain ⟨r,hr,hv⟩:=h
  have hj:(if ((x.aD.length:Int)==0)=true then some true else (if (!(x.aD.any fun x=>!decide (vR x)))=true then (if (!(x.fD.any fun x=>!decide (vR x)))=true then some (!(!(x.Forms.any fun x=>!decide (vR x)))) else some true) else some true))=some true:=by
   cases (x.aD.length:Int)==0 with
   | true=>rfl
   | false =>
     rcases List.mem_append.1 hr with hr | hr
     ·rw [anyb _ ⟨r,hr,hv⟩];rfl
     ·rcases List.mem_append.1 hr with hr | hr
      ·rw [anyb x.fD ⟨r,hr,hv⟩];cases (x.aD.any fun x=>!decide (vR x)) <;> rfl
      ·rw [anyb x.Forms ⟨r,hr,hv⟩];cases (x.aD.any fun x=>!decide (vR x)) <;> cases (x.fD.any fun x=>!decide (vR x)) <;> rfl
  rw [hj]
  rfl
 ·simp only [h1,decide_false,Bool.not_false,if_true,if_false]
theorem OY {x:aW} (h:dZ x=some 0):x.aD.length≤12:=by
 obtain ⟨a,ha,_⟩:=rB x.Name
 obtain ⟨b,hb,_⟩:=rB x.cA
 unfold dZ at h
 rw [ha,hb] at h
 by_cases l1:(x.aD.length:Int)>12
 ·cases a with
  | false=>exact absurd (Option.some.inj h) (by decide)
  | true =>
  cases b with
  | false=>exact absurd (Option.some.inj h) (by decide)
  | true =>
  simp only [Option.bind_some,Ha,if_true,Bool.not_true,Bool.false_eq_true,if_false,l1,decide_true] at h
  generalize decide ((1≤x.iS∧x.iS≤60)∧0≤x.iT∧x.iT≤2)=g1 at h
  cases g1 <;> exact absurd (Option.some.inj h) (by decide)
 ·omega
def Sm (x:aW):Prop:=(x.aD.length≤1048576∧∀ r ∈ x.aD,Py r)∧(x.fD.length≤1048576∧∀ r ∈ x.fD,Py r)∧(x.Forms.length≤1048576∧∀ r ∈ x.Forms,Py r)
theorem Tn (x0:aW) (hl:x0.aD.length≤1048576) (a b:Int):aH (eW x0) (a,b,0)=some (Lp x0.aD a,Lq x0.aD b):=by
 refine Ie x0.aD (eW x0) (fun k=>(Lp (x0.aD.take k) a,Lq (x0.aD.take k) b,(k:Int))) _ (fun k r hr=>?_) ?_
 ·have hk:=(List.getElem?_eq_some_iff.1 hr).1
  unfold eW
  have h1:decide ((k:Int)<(x0.aD.length:Int))=true:=by simp;omega
  have e:x0.aD.take (k+1)=x0.aD.take k++[r]:=by rw [List.take_add_one,hr];rfl
  simp only [h1,if_true,aQ hr,Option.bind_some,e,Bz]
  rw [aP (a:=(k:Int)) (by omega) (by omega)]
  unfold Lp Lq
  rw [List.foldl_append,List.foldl_append]
  rfl
 ·simp [eW]
theorem DR (x0:aW):lI x0=eW x0:=by
 funext s
 unfold lI eW
 cases idx x0.aD s.2.2 <;> rfl
theorem AU (x0:aW) (hl:x0.aD.length≤1048576) {r:aM} (hr:x0.aD[0]?=some r):aH (lI x0) (r.X,r.Y,1)=some (Lp x0.aD r.X,Lq x0.aD r.Y):=by
 have i0:idx x0.aD 0=some r:=aQ (k:=0) hr
 have hk:=(List.getElem?_eq_some_iff.1 hr).1
 have h1:aH (eW x0) (r.X,r.Y,0)=aH (eW x0) (r.X,r.Y,1):=by
  refine jS ?_
  unfold eW
  have hd:decide ((0:Int)<(x0.aD.length:Int))=true:=by simp;omega
  simp only [hd,if_true,i0,Option.bind_some,Bz,Int.min_self]
  rfl
 rw [DR,← h1,Tn x0 hl]
theorem Jt {x:aW} (hs:Sm x):∃ e:Int,mH x=some e∧(e=0→x.aD.length≤12) ∧
  ∀ {S:Type} (k:S),((tC x).bind fun r79=>if (!r79.2.1) then (some (Sum.inr (Sum.inl (1:Int)):S ⊕ (Int ⊕ Unit))) else ((dB (aW.mk r79.1.Name r79.1.cA r79.1.iS r79.1.iT r79.1.aD r79.1.fD r79.1.Forms)).bind fun r81=>if (r81 != 0) then (some (.inr (.inl r81))) else (some (.inl k))))=if e=0 then some (.inl k) else some (.inr (.inl e)):=by
 obtain ⟨⟨s1,t1⟩,⟨s2,t2⟩,s3,t3⟩:=hs
 have k1:aH (nI x) 0=some (if (x.aD.any fun x=>!decide (vR x)) then .inl () else .inr ()):=by
  refine eC x.aD (nI x) (fun k=>(k:Int)) _ _ _ rfl (fun k y hx=>?_) ?_
  ·have hk:=(List.getElem?_eq_some_iff.1 hx).1
   unfold nI
   have h1:decide ((k:Int)<(x.aD.length:Int))=true:=by simp;omega
   simp only [h1,if_true,aQ hx,Option.bind_some,pT]
   rw [aP (a:=(k:Int)) (by omega) (by omega)]
   rfl
  ·simp [nI]
 unfold mH tC
 rw [k1,zE _ (by omega)]
 cases hv:(x.aD.any fun x=>!decide (vR x)) with
 | true=>exact ⟨1,rfl,fun h=>absurd h (by decide),fun k=>rfl⟩
 | false =>
 have av:∀ r ∈ x.aD,vR r:=fun r hr=>by have:=List.any_eq_false.1 hv r hr;simpa using this
 simp only [Bool.false_eq_true,if_false,Option.bind_some,Bool.not_false,Bool.not_true]
 by_cases h0:(x.aD.length:Int)=0
 ·obtain ⟨e,e1,e2⟩:=Jg x
  refine ⟨e,by simp [h0,e1],fun _=>by omega,fun k=>?_⟩
  have e2':dB (aW.mk x.Name x.cA x.iS x.iT x.aD x.fD x.Forms)=some e:=e2
  simp only [h0,beq_self_eq_true,if_true,Option.bind_some,Bool.not_true,Bool.false_eq_true,if_false,e2']
  by_cases he:e=0
  ·simp [he]
  ·simp [he]
 ·have h0':((x.aD.length:Int)==0)=false:=by rw [beq_eq_false_iff_ne];exact h0
  have hlt:0<x.aD.length:=by omega
  have hr:x.aD[0]?=some (x.aD[0]'hlt):=by simp [hlt]
  have i0:idx x.aD 0=some (x.aD[0]'hlt):=aQ (k:=0) hr
  have hmem:x.aD[0]'hlt ∈ x.aD:=List.getElem_mem hlt
  have rb:=AU x s1 hr
  generalize x.aD[0]'hlt=r0 at hr i0 hmem rb
  have bx : -1048576≤Lp x.aD r0.X∧Lp x.aD r0.X≤1048576:=by
   have:∃ y ∈ x.aD,Lp x.aD r0.X=y.X:=by
    rcases Ty (l:=x.aD) (g:=fun r=>r.X) (a:=r0.X) with e | ⟨y,hy,e⟩
    ·exact ⟨r0,hmem,e⟩
    ·exact ⟨y,hy,e⟩
   obtain ⟨y,hy,e⟩:=this
   have:=av y hy;unfold vR at this;omega
  have by' : -1048576≤Lq x.aD r0.Y∧Lq x.aD r0.Y≤1048576:=by
   have:∃ y ∈ x.aD,Lq x.aD r0.Y=y.Y:=by
    rcases Ty (l:=x.aD) (g:=fun r=>r.Y) (a:=r0.Y) with e | ⟨y,hy,e⟩
    ·exact ⟨r0,hmem,e⟩
    ·exact ⟨y,hy,e⟩
   obtain ⟨y,hy,e⟩:=this
   have:=av y hy;unfold vR at this;omega
  unfold xT
  simp only [h0',Bool.false_eq_true,if_false,i0,Option.bind_some,Tn x s1,rb,back_eq s1,back_eq s2,back_eq s3,Sd s1,Sd s2,Sd s3,Bool.not_true]
  generalize Lp x.aD r0.X=mx at bx
  generalize Lq x.aD r0.Y=my at by'
  have main : ∃ e,dZ ⟨x.Name,x.cA,x.iS,x.iT,x.aD.map (bkR mx my),x.fD.map (bkR mx my),x.Forms.map (bkR mx my)⟩=some e∧dB ⟨x.Name,x.cA,x.iS,x.iT,x.aD.map (shR (pV mx) (pV my)),x.fD.map (shR (pV mx) (pV my)),x.Forms.map (shR (pV mx) (pV my))⟩=some e:=by
   have cmp:=QR bx by'
   by_cases hall:∀ r ∈ x.aD++(x.fD++x.Forms),bkR mx my r=shR (pV mx) (pV my) r
   ·have m1:x.aD.map (bkR mx my)=x.aD.map (shR (pV mx) (pV my)):=List.map_congr_left fun r hr=>hall r (List.mem_append.2 (.inl hr))
    have m2:x.fD.map (bkR mx my)=x.fD.map (shR (pV mx) (pV my)):=List.map_congr_left fun r hr=>hall r (List.mem_append.2 (.inr (List.mem_append.2 (.inl hr))))
    have m3:x.Forms.map (bkR mx my)=x.Forms.map (shR (pV mx) (pV my)):=List.map_congr_left fun r hr=>hall r (List.mem_append.2 (.inr (List.mem_append.2 (.inr hr))))
    rw [m1,m2,m3]
    exact Jg _
   ·have hex:∃ r ∈ x.aD++(x.fD++x.Forms),¬ vR (bkR mx my r)∧¬ vR (shR (pV mx) (pV my) r):=by
     apply Classical.byContradiction
     intro hno
     refine hall fun r hr=>?_
     have hR:Py r:=by
      rcases List.mem_append.1 hr with h | h
      ·exact t1 r h
      ·rcases List.mem_append.1 h with h | h
       ·exact t2 r h
       ·exact t3 r h
     rcases cmp r hR with h | h
     ·exact h
     ·exact absurd ⟨r,hr,h⟩ hno
    obtain ⟨r,hr,v1,v2⟩:=hex
    obtain ⟨a,ha,_⟩:=rB x.Name
    obtain ⟨b,hb,_⟩:=rB x.cA
    have p1:=GF (x:=⟨x.Name,x.cA,x.iS,x.iT,x.aD.map (bkR mx my),x.fD.map (bkR mx my),x.Forms.map (bkR mx my)⟩) ha hb ⟨bkR mx my r,by show _ ∈ x.aD.map _++(x.fD.map _++x.Forms.map _);rw [← List.map_append,← List.map_append];exact List.mem_map_of_mem hr,v1⟩
    have p2:=GF (x:=⟨x.Name,x.cA,x.iS,x.iT,x.aD.map (shR (pV mx) (pV my)),x.fD.map (shR (pV mx) (pV my)),x.Forms.map (shR (pV mx) (pV my))⟩) ha hb ⟨shR (pV mx) (pV my) r,by show _ ∈ x.aD.map _++(x.fD.map _++x.Forms.map _);rw [← List.map_append,← List.map_append];exact List.mem_map_of_mem hr,v2⟩
    simp only [List.length_map] at p1 p2
    obtain ⟨e,e1,e2⟩:=Jg ⟨x.Name,x.cA,x.iS,x.iT,x.aD.map (shR (pV mx) (pV my)),x.fD.map (shR (pV mx) (pV my)),x.Forms.map (shR (pV mx) (pV my))⟩
    exact ⟨e,by rw [p1,← p2];exact e1,e2⟩
  obtain ⟨e,e1,e2⟩:=main
  refine ⟨e,by rw [e1];rfl,fun he=>?_,fun k=>?_⟩
  ·subst he
   have:=OY e1
   simpa using this
  ·simp only [e2,Option.bind_some]
   by_cases he:e=0
   ·simp [he]
   ·simp [he]
theorem Rl (r:aM) {l:List aM} (hl:l.length≤1000):zJ r l=some (l.any (lE r)):=by
 have key:∃ z,aH (bI l r.X r.Y r.W r.H) 0=some z∧((∃ k:Nat,z=.inl (k:Int))∧l.any (lE r)=true∨z=.inr ()∧l.any (lE r)=false):=by
  have go : ∀ (m k:Nat),k+m=l.length→(∀ y ∈ l.take k,lE r y=false)→∃ z,aH (bI l r.X r.Y r.W r.H) (k:Int)=some z∧((∃ k:Nat,z=.inl (k:Int))∧l.any (lE r)=true∨z=.inr ()∧l.any (lE r)=false):=by
   intro m
   induction m with
   | zero =>
     intro k h hb
     obtain rfl:k=l.length:=by omega
     rw [List.take_length] at hb
     exact ⟨.inr (),fQ (by simp [bI]),.inr ⟨rfl,List.any_eq_false.2 fun y hy=>by simp [hb y hy]⟩⟩
   | succ m ih =>
     intro k h hb
     have hx:l[k]?=some (l[k]'(by omega)):=by simp [show k<l.length by omega]
     have hd:decide ((k:Int)<(l.length:Int))=true:=by simp;omega
     have hm:Bq (l[k]'(by omega)) r.X r.Y r.W r.H=some (lE r (l[k]'(by omega))):=by
      unfold Bq
      rw [Jf];rfl
     by_cases ho:lE r (l[k]'(by omega))=true
     ·refine ⟨.inl (k:Int),fQ ?_,.inl ⟨⟨k,rfl⟩,List.any_eq_true.2 ⟨_,List.mem_of_getElem? hx,ho⟩⟩⟩
      unfold bI
      simp only [hd,if_true,aQ hx,Option.bind_some,hm,ho]
     ·have ho':lE r (l[k]'(by omega))=false:=by simpa using ho
      rw [jS (s':=((k+1:Nat):Int))]
      ·refine ih (k+1) (by omega) fun y hy=>?_
       rw [List.take_add_one,hx] at hy
       rcases List.mem_append.1 hy with hy | hy
       ·exact hb y hy
       ·simp at hy;rw [hy];exact ho'
      ·unfold bI
       simp only [hd,if_true,aQ hx,Option.bind_some,hm,ho',Bool.false_eq_true,if_false]
       rw [aP (by omega) (by omega)];rfl
  exact go l.length 0 (by omega) (by simp)
 obtain ⟨z,hz,h⟩:=key
 unfold zJ cU dH
 rw [hz]
 rcases h with ⟨⟨k,rfl⟩,h⟩ | ⟨rfl,h⟩
 ·rw [h]
  have:decide ((k:Int) ≥ 0)=true:=by simp
  simp only [Option.bind_some,this]
 ·rw [h];rfl
def Rs (s:bA) (y:aM):Bool:=!(decide (Ak y ⟨0,0,s.gY,s.dK⟩)) || (s.cG.any (lE y) || s.Used.any (lE y))
theorem QZ (l:bB) (x:aW) (hx:x.aD.length≤12) (h1:l.bA.cG.length≤4) (h2:l.bA.Used.length≤48):aH (qG l x) 0=some (if x.aD.any (Rs l.bA) then .inl () else .inr ()):=by
 refine eC x.aD (qG l x) (fun k=>(k:Int)) _ _ _ rfl (fun k y hy=>?_) ?_
 ·have hk:=(List.getElem?_eq_some_iff.1 hy).1
  unfold qG Rs
  have hd:decide ((k:Int)<(x.aD.length:Int))=true:=by simp;omega
  simp only [hd,if_true,aQ hy,Option.bind_some,Tg,Rl y (show l.bA.cG.length≤1000 by omega),Rl y (show l.bA.Used.length≤1000 by omega)]
  rw [aP (a:=(k:Int)) (by omega) (by omega)]
  cases decide (Ak y ⟨0,0,l.bA.gY,l.bA.dK⟩) <;> cases l.bA.cG.any (lE y) <;> cases l.bA.Used.any (lE y) <;> rfl
 ·simp [qG]
theorem QE (l:bB) (x:aW) (hx:x.aD.length≤12) (h1:l.bA.cG.length≤4) (h2:l.bA.Used.length≤48):aH (fR l x) 0=some (if x.aD.any (Rs l.bA) then .inl () else .inr ()):=by
 refine eC x.aD (fR l x) (fun k=>(k:Int)) _ _ _ rfl (fun k y hy=>?_) ?_
 ·have hk:=(List.getElem?_eq_some_iff.1 hy).1
  unfold fR Rs
  have hd:decide ((k:Int)<(x.aD.length:Int))=true:=by simp;omega
  simp only [hd,if_true,aQ hy,Option.bind_some,Ti,Ke y _ (show l.bA.cG.length≤1000 by omega),Ke y _ (show l.bA.Used.length≤1000 by omega)]
  rw [aP (a:=(k:Int)) (by omega) (by omega)]
  cases decide (Ak y ⟨0,0,l.bA.gY,l.bA.dK⟩) <;> cases l.bA.cG.any (lE y) <;> cases l.bA.Used.any (lE y) <;> rfl
 ·simp [fR]
theorem OI (l:bB) (hp:l.aB.length≤8) (hx:∀ x ∈ l.aB,x.aD.length≤12) (h1:l.bA.cG.length≤4) (h2:l.bA.Used.length≤48):aH (qJ l) 0=some (if l.aB.any (fun x=>x.aD.any (Rs l.bA)) then .inl () else .inr ()):=by
 refine eC l.aB (qJ l) (fun k=>(k:Int)) _ _ _ rfl (fun k y hy=>?_) ?_
 ·have hk:=(List.getElem?_eq_some_iff.1 hy).1
  unfold qJ
  have hd:decide ((k:Int)<(l.aB.length:Int))=true:=by simp;omega
  simp only [hd,if_true,aQ hy,Option.bind_some,QZ l y (hx y (List.mem_of_getElem? hy)) h1 h2]
  rw [aP (a:=(k:Int)) (by omega) (by omega)]
  cases y.aD.any (Rs l.bA) <;> rfl
 ·simp [qJ]
theorem QF (l:bB) (hp:l.aB.length≤8) (hx:∀ x ∈ l.aB,x.aD.length≤12) (h1:l.bA.cG.length≤4) (h2:l.bA.Used.length≤48):aH (fS l) 0=some (if l.aB.any (fun x=>x.aD.any (Rs l.bA)) then .inl () else .inr ()):=by
 refine eC l.aB (fS l) (fun k=>(k:Int)) _ _ _ rfl (fun k y hy=>?_) ?_
 ·have hk:=(List.getElem?_eq_some_iff.1 hy).1
  unfold fS
  have hd:decide ((k:Int)<(l.aB.length:Int))=true:=by simp;omega
  simp only [hd,if_true,aQ hy,Option.bind_some,QE l y (hx y (List.mem_of_getElem? hy)) h1 h2]
  rw [aP (a:=(k:Int)) (by omega) (by omega)]
  cases y.aD.any (Rs l.bA) <;> rfl
 ·simp [fS]
def Sv (x y:aW):Bool:=x.aD.any fun r=>y.aD.any (lE r)
def Xr (l:List aW) (k:Nat):Bool:=match l[k]? with
 | some x=>(l.take k).any (Sv x)
 | none=>false
theorem RA (x y:aW) (hx:x.aD.length≤12) (hy:y.aD.length≤12):aH (qK x y) 0=some (if Sv x y then .inl () else .inr ()):=by
 refine eC x.aD (qK x y) (fun k=>(k:Int)) _ _ _ rfl (fun k r hr=>?_) ?_
 ·have hk:=(List.getElem?_eq_some_iff.1 hr).1
  unfold qK
  have hd:decide ((k:Int)<(x.aD.length:Int))=true:=by simp;omega
  simp only [hd,if_true,aQ hr,Option.bind_some,Rl r (show y.aD.length≤1000 by omega)]
  rw [aP (a:=(k:Int)) (by omega) (by omega)]
  rfl
 ·simp [qK]
theorem OJ (l:bB) (hp:l.aB.length≤8) (hx:∀ x ∈ l.aB,x.aD.length≤12):aH (qQ l) 0=some (if (List.range l.aB.length).any (Xr l.aB) then .inl () else .inr ()):=by
 refine rA l.aB.length (qQ l) (fun k=>(k:Int)) _ _ _ rfl (fun k hk=>?_) ?_
 ·have he:l.aB[k]?=some l.aB[k]:=by simp
  have hin:aH (qO l.aB[k] (l.aB.take k)) 0=some (if (l.aB.take k).any (Sv l.aB[k]) then .inl () else .inr ()):=by
   refine eC (l.aB.take k) (qO l.aB[k] (l.aB.take k)) (fun k=>(k:Int)) _ _ _ rfl (fun j y hy=>?_) ?_
   ·have hj:=(List.getElem?_eq_some_iff.1 hy).1
    have hjl:(l.aB.take k).length≤8:=by rw [List.length_take];omega
    unfold qO
    have hd:decide ((j:Int)<((l.aB.take k).length:Int))=true:=by rw [decide_eq_true_eq];omega
    simp only [hd,if_true,aQ hy,Option.bind_some,RA _ y (hx _ (List.getElem_mem hk)) (hx y (List.mem_of_mem_take (List.mem_of_getElem? hy)))]
    rw [aP (a:=(j:Int)) (by omega) (by omega)]
    cases Sv l.aB[k] y <;> rfl
   ·simp [qO]
  unfold qQ Xr
  have hd:decide ((k:Int)<(l.aB.length:Int))=true:=by simp;omega
  simp only [hd,if_true,aQ he,he,Option.bind_some,FW (Nat.le_of_lt hk),hin]
  rw [aP (a:=(k:Int)) (by omega) (by omega)]
  cases (l.aB.take k).any (Sv l.aB[k]) <;> rfl
 ·simp [qQ]
theorem QG (l:bB) (hp:l.aB.length≤8) (hx:∀ x ∈ l.aB,x.aD.length≤12):aH (fV l) 0=some (if (List.range l.aB.length).any (Xr l.aB) then .inl () else .inr ()):=by
 refine rA l.aB.length (fV l) (fun k=>(k:Int)) _ _ _ rfl (fun k hk=>?_) ?_
 ·have he : l.aB[k]?=some l.aB[k]:=by simp
  have hlt:(l.aB.take k).length=k:=by rw [List.length_take];omega
  have hin:aH (fU l (k:Int)) 0=some (if (l.aB.take k).any (Sv l.aB[k]) then .inl () else .inr ()):=by
   refine eC (l.aB.take k) (fU l (k:Int)) (fun k=>(k:Int)) _ _ _ rfl (fun j y hy=>?_) ?_
   ·have hj:=(List.getElem?_eq_some_iff.1 hy).1
    rw [hlt] at hj
    have hy':l.aB[j]?=some y:=by rw [List.getElem?_take] at hy;simpa [hj] using hy
    have h4:aH (fT l (k:Int) (j:Int)) 0=some (if Sv l.aB[k] y then .inl () else .inr ()):=by
     refine eC l.aB[k].aD (fT l (k:Int) (j:Int)) (fun k=>(k:Int)) _ _ _ rfl (fun i r hr=>?_) ?_
     ·have hi:=(List.getElem?_eq_some_iff.1 hr).1
      have hkl:=hx _ (List.getElem_mem hk)
      have hyl:=hx y (List.mem_of_getElem? hy')
      unfold fT
      have hd:decide ((i:Int)<(l.aB[k].aD.length:Int))=true:=by rw [decide_eq_true_eq];omega
      simp only [hd,if_true,aQ he,aQ hy',aQ hr,Option.bind_some,Ke r _ (show y.aD.length≤1000 by omega)]
      rw [aP (a:=(i:Int)) (by omega) (by omega)]
      rfl
     ·simp [fT,aQ he]
    unfold fU
    have hd:decide ((j:Int)<(k:Int))=true:=by simp;omega
    simp only [hd,if_true,h4,Option.bind_some]
    rw [aP (a:=(j:Int)) (by omega) (by omega)]
    cases Sv l.aB[k] y <;> rfl
   ·rw [hlt];simp [fU]
  unfold fV Xr
  have hd:decide ((k:Int)<(l.aB.length:Int))=true:=by simp;omega
  simp only [hd,if_true,he,Option.bind_some,hin]
  rw [aP (a:=(k:Int)) (by omega) (by omega)]
  cases (l.aB.take k).any (Sv l.aB[k]) <;> rfl
 ·simp [fV]
theorem CE (l:bB) (hp:l.aB.length≤8) (hs:∀ x ∈ l.aB,Sm x):(∃ c,aH (bZ l) 0=some (.inl c)∧aH (bV l) 0=some (.inl c))∨(aH (bZ l) 0=some (.inr ())∧aH (bV l) 0=some (.inr ())∧∀ x ∈ l.aB,x.aD.length≤12):=by
 have key:∀ (m k:Nat),k+m=l.aB.length→(∀ x ∈ l.aB.take k,x.aD.length≤12)→(∃ c,aH (bZ l) (k:Int)=some (.inl c)∧aH (bV l) (k:Int)=some (.inl c))∨(aH (bZ l) (k:Int)=some (.inr ())∧aH (bV l) (k:Int)=some (.inr ())∧∀ x ∈ l.aB,x.aD.length≤12):=by
  intro m
  induction m with
  | zero =>
    intro k h hb;obtain rfl:k=l.aB.length:=by omega
    rw [List.take_length] at hb
    exact .inr ⟨fQ (by simp [bZ]),fQ (by simp [bV]),hb⟩
  | succ m ih =>
    intro k h hb
    have hx:l.aB[k]?=some (l.aB[k]'(by omega)):=by simp [show k<l.aB.length by omega]
    have hd:decide ((k:Int)<(l.aB.length:Int))=true:=by simp;omega
    obtain ⟨e,e1,e2,e3⟩:=Jt (hs _ (List.getElem_mem (show k<l.aB.length by omega)))
    have i1:aJ (k:Int) 1=((k+1:Nat):Int):=by rw [aP (by omega) (by omega)];rfl
    have b2:bV l (k:Int)=if e=0 then some (.inl ((k+1:Nat):Int)) else some (.inr (.inl e)):=by
     unfold bV
     simp only [hd,if_true,aQ hx,Option.bind_some,i1]
     exact e3 _
    by_cases he:e=0
    ·subst he
     rw [if_pos rfl] at b2
     rw [jS (s':=((k+1:Nat):Int)),jS b2]
     ·refine ih (k+1) (by omega) fun x hxm=>?_
      rw [List.take_add_one,hx] at hxm
      rcases List.mem_append.1 hxm with h | h
      ·exact hb x h
      ·simp at h;rw [h];exact e2 rfl
     ·unfold bZ
      simp only [hd,if_true,aQ hx,Option.bind_some,e1,bne_self_eq_false,Bool.false_eq_true,if_false,i1]
    ·rw [if_neg he] at b2
     refine .inl ⟨e,fQ ?_,fQ b2⟩
     have he':(e != 0)=true:=by rw [bne_iff_ne];exact he
     unfold bZ
     simp only [hd,if_true,aQ hx,Option.bind_some,e1,he']
 exact key l.aB.length 0 (by omega) (by simp)
theorem Wm (l:bB) (hs:∀ x ∈ l.aB,Sm x):∃ b,pU l=some b∧iI l=some b:=by
 obtain ⟨b,b1,b2⟩:=Qa l.bA
 unfold pU iI
 rw [b1,b2]
 simp only [Option.bind_some]
 by_cases hb:b=0
 ·subst hb
  have sl:=Pz b1
  simp only [bne_self_eq_false,Bool.false_eq_true,if_false]
  by_cases h8:(l.aB.length:Int)>8
  ·exact ⟨4,by simp [h8],by simp [h8]⟩
  have hp:l.aB.length≤8:=by omega
  simp only [h8,decide_false,Bool.false_eq_true,if_false]
  rcases CE l hp hs with ⟨c,c1,c2⟩ | ⟨c1,c2,c3⟩
  ·exact ⟨c,by rw [c1];rfl,by rw [c2];rfl⟩
  ·simp only [c1,c2,Option.bind_some,OI l hp c3 sl.1 sl.2,QF l hp c3 sl.1 sl.2,OJ l hp c3,QG l hp c3]
   cases l.aB.any (fun x=>x.aD.any (Rs l.bA)) with
   | true=>exact ⟨13,rfl,rfl⟩
   | false =>
   cases (List.range l.aB.length).any (Xr l.aB) with
   | true=>exact ⟨7,rfl,rfl⟩
   | false=>exact ⟨0,rfl,rfl⟩
 ·have hb':(b != 0)=true:=by rw [bne_iff_ne];exact hb
  exact ⟨b,by simp [hb'],by simp [hb']⟩
structure LV (l:bB):Prop where
 n:l.aB.length≤8
 sh:iR l.bA=some 0
 r12:∀ x ∈ l.aB,x.aD.length≤12
 pe:∀ x ∈ l.aB,mH x=some 0
 off:∀ x ∈ l.aB,∀ r ∈ x.aD,Ak r ⟨0,0,l.bA.gY,l.bA.dK⟩∧l.bA.cG.any (lE r)=false∧l.bA.Used.any (lE r)=false
 hit:∀ k,k<l.aB.length→Xr l.aB k=false
theorem PO (l:bB) (hp:l.aB.length≤8) (hs:∀ x ∈ l.aB,Sm x) (h:aH (bZ l) 0=some (.inr ())):∀ x ∈ l.aB,mH x=some 0:=by
 have key:∀ (m k:Nat),k+m=l.aB.length→aH (bZ l) (k:Int)=some (.inr ())→∀ x ∈ l.aB.drop k,mH x=some 0:=by
  intro m
  induction m with
  | zero =>
    intro k h hb;obtain rfl:k=l.aB.length:=by omega
    intro x hx;simp at hx
  | succ m ih =>
    intro k h hb
    have hx:l.aB[k]?=some (l.aB[k]'(by omega)):=by simp [show k<l.aB.length by omega]
    have hd:decide ((k:Int)<(l.aB.length:Int))=true:=by simp;omega
    obtain ⟨e,e1,_⟩:=Jt (hs _ (List.getElem_mem (show k<l.aB.length by omega)))
    have i1:aJ (k:Int) 1=((k+1:Nat):Int):=by rw [aP (by omega) (by omega)];rfl
    by_cases he:e=0
    ·subst he
     rw [jS (s':=((k+1:Nat):Int))] at hb
     ·intro x hxm
      rw [List.drop_eq_getElem_cons (show k<l.aB.length by omega)] at hxm
      rcases List.mem_cons.1 hxm with rfl | hxm
      ·exact e1
      ·exact ih (k+1) (by omega) hb x hxm
     ·unfold bZ
      simp only [hd,if_true,aQ hx,Option.bind_some,e1,bne_self_eq_false,Bool.false_eq_true,if_false,i1]
    ·have he':(e != 0)=true:=by rw [bne_iff_ne];exact he
     rw [fQ (r:=.inl e)] at hb
     ·cases hb
     ·unfold bZ
      simp only [hd,if_true,aQ hx,Option.bind_some,e1,he']
 exact key l.aB.length 0 (by omega) h
theorem Uq (l:bB) (hs:∀ x ∈ l.aB,Sm x):∃ b,pU l=some b∧iI l=some b∧(b=0→LV l):=by
 obtain ⟨b,b1,b2⟩:=Wm l hs
 refine ⟨b,b1,b2,fun hb0=>?_⟩
 subst hb0
 obtain ⟨c,c1,_⟩:=Qa l.bA
 unfold pU at b1
 rw [c1] at b1
 simp only [Option.bind_some] at b1
 by_cases hc:c=0
 ·subst hc
  have sl:=Pz c1
  simp only [bne_self_eq_false,Bool.false_eq_true,if_false] at b1
  by_cases h8:(l.aB.length:Int)>8
  ·simp [h8] at b1
  have hp:l.aB.length≤8:=by omega
  simp only [h8,decide_false,Bool.false_eq_true,if_false] at b1
  rcases CE l hp hs with ⟨d,d1,_⟩ | ⟨d1,_,d3⟩
  ·exfalso
   rw [d1] at b1
   simp only [Option.bind_some] at b1
   -- the error of a piece is not 0
   have hne:∀ (m k:Nat),k+m=l.aB.length→aH (bZ l) (k:Int)=some (.inl d)→d≠0:=by
    intro m
    induction m with
    | zero =>
      intro k h hb;obtain rfl:k=l.aB.length:=by omega
      rw [fQ (r:=.inr ()) (by simp [bZ])] at hb
      cases hb
    | succ m ih =>
      intro k h hb
      have hx:l.aB[k]?=some (l.aB[k]'(by omega)):=by simp [show k<l.aB.length by omega]
      have hd:decide ((k:Int)<(l.aB.length:Int))=true:=by simp;omega
      obtain ⟨e,e1,_⟩:=Jt (hs _ (List.getElem_mem (show k<l.aB.length by omega)))
      have i1:aJ (k:Int) 1=((k+1:Nat):Int):=by rw [aP (by omega) (by omega)];rfl
      by_cases he:e=0
      ·subst he
       rw [jS (s':=((k+1:Nat):Int))] at hb
       ·exact ih (k+1) (by omega) hb
       ·unfold bZ
        simp only [hd,if_true,aQ hx,Option.bind_some,e1,bne_self_eq_false,Bool.false_eq_true,if_false,i1]
      ·have he':(e != 0)=true:=by rw [bne_iff_ne];exact he
       rw [fQ (r:=.inl e)] at hb
       ·injection hb with hb;injection hb with hb;rw [← hb];exact he
       ·unfold bZ
        simp only [hd,if_true,aQ hx,Option.bind_some,e1,he']
   exact hne l.aB.length 0 (by omega) d1 (Option.some.inj b1)
  ·simp only [d1,Option.bind_some,OI l hp d3 sl.1 sl.2,OJ l hp d3] at b1
   cases h3:l.aB.any (fun x=>x.aD.any (Rs l.bA)) with
   | true=>rw [h3] at b1;exact absurd (Option.some.inj b1) (by decide)
   | false =>
   cases h6:(List.range l.aB.length).any (Xr l.aB) with
   | true=>rw [h3,h6] at b1;exact absurd (Option.some.inj b1) (by decide)
   | false =>
     refine ⟨hp,c1,d3,PO l hp hs d1,fun x hx r hr=>?_,fun k hk=>?_⟩
     ·have q1:=List.any_eq_false.1 h3 x hx
      rw [Bool.not_eq_true,List.any_eq_false] at q1
      have q2:=q1 r hr
      unfold Rs at q2
      simp only [Bool.or_eq_true,not_or,Bool.not_eq_true',Bool.not_eq_false,Bool.not_eq_true,decide_eq_true_eq] at q2
      exact q2
     ·have:=List.any_eq_false.1 h6 k (List.mem_range.2 hk)
      simpa using this
 ·have hb':(c != 0)=true:=by rw [bne_iff_ne];exact hc
  simp only [hb',if_true] at b1
  exact absurd (Option.some.inj b1) hc
end Go.SM
namespace Go.SM
open Go Go.VI Go.Cells
def bQ (l:bB):List (List aM):=l.aB.map fun x=>x.aD
def Oo (R:List (List aM)) (xs ys:List Int):List aZ:=
 ys.flatMap (fun y=>(cD (hS R y)).map fun p=>mkE ⟨p.1,y,p.2,y⟩ (bW R p.1 y) (bW R p.1 (y-1)))++xs.flatMap fun x=>(cD (vS R x)).map fun p=>mkE ⟨x,p.1,x,p.2⟩ (bW R x p.1) (bW R (x-1) p.1)
section
variable {l:bB} (n8:l.aB.length≤8) (r12:∀ x ∈ l.aB,x.aD.length≤12) (hv:∀ x ∈ l.aB,Ep x.aD)
include n8 r12 hv
theorem PL:Ep (bQ l).flatten:=fun r hr=>by
 obtain ⟨t,ht,hr⟩:=List.mem_flatten.1 hr
 obtain ⟨x,hx,rfl⟩:=List.mem_map.1 ht
 exact hv x hx r hr
omit hv in
theorem Zt:(bQ l).flatten.length≤96:=by
 have:∀ p:List aW,(∀ x ∈ p,x.aD.length≤12)→(p.map fun x=>x.aD).flatten.length≤12*p.length:=by
  intro p
  induction p with
  | nil=>intro _;simp
  | cons x p ih =>
    intro h
    have h1:=ih fun y hy=>h y (List.mem_cons_of_mem _ hy)
    have h2:=h x List.mem_cons_self
    simp only [List.map_cons,List.flatten_cons,List.length_append,List.length_cons]
    omega
 have:=this l.aB r12
 unfold bQ;omega
omit r12 hv in
theorem QB:(bQ l).length≤900:=by unfold bQ;rw [List.length_map];omega
omit n8 hv in
theorem QA:∀ t ∈ bQ l,t.length≤1000:=fun t ht=>by
 obtain ⟨x,hx,rfl⟩:=List.mem_map.1 ht
 have:=r12 x hx;omega
theorem PS {xs ys:List Int} (gx:jB xs (xsL (bQ l).flatten)) (gy:jB ys (ysL (bQ l).flatten)):Lay (bQ l) xs ys:=
 ⟨gx,gy,PL n8 r12 hv,by have:=Zt n8 r12;omega,QB n8⟩
theorem BO (x y:Int):Aa l x y=some (bW (bQ l) x y):=by
 unfold Aa
 have h2:=Ud l.aB (Hq l x y) (fun p=>cov p.aD x y) (fun k=>.inl (some (k:Int))) (.inr ()) (fun k p hp=>?s) ?f
 ·rw [h2]
  unfold bW Gj pW bQ
  rw [List.findIdx?_map]
  show _=some ((l.aB.findIdx? fun p=>cov p.aD x y).map fun i=>(i:Int))
  cases l.aB.findIdx? (fun p=>cov p.aD x y) <;> rfl
 case s =>
  have h1:=aV hp
  have hpm:=List.mem_of_getElem? hp
  have hl:=r12 p hpm
  have h3:aH (De x y p) 0=some (if p.aD.any (fun r=>inC r x y) then .inl () else .inr ()):=by
   refine Yb p.aD (De x y p) (fun r=>inC r x y) (.inr ()) (.inl ()) (fun k r hr=>?_) ?_
   ·have h1:=aV hr
    obtain ⟨e1,e2⟩:=Nk (hv p hpm r (List.mem_of_getElem? hr))
    unfold De
    simp only [h1,Int.ofNat_lt,decide_true,if_true,aQ hr,Option.bind_some,e1,e2]
    have hb':(if decide (r.X≤x) then (if decide (x<r.X+r.W) then (if decide (r.Y≤y) then some (decide (y<r.Y+r.H)) else some false) else some false) else some false)=some (inC r x y):=by
     unfold inC
     cases decide (r.X≤x) <;> cases decide (x<r.X+r.W) <;> cases decide (r.Y≤y) <;> simp
    rw [hb',Option.bind_some,bH k (by omega)]
   ·simp [De]
  unfold Hq
  simp only [h1,Int.ofNat_lt,decide_true,if_true,aQ hp,Option.bind_some,h3,bH k (by omega)]
  show _=if (p.aD.any fun r=>inC r x y)=true then _ else _
  cases p.aD.any (fun r=>inC r x y) <;> rfl
 case f=>simp [Hq]
theorem Xc:aH (vC l) (0,[],[])=some (xsL (bQ l).flatten,ysL (bQ l).flatten):=by
 have hfl:∀ k,k≤l.aB.length→(xsL ((l.aB.take k).map fun x=>x.aD).flatten).length≤200∧(ysL ((l.aB.take k).map fun x=>x.aD).flatten).length≤200:=fun k hk=>by
  have:=Zt (l:=⟨l.bA,l.aB.take k⟩) (by simp only [List.length_take];omega) (fun x hx=>r12 x (List.mem_of_mem_take hx))
  unfold bQ at this
  simp only at this
  rw [Cg,Ch];omega
 obtain ⟨r,q1,q2⟩:=gG l.aB (fun k (s:List Int×List Int)=>((k:Int),s.1,s.2)) (vC l) (fun s=>(s.1,s.2)) (fun k s=>s=(xsL ((l.aB.take k).map fun x=>x.aD).flatten,ysL ((l.aB.take k).map fun x=>x.aD).flatten)) ([],[]) (by simp [xsL,ysL])
  (fun k p s hp hI=>by
   have h1:=aV hp
   have hd:decide ((k:Int)<(l.aB.length:Int))=true:=by simp [h1]
   have hpm:=List.mem_of_getElem? hp
   have hl:=r12 p hpm
   have hf:=hfl k (by omega)
   subst hI
   obtain ⟨r,t1,t2⟩:=gG p.aD (fun k (s:List Int×List Int)=>((k:Int),s.1,s.2)) (yI p) (fun s=>(s.1,s.2)) (fun j s=>s=(xsL ((l.aB.take k).map fun x=>x.aD).flatten++xsL (p.aD.take j),ysL ((l.aB.take k).map fun x=>x.aD).flatten++ysL (p.aD.take j))) (xsL ((l.aB.take k).map fun x=>x.aD).flatten,ysL ((l.aB.take k).map fun x=>x.aD).flatten) (by simp [xsL,ysL])
    (fun j r s hr hI=>by
     have h2:=aV hr
     have hd:decide ((j:Int)<(p.aD.length:Int))=true:=by simp [h2]
     obtain ⟨e1,e2⟩:=Nk (hv p hpm r (List.mem_of_getElem? hr))
     subst hI
     unfold yI
     simp only [hd,if_true,aQ hr,Option.bind_some,e1,e2]
     have l1:(xsL (p.aD.take j)).length≤200:=by rw [Cg,List.length_take];omega
     have l2:(ysL (p.aD.take j)).length≤200:=by rw [Ch,List.length_take];omega
     rw [jE (by simp only [List.length_append,List.length_cons,List.length_nil,LIM];omega),jE (by simp only [List.length_append,List.length_cons,List.length_nil,LIM];omega)]
     simp only [Option.bind_some,bH j (by omega)]
     refine ⟨(xsL ((l.aB.take k).map fun x=>x.aD).flatten++xsL (p.aD.take (j+1)),ysL ((l.aB.take k).map fun x=>x.aD).flatten++ysL (p.aD.take (j+1))), ?_,rfl⟩
     rw [eD hr,Fz,Ga]
     simp [xsL,ysL]) (fun s _=>by simp [yI])
   rw [List.take_length] at t2
   unfold vC
   simp only [hd,if_true,aQ hp,Option.bind_some,bH k (by omega)]
   rw [show ((0:Int),xsL ((l.aB.take k).map fun x=>x.aD).flatten,ysL ((l.aB.take k).map fun x=>x.aD).flatten)=(((0:Nat):Int),xsL ((l.aB.take k).map fun x=>x.aD).flatten,ysL ((l.aB.take k).map fun x=>x.aD).flatten) from rfl,t1,t2]
   refine ⟨(xsL ((l.aB.take (k+1)).map fun x=>x.aD).flatten,ysL ((l.aB.take (k+1)).map fun x=>x.aD).flatten), ?_,rfl⟩
   rw [eD hp,List.map_append,List.flatten_append,Fz,Ga]
   simp) (fun s _=>by simp [vC])
 rw [List.take_length] at q2
 rw [show ((0:Int),([]:List Int),([]:List Int))=(((0:Nat):Int),(([],[]):List Int×List Int).1,(([],[]):List Int×List Int).2) from rfl,q1,q2]
 rfl
theorem HL:∃ xs ys,Lay (bQ l) xs ys∧Dh l=some (Oo (bQ l) xs ys)∧(Oo (bQ l) xs ys).length≤200000:=by
 have hn:=Zt n8 r12
 obtain ⟨xs,x1,x2,x3⟩:=KT (l:=xsL (bQ l).flatten) (by rw [Cg];omega)
 obtain ⟨ys,y1,y2,y3⟩:=KT (l:=ysL (bQ l).flatten) (by rw [Ch];omega)
 have hL:=PS n8 r12 hv ⟨x2,x3⟩ ⟨y2,y3⟩
 have lx:xs.length≤200:=by have:=nD x2 fun x m=>(x3 x).1 m;rw [Cg] at this;omega
 have ly:ys.length≤200:=by have:=nD y2 fun x m=>(y3 x).1 m;rw [Ch] at this;omega
 have rowH:∀ y,(-1048576≤y∧y≤1048576)→∃ L,eS xs l.bA.Name l.bA.cA l.bA.iS l.bA.iT l.bA.gY l.bA.dK l.bA.cG l.bA.Used l.aB y y=some ((cD (hS (bQ l) y)).map fun p=>mkE ⟨p.1,y,p.2,y⟩ (bW (bQ l) p.1 y) (bW (bQ l) p.1 (y-1)))∧L=cD (hS (bQ l) y)∧L.length≤xs.length:=fun y hy=>by
  have hA:=DH hL y
  obtain ⟨L,g1,g2,g3⟩:=NZ hA (side:=fun i=>Bm i l.bA.Name l.bA.cA l.bA.iS l.bA.iT l.bA.gY l.bA.dK l.bA.cG l.bA.Used l.aB y) (fun i x hx _=>by
   show (Aa l x y).bind (fun r5=>(Aa l x (aK y 1)).bind fun r6=>some (r5,r6))=_
   rw [bC (by omega) (by omega),BO n8 r12 hv,BO n8 r12 hv];rfl) (line:=fun a b=>Bn a b y) (ln:=fun a b=>⟨a,y,b,y⟩) (fun a b=>rfl)
  have e:cD (hS (bQ l) y)=L:=pQ g2
  exact ⟨L,by rw [DM,g1,e],e.symm,g3⟩
 have rowV:∀ x,(-1048576≤x∧x≤1048576)→∃ L,eT ys l.bA.Name l.bA.cA l.bA.iS l.bA.iT l.bA.gY l.bA.dK l.bA.cG l.bA.Used l.aB x x=some ((cD (vS (bQ l) x)).map fun p=>mkE ⟨x,p.1,x,p.2⟩ (bW (bQ l) x p.1) (bW (bQ l) (x-1) p.1))∧L=cD (vS (bQ l) x)∧L.length≤ys.length:=fun x hx=>by
  have hA:=DI hL x
  obtain ⟨L,g1,g2,g3⟩:=NZ hA (side:=fun i=>Bo i l.bA.Name l.bA.cA l.bA.iS l.bA.iT l.bA.gY l.bA.dK l.bA.cG l.bA.Used l.aB x) (fun i y hy _=>by
   show (Aa l x y).bind (fun r5=>(Aa l (aK x 1) y).bind fun r6=>some (r5,r6))=_
   rw [bC (by omega) (by omega),BO n8 r12 hv,BO n8 r12 hv];rfl) (line:=fun a b=>Bp a b x) (ln:=fun a b=>⟨x,a,x,b⟩) (fun a b=>rfl)
  have e:cD (vS (bQ l) x)=L:=pQ g2
  exact ⟨L,by rw [DN,g1,e],e.symm,g3⟩
 obtain ⟨r,q1,q2,q3⟩:=gG ys (fun k (s:List aZ)=>((k:Int),s)) (yJ l xs ys) (fun s=>s) (fun k s=>s=(ys.take k).flatMap (fun y=>(cD (hS (bQ l) y)).map fun p=>mkE ⟨p.1,y,p.2,y⟩ (bW (bQ l) p.1 y) (bW (bQ l) p.1 (y-1)))∧s.length≤200*k) [] ⟨rfl,by simp⟩
  (fun k y s hy hI=>by
   have hk:=aV hy
   have hd:decide ((k:Int)<(ys.length:Int))=true:=by simp [hk]
   obtain ⟨L,g1,g2,g3⟩:=rowH y (hL.Y.within y (List.mem_of_getElem? hy))
   have hrl:((cD (hS (bQ l) y)).map fun p=>mkE ⟨p.1,y,p.2,y⟩ (bW (bQ l) p.1 y) (bW (bQ l) p.1 (y-1))).length≤200:=by rw [List.length_map,← g2];omega
   have hsl:=hI.2
   unfold yJ
   simp only [hd,if_true,aQ hy,Option.bind_some,g1,bH k (by omega)]
   rw [jE (by unfold LIM;omega)]
   refine ⟨_,rfl, ?_,by rw [List.length_append];omega⟩
   rw [eD hy,List.flatMap_append,hI.1]
   simp) (fun s _=>by simp [yJ])
 rw [List.take_length] at q2
 obtain ⟨r',t1,t2,t3⟩:=gG xs (fun k (s:List aZ)=>((k:Int),s)) (yL l xs ys) (fun s=>s) (fun k s=>s=r++(xs.take k).flatMap (fun x=>(cD (vS (bQ l) x)).map fun p=>mkE ⟨x,p.1,x,p.2⟩ (bW (bQ l) x p.1) (bW (bQ l) (x-1) p.1))∧s.length≤40000+200*k) r ⟨by simp,by omega⟩
  (fun k x s hx hI=>by
   have hk:=aV hx
   have hd:decide ((k:Int)<(xs.length:Int))=true:=by simp [hk]
   obtain ⟨L,g1,g2,g3⟩:=rowV x (hL.X.within x (List.mem_of_getElem? hx))
   have hrl:((cD (vS (bQ l) x)).map fun p=>mkE ⟨x,p.1,x,p.2⟩ (bW (bQ l) x p.1) (bW (bQ l) (x-1) p.1)).length≤200:=by rw [List.length_map,← g2];omega
   have hsl:=hI.2
   unfold yL
   simp only [hd,if_true,aQ hx,Option.bind_some,g1,bH k (by omega)]
   rw [jE (by unfold LIM;omega)]
   refine ⟨_,rfl, ?_,by rw [List.length_append];omega⟩
   rw [eD hx,List.flatMap_append,hI.1]
   simp) (fun s _=>by simp [yL])
 rw [List.take_length] at t2
 have e:r'=Oo (bQ l) xs ys:=by rw [t2,q2];rfl
 refine ⟨xs,ys,hL, ?_,by rw [← e];omega⟩
 unfold Dh
 rw [Xc n8 r12 hv]
 simp only [Option.bind_some,x1,y1]
 rw [show ((0:Int),([]:List aZ))=(((0:Nat):Int),[]) from rfl,q1]
 simp only [Option.bind_some]
 rw [show ((0:Int),r)=(((0:Nat):Int),r) from rfl,t1,e]
 rfl
end
end Go.SM
namespace Go.SM
open Go Go.VI
end Go.SM
namespace Go.SM
open Go Go.VI Go.Cells
def Dz (R:List (List aM)) (xs ys:List Int):List Ln:=
 ys.flatMap (fun y=>(cD (hS R y)).map fun p=>⟨⟨p.1,y,p.2,y⟩,nm (bW R p.1 (y-1)),nm (bW R p.1 y)⟩)++xs.flatMap fun x=>(cD (vS R x)).map fun p=>⟨⟨x,p.1,x,p.2⟩,nm (bW R (x-1) p.1),nm (bW R x p.1)⟩
section
variable {R:List (List aM)} {xs ys:List Int} (h:Lay R xs ys) (hk:∀ t ∈ R,t.length≤1000) (lx:xs.length≤1000) (ly:ys.length≤1000)
include h
theorem GY {i j:Nat} {x y:Int} (hx:xs[i]?=some x) (hi:i+1<xs.length) (hy:ys[j]?=some y):zY R xs ys (i+1) (j+1)=nm (bW R x y)∧zY R xs ys (i+1) j=nm (bW R x (y-1)):=by
 obtain ⟨_,_,_,o1,o2,_⟩:=Lk h
 have hjl:=aV hy
 have neg:∀ {x y:Int},pW R x y=none→nm (bW R x y)=-1:=fun {x y} e=>by rw [rQ e];rfl
 constructor
 ·unfold zY
  by_cases hj:j+1<ys.length
  ·rw [if_pos ⟨by omega,by omega,hi,hj⟩]
   simp only [Nat.add_sub_cancel,Bx hx,Bx hy,Vv]
  ·rw [if_neg (by omega),neg (o2 y (by rw [show ys.length-1=j by omega];exact hy) x y (Int.le_refl y))]
 ·unfold zY
  by_cases hj:0<j
  ·rw [if_pos ⟨by omega,hj,hi,hjl⟩]
   obtain ⟨y0,hy0⟩:∃ y0,ys[j-1]?=some y0:=⟨_,List.getElem?_eq_getElem (by omega)⟩
   obtain ⟨h1,h2⟩:=mO (CF h) hy0 (by rw [show j-1+1=j by omega];exact hy)
   simp only [Nat.add_sub_cancel,Bx hx,Bx hy0]
   rw [← Vv]
   have:=congrFun (h2 (y-1) (by omega) (by omega)) x
   unfold bW
   rw [this]
  ·obtain rfl:j=0:=by omega
   rw [if_neg (by omega),neg (o1 y hy x (y-1) (by omega))]
theorem DV {i j:Nat} {x y:Int} (hx:xs[i]?=some x) (hy:ys[j]?=some y) (hj:j+1<ys.length):zY R xs ys (i+1) (j+1)=nm (bW R x y)∧zY R xs ys i (j+1)=nm (bW R (x-1) y):=by
 obtain ⟨o1,o2,_⟩:=Lk h
 have hil:=aV hx
 have neg:∀ {x y:Int},pW R x y=none→nm (bW R x y)=-1:=fun {x y} e=>by rw [rQ e];rfl
 constructor
 ·unfold zY
  by_cases hi:i+1<xs.length
  ·rw [if_pos ⟨by omega,by omega,hi,hj⟩]
   simp only [Nat.add_sub_cancel,Bx hx,Bx hy,Vv]
  ·rw [if_neg (by omega),neg (o2 x (by rw [show xs.length-1=i by omega];exact hx) x y (Int.le_refl x))]
 ·unfold zY
  by_cases hi:0<i
  ·rw [if_pos ⟨hi,by omega,hil,hj⟩]
   obtain ⟨x0,hx0⟩:∃ x0,xs[i-1]?=some x0:=⟨_,List.getElem?_eq_getElem (by omega)⟩
   obtain ⟨h1,h2⟩:=mO (Vr h) hx0 (by rw [show i-1+1=i by omega];exact hx)
   simp only [Nat.add_sub_cancel,Bx hy,Bx hx0]
   rw [← Vv]
   have:=congrFun (h2 (x-1) (by omega) (by omega)) y
   unfold bW
   rw [this]
  ·obtain rfl:i=0:=by omega
   rw [if_neg (by omega),neg (o1 x hx (x-1) y (by omega))]
include lx ly
theorem NF {j:Nat} {y:Int} (hy:ys[j]?=some y) (s:List Ln) {out0:List Ln} (h0:out0.length≤5000000) (hout:∀ q ∈ out0,q.At.Y2<y) :
  aH (gH (xs,ys) (Db R xs ys) ((j:Int),s)) (0,out0)=some (out0++(cD (hS R y)).map fun p=>⟨⟨p.1,y,p.2,y⟩,nm (bW R p.1 (y-1)),nm (bW R p.1 y)⟩)∧(cD (hS R y)).length≤xs.length:=by
 have hjl:=aV hy
 obtain ⟨L,g1,g2,g3⟩:=KH (DH h y) (ln:=fun a b=>⟨a,y,b,y⟩) (body:=gH (xs,ys) (Db R xs ys) ((j:Int),s)) (fun k x x' out hx hx'=>by
  have hkl:=aV hx'
  obtain ⟨c1,c2⟩:=GY h hx hkl hy
  have d:decide (((k+1:Nat):Int)<(xs.length:Int))=true:=by simp;omega
  have g0:=Ho (R:=R) xs ys (k+1) (by omega)
  have r1:=Dc (R:=R) xs ys (k+1) j (by omega)
  have r2:=Dc (R:=R) xs ys (k+1) (j+1) (by omega)
  unfold gH
  simp only [bH k (by omega),bH j (by omega),d,if_true,aQ hx,aQ hy,aQ hx',aQ g0,aQ r1,aQ r2,Option.bind_some,c1,c2]) (fun k out hk1 hk2=>by
  have d:decide (aJ (k:Int) 1<(xs.length:Int))=false:=by rw [bH k (by omega)];simp;omega
  unfold gH
  simp only [d,Bool.false_eq_true,if_false]) (fun a b e e'=>by unfold cS;simp) (fun a e e'=>rfl) h0 (fun q hq x x' _ hc=>by have:=hout q hq;have:=hc.2.1;simp only at this;omega)
 have e:cD (hS R y)=L:=pQ g2
 rw [e];exact ⟨g1,g3⟩
theorem NG {i:Nat} {x:Int} (hx:xs[i]?=some x) (s:List Ln) {out0:List Ln} (h0:out0.length≤5000000) (hout:∀ q ∈ out0,(q.At.X2<x)∨(q.At.Y1=q.At.Y2∧q.At.X1<q.At.X2)) :
  aH (gJ (xs,ys) (Db R xs ys) ((i:Int),s)) (0,out0)=some (out0++(cD (vS R x)).map fun p=>⟨⟨x,p.1,x,p.2⟩,nm (bW R (x-1) p.1),nm (bW R x p.1)⟩)∧(cD (vS R x)).length≤ys.length:=by
 have hil:=aV hx
 obtain ⟨L,g1,g2,g3⟩:=KH (DI h x) (ln:=fun a b=>⟨x,a,x,b⟩) (body:=gJ (xs,ys) (Db R xs ys) ((i:Int),s)) (fun k y y' out hy hy'=>by
  have hkl:=aV hy'
  obtain ⟨c1,c2⟩:=DV h hx hy hkl
  have d:decide (((k+1:Nat):Int)<(ys.length:Int))=true:=by simp;omega
  have g0:=Ho (R:=R) xs ys i (by omega)
  have g0':=Ho (R:=R) xs ys (i+1) (by omega)
  have r1:=Dc (R:=R) xs ys i (k+1) (by omega)
  have r2:=Dc (R:=R) xs ys (i+1) (k+1) (by omega)
  unfold gJ
  simp only [bH k (by omega),bH i (by omega),d,if_true,aQ hx,aQ hy,aQ hy',aQ g0,aQ g0',aQ r1,aQ r2,Option.bind_some,c1,c2]) (fun k out hk1 hk2=>by
  have d:decide (aJ (k:Int) 1<(ys.length:Int))=false:=by rw [bH k (by omega)];simp;omega
  unfold gJ
  simp only [d,Bool.false_eq_true,if_false]) (fun a b e e'=>by unfold cS;simp) (fun a e e'=>rfl) h0 (fun q hq y y' hyy hc=>by
  obtain ⟨c1,c2,c3⟩:=hc
  simp only at c1 c2 c3
  have:=hout q hq
  omega)
 have e:cD (vS R x)=L:=pQ g2
 rw [e];exact ⟨g1,g3⟩
theorem Sp:∃ r,aH (gI (xs,ys) (Db R xs ys)) (0,[])=some r∧aH (gK (xs,ys) (Db R xs ys)) (0,r)=some (Dz R xs ys)∧(Dz R xs ys).length≤2000000:=by
 have isr:∀ {s:Int→Int} {p:Int×Int},p ∈ cD s→p.1<p.2:=fun {s p} hp=>by
  unfold cD at hp
  split at hp
  ·rename_i hx
   exact (((Classical.choose_spec hx).2 p.1 p.2).1 hp).1
  ·cases hp
 obtain ⟨r,q1,q2,q3,q4⟩:=gG ys (fun k (s:List Ln)=>((k:Int),s)) (gI (xs,ys) (Db R xs ys)) (fun s=>s) (fun k s=>s=(ys.take k).flatMap (fun y=>(cD (hS R y)).map fun p=>⟨⟨p.1,y,p.2,y⟩,nm (bW R p.1 (y-1)),nm (bW R p.1 y)⟩)∧s.length≤1000*k∧∀ q ∈ s,q.At.Y1=q.At.Y2∧q.At.X1<q.At.X2∧q.At.Y2 ∈ ys.take k) [] ⟨rfl,by simp,fun q hq=>by cases hq⟩
  (fun k y s hy hI=>by
   have hk:=aV hy
   have hd:decide ((k:Int)<(ys.length:Int))=true:=by simp [hk]
   obtain ⟨i1,i2,i3⟩:=hI
   obtain ⟨g1,g2⟩:=NF h lx ly hy s (out0:=s) (by omega) (fun q hq=>by
    obtain ⟨_,_,hm⟩:=i3 q hq
    obtain ⟨n,hn⟩:=List.mem_iff_getElem?.1 hm
    have hnl:=aV hn
    rw [List.length_take] at hnl
    rw [List.getElem?_take,if_pos (by omega)] at hn
    exact Bg h.Y.asc (show n<k by omega) hn hy)
   unfold gI
   simp only [hd,if_true,g1,Option.bind_some,bH k (by omega)]
   refine ⟨_,rfl, ?_,by simp;omega,fun q hq=>?_⟩
   ·rw [eD hy,List.flatMap_append,i1]
    simp
   ·rw [eD hy]
    rcases List.mem_append.1 hq with hq | hq
    ·obtain ⟨a,b,c⟩:=i3 q hq
     exact ⟨a,b,List.mem_append_left _ c⟩
    ·obtain ⟨p,hp,rfl⟩:=List.mem_map.1 hq
     exact ⟨rfl,isr hp,List.mem_append_right _ (by simp)⟩) (fun s _=>by simp [gI])
 rw [List.take_length] at q2 q4
 obtain ⟨r',t1,t2,t3,t4⟩:=gG xs (fun k (s:List Ln)=>((k:Int),s)) (gK (xs,ys) (Db R xs ys)) (fun s=>s) (fun k s=>s=r++(xs.take k).flatMap (fun x=>(cD (vS R x)).map fun p=>⟨⟨x,p.1,x,p.2⟩,nm (bW R (x-1) p.1),nm (bW R x p.1)⟩)∧s.length≤1000000+1000*k∧∀ q ∈ s,q.At.X2 ∈ xs.take k∨(q.At.Y1=q.At.Y2∧q.At.X1<q.At.X2)) r ⟨by simp,by omega,fun q hq=>.inr ⟨(q4 q hq).1,(q4 q hq).2.1⟩⟩
  (fun k x s hx hI=>by
   have hk:=aV hx
   have hd:decide ((k:Int)<(xs.length:Int))=true:=by simp [hk]
   obtain ⟨i1,i2,i3⟩:=hI
   obtain ⟨g1,g2⟩:=NG h lx ly hx s (out0:=s) (by omega) (fun q hq=>by
    rcases i3 q hq with hm | hm
    ·left
     obtain ⟨n,hn⟩:=List.mem_iff_getElem?.1 hm
     have hnl:=aV hn
     rw [List.length_take] at hnl
     rw [List.getElem?_take,if_pos (by omega)] at hn
     exact Bg h.X.asc (show n<k by omega) hn hx
    ·exact .inr hm)
   unfold gK
   simp only [hd,if_true,g1,Option.bind_some,bH k (by omega)]
   refine ⟨_,rfl, ?_,by simp;omega,fun q hq=>?_⟩
   ·rw [eD hx,List.flatMap_append,i1]
    simp
   ·rw [eD hx]
    rcases List.mem_append.1 hq with hq | hq
    ·exact (i3 q hq).imp (fun c=>List.mem_append_left _ c) id
    ·obtain ⟨p,hp,rfl⟩:=List.mem_map.1 hq
     exact .inl (List.mem_append_right _ (by simp))) (fun s _=>by simp [gK])
 rw [List.take_length] at t2
 have e:r'=Dz R xs ys:=by rw [t2,q2];rfl
 exact ⟨r,by rw [show ((0:Int),([]:List Ln))=(((0:Nat):Int),[]) from rfl,q1],by rw [show ((0:Int),r)=(((0:Nat):Int),r) from rfl,t1,e],by rw [← e];omega⟩
end
theorem Ze {R:List (List aM)} {xs ys:List Int} (h:Lay R xs ys) (hk:∀ t ∈ R,t.length≤1000):lG R=some (Dz R xs ys)∧(Dz R xs ys).length≤2000000:=by
 have hm:=h.m
 have hn:=h.n
 have hfl:∀ k,(R.take k).flatten.length≤R.flatten.length:=fun k=>by
  conv=>rhs;rw [← List.take_append_drop k R,List.flatten_append,List.length_append]
  omega
 obtain ⟨r,q1,q2⟩:=gG R (fun k (s:List aM)=>((k:Int),s)) (jL R) (fun s=>s) (fun k s=>s=(R.take k).flatten) [] (by simp)
  (fun k t s ht hI=>by
   have h1:=aV ht
   have hd:decide ((k:Int)<(R.length:Int))=true:=by simp [h1]
   have:=hfl k
   have:=hk t (List.mem_of_getElem? ht)
   unfold jL
   simp only [hd,if_true,aQ ht,Option.bind_some,bH k (by omega)]
   subst hI
   rw [jE (by unfold LIM;omega)]
   refine ⟨_,rfl, ?_⟩
   rw [eD ht,List.flatten_append];simp) (fun s _=>by simp [jL])
 rw [List.take_length] at q2
 obtain ⟨xs1,ys1,g1,g2,g3⟩:=LG h.v hn
 obtain rfl:=Nt h.x g2
 obtain rfl:=Nt h.y g3
 obtain ⟨r',b1,b2,b3⟩:=Sp h h.X.len h.Y.len
 refine ⟨?_,b3⟩
 unfold lG
 rw [show ((0:Int),([]:List aM))=(((0:Nat):Int),[]) from rfl,q1,q2]
 simp only [Option.bind_some,g1,EW h.v hm hk h.X.len h.Y.len,b1,b2]
theorem EF (s:aF) {a b:Option Int} (ha:SmO a) (hb:SmO b) (hne:a≠b):(if iL (nm b) (nm a)<0 then (⟨s,imax (nm b) (nm a),iL (nm b) (nm a)⟩:aZ) else ⟨s,iL (nm b) (nm a),imax (nm b) (nm a)⟩)=mkE s a b:=by
 have h1:mkE s a b=if nm a<0∨(nm b ≥ 0∧nm b<nm a) then ⟨s,nm b,nm a⟩ else ⟨s,nm a,nm b⟩:=rfl
 have hne':nm a≠nm b:=fun q=>hne ((Vu ha hb).1 q)
 have bd:∀ {o:Option Int},SmO o→-1≤nm o:=fun {o} ho=>by
  cases o with
  | none=>simp [nm]
  | some i=>have:=ho i rfl;simp only [nm];omega
 have ba:=bd ha
 have bb:=bd hb
 rw [h1,Bz,Ff]
 generalize nm a=p at *
 generalize nm b=q at *
 by_cases c1:p<0
 ·rw [if_pos (by omega),if_pos (.inl c1),show max q p=q by omega,show min q p=p by omega]
 ·by_cases c2:q<0
  ·rw [if_pos (by omega),if_neg (by omega),show max q p=p by omega,show min q p=q by omega]
  ·rw [if_neg (by omega)]
   by_cases c3:q<p
   ·rw [if_pos (.inr ⟨by omega,c3⟩),show max q p=p by omega,show min q p=q by omega]
   ·rw [if_neg (by omega),show max q p=q by omega,show min q p=p by omega]
section
variable {l:bB} (n8:l.aB.length≤8) (r12:∀ x ∈ l.aB,x.aD.length≤12) (hv:∀ x ∈ l.aB,Ep x.aD)
include n8 r12 hv
theorem FJ {xs ys:List Int} (hL:Lay (bQ l) xs ys):mW l=some (Oo (bQ l) xs ys):=by
 obtain ⟨r,q1,q2⟩:=gG l.aB (fun k (s:List (List aM))=>((k:Int),s)) (kQ l) (fun s=>s) (fun k s=>s=(l.aB.take k).map fun x=>x.aD) [] (by simp)
  (fun k x s hx hI=>by
   have h1:=aV hx
   have hd:decide ((k:Int)<(l.aB.length:Int))=true:=by simp [h1]
   unfold kQ
   simp only [hd,if_true,aQ hx,Option.bind_some,bH k (by omega)]
   subst hI
   rw [jE (by simp [LIM];omega)]
   refine ⟨_,rfl, ?_⟩
   rw [eD hx,List.map_append];rfl) (fun s _=>by simp [kQ])
 rw [List.take_length] at q2
 obtain ⟨b1,b2⟩:=Ze hL (QA r12)
 -- from lines to edges
 let f:Ln→aZ:=fun x=>if iL x.Low x.sC<0 then ⟨x.At,imax x.Low x.sC,iL x.Low x.sC⟩ else ⟨x.At,iL x.Low x.sC,imax x.Low x.sC⟩
 have hmap:(Dz (bQ l) xs ys).map f=Oo (bQ l) xs ys:=by
  have key:∀ {s:Int→Int} {A B:Int→Option Int} (ln:Int→Int→aF) (hs:s=fun z=>cod (A z) (B z)) (ha:∀ z,SmO (A z)) (hb:∀ z,SmO (B z)),((cD s).map fun p=>(⟨ln p.1 p.2,nm (B p.1),nm (A p.1)⟩:Ln)).map f=(cD s).map fun p=>mkE (ln p.1 p.2) (A p.1) (B p.1):=fun {s A B} ln hs ha hb=>by
   rw [List.map_map]
   refine List.map_congr_left fun p hp=>?_
   have hr:s p.1≠0:=by
    unfold cD at hp
    split at hp
    ·rename_i hx
     exact (((Classical.choose_spec hx).2 p.1 p.2).1 hp).2.1
    ·cases hp
   have hne:A p.1≠B p.1:=fun q=>hr (by rw [hs];simp only;rw [(Xa (ha _) (hb _)).2 q])
   exact EF _ (ha _) (hb _) hne
  unfold Dz Oo
  rw [List.map_append,List.map_flatMap,List.map_flatMap]
  congr 1
  ·congr 1;funext y
   exact key (fun a b=>⟨a,y,b,y⟩) (A:=fun z=>bW (bQ l) z y) (B:=fun z=>bW (bQ l) z (y-1)) rfl (fun z=>yQ hL.m _ _) (fun z=>yQ hL.m _ _)
  ·congr 1;funext x
   exact key (fun a b=>⟨x,a,x,b⟩) (A:=fun z=>bW (bQ l) x z) (B:=fun z=>bW (bQ l) (x-1) z) rfl (fun z=>yQ hL.m _ _) (fun z=>yQ hL.m _ _)
 obtain ⟨r',t1,t2⟩:=gG (Dz (bQ l) xs ys) (fun k (s:List aZ)=>((k:Int),s)) (kR (Dz (bQ l) xs ys)) (fun s=>s) (fun k s=>s=((Dz (bQ l) xs ys).take k).map f) [] (by simp)
  (fun k x s hx hI=>by
   have h1:=aV hx
   have hd:decide ((k:Int)<((Dz (bQ l) xs ys).length:Int))=true:=by rw [decide_eq_true_eq];omega
   unfold kR
   simp only [hd,if_true,aQ hx,Option.bind_some,oL,bH k (by omega)]
   subst hI
   have hl:(((Dz (bQ l) xs ys).take k).map f).length≤2000000:=by rw [List.length_map,List.length_take];omega
   rw [jE (by simp only [List.length_cons,List.length_nil,LIM];omega),jE (by simp only [List.length_cons,List.length_nil,LIM];omega)]
   simp only [Option.bind_some]
   refine ⟨((Dz (bQ l) xs ys).take k).map f++[f x], ?_,by rw [eD hx,List.map_append];rfl⟩
   show _=some (Sum.inl (((k+1:Nat):Int),_++[if iL x.Low x.sC<0 then _ else _]))
   by_cases hc:iL x.Low x.sC<0
   ·simp only [hc,decide_true,if_true]
   ·simp only [hc,decide_false,Bool.false_eq_true,if_false]) (fun s _=>by simp [kR])
 rw [List.take_length,hmap] at t2
 unfold mW
 rw [show ((0:Int),([]:List (List aM)))=(((0:Nat):Int),[]) from rfl,q1,q2]
 show (lG (bQ l)).bind _=_
 simp only [b1,Option.bind_some]
 rw [show ((0:Int),([]:List aZ))=(((0:Nat):Int),[]) from rfl,t1,t2]
 rfl
end
theorem LV.hv {l:bB} (h:LV l):∀ x ∈ l.aB,Ep x.aD:=fun x hx r hr=>(h.off x hx r hr).1.1
theorem RQ {l:bB} (h:Er l):∀ x ∈ l.aB,Sm x:=fun x hx=>by
 obtain ⟨_,_,_,_,r1,r2,r3⟩:=h.2.2 x hx
 exact ⟨⟨r1.1,fun r hr=>r1.2 r hr⟩,⟨r2.1,fun r hr=>r2.2 r hr⟩,⟨r3.1,fun r hr=>r3.2 r hr⟩⟩
theorem Zg (l:bB) (h:Er l):∃ es b,pU l=some b∧iI l=some b∧zI l=some (es,b)∧vZ l=some (es,b)∧es.length≤200000∧(b≠0→es=[])∧(b=0→LV l∧Dh l=some es∧mW l=some es∧∃ xs ys,Lay (bQ l) xs ys∧es=Oo (bQ l) xs ys):=by
 obtain ⟨b,b1,b2,b3⟩:=Uq l (RQ h)
 unfold zI vZ
 rw [b1,b2]
 simp only [Option.bind_some]
 by_cases hb:b=0
 ·subst hb
  have hl:=b3 rfl
  obtain ⟨xs,ys,h1,h2,h3⟩:=HL hl.n hl.r12 hl.hv
  have h4:=FJ hl.n hl.r12 hl.hv h1
  refine ⟨Oo (bQ l) xs ys,0,rfl,rfl, ?_, ?_,h3,fun q=>absurd rfl q,fun _=>⟨hl,h2,h4,xs,ys,h1,rfl⟩⟩
  ·simp [h2]
  ·simp [h4]
 ·have hb':(b != 0)=true:=by rw [bne_iff_ne];exact hb
  exact ⟨[],b,rfl,rfl,by simp [hb'],by simp [hb'],by simp,fun _=>rfl,fun q=>absurd q hb⟩
abbrev RS:=bF
def toC (s:RS):bP:=⟨s.Cut,s.fX,s.tK,s.bN,s.fE⟩
structure Fit (l:bB) (n:Nat) (s:RS):Prop where
 c:s.Cut.length=n
 h:s.fX.length=l.aB.length
 d:s.tK.length=l.aB.length
 j:s.bN.length=l.aB.length
 f:s.fE.length=l.aB.length
 hh:∀ (k:Nat) t x,s.fX[k]?=some t→l.aB[k]?=some x→t.length=x.fD.length
def ofB (e:aZ) (p:Int):Bool:=(e.A==p) || (e.B==p)
def held (es:List aZ) (c:List Bool) (p:Int) (i:Nat):Bool:=match es[i]?,c[i]? with
 | some e,some b=>ofB e p&&!b
 | _,_=>false
def OG (es:List aZ) (c:List Bool) (p:Int):Bool:=!((List.range es.length).any (held es c p))
section
variable {es:List aZ} (hes:es.length≤1000000) {c:List Bool} (hc:c.length=es.length)
include hes hc
end
end Go.SM
namespace Go.SM
open Go Go.VI
end Go.SM
namespace Go.SM
open Go Go.VI Go.Cells
def mark (n:Nat) (q:Nat→Bool) (c:List Bool):List Bool:=(List.range n).map fun i=>q i || c.getD i false
theorem Rj (n:Nat) (q:Nat→Bool) (c:List Bool):(mark n q c).length=n:=by simp [mark]
def QW (es:List aZ) (c D:List Bool) (J:List Int) (i:Nat):Bool:=OG es c (i:Int)&&!(D.getD i false&&decide (J.getD i 0>0))
def fell (n:Nat) (es:List aZ) (c:List Bool) (D:List Bool) (J:List Int) (F:List Bool):List Bool:=mark n (QW es c D J) F
def QY (n:Nat) (es:List aZ) (s:RS) (p h:Nat) (t:List Bool):RS:=⟨s.Cut,s.fX.set p (t.set h true),s.tK,s.bN,fell n es s.Cut s.tK s.bN s.fE⟩
def QV (es:List aZ) (p:Int) (i:Nat):Bool:=match es[i]? with
 | some e=>ofB e p
 | none=>false
def RB (n:Nat) (es:List aZ) (s:RS) (p:Nat) (j:Int):RS:=
 ⟨mark es.length (QV es (p:Int)) s.Cut,s.fX,s.tK.set p true,s.bN.set p j,fell n es (mark es.length (QV es (p:Int)) s.Cut) (s.tK.set p true) (s.bN.set p j) s.fE⟩
section
variable {l:bB} (n8:l.aB.length≤8) {es:List aZ} (hes:es.length≤1000000)
include n8 hes
end
inductive tR (l:bB) (es:List aZ) (s:RS) (x:oY):RS→Prop
 | hole {p h:Nat} {y:aW} {t:List Bool} (hp:x.aW=p) (hh:x.pR=h) (hj:x.bN=0) (hy:l.aB[p]?=some y) (hf:s.fE[p]?=some false) (ht:s.fX[p]?=some t) (hb:t[h]?=some false):tR l es s x (QY l.aB.length es s p h t)
 | line {p:Nat} {y:aW} {t:List Bool} (hp:x.aW=p) (hh:x.pR=-1) (hj:0≤x.bN∧x.bN≤4) (hy:l.aB[p]?=some y) (hf:s.fE[p]?=some false) (hd:s.tK[p]?=some false) (ht:s.fX[p]?=some t) (ha:(t.all fun b=>b)=true) (hn:OG es s.Cut (p:Int)=false):tR l es s x (RB l.aB.length es s p x.bN)
section
variable {l:bB} (n8:l.aB.length≤8) (hc:∀ x ∈ l.aB,x.fD.length≤1048576)
include n8 hc
end
theorem HI {l:bB} {es:List aZ} {s s':RS} {x:oY} (hd:tR l es s x s') (hf:Fit l es.length s):Fit l es.length s':=by
 cases hd with
 | @hole p h y t hp hh hj hy hfl ht hb =>
   refine ⟨hf.c,by show (s.fX.set p _).length=_;rw [List.length_set];exact hf.h,hf.d,hf.j,Rj _ _ _,fun k u z h1 h2=>?_⟩
   have h1':(s.fX.set p (t.set h true))[k]?=some u:=h1
   rw [List.getElem?_set] at h1'
   split at h1'
   ·rename_i e
    subst e
    split at h1'
    ·injection h1' with h1'
     rw [← h1',List.length_set]
     exact hf.hh p t z ht h2
    ·cases h1'
   ·exact hf.hh k u z h1' h2
 | @line p y t hp hh hj hy hfl hdn ht ha hn =>
   exact ⟨Rj _ _ _,hf.h,by show (s.tK.set p true).length=_;rw [List.length_set];exact hf.d,by show (s.bN.set p x.bN).length=_;rw [List.length_set];exact hf.j,Rj _ _ _,hf.hh⟩
structure Step (l:bB) (es:List aZ) (s:RS) (x:oY) (s':RS):Prop where
 d:tR l es s x s'
 c:Zm l es (toC s) x=some (toC s',0)
 r:Ek l es s x=some 0
 f:Hf es s x=some s'
inductive Steps (l:bB) (es:List aZ):RS→List oY→List RS→Prop
 | nil (s:RS):Steps l es s [] []
 | cons {s s':RS} {x:oY} {xs:List oY} {ss:List RS} (h:Step l es s x s') (t:Steps l es s' xs ss):Steps l es s (x::xs) (s'::ss)
def JA:RS→List RS→RS
 | s,[]=>s
 | _,s'::ss=>JA s' ss
def IA {E:Type} (up:RS→RS→E→E):RS→List RS→E→E
 | _,[],e=>e
 | s,s'::ss,e=>IA up s' ss (up s s' e)
theorem Steps.len {l:bB} {es:List aZ} {s:RS} {xs:List oY} {ss:List RS} (h:Steps l es s xs ss):ss.length=xs.length:=by
 induction h with
 | nil=>rfl
 | cons _ _ ih=>simp [ih]
section
variable {l:bB} (hl:LV l) (hc:∀ x ∈ l.aB,x.fD.length≤1048576) {es:List aZ} (hes:es.length≤200000)
include hl hc hes
end
section
variable {l:bB} {es:List aZ} {items:List oY} {E S R:Type} (mk:Nat→RS→E→S) (body:S→Option (S ⊕ R)) (up:RS→RS→E→E) (I:Nat→RS→E→Prop)
variable (step:∀ k x s s' e,items[k]?=some x→Step l es s x s'→Fit l es.length s→I k s e→body (mk k s e)=some (.inl (mk (k+1) s' (up s s' e)))∧I (k+1) s' (up s s' e))
include step
theorem Wa {xs:List oY} {s:RS} {ss:List RS} (h:Steps l es s xs ss):∀ (k:Nat) (e:E) (post:List oY),items.drop k=xs++post→Fit l es.length s→I k s e→aH body (mk k s e)=aH body (mk (k+xs.length) (JA s ss) (IA up s ss e))∧I (k+xs.length) (JA s ss) (IA up s ss e):=by
 induction h with
 | nil s=>exact fun k e post _ _ hI=>⟨rfl,hI⟩
 | @cons s s' x xs ss h _ ih =>
   intro k e post hd hf hI
   have hx:items[k]?=some x:=by
    have:(items.drop k)[0]?=some x:=by rw [hd];rfl
    rwa [List.getElem?_drop,Nat.add_zero] at this
   obtain ⟨h1,h2⟩:=step k x s s' e hx h hf hI
   have hd':items.drop (k+1)=xs++post:=by
    have:(items.drop k).drop 1=xs++post:=by rw [hd];rfl
    rwa [List.drop_drop] at this
   obtain ⟨g1,g2⟩:=ih (k+1) _ post hd' (HI h.d hf) h2
   have e1:k+(x::xs).length=k+1+xs.length:=by simp;omega
   rw [e1]
   refine ⟨?_,g2⟩
   rw [jS h1,g1];rfl
end
end Go.SM
namespace Go.SM
open Go Go.VI
end Go.SM
namespace Go.SM
open Go Go.VI Go.Cells
section
variable {l:bB} {es:List aZ} {items:List oY} (h128:items.length≤128)
include h128
end
def wr (a:Int):Int:=IntKind.i64.wrap a
theorem Wj (a b:Int):wr (wr a+b)=wr (a+b):=by
 unfold wr
 simp only [IntKind.wrap,IntKind.signed,IntKind.bits,IntKind.min,IntKind.max]
 first | omega | (simp only [Int.reducePow,if_true];omega) | (simp;omega)
theorem NV:wr 0=0:=by unfold wr;exact Cf 0 (by omega) (by omega)
theorem pick (c:Prop) [Decidable c] (s:aF) (q p:Int):(if c then (⟨s,q,p⟩:aZ) else ⟨s,p,q⟩).A=p∨(if c then (⟨s,q,p⟩:aZ) else ⟨s,p,q⟩).B=p:=by
 by_cases h:c
 ·rw [if_pos h];exact .inr rfl
 ·rw [if_neg h];exact .inl rfl
def Kb (l:List aM):Bool:=l.all fun r=>decide (vR r)
theorem Sj {l:List aM}:Kb l=true↔Ep l:=by unfold Kb Ep;simp
def mat {β:Type} (xs ys:List Int) (p:Int→Int→β):List (List β):=xs.dropLast.map fun x=>ys.dropLast.map fun y=>p x y
def Nq (lists:List (List aM)):Int:=if lists.any (fun l=>decide (l.length>48)) then 4 else if lists.all Kb then 0 else 1
theorem KF {lists:List (List aM)} (hl:lists.length≤10):Fe lists=some (Nq lists):=by
 unfold Fe Nq
 rw [Lm lists (xB lists) (fun l=>!decide (l.length>48)) (.inl ()) (.inr ()) (fun k x hx=>?s1) ?f1]
 case s1 =>
  have h1:decide ((k:Int)<(lists.length:Int))=true:=by simp [aV hx]
  unfold xB
  simp only [h1,if_true,aQ hx,Option.bind_some,bH k (by have:=aV hx;omega)]
  by_cases h:x.length>48
  ·have:(x.length:Int)>48:=by omega
   simp [h,this]
  ·have:¬ (x.length:Int)>48:=by omega
   simp [h,this]
 case f1=>simp [xB]
 by_cases ha:lists.any (fun l=>decide (l.length>48))=true
 ·have:lists.all (fun l=>!decide (l.length>48))=false:=by
   rw [List.all_eq_not_any_not,Bool.not_eq_false']
   simpa using ha
  rw [this,ha];rfl
 ·have h2:lists.all (fun l=>!decide (l.length>48))=true:=by
   rw [List.all_eq_not_any_not]
   simpa using ha
  have h48:∀ l ∈ lists,l.length≤48:=fun l hl=>by
   have:=List.all_eq_true.1 h2 l hl
   simpa using this
  rw [h2,if_pos rfl,Bool.eq_false_iff.2 ha]
  simp only [Option.bind_some,Bool.false_eq_true,if_false]
  rw [Lm lists (xD lists) Kb (.inl ()) (.inr ()) (fun k x hx=>?s2) ?f2]
  case s2 =>
   have h1:decide ((k:Int)<(lists.length:Int))=true:=by simp [aV hx]
   have hx48:=h48 x (List.mem_of_getElem? hx)
   unfold xD
   simp only [h1,if_true,aQ hx,Option.bind_some,bH k (by have:=aV hx;omega)]
   rw [Lm x (xC x) (fun r=>decide (vR r)) (.inl ()) (.inr ()) (fun k x hx=>?s3) ?f3]
   case s3 =>
    have h1:=aV hx
    unfold xC
    rw [if_pos (by simp;omega),aQ hx]
    simp only [Option.bind_some,pT,bH k (by omega)]
    cases decide (vR x) <;> rfl
   case f3=>simp [xC]
   unfold Kb
   cases x.all (fun r=>decide (vR r)) <;> rfl
  case f2=>simp [xD]
  cases lists.all Kb <;> rfl
theorem Ta {l:List aM} (hv:Ep l) (hl:l.length≤1000) (a b:List Int) (ha:a.length≤10000) (hb:b.length≤10000) :
  aH (qY l) (0,a,b)=some (a++xsL l,b++ysL l):=by
 obtain ⟨r,q1,q2⟩:=gG l (fun k (s:List Int×List Int)=>((k:Int),s.1,s.2)) (qY l) (fun s=>(s.1,s.2)) (fun k s=>s=(a++xsL (l.take k),b++ysL (l.take k))) (a,b) (by simp [xsL,ysL])
  (fun k x s hx hI=>by
   have h1:=aV hx
   have hd:decide ((k:Int)<(l.length:Int))=true:=by simp [h1]
   obtain ⟨e1,e2⟩:=Nk (hv x (List.mem_of_getElem? hx))
   subst hI
   unfold qY
   simp only [hd,if_true,aQ hx,Option.bind_some,e1,e2]
   rw [jE (by simp [Cg,LIM];omega),jE (by simp [Ch,LIM];omega)]
   simp only [Option.bind_some,bH k (by omega)]
   refine ⟨(a++xsL (l.take (k+1)),b++ysL (l.take (k+1))), ?_,rfl⟩
   rw [eD hx,Fz,Ga]
   simp [xsL,ysL]) (fun s _=>by simp [qY])
 rw [List.take_length] at q2
 rw [show ((0:Int),a,b)=(((0:Nat):Int),(a,b).1,(a,b).2) from rfl,q1,q2]
theorem AH {lists:List (List aM)} (hn:lists.length≤2) (hv:∀ l ∈ lists,Ep l∧l.length≤200) :
  ∃ xs ys,yM lists=some ⟨xs,ys⟩∧jB xs (lists.flatMap xsL)∧jB ys (lists.flatMap ysL):=by
 have hlen:∀ ls:List (List aM),(∀ l ∈ ls,l.length≤200)→(ls.flatMap xsL).length≤400*ls.length∧(ls.flatMap ysL).length≤400*ls.length:=fun ls=>by
  induction ls with
  | nil=>intro _;simp
  | cons l ls ih =>
    intro h
    have:=ih fun x hx=>h x (List.mem_cons_of_mem _ hx)
    have:=h l List.mem_cons_self
    simp only [List.flatMap_cons,List.length_append,Cg,Ch,List.length_cons]
    omega
 obtain ⟨r,q1,q2⟩:=gG lists (fun k (s:List Int×List Int)=>((k:Int),s.1,s.2)) (uJ lists) (fun s=>(s.1,s.2)) (fun k s=>s=((lists.take k).flatMap xsL,(lists.take k).flatMap ysL)) ([],[]) (by simp)
  (fun k x s hx hI=>by
   have h1:=aV hx
   have hd:decide ((k:Int)<(lists.length:Int))=true:=by simp [h1]
   obtain ⟨v1,v2⟩:=hv x (List.mem_of_getElem? hx)
   have hl:=hlen (lists.take k) fun l hl=>(hv l (List.mem_of_mem_take hl)).2
   have:(lists.take k).length≤2:=by rw [List.length_take];omega
   subst hI
   unfold uJ
   simp only [hd,if_true,aQ hx,Option.bind_some,Ta v1 (show x.length≤1000 by omega) _ _ (show ((lists.take k).flatMap xsL).length≤10000 by omega) (show ((lists.take k).flatMap ysL).length≤10000 by omega),bH k (by omega)]
   refine ⟨((lists.take k).flatMap xsL++xsL x,(lists.take k).flatMap ysL++ysL x),rfl, ?_⟩
   rw [eD hx,List.flatMap_append,List.flatMap_append]
   simp) (fun s _=>by simp [uJ])
 rw [List.take_length] at q2
 have hl:=hlen lists fun l hl=>(hv l hl).2
 obtain ⟨xs,x1,x2,x3⟩:=Md (l:=lists.flatMap xsL) (by omega)
 obtain ⟨ys,y1,y2,y3⟩:=Md (l:=lists.flatMap ysL) (by omega)
 refine ⟨xs,ys, ?_,⟨x2,x3⟩,⟨y2,y3⟩⟩
 unfold yM
 rw [show ((0:Int),([]:List Int),([]:List Int))=(((0:Nat):Int),(([],[]):List Int×List Int).1,(([],[]):List Int×List Int).2) from rfl,q1,q2]
 simp only [Option.bind_some,x1,y1]
theorem Ky {α:Type} {l:List α} {k:Nat} {x:α} (h:l.dropLast[k]?=some x):l[k]?=some x∧k+1<l.length:=by
 have:=aV h
 rw [List.length_dropLast] at this
 rw [List.getElem?_dropLast,if_pos (by omega)] at h
 exact ⟨h,by omega⟩
theorem Ns {α:Type} {l:List α} {k:Nat} (h:k+1<l.length):l.dropLast[k]?=l[k]?:=by
 rw [List.getElem?_dropLast,if_pos (by omega)]
theorem Vt {β:Type} (xs ys:List Int) (p:Int→Int→β):(mat xs ys p).length=xs.length-1:=by simp [mat]
theorem CJ {β:Type} {xs ys:List Int} {p:Int→Int→β} {i:Nat} {x:Int} (hx:xs[i]?=some x) (hi:i+1<xs.length):(mat xs ys p)[i]?=some (ys.dropLast.map fun y=>p x y):=by
 unfold mat
 rw [List.getElem?_map,Ns hi,hx];rfl
theorem CY {β:Type} {ys:List Int} {q:Int→β} {j:Nat} {y:Int} (hy:ys[j]?=some y) (hj:j+1<ys.length):(ys.dropLast.map q)[j]?=some (q y):=by
 rw [List.getElem?_map,Ns hj,hy];rfl
theorem Zk {xs ys:List Int} {l:List aM} (hv:Ep l) (hl:l.length≤1000) (hx:xs.length≤1000) (hy:ys.length≤1000) (hxy:2≤xs.length→1≤ys.length) :
  rN ⟨xs,ys⟩ l=some (mat xs ys (cov l)):=by
 -- a cell
 have cell:∀ (i j:Nat) (x y:Int) (base b1 b2:List (List Bool)) (row:List Bool),xs[i]?=some x→ys[j]?=some y→base[i]?=some row→row[j]?=some false →
   aH (kX ⟨xs,ys⟩ l ((i:Int),b1) ((j:Int),b2)) (0,base)=some (base.set i (row.set j (cov l x y))):=fun i j x y base b1 b2 row hx hy hb hr=>by
  obtain ⟨r,q1,q2⟩:=gG l (fun k (s:List (List Bool))=>((k:Int),s)) (kX ⟨xs,ys⟩ l ((i:Int),b1) ((j:Int),b2)) (fun s=>s) (fun k s=>s=base.set i (row.set j (cov (l.take k) x y))) base (by
    rw [show cov (l.take 0) x y=false from rfl,Mc hr,Mc hb])
   (fun k r s hr' hI=>by
    have h1:=aV hr'
    have hd:decide ((k:Int)<(l.length:Int))=true:=by simp [h1]
    obtain ⟨e1,e2⟩:=Nk (hv r (List.mem_of_getElem? hr'))
    have hi:=aV hb
    have hj:=aV hr
    have g1:(base.set i (row.set j (cov (l.take k) x y)))[i]?=some (row.set j (cov (l.take k) x y)):=by rw [List.getElem?_set,if_pos rfl,if_pos hi]
    have g2:(row.set j (cov (l.take k) x y))[j]?=some (cov (l.take k) x y):=by rw [List.getElem?_set,if_pos rfl,if_pos hj]
    have hc:cov (l.take (k+1)) x y=(cov (l.take k) x y || inC r x y):=by rw [eD hr'];simp [cov]
    subst hI
    unfold kX
    simp only [hd,if_true,aQ hr',aQ hx,aQ hy,Option.bind_some,e1,e2]
    have hb':(if decide (r.X≤x) then (if decide (x<r.X+r.W) then (if decide (r.Y≤y) then some (decide (y<r.Y+r.H)) else some false) else some false) else some false)=some (inC r x y):=by
     unfold inC
     cases decide (r.X≤x) <;> cases decide (x<r.X+r.W) <;> cases decide (r.Y≤y) <;> simp
    rw [hb',Option.bind_some]
    cases hin:inC r x y with
    | false =>
      simp only [Bool.false_eq_true,if_false,kW,bH k (by omega)]
      refine ⟨_,rfl, ?_⟩
      rw [hc,hin,Bool.or_false]
    | true =>
      simp only [if_true,aQ g1,aQ g2,Option.bind_some,kW,bH k (by omega),Int.toNat_natCast]
      refine ⟨_,rfl, ?_⟩
      rw [hc,hin,Bool.or_true,List.set_set,List.set_set]) (fun s _=>by simp [kX])
  rw [List.take_length] at q2
  rw [show ((0:Int),base)=(((0:Nat):Int),base) from rfl,q1,q2]
 -- a column
 have col:∀ (i:Nat) (x:Int) (base b1:List (List Bool)),xs[i]?=some x→base[i]?=some (List.replicate (ys.length-1) false) →
   aH (kY ⟨xs,ys⟩ l ((i:Int),b1) (List.replicate (ys.length-1) false)) (0,base)=some (base.set i (ys.dropLast.map fun y=>cov l x y)):=fun i x base b1 hx hb=>by
  obtain ⟨R,hR⟩:∃ R,(ys.dropLast.map fun y=>cov l x y)=R:=⟨_,rfl⟩
  have hRl:R.length=ys.length-1:=by rw [← hR];simp
  have hi:=aV hb
  obtain ⟨r,q1,q2⟩:=gG ys.dropLast (fun k (s:List (List Bool))=>((k:Int),s)) (kY ⟨xs,ys⟩ l ((i:Int),b1) (List.replicate (ys.length-1) false)) (fun s=>s) (fun k s=>s=base.set i (R.take k++List.replicate (R.length-k) false)) base (by
    rw [List.take_zero,List.nil_append,Nat.sub_zero,hRl,Mc hb])
   (fun k y s hy' hI=>by
    obtain ⟨gy,ky⟩:=Ky hy'
    have hd:decide ((k:Int)<((List.replicate (ys.length-1) false).length:Int))=true:=by simp;omega
    have hRk:R[k]?=some (cov l x y):=by rw [← hR];exact CY gy ky
    subst hI
    have gb:(base.set i (R.take k++List.replicate (R.length-k) false))[i]?=some (R.take k++List.replicate (R.length-k) false):=by rw [List.getElem?_set,if_pos rfl,if_pos hi]
    unfold kY
    simp only [hd,if_true,cell i k x y _ b1 (base.set i (R.take k++List.replicate (R.length-k) false)) _ hx gy gb (La hRk),Option.bind_some,bH k (by omega)]
    refine ⟨_,rfl, ?_⟩
    rw [List.set_set,Gr hRk]) (fun s _=>by simp [kY])
  rw [List.length_dropLast,← hRl,List.take_length,Nat.sub_self,List.replicate_zero,List.append_nil] at q2
  rw [show ((0:Int),base)=(((0:Nat):Int),base) from rfl,q1,q2,hR]
 obtain ⟨R,hR⟩:∃ R,mat xs ys (cov l)=R:=⟨_,rfl⟩
 have hRl:R.length=xs.length-1:=by rw [← hR,Vt]
 have hmk:mk (imax 0 (aK (xs.length:Int) 1)) ([]:List Bool)=some (List.replicate (xs.length-1) []):=by
  rw [bC (by omega) (by omega),Ff]
  unfold mk
  rw [if_pos ⟨by omega,by simp [LIM];omega⟩,show (max 0 ((xs.length:Int)-1)).toNat=xs.length-1 from by omega]
 obtain ⟨r,q1,q2⟩:=gG xs.dropLast (fun k (s:List (List Bool))=>((k:Int),s)) (nK ⟨xs,ys⟩ l (List.replicate (xs.length-1) [])) (fun s=>s) (fun k s=>s=R.take k++List.replicate (R.length-k) []) (List.replicate (xs.length-1) []) (by
   rw [List.take_zero,List.nil_append,Nat.sub_zero,hRl])
  (fun k x s hx' hI=>by
   obtain ⟨gx,kx⟩:=Ky hx'
   have hd:decide ((k:Int)<((List.replicate (xs.length-1) ([]:List Bool)).length:Int))=true:=by simp;omega
   have hRk:R[k]?=some (ys.dropLast.map fun y=>cov l x y):=by rw [← hR];exact CJ gx kx
   have hy1:=hxy (by omega)
   have hmk:mk (aK (ys.length:Int) 1) false=some (List.replicate (ys.length-1) false):=by
    rw [bC (by omega) (by omega)]
    unfold mk
    rw [if_pos ⟨by omega,by simp [LIM];omega⟩,show ((ys.length:Int)-1).toNat=ys.length-1 from by omega]
   have hkR:=aV hRk
   have g0:s[k]?=some []:=by rw [hI];exact La hRk
   have hks:=aV g0
   have g1:(s.set k (List.replicate (ys.length-1) false))[k]?=some (List.replicate (ys.length-1) false):=by rw [List.getElem?_set,if_pos rfl,if_pos hks]
   unfold nK
   simp only [hd,if_true,hmk,Option.bind_some,aQ g0,Int.toNat_natCast,aQ g1,col k x _ s gx g1,bH k (by omega)]
   refine ⟨_,rfl, ?_⟩
   rw [List.set_set,hI,Gr hRk]) (fun s _=>by simp [nK])
 rw [List.length_dropLast,← hRl,List.take_length,Nat.sub_self,List.replicate_zero,List.append_nil] at q2
 unfold rN
 rw [hmk,Option.bind_some,show ((0:Int),List.replicate (xs.length-1) ([]:List Bool))=(((0:Nat):Int),List.replicate (xs.length-1) []) from rfl,q1,q2,hR]
 rfl
section
variable {xs ys:List Int} (hX:Th xs) (hY:Th ys) (p:Int→Int→Bool)
include hX hY
end
section
variable {xs ys:List Int} {l:List aM} (h:Has xs ys l)
include h
omit h in
end
theorem EO {xs ys:List Int} {l:List aM} (hx:jB xs (xsL l)) (hy:jB ys (ysL l)):2≤xs.length→1≤ys.length:=fun h=>by
 cases l with
 | nil =>
   have:xs=[]:=by
    cases xs with
    | nil=>rfl
    | cons a t=>exact absurd ((hx.2 a).1 List.mem_cons_self) (by simp [xsL])
   rw [this] at h;simp at h
 | cons r l =>
   have:=(hy.2 r.Y).2 (Hk List.mem_cons_self).1
   cases ys with
   | nil=>simp at this
   | cons=>simp
theorem HA {l:List aM}:Nq [l]=0→l.length≤48∧Ep l:=by
 unfold Nq
 simp only [List.any_cons,List.any_nil,Bool.or_false,List.all_cons,List.all_nil,Bool.and_true,decide_eq_true_eq]
 intro h
 split at h
 ·cases h
 ·split at h
  ·rename_i q;exact ⟨by omega,Sj.1 q⟩
  ·cases h
end Go.SM
namespace Go.Cells
theorem Ee {s:Int→Int} {a b a' b':Int} (h:Bc s a b) (h':Bc s a' b') (hl:a<a'):b≤a':=by
 rcases Int.lt_or_le a' b with q | q
 ·have e1:=h.2.2.1 a' (by omega) q
  have e2:=h.2.2.1 (a'-1) (by omega) (by omega)
  exact absurd (e2.trans e1.symm) h'.2.2.2.1
 ·exact q
theorem KJ {s:Int→Int} {a b a' b' z:Int} (h:Bc s a b) (h':Bc s a' b') (h1:a≤z) (h2:z<b) (h3:a'≤z) (h4:z<b'):a=a'∧b=b':=by
 have ea:a=a':=by
  rcases Int.lt_or_le a a' with q | q
  ·have:=Ee h h' q;omega
  ·rcases Int.lt_or_le a' a with r | r
   ·have:=Ee h' h r;omega
   ·omega
 subst ea
 refine ⟨rfl, ?_⟩
 rcases Int.lt_or_le b b' with q | q
 ·exact absurd (h'.2.2.1 b (by omega) q) h.2.2.2.2
 ·rcases Int.lt_or_le b' b with r | r
  ·exact absurd (h.2.2.1 b' (by omega) r) h'.2.2.2.2
  ·omega
def meet (p q:Int×Int):Int×Int:=(max p.1 q.1,min p.2 q.2)
def meets (M:List (Int×Int)) (p:Int×Int):List (Int×Int):=(M.map (meet p)).filter fun r=>decide (r.1<r.2)
theorem Ig {M:List (Int×Int)} {p r:Int×Int}:r ∈ meets M p↔∃ q ∈ M,meet p q=r∧r.1<r.2:=by
 unfold meets
 rw [List.mem_filter,List.mem_map]
 simp only [decide_eq_true_eq]
 constructor
 ·rintro ⟨⟨q,h1,h2⟩,h3⟩;exact ⟨q,h1,h2,h3⟩
 ·rintro ⟨q,h1,h2,h3⟩;exact ⟨⟨q,h1,h2⟩,h3⟩
def Bd (s:Int→Int):Prop:=∃ lo hi,(∀ z,z<lo→s z=0)∧∀ z,hi≤z→s z=0
theorem Uk {u v w:Int→Int} {L M:List (Int×Int)} (hu:eF u L) (hv:eF v M) (bu:Bd u) (bv:Bd v) (h1:∀ z,w z≠0↔u z≠0∧v z≠0) (h2:∀ z,w z≠0→w z=u z) (h3:∀ z,w z≠0→v z=- u z):eF w (L.flatMap (meets M)):=by
 have key:∀ {p1 p2 q1 q2:Int},Bc u p1 p2→Bc v q1 q2→max p1 q1<min p2 q2→Bc w (max p1 q1) (min p2 q2):=fun {p1 p2 q1 q2} hp hq hlt=>by
  have uz:∀ z,p1≤z→z<p2→u z=u p1:=hp.2.2.1
  have vz:∀ z,q1≤z→z<q2→v z=v q1:=hq.2.2.1
  have wz:∀ z,max p1 q1≤z→z<min p2 q2→w z=u p1∧v q1=- u p1:=fun z z1 z2=>by
   have e1:=uz z (by omega) (by omega)
   have e2:=vz z (by omega) (by omega)
   have hn:w z≠0:=(h1 z).2 ⟨by rw [e1];exact hp.2.1,by rw [e2];exact hq.2.1⟩
   refine ⟨by rw [h2 z hn,e1], ?_⟩
   have:=h3 z hn
   rw [e1,e2] at this;exact this
  have w0:=wz _ (Int.le_refl _) hlt
  have off:∀ z,(u z≠u p1∨v z≠v q1)→w z≠u p1:=fun z hz hw=>by
   have hn:w z≠0:=by rw [hw];exact hp.2.1
   have e1:=h2 z hn
   have e2:=h3 z hn
   rcases hz with hz | hz
   ·exact hz (by rw [← e1,hw])
   ·exact hz (by rw [e2,← e1,hw,w0.2])
  refine ⟨hlt,by rw [w0.1];exact hp.2.1,fun z z1 z2=>by rw [(wz z z1 z2).1,w0.1], ?_, ?_⟩
  ·rw [w0.1]
   refine off _ ?_
   rcases Int.lt_or_le p1 q1 with q | q
   ·right;rw [show max p1 q1=q1 by omega];exact hq.2.2.2.1
   ·left;rw [show max p1 q1=p1 by omega];exact hp.2.2.2.1
  ·rw [w0.1]
   refine off _ ?_
   rcases Int.lt_or_le p2 q2 with q | q
   ·left;rw [show min p2 q2=p2 by omega];exact hp.2.2.2.2
   ·right;rw [show min p2 q2=q2 by omega];exact hq.2.2.2.2
 refine ⟨?_,fun a b=>⟨fun hm=>?_,fun hw=>?_⟩⟩
 ·rw [List.pairwise_flatMap]
  refine ⟨fun p hp=>?_, ?_⟩
  ·unfold meets
   rw [List.pairwise_filter,List.pairwise_map]
   refine List.Pairwise.imp_of_mem (fun {q q'} hq hq' hlt z1 z2=>?_) hv.1
   replace z1:max p.1 q.1<min p.2 q.2:=of_decide_eq_true z1
   replace z2:max p.1 q'.1<min p.2 q'.2:=of_decide_eq_true z2
   show max p.1 q.1<max p.1 q'.1
   have:=Ee ((hv.2 q.1 q.2).1 hq) ((hv.2 q'.1 q'.2).1 hq') hlt
   omega
  ·refine List.Pairwise.imp_of_mem (fun {p p'} hp hp' hlt r hr r' hr'=>?_) hu.1
   obtain ⟨q,hq,rfl,z1⟩:=Ig.1 hr
   obtain ⟨q',hq',rfl,z2⟩:=Ig.1 hr'
   have:=Ee ((hu.2 p.1 p.2).1 hp) ((hu.2 p'.1 p'.2).1 hp') hlt
   simp only [meet] at z1 z2 ⊢
   omega
 ·obtain ⟨p,hp,hm⟩:=List.mem_flatMap.1 hm
  obtain ⟨q,hq,e,hlt⟩:=Ig.1 hm
  unfold meet at e
  injection e with e1 e2
  subst e1 e2
  exact key ((hu.2 p.1 p.2).1 hp) ((hv.2 q.1 q.2).1 hq) hlt
 ·obtain ⟨ulo,uhi,ul,uh⟩:=bu
  obtain ⟨vlo,vhi,vl,vh⟩:=bv
  obtain ⟨u0,v0⟩:=(h1 a).1 hw.2.1
  obtain ⟨p1,p2,hp,pa,pb⟩:=Wa ul uh u0
  obtain ⟨q1,q2,hq,qa,qb⟩:=Wa vl vh v0
  have hlt:max p1 q1<min p2 q2:=by omega
  obtain ⟨e1,e2⟩:=KJ hw (key hp hq hlt) (Int.le_refl a) hw.1 (by omega) (by omega)
  exact List.mem_flatMap.2 ⟨(p1,p2),(hu.2 _ _).2 hp,Ig.2 ⟨(q1,q2),(hv.2 _ _).2 hq,by unfold meet;rw [e1,e2],by show a<b;exact hw.1⟩⟩
theorem Nz {s c:Int→Int} {L:List (Int×Int)} (h:eF s L) (P:Int→Bool) (hc:∀ z,c z≠0↔s z≠0∧P z=true) (he:∀ z w,c z≠0→(c w=c z↔s w=s z)):eF c (L.filter fun p=>P p.1):=by
 refine ⟨h.1.filter _,fun a b=>?_⟩
 rw [List.mem_filter,h.2]
 unfold Bc
 constructor
 ·rintro ⟨⟨r1,r2,r3,r4,r5⟩,r6⟩
  have c0:c a≠0:=(hc a).2 ⟨r2,r6⟩
  exact ⟨r1,c0,fun z z1 z2=>(he a z c0).2 (r3 z z1 z2),fun q=>r4 ((he a _ c0).1 q),fun q=>r5 ((he a _ c0).1 q)⟩
 ·rintro ⟨r1,c0,r3,r4,r5⟩
  obtain ⟨s0,p0⟩:=(hc a).1 c0
  exact ⟨⟨r1,s0,fun z z1 z2=>(he a z c0).1 (r3 z z1 z2),fun q=>r4 ((he a _ c0).2 q),fun q=>r5 ((he a _ c0).2 q)⟩,p0⟩
theorem Lc {β:Type} {l l':List Int} (h:l.Pairwise fun x y=>x<y) (h':l'.Pairwise fun x y=>x<y) (hs:∀ x ∈ l,x ∈ l') {f:Int→List β} (h0:∀ x,x ∉ l→f x=[]):l.flatMap f=l'.flatMap f:=by
 have e:l=l'.filter fun x=>decide (x ∈ l):=xJ (lt:=fun x y=>x<y) (fun _=>Int.lt_irrefl _) (fun _ _ _=>Int.lt_trans) h (h'.filter _) fun x=>by
  rw [List.mem_filter,decide_eq_true_eq]
  exact ⟨fun q=>⟨hs x q,q⟩,fun q=>q.2⟩
 have key:∀ g:List Int,(g.filter fun x=>decide (x ∈ l)).flatMap f=g.flatMap f:=fun g=>by
  induction g with
  | nil=>rfl
  | cons x g ih =>
    rw [List.filter_cons]
    by_cases hx:x ∈ l
    ·rw [if_pos (by simpa using hx),List.flatMap_cons,List.flatMap_cons,ih]
    ·rw [if_neg (by simpa using hx),List.flatMap_cons,h0 x hx,ih];rfl
 exact (congrArg (fun m=>List.flatMap f m) e).trans (key l')
def Sw:List (Int×Int)→Int
 | []=>0
 | p::t=>p.2-p.1+Sw t
def inI (L:List (Int×Int)) (z:Int):Bool:=L.any fun p=>decide (p.1≤z)&&decide (z<p.2)
theorem OK {lo hi:Int}:∀ {L:List (Int×Int)},(∀ p ∈ L,lo≤p.1∧p.1≤p.2∧p.2≤hi)→L.Pairwise (fun p q=>p.2≤q.1)→Sw L=S lo hi fun z=>one (inI L z)
 | [],_,_=>(Zh fun _ _ _=>rfl).symm
 | p::t,hb,hp=>by
   obtain ⟨b1,b2,b3⟩:=hb p List.mem_cons_self
   have ih:=OK (fun q hq=>hb q (List.mem_cons_of_mem _ hq)) (List.pairwise_cons.1 hp).2
   have e:∀ z,one (inI (p::t) z)=one (decide (p.1≤z)&&decide (z<p.2))+one (inI t z):=fun z=>by
    show one ((decide (p.1≤z)&&decide (z<p.2)) || inI t z)=_
    cases h1:(decide (p.1≤z)&&decide (z<p.2)) with
    | false=>simp [one]
    | true =>
      cases h2:inI t z with
      | false=>rfl
      | true =>
        obtain ⟨q,hq,hqz⟩:=List.any_eq_true.1 h2
        have:=(List.pairwise_cons.1 hp).1 q hq
        simp only [Bool.and_eq_true,decide_eq_true_eq] at h1 hqz
        omega
   have hone:S lo hi (fun z=>one (decide (p.1≤z)&&decide (z<p.2)))=p.2-p.1:=by
    rw [Ur (m:=p.1) b1 (by omega),Ur (a:=p.1) (m:=p.2) b2 b3]
    rw [Zh (a:=lo) (b:=p.1) fun z z1 z2=>by rw [show decide (p.1≤z)=false by simp;omega];rfl]
    rw [Zh (a:=p.2) (b:=hi) fun z z1 z2=>by rw [show decide (z<p.2)=false by simp;omega];rw [Bool.and_false];rfl]
    rw [BL (c:=1) b2 fun z z1 z2=>by rw [show decide (p.1≤z)=true by simpa using z1,show decide (z<p.2)=true by simpa using z2];rfl]
    omega
   show p.2-p.1+Sw t=_
   rw [ih,← hone,← QO]
   exact Pc fun z _ _=>(e z).symm
theorem Xz {s:Int→Int} {L:List (Int×Int)} (h:eF s L) {lo hi:Int} (hlo:∀ z,z<lo→s z=0) (hhi:∀ z,hi≤z→s z=0):Sw L=S lo hi fun z=>one (decide (s z≠0)):=by
 rw [OK (lo:=lo) (hi:=hi) (fun p hp=>?_) (List.Pairwise.imp_of_mem (fun {p q} hp hq hlt=>Ee ((h.2 p.1 p.2).1 hp) ((h.2 q.1 q.2).1 hq) hlt) h.1)]
 ·refine Pc fun z z1 z2=>congrArg one ?_
  rw [Bool.eq_iff_iff,decide_eq_true_eq]
  constructor
  ·intro hi'
   obtain ⟨p,hp,hz⟩:=List.any_eq_true.1 hi'
   simp only [Bool.and_eq_true,decide_eq_true_eq] at hz
   have hr:=(h.2 p.1 p.2).1 hp
   rw [hr.2.2.1 z hz.1 hz.2];exact hr.2.1
  ·intro h0
   obtain ⟨a,b,hr,ha,hb⟩:=Wa hlo hhi h0
   exact List.any_eq_true.2 ⟨(a,b),(h.2 a b).2 hr,by simp only [Bool.and_eq_true,decide_eq_true_eq];exact ⟨ha,hb⟩⟩
 ·have hr:=(h.2 p.1 p.2).1 hp
  have h1:=hr.1
  refine ⟨?_,by omega, ?_⟩
  ·rcases Int.lt_or_le p.1 lo with q | q
   ·exact absurd (hlo _ q) hr.2.1
   ·exact q
  ·rcases Int.lt_or_le hi p.2 with q | q
   ·have:=hr.2.2.1 (p.2-1) (by omega) (by omega)
    rw [hhi (p.2-1) (by omega)] at this
    exact absurd this.symm hr.2.1
   ·exact q
end Go.Cells
namespace Go.SM
open Go Go.VI Go.Cells
def Xo (a2:Int×Int×(List aF)) (a0:Int):(List aF)→Option (Int×Int×(List aF) ⊕ (List aF)):=fun a1 =>
 some (.inl (a0,(aJ a2.2.1 1),a1))
def CB (side:Int→Option Int) (a3:Int×Int×(List aF)):Int→Option (Int ⊕ Int):=fun a0 =>
 (if (decide (a0>0)) then ((side (aK a0 1)).bind fun a2=>some (a2==a3.1)) else (some false)).bind fun a1=>if a1 then (some (.inl (aK a0 1))) else (some (.inr a0))
def CA (ends:(List Int)) (side:Int→Option Int) (found:Int→Int→List aF→Option (List aF)) (a0:Int×Int×(List aF)):Int→Option (Int×Int×(List aF) ⊕ (List aF)):=fun a1 =>
 (if (a1 != a0.1) then (some (a0.1 != 0)) else (some false)).bind fun a2=>if a2 then ((aH (CB side a0) (aK a0.2.1 1)).bind fun a4=>(idx ends a4).bind fun a5=>(idx ends a0.2.1).bind fun a6=>(found a5 a6 a0.2.2).bind fun a3=>Xo a0 a1 a3) else (Xo a0 a1 a0.2.2)
def ID (ends:(List Int)) (side:Int→Option Int) (found:Int→Int→List aF→Option (List aF)):Int×Int×(List aF)→Option (Int×Int×(List aF) ⊕ (List aF)):=fun a0 =>
 if (decide (a0.2.1<(ends.length:Int))) then (if (decide (a0.2.1<(aK (ends.length:Int) 1))) then ((side a0.2.1).bind fun a1=>CA ends side found a0 a1) else (CA ends side found a0 0)) else (some (.inr a0.2.2))
def gr (ends:(List Int)) (side:Int→Option Int) (found:Int→Int→List aF→Option (List aF)) (h1:(List aF)):Option ((List aF)):=
 (aH (ID ends side found) (0,0,h1)).bind fun a0=>some a0
theorem KK (ends:List Int) (M:List (List Bool)) (j y:Int) (h:List aF):fF ends M j y h=gr ends (fun i=>mJ i M j) (fun a b h=>sL a b y h) h:=rfl
theorem KL (ends:List Int) (M:List (List Bool)) (j y:Int) (h:List aF):fG ends M j y h=gr ends (fun i=>mK i M j) (fun a b h=>sM a b y h) h:=rfl
structure Gh (s:Int→Int) (xs:List Int):Prop where
 st:sA s xs
 len:xs.length≤1000
 low:∀ x0,xs[0]?=some x0→∀ z,z<x0→s z=0
 high:∀ x1,xs[xs.length-1]?=some x1→∀ z,x1≤z→s z=0
 none:xs=[]→∀ z,s z=0
section
variable {s:Int→Int} {xs:List Int} (h:Gh s xs)
include h
theorem Wt:∃ lo,∀ z,z<lo→s z=0:=by
 cases hx:xs[0]? with
 | none=>exact ⟨0,fun z _=>h.none (by simpa using hx) z⟩
 | some x0=>exact ⟨x0,h.low x0 hx⟩
theorem before {k:Nat} {x e:Int} (hx:xs[k]?=some x) (he:xs[k+1]?=some e):s (e-1)=s x:=by
 obtain ⟨h1,h2⟩:=mO h.st hx he
 exact h2 _ (by omega) (by omega)
variable {side:Int→Option Int} (hside:∀ (i:Nat) x,xs[i]?=some x→i+1<xs.length→side (i:Int)=some (s x)) {found:Int→Int→List aF→Option (List aF)} {mk:Int×Int→aF} (hfound:∀ a b (l:List aF),l.length≤100000000→found a b l=some (l++[mk (a,b)]))
include hside hfound
theorem CC {out0:List aF} (hout:out0.length≤90000000):∃ L,gr xs side found out0=some (out0++L.map mk)∧eF s L∧L.length≤xs.length:=by
 have hlen:=h.len
 obtain ⟨lo,hlo⟩:=Wt h
 obtain ⟨r,q1,q2⟩:=jT (fun t:Int×Int×List aF=>((xs.length:Int)-t.2.1).toNat)
  (fun t:Int×Int×List aF=>∃ k:Nat,t.2.1=k∧k≤xs.length∧(k=xs.length→∃ L,t.2.2=out0++L.map mk∧eF s L∧L.length≤xs.length) ∧
   (∀ e,xs[k]?=some e→∃ L,eF (cut s e) L∧L.length≤k∧t.1=s (e-1)∧(t.1=0→t.2.2=out0++L.map mk) ∧
    (t.1≠0→∃ L0 f a,L=L0++[(a,e)]∧xs[f]?=some a∧f<k∧t.2.2=out0++L0.map mk∧(∀ i x,f≤i→i<k→xs[i]?=some x→s x=t.1)∧(0<f→∀ x,xs[f-1]?=some x→s x≠t.1))))
  (fun r=>∃ L,r=out0++L.map mk∧eF s L∧L.length≤xs.length) (ID xs side found) (by
   rintro ⟨last,k',out⟩ ⟨k,hk',hk,hend,hI⟩
   simp only at hk' hend hI ⊢
   subst hk'
   unfold ID
   by_cases hkn:k<xs.length
   case neg =>
    right
    have hd:¬ (k:Int)<(xs.length:Int):=by omega
    exact ⟨out,by simp only [hd,decide_false,Bool.false_eq_true,if_false],hend (by omega)⟩
   left
   have hd:(k:Int)<(xs.length:Int):=by omega
   have hsub:aK (xs.length:Int) 1=(xs.length:Int)-1:=bC (by omega) (by omega)
   obtain ⟨e,he⟩:∃ e,xs[k]?=some e:=⟨_,List.getElem?_eq_getElem hkn⟩
   obtain ⟨L,hL,hLk,hlast,hzero,hopen⟩:=hI e he
   -- what k3 does
   have close:∀ now,∃ out',CA xs side found (last,(k:Int),out) now=some (.inl (now,((k+1:Nat):Int),out'))∧((now=last∨last=0)→out'=out)∧(now≠last→out'=out0++L.map mk):=fun now=>by
    unfold CA
    simp only
    by_cases e1:now=last
    ·refine ⟨out, ?_,fun _=>rfl,fun q=>absurd e1 q⟩
     have:(now != last)=false:=by simp [e1]
     simp only [this,Bool.false_eq_true,if_false,Option.bind_some,Xo,bH k (by omega)]
    ·have hne:(now != last)=true:=by simp [e1]
     by_cases e2:last=0
     ·refine ⟨out, ?_,fun _=>rfl,fun _=>hzero e2⟩
      have:(last != 0)=false:=by simp [e2]
      simp only [hne,if_true,this,Option.bind_some,Bool.false_eq_true,if_false,Xo,bH k (by omega)]
     ·have hl0:(last != 0)=true:=by simp [e2]
      obtain ⟨L0,f,a,rfl,hfa,hfk,hout',hsame,hprev⟩:=hopen e2
      have hk1:aK (k:Int) 1=(k:Int)-1:=bC (by omega) (by omega)
      have sd:∀ i:Nat,i<k→∃ x,xs[i]?=some x∧side (i:Int)=some (s x):=fun i hi=>by
       obtain ⟨x,hx⟩:∃ x,xs[i]?=some x:=⟨_,List.getElem?_eq_getElem (by omega)⟩
       exact ⟨x,hx,hside i x hx (by omega)⟩
      obtain ⟨x,x1,x2,x3,x4,x5⟩:=Ik (body:=CB side (last,(k:Int),out)) (fun _=>true) (i:=(f:Int)+1) (j:=(k:Int)-1) (by omega) (fun t t1 t2=>by
       obtain ⟨i,hi⟩:∃ i:Nat,t=(i:Int)+1:=⟨(t-1).toNat,by omega⟩
       obtain ⟨y,y1,y2⟩:=sd i (by omega)
       have ht:t>0:=by omega
       have hs1:aK t 1=(i:Int):=by rw [bC (by omega) (by omega)];omega
       have hy:=hsame i y (by omega) (by omega) y1
       unfold CB
       have hb:(s y==last)=true:=by simp [hy]
       simp only [ht,decide_true,if_true,hs1,y2,Option.bind_some,hb]
       congr 2;omega) (by
       rw [show (f:Int)+1-1=(f:Int) from by omega]
       unfold CB
       by_cases hf0:0<f
       ·obtain ⟨y,y1,y2⟩:=sd (f-1) (by omega)
        have ht:(f:Int)>0:=by omega
        have hs1:aK (f:Int) 1=((f-1:Nat):Int):=by rw [bC (by omega) (by omega)];omega
        have hb:(s y==last)=false:=by simp [hprev hf0 y y1]
        simp only [ht,decide_true,if_true,hs1,y2,Option.bind_some,hb,Bool.false_eq_true,if_false]
       ·have ht:¬ (f:Int)>0:=by omega
        simp only [ht,decide_false,Bool.false_eq_true,if_false,Option.bind_some])
      have hx:x=(f:Int):=by
       rcases Int.lt_or_le x ((f:Int)+1) with q | q
       ·omega
       ·have:=x5 q;cases this
      refine ⟨out0++(L0++[(a,e)]).map mk, ?_,fun q=>q.elim (fun q=>absurd q e1) (fun q=>absurd q e2),fun _=>rfl⟩
      have hfd:=hfound a e out (by rw [hout'];simp at hLk ⊢;omega)
      simp only [hne,if_true,hl0,Option.bind_some,hk1,x1,hx,aQ hfa,aQ he,hfd,Xo,bH k (by omega)]
      rw [hout'];simp
   have hmu:∀ (now:Int) (out':List aF),((xs.length:Int)-(now,((k+1:Nat):Int),out').2.1).toNat<((xs.length:Int)-(k:Int)).toNat:=fun now out'=>by simp only;omega
   by_cases hkl:k+1<xs.length
   ·-- a cell
    have hd2:(k:Int)<(xs.length:Int)-1:=by omega
    obtain ⟨e',he'⟩:∃ e',xs[k+1]?=some e':=⟨_,List.getElem?_eq_getElem hkl⟩
    obtain ⟨hee,hst⟩:=mO h.st he he'
    obtain ⟨out',c1,c2,c3⟩:=close (s e)
    refine ⟨(s e,((k+1:Nat):Int),out'),by simp only [hd,decide_true,if_true,hsub,hd2,hside k e he hkl,Option.bind_some,c1],⟨k+1,rfl,by omega,fun q=>by omega,fun e2 he2=>?_⟩,hmu _ _⟩
    rw [he'] at he2
    injection he2 with he2
    subst he2
    have hl:s (e'-1)=s e:=hst _ (by omega) (by omega)
    simp only [hl]
    have hprev:∀ x,0<k→xs[k-1]?=some x→s x=last:=fun x hk0 hx=>by
     rw [hlast]
     exact (before h (k:=k-1) hx (by rw [show k-1+1=k from by omega];exact he)).symm
    by_cases e0:s e=0
    ·refine ⟨L,Ij hL hee hst e0,by omega,by trivial,fun _=>?_,fun q=>absurd e0 q⟩
     by_cases e1:last=0
     ·rw [c2 (.inr e1)];exact hzero e1
     ·exact c3 (fun q=>e1 (by rw [← q];exact e0))
    ·by_cases e1:s e=last
     ·obtain ⟨l0,a,hla,hrun⟩:=Nb hL hee hst hlo e0 (by rw [← hlast];exact e1.symm)
      obtain ⟨L0,f,a',hLe,hfa,hfk,hout',hsame,hpv⟩:=hopen (by rw [← e1];exact e0)
      rw [hla] at hLe
      obtain ⟨rfl,e2⟩:=List.append_inj' hLe rfl
      injection e2 with e2 _
      injection e2 with e2 _
      subst e2
      refine ⟨l0++[(a,e')],hrun,by rw [hla] at hLk;simp at hLk ⊢;omega,by trivial,fun q=>absurd q e0,fun _=>⟨l0,f,a,rfl,hfa,by omega,by rw [c2 (.inl e1)];exact hout',fun i x i1 i2 hx=>?_,fun hf x hx=>?_⟩⟩
      ·by_cases e3:i<k
       ·rw [hsame i x i1 e3 hx,e1]
       ·obtain rfl:i=k:=by omega
        rw [he] at hx;injection hx with hx;rw [hx]
      ·rw [e1];exact hpv hf x hx
     ·refine ⟨L++[(e,e')],Sa hL hee hst e0 (by rw [← hlast];exact fun q=>e1 q.symm),by simp;omega,by trivial,fun q=>absurd q e0,fun _=>⟨L,k,e,rfl,he,by omega,c3 e1,fun i x i1 i2 hx=>?_,fun hf x hx=>?_⟩⟩
      ·obtain rfl:i=k:=by omega
       rw [he] at hx;injection hx with hx;rw [hx]
      ·rw [hprev x hf hx];exact fun q=>e1 q.symm
   ·-- the end
    have hd2:¬ (k:Int)<(xs.length:Int)-1:=by omega
    obtain ⟨out',c1,c2,c3⟩:=close 0
    refine ⟨(0,((k+1:Nat):Int),out'),by simp only [hd,decide_true,if_true,hsub,hd2,decide_false,Bool.false_eq_true,if_false,c1],⟨k+1,rfl,by omega,fun _=>⟨L, ?_, ?_,by omega⟩,fun e2 he2=>by have:=aV he2;omega⟩,hmu _ _⟩
    ·by_cases e1:last=0
     ·rw [c2 (.inr e1)];exact hzero e1
     ·exact c3 (fun q=>e1 q.symm)
    ·exact Ma hL (h.high e (by rw [show xs.length-1=k from by omega];exact he))) (0,0,out0)
   ⟨0,rfl,by omega,fun q=>⟨[],by simp,by
    have:xs=[]:=List.eq_nil_of_length_eq_zero q.symm
    have hz:=h.none this
    refine ⟨.nil,fun a b=>⟨fun m=>by simp at m,fun m=>absurd (hz a) m.2.1⟩⟩,by simp⟩,fun e he=>⟨[],Ju (h.low e he),by simp,(h.low e he _ (by omega)).symm,fun _=>by simp,fun q=>absurd rfl q⟩⟩
 obtain ⟨L,rfl,q3,q4⟩:=q2
 exact ⟨L,by unfold gr;rw [q1];rfl,q3,q4⟩
end
def hl (p:Int→Int→Bool) (y:Int):Int→Int:=fun z=>one (p z y)-one (p z (y-1))
def vl (p:Int→Int→Bool) (x:Int):Int→Int:=fun z=>one (p x z)-one (p (x-1) z)
def mkH (y:Int) (q:Int×Int):aF:=⟨q.1,y,q.2,y⟩
def mkV (x:Int) (q:Int×Int):aF:=⟨x,q.1,x,q.2⟩
def yS (p:Int→Int→Bool) (xs ys:List Int):List aF:=ys.flatMap (fun y=>(cD (hl p y)).map (mkH y))++xs.flatMap fun x=>(cD (vl p x)).map (mkV x)
section
variable {xs ys:List Int} {l:List aM} (h:Has xs ys l)
include h
theorem Va:(∀ x0,xs[0]?=some x0→∀ x y,x<x0→cov l x y=false)∧(∀ x1,xs[xs.length-1]?=some x1→∀ x y,x1≤x→cov l x y=false)∧(xs=[]→∀ x y,cov l x y=false) ∧
  (∀ y0,ys[0]?=some y0→∀ x y,y<y0→cov l x y=false)∧(∀ y1,ys[ys.length-1]?=some y1→∀ x y,y1≤y→cov l x y=false)∧(ys=[]→∀ x y,cov l x y=false):=by
 have first:∀ {g:List Int} {a b:Int},(g.Pairwise fun x y=>x<y)→g[0]?=some a→b ∈ g→a≤b:=fun {g a b} hg ha hb=>by
  obtain ⟨i,hi⟩:=List.mem_iff_getElem?.1 hb
  rcases Nat.eq_zero_or_pos i with q | q
  ·subst q;rw [ha] at hi;injection hi with hi;omega
  ·have:=Bg hg q ha hi;omega
 have last_:∀ {g:List Int} {a b:Int},(g.Pairwise fun x y=>x<y)→g[g.length-1]?=some a→b ∈ g→b≤a:=fun {g a b} hg ha hb=>by
  obtain ⟨i,hi⟩:=List.mem_iff_getElem?.1 hb
  have:=aV hi
  by_cases q:i=g.length-1
  ·subst q;rw [ha] at hi;injection hi with hi;omega
  ·have:=Bg hg (show i<g.length-1 by omega) hi ha;omega
 have no:∀ x y,¬ ((∃ a ∈ xs,a≤x)∧(∃ a ∈ xs,x<a)∧(∃ a ∈ ys,a≤y)∧(∃ a ∈ ys,y<a))→cov l x y=false:=fun x y q=>by
  cases hc:cov l x y with
  | false=>rfl
  | true=>exact absurd (BR h hc) q
 refine ⟨fun x0 hx0 x y q=>no x y ?_,fun x1 hx1 x y q=>no x y ?_,fun q x y=>no x y ?_,fun y0 hy0 x y q=>no x y ?_,fun y1 hy1 x y q=>no x y ?_,fun q x y=>no x y ?_⟩
 ·rintro ⟨⟨a,ha,a1⟩,_⟩;have:=first h.X.asc hx0 ha;omega
 ·rintro ⟨_,⟨a,ha,a1⟩,_⟩;have:=last_ h.X.asc hx1 ha;omega
 ·rintro ⟨⟨a,ha,a1⟩,_⟩;rw [q] at ha;simp at ha
 ·rintro ⟨_,_,⟨a,ha,a1⟩,_⟩;have:=first h.Y.asc hy0 ha;omega
 ·rintro ⟨_,_,_,⟨a,ha,a1⟩⟩;have:=last_ h.Y.asc hy1 ha;omega
 ·rintro ⟨_,_,⟨a,ha,a1⟩,_⟩;rw [q] at ha;simp at ha
theorem Hl (y:Int):Gh (hl (cov l) y) xs:=by
 obtain ⟨c1,c2,c3,_⟩:=Va h
 refine ⟨uZ (fun q:Int→Bool=>one (q y)-one (q (y-1))) (DE h),h.X.len,fun x0 hx0 z hz=>?_,fun x1 hx1 z hz=>?_,fun q z=>?_⟩
 ·unfold hl;rw [c1 x0 hx0 z y hz,c1 x0 hx0 z (y-1) hz];rfl
 ·unfold hl;rw [c2 x1 hx1 z y hz,c2 x1 hx1 z (y-1) hz];rfl
 ·unfold hl;rw [c3 q z y,c3 q z (y-1)];rfl
theorem Hm (x:Int):Gh (vl (cov l) x) ys:=by
 obtain ⟨_,_,_,c1,c2,c3⟩:=Va h
 have st:sA (fun y=>(cov l x y,cov l (x-1) y)) ys:=by
  have h1:=Wh h x
  have h2:=Wh h (x-1)
  have:∀ g:List Int,sA (fun y=>cov l x y) g→sA (fun y=>cov l (x-1) y) g→sA (fun y=>(cov l x y,cov l (x-1) y)) g:=fun g=>by
   induction g with
   | nil=>exact fun _ _=>trivial
   | cons a t ih=>cases t with
     | nil=>exact fun _ _=>trivial
     | cons b t=>exact fun q1 q2=>⟨q1.1,fun z z1 z2=>by simp only [q1.2.1 z z1 z2,q2.2.1 z z1 z2],ih q1.2.2 q2.2.2⟩
  exact this ys h1 h2
 refine ⟨uZ (fun q:Bool×Bool=>one q.1-one q.2) st,h.Y.len,fun x0 hx0 z hz=>?_,fun x1 hx1 z hz=>?_,fun q z=>?_⟩
 ·unfold vl;rw [c1 x0 hx0 x z hz,c1 x0 hx0 (x-1) z hz];rfl
 ·unfold vl;rw [c2 x1 hx1 x z hz,c2 x1 hx1 (x-1) z hz];rfl
 ·unfold vl;rw [c3 q x z,c3 q (x-1) z];rfl
theorem Tm {i j:Int} {x y:Int} (hx:(∃ k:Nat,i=k∧xs[k]?=some x)∨(i=-1∧∃ x1,xs[0]?=some x1∧x<x1)) (hy:(∃ k:Nat,j=k∧ys[k]?=some y)∨(j=-1∧∃ y1,ys[0]?=some y1∧y<y1)) :
  eL i j (mat xs ys (cov l))=some (one (cov l x y)):=by
 obtain ⟨c1,c2,_,d1,d2,_⟩:=Va h
 rcases hx with ⟨i,rfl,hx⟩ | ⟨rfl,x1,hx1,hlt⟩
 ·have hi0:¬ (i:Int)<0:=by omega
  have hil:=aV hx
  rcases hy with ⟨j,rfl,hy⟩ | ⟨rfl,y1,hy1,hlt⟩
  ·have hj0:¬ (j:Int)<0:=by omega
   have hjl:=aV hy
   by_cases hi:i+1<xs.length
   ·have hi1:¬ (i:Int) ≥ ((mat xs ys (cov l)).length:Int):=by rw [Vt];omega
    have hm:=CJ (p:=cov l) (ys:=ys) hx hi
    by_cases hj:j+1<ys.length
    ·have hj1:¬ (j:Int) ≥ ((ys.dropLast.map fun y=>cov l x y).length:Int):=by simp;omega
     have hr:=CY (q:=fun y=>cov l x y) hy hj
     unfold eL
     simp only [hi0,hj0,hi1,hj1,decide_false,Bool.false_eq_true,if_false,aQ hm,aQ hr,Option.bind_some]
     cases cov l x y <;> rfl
    ·have hj1:(j:Int) ≥ ((ys.dropLast.map fun y=>cov l x y).length:Int):=by simp;omega
     have e:cov l x y=false:=d2 y (by rw [show ys.length-1=j from by omega];exact hy) x y (Int.le_refl _)
     unfold eL
     simp only [hi0,hj0,hi1,hj1,decide_false,decide_true,Bool.false_eq_true,if_false,if_true,aQ hm,Option.bind_some,e]
     rfl
   ·have hi1:(i:Int) ≥ ((mat xs ys (cov l)).length:Int):=by rw [Vt];omega
    have e:cov l x y=false:=c2 x (by rw [show xs.length-1=i from by omega];exact hx) x y (Int.le_refl _)
    unfold eL
    simp only [hi0,hj0,hi1,decide_false,decide_true,Bool.false_eq_true,if_false,if_true,Option.bind_some,e]
    rfl
  ·have e:cov l x y=false:=d1 y1 hy1 x y hlt
   have hj:((-1:Int)<0):=by omega
   unfold eL
   simp only [hi0,hj,decide_false,decide_true,Bool.false_eq_true,if_false,if_true,Option.bind_some,e]
   rfl
 ·have e:cov l x y=false:=c1 x1 hx1 x y hlt
  have hj:((-1:Int)<0):=by omega
  unfold eL
  simp only [hj,decide_true,if_true,Option.bind_some,e]
  rfl
omit h in
theorem CN {k:Nat} {g:List Int} {e:Int} (hg:(g.Pairwise fun x y=>x<y)) (hk:g[k]?=some e):(∃ k':Nat,(k:Int)-1=k'∧∃ x,g[k']?=some x∧x<e∧g[k'+1]?=some e)∨((k:Int)-1=-1∧g[0]?=some e):=by
 rcases Nat.eq_zero_or_pos k with q | q
 ·subst q;exact .inr ⟨by omega,hk⟩
 ·left
  have:=aV hk
  obtain ⟨x,hx⟩:∃ x,g[k-1]?=some x:=⟨_,List.getElem?_eq_getElem (by omega)⟩
  exact ⟨k-1,by omega,x,hx,Bg hg (show k-1<k by omega) hx hk,by rw [show k-1+1=k from by omega];exact hk⟩
omit h in
theorem one_sub (a b:Bool):aK (one a) (one b)=one a-one b:=by cases a <;> cases b <;> decide
theorem RN {i j:Nat} {x y:Int} (hx:xs[i]?=some x) (hy:ys[j]?=some y):mJ (i:Int) (mat xs ys (cov l)) (j:Int)=some (hl (cov l) y x):=by
 have hyl:=h.Y.len
 have hjl:=aV hy
 have a1:=Tm h (i:=i) (j:=j) (x:=x) (y:=y) (.inl ⟨i,rfl,hx⟩) (.inl ⟨j,rfl,hy⟩)
 have hs:aK (j:Int) 1=(j:Int)-1:=bC (by omega) (by omega)
 have a2:eL (i:Int) ((j:Int)-1) (mat xs ys (cov l))=some (one (cov l x (y-1))):=by
  rcases CN h.Y.asc hy with ⟨k',e1,w,hw,hlt,hw1⟩ | ⟨e1,h0⟩
  ·rw [e1]
   have:=Tm h (i:=i) (j:=k') (x:=x) (y:=w) (.inl ⟨i,rfl,hx⟩) (.inl ⟨k',rfl,hw⟩)
   have st:=(mO (Wh h x) hw hw1).2 (y-1) (by omega) (by omega)
   rw [st];exact this
  ·rw [e1]
   exact Tm h (i:=i) (j:=-1) (x:=x) (y:=y-1) (.inl ⟨i,rfl,hx⟩) (.inr ⟨rfl,y,h0,by omega⟩)
 unfold mJ hl
 rw [a1,hs,a2]
 simp only [Option.bind_some,one_sub]
theorem RO {i j:Nat} {x y:Int} (hx:xs[i]?=some x) (hy:ys[j]?=some y):mK (j:Int) (mat xs ys (cov l)) (i:Int)=some (vl (cov l) x y):=by
 have hxl:=h.X.len
 have hil:=aV hx
 have a1:=Tm h (i:=i) (j:=j) (x:=x) (y:=y) (.inl ⟨i,rfl,hx⟩) (.inl ⟨j,rfl,hy⟩)
 have hs:aK (i:Int) 1=(i:Int)-1:=bC (by omega) (by omega)
 have a2:eL ((i:Int)-1) (j:Int) (mat xs ys (cov l))=some (one (cov l (x-1) y)):=by
  rcases CN h.X.asc hx with ⟨k',e1,w,hw,hlt,hw1⟩ | ⟨e1,h0⟩
  ·rw [e1]
   have:=Tm h (i:=k') (j:=j) (x:=w) (y:=y) (.inl ⟨k',rfl,hw⟩) (.inl ⟨j,rfl,hy⟩)
   have st:=(mO (DE h) hw hw1).2 (x-1) (by omega) (by omega)
   rw [congrFun st y];exact this
  ·rw [e1]
   exact Tm h (i:=-1) (j:=j) (x:=x-1) (y:=y) (.inr ⟨rfl,x,h0,by omega⟩) (.inl ⟨j,rfl,hy⟩)
 unfold mK vl
 rw [a1,hs,a2]
 simp only [Option.bind_some,one_sub]
theorem Tb:∃ r,aH (qT ⟨xs,ys⟩ (mat xs ys (cov l))) (0,[])=some r∧aH (qU ⟨xs,ys⟩ (mat xs ys (cov l))) (0,r)=some (yS (cov l) xs ys)∧(yS (cov l) xs ys).length≤2000000∧r=ys.flatMap fun y=>(cD (hl (cov l) y)).map (mkH y):=by
 have hX:=h.X.len
 have hY:=h.Y.len
 obtain ⟨r,q1,q2,q3⟩:=gG ys (fun k (s:List aF)=>((k:Int),s)) (qT ⟨xs,ys⟩ (mat xs ys (cov l))) (fun s=>s) (fun k s=>s=(ys.take k).flatMap (fun y=>(cD (hl (cov l) y)).map (mkH y))∧s.length≤1000*k) [] ⟨rfl,by simp⟩
  (fun k y s hy hI=>by
   have hk:=aV hy
   have hd:decide ((k:Int)<(ys.length:Int))=true:=by simp [hk]
   obtain ⟨L,g1,g2,g3⟩:=CC (Hl h y) (side:=fun i=>mJ i (mat xs ys (cov l)) (k:Int)) (fun i x hx hi=>RN h hx hy) (found:=fun a b s=>sL a b y s) (mk:=mkH y) (fun a b s hs=>by
    unfold sL
    rw [jE (by simp [LIM];omega)];rfl) (out0:=s) (by omega)
   have gl:(cD (hl (cov l) y))=L:=pQ g2
   unfold qT
   simp only [hd,if_true,aQ hy,Option.bind_some,KK,g1,bH k (by omega)]
   refine ⟨_,rfl, ?_,by simp;omega⟩
   rw [eD hy,List.flatMap_append,hI.1]
   simp [gl]) (fun s _=>by simp [qT])
 rw [List.take_length] at q2
 obtain ⟨r',t1,t2,t3⟩:=gG xs (fun k (s:List aF)=>((k:Int),s)) (qU ⟨xs,ys⟩ (mat xs ys (cov l))) (fun s=>s) (fun k s=>s=r++(xs.take k).flatMap (fun x=>(cD (vl (cov l) x)).map (mkV x))∧s.length≤1000000+1000*k) r ⟨by simp,by omega⟩
  (fun k x s hx hI=>by
   have hk:=aV hx
   have hd:decide ((k:Int)<(xs.length:Int))=true:=by simp [hk]
   obtain ⟨L,g1,g2,g3⟩:=CC (Hm h x) (side:=fun i=>mK i (mat xs ys (cov l)) (k:Int)) (fun i y hy hi=>RO h hx hy) (found:=fun a b s=>sM a b x s) (mk:=mkV x) (fun a b s hs=>by
    unfold sM
    rw [jE (by simp [LIM];omega)];rfl) (out0:=s) (by omega)
   have gl:(cD (vl (cov l) x))=L:=pQ g2
   unfold qU
   simp only [hd,if_true,aQ hx,Option.bind_some,KL,g1,bH k (by omega)]
   refine ⟨_,rfl, ?_,by simp;omega⟩
   rw [eD hx,List.flatMap_append,hI.1]
   simp [gl]) (fun s _=>by simp [qU])
 rw [List.take_length] at t2
 have e:r'=yS (cov l) xs ys:=by rw [t2,q2];rfl
 refine ⟨r,by rw [show ((0:Int),([]:List aF))=(((0:Nat):Int),[]) from rfl,q1],by rw [show ((0:Int),r)=(((0:Nat):Int),r) from rfl,t1,e],by rw [← e];omega,q2⟩
end
theorem Pw {l:List aM} (hc:Nq [l]=0):∃ xs ys,tF l=some (yS (cov l) xs ys,0)∧jB xs (xsL l)∧jB ys (ysL l)∧(yS (cov l) xs ys).length≤2000000:=by
 obtain ⟨hl,hv⟩:=HA hc
 obtain ⟨xs,ys,g1,g2,g3⟩:=AH (lists:=[l]) (by simp) (fun x hx=>by simp at hx;subst hx;exact ⟨hv,by omega⟩)
 simp only [List.flatMap_cons,List.flatMap_nil,List.append_nil] at g2 g3
 have hH:=Ra hv (by omega) g2 g3 (fun r hr=>hr)
 obtain ⟨r,o1,o2,o3,_⟩:=Tb hH
 refine ⟨xs,ys, ?_,g2,g3,o3⟩
 unfold tF
 rw [KF (by simp),Option.bind_some]
 simp only [hc,bne_self_eq_false,Bool.false_eq_true,if_false,g1,Option.bind_some,Zk hv (show l.length≤1000 by omega) hH.X.len hH.Y.len (EO g2 g3),o1,o2]
def cH (p q:Int→Int→Bool) (y:Int):Int→Int:=fun z=>if hl p y z≠0∧hl q y z≠0 then hl p y z else 0
def cV (p q:Int→Int→Bool) (x:Int):Int→Int:=fun z=>if vl p x z≠0∧vl q x z≠0 then vl p x z else 0
def HC (p q:Int→Int→Bool) (xs ys:List Int):List aF:=ys.flatMap (fun y=>(cD (cH p q y)).map (mkH y))++xs.flatMap fun x=>(cD (cV p q x)).map (mkV x)
theorem wS {s:Int→Int} (h:∀ z,s z=0):cD s=[]:=pQ ⟨.nil,fun a b=>⟨fun m=>by simp at m,fun m=>absurd (h a) m.2.1⟩⟩
theorem oD {s:Int→Int} {xs:List Int} (h:Gh s xs):eF s (cD s):=by
 obtain ⟨L,_,h2,_⟩:=CC h (side:=fun i=>(xs[i.toNat]?).map s) (fun i x hx _=>by simp [hx]) (found:=fun a b l=>some (l++[mkH 0 (a,b)])) (mk:=mkH 0) (fun a b l _=>rfl) (out0:=[]) (by simp)
 rw [pQ h2];exact h2
theorem Cy {s:Int→Int} {xs:List Int} (h:Gh s xs):Bd s:=by
 obtain ⟨lo,h1⟩:=Wt h
 rcases Nat.eq_zero_or_pos xs.length with q | q
 ·exact ⟨lo,0,h1,fun z _=>h.none (List.eq_nil_of_length_eq_zero q) z⟩
 ·obtain ⟨x,hx⟩:∃ x,xs[xs.length-1]?=some x:=⟨_,List.getElem?_eq_getElem (by omega)⟩
  exact ⟨lo,x,h1,h.high x hx⟩
theorem Lz {s:Int→Int} {p:Int×Int} (hp:p ∈ cD s):p.1<p.2:=by
 unfold cD at hp
 split at hp
 ·rename_i hx
  exact (((Classical.choose_spec hx).2 p.1 p.2).1 hp).1
 ·cases hp
theorem HG {l:List aM} {ys:List Int} (gy:jB ys (ysL l)) {y:Int} (hy:y ∉ ys) (z:Int):cov l z y=cov l z (y-1):=by
 have hn:∀ r ∈ l,y≠r.Y∧y≠r.Y+r.H:=fun r hr=>by
  have:=Hk hr
  exact ⟨fun e=>hy ((gy.2 y).2 (by rw [e];exact this.1)),fun e=>hy ((gy.2 y).2 (by rw [e];exact this.2))⟩
 rw [Bool.eq_iff_iff,Bi,Bi]
 constructor
 ·rintro ⟨r,hr,h⟩;refine ⟨r,hr, ?_⟩;have:=hn r hr;rw [Ca] at h ⊢;omega
 ·rintro ⟨r,hr,h⟩;refine ⟨r,hr, ?_⟩;have:=hn r hr;rw [Ca] at h ⊢;omega
theorem HF {l:List aM} {xs:List Int} (gx:jB xs (xsL l)) {x:Int} (hx:x ∉ xs) (z:Int):cov l x z=cov l (x-1) z:=by
 have hn:∀ r ∈ l,x≠r.X∧x≠r.X+r.W:=fun r hr=>by
  have:=Kc hr
  exact ⟨fun e=>hx ((gx.2 x).2 (by rw [e];exact this.1)),fun e=>hx ((gx.2 x).2 (by rw [e];exact this.2))⟩
 rw [Bool.eq_iff_iff,Bi,Bi]
 constructor
 ·rintro ⟨r,hr,h⟩;refine ⟨r,hr, ?_⟩;have:=hn r hr;rw [Ca] at h ⊢;omega
 ·rintro ⟨r,hr,h⟩;refine ⟨r,hr, ?_⟩;have:=hn r hr;rw [Ca] at h ⊢;omega
theorem Zv {l:List aM} {ys:List Int} (gy:jB ys (ysL l)) {y:Int} (hy:y ∉ ys) (z:Int):hl (cov l) y z=0:=by
 unfold hl;rw [HG gy hy];omega
theorem BJ {l:List aM} {xs:List Int} (gx:jB xs (xsL l)) {x:Int} (hx:x ∉ xs) (z:Int):vl (cov l) x z=0:=by
 unfold vl;rw [HF gx hx];omega
def Dj (p q:Int→Int→Bool):Prop:=∀ x y,p x y=true→q x y=true→False
theorem opp {p q:Int→Int→Bool} (h:Dj p q) {a b c d:Int} (h1:one (p a b)-one (p c d)≠0) (h2:one (q a b)-one (q c d)≠0):one (q a b)-one (q c d)=-(one (p a b)-one (p c d)):=by
 have e1:=h a b
 have e2:=h c d
 cases hp:p a b <;> cases hq:q a b <;> cases hp':p c d <;> cases hq':q c d <;> simp [hp,hq,hp',hq',one] at *
theorem PH {p q:Int→Int→Bool} (h:Dj p q) {y z:Int} (hc:cH p q y z≠0):hl q y z=- cH p q y z:=by
 unfold cH at hc ⊢
 by_cases hh:hl p y z≠0∧hl q y z≠0
 ·rw [if_pos hh]
  exact opp h hh.1 hh.2
 ·rw [if_neg hh] at hc;exact absurd rfl hc
theorem PI {p q:Int→Int→Bool} (h:Dj p q) {y z:Int} (hc:cV p q y z≠0):vl q y z=- cV p q y z:=by
 unfold cV at hc ⊢
 by_cases hh:vl p y z≠0∧vl q y z≠0
 ·rw [if_pos hh]
  exact opp h hh.1 hh.2
 ·rw [if_neg hh] at hc;exact absurd rfl hc
theorem Mr {a:Int} {P:Prop} [Decidable P] (ha:P→a≠0):(if P then a else 0)≠0↔P:=by
 by_cases h:P
 ·rw [if_pos h];exact ⟨fun _=>h,fun _=>ha h⟩
 ·rw [if_neg h];exact ⟨fun q=>absurd rfl q,fun q=>absurd q h⟩
theorem NH {p q:Int→Int→Bool} (h:Dj p q) {y:Int} {xs xs':List Int} (h1:Gh (hl p y) xs) (h2:Gh (hl q y) xs'):eF (cH p q y) ((cD (hl p y)).flatMap (meets (cD (hl q y)))):=
 Uk (oD h1) (oD h2) (Cy h1) (Cy h2) (fun z=>Mr fun q=>q.1) (fun z hz=>by unfold cH at hz ⊢;have:=(Mr fun q=>q.1).1 hz;rw [if_pos this]) (fun z hz=>by
  rw [PH h hz];congr 1;unfold cH at hz ⊢;have:=(Mr fun q=>q.1).1 hz;rw [if_pos this])
theorem NI {p q:Int→Int→Bool} (h:Dj p q) {y:Int} {xs xs':List Int} (h1:Gh (vl p y) xs) (h2:Gh (vl q y) xs'):eF (cV p q y) ((cD (vl p y)).flatMap (meets (cD (vl q y)))):=
 Uk (oD h1) (oD h2) (Cy h1) (Cy h2) (fun z=>Mr fun q=>q.1) (fun z hz=>by unfold cV at hz ⊢;have:=(Mr fun q=>q.1).1 hz;rw [if_pos this]) (fun z hz=>by
  rw [PI h hz];congr 1;unfold cV at hz ⊢;have:=(Mr fun q=>q.1).1 hz;rw [if_pos this])
def inter (s t:aF):List aF:=
 if (s.Y1=s.Y2∧t.Y1=t.Y2∧s.Y1=t.Y1∧max s.X1 t.X1<min s.X2 t.X2)∨(s.X1=s.X2∧t.X1=t.X2∧s.X1=t.X1∧max s.Y1 t.Y1<min s.Y2 t.Y2) then [⟨max s.X1 t.X1,max s.Y1 t.Y1,min s.X2 t.X2,min s.Y2 t.Y2⟩] else []
theorem IM {y x:Int} {p q:Int×Int} (hp:p.1<p.2) (hq:q.1<q.2):inter (mkH y p) (mkV x q)=[]:=by
 unfold inter mkH mkV
 rw [if_neg]
 simp only
 omega
theorem IP {y x:Int} {p q:Int×Int} (hp:p.1<p.2) (hq:q.1<q.2):inter (mkV x p) (mkH y q)=[]:=by
 unfold inter mkH mkV
 rw [if_neg]
 simp only
 omega
theorem Xu {y y':Int} {p q:Int×Int} (hp:p.1<p.2):inter (mkH y p) (mkH y' q)=if y'=y then (if (meet p q).1<(meet p q).2 then [mkH y (meet p q)] else []) else []:=by
 unfold inter mkH meet
 simp only
 by_cases h:y'=y
 ·subst h
  rw [if_pos rfl]
  by_cases h2:max p.1 q.1<min p.2 q.2
  ·rw [if_pos h2,if_pos (by refine Or.inl ⟨?_, ?_, ?_,h2⟩ <;> trivial)]
   rw [show max y' y'=y' by omega,show min y' y'=y' by omega]
  ·rw [if_neg h2,if_neg]
   omega
 ·rw [if_neg h,if_neg]
  omega
theorem Xv {y y':Int} {p q:Int×Int} (hp:p.1<p.2):inter (mkV y p) (mkV y' q)=if y'=y then (if (meet p q).1<(meet p q).2 then [mkV y (meet p q)] else []) else []:=by
 unfold inter mkV meet
 simp only
 by_cases h:y'=y
 ·subst h
  rw [if_pos rfl]
  by_cases h2:max p.1 q.1<min p.2 q.2
  ·rw [if_pos h2,if_pos (by refine Or.inr ⟨?_, ?_, ?_,h2⟩ <;> trivial)]
   rw [show max y' y'=y' by omega,show min y' y'=y' by omega]
  ·rw [if_neg h2,if_neg]
   omega
 ·rw [if_neg h,if_neg]
  omega
theorem Rm (M:List (Int×Int)) (p:Int×Int) (f:Int×Int→aF):(meets M p).map f=M.flatMap fun q=>if (meet p q).1<(meet p q).2 then [f (meet p q)] else []:=by
 unfold meets
 induction M with
 | nil=>rfl
 | cons q t ih =>
   rw [List.map_cons,List.filter_cons,List.flatMap_cons]
   by_cases h:(meet p q).1<(meet p q).2
   ·rw [if_pos (by simpa using h),if_pos h,List.map_cons,ih];rfl
   ·rw [if_neg (by simpa using h),if_neg h,ih];rfl
theorem Xk {β:Type} {l:List Int} (h:l.Pairwise fun x y=>x<y) (y:Int) (m:List β):(l.flatMap fun x=>if x=y then m else [])=if y ∈ l then m else []:=by
 induction l with
 | nil=>rfl
 | cons x t ih =>
   have hh:=List.pairwise_cons.1 h
   rw [List.flatMap_cons,ih hh.2]
   by_cases e:x=y
   ·subst e
    have:x ∉ t:=fun q=>by have:=hh.1 x q;omega
    rw [if_pos rfl,if_neg this,if_pos List.mem_cons_self,List.append_nil]
   ·rw [if_neg e,List.nil_append]
    by_cases q:y ∈ t
    ·rw [if_pos q,if_pos (List.mem_cons_of_mem _ q)]
    ·rw [if_neg q,if_neg]
     intro z
     rcases List.mem_cons.1 z with z | z
     ·exact e z.symm
     ·exact q z
theorem Dp {α β:Type} (l:List α) {f:α→List β} (h:∀ x ∈ l,f x=[]):l.flatMap f=[]:=by
 induction l with
 | nil=>rfl
 | cons x t ih=>rw [List.flatMap_cons,h x List.mem_cons_self,ih fun y hy=>h y (List.mem_cons_of_mem _ hy)];rfl
theorem wF {α β:Type} (l:List α) {f g:α→List β} (h:∀ x ∈ l,f x=g x):l.flatMap f=l.flatMap g:=by
 induction l with
 | nil=>rfl
 | cons x t ih=>rw [List.flatMap_cons,List.flatMap_cons,h x List.mem_cons_self,ih fun y hy=>h y (List.mem_cons_of_mem _ hy)]
theorem rE {α β γ:Type} (l:List α) (f:α→List β) (g:β→List γ):(l.flatMap f).flatMap g=l.flatMap fun x=>(f x).flatMap g:=by
 induction l with
 | nil=>rfl
 | cons x t ih=>rw [List.flatMap_cons,List.flatMap_cons,List.flatMap_append,ih]
section
variable {a b:List aM} {xa ya xb yb xs ys:List Int} (gxa:jB xa (xsL a)) (gya:jB ya (ysL a)) (gxb:jB xb (xsL b)) (gyb:jB yb (ysL b)) (ha:Has xa ya a) (hb:Has xb yb b)
include gyb in
theorem MN {y:Int} {p:Int×Int} (hp:p.1<p.2):(yS (cov b) xb yb).flatMap (inter (mkH y p))=(meets (cD (hl (cov b) y)) p).map (mkH y):=by
 unfold yS
 rw [List.flatMap_append,rE,rE]
 rw [Dp xb (f:=fun x=>((cD (vl (cov b) x)).map (mkV x)).flatMap (inter (mkH y p))) (fun x _=>Dp _ fun s hs=>by
  obtain ⟨q,hq,rfl⟩:=List.mem_map.1 hs
  exact IM hp (Lz hq)),List.append_nil]
 have e:∀ y':Int,((cD (hl (cov b) y')).map (mkH y')).flatMap (inter (mkH y p))=if y'=y then (meets (cD (hl (cov b) y)) p).map (mkH y) else []:=fun y'=>by
  rw [List.flatMap_map]
  by_cases h:y'=y
  ·subst h
   rw [if_pos rfl,Rm]
   exact wF _ fun q _=>by rw [Xu hp,if_pos rfl]
  ·rw [if_neg h]
   exact Dp _ fun q _=>by rw [Xu hp,if_neg h]
 simp only [e]
 rw [Xk gyb.1]
 by_cases h:y ∈ yb
 ·rw [if_pos h]
 ·rw [if_neg h,wS (Zv gyb h)];rfl
include gxb in
theorem MO {y:Int} {p:Int×Int} (hp:p.1<p.2):(yS (cov b) xb yb).flatMap (inter (mkV y p))=(meets (cD (vl (cov b) y)) p).map (mkV y):=by
 unfold yS
 rw [List.flatMap_append,rE,rE]
 rw [Dp yb (f:=fun x=>((cD (hl (cov b) x)).map (mkH x)).flatMap (inter (mkV y p))) (fun x _=>Dp _ fun s hs=>by
  obtain ⟨q,hq,rfl⟩:=List.mem_map.1 hs
  exact IP hp (Lz hq)),List.nil_append]
 have e:∀ y':Int,((cD (vl (cov b) y')).map (mkV y')).flatMap (inter (mkV y p))=if y'=y then (meets (cD (vl (cov b) y)) p).map (mkV y) else []:=fun y'=>by
  rw [List.flatMap_map]
  by_cases h:y'=y
  ·subst h
   rw [if_pos rfl,Rm]
   exact wF _ fun q _=>by rw [Xv hp,if_pos rfl]
  ·rw [if_neg h]
   exact Dp _ fun q _=>by rw [Xv hp,if_neg h]
 simp only [e]
 rw [Xk gxb.1]
 by_cases h:y ∈ xb
 ·rw [if_pos h]
 ·rw [if_neg h,wS (BJ gxb h)];rfl
include gxa gya gxb gyb ha hb
theorem HD (hd:Dj (cov a) (cov b)) (hx:xs.Pairwise fun x y=>x<y) (hy:ys.Pairwise fun x y=>x<y) (sx:∀ x ∈ xa,x ∈ xs) (sy:∀ y ∈ ya,y ∈ ys) :
  (yS (cov a) xa ya).flatMap (fun s=>(yS (cov b) xb yb).flatMap (inter s))=HC (cov a) (cov b) xs ys:=by
 have eH:∀ y,((cD (hl (cov a) y)).map (mkH y)).flatMap (fun s=>(yS (cov b) xb yb).flatMap (inter s))=(cD (cH (cov a) (cov b) y)).map (mkH y):=fun y=>by
  rw [List.flatMap_map,pQ (NH hd (Hl ha y) (Hl hb y)),List.map_flatMap]
  exact wF _ fun p hp=>MN gyb (Lz hp)
 have eV:∀ y,((cD (vl (cov a) y)).map (mkV y)).flatMap (fun s=>(yS (cov b) xb yb).flatMap (inter s))=(cD (cV (cov a) (cov b) y)).map (mkV y):=fun y=>by
  rw [List.flatMap_map,pQ (NI hd (Hm ha y) (Hm hb y)),List.map_flatMap]
  exact wF _ fun p hp=>MO gxb (Lz hp)
 have e0:yS (cov a) xa ya=ya.flatMap (fun y=>(cD (hl (cov a) y)).map (mkH y))++xa.flatMap fun x=>(cD (vl (cov a) x)).map (mkV x):=rfl
 rw [e0,List.flatMap_append,rE,rE]
 simp only [eH,eV]
 unfold HC
 rw [Lc gya.1 hy sy (fun y q=>by
  rw [wS (s:=cH (cov a) (cov b) y) (fun z=>by unfold cH;rw [Zv gya q z];simp)];rfl),Lc gxa.1 hx sx (fun y q=>by
  rw [wS (s:=cV (cov a) (cov b) y) (fun z=>by unfold cV;rw [BJ gxa q z];simp)];rfl)]
end
theorem Ul {A B:Int→Option Int} {xs:List Int} (h:Al A B xs) {i j:Int} (hij:i≠j) {c:Int→Int}
  (h1:∀ z,c z=1↔A z=some i∧B z=some j) (h2:∀ z,c z=-1↔A z=some j∧B z=some i) (h3:∀ z,c z≠0→c z=1∨c z=-1) {L:List (Int×Int)} (hL:eF (fun z=>cod (A z) (B z)) L) :
  eF c (L.filter fun p=>decide ((A p.1=some i∧B p.1=some j)∨(A p.1=some j∧B p.1=some i))):=by
 have n0:∀ z,cod (A z) (B z)=0↔A z=B z:=fun z=>h.s0 z
 have hP:∀ z,c z≠0↔(A z=some i∧B z=some j)∨(A z=some j∧B z=some i):=fun z=>by
  rw [← h1,← h2]
  exact ⟨h3 z,fun q=>by omega⟩
 have hne:∀ z,c z≠0→cod (A z) (B z)≠0:=fun z hz q=>by
  rw [n0] at q
  rcases (hP z).1 hz with r | r
  ·rw [r.1,r.2] at q;injection q with q;exact hij q
  ·rw [r.1,r.2] at q;injection q with q;exact hij q.symm
 refine Nz (s:=fun z=>cod (A z) (B z)) (c:=c) hL (fun z=>decide ((A z=some i∧B z=some j)∨(A z=some j∧B z=some i))) (fun z=>?_) (fun z w hz=>?_)
 ·simp only [decide_eq_true_eq]
  exact ⟨fun hz=>⟨hne z hz,(hP z).1 hz⟩,fun q=>(hP z).2 q.2⟩
 ·constructor
  ·intro e
   have key:A w=A z∧B w=B z:=by
    rcases h3 z hz with q | q
    ·have a1:=(h1 z).1 q
     have a2:=(h1 w).1 (e.trans q)
     exact ⟨a2.1.trans a1.1.symm,a2.2.trans a1.2.symm⟩
    ·have a1:=(h2 z).1 q
     have a2:=(h2 w).1 (e.trans q)
     exact ⟨a2.1.trans a1.1.symm,a2.2.trans a1.2.symm⟩
   simp only [key.1,key.2]
  ·intro e
   obtain ⟨k1,k2⟩:=h.inj (hne z hz) e.symm
   rcases h3 z hz with q | q
   ·have a1:=(h1 z).1 q
    rw [q];exact (h1 w).2 ⟨k1.symm.trans a1.1,k2.symm.trans a1.2⟩
   ·have a1:=(h2 z).1 q
    rw [q];exact (h2 w).2 ⟨k1.symm.trans a1.1,k2.symm.trans a1.2⟩
theorem Mi {p q:Int→Int→Bool} {lb:Int→Int→Option Int} {i j:Int} (hij:i≠j) (hp:∀ x y,p x y=true↔lb x y=some i) (hq:∀ x y,q x y=true↔lb x y=some j) (a b c d:Int) :
  ((if one (p a b)-one (p c d)≠0∧one (q a b)-one (q c d)≠0 then one (p a b)-one (p c d) else 0)=1↔lb a b=some i∧lb c d=some j) ∧
  ((if one (p a b)-one (p c d)≠0∧one (q a b)-one (q c d)≠0 then one (p a b)-one (p c d) else 0)=-1↔lb a b=some j∧lb c d=some i) ∧
  ((if one (p a b)-one (p c d)≠0∧one (q a b)-one (q c d)≠0 then one (p a b)-one (p c d) else 0)≠0→(if one (p a b)-one (p c d)≠0∧one (q a b)-one (q c d)≠0 then one (p a b)-one (p c d) else 0)=1∨(if one (p a b)-one (p c d)≠0∧one (q a b)-one (q c d)≠0 then one (p a b)-one (p c d) else 0)=-1):=by
 rw [← hp a b,← hq c d,← hq a b,← hp c d]
 have d1:¬ (p a b=true∧q a b=true):=fun r=>by
  have h1:=(hp a b).1 r.1;have h2:=(hq a b).1 r.2
  rw [h1] at h2;injection h2 with h2;exact hij h2
 have d2:¬ (p c d=true∧q c d=true):=fun r=>by
  have h1:=(hp c d).1 r.1;have h2:=(hq c d).1 r.2
  rw [h1] at h2;injection h2 with h2;exact hij h2
 cases e1:p a b <;> cases e2:q a b <;> cases e3:p c d <;> cases e4:q c d <;> simp [e1,e2,e3,e4,one] at *
section
variable {R:List (List aM)} {xs ys:List Int} (h:Lay R xs ys) {i j:Int} (hij:i≠j) {p q:Int→Int→Bool} (hp:∀ x y,p x y=true↔bW R x y=some i) (hq:∀ x y,q x y=true↔bW R x y=some j)
include h hij hp hq
theorem PT (y:Int) {L:List (Int×Int)} (hL:eF (hS R y) L):cD (cH p q y)=L.filter fun r=>decide ((bW R r.1 y=some i∧bW R r.1 (y-1)=some j)∨(bW R r.1 y=some j∧bW R r.1 (y-1)=some i)):=
 pQ (Ul (DH h y) hij (c:=cH p q y) (fun z=>(Mi hij hp hq z y z (y-1)).1) (fun z=>(Mi hij hp hq z y z (y-1)).2.1) (fun z=>(Mi hij hp hq z y z (y-1)).2.2) hL)
theorem PU (x:Int) {L:List (Int×Int)} (hL:eF (vS R x) L):cD (cV p q x)=L.filter fun r=>decide ((bW R x r.1=some i∧bW R (x-1) r.1=some j)∨(bW R x r.1=some j∧bW R (x-1) r.1=some i)):=
 pQ (Ul (DI h x) hij (c:=cV p q x) (fun z=>(Mi hij hp hq x z (x-1) z).1) (fun z=>(Mi hij hp hq x z (x-1) z).2.1) (fun z=>(Mi hij hp hq x z (x-1) z).2.2) hL)
end
theorem Kh {A B:Int→Option Int} {xs:List Int} (h:Al A B xs):Gh (fun z=>cod (A z) (B z)) xs:=
 ⟨uZ (fun p:Option Int×Option Int=>cod p.1 p.2) (g:=fun z=>(A z,B z)) h.st,h.len,fun x0 h0 z hz=>by
  obtain ⟨e1,e2⟩:=h.low x0 h0 z hz
  simp only [e1,e2];rfl,fun x0 h0 z hz=>by
  obtain ⟨e1,e2⟩:=h.high x0 h0 z hz
  simp only [e1,e2];rfl,fun h0 z=>by
  obtain ⟨e1,e2⟩:=h.emp h0 z
  simp only [e1,e2];rfl⟩
section
variable {a b:List aM} {xs ys:List Int} (h:Lay [a,b] xs ys) (hd:Dj (cov a) (cov b))
include h hd
end
end Go.SM
namespace Go.SM
open Go Go.VI
theorem Yg {a b:List aM} (ha:a.length≤1000) (hb:b.length≤1000):xI a b=some (a.any fun x=>b.any (lE x)):=by
 have inner:∀ x,aH (pN b x) 0=some (if b.any (lE x) then .inl () else .inr ()):=by
  intro x
  refine eC b (pN b x) (fun k=>(k:Int)) _ _ _ rfl (fun k y hy=>?_) ?_
  ·have hk:=(List.getElem?_eq_some_iff.1 hy).1
   unfold pN
   have h1:decide ((k:Int)<(b.length:Int))=true:=by simp;omega
   simp only [h1,if_true,aQ hy,Option.bind_some,Jf]
   rw [aP (a:=(k:Int)) (by omega) (by omega)]
   rfl
  ·simp [pN]
 have key:aH (pO a b) 0=some (if (a.any fun x=>b.any (lE x)) then .inl () else .inr ()):=by
  refine eC a (pO a b) (fun k=>(k:Int)) _ _ _ rfl (fun k x hx=>?_) ?_
  ·have hk:=(List.getElem?_eq_some_iff.1 hx).1
   unfold pO
   have h1:decide ((k:Int)<(a.length:Int))=true:=by simp;omega
   simp only [h1,if_true,aQ hx,Option.bind_some,inner]
   rw [aP (a:=(k:Int)) (by omega) (by omega)]
   cases b.any (lE x) <;> rfl
  ·simp [pO]
 unfold xI
 rw [key]
 cases (a.any fun x=>b.any (lE x)) <;> rfl
theorem zK:iG=some true:=by kernel_rfl
end Go.SM
namespace Go.SM
open Go Go.VI Go.Cells
theorem Qu {α β:Type} (l:List α) (f:α→List β) (n:Nat) (h:∀ x ∈ l,(f x).length≤n):(l.flatMap f).length≤l.length*n:=by
 induction l with
 | nil=>simp
 | cons x t ih =>
   rw [List.flatMap_cons,List.length_append,List.length_cons]
   have h1:=ih fun y hy=>h y (List.mem_cons_of_mem _ hy)
   have h2:=h x List.mem_cons_self
   have:(t.length+1)*n=t.length*n+n:=by rw [Nat.succ_mul]
   omega
theorem Tk {s:Int→Int} {xs:List Int} (h:Gh s xs):(cD s).length≤xs.length:=by
 obtain ⟨L,_,h2,h3⟩:=CC h (side:=fun i=>(xs[i.toNat]?).map s) (fun i x hx _=>by simp [hx]) (found:=fun a b l=>some (l++[mkH 0 (a,b)])) (mk:=mkH 0) (fun a b l _=>rfl) (out0:=[]) (by simp)
 rw [pQ h2];exact h3
theorem Yf {l:List aM} {xs ys:List Int} (h:Has xs ys l) (hx:xs.length≤96) (hy:ys.length≤96):(yS (cov l) xs ys).length≤18432:=by
 unfold yS
 rw [List.length_append]
 have h1:=Qu ys (fun y=>(cD (hl (cov l) y)).map (mkH y)) 96 fun y _=>by
  rw [List.length_map];exact Nat.le_trans (Tk (Hl h y)) hx
 have h2:=Qu xs (fun x=>(cD (vl (cov l) x)).map (mkV x)) 96 fun x _=>by
  rw [List.length_map];exact Nat.le_trans (Tk (Hm h x)) hy
 omega
theorem IQ (s t:aF):(inter s t).length≤1:=by unfold inter;split <;> simp
theorem LP (a b:Int):(a==b)=decide (a=b):=by by_cases h:a=b <;> simp [h]
theorem QT (E F G H:Prop) [Decidable E] [Decidable F] [Decidable G] [Decidable H]:(if decide E=true then (if decide F=true then (if decide G=true then some (decide H) else some false) else some false) else some false)=some (decide (E∧F∧G∧H)):=by
 by_cases e:E <;> by_cases f:F <;> by_cases g:G <;> simp [e,f,g]
theorem QU (A B C D E F G H:Prop) [Decidable A] [Decidable B] [Decidable C] [Decidable D] [Decidable E] [Decidable F] [Decidable G] [Decidable H] :
  (if decide A=true then (if decide B=true then (if decide C=true then (if decide D=true then some true else (if decide E=true then (if decide F=true then (if decide G=true then some (decide H) else some false) else some false) else some false)) else (if decide E=true then (if decide F=true then (if decide G=true then some (decide H) else some false) else some false) else some false)) else (if decide E=true then (if decide F=true then (if decide G=true then some (decide H) else some false) else some false) else some false)) else (if decide E=true then (if decide F=true then (if decide G=true then some (decide H) else some false) else some false) else some false)) =
   some (decide ((A∧B∧C∧D)∨(E∧F∧G∧H))):=by
 simp only [QT]
 by_cases a:A <;> by_cases b:B <;> by_cases c:C <;> by_cases d:D <;> simp [a,b,c,d]
theorem DX (r:List aF×Int) (s:aF) (hr:r.1.length≤18432) (out0:List aF) (h0:out0.length≤400000000):aH (sR r s) (0,out0)=some (out0++r.1.flatMap (inter s)):=by
 obtain ⟨a,q1,q2,q3⟩:=gG r.1 (fun k (o:List aF)=>((k:Int),o)) (sR r s) (fun o=>o) (fun k o=>o=out0++(r.1.take k).flatMap (inter s)∧o.length≤out0.length+k) out0 (by simp)
  (fun k t o ht hI=>by
   have hk:=aV ht
   have hd:decide ((k:Int)<(r.1.length:Int))=true:=by simp [hk]
   unfold sR vN
   simp only [hd,if_true,aQ ht,Option.bind_some,bH k (by omega)]
   have hc:(if (s.Y1==s.Y2) then (if (t.Y1==t.Y2) then (if (s.Y1==t.Y1) then (if (decide ((imax s.X1 t.X1)<(iL s.X2 t.X2))) then (some true) else (if (s.X1==s.X2) then (if (t.X1==t.X2) then (if (s.X1==t.X1) then (some (decide ((imax s.Y1 t.Y1)<(iL s.Y2 t.Y2)))) else (some false)) else (some false)) else (some false))) else (if (s.X1==s.X2) then (if (t.X1==t.X2) then (if (s.X1==t.X1) then (some (decide ((imax s.Y1 t.Y1)<(iL s.Y2 t.Y2)))) else (some false)) else (some false)) else (some false))) else (if (s.X1==s.X2) then (if (t.X1==t.X2) then (if (s.X1==t.X1) then (some (decide ((imax s.Y1 t.Y1)<(iL s.Y2 t.Y2)))) else (some false)) else (some false)) else (some false))) else (if (s.X1==s.X2) then (if (t.X1==t.X2) then (if (s.X1==t.X1) then (some (decide ((imax s.Y1 t.Y1)<(iL s.Y2 t.Y2)))) else (some false)) else (some false)) else (some false))) =
     some (decide ((s.Y1=s.Y2∧t.Y1=t.Y2∧s.Y1=t.Y1∧max s.X1 t.X1<min s.X2 t.X2)∨(s.X1=s.X2∧t.X1=t.X2∧s.X1=t.X1∧max s.Y1 t.Y1<min s.Y2 t.Y2))):=by
    simp only [Ff,Bz,LP]
    exact QU _ _ _ _ _ _ _ _
   rw [hc,Option.bind_some]
   obtain ⟨i1,i2⟩:=hI
   by_cases hq:(s.Y1=s.Y2∧t.Y1=t.Y2∧s.Y1=t.Y1∧max s.X1 t.X1<min s.X2 t.X2)∨(s.X1=s.X2∧t.X1=t.X2∧s.X1=t.X1∧max s.Y1 t.Y1<min s.Y2 t.Y2)
   ·simp only [hq,decide_true,if_true]
    rw [jE (by simp [LIM];omega)]
    refine ⟨_,rfl, ?_,by simp;omega⟩
    rw [eD ht,List.flatMap_append,i1,List.flatMap_cons,List.flatMap_nil,List.append_nil]
    unfold inter
    rw [if_pos hq,Ff,Ff,Bz,Bz,List.append_assoc]
   ·simp only [hq,decide_false,Bool.false_eq_true,if_false]
    refine ⟨_,rfl, ?_,by omega⟩
    rw [eD ht,List.flatMap_append,i1,List.flatMap_cons,List.flatMap_nil,List.append_nil]
    unfold inter
    rw [if_neg hq,List.append_nil]) (fun o _=>by simp [sR])
 rw [List.take_length] at q2
 rw [show ((0:Int),out0)=(((0:Nat):Int),out0) from rfl,q1,q2]
theorem DY (r r':List aF×Int) (hr:r.1.length≤18432) (hr':r'.1.length≤18432):aH (sS r r') (0,[])=some (r.1.flatMap fun s=>r'.1.flatMap (inter s))∧(r.1.flatMap fun s=>r'.1.flatMap (inter s)).length≤400000000:=by
 have hin:∀ s:aF,(r'.1.flatMap (inter s)).length≤18432:=fun s=>by
  have:=Qu r'.1 (inter s) 1 fun t _=>IQ s t
  omega
 obtain ⟨a,q1,q2,q3⟩:=gG r.1 (fun k (o:List aF)=>((k:Int),o)) (sS r r') (fun o=>o) (fun k o=>o=(r.1.take k).flatMap (fun s=>r'.1.flatMap (inter s))∧o.length≤k*18432) [] (by simp)
  (fun k s o hs hI=>by
   have hk:=aV hs
   have hd:decide ((k:Int)<(r.1.length:Int))=true:=by simp [hk]
   obtain ⟨i1,i2⟩:=hI
   have:=hin s
   unfold sS
   simp only [hd,if_true,aQ hs,Option.bind_some,DX r' s hr' o (by omega),bH k (by omega)]
   refine ⟨_,rfl, ?_,by rw [List.length_append];omega⟩
   rw [eD hs,List.flatMap_append,← i1]
   simp) (fun o _=>by simp [sS])
 rw [List.take_length] at q2
 subst q2
 refine ⟨?_,by omega⟩
 rw [show ((0:Int),([]:List aF))=(((0:Nat):Int),[]) from rfl,q1]
theorem KO {a:List aF} (ha:a.length≤400000000):iO a a=some true:=by
 unfold iO
 have key:aH (eE a a) 0=some (.inr ()):=by
  have:=eC a (eE a a) (fun k=>(k:Int)) (fun _=>false) (.inr ()) (.inl ()) rfl (fun k x hx=>?_) ?_
  ·refine this.trans ?_;simp
  ·have hk:=(List.getElem?_eq_some_iff.1 hx).1
   unfold eE
   have h1:decide ((k:Int)<(a.length:Int))=true:=by simp;omega
   simp only [h1,if_true,aQ hx,Option.bind_some,beq_self_eq_true,Bool.and_self,Bool.not_true,Bool.false_eq_true,if_false,bH k (by omega)]
  ·simp [eE]
 rw [key];simp
theorem HB (l:List aM):Nq [l]=if l.length>48 then 4 else if Kb l=true then 0 else 1:=by
 unfold Nq
 simp only [List.any_cons,List.any_nil,Bool.or_false,List.all_cons,List.all_nil,Bool.and_true,decide_eq_true_eq]
section
variable {R:List (List aM)} {xs ys:List Int} (hL:Lay R xs ys)
include hL
theorem BS (P:Option Nat→Bool) (hP:P none=false) (y:Int):∀ (k:Nat) (x:Int),xs[k]?=some x→P (pW R x y)=true→∃ x' ∈ xs,P (pW R x' y)=true∧P (pW R (x'-1) y)=false
 | 0,x,hx,h=>by
   refine ⟨x,List.mem_of_getElem? hx,h, ?_⟩
   rw [(Lk hL).1 x hx (x-1) y (by omega),hP]
 | k+1,x,hx,h=>by
   have hk:=aV hx
   have hx0:xs[k]?=some (xs[k]'(by omega)):=List.getElem?_eq_getElem (by omega)
   obtain ⟨h1,h2⟩:=mO (Vr hL) hx0 hx
   by_cases q:P (pW R (x-1) y)=true
   ·have e:pW R (x-1) y=pW R (xs[k]'(by omega)) y:=congrFun (h2 (x-1) (by omega) (by omega)) y
    rw [e] at q
    exact BS P hP y k _ hx0 q
   ·exact ⟨x,List.mem_of_getElem? hx,h,by simpa using q⟩
end
end Go.SM
namespace Go.SM
open Go Go.VI
end Go.SM
namespace Go.SM
open Go Go.VI Go.Cells
theorem PN {r r':aM} (h1:vR r) (h2:vR r') {a b:Int} (c1:inC r a b=true) (c2:inC r' a b=true):lE r r'=true:=by
 unfold inC at c1 c2
 simp only [Bool.and_eq_true,decide_eq_true_eq] at c1 c2
 unfold lE
 rw [decide_eq_true_eq]
 unfold ovR
 refine ⟨h1,h2, ?_⟩
 omega
theorem MR {l:bB} (hl:LV l) {k:Nat} {y:aW} (hy:l.aB[k]?=some y) {a b:Int} (hc:cov y.aD a b=true):pW (bQ l) a b=some k:=by
 have hk:=aV hy
 unfold pW
 rw [List.findIdx?_eq_some_iff_getElem]
 have hg:∀ j (hj:j<(bQ l).length),(bQ l)[j]=(l.aB[j]'(by simpa [bQ] using hj)).aD:=fun j hj=>by simp [bQ]
 refine ⟨by simpa [bQ] using hk, ?_,fun j hj=>?_⟩
 ·rw [hg]
  have:l.aB[k]'hk=y:=by
   have:=List.getElem?_eq_getElem hk
   rw [hy] at this
   exact (Option.some.inj this).symm
  rw [this];exact hc
 ·rw [hg]
  intro hcj
  have hh:=hl.hit k hk
  unfold Xr at hh
  rw [hy] at hh
  obtain ⟨r,hr,cr⟩:=Bi.1 hc
  obtain ⟨r',hr',cr'⟩:=Bi.1 hcj
  have hjm:(l.aB[j]'(by omega)) ∈ l.aB.take k:=List.mem_take_iff_getElem.2 ⟨j,by omega,rfl⟩
  have:=List.any_eq_false.1 hh _ hjm
  unfold Sv at this
  refine this (List.any_eq_true.2 ⟨r,hr,List.any_eq_true.2 ⟨r',hr',PN ?_ ?_ cr cr'⟩⟩)
  ·exact hl.hv y (List.mem_of_getElem? hy) r hr
  ·exact hl.hv _ (List.getElem_mem _) r' hr'
def KP (s:aF):Int:=s.X2-s.X1+s.Y2-s.Y1
def pM:List aF→Int
 | []=>0
 | s::t=>KP s+pM t
theorem tW (a b:List aF):pM (a++b)=pM a+pM b:=by
 induction a with
 | nil=>simp [pM]
 | cons s t ih=>simp only [List.cons_append,pM,ih];omega
theorem Xx (y:Int) (L:List (Int×Int)):pM (L.map (mkH y))=Sw L:=by
 induction L with
 | nil=>rfl
 | cons p t ih=>simp only [List.map_cons,pM,Sw,ih];unfold KP mkH;simp only;omega
theorem Xy (x:Int) (L:List (Int×Int)):pM (L.map (mkV x))=Sw L:=by
 induction L with
 | nil=>rfl
 | cons p t ih=>simp only [List.map_cons,pM,Sw,ih];unfold KP mkV;simp only;omega
theorem Nv {α:Type} (l:List α) {f g:α→List aF} (h:∀ x ∈ l,pM (f x)=pM (g x)):pM (l.flatMap f)=pM (l.flatMap g):=by
 induction l with
 | nil=>rfl
 | cons x t ih=>rw [List.flatMap_cons,List.flatMap_cons,tW,tW,h x List.mem_cons_self,ih fun y hy=>h y (List.mem_cons_of_mem _ hy)]
theorem QH (acc:Int) (s:aF):aJ acc (aK (aJ (aK s.X2 s.X1) s.Y2) s.Y1)=wr (acc+KP s):=by
 show wr (acc+wr (wr (wr (s.X2-s.X1)+s.Y2)-s.Y1))=_
 rw [Wj,Int.sub_eq_add_neg,Wj,Int.add_comm acc (wr _),Wj]
 unfold KP
 congr 1;omega
theorem CH (l:List aF) (hl:l.length≤1000000000):kZ l=some (wr (pM l)):=by
 unfold kZ
 obtain ⟨a,q1,q2⟩:=gG l (fun k (s:Int)=>(s,(k:Int))) (lF l) (fun s=>s) (fun k s=>s=wr (pM (l.take k))) 0 (by simp [pM,NV])
  (fun k x s hx hI=>by
   have hk:=aV hx
   have hd:decide ((k:Int)<(l.length:Int))=true:=by simp [hk]
   unfold lF
   simp only [hd,if_true,aQ hx,Option.bind_some,QH,bH k (by omega)]
   refine ⟨_,rfl, ?_⟩
   rw [hI,Wj,eD hx,tW]
   simp [pM]) (fun s _=>by simp [lF])
 rw [List.take_length] at q2
 rw [show ((0:Int),(0:Int))=((0:Int),((0:Nat):Int)) from rfl,q1,q2];rfl
theorem AG (s:aF) (A B:Option Int):mkE s A B=if nm A<0∨(nm B ≥ 0∧nm B<nm A) then ⟨s,nm B,nm A⟩ else ⟨s,nm A,nm B⟩:=rfl
theorem Mu (X:Option Int) {c:Int} (hc:0≤c):nm X=c↔X=some c:=by
 cases X with
 | none=>simp [nm];omega
 | some i=>simp [nm]
theorem Ye (s:aF) (A B:Option Int) {a:Int} (ha:0≤a):((mkE s A B).A==a || (mkE s A B).B==a)=decide (A=some a∨B=some a):=by
 rw [Bool.eq_iff_iff,Bool.or_eq_true,beq_iff_eq,beq_iff_eq,decide_eq_true_eq,← Mu A ha,← Mu B ha,AG]
 by_cases h:nm A<0∨(nm B ≥ 0∧nm B<nm A)
 ·rw [if_pos h];exact or_comm
 ·rw [if_neg h]
theorem Rn (s:aF) {A B:Option Int} (hA:SmO A) (hB:SmO B) {a b:Int} (ha:0≤a) (hab:a<b):((mkE s A B).A==a&&(mkE s A B).B==b)=decide ((A=some a∧B=some b)∨(A=some b∧B=some a)):=by
 rw [Bool.eq_iff_iff,Bool.and_eq_true,beq_iff_eq,beq_iff_eq,decide_eq_true_eq,← Mu A ha,← Mu B (show 0≤b by omega),← Mu A (show 0≤b by omega),← Mu B ha,AG]
 by_cases h:nm A<0∨(nm B ≥ 0∧nm B<nm A)
 ·rw [if_pos h];simp only;omega
 ·rw [if_neg h];simp only;omega
theorem Fc (s:aF) (A B:Option Int):(mkE s A B).Line=s:=by
 rw [AG]
 by_cases h:nm A<0∨(nm B ≥ 0∧nm B<nm A)
 ·rw [if_pos h]
 ·rw [if_neg h]
theorem CQ {A B:Int→Option Int} {xs:List Int} (h:Al A B xs) {i:Int} {u:Int→Int} (hu:∀ z,u z≠0↔((A z=some i∧B z≠some i)∨(A z≠some i∧B z=some i))) (bu:Bd u) {L M:List (Int×Int)} (hL:eF (fun z=>cod (A z) (B z)) L) (hM:eF u M) :
  Sw (L.filter fun p=>decide (A p.1=some i∨B p.1=some i))=Sw M:=by
 have n0:∀ z,cod (A z) (B z)=0↔A z=B z:=fun z=>h.s0 z
 obtain ⟨c,hc⟩:∃ c:Int→Int,c=fun z=>if A z=some i∨B z=some i then cod (A z) (B z) else 0:=⟨_,rfl⟩
 have c0:∀ z,c z≠0↔(A z=some i∨B z=some i)∧A z≠B z:=fun z=>by
  rw [hc]
  simp only
  by_cases q:A z=some i∨B z=some i
  ·rw [if_pos q]
   exact ⟨fun w=>⟨q,fun e=>w ((n0 z).2 e)⟩,fun w e=>w.2 ((n0 z).1 e)⟩
  ·rw [if_neg q]
   exact ⟨fun w=>absurd rfl w,fun w=>absurd w.1 q⟩
 have cs:∀ z,(A z=some i∨B z=some i)→c z=cod (A z) (B z):=fun z q=>by rw [hc];simp only;rw [if_pos q]
 have cn:∀ z,¬ (A z=some i∨B z=some i)→c z=0:=fun z q=>by rw [hc];simp only;rw [if_neg q]
 have cu:∀ z,c z≠0↔u z≠0:=fun z=>by
  rw [c0,hu]
  constructor
  ·rintro ⟨q | q,ne⟩
   ·exact .inl ⟨q,fun e=>ne (q.trans e.symm)⟩
   ·exact .inr ⟨fun e=>ne (e.trans q.symm),q⟩
  ·rintro (⟨q1,q2⟩ | ⟨q1,q2⟩)
   ·exact ⟨.inl q1,fun e=>q2 (e.symm.trans q1)⟩
   ·exact ⟨.inr q2,fun e=>q1 (e.trans q2)⟩
 have hR:eF c (L.filter fun p=>decide (A p.1=some i∨B p.1=some i)):=Nz (s:=fun z=>cod (A z) (B z)) (c:=c) hL (fun z=>decide (A z=some i∨B z=some i)) (fun z=>by
  rw [c0,decide_eq_true_eq]
  constructor
  ·rintro ⟨q,ne⟩;exact ⟨fun e=>ne ((n0 z).1 e),q⟩
  ·rintro ⟨ne,q⟩;exact ⟨q,fun e=>ne ((n0 z).2 e)⟩) (fun z w hz=>by
  have qz:=((c0 z).1 hz).1
  constructor
  ·intro e
   have hw:c w≠0:=by rw [e];exact hz
   have qw:=((c0 w).1 hw).1
   rw [cs z qz,cs w qw] at e;exact e
  ·intro e
   have ne:cod (A z) (B z)≠0:=by rw [← cs z qz];exact hz
   obtain ⟨e1,e2⟩:=h.inj ne e.symm
   rw [cs z qz,cs w (by rw [← e1,← e2];exact qz)];exact e)
 obtain ⟨lo,hi,b1,b2⟩:=bu
 have z0:∀ z,u z=0→c z=0:=fun z q=>Classical.byContradiction fun w=>(cu z).1 w q
 rw [Xz hR (fun z hz=>z0 z (b1 z hz)) (fun z hz=>z0 z (b2 z hz)),Xz hM b1 b2]
 refine Pc fun z _ _=>congrArg one ?_
 exact decide_eq_decide.2 (cu z)
section
variable {l:bB} (lv:LV l)
include lv
theorem Fg {i:Nat} {p:aW} (hp:l.aB[i]?=some p) (x y:Int):cov p.aD x y=true↔bW (bQ l) x y=some (i:Int):=by
 constructor
 ·intro h
  unfold bW Gj
  rw [MR lv hp h];rfl
 ·intro h
  unfold bW Gj at h
  cases e:pW (bQ l) x y with
  | none=>rw [e] at h;cases h
  | some k =>
    rw [e] at h
    have hk:(k:Int)=i:=Option.some.inj h
    have hk':k=i:=by omega
    subst hk'
    unfold pW at e
    obtain ⟨h1,h2,_⟩:=List.findIdx?_eq_some_iff_getElem.1 e
    have:(bQ l)[k]=p.aD:=by
     have:=aV hp
     unfold bQ at h1 ⊢
     rw [List.getElem_map]
     congr 1
     rw [List.getElem?_eq_getElem this] at hp
     exact Option.some.inj hp
    rw [this] at h2;exact h2
variable {xs ys:List Int} (hL:Lay (bQ l) xs ys)
include hL
omit lv in
theorem FE {p:aW} (hp:p ∈ l.aB) {xa ya:List Int} (gxa:jB xa (xsL p.aD)) (gya:jB ya (ysL p.aD)):yS (cov p.aD) xa ya=yS (cov p.aD) xs ys∧(∀ x ∈ xa,x ∈ xs)∧∀ y ∈ ya,y ∈ ys:=by
 have sub:∀ r ∈ p.aD,r ∈ (bQ l).flatten:=fun r hr=>List.mem_flatten.2 ⟨_,List.mem_map.2 ⟨p,hp,rfl⟩,hr⟩
 have sx:∀ x ∈ xa,x ∈ xs:=fun x hx=>by
  obtain ⟨r,hr,hm⟩:=List.mem_flatMap.1 ((gxa.2 x).1 hx)
  exact (hL.x.2 x).2 (List.mem_flatMap.2 ⟨r,sub r hr,hm⟩)
 have sy:∀ x ∈ ya,x ∈ ys:=fun x hx=>by
  obtain ⟨r,hr,hm⟩:=List.mem_flatMap.1 ((gya.2 x).1 hx)
  exact (hL.y.2 x).2 (List.mem_flatMap.2 ⟨r,sub r hr,hm⟩)
 refine ⟨?_,sx,sy⟩
 unfold yS
 rw [Lc gya.1 hL.y.1 sy (fun y q=>by rw [wS (Zv gya q)];rfl),Lc gxa.1 hL.x.1 sx (fun x q=>by rw [wS (BJ gxa q)];rfl)]
theorem JR {i:Nat} {p:aW} (hp:l.aB[i]?=some p) (ha:Has xs ys p.aD) :
  pM (((Oo (bQ l) xs ys).filter fun e=>e.A==(i:Int) || e.B==(i:Int)).map fun e=>e.Line)=pM (yS (cov p.aD) xs ys):=by
 have ci:=Fg lv hp
 have iff_:∀ a b c d:Int,one (cov p.aD a b)-one (cov p.aD c d)≠0↔((bW (bQ l) a b=some (i:Int)∧bW (bQ l) c d≠some (i:Int))∨(bW (bQ l) a b≠some (i:Int)∧bW (bQ l) c d=some (i:Int))):=fun a b c d=>by
  have c1:=ci a b
  have c2:=ci c d
  simp only [ne_eq,← c1,← c2]
  cases cov p.aD a b <;> cases cov p.aD c d <;> simp [one]
 unfold Oo yS
 rw [List.filter_append,List.map_append,tW,tW,List.filter_flatMap,List.filter_flatMap,List.map_flatMap,List.map_flatMap]
 congr 1
 ·refine Nv _ fun y _=>?_
  have e:(((cD (hS (bQ l) y)).map fun p=>mkE ⟨p.1,y,p.2,y⟩ (bW (bQ l) p.1 y) (bW (bQ l) p.1 (y-1))).filter fun e=>e.A==(i:Int) || e.B==(i:Int)).map (fun e=>e.Line)=((cD (hS (bQ l) y)).filter fun p=>decide (bW (bQ l) p.1 y=some (i:Int)∨bW (bQ l) p.1 (y-1)=some (i:Int))).map (mkH y):=by
   rw [List.filter_map,List.map_map]
   have e1:((fun e:aZ=>e.A==(i:Int) || e.B==(i:Int)) ∘ fun p:Int×Int=>mkE ⟨p.1,y,p.2,y⟩ (bW (bQ l) p.1 y) (bW (bQ l) p.1 (y-1)))=fun p=>decide (bW (bQ l) p.1 y=some (i:Int)∨bW (bQ l) p.1 (y-1)=some (i:Int)):=funext fun p=>Ye _ _ _ (Int.natCast_nonneg i)
   have e2:((fun e:aZ=>e.Line) ∘ fun p:Int×Int=>mkE ⟨p.1,y,p.2,y⟩ (bW (bQ l) p.1 y) (bW (bQ l) p.1 (y-1)))=mkH y:=funext fun p=>Fc _ _ _
   rw [e1,e2]
  rw [e,Xx,Xx]
  exact CQ (DH hL y) (fun z=>iff_ z y z (y-1)) (Cy (Hl ha y)) (oD (Kh (DH hL y))) (oD (Hl ha y))
 ·refine Nv _ fun x _=>?_
  have e:(((cD (vS (bQ l) x)).map fun p=>mkE ⟨x,p.1,x,p.2⟩ (bW (bQ l) x p.1) (bW (bQ l) (x-1) p.1)).filter fun e=>e.A==(i:Int) || e.B==(i:Int)).map (fun e=>e.Line)=((cD (vS (bQ l) x)).filter fun p=>decide (bW (bQ l) x p.1=some (i:Int)∨bW (bQ l) (x-1) p.1=some (i:Int))).map (mkV x):=by
   rw [List.filter_map,List.map_map]
   have e1:((fun e:aZ=>e.A==(i:Int) || e.B==(i:Int)) ∘ fun p:Int×Int=>mkE ⟨x,p.1,x,p.2⟩ (bW (bQ l) x p.1) (bW (bQ l) (x-1) p.1))=fun p=>decide (bW (bQ l) x p.1=some (i:Int)∨bW (bQ l) (x-1) p.1=some (i:Int)):=funext fun p=>Ye _ _ _ (Int.natCast_nonneg i)
   have e2:((fun e:aZ=>e.Line) ∘ fun p:Int×Int=>mkE ⟨x,p.1,x,p.2⟩ (bW (bQ l) x p.1) (bW (bQ l) (x-1) p.1))=mkV x:=funext fun p=>Fc _ _ _
   rw [e1,e2]
  rw [e,Xy,Xy]
  exact CQ (DI hL x) (fun z=>iff_ x z (x-1) z) (Cy (Hm ha x)) (oD (Kh (DI hL x))) (oD (Hm ha x))
theorem Yw {i j:Nat} {p q:aW} (hp:l.aB[i]?=some p) (hq:l.aB[j]?=some q) (hij:i<j) :
  ((Oo (bQ l) xs ys).filter fun e=>e.A==(i:Int)&&e.B==(j:Int)).map (fun e=>e.Line)=HC (cov p.aD) (cov q.aD) xs ys:=by
 have hne:(i:Int)≠(j:Int):=by omega
 have sm:∀ x y,SmO (bW (bQ l) x y):=fun x y=>yQ hL.m x y
 unfold Oo HC
 rw [List.filter_append,List.map_append,List.filter_flatMap,List.filter_flatMap,List.map_flatMap,List.map_flatMap]
 congr 1
 ·refine wF _ fun y _=>?_
  have hr:=oD (Kh (DH hL y))
  rw [List.filter_map,List.map_map,PT hL hne (Fg lv hp) (Fg lv hq) y (L:=cD (hS (bQ l) y)) hr]
  have e1:((fun e:aZ=>e.A==(i:Int)&&e.B==(j:Int)) ∘ fun p:Int×Int=>mkE ⟨p.1,y,p.2,y⟩ (bW (bQ l) p.1 y) (bW (bQ l) p.1 (y-1)))=fun r=>decide ((bW (bQ l) r.1 y=some (i:Int)∧bW (bQ l) r.1 (y-1)=some (j:Int))∨(bW (bQ l) r.1 y=some (j:Int)∧bW (bQ l) r.1 (y-1)=some (i:Int))):=funext fun p=>Rn _ (sm _ _) (sm _ _) (Int.natCast_nonneg i) (by omega)
  have e2:((fun e:aZ=>e.Line) ∘ fun p:Int×Int=>mkE ⟨p.1,y,p.2,y⟩ (bW (bQ l) p.1 y) (bW (bQ l) p.1 (y-1)))=mkH y:=funext fun p=>Fc _ _ _
  rw [e1,e2]
 ·refine wF _ fun x _=>?_
  have hr:=oD (Kh (DI hL x))
  rw [List.filter_map,List.map_map,PU hL hne (Fg lv hp) (Fg lv hq) x (L:=cD (vS (bQ l) x)) hr]
  have e1:((fun e:aZ=>e.A==(i:Int)&&e.B==(j:Int)) ∘ fun p:Int×Int=>mkE ⟨x,p.1,x,p.2⟩ (bW (bQ l) x p.1) (bW (bQ l) (x-1) p.1))=fun r=>decide ((bW (bQ l) x r.1=some (i:Int)∧bW (bQ l) (x-1) r.1=some (j:Int))∨(bW (bQ l) x r.1=some (j:Int)∧bW (bQ l) (x-1) r.1=some (i:Int))):=funext fun p=>Rn _ (sm _ _) (sm _ _) (Int.natCast_nonneg i) (by omega)
  have e2:((fun e:aZ=>e.Line) ∘ fun p:Int×Int=>mkE ⟨x,p.1,x,p.2⟩ (bW (bQ l) x p.1) (bW (bQ l) (x-1) p.1))=mkV x:=funext fun p=>Fc _ _ _
  rw [e1,e2]
end
theorem Zp (a b:Int) (es:List aZ) (e:Int) (he:es.length≤200000):aH (fA a b (es,e)) (0,[],[])=some ((es.filter fun e=>e.A==a || e.B==a).map (fun e=>e.Line),(es.filter fun e=>decide (b>a)&&(e.A==a&&e.B==b)).map fun e=>e.Line):=by
 obtain ⟨s,q1,q2,q3⟩:=gG es (fun k (s:List aF×List aF)=>((k:Int),s.1,s.2)) (fA a b (es,e)) (fun s=>s) (fun k s=>s=(((es.take k).filter fun e=>e.A==a || e.B==a).map (fun e=>e.Line),((es.take k).filter fun e=>decide (b>a)&&(e.A==a&&e.B==b)).map fun e=>e.Line)∧s.1.length≤k∧s.2.length≤k) ([],[]) (by simp)
  (fun k x s hx hI=>by
   have hk:=aV hx
   have hd:decide ((k:Int)<(es.length:Int))=true:=by simp [hk]
   obtain ⟨i1,i2,i3⟩:=hI
   have c1:(if (x.A==a)=true then some true else some (x.B==a))=some (x.A==a || x.B==a):=by cases x.A==a <;> rfl
   have c2:(if decide (b>a)=true then (if (x.A==a)=true then some (x.B==b) else some false) else some false)=some (decide (b>a)&&(x.A==a&&x.B==b)):=by
    cases decide (b>a) <;> cases x.A==a <;> rfl
   unfold fA hO gZ
   simp only [hd,if_true,aQ hx,Option.bind_some,c1,c2,bH k (by omega)]
   rw [jE (by simp [LIM];omega),jE (by simp [LIM];omega)]
   rw [eD hx,List.filter_append,List.filter_append,List.map_append,List.map_append]
   cases h1:(x.A==a || x.B==a) with
   | true =>
     cases h2:(decide (b>a)&&(x.A==a&&x.B==b)) with
     | true =>
       simp only [if_true,Option.bind_some]
       refine ⟨(s.1++[x.Line],s.2++[x.Line]),rfl, ?_,by simp;omega,by simp;omega⟩
       rw [i1];simp [List.filter_cons,h1,h2]
     | false =>
       simp only [if_true,Bool.false_eq_true,if_false,Option.bind_some]
       refine ⟨(s.1++[x.Line],s.2),rfl, ?_,by simp;omega,by simp only;omega⟩
       rw [i1];simp [List.filter_cons,h1,h2]
   | false =>
     cases h2:(decide (b>a)&&(x.A==a&&x.B==b)) with
     | true =>
       simp only [if_true,Bool.false_eq_true,if_false,Option.bind_some]
       refine ⟨(s.1,s.2++[x.Line]),rfl, ?_,by simp only;omega,by simp;omega⟩
       rw [i1];simp [List.filter_cons,h1,h2]
     | false =>
       simp only [Bool.false_eq_true,if_false,Option.bind_some]
       refine ⟨(s.1,s.2),rfl, ?_,by simp only;omega,by simp only;omega⟩
       rw [i1];simp [List.filter_cons,h1,h2]) (fun s _=>by simp [fA])
 rw [List.take_length] at q2
 rw [show ((0:Int),([]:List aF),([]:List aF))=(((0:Nat):Int),([]:List aF),([]:List aF)) from rfl]
 exact q1.trans (by rw [q2])
theorem OD {a:List aM} (la:a.length≤48) (va:Ep a):Nq [a]=0:=by
 have h:=HB a
 rw [if_neg (by omega),Sj.2 va] at h
 simpa using h
theorem Ri (l:bB) (a b:Int) (h:Er l) (_:R64 a) (_:R64 b):mQ l a b=some true:=by
 obtain ⟨es,e,_,_,e1,_,e3,_,e5⟩:=Zg l h
 unfold mQ
 rw [e1]
 simp only [Option.bind_some]
 by_cases he:e=0
 case neg =>
  have he':(e != 0)=true:=by rw [bne_iff_ne];exact he
  simp only [he',if_true,Option.bind_some,zK]
 subst he
 simp only [bne_self_eq_false,Bool.false_eq_true,if_false]
 by_cases a0:a<0
 ·simp only [a0,decide_true,if_true,Option.bind_some,zK]
 by_cases a1:a ≥ (l.aB.length:Int)
 ·simp only [a0,a1,decide_true,decide_false,Bool.false_eq_true,if_false,if_true,Option.bind_some,zK]
 obtain ⟨lv,_,_,xs,ys,hL,hes⟩:=e5 rfl
 obtain ⟨i,rfl⟩:∃ i:Nat,a=i:=⟨a.toNat,by omega⟩
 have hi:i<l.aB.length:=by omega
 obtain ⟨p,hp⟩:∃ p,l.aB[i]?=some p:=⟨_,List.getElem?_eq_getElem hi⟩
 have pm:=List.mem_of_getElem? hp
 have lp:p.aD.length≤48:=by have:=lv.r12 p pm;omega
 have vp:Ep p.aD:=lv.hv p pm
 have cp:=OD lp vp
 obtain ⟨xa,ya,oa,gxa,gya,la⟩:=Pw cp
 have ha:=Ra vp (by omega) gxa gya fun r hr=>hr
 obtain ⟨ow,sxa,sya⟩:=FE hL pm gxa gya
 have hH:Has xs ys p.aD:=hL.has (List.mem_map.2 ⟨p,pm,rfl⟩)
 have same:=JR lv hL hp hH
 rw [← ow] at same
 have flen:∀ q:aZ→Bool,((es.filter q).map fun e=>e.Line).length≤200000:=fun q=>by
  rw [List.length_map];exact Nat.le_trans (List.length_filter_le _ _) e3
 simp only [a0,a1,decide_false,Bool.false_eq_true,if_false,Option.bind_some,Zp (i:Int) b es 0 e3,aQ hp,oa,bne_self_eq_false,CH _ (show (yS (cov p.aD) xa ya).length≤1000000000 by omega),CH _ (Nat.le_trans (flen fun e=>e.A==(i:Int) || e.B==(i:Int)) (by omega))]
 rw [hes,same]
 simp only [bne_self_eq_false,Bool.false_eq_true,if_false,Option.bind_some]
 by_cases b0:b≤(i:Int)
 ·simp only [b0,decide_true,if_true,Option.bind_some,zK]
 by_cases b1:b ≥ (l.aB.length:Int)
 ·simp only [b0,b1,decide_true,decide_false,Bool.false_eq_true,if_false,if_true,Option.bind_some,zK]
 obtain ⟨j,rfl⟩:∃ j:Nat,b=j:=⟨b.toNat,by omega⟩
 have hj:j<l.aB.length:=by omega
 obtain ⟨q,hq⟩:∃ q,l.aB[j]?=some q:=⟨_,List.getElem?_eq_getElem hj⟩
 have qm:=List.mem_of_getElem? hq
 have lq:q.aD.length≤48:=by have:=lv.r12 q qm;omega
 have vq:Ep q.aD:=lv.hv q qm
 have cq:=OD lq vq
 obtain ⟨xb,yb,ob,gxb,gyb,lb⟩:=Pw cq
 have hb:=Ra vq (by omega) gxb gyb fun r hr=>hr
 have hij:i<j:=by omega
 have dj:Dj (cov p.aD) (cov q.aD):=fun x y h1 h2=>by
  have k1:=(Fg lv hp x y).1 h1
  have k2:=(Fg lv hq x y).1 h2
  rw [k1] at k2
  have:=Option.some.inj k2
  omega
 have nov:(p.aD.any fun x=>q.aD.any (lE x))=false:=by
  rw [List.any_eq_false]
  intro r hr h2
  obtain ⟨s,hs,h3⟩:=List.any_eq_true.1 h2
  obtain ⟨x,y,k1,k2⟩:=(JQ (vp r hr) (vq s hs)).1 (of_decide_eq_true h3)
  exact dj x y (Bi.2 ⟨r,hr,k1⟩) (Bi.2 ⟨s,hs,k2⟩)
 have len:∀ {g:List Int} {l:List aM},(jB g (xsL l)∨jB g (ysL l))→l.length≤48→g.length≤96:=fun {g l} hg hl=>by
  rcases hg with hg | hg
  ·have:=nD hg.1 fun x m=>(hg.2 x).1 m
   rw [Cg] at this;omega
  ·have:=nD hg.1 fun x m=>(hg.2 x).1 m
   rw [Ch] at this;omega
 have na:=Yf ha (len (.inl gxa) lp) (len (.inr gya) lp)
 have nb:=Yf hb (len (.inl gxb) lq) (len (.inr gyb) lq)
 obtain ⟨c1,c2⟩:=DY (yS (cov p.aD) xa ya,0) (yS (cov q.aD) xb yb,0) na nb
 have cm:=HD gxa gya gxb gyb ha hb dj hL.x.1 hL.y.1 sxa sya
 simp only at c1 c2
 rw [cm] at c1 c2
 have pc:Cc p.aD q.aD=some (HC (cov p.aD) (cov q.aD) xs ys,0):=by
  unfold Cc
  simp only [oa,ob,Option.bind_some,Yg (show p.aD.length≤1000 by omega) (show q.aD.length≤1000 by omega),nov,c1]
  rfl
 have sh:=Yw lv hL hp hq hij
 have bgt:decide ((j:Int)>(i:Int))=true:=by simp;omega
 simp only [b0,b1,decide_false,Bool.false_eq_true,if_false,Option.bind_some,aQ hq,pc,bgt,Bool.true_and,sh,beq_self_eq_true,if_true,KO c2,zK]
end Go.SM
end
