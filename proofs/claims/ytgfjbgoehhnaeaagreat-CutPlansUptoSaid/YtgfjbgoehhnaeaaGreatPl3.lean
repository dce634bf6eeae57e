/- Laws. -/
import Derived.Test.YtgfjbgoehhnaeaaGreatPl2
import Derived.Test.YtgfjbgoehhnaeaaGreatPl1
set_option linter.unusedVariables false
set_option linter.unusedSimpArgs false
set_option linter.unusedSectionVars false
noncomputable section
namespace Go.SM
open Go Go.VI
theorem Ie {s:bF} (h:jS s=some 0):s.cC.length≤4∧s.Used.length≤48:=by
 obtain ⟨a,ha,_⟩:=pT s.Name
 obtain ⟨b,hb,_⟩:=pT s.cH
 unfold jS at h
 rw [ha,hb] at h
 cases a with
 | false=>exact absurd (Option.some.inj h) (by decide)
 | true =>
 cases b with
 | false=>exact absurd (Option.some.inj h) (by decide)
 | true =>
 simp only [Option.bind_some,Hm,Ya,if_true,Bool.not_true,Bool.false_eq_true,if_false] at h
 generalize decide ((1≤s.gU∧s.gU≤60)∧0≤s.gV∧s.gV≤2)=g1 at h
 generalize decide (1≤s.fA∧s.fA≤1048576)=g2 at h
 generalize decide (1≤s.cQ∧s.cQ≤1048576)=g3 at h
 by_cases h4:(s.cC.length:Int)>4
 ·simp only [h4,decide_true,if_true,Option.bind_some] at h
  cases g1 <;> cases g2 <;> cases g3 <;> exact absurd (Option.some.inj h) (by decide)
 by_cases h5:(s.Used.length:Int)>48
 ·simp only [h4,h5,decide_false,decide_true,if_true,Bool.false_eq_true,if_false,Option.bind_some] at h
  cases g1 <;> cases g2 <;> cases g3 <;> exact absurd (Option.some.inj h) (by decide)
 omega
theorem JC {α:Type} {l:List α} {k:Nat} (h:k≤l.length):slc l 0 (k:Int)=some (l.take k):=by
 unfold slc;rw [if_pos (by omega)];simp
theorem Wi {l:List aS} {g:aS→Int}:∀ {a:Int},l.foldl (fun s r=>min s (g r)) a=a∨∃ r ∈ l,l.foldl (fun s r=>min s (g r)) a=g r:=by
 induction l with
 | nil=>intro a;exact .inl rfl
 | cons x l ih =>
   intro a
   simp only [List.foldl_cons]
   rcases ih (a:=min a (g x)) with h | ⟨r,hr,h⟩
   ·rw [h]
    by_cases hx:a≤g x
    ·left;omega
    ·right;exact ⟨x,by simp,by omega⟩
   ·exact .inr ⟨r,by simp [hr],h⟩
theorem Hf {α β:Type} (l:List α) (f:α→β) (body:Int×List β→Option ((Int×List β) ⊕ List β)) (hl:l.length≤1048576) (step:∀ (k:Nat) x acc,l[k]?=some x→body ((k:Int),acc)=(app acc [f x]).bind fun l'=>some (.inl (((k+1:Nat):Int),l'))) (fin:∀ acc,body ((l.length:Int),acc)=some (.inr acc)) :
  aK body (0,[])=some (l.map f):=by
 refine sU l body (fun k=>((k:Int),(l.take k).map f)) _ (fun k x hx=>?_) ?_
 ·have hk:=(List.getElem?_eq_some_iff.1 hx).1
  rw [step k x _ hx,lA (by unfold LIM;simp;omega)]
  simp only [Option.bind_some]
  rw [List.take_add_one,hx]
  simp
 ·rw [fin,List.take_length]
def bkR (x y:Int) (r:aS):aS:=if r.X < -4194304∨r.X>4194304∨r.Y < -4194304∨r.Y>4194304 then ⟨r.X,r.Y,0,r.H⟩ else ⟨aJ r.X x,aJ r.Y y,r.W,r.H⟩
def shR (x y:Int) (r:aS):aS:=if r.X > -2147483648∧r.X<2147483648∧r.Y > -2147483648∧r.Y<2147483648 then ⟨aL r.X x,aL r.Y y,r.W,r.H⟩ else r
theorem back_eq {l:List aS} (hl:l.length≤1048576) (x y:Int):Gl l x y=some (l.map (bkR x y)):=by
 unfold Gl lC
 rw [lA (by unfold LIM;simp;omega)]
 simp only [List.nil_append,Option.bind_some]
 have key:aK (Ba x y l) (0,l)=some (l.map (bkR x y)):=by
  refine sU l (Ba x y l) (fun k=>((k:Int),(l.take k).map (bkR x y)++l.drop k)) _ (fun k r hr=>?_) ?_
  ·have hk:=(List.getElem?_eq_some_iff.1 hr).1
   have h1:decide ((k:Int)<(l.length:Int))=true:=by simp;omega
   have ht:((l.take k).map (bkR x y)).length=k:=by simp;omega
   have ed:l.drop k=r::l.drop (k+1):=by rw [List.drop_eq_getElem_cons hk];congr 1;exact (List.getElem?_eq_some_iff.1 hr).2
   have g1:∀ z:aS,((l.take k).map (bkR x y)++z::l.drop (k+1))[k]?=some z:=fun z=>by rw [List.getElem?_append_right (by omega),ht];simp
   have i1:∀ z:aS,idx ((l.take k).map (bkR x y)++z::l.drop (k+1)) (k:Int)=some z:=fun z=>aQ (g1 z)
   have s1:∀ z z':aS,List.set ((l.take k).map (bkR x y)++z::l.drop (k+1)) k z'=(l.take k).map (bkR x y)++z'::l.drop (k+1):=fun z z'=>by rw [List.set_append_right _ _ (by omega),ht];simp
   have e:l.take (k+1)=l.take k++[r]:=by rw [List.take_add_one,hr];rfl
   unfold Ba El
   simp only [h1,if_true,ed,i1,g1,s1,Option.bind_some,Int.toNat_natCast]
   rw [aY (a:=(k:Int)) (by omega) (by omega),e,List.map_append,List.append_assoc]
   by_cases q1:r.X < -4194304
   ·simp [q1,bkR]
   ·by_cases q2:r.X>4194304
    ·simp [q1,q2,bkR]
    ·by_cases q3:r.Y < -4194304
     ·simp [q1,q2,q3,bkR]
     ·by_cases q4:r.Y>4194304
      ·simp [q1,q2,q3,q4,bkR]
      ·simp [q1,q2,q3,q4,bkR]
  ·simp [Ba]
 rw [key]
 rfl
theorem Uo {l:List aS} (hl:l.length≤1048576) (x y:Int):jC l x y=some (l.map (shR x y)):=by
 unfold jC
 rw [Hf l (shR x y) (mM l x y) hl (fun k r acc hx=>?_) (fun acc=>?_)]
 ·rfl
 ·have hk:=(List.getElem?_eq_some_iff.1 hx).1
  unfold mM mL
  have h1:decide ((k:Int)<(l.length:Int))=true:=by simp;omega
  simp only [h1,if_true,aQ hx,Option.bind_some]
  rw [aY (a:=(k:Int)) (by omega) (by omega)]
  unfold shR
  by_cases g1:r.X > -2147483648
  ·by_cases g2:r.X<2147483648
   ·by_cases g3:r.Y > -2147483648
    ·by_cases g4:r.Y<2147483648
     ·simp [g1,g2,g3,g4]
     ·simp [g1,g2,g3,g4]
    ·simp [g1,g2,g3]
   ·simp [g1,g2]
  ·simp [g1]
 ·simp [mM]
theorem TR {mx my:Int} (hx : -1048576≤mx∧mx≤1048576) (hy : -1048576≤my∧my≤1048576) (r:aS) (hr:Se r):bkR mx my r=shR (tE mx) (tE my) r∨(¬ vR (bkR mx my r)∧¬ vR (shR (tE mx) (tE my) r)):=by
 obtain ⟨⟨a1,a2⟩,⟨b1,b2⟩,_,_⟩:=hr
 unfold bkR shR
 rw [Yf (a:=mx) (by omega) (by omega),Yf (a:=my) (by omega) (by omega)]
 by_cases h:r.X < -4194304∨r.X>4194304∨r.Y < -4194304∨r.Y>4194304
 ·right
  rw [if_pos h]
  refine ⟨fun q=>?_,fun q=>?_⟩
  ·have:=q.2.2.1;simp at this
  ·by_cases g:r.X > -2147483648∧r.X<2147483648∧r.Y > -2147483648∧r.Y<2147483648
   ·rw [if_pos g,aY (by omega) (by omega),aY (by omega) (by omega)] at q
    obtain ⟨q1,q2,_⟩:=q
    simp only at q1 q2
    omega
   ·rw [if_neg g] at q
    obtain ⟨q1,q2,_⟩:=q
    omega
 ·left
  rw [if_neg h,if_pos (by omega),bK (by omega) (by omega),bK (by omega) (by omega),aY (by omega) (by omega),aY (by omega) (by omega)]
  rfl
theorem JP {x:aV} {a b:Bool} (ha:kQ x.Name=some a) (hb:kQ x.cH=some b) (h:∃ r ∈ x.aD++(x.bO++x.Forms),¬ vR r) :
  dV x=some (if a&&b then (if (1≤x.gU∧x.gU≤60)∧0≤x.gV∧x.gV≤2 then (if x.aD.length>12∨x.bO.length>12∨x.Forms.length>12 then 4 else 1) else 1) else 2):=by
 unfold dV
 rw [ha,hb]
 cases a with
 | false=>rfl
 | true =>
 cases b with
 | false=>rfl
 | true =>
 simp only [Option.bind_some,Hm,Bool.and_self,if_true,Bool.not_true,Bool.false_eq_true,if_false]
 by_cases h1:(1≤x.gU∧x.gU≤60)∧0≤x.gV∧x.gV≤2
 ·simp only [h1,and_self,decide_true,Bool.not_true,Bool.false_eq_true,if_false,if_true]
  by_cases l1:x.aD.length>12
  ·simp [show (x.aD.length:Int)>12 by omega,l1]
  by_cases l2:x.bO.length>12
  ·simp [show ¬ (x.aD.length:Int)>12 by omega,show (x.bO.length:Int)>12 by omega,l1,l2]
  by_cases l3:x.Forms.length>12
  ·simp [show ¬ (x.aD.length:Int)>12 by omega,show ¬ (x.bO.length:Int)>12 by omega,show (x.Forms.length:Int)>12 by omega,l1,l2,l3]
  have d1:decide ((x.aD.length:Int)>12)=false:=by simp;omega
  have d2:decide ((x.bO.length:Int)>12)=false:=by simp;omega
  have d3:decide ((x.Forms.length:Int)>12)=false:=by simp;omega
  have hc:¬ (x.aD.length>12∨x.bO.length>12∨x.Forms.length>12):=by omega
  simp only [d1,d2,d3,hc,Bool.false_eq_true,if_false,Option.bind_some,vP x.aD (by omega),vP x.bO (by omega),vP x.Forms (by omega)]
  have anyb:∀ l:List aS,(∃ r ∈ l,¬ vR r)→(l.any fun x=>!decide (vR x))=true:=fun l ⟨r,hr,hv⟩=>List.any_eq_true.2 ⟨r,hr,by simp [hv]⟩
  obtain ⟨r,hr,hv⟩:=h
  have hj:(if ((x.aD.length:Int)==0)=true then some true else (if (!(x.aD.any fun x=>!decide (vR x)))=true then (if (!(x.bO.any fun x=>!decide (vR x)))=true then some (!(!(x.Forms.any fun x=>!decide (vR x)))) else some true) else some true))=some true:=by
   cases (x.aD.length:Int)==0 with
   | true=>rfl
   | false =>
     rcases List.mem_append.1 hr with hr | hr
     ·rw [anyb _ ⟨r,hr,hv⟩];rfl
     ·rcases List.mem_append.1 hr with hr | hr
      ·rw [anyb x.bO ⟨r,hr,hv⟩];cases (x.aD.any fun x=>!decide (vR x)) <;> rfl
      ·rw [anyb x.Forms ⟨r,hr,hv⟩];cases (x.aD.any fun x=>!decide (vR x)) <;> cases (x.bO.any fun x=>!decide (vR x)) <;> rfl
  rw [hj]
  rfl
 ·simp only [h1,decide_false,Bool.not_false,if_true,if_false]
theorem RZ {x:aV} (h:dV x=some 0):x.aD.length≤12:=by
 obtain ⟨a,ha,_⟩:=pT x.Name
 obtain ⟨b,hb,_⟩:=pT x.cH
 unfold dV at h
 rw [ha,hb] at h
 by_cases l1:(x.aD.length:Int)>12
 ·cases a with
  | false=>exact absurd (Option.some.inj h) (by decide)
  | true =>
  cases b with
  | false=>exact absurd (Option.some.inj h) (by decide)
  | true =>
  simp only [Option.bind_some,Hm,if_true,Bool.not_true,Bool.false_eq_true,if_false,l1,decide_true] at h
  generalize decide ((1≤x.gU∧x.gU≤60)∧0≤x.gV∧x.gV≤2)=g1 at h
  cases g1 <;> exact absurd (Option.some.inj h) (by decide)
 ·omega
def Sm (x:aV):Prop:=(x.aD.length≤1048576∧∀ r ∈ x.aD,Se r)∧(x.bO.length≤1048576∧∀ r ∈ x.bO,Se r)∧(x.Forms.length≤1048576∧∀ r ∈ x.Forms,Se r)
theorem Ox (x0:aV) (hl:x0.aD.length≤1048576) (a b:Int):aK (fS x0) (a,b,0)=some (Ip x0.aD a,Iq x0.aD b):=by
 refine sU x0.aD (fS x0) (fun k=>(Ip (x0.aD.take k) a,Iq (x0.aD.take k) b,(k:Int))) _ (fun k r hr=>?_) ?_
 ·have hk:=(List.getElem?_eq_some_iff.1 hr).1
  unfold fS
  have h1:decide ((k:Int)<(x0.aD.length:Int))=true:=by simp;omega
  have e:x0.aD.take (k+1)=x0.aD.take k++[r]:=by rw [List.take_add_one,hr];rfl
  simp only [h1,if_true,aQ hr,Option.bind_some,e,Ca]
  rw [aY (a:=(k:Int)) (by omega) (by omega)]
  unfold Ip Iq
  rw [List.foldl_append,List.foldl_append]
  rfl
 ·simp [fS]
theorem GM (x0:aV):nG x0=fS x0:=by
 funext s
 unfold nG fS
 cases idx x0.aD s.2.2 <;> rfl
theorem DM (x0:aV) (hl:x0.aD.length≤1048576) {r:aS} (hr:x0.aD[0]?=some r):aK (nG x0) (r.X,r.Y,1)=some (Ip x0.aD r.X,Iq x0.aD r.Y):=by
 have i0:idx x0.aD 0=some r:=aQ (k:=0) hr
 have hk:=(List.getElem?_eq_some_iff.1 hr).1
 have h1:aK (fS x0) (r.X,r.Y,0)=aK (fS x0) (r.X,r.Y,1):=by
  refine gT ?_
  unfold fS
  have hd:decide ((0:Int)<(x0.aD.length:Int))=true:=by simp;omega
  simp only [hd,if_true,i0,Option.bind_some,Ca,Int.min_self]
  rfl
 rw [GM,← h1,Ox x0 hl]
theorem Mj {x:aV} (hs:Sm x):∃ e:Int,kJ x=some e∧(e=0→x.aD.length≤12) ∧
  ∀ {S:Type} (k:S),((rF x).bind fun r79=>if (!r79.2.1) then (some (Sum.inr (Sum.inl (1:Int)):S ⊕ (Int ⊕ Unit))) else ((bX (aV.mk r79.1.Name r79.1.cH r79.1.gU r79.1.gV r79.1.aD r79.1.bO r79.1.Forms)).bind fun r81=>if (r81 != 0) then (some (.inr (.inl r81))) else (some (.inl k))))=if e=0 then some (.inl k) else some (.inr (.inl e)):=by
 obtain ⟨⟨s1,t1⟩,⟨s2,t2⟩,s3,t3⟩:=hs
 have k1:aK (nA x) 0=some (if (x.aD.any fun x=>!decide (vR x)) then .inl () else .inr ()):=by
  refine gF x.aD (nA x) (fun k=>(k:Int)) _ _ _ rfl (fun k y hx=>?_) ?_
  ·have hk:=(List.getElem?_eq_some_iff.1 hx).1
   unfold nA
   have h1:decide ((k:Int)<(x.aD.length:Int))=true:=by simp;omega
   simp only [h1,if_true,aQ hx,Option.bind_some,tC]
   rw [aY (a:=(k:Int)) (by omega) (by omega)]
   rfl
  ·simp [nA]
 unfold kJ rF
 rw [k1,vT _ (by omega)]
 cases hv:(x.aD.any fun x=>!decide (vR x)) with
 | true=>exact ⟨1,rfl,fun h=>absurd h (by decide),fun k=>rfl⟩
 | false =>
 have av:∀ r ∈ x.aD,vR r:=fun r hr=>by have:=List.any_eq_false.1 hv r hr;simpa using this
 simp only [Bool.false_eq_true,if_false,Option.bind_some,Bool.not_false,Bool.not_true]
 by_cases h0:(x.aD.length:Int)=0
 ·obtain ⟨e,e1,e2⟩:=Lx x
  refine ⟨e,by simp [h0,e1],fun _=>by omega,fun k=>?_⟩
  have e2':bX (aV.mk x.Name x.cH x.gU x.gV x.aD x.bO x.Forms)=some e:=e2
  simp only [h0,beq_self_eq_true,if_true,Option.bind_some,Bool.not_true,Bool.false_eq_true,if_false,e2']
  by_cases he:e=0
  ·simp [he]
  ·simp [he]
 ·have h0':((x.aD.length:Int)==0)=false:=by rw [beq_eq_false_iff_ne];exact h0
  have hlt:0<x.aD.length:=by omega
  have hr:x.aD[0]?=some (x.aD[0]'hlt):=by simp [hlt]
  have i0:idx x.aD 0=some (x.aD[0]'hlt):=aQ (k:=0) hr
  have hmem:x.aD[0]'hlt ∈ x.aD:=List.getElem_mem hlt
  have rb:=DM x s1 hr
  generalize x.aD[0]'hlt=r0 at hr i0 hmem rb
  have bx : -1048576≤Ip x.aD r0.X∧Ip x.aD r0.X≤1048576:=by
   have:∃ y ∈ x.aD,Ip x.aD r0.X=y.X:=by
    rcases Wi (l:=x.aD) (g:=fun r=>r.X) (a:=r0.X) with e | ⟨y,hy,e⟩
    ·exact ⟨r0,hmem,e⟩
    ·exact ⟨y,hy,e⟩
   obtain ⟨y,hy,e⟩:=this
   have:=av y hy;unfold vR at this;omega
  have by' : -1048576≤Iq x.aD r0.Y∧Iq x.aD r0.Y≤1048576:=by
   have:∃ y ∈ x.aD,Iq x.aD r0.Y=y.Y:=by
    rcases Wi (l:=x.aD) (g:=fun r=>r.Y) (a:=r0.Y) with e | ⟨y,hy,e⟩
    ·exact ⟨r0,hmem,e⟩
    ·exact ⟨y,hy,e⟩
   obtain ⟨y,hy,e⟩:=this
   have:=av y hy;unfold vR at this;omega
  unfold vN
  simp only [h0',Bool.false_eq_true,if_false,i0,Option.bind_some,Ox x s1,rb,back_eq s1,back_eq s2,back_eq s3,Uo s1,Uo s2,Uo s3,Bool.not_true]
  generalize Ip x.aD r0.X=mx at bx
  generalize Iq x.aD r0.Y=my at by'
  have main : ∃ e,dV ⟨x.Name,x.cH,x.gU,x.gV,x.aD.map (bkR mx my),x.bO.map (bkR mx my),x.Forms.map (bkR mx my)⟩=some e∧bX ⟨x.Name,x.cH,x.gU,x.gV,x.aD.map (shR (tE mx) (tE my)),x.bO.map (shR (tE mx) (tE my)),x.Forms.map (shR (tE mx) (tE my))⟩=some e:=by
   have cmp:=TR bx by'
   by_cases hall:∀ r ∈ x.aD++(x.bO++x.Forms),bkR mx my r=shR (tE mx) (tE my) r
   ·have m1:x.aD.map (bkR mx my)=x.aD.map (shR (tE mx) (tE my)):=List.map_congr_left fun r hr=>hall r (List.mem_append.2 (.inl hr))
    have m2:x.bO.map (bkR mx my)=x.bO.map (shR (tE mx) (tE my)):=List.map_congr_left fun r hr=>hall r (List.mem_append.2 (.inr (List.mem_append.2 (.inl hr))))
    have m3:x.Forms.map (bkR mx my)=x.Forms.map (shR (tE mx) (tE my)):=List.map_congr_left fun r hr=>hall r (List.mem_append.2 (.inr (List.mem_append.2 (.inr hr))))
    rw [m1,m2,m3]
    exact Lx _
   ·have hex:∃ r ∈ x.aD++(x.bO++x.Forms),¬ vR (bkR mx my r)∧¬ vR (shR (tE mx) (tE my) r):=by
     apply Classical.byContradiction
     intro hno
     refine hall fun r hr=>?_
     have hR:Se r:=by
      rcases List.mem_append.1 hr with h | h
      ·exact t1 r h
      ·rcases List.mem_append.1 h with h | h
       ·exact t2 r h
       ·exact t3 r h
     rcases cmp r hR with h | h
     ·exact h
     ·exact absurd ⟨r,hr,h⟩ hno
    obtain ⟨r,hr,v1,v2⟩:=hex
    obtain ⟨a,ha,_⟩:=pT x.Name
    obtain ⟨b,hb,_⟩:=pT x.cH
    have p1:=JP (x:=⟨x.Name,x.cH,x.gU,x.gV,x.aD.map (bkR mx my),x.bO.map (bkR mx my),x.Forms.map (bkR mx my)⟩) ha hb ⟨bkR mx my r,by show _ ∈ x.aD.map _++(x.bO.map _++x.Forms.map _);rw [← List.map_append,← List.map_append];exact List.mem_map_of_mem hr,v1⟩
    have p2:=JP (x:=⟨x.Name,x.cH,x.gU,x.gV,x.aD.map (shR (tE mx) (tE my)),x.bO.map (shR (tE mx) (tE my)),x.Forms.map (shR (tE mx) (tE my))⟩) ha hb ⟨shR (tE mx) (tE my) r,by show _ ∈ x.aD.map _++(x.bO.map _++x.Forms.map _);rw [← List.map_append,← List.map_append];exact List.mem_map_of_mem hr,v2⟩
    simp only [List.length_map] at p1 p2
    obtain ⟨e,e1,e2⟩:=Lx ⟨x.Name,x.cH,x.gU,x.gV,x.aD.map (shR (tE mx) (tE my)),x.bO.map (shR (tE mx) (tE my)),x.Forms.map (shR (tE mx) (tE my))⟩
    exact ⟨e,by rw [p1,← p2];exact e1,e2⟩
  obtain ⟨e,e1,e2⟩:=main
  refine ⟨e,by rw [e1];rfl,fun he=>?_,fun k=>?_⟩
  ·subst he
   have:=RZ e1
   simpa using this
  ·simp only [e2,Option.bind_some]
   by_cases he:e=0
   ·simp [he]
   ·simp [he]
theorem Tw (r:aS) {l:List aS} (hl:l.length≤1000):Co r l=some (l.any (qU r)):=by
 have key:∃ z,aK (bP l r.X r.Y r.W r.H) 0=some z∧((∃ k:Nat,z=.inl (k:Int))∧l.any (qU r)=true∨z=.inr ()∧l.any (qU r)=false):=by
  have go : ∀ (m k:Nat),k+m=l.length→(∀ y ∈ l.take k,qU r y=false)→∃ z,aK (bP l r.X r.Y r.W r.H) (k:Int)=some z∧((∃ k:Nat,z=.inl (k:Int))∧l.any (qU r)=true∨z=.inr ()∧l.any (qU r)=false):=by
   intro m
   induction m with
   | zero =>
     intro k h hb
     obtain rfl:k=l.length:=by omega
     rw [List.take_length] at hb
     exact ⟨.inr (),eA (by simp [bP]),.inr ⟨rfl,List.any_eq_false.2 fun y hy=>by simp [hb y hy]⟩⟩
   | succ m ih =>
     intro k h hb
     have hx:l[k]?=some (l[k]'(by omega)):=by simp [show k<l.length by omega]
     have hd:decide ((k:Int)<(l.length:Int))=true:=by simp;omega
     have hm:Es (l[k]'(by omega)) r.X r.Y r.W r.H=some (qU r (l[k]'(by omega))):=by
      unfold Es
      rw [Sc];rfl
     by_cases ho:qU r (l[k]'(by omega))=true
     ·refine ⟨.inl (k:Int),eA ?_,.inl ⟨⟨k,rfl⟩,List.any_eq_true.2 ⟨_,List.mem_of_getElem? hx,ho⟩⟩⟩
      unfold bP
      simp only [hd,if_true,aQ hx,Option.bind_some,hm,ho]
     ·have ho':qU r (l[k]'(by omega))=false:=by simpa using ho
      rw [gT (s':=((k+1:Nat):Int))]
      ·refine ih (k+1) (by omega) fun y hy=>?_
       rw [List.take_add_one,hx] at hy
       rcases List.mem_append.1 hy with hy | hy
       ·exact hb y hy
       ·simp at hy;rw [hy];exact ho'
      ·unfold bP
       simp only [hd,if_true,aQ hx,Option.bind_some,hm,ho',Bool.false_eq_true,if_false]
       rw [aY (by omega) (by omega)];rfl
  exact go l.length 0 (by omega) (by simp)
 obtain ⟨z,hz,h⟩:=key
 unfold Co eC eO
 rw [hz]
 rcases h with ⟨⟨k,rfl⟩,h⟩ | ⟨rfl,h⟩
 ·rw [h]
  have:decide ((k:Int) ≥ 0)=true:=by simp
  simp only [Option.bind_some,this]
 ·rw [h];rfl
def Tz (s:bF) (y:aS):Bool:=!(decide (tZ y ⟨0,0,s.fA,s.cQ⟩)) || (s.cC.any (qU y) || s.Used.any (qU y))
theorem TW (l:aT) (x:aV) (hx:x.aD.length≤12) (h1:l.bF.cC.length≤4) (h2:l.bF.Used.length≤48):aK (tO l x) 0=some (if x.aD.any (Tz l.bF) then .inl () else .inr ()):=by
 refine gF x.aD (tO l x) (fun k=>(k:Int)) _ _ _ rfl (fun k y hy=>?_) ?_
 ·have hk:=(List.getElem?_eq_some_iff.1 hy).1
  unfold tO Tz
  have hd:decide ((k:Int)<(x.aD.length:Int))=true:=by simp;omega
  simp only [hd,if_true,aQ hy,Option.bind_some,Ot,Tw y (show l.bF.cC.length≤1000 by omega),Tw y (show l.bF.Used.length≤1000 by omega)]
  rw [aY (a:=(k:Int)) (by omega) (by omega)]
  cases decide (tZ y ⟨0,0,l.bF.fA,l.bF.cQ⟩) <;> cases l.bF.cC.any (qU y) <;> cases l.bF.Used.any (qU y) <;> rfl
 ·simp [tO]
theorem TC (l:aT) (x:aV) (hx:x.aD.length≤12) (h1:l.bF.cC.length≤4) (h2:l.bF.Used.length≤48):aK (gN l x) 0=some (if x.aD.any (Tz l.bF) then .inl () else .inr ()):=by
 refine gF x.aD (gN l x) (fun k=>(k:Int)) _ _ _ rfl (fun k y hy=>?_) ?_
 ·have hk:=(List.getElem?_eq_some_iff.1 hy).1
  unfold gN Tz
  have hd:decide ((k:Int)<(x.aD.length:Int))=true:=by simp;omega
  simp only [hd,if_true,aQ hy,Option.bind_some,Ou,Ms y _ (show l.bF.cC.length≤1000 by omega),Ms y _ (show l.bF.Used.length≤1000 by omega)]
  rw [aY (a:=(k:Int)) (by omega) (by omega)]
  cases decide (tZ y ⟨0,0,l.bF.fA,l.bF.cQ⟩) <;> cases l.bF.cC.any (qU y) <;> cases l.bF.Used.any (qU y) <;> rfl
 ·simp [gN]
theorem RE (l:aT) (hp:l.aB.length≤8) (hx:∀ x ∈ l.aB,x.aD.length≤12) (h1:l.bF.cC.length≤4) (h2:l.bF.Used.length≤48):aK (tP l) 0=some (if l.aB.any (fun x=>x.aD.any (Tz l.bF)) then .inl () else .inr ()):=by
 refine gF l.aB (tP l) (fun k=>(k:Int)) _ _ _ rfl (fun k y hy=>?_) ?_
 ·have hk:=(List.getElem?_eq_some_iff.1 hy).1
  unfold tP
  have hd:decide ((k:Int)<(l.aB.length:Int))=true:=by simp;omega
  simp only [hd,if_true,aQ hy,Option.bind_some,TW l y (hx y (List.mem_of_getElem? hy)) h1 h2]
  rw [aY (a:=(k:Int)) (by omega) (by omega)]
  cases y.aD.any (Tz l.bF) <;> rfl
 ·simp [tP]
theorem TD (l:aT) (hp:l.aB.length≤8) (hx:∀ x ∈ l.aB,x.aD.length≤12) (h1:l.bF.cC.length≤4) (h2:l.bF.Used.length≤48):aK (gO l) 0=some (if l.aB.any (fun x=>x.aD.any (Tz l.bF)) then .inl () else .inr ()):=by
 refine gF l.aB (gO l) (fun k=>(k:Int)) _ _ _ rfl (fun k y hy=>?_) ?_
 ·have hk:=(List.getElem?_eq_some_iff.1 hy).1
  unfold gO
  have hd:decide ((k:Int)<(l.aB.length:Int))=true:=by simp;omega
  simp only [hd,if_true,aQ hy,Option.bind_some,TC l y (hx y (List.mem_of_getElem? hy)) h1 h2]
  rw [aY (a:=(k:Int)) (by omega) (by omega)]
  cases y.aD.any (Tz l.bF) <;> rfl
 ·simp [gO]
def Vi (x y:aV):Bool:=x.aD.any fun r=>y.aD.any (qU r)
def AL (l:List aV) (k:Nat):Bool:=match l[k]? with
 | some x=>(l.take k).any (Vi x)
 | none=>false
theorem TX (x y:aV) (hx:x.aD.length≤12) (hy:y.aD.length≤12):aK (tQ x y) 0=some (if Vi x y then .inl () else .inr ()):=by
 refine gF x.aD (tQ x y) (fun k=>(k:Int)) _ _ _ rfl (fun k r hr=>?_) ?_
 ·have hk:=(List.getElem?_eq_some_iff.1 hr).1
  unfold tQ
  have hd:decide ((k:Int)<(x.aD.length:Int))=true:=by simp;omega
  simp only [hd,if_true,aQ hr,Option.bind_some,Tw r (show y.aD.length≤1000 by omega)]
  rw [aY (a:=(k:Int)) (by omega) (by omega)]
  rfl
 ·simp [tQ]
theorem RG (l:aT) (hp:l.aB.length≤8) (hx:∀ x ∈ l.aB,x.aD.length≤12):aK (tS l) 0=some (if (List.range l.aB.length).any (AL l.aB) then .inl () else .inr ()):=by
 refine jF l.aB.length (tS l) (fun k=>(k:Int)) _ _ _ rfl (fun k hk=>?_) ?_
 ·have he:l.aB[k]?=some l.aB[k]:=by simp
  have hin:aK (tR l.aB[k] (l.aB.take k)) 0=some (if (l.aB.take k).any (Vi l.aB[k]) then .inl () else .inr ()):=by
   refine gF (l.aB.take k) (tR l.aB[k] (l.aB.take k)) (fun k=>(k:Int)) _ _ _ rfl (fun j y hy=>?_) ?_
   ·have hj:=(List.getElem?_eq_some_iff.1 hy).1
    have hjl:(l.aB.take k).length≤8:=by rw [List.length_take];omega
    unfold tR
    have hd:decide ((j:Int)<((l.aB.take k).length:Int))=true:=by rw [decide_eq_true_eq];omega
    simp only [hd,if_true,aQ hy,Option.bind_some,TX _ y (hx _ (List.getElem_mem hk)) (hx y (List.mem_of_mem_take (List.mem_of_getElem? hy)))]
    rw [aY (a:=(j:Int)) (by omega) (by omega)]
    cases Vi l.aB[k] y <;> rfl
   ·simp [tR]
  unfold tS AL
  have hd:decide ((k:Int)<(l.aB.length:Int))=true:=by simp;omega
  simp only [hd,if_true,aQ he,he,Option.bind_some,JC (Nat.le_of_lt hk),hin]
  rw [aY (a:=(k:Int)) (by omega) (by omega)]
  cases (l.aB.take k).any (Vi l.aB[k]) <;> rfl
 ·simp [tS]
theorem TE (l:aT) (hp:l.aB.length≤8) (hx:∀ x ∈ l.aB,x.aD.length≤12):aK (gR l) 0=some (if (List.range l.aB.length).any (AL l.aB) then .inl () else .inr ()):=by
 refine jF l.aB.length (gR l) (fun k=>(k:Int)) _ _ _ rfl (fun k hk=>?_) ?_
 ·have he : l.aB[k]?=some l.aB[k]:=by simp
  have hlt:(l.aB.take k).length=k:=by rw [List.length_take];omega
  have hin:aK (gQ l (k:Int)) 0=some (if (l.aB.take k).any (Vi l.aB[k]) then .inl () else .inr ()):=by
   refine gF (l.aB.take k) (gQ l (k:Int)) (fun k=>(k:Int)) _ _ _ rfl (fun j y hy=>?_) ?_
   ·have hj:=(List.getElem?_eq_some_iff.1 hy).1
    rw [hlt] at hj
    have hy':l.aB[j]?=some y:=by rw [List.getElem?_take] at hy;simpa [hj] using hy
    have h4:aK (gP l (k:Int) (j:Int)) 0=some (if Vi l.aB[k] y then .inl () else .inr ()):=by
     refine gF l.aB[k].aD (gP l (k:Int) (j:Int)) (fun k=>(k:Int)) _ _ _ rfl (fun i r hr=>?_) ?_
     ·have hi:=(List.getElem?_eq_some_iff.1 hr).1
      have hkl:=hx _ (List.getElem_mem hk)
      have hyl:=hx y (List.mem_of_getElem? hy')
      unfold gP
      have hd:decide ((i:Int)<(l.aB[k].aD.length:Int))=true:=by rw [decide_eq_true_eq];omega
      simp only [hd,if_true,aQ he,aQ hy',aQ hr,Option.bind_some,Ms r _ (show y.aD.length≤1000 by omega)]
      rw [aY (a:=(i:Int)) (by omega) (by omega)]
      rfl
     ·simp [gP,aQ he]
    unfold gQ
    have hd:decide ((j:Int)<(k:Int))=true:=by simp;omega
    simp only [hd,if_true,h4,Option.bind_some]
    rw [aY (a:=(j:Int)) (by omega) (by omega)]
    cases Vi l.aB[k] y <;> rfl
   ·rw [hlt];simp [gQ]
  unfold gR AL
  have hd:decide ((k:Int)<(l.aB.length:Int))=true:=by simp;omega
  simp only [hd,if_true,he,Option.bind_some,hin]
  rw [aY (a:=(k:Int)) (by omega) (by omega)]
  cases (l.aB.take k).any (Vi l.aB[k]) <;> rfl
 ·simp [gR]
theorem FC (l:aT) (hp:l.aB.length≤8) (hs:∀ x ∈ l.aB,Sm x):(∃ c,aK (dF l) 0=some (.inl c)∧aK (dA l) 0=some (.inl c))∨(aK (dF l) 0=some (.inr ())∧aK (dA l) 0=some (.inr ())∧∀ x ∈ l.aB,x.aD.length≤12):=by
 have key:∀ (m k:Nat),k+m=l.aB.length→(∀ x ∈ l.aB.take k,x.aD.length≤12)→(∃ c,aK (dF l) (k:Int)=some (.inl c)∧aK (dA l) (k:Int)=some (.inl c))∨(aK (dF l) (k:Int)=some (.inr ())∧aK (dA l) (k:Int)=some (.inr ())∧∀ x ∈ l.aB,x.aD.length≤12):=by
  intro m
  induction m with
  | zero =>
    intro k h hb;obtain rfl:k=l.aB.length:=by omega
    rw [List.take_length] at hb
    exact .inr ⟨eA (by simp [dF]),eA (by simp [dA]),hb⟩
  | succ m ih =>
    intro k h hb
    have hx:l.aB[k]?=some (l.aB[k]'(by omega)):=by simp [show k<l.aB.length by omega]
    have hd:decide ((k:Int)<(l.aB.length:Int))=true:=by simp;omega
    obtain ⟨e,e1,e2,e3⟩:=Mj (hs _ (List.getElem_mem (show k<l.aB.length by omega)))
    have i1:aL (k:Int) 1=((k+1:Nat):Int):=by rw [aY (by omega) (by omega)];rfl
    have b2:dA l (k:Int)=if e=0 then some (.inl ((k+1:Nat):Int)) else some (.inr (.inl e)):=by
     unfold dA
     simp only [hd,if_true,aQ hx,Option.bind_some,i1]
     exact e3 _
    by_cases he:e=0
    ·subst he
     rw [if_pos rfl] at b2
     rw [gT (s':=((k+1:Nat):Int)),gT b2]
     ·refine ih (k+1) (by omega) fun x hxm=>?_
      rw [List.take_add_one,hx] at hxm
      rcases List.mem_append.1 hxm with h | h
      ·exact hb x h
      ·simp at h;rw [h];exact e2 rfl
     ·unfold dF
      simp only [hd,if_true,aQ hx,Option.bind_some,e1,bne_self_eq_false,Bool.false_eq_true,if_false,i1]
    ·rw [if_neg he] at b2
     refine .inl ⟨e,eA ?_,eA b2⟩
     have he':(e != 0)=true:=by rw [bne_iff_ne];exact he
     unfold dF
     simp only [hd,if_true,aQ hx,Option.bind_some,e1,he']
 exact key l.aB.length 0 (by omega) (by simp)
theorem Ze (l:aT) (hs:∀ x ∈ l.aB,Sm x):∃ b,tD l=some b∧dG l=some b:=by
 obtain ⟨b,b1,b2⟩:=Sf l.bF
 unfold tD dG
 rw [b1,b2]
 simp only [Option.bind_some]
 by_cases hb:b=0
 ·subst hb
  have sl:=Ie b1
  simp only [bne_self_eq_false,Bool.false_eq_true,if_false]
  by_cases h8:(l.aB.length:Int)>8
  ·exact ⟨4,by simp [h8],by simp [h8]⟩
  have hp:l.aB.length≤8:=by omega
  simp only [h8,decide_false,Bool.false_eq_true,if_false]
  rcases FC l hp hs with ⟨c,c1,c2⟩ | ⟨c1,c2,c3⟩
  ·exact ⟨c,by rw [c1];rfl,by rw [c2];rfl⟩
  ·simp only [c1,c2,Option.bind_some,RE l hp c3 sl.1 sl.2,TD l hp c3 sl.1 sl.2,RG l hp c3,TE l hp c3]
   cases l.aB.any (fun x=>x.aD.any (Tz l.bF)) with
   | true=>exact ⟨13,rfl,rfl⟩
   | false =>
   cases (List.range l.aB.length).any (AL l.aB) with
   | true=>exact ⟨7,rfl,rfl⟩
   | false=>exact ⟨0,rfl,rfl⟩
 ·have hb':(b != 0)=true:=by rw [bne_iff_ne];exact hb
  exact ⟨b,by simp [hb'],by simp [hb']⟩
structure LV (l:aT):Prop where
 n:l.aB.length≤8
 sh:jS l.bF=some 0
 r12:∀ x ∈ l.aB,x.aD.length≤12
 pe:∀ x ∈ l.aB,kJ x=some 0
 off:∀ x ∈ l.aB,∀ r ∈ x.aD,tZ r ⟨0,0,l.bF.fA,l.bF.cQ⟩∧l.bF.cC.any (qU r)=false∧l.bF.Used.any (qU r)=false
 hit:∀ k,k<l.aB.length→AL l.aB k=false
theorem SP (l:aT) (hp:l.aB.length≤8) (hs:∀ x ∈ l.aB,Sm x) (h:aK (dF l) 0=some (.inr ())):∀ x ∈ l.aB,kJ x=some 0:=by
 have key:∀ (m k:Nat),k+m=l.aB.length→aK (dF l) (k:Int)=some (.inr ())→∀ x ∈ l.aB.drop k,kJ x=some 0:=by
  intro m
  induction m with
  | zero =>
    intro k h hb;obtain rfl:k=l.aB.length:=by omega
    intro x hx;simp at hx
  | succ m ih =>
    intro k h hb
    have hx:l.aB[k]?=some (l.aB[k]'(by omega)):=by simp [show k<l.aB.length by omega]
    have hd:decide ((k:Int)<(l.aB.length:Int))=true:=by simp;omega
    obtain ⟨e,e1,_⟩:=Mj (hs _ (List.getElem_mem (show k<l.aB.length by omega)))
    have i1:aL (k:Int) 1=((k+1:Nat):Int):=by rw [aY (by omega) (by omega)];rfl
    by_cases he:e=0
    ·subst he
     rw [gT (s':=((k+1:Nat):Int))] at hb
     ·intro x hxm
      rw [List.drop_eq_getElem_cons (show k<l.aB.length by omega)] at hxm
      rcases List.mem_cons.1 hxm with rfl | hxm
      ·exact e1
      ·exact ih (k+1) (by omega) hb x hxm
     ·unfold dF
      simp only [hd,if_true,aQ hx,Option.bind_some,e1,bne_self_eq_false,Bool.false_eq_true,if_false,i1]
    ·have he':(e != 0)=true:=by rw [bne_iff_ne];exact he
     rw [eA (r:=.inl e)] at hb
     ·cases hb
     ·unfold dF
      simp only [hd,if_true,aQ hx,Option.bind_some,e1,he']
 exact key l.aB.length 0 (by omega) h
theorem Xl (l:aT) (hs:∀ x ∈ l.aB,Sm x):∃ b,tD l=some b∧dG l=some b∧(b=0→LV l):=by
 obtain ⟨b,b1,b2⟩:=Ze l hs
 refine ⟨b,b1,b2,fun hb0=>?_⟩
 subst hb0
 obtain ⟨c,c1,_⟩:=Sf l.bF
 unfold tD at b1
 rw [c1] at b1
 simp only [Option.bind_some] at b1
 by_cases hc:c=0
 ·subst hc
  have sl:=Ie c1
  simp only [bne_self_eq_false,Bool.false_eq_true,if_false] at b1
  by_cases h8:(l.aB.length:Int)>8
  ·simp [h8] at b1
  have hp:l.aB.length≤8:=by omega
  simp only [h8,decide_false,Bool.false_eq_true,if_false] at b1
  rcases FC l hp hs with ⟨d,d1,_⟩ | ⟨d1,_,d3⟩
  ·exfalso
   rw [d1] at b1
   simp only [Option.bind_some] at b1
   -- the error of a piece is not 0
   have hne:∀ (m k:Nat),k+m=l.aB.length→aK (dF l) (k:Int)=some (.inl d)→d≠0:=by
    intro m
    induction m with
    | zero =>
      intro k h hb;obtain rfl:k=l.aB.length:=by omega
      rw [eA (r:=.inr ()) (by simp [dF])] at hb
      cases hb
    | succ m ih =>
      intro k h hb
      have hx:l.aB[k]?=some (l.aB[k]'(by omega)):=by simp [show k<l.aB.length by omega]
      have hd:decide ((k:Int)<(l.aB.length:Int))=true:=by simp;omega
      obtain ⟨e,e1,_⟩:=Mj (hs _ (List.getElem_mem (show k<l.aB.length by omega)))
      have i1:aL (k:Int) 1=((k+1:Nat):Int):=by rw [aY (by omega) (by omega)];rfl
      by_cases he:e=0
      ·subst he
       rw [gT (s':=((k+1:Nat):Int))] at hb
       ·exact ih (k+1) (by omega) hb
       ·unfold dF
        simp only [hd,if_true,aQ hx,Option.bind_some,e1,bne_self_eq_false,Bool.false_eq_true,if_false,i1]
      ·have he':(e != 0)=true:=by rw [bne_iff_ne];exact he
       rw [eA (r:=.inl e)] at hb
       ·injection hb with hb;injection hb with hb;rw [← hb];exact he
       ·unfold dF
        simp only [hd,if_true,aQ hx,Option.bind_some,e1,he']
   exact hne l.aB.length 0 (by omega) d1 (Option.some.inj b1)
  ·simp only [d1,Option.bind_some,RE l hp d3 sl.1 sl.2,RG l hp d3] at b1
   cases h3:l.aB.any (fun x=>x.aD.any (Tz l.bF)) with
   | true=>rw [h3] at b1;exact absurd (Option.some.inj b1) (by decide)
   | false =>
   cases h6:(List.range l.aB.length).any (AL l.aB) with
   | true=>rw [h3,h6] at b1;exact absurd (Option.some.inj b1) (by decide)
   | false =>
     refine ⟨hp,c1,d3,SP l hp hs d1,fun x hx r hr=>?_,fun k hk=>?_⟩
     ·have q1:=List.any_eq_false.1 h3 x hx
      rw [Bool.not_eq_true,List.any_eq_false] at q1
      have q2:=q1 r hr
      unfold Tz at q2
      simp only [Bool.or_eq_true,not_or,Bool.not_eq_true',Bool.not_eq_false,Bool.not_eq_true,decide_eq_true_eq] at q2
      exact q2
     ·have:=List.any_eq_false.1 h6 k (List.mem_range.2 hk)
      simpa using this
 ·have hb':(c != 0)=true:=by rw [bne_iff_ne];exact hc
  simp only [hb',if_true] at b1
  exact absurd (Option.some.inj b1) hc
end Go.SM
namespace Go.SM
open Go Go.VI Go.Cells
def eK (l:aT):List (List aS):=l.aB.map fun x=>x.aD
def Fj (R:List (List aS)) (xs ys:List Int):List bC:=
 ys.flatMap (fun y=>(mB (hS R y)).map fun p=>mkE ⟨p.1,y,p.2,y⟩ (eJ R p.1 y) (eJ R p.1 (y-1)))++xs.flatMap fun x=>(mB (vS R x)).map fun p=>mkE ⟨x,p.1,x,p.2⟩ (eJ R x p.1) (eJ R (x-1) p.1)
section
variable {l:aT} (n8:l.aB.length≤8) (r12:∀ x ∈ l.aB,x.aD.length≤12) (hv:∀ x ∈ l.aB,Uy x.aD)
include n8 r12 hv
theorem SK:Uy (eK l).flatten:=fun r hr=>by
 obtain ⟨t,ht,hr⟩:=List.mem_flatten.1 hr
 obtain ⟨x,hx,rfl⟩:=List.mem_map.1 ht
 exact hv x hx r hr
omit hv in
theorem CP:(eK l).flatten.length≤96:=by
 have:∀ p:List aV,(∀ x ∈ p,x.aD.length≤12)→(p.map fun x=>x.aD).flatten.length≤12*p.length:=by
  intro p
  induction p with
  | nil=>intro _;simp
  | cons x p ih =>
    intro h
    have h1:=ih fun y hy=>h y (List.mem_cons_of_mem _ hy)
    have h2:=h x List.mem_cons_self
    simp only [List.map_cons,List.flatten_cons,List.length_append,List.length_cons]
    omega
 have:=this l.aB r12
 unfold eK;omega
omit r12 hv in
theorem SZ:(eK l).length≤900:=by unfold eK;rw [List.length_map];omega
omit n8 hv in
theorem SY:∀ t ∈ eK l,t.length≤1000:=fun t ht=>by
 obtain ⟨x,hx,rfl⟩:=List.mem_map.1 ht
 have:=r12 x hx;omega
theorem SR {xs ys:List Int} (gx:Bj xs (xsL (eK l).flatten)) (gy:Bj ys (ysL (eK l).flatten)):Lay (eK l) xs ys:=
 ⟨gx,gy,SK n8 r12 hv,by have:=CP n8 r12;omega,SZ n8⟩
theorem EI (x y:Int):Cx l x y=some (eJ (eK l) x y):=by
 unfold Cx
 have h2:=Ky l.aB (Kk l x y) (fun p=>cov p.aD x y) (fun k=>.inl (some (k:Int))) (.inr ()) (fun k p hp=>?s) ?f
 ·rw [h2]
  unfold eJ Ge lK eK
  rw [List.findIdx?_map]
  show _=some ((l.aB.findIdx? fun p=>cov p.aD x y).map fun i=>(i:Int))
  cases l.aB.findIdx? (fun p=>cov p.aD x y) <;> rfl
 case s =>
  have h1:=bG hp
  have hpm:=List.mem_of_getElem? hp
  have hl:=r12 p hpm
  have h3:aK (Gk x y p) 0=some (if p.aD.any (fun r=>inC r x y) then .inl () else .inr ()):=by
   refine Ts p.aD (Gk x y p) (fun r=>inC r x y) (.inr ()) (.inl ()) (fun k r hr=>?_) ?_
   ·have h1:=bG hr
    obtain ⟨e1,e2⟩:=Yz (hv p hpm r (List.mem_of_getElem? hr))
    unfold Gk
    simp only [h1,Int.ofNat_lt,decide_true,if_true,aQ hr,Option.bind_some,e1,e2]
    have hb':(if decide (r.X≤x) then (if decide (x<r.X+r.W) then (if decide (r.Y≤y) then some (decide (y<r.Y+r.H)) else some false) else some false) else some false)=some (inC r x y):=by
     unfold inC
     cases decide (r.X≤x) <;> cases decide (x<r.X+r.W) <;> cases decide (r.Y≤y) <;> simp
    rw [hb',Option.bind_some,bH k (by omega)]
   ·simp [Gk]
  unfold Kk
  simp only [h1,Int.ofNat_lt,decide_true,if_true,aQ hp,Option.bind_some,h3,bH k (by omega)]
  show _=if (p.aD.any fun r=>inC r x y)=true then _ else _
  cases p.aD.any (fun r=>inC r x y) <;> rfl
 case f=>simp [Kk]
theorem Zt:aK (xR l) (0,[],[])=some (xsL (eK l).flatten,ysL (eK l).flatten):=by
 have hfl:∀ k,k≤l.aB.length→(xsL ((l.aB.take k).map fun x=>x.aD).flatten).length≤200∧(ysL ((l.aB.take k).map fun x=>x.aD).flatten).length≤200:=fun k hk=>by
  have:=CP (l:=⟨l.bF,l.aB.take k⟩) (by simp only [List.length_take];omega) (fun x hx=>r12 x (List.mem_of_mem_take hx))
  unfold eK at this
  simp only at this
  rw [Oo,Oq];omega
 obtain ⟨r,q1,q2⟩:=tU l.aB (fun k (s:List Int×List Int)=>((k:Int),s.1,s.2)) (xR l) (fun s=>(s.1,s.2)) (fun k s=>s=(xsL ((l.aB.take k).map fun x=>x.aD).flatten,ysL ((l.aB.take k).map fun x=>x.aD).flatten)) ([],[]) (by simp [xsL,ysL])
  (fun k p s hp hI=>by
   have h1:=bG hp
   have hd:decide ((k:Int)<(l.aB.length:Int))=true:=by simp [h1]
   have hpm:=List.mem_of_getElem? hp
   have hl:=r12 p hpm
   have hf:=hfl k (by omega)
   subst hI
   obtain ⟨r,t1,t2⟩:=tU p.aD (fun k (s:List Int×List Int)=>((k:Int),s.1,s.2)) (Bu p) (fun s=>(s.1,s.2)) (fun j s=>s=(xsL ((l.aB.take k).map fun x=>x.aD).flatten++xsL (p.aD.take j),ysL ((l.aB.take k).map fun x=>x.aD).flatten++ysL (p.aD.take j))) (xsL ((l.aB.take k).map fun x=>x.aD).flatten,ysL ((l.aB.take k).map fun x=>x.aD).flatten) (by simp [xsL,ysL])
    (fun j r s hr hI=>by
     have h2:=bG hr
     have hd:decide ((j:Int)<(p.aD.length:Int))=true:=by simp [h2]
     obtain ⟨e1,e2⟩:=Yz (hv p hpm r (List.mem_of_getElem? hr))
     subst hI
     unfold Bu
     simp only [hd,if_true,aQ hr,Option.bind_some,e1,e2]
     have l1:(xsL (p.aD.take j)).length≤200:=by rw [Oo,List.length_take];omega
     have l2:(ysL (p.aD.take j)).length≤200:=by rw [Oq,List.length_take];omega
     rw [lA (by simp only [List.length_append,List.length_cons,List.length_nil,LIM];omega),lA (by simp only [List.length_append,List.length_cons,List.length_nil,LIM];omega)]
     simp only [Option.bind_some,bH j (by omega)]
     refine ⟨(xsL ((l.aB.take k).map fun x=>x.aD).flatten++xsL (p.aD.take (j+1)),ysL ((l.aB.take k).map fun x=>x.aD).flatten++ysL (p.aD.take (j+1))), ?_,rfl⟩
     rw [nK hr,Mo,Mp]
     simp [xsL,ysL]) (fun s _=>by simp [Bu])
   rw [List.take_length] at t2
   unfold xR
   simp only [hd,if_true,aQ hp,Option.bind_some,bH k (by omega)]
   rw [show ((0:Int),xsL ((l.aB.take k).map fun x=>x.aD).flatten,ysL ((l.aB.take k).map fun x=>x.aD).flatten)=(((0:Nat):Int),xsL ((l.aB.take k).map fun x=>x.aD).flatten,ysL ((l.aB.take k).map fun x=>x.aD).flatten) from rfl,t1,t2]
   refine ⟨(xsL ((l.aB.take (k+1)).map fun x=>x.aD).flatten,ysL ((l.aB.take (k+1)).map fun x=>x.aD).flatten), ?_,rfl⟩
   rw [nK hp,List.map_append,List.flatten_append,Mo,Mp]
   simp) (fun s _=>by simp [xR])
 rw [List.take_length] at q2
 rw [show ((0:Int),([]:List Int),([]:List Int))=(((0:Nat):Int),(([],[]):List Int×List Int).1,(([],[]):List Int×List Int).2) from rfl,q1,q2]
 rfl
theorem KR:∃ xs ys,Lay (eK l) xs ys∧yY l=some (Fj (eK l) xs ys)∧(Fj (eK l) xs ys).length≤200000:=by
 have hn:=CP n8 r12
 obtain ⟨xs,x1,x2,x3⟩:=NT (l:=xsL (eK l).flatten) (by rw [Oo];omega)
 obtain ⟨ys,y1,y2,y3⟩:=NT (l:=ysL (eK l).flatten) (by rw [Oq];omega)
 have hL:=SR n8 r12 hv ⟨x2,x3⟩ ⟨y2,y3⟩
 have lx:xs.length≤200:=by have:=xC x2 fun x m=>(x3 x).1 m;rw [Oo] at this;omega
 have ly:ys.length≤200:=by have:=xC y2 fun x m=>(y3 x).1 m;rw [Oq] at this;omega
 have rowH:∀ y,(-1048576≤y∧y≤1048576)→∃ L,fP xs l.bF.Name l.bF.cH l.bF.gU l.bF.gV l.bF.fA l.bF.cQ l.bF.cC l.bF.Used l.aB y y=some ((mB (hS (eK l) y)).map fun p=>mkE ⟨p.1,y,p.2,y⟩ (eJ (eK l) p.1 y) (eJ (eK l) p.1 (y-1)))∧L=mB (hS (eK l) y)∧L.length≤xs.length:=fun y hy=>by
  have hA:=TP hL y
  obtain ⟨L,g1,g2,g3⟩:=JR hA (side:=fun i=>En i l.bF.Name l.bF.cH l.bF.gU l.bF.gV l.bF.fA l.bF.cQ l.bF.cC l.bF.Used l.aB y) (fun i x hx _=>by
   show (Cx l x y).bind (fun r5=>(Cx l x (aJ y 1)).bind fun r6=>some (r5,r6))=_
   rw [bK (by omega) (by omega),EI n8 r12 hv,EI n8 r12 hv];rfl) (line:=fun a b=>Eo a b y) (ln:=fun a b=>⟨a,y,b,y⟩) (fun a b=>rfl)
  have e:mB (hS (eK l) y)=L:=Kf g2
  exact ⟨L,by rw [GH,g1,e],e.symm,g3⟩
 have rowV:∀ x,(-1048576≤x∧x≤1048576)→∃ L,fQ ys l.bF.Name l.bF.cH l.bF.gU l.bF.gV l.bF.fA l.bF.cQ l.bF.cC l.bF.Used l.aB x x=some ((mB (vS (eK l) x)).map fun p=>mkE ⟨x,p.1,x,p.2⟩ (eJ (eK l) x p.1) (eJ (eK l) (x-1) p.1))∧L=mB (vS (eK l) x)∧L.length≤ys.length:=fun x hx=>by
  have hA:=OO hL x
  obtain ⟨L,g1,g2,g3⟩:=JR hA (side:=fun i=>Ep i l.bF.Name l.bF.cH l.bF.gU l.bF.gV l.bF.fA l.bF.cQ l.bF.cC l.bF.Used l.aB x) (fun i y hy _=>by
   show (Cx l x y).bind (fun r5=>(Cx l (aJ x 1) y).bind fun r6=>some (r5,r6))=_
   rw [bK (by omega) (by omega),EI n8 r12 hv,EI n8 r12 hv];rfl) (line:=fun a b=>Er a b x) (ln:=fun a b=>⟨x,a,x,b⟩) (fun a b=>rfl)
  have e:mB (vS (eK l) x)=L:=Kf g2
  exact ⟨L,by rw [GI,g1,e],e.symm,g3⟩
 obtain ⟨r,q1,q2,q3⟩:=tU ys (fun k (s:List bC)=>((k:Int),s)) (Bv l xs ys) (fun s=>s) (fun k s=>s=(ys.take k).flatMap (fun y=>(mB (hS (eK l) y)).map fun p=>mkE ⟨p.1,y,p.2,y⟩ (eJ (eK l) p.1 y) (eJ (eK l) p.1 (y-1)))∧s.length≤200*k) [] ⟨rfl,by simp⟩
  (fun k y s hy hI=>by
   have hk:=bG hy
   have hd:decide ((k:Int)<(ys.length:Int))=true:=by simp [hk]
   obtain ⟨L,g1,g2,g3⟩:=rowH y (hL.Y.within y (List.mem_of_getElem? hy))
   have hrl:((mB (hS (eK l) y)).map fun p=>mkE ⟨p.1,y,p.2,y⟩ (eJ (eK l) p.1 y) (eJ (eK l) p.1 (y-1))).length≤200:=by rw [List.length_map,← g2];omega
   have hsl:=hI.2
   unfold Bv
   simp only [hd,if_true,aQ hy,Option.bind_some,g1,bH k (by omega)]
   rw [lA (by unfold LIM;omega)]
   refine ⟨_,rfl, ?_,by rw [List.length_append];omega⟩
   rw [nK hy,List.flatMap_append,hI.1]
   simp) (fun s _=>by simp [Bv])
 rw [List.take_length] at q2
 obtain ⟨r',t1,t2,t3⟩:=tU xs (fun k (s:List bC)=>((k:Int),s)) (Bw l xs ys) (fun s=>s) (fun k s=>s=r++(xs.take k).flatMap (fun x=>(mB (vS (eK l) x)).map fun p=>mkE ⟨x,p.1,x,p.2⟩ (eJ (eK l) x p.1) (eJ (eK l) (x-1) p.1))∧s.length≤40000+200*k) r ⟨by simp,by omega⟩
  (fun k x s hx hI=>by
   have hk:=bG hx
   have hd:decide ((k:Int)<(xs.length:Int))=true:=by simp [hk]
   obtain ⟨L,g1,g2,g3⟩:=rowV x (hL.X.within x (List.mem_of_getElem? hx))
   have hrl:((mB (vS (eK l) x)).map fun p=>mkE ⟨x,p.1,x,p.2⟩ (eJ (eK l) x p.1) (eJ (eK l) (x-1) p.1)).length≤200:=by rw [List.length_map,← g2];omega
   have hsl:=hI.2
   unfold Bw
   simp only [hd,if_true,aQ hx,Option.bind_some,g1,bH k (by omega)]
   rw [lA (by unfold LIM;omega)]
   refine ⟨_,rfl, ?_,by rw [List.length_append];omega⟩
   rw [nK hx,List.flatMap_append,hI.1]
   simp) (fun s _=>by simp [Bw])
 rw [List.take_length] at t2
 have e:r'=Fj (eK l) xs ys:=by rw [t2,q2];rfl
 refine ⟨xs,ys,hL, ?_,by rw [← e];omega⟩
 unfold yY
 rw [Zt n8 r12 hv]
 simp only [Option.bind_some,x1,y1]
 rw [show ((0:Int),([]:List bC))=(((0:Nat):Int),[]) from rfl,q1]
 simp only [Option.bind_some]
 rw [show ((0:Int),r)=(((0:Nat):Int),r) from rfl,t1,e]
 rfl
end
end Go.SM
namespace Go.SM
open Go Go.VI
end Go.SM
namespace Go.SM
open Go Go.VI Go.Cells
def Hd (R:List (List aS)) (xs ys:List Int):List Ln:=
 ys.flatMap (fun y=>(mB (hS R y)).map fun p=>⟨⟨p.1,y,p.2,y⟩,nm (eJ R p.1 (y-1)),nm (eJ R p.1 y)⟩)++xs.flatMap fun x=>(mB (vS R x)).map fun p=>⟨⟨x,p.1,x,p.2⟩,nm (eJ R (x-1) p.1),nm (eJ R x p.1)⟩
section
variable {R:List (List aS)} {xs ys:List Int} (h:Lay R xs ys) (hk:∀ t ∈ R,t.length≤1000) (lx:xs.length≤1000) (ly:ys.length≤1000)
include h
theorem KJ {i j:Nat} {x y:Int} (hx:xs[i]?=some x) (hi:i+1<xs.length) (hy:ys[j]?=some y):Cv R xs ys (i+1) (j+1)=nm (eJ R x y)∧Cv R xs ys (i+1) j=nm (eJ R x (y-1)):=by
 obtain ⟨_,_,_,o1,o2,_⟩:=Nw h
 have hjl:=bG hy
 have neg:∀ {x y:Int},lK R x y=none→nm (eJ R x y)=-1:=fun {x y} e=>by rw [nU e];rfl
 constructor
 ·unfold Cv
  by_cases hj:j+1<ys.length
  ·rw [if_pos ⟨by omega,by omega,hi,hj⟩]
   simp only [Nat.add_sub_cancel,mD hx,mD hy,Ym]
  ·rw [if_neg (by omega),neg (o2 y (by rw [show ys.length-1=j by omega];exact hy) x y (Int.le_refl y))]
 ·unfold Cv
  by_cases hj:0<j
  ·rw [if_pos ⟨by omega,hj,hi,hjl⟩]
   obtain ⟨y0,hy0⟩:∃ y0,ys[j-1]?=some y0:=⟨_,List.getElem?_eq_getElem (by omega)⟩
   obtain ⟨h1,h2⟩:=xF (FE h) hy0 (by rw [show j-1+1=j by omega];exact hy)
   simp only [Nat.add_sub_cancel,mD hx,mD hy0]
   rw [← Ym]
   have:=congrFun (h2 (y-1) (by omega) (by omega)) x
   unfold eJ
   rw [this]
  ·obtain rfl:j=0:=by omega
   rw [if_neg (by omega),neg (o1 y hy x (y-1) (by omega))]
theorem GS {i j:Nat} {x y:Int} (hx:xs[i]?=some x) (hy:ys[j]?=some y) (hj:j+1<ys.length):Cv R xs ys (i+1) (j+1)=nm (eJ R x y)∧Cv R xs ys i (j+1)=nm (eJ R (x-1) y):=by
 obtain ⟨o1,o2,_⟩:=Nw h
 have hil:=bG hx
 have neg:∀ {x y:Int},lK R x y=none→nm (eJ R x y)=-1:=fun {x y} e=>by rw [nU e];rfl
 constructor
 ·unfold Cv
  by_cases hi:i+1<xs.length
  ·rw [if_pos ⟨by omega,by omega,hi,hj⟩]
   simp only [Nat.add_sub_cancel,mD hx,mD hy,Ym]
  ·rw [if_neg (by omega),neg (o2 x (by rw [show xs.length-1=i by omega];exact hx) x y (Int.le_refl x))]
 ·unfold Cv
  by_cases hi:0<i
  ·rw [if_pos ⟨hi,by omega,hil,hj⟩]
   obtain ⟨x0,hx0⟩:∃ x0,xs[i-1]?=some x0:=⟨_,List.getElem?_eq_getElem (by omega)⟩
   obtain ⟨h1,h2⟩:=xF (Yi h) hx0 (by rw [show i-1+1=i by omega];exact hx)
   simp only [Nat.add_sub_cancel,mD hy,mD hx0]
   rw [← Ym]
   have:=congrFun (h2 (x-1) (by omega) (by omega)) y
   unfold eJ
   rw [this]
  ·obtain rfl:i=0:=by omega
   rw [if_neg (by omega),neg (o1 x hx (x-1) y (by omega))]
include lx ly
theorem QL {j:Nat} {y:Int} (hy:ys[j]?=some y) (s:List Ln) {out0:List Ln} (h0:out0.length≤5000000) (hout:∀ q ∈ out0,q.At.Y2<y) :
  aK (iD (xs,ys) (Gf R xs ys) ((j:Int),s)) (0,out0)=some (out0++(mB (hS R y)).map fun p=>⟨⟨p.1,y,p.2,y⟩,nm (eJ R p.1 (y-1)),nm (eJ R p.1 y)⟩)∧(mB (hS R y)).length≤xs.length:=by
 have hjl:=bG hy
 obtain ⟨L,g1,g2,g3⟩:=NI (TP h y) (ln:=fun a b=>⟨a,y,b,y⟩) (body:=iD (xs,ys) (Gf R xs ys) ((j:Int),s)) (fun k x x' out hx hx'=>by
  have hkl:=bG hx'
  obtain ⟨c1,c2⟩:=KJ h hx hkl hy
  have d:decide (((k+1:Nat):Int)<(xs.length:Int))=true:=by simp;omega
  have g0:=Kj (R:=R) xs ys (k+1) (by omega)
  have r1:=Gg (R:=R) xs ys (k+1) j (by omega)
  have r2:=Gg (R:=R) xs ys (k+1) (j+1) (by omega)
  unfold iD
  simp only [bH k (by omega),bH j (by omega),d,if_true,aQ hx,aQ hy,aQ hx',aQ g0,aQ r1,aQ r2,Option.bind_some,c1,c2]) (fun k out hk1 hk2=>by
  have d:decide (aL (k:Int) 1<(xs.length:Int))=false:=by rw [bH k (by omega)];simp;omega
  unfold iD
  simp only [d,Bool.false_eq_true,if_false]) (fun a b e e'=>by unfold cS;simp) (fun a e e'=>rfl) h0 (fun q hq x x' _ hc=>by have:=hout q hq;have:=hc.2.1;simp only at this;omega)
 have e:mB (hS R y)=L:=Kf g2
 rw [e];exact ⟨g1,g3⟩
theorem QM {i:Nat} {x:Int} (hx:xs[i]?=some x) (s:List Ln) {out0:List Ln} (h0:out0.length≤5000000) (hout:∀ q ∈ out0,(q.At.X2<x)∨(q.At.Y1=q.At.Y2∧q.At.X1<q.At.X2)) :
  aK (iF (xs,ys) (Gf R xs ys) ((i:Int),s)) (0,out0)=some (out0++(mB (vS R x)).map fun p=>⟨⟨x,p.1,x,p.2⟩,nm (eJ R (x-1) p.1),nm (eJ R x p.1)⟩)∧(mB (vS R x)).length≤ys.length:=by
 have hil:=bG hx
 obtain ⟨L,g1,g2,g3⟩:=NI (OO h x) (ln:=fun a b=>⟨x,a,x,b⟩) (body:=iF (xs,ys) (Gf R xs ys) ((i:Int),s)) (fun k y y' out hy hy'=>by
  have hkl:=bG hy'
  obtain ⟨c1,c2⟩:=GS h hx hy hkl
  have d:decide (((k+1:Nat):Int)<(ys.length:Int))=true:=by simp;omega
  have g0:=Kj (R:=R) xs ys i (by omega)
  have g0':=Kj (R:=R) xs ys (i+1) (by omega)
  have r1:=Gg (R:=R) xs ys i (k+1) (by omega)
  have r2:=Gg (R:=R) xs ys (i+1) (k+1) (by omega)
  unfold iF
  simp only [bH k (by omega),bH i (by omega),d,if_true,aQ hx,aQ hy,aQ hy',aQ g0,aQ g0',aQ r1,aQ r2,Option.bind_some,c1,c2]) (fun k out hk1 hk2=>by
  have d:decide (aL (k:Int) 1<(ys.length:Int))=false:=by rw [bH k (by omega)];simp;omega
  unfold iF
  simp only [d,Bool.false_eq_true,if_false]) (fun a b e e'=>by unfold cS;simp) (fun a e e'=>rfl) h0 (fun q hq y y' hyy hc=>by
  obtain ⟨c1,c2,c3⟩:=hc
  simp only at c1 c2 c3
  have:=hout q hq
  omega)
 have e:mB (vS R x)=L:=Kf g2
 rw [e];exact ⟨g1,g3⟩
theorem Va:∃ r,aK (iE (xs,ys) (Gf R xs ys)) (0,[])=some r∧aK (iG (xs,ys) (Gf R xs ys)) (0,r)=some (Hd R xs ys)∧(Hd R xs ys).length≤2000000:=by
 have isr:∀ {s:Int→Int} {p:Int×Int},p ∈ mB s→p.1<p.2:=fun {s p} hp=>by
  unfold mB at hp
  split at hp
  ·rename_i hx
   exact (((Classical.choose_spec hx).2 p.1 p.2).1 hp).1
  ·cases hp
 obtain ⟨r,q1,q2,q3,q4⟩:=tU ys (fun k (s:List Ln)=>((k:Int),s)) (iE (xs,ys) (Gf R xs ys)) (fun s=>s) (fun k s=>s=(ys.take k).flatMap (fun y=>(mB (hS R y)).map fun p=>⟨⟨p.1,y,p.2,y⟩,nm (eJ R p.1 (y-1)),nm (eJ R p.1 y)⟩)∧s.length≤1000*k∧∀ q ∈ s,q.At.Y1=q.At.Y2∧q.At.X1<q.At.X2∧q.At.Y2 ∈ ys.take k) [] ⟨rfl,by simp,fun q hq=>by cases hq⟩
  (fun k y s hy hI=>by
   have hk:=bG hy
   have hd:decide ((k:Int)<(ys.length:Int))=true:=by simp [hk]
   obtain ⟨i1,i2,i3⟩:=hI
   obtain ⟨g1,g2⟩:=QL h lx ly hy s (out0:=s) (by omega) (fun q hq=>by
    obtain ⟨_,_,hm⟩:=i3 q hq
    obtain ⟨n,hn⟩:=List.mem_iff_getElem?.1 hm
    have hnl:=bG hn
    rw [List.length_take] at hnl
    rw [List.getElem?_take,if_pos (by omega)] at hn
    exact Mu h.Y.asc (show n<k by omega) hn hy)
   unfold iE
   simp only [hd,if_true,g1,Option.bind_some,bH k (by omega)]
   refine ⟨_,rfl, ?_,by simp;omega,fun q hq=>?_⟩
   ·rw [nK hy,List.flatMap_append,i1]
    simp
   ·rw [nK hy]
    rcases List.mem_append.1 hq with hq | hq
    ·obtain ⟨a,b,c⟩:=i3 q hq
     exact ⟨a,b,List.mem_append_left _ c⟩
    ·obtain ⟨p,hp,rfl⟩:=List.mem_map.1 hq
     exact ⟨rfl,isr hp,List.mem_append_right _ (by simp)⟩) (fun s _=>by simp [iE])
 rw [List.take_length] at q2 q4
 obtain ⟨r',t1,t2,t3,t4⟩:=tU xs (fun k (s:List Ln)=>((k:Int),s)) (iG (xs,ys) (Gf R xs ys)) (fun s=>s) (fun k s=>s=r++(xs.take k).flatMap (fun x=>(mB (vS R x)).map fun p=>⟨⟨x,p.1,x,p.2⟩,nm (eJ R (x-1) p.1),nm (eJ R x p.1)⟩)∧s.length≤1000000+1000*k∧∀ q ∈ s,q.At.X2 ∈ xs.take k∨(q.At.Y1=q.At.Y2∧q.At.X1<q.At.X2)) r ⟨by simp,by omega,fun q hq=>.inr ⟨(q4 q hq).1,(q4 q hq).2.1⟩⟩
  (fun k x s hx hI=>by
   have hk:=bG hx
   have hd:decide ((k:Int)<(xs.length:Int))=true:=by simp [hk]
   obtain ⟨i1,i2,i3⟩:=hI
   obtain ⟨g1,g2⟩:=QM h lx ly hx s (out0:=s) (by omega) (fun q hq=>by
    rcases i3 q hq with hm | hm
    ·left
     obtain ⟨n,hn⟩:=List.mem_iff_getElem?.1 hm
     have hnl:=bG hn
     rw [List.length_take] at hnl
     rw [List.getElem?_take,if_pos (by omega)] at hn
     exact Mu h.X.asc (show n<k by omega) hn hx
    ·exact .inr hm)
   unfold iG
   simp only [hd,if_true,g1,Option.bind_some,bH k (by omega)]
   refine ⟨_,rfl, ?_,by simp;omega,fun q hq=>?_⟩
   ·rw [nK hx,List.flatMap_append,i1]
    simp
   ·rw [nK hx]
    rcases List.mem_append.1 hq with hq | hq
    ·exact (i3 q hq).imp (fun c=>List.mem_append_left _ c) id
    ·obtain ⟨p,hp,rfl⟩:=List.mem_map.1 hq
     exact .inl (List.mem_append_right _ (by simp))) (fun s _=>by simp [iG])
 rw [List.take_length] at t2
 have e:r'=Hd R xs ys:=by rw [t2,q2];rfl
 exact ⟨r,by rw [show ((0:Int),([]:List Ln))=(((0:Nat):Int),[]) from rfl,q1],by rw [show ((0:Int),r)=(((0:Nat):Int),r) from rfl,t1,e],by rw [← e];omega⟩
end
theorem CA {R:List (List aS)} {xs ys:List Int} (h:Lay R xs ys) (hk:∀ t ∈ R,t.length≤1000):jW R=some (Hd R xs ys)∧(Hd R xs ys).length≤2000000:=by
 have hm:=h.m
 have hn:=h.n
 have hfl:∀ k,(R.take k).flatten.length≤R.flatten.length:=fun k=>by
  conv=>rhs;rw [← List.take_append_drop k R,List.flatten_append,List.length_append]
  omega
 obtain ⟨r,q1,q2⟩:=tU R (fun k (s:List aS)=>((k:Int),s)) (kR R) (fun s=>s) (fun k s=>s=(R.take k).flatten) [] (by simp)
  (fun k t s ht hI=>by
   have h1:=bG ht
   have hd:decide ((k:Int)<(R.length:Int))=true:=by simp [h1]
   have:=hfl k
   have:=hk t (List.mem_of_getElem? ht)
   unfold kR
   simp only [hd,if_true,aQ ht,Option.bind_some,bH k (by omega)]
   subst hI
   rw [lA (by unfold LIM;omega)]
   refine ⟨_,rfl, ?_⟩
   rw [nK ht,List.flatten_append];simp) (fun s _=>by simp [kR])
 rw [List.take_length] at q2
 obtain ⟨xs1,ys1,g1,g2,g3⟩:=OK h.v hn
 obtain rfl:=Qf h.x g2
 obtain rfl:=Qf h.y g3
 obtain ⟨r',b1,b2,b3⟩:=Va h h.X.len h.Y.len
 refine ⟨?_,b3⟩
 unfold jW
 rw [show ((0:Int),([]:List aS))=(((0:Nat):Int),[]) from rfl,q1,q2]
 simp only [Option.bind_some,g1,HT h.v hm hk h.X.len h.Y.len,b1,b2]
theorem HB (s:cT) {a b:Option Int} (ha:SmO a) (hb:SmO b) (hne:a≠b):(if mF (nm b) (nm a)<0 then (⟨s,imax (nm b) (nm a),mF (nm b) (nm a)⟩:bC) else ⟨s,mF (nm b) (nm a),imax (nm b) (nm a)⟩)=mkE s a b:=by
 have h1:mkE s a b=if nm a<0∨(nm b ≥ 0∧nm b<nm a) then ⟨s,nm b,nm a⟩ else ⟨s,nm a,nm b⟩:=rfl
 have hne':nm a≠nm b:=fun q=>hne ((Yl ha hb).1 q)
 have bd:∀ {o:Option Int},SmO o→-1≤nm o:=fun {o} ho=>by
  cases o with
  | none=>simp [nm]
  | some i=>have:=ho i rfl;simp only [nm];omega
 have ba:=bd ha
 have bb:=bd hb
 rw [h1,Ca,Ks]
 generalize nm a=p at *
 generalize nm b=q at *
 by_cases c1:p<0
 ·rw [if_pos (by omega),if_pos (.inl c1),show max q p=q by omega,show min q p=p by omega]
 ·by_cases c2:q<0
  ·rw [if_pos (by omega),if_neg (by omega),show max q p=p by omega,show min q p=q by omega]
  ·rw [if_neg (by omega)]
   by_cases c3:q<p
   ·rw [if_pos (.inr ⟨by omega,c3⟩),show max q p=p by omega,show min q p=q by omega]
   ·rw [if_neg (by omega),show max q p=q by omega,show min q p=p by omega]
section
variable {l:aT} (n8:l.aB.length≤8) (r12:∀ x ∈ l.aB,x.aD.length≤12) (hv:∀ x ∈ l.aB,Uy x.aD)
include n8 r12 hv
theorem IJ {xs ys:List Int} (hL:Lay (eK l) xs ys):cZ l=some (Fj (eK l) xs ys):=by
 obtain ⟨r,q1,q2⟩:=tU l.aB (fun k (s:List (List aS))=>((k:Int),s)) (mV l) (fun s=>s) (fun k s=>s=(l.aB.take k).map fun x=>x.aD) [] (by simp)
  (fun k x s hx hI=>by
   have h1:=bG hx
   have hd:decide ((k:Int)<(l.aB.length:Int))=true:=by simp [h1]
   unfold mV
   simp only [hd,if_true,aQ hx,Option.bind_some,bH k (by omega)]
   subst hI
   rw [lA (by simp [LIM];omega)]
   refine ⟨_,rfl, ?_⟩
   rw [nK hx,List.map_append];rfl) (fun s _=>by simp [mV])
 rw [List.take_length] at q2
 obtain ⟨b1,b2⟩:=CA hL (SY r12)
 -- from lines to edges
 let f:Ln→bC:=fun x=>if mF x.Low x.mC<0 then ⟨x.At,imax x.Low x.mC,mF x.Low x.mC⟩ else ⟨x.At,mF x.Low x.mC,imax x.Low x.mC⟩
 have hmap:(Hd (eK l) xs ys).map f=Fj (eK l) xs ys:=by
  have key:∀ {s:Int→Int} {A B:Int→Option Int} (ln:Int→Int→cT) (hs:s=fun z=>cod (A z) (B z)) (ha:∀ z,SmO (A z)) (hb:∀ z,SmO (B z)),((mB s).map fun p=>(⟨ln p.1 p.2,nm (B p.1),nm (A p.1)⟩:Ln)).map f=(mB s).map fun p=>mkE (ln p.1 p.2) (A p.1) (B p.1):=fun {s A B} ln hs ha hb=>by
   rw [List.map_map]
   refine List.map_congr_left fun p hp=>?_
   have hr:s p.1≠0:=by
    unfold mB at hp
    split at hp
    ·rename_i hx
     exact (((Classical.choose_spec hx).2 p.1 p.2).1 hp).2.1
    ·cases hp
   have hne:A p.1≠B p.1:=fun q=>hr (by rw [hs];simp only;rw [(Gi (ha _) (hb _)).2 q])
   exact HB _ (ha _) (hb _) hne
  unfold Hd Fj
  rw [List.map_append,List.map_flatMap,List.map_flatMap]
  congr 1
  ·congr 1;funext y
   exact key (fun a b=>⟨a,y,b,y⟩) (A:=fun z=>eJ (eK l) z y) (B:=fun z=>eJ (eK l) z (y-1)) rfl (fun z=>lD hL.m _ _) (fun z=>lD hL.m _ _)
  ·congr 1;funext x
   exact key (fun a b=>⟨x,a,x,b⟩) (A:=fun z=>eJ (eK l) x z) (B:=fun z=>eJ (eK l) (x-1) z) rfl (fun z=>lD hL.m _ _) (fun z=>lD hL.m _ _)
 obtain ⟨r',t1,t2⟩:=tU (Hd (eK l) xs ys) (fun k (s:List bC)=>((k:Int),s)) (mW (Hd (eK l) xs ys)) (fun s=>s) (fun k s=>s=((Hd (eK l) xs ys).take k).map f) [] (by simp)
  (fun k x s hx hI=>by
   have h1:=bG hx
   have hd:decide ((k:Int)<((Hd (eK l) xs ys).length:Int))=true:=by rw [decide_eq_true_eq];omega
   unfold mW
   simp only [hd,if_true,aQ hx,Option.bind_some,mU,bH k (by omega)]
   subst hI
   have hl:(((Hd (eK l) xs ys).take k).map f).length≤2000000:=by rw [List.length_map,List.length_take];omega
   rw [lA (by simp only [List.length_cons,List.length_nil,LIM];omega),lA (by simp only [List.length_cons,List.length_nil,LIM];omega)]
   simp only [Option.bind_some]
   refine ⟨((Hd (eK l) xs ys).take k).map f++[f x], ?_,by rw [nK hx,List.map_append];rfl⟩
   show _=some (Sum.inl (((k+1:Nat):Int),_++[if mF x.Low x.mC<0 then _ else _]))
   by_cases hc:mF x.Low x.mC<0
   ·simp only [hc,decide_true,if_true]
   ·simp only [hc,decide_false,Bool.false_eq_true,if_false]) (fun s _=>by simp [mW])
 rw [List.take_length,hmap] at t2
 unfold cZ
 rw [show ((0:Int),([]:List (List aS)))=(((0:Nat):Int),[]) from rfl,q1,q2]
 show (jW (eK l)).bind _=_
 simp only [b1,Option.bind_some]
 rw [show ((0:Int),([]:List bC))=(((0:Nat):Int),[]) from rfl,t1,t2]
 rfl
end
theorem LV.hv {l:aT} (h:LV l):∀ x ∈ l.aB,Uy x.aD:=fun x hx r hr=>(h.off x hx r hr).1.1
theorem RO {l:aT} (h:uN l):∀ x ∈ l.aB,Sm x:=fun x hx=>by
 obtain ⟨_,_,_,_,r1,r2,r3⟩:=h.2.2 x hx
 exact ⟨⟨r1.1,fun r hr=>r1.2 r hr⟩,⟨r2.1,fun r hr=>r2.2 r hr⟩,⟨r3.1,fun r hr=>r3.2 r hr⟩⟩
theorem Sb (l:aT) (h:uN l):∃ es b,tD l=some b∧dG l=some b∧oK l=some (es,b)∧yO l=some (es,b)∧es.length≤200000∧(b≠0→es=[])∧(b=0→LV l∧yY l=some es∧cZ l=some es∧∃ xs ys,Lay (eK l) xs ys∧es=Fj (eK l) xs ys):=by
 obtain ⟨b,b1,b2,b3⟩:=Xl l (RO h)
 unfold oK yO
 rw [b1,b2]
 simp only [Option.bind_some]
 by_cases hb:b=0
 ·subst hb
  have hl:=b3 rfl
  obtain ⟨xs,ys,h1,h2,h3⟩:=KR hl.n hl.r12 hl.hv
  have h4:=IJ hl.n hl.r12 hl.hv h1
  refine ⟨Fj (eK l) xs ys,0,rfl,rfl, ?_, ?_,h3,fun q=>absurd rfl q,fun _=>⟨hl,h2,h4,xs,ys,h1,rfl⟩⟩
  ·simp [h2]
  ·simp [h4]
 ·have hb':(b != 0)=true:=by rw [bne_iff_ne];exact hb
  exact ⟨[],b,rfl,rfl,by simp [hb'],by simp [hb'],by simp,fun _=>rfl,fun q=>absurd q hb⟩
end Go.SM
namespace Go.SM
open Go Go.VI
def Vy (a:bQ):Option (Unit):=
 some ()
def dP (l:aT) (items:(List bU)) (r2:(List bC)×Int):(Int×(List (List Bool))×(List Bool)×(List Bool)×(List Int)×(List Bool))→Option ((Int×(List (List Bool))×(List Bool)×(List Bool)×(List Int)×(List Bool)) ⊕ ((Int×Int) ⊕ ((List (List Bool))×(List Bool)×(List Bool)×(List Int)×(List Bool)))):=fun a0 =>
 if (decide (a0.1<(items.length:Int))) then ((idx items a0.1).bind fun a2=>(Fh l r2.1 (bQ.mk a0.2.2.1 a0.2.1 a0.2.2.2.1 a0.2.2.2.2.1 a0.2.2.2.2.2) a2).bind fun a1=>if (a1.2 != 0) then (some (.inr (.inl (a0.1,a1.2)))) else ((Vy a1.1).bind fun a3=>some (.inl ((aL a0.1 1),a1.1.bD,a1.1.Cut,a1.1.cG,a1.1.aX,a1.1.bJ)))) else (some (.inr (.inr ((a0.2.1,a0.2.2.1,a0.2.2.2.1,a0.2.2.2.2.1,a0.2.2.2.2.2)))))
def xD (l:aT) (items:(List bU)):Option (bQ×Int×Int×(List (List Bool))):=
 (oK l).bind fun r2=>if (r2.2 != 0) then (some ((bQ.mk [] [] [] [] []),0,r2.2,[])) else (if (decide ((items.length:Int)>128)) then (some ((bQ.mk [] [] [] [] []),0,4,[])) else ((xJ l (r2.1.length:Int)).bind fun r4=>(aK (dP l items r2) (0,r4.bD,r4.Cut,r4.cG,r4.aX,r4.bJ)).bind fun a2=>match a2 with | .inl a1=>some ((bQ.mk [] [] [] [] []),a1.1,a1.2,[]) | .inr a0=>some ((bQ.mk a0.2.1 a0.1 a0.2.2.1 a0.2.2.2.1 a0.2.2.2.2),0,0,a0.1)))
def Rj (l:aT) (items:(List bU)):Option (bQ×Int×Int×(List (List Bool))):=
 (xD l items).bind fun r2=>some ((bQ.mk r2.1.Cut r2.1.bD r2.1.cG r2.1.aX r2.1.bJ),r2.2.1,r2.2.2.1,r2.1.bD)
def bW (l:aT) (items:(List bU)) (r2:(List bC)):(Int×(List Bool)×(List (List Bool))×(List Bool)×(List Int)×(List Bool)×(List aW))→Option ((Int×(List Bool)×(List (List Bool))×(List Bool)×(List Int)×(List Bool)×(List aW)) ⊕ ((Int×Int) ⊕ (List aW))):=fun a0 =>
 if (decide (a0.1<(items.length:Int))) then ((idx items a0.1).bind fun a4=>(bT l r2 (aW.mk a0.2.1 a0.2.2.1 a0.2.2.2.1 a0.2.2.2.2.1 a0.2.2.2.2.2.1) a4).bind fun a2=>if (a2 != 0) then (some (.inr (.inl (a0.1,a2)))) else ((idx items a0.1).bind fun a5=>(fW r2 (aW.mk a0.2.1 a0.2.2.1 a0.2.2.2.1 a0.2.2.2.2.1 a0.2.2.2.2.2.1) a5).bind fun a1=>(app a0.2.2.2.2.2.2 [a1]).bind fun a3=>some (.inl ((aL a0.1 1),a1.Cut,a1.bD,a1.cG,a1.aX,a1.bJ,a3)))) else (some (.inr (.inr a0.2.2.2.2.2.2)))
def gA (l:aT) (items:(List bU)):Option ((List aW)×Int×Int):=
 (cZ l).bind fun r2=>(jD l).bind fun r4=>(aK (bW l items r2) (0,r4.Cut,r4.bD,r4.cG,r4.aX,r4.bJ,[])).bind fun a2=>match a2 with | .inl a0=>some ([],a0.1,a0.2) | .inr a1=>some (a1,0,0)
def sM (l:aT) (items:(List bU)):Option (aW×Int×Int×(List Bool)×(List (List Bool))×(List Bool)×(List Int)×(List Bool)):=
 (dG l).bind fun r2=>if (r2 != 0) then (some ((aW.mk [] [] [] [] []),0,r2,[],[],[],[],[])) else (if (decide ((items.length:Int)>128)) then (some ((aW.mk [] [] [] [] []),0,4,[],[],[],[],[])) else (if ((items.length:Int)==0) then ((jD l).bind fun r6=>some (r6,0,0,r6.Cut,r6.bD,r6.cG,r6.aX,r6.bJ)) else ((gA l items).bind fun r8=>if (r8.2.2 != 0) then (some ((aW.mk [] [] [] [] []),r8.2.1,r8.2.2,[],[],[],[],[])) else ((idx r8.1 (aJ (r8.1.length:Int) 1)).bind fun a0=>some (a0,0,0,a0.Cut,a0.bD,a0.cG,a0.aX,a0.bJ)))))
def nT (r2:bQ×Int×Int×(List (List Bool))):Int→Option (Int ⊕ (Unit ⊕ Unit)):=fun a0 =>
 if (decide (a0<(r2.1.bD.length:Int))) then ((idx r2.1.bD a0).bind fun a2=>(dJ a2 false).bind fun a1=>if a1 then (some (.inr (.inl ()))) else (some (.inl (aL a0 1)))) else (some (.inr (.inr (()))))
def yT (l:aT) (items:(List bU)):Option (Int):=
 (Rj l items).bind fun r2=>if (r2.2.2.1 != 0) then (some r2.2.2.1) else ((dJ r2.1.cG false).bind fun r6=>if r6 then (some 12) else ((aK (nT r2) 0).bind fun a0=>match a0 with | .inl a1=>some 12 | .inr a2=>some 0))
def jH (r2:aW×Int×Int×(List Bool)×(List (List Bool))×(List Bool)×(List Int)×(List Bool)):Int→Option (Int ⊕ (Unit ⊕ Unit)):=fun a0 =>
 if (decide (a0<(r2.1.bD.length:Int))) then ((idx r2.1.bD a0).bind fun a2=>(kY a2).bind fun a1=>if (!a1) then (some (.inr (.inl ()))) else (some (.inl (aL a0 1)))) else (some (.inr (.inr (()))))
def lR (l:aT) (items:(List bU)):Option (Int):=
 (sM l items).bind fun r2=>if (r2.2.2.1 != 0) then (some r2.2.2.1) else ((kY r2.1.cG).bind fun r6=>if (!r6) then (some 12) else ((aK (jH r2) 0).bind fun a0=>match a0 with | .inl a1=>some 12 | .inr a2=>some 0))
def Bk (a1:Int×(List Int)):(List Int)→Option (Int×(List Int) ⊕ (List Int)):=fun a0 =>
 some (.inl ((aL a1.1 1),a0))
def Qx (st:bQ) (h0_0:(List Bool)):Int×(List Int)→Option (Int×(List Int) ⊕ (List Int)):=fun a0 =>
 if (decide (a0.1<(st.bJ.length:Int))) then ((idx st.bJ a0.1).bind fun a3=>(if a3 then ((idx h0_0 a0.1).bind fun a4=>some (!a4)) else (some false)).bind fun a1=>if a1 then ((app a0.2 [a0.1]).bind fun a2=>Bk a0 a2) else (Bk a0 a0.2)) else (some (.inr a0.2))
def Na (st:bQ) (h0_0:(List Bool)) (h382:(List (List Int))):Option ((List (List Int))):=
 (aK (Qx st h0_0) (0,[])).bind fun a1=>(app h382 [a1]).bind fun a0=>some a0
def Gp (l:aT) (items:(List bU)) (r2:(List bC)×Int):(Int×(List (List Int))×(List Bool)×(List (List Bool))×(List Bool)×(List Int)×(List Bool)×(List Bool))→Option ((Int×(List (List Int))×(List Bool)×(List (List Bool))×(List Bool)×(List Int)×(List Bool)×(List Bool)) ⊕ ((Int×Int×(List (List Int))×(List Bool)) ⊕ ((List Bool)×(List (List Bool))×(List Bool)×(List Int)×(List Bool)×(List (List Int))×(List Bool)))):=fun a0 =>
 if (decide (a0.1<(items.length:Int))) then ((idx items a0.1).bind fun a3=>(Fh l r2.1 (bQ.mk a0.2.2.1 a0.2.2.2.1 a0.2.2.2.2.1 a0.2.2.2.2.2.1 a0.2.2.2.2.2.2.1) a3).bind fun a1=>if (a1.2 != 0) then (some (.inr (.inl (a0.1,a1.2,a0.2.1,a0.2.2.2.2.2.2.2)))) else ((Na a1.1 a0.2.2.2.2.2.2.2 a0.2.1).bind fun a2=>some (.inl ((aL a0.1 1),a2,a1.1.Cut,a1.1.bD,a1.1.cG,a1.1.aX,a1.1.bJ,a1.1.bJ)))) else (some (.inr (.inr ((a0.2.2.1,a0.2.2.2.1,a0.2.2.2.2.1,a0.2.2.2.2.2.1,a0.2.2.2.2.2.2.1,a0.2.1,a0.2.2.2.2.2.2.2)))))
def Bd (l:aT) (items:(List bU)) (h381:(List Bool)) (h383:(List (List Int))):Option (bQ×Int×Int×(List Bool)×(List (List Bool))×(List Bool)×(List Int)×(List Bool)×(List (List Int))×(List Bool)):=
 (oK l).bind fun r2=>if (r2.2 != 0) then (some ((bQ.mk [] [] [] [] []),0,r2.2,[],[],[],[],[],h383,h381)) else (if (decide ((items.length:Int)>128)) then (some ((bQ.mk [] [] [] [] []),0,4,[],[],[],[],[],h383,h381)) else ((xJ l (r2.1.length:Int)).bind fun r4=>(aK (Gp l items r2) (0,h383,r4.Cut,r4.bD,r4.cG,r4.aX,r4.bJ,h381)).bind fun a2=>match a2 with | .inl a1=>some ((bQ.mk [] [] [] [] []),a1.1,a1.2.1,[],[],[],[],[],a1.2.2.1,a1.2.2.2) | .inr a0=>some ((bQ.mk a0.1 a0.2.1 a0.2.2.1 a0.2.2.2.1 a0.2.2.2.2.1),0,0,a0.1,a0.2.1,a0.2.2.1,a0.2.2.2.1,a0.2.2.2.2.1,a0.2.2.2.2.2.1,a0.2.2.2.2.2.2)))
def Vx (l:aT) (items:(List bU)):Option ((List (List Int))×Int):=
 (mk (l.aB.length:Int) false).bind fun l2=>(Bd l items l2 []).bind fun r4=>if (r4.2.2.1 != 0) then (some ([],r4.2.2.1)) else (some (r4.2.2.2.2.2.2.2.2.1,0))
def tW (a2:(List bC)):(Int×Int)→Option ((Int×Int) ⊕ Int):=fun a0 =>
 if (decide (a0.2<(a2.length:Int))) then ((idx a2 a0.2).bind fun a1=>some (.inl ((aL a0.1 (aJ (aL (aJ a1.Line.X2 a1.Line.X1) a1.Line.Y2) a1.Line.Y1)),(aL a0.2 1)))) else (some (.inr a0.1))
def Ag (a1:aV):(Int×Int)→Option ((Int×Int) ⊕ Int):=fun a0 =>
 if (decide (a0.2<(a1.bO.length:Int))) then ((idx a1.bO a0.2).bind fun a2=>some (.inl ((aL a0.1 (lB 2 (aL a2.W a2.H))),(aL a0.2 1)))) else (some (.inr a0.1))
def wF (l:aT):(Int×Int)→Option ((Int×Int) ⊕ Int):=fun a0 =>
 if (decide (a0.2<(l.aB.length:Int))) then ((idx l.aB a0.2).bind fun a1=>(aK (Ag a1) (a0.1,0)).bind fun a2=>some (.inl (a2,(aL a0.2 1)))) else (some (.inr a0.1))
def Ij (l:aT) (items:(List bU)):Option (Int×Int):=
 (yT l items).bind fun r4=>if (r4 != 0) then (some (0,r4)) else ((yY l).bind fun a1=>(aK (tW a1) (0,0)).bind fun a2=>(aK (wF l) (a2,0)).bind fun a0=>some (a0,0))
def vO (g:cT):Option (Int):=
 some (aJ (aL (aJ g.X2 g.X1) g.Y2) g.Y1)
end Go.SM
namespace Go.SM
open Go Go.VI Go.Cells
abbrev RS:=aW
def toC (s:RS):bQ:=⟨s.Cut,s.bD,s.cG,s.aX,s.bJ⟩
def noS:RS:=⟨[],[],[],[],[]⟩
structure SL1 (s:RS):Prop where
 c:s.Cut.length≤1048576
 h:s.bD.length≤1048576
 hh:∀ t ∈ s.bD,t.length≤1048576
 d:s.cG.length≤1048576
 j:s.aX.length≤1048576
 f:s.bJ.length≤1048576
structure Fit (l:aT) (n:Nat) (s:RS):Prop where
 c:s.Cut.length=n
 h:s.bD.length=l.aB.length
 d:s.cG.length=l.aB.length
 j:s.aX.length=l.aB.length
 f:s.bJ.length=l.aB.length
 hh:∀ (k:Nat) t x,s.bD[k]?=some t→l.aB[k]?=some x→t.length=x.bO.length
theorem Pe {l:aT} (n8:l.aB.length≤8) (n:Nat) {s:RS} (hs:SL1 s):∃ b,kI (toC s) l (n:Int)=some b∧eY l s (n:Int)=some b∧(b=true↔Fit l n s):=by
 have hb:∀ a b:Nat,((a:Int) != (b:Int))=!decide (a=b):=fun a b=>by
  by_cases h:a=b
  ·subst h;simp
  ·have:¬ (a:Int)=(b:Int):=by omega
   simp [h,this]
 by_cases h1:s.Cut.length=n
 ·by_cases h2 : s.bD.length=l.aB.length
  ·by_cases h3:s.cG.length=l.aB.length
   ·by_cases h4:s.aX.length=l.aB.length
    ·by_cases h5:s.bJ.length=l.aB.length
     ·let q:Nat→Bool:=fun k=>match s.bD[k]?,l.aB[k]? with
       | some t,some x=>!decide (t.length=x.bO.length)
       | _,_=>false
      have g1:aK (pW (toC s) l) 0=some (if (List.range l.aB.length).any q then .inl () else .inr ()):=by
       refine jF l.aB.length (pW (toC s) l) (fun k=>(k:Int)) q _ _ rfl (fun k hk=>?_) ?_
       ·have e1:s.bD[k]?=some (s.bD[k]'(by omega)):=List.getElem?_eq_getElem (by omega)
        have e2:l.aB[k]?=some l.aB[k]:=List.getElem?_eq_getElem hk
        have e1':(toC s).bD[k]?=some (s.bD[k]'(by omega)):=e1
        unfold pW
        have hd:decide ((k:Int)<(l.aB.length:Int))=true:=by simp [hk]
        simp only [hd,if_true,aQ e1',aQ e2,Option.bind_some,hb,q,e1,e2,bH k (by omega)]
       ·simp [pW]
      have g2:aK (kC l s) 0=some (if (List.range l.aB.length).any q then .inl () else .inr ()):=by
       refine jF l.aB.length (kC l s) (fun k=>(k:Int)) q _ _ rfl (fun k hk=>?_) ?_
       ·have e1:s.bD[k]?=some (s.bD[k]'(by omega)):=List.getElem?_eq_getElem (by omega)
        have e2:l.aB[k]?=some l.aB[k]:=List.getElem?_eq_getElem hk
        unfold kC
        have hd:decide ((k:Int)<(l.aB.length:Int))=true:=by simp [hk]
        simp only [hd,if_true,aQ e1,aQ e2,Option.bind_some,hb,q,e1,e2,bH k (by omega)]
       ·simp [kC]
      refine ⟨!((List.range l.aB.length).any q), ?_, ?_, ?_⟩
      ·unfold kI
       rw [g1]
       show (Option.bind (if ((s.Cut.length:Int) != (n:Int))=true then _ else _) _)=_
       simp only [toC,hb,h1,h2,h3,h4,h5,decide_true,Bool.not_true,Bool.false_eq_true,if_false,Option.bind_some]
       cases (List.range l.aB.length).any q <;> rfl
      ·unfold eY
       rw [g2]
       simp only [hb,h1,h2,h3,h4,h5,decide_true,Bool.not_true,Bool.false_eq_true,if_false,Option.bind_some]
       cases (List.range l.aB.length).any q <;> rfl
      ·rw [Bool.not_eq_true',List.any_eq_false]
       constructor
       ·intro hq
        refine ⟨h1,h2,h3,h4,h5,fun k t x e1 e2=>?_⟩
        have:=hq k (List.mem_range.2 (bG e2))
        simp only [q,e1,e2] at this
        simpa using this
       ·intro hf k hk
        have hk':=List.mem_range.1 hk
        have e1:s.bD[k]?=some (s.bD[k]'(by omega)):=List.getElem?_eq_getElem (by omega)
        have e2:l.aB[k]?=some l.aB[k]:=List.getElem?_eq_getElem hk'
        simp only [q,e1,e2,hf.hh k _ _ e1 e2]
        simp
     ·refine ⟨false, ?_, ?_,by simp;exact fun hf=>h5 hf.f⟩
      ·unfold kI;simp [toC,hb,h1,h2,h3,h4,h5]
      ·unfold eY;simp [hb,h1,h2,h3,h4,h5]
    ·refine ⟨false, ?_, ?_,by simp;exact fun hf=>h4 hf.j⟩
     ·unfold kI;simp [toC,hb,h1,h2,h3,h4]
     ·unfold eY;simp [hb,h1,h2,h3,h4]
   ·refine ⟨false, ?_, ?_,by simp;exact fun hf=>h3 hf.d⟩
    ·unfold kI;simp [toC,hb,h1,h2,h3]
    ·unfold eY;simp [hb,h1,h2,h3]
  ·refine ⟨false, ?_, ?_,by simp;exact fun hf=>h2 hf.h⟩
   ·unfold kI;simp [toC,hb,h1,h2]
   ·unfold eY;simp [hb,h1,h2]
 ·refine ⟨false, ?_, ?_,by simp;exact fun hf=>h1 hf.c⟩
  ·unfold kI;simp [toC,hb,h1]
  ·unfold eY;simp [hb,h1]
def ofB (e:bC) (p:Int):Bool:=(e.A==p) || (e.B==p)
theorem of_eq (e:bC) (p:Int):Js e p=some (ofB e p):=by
 unfold Js ofB
 cases (e.A==p) <;> simp
def held (es:List bC) (c:List Bool) (p:Int) (i:Nat):Bool:=match es[i]?,c[i]? with
 | some e,some b=>ofB e p&&!b
 | _,_=>false
def yL (es:List bC) (c:List Bool) (p:Int):Bool:=!((List.range es.length).any (held es c p))
section
variable {es:List bC} (hes:es.length≤1000000) {c:List Bool} (hc:c.length=es.length)
include hes hc
theorem EY (p:Int) (H:List (List Bool)) (D:List Bool) (J:List Int) (F:List Bool):sN ⟨c,H,D,J,F⟩ es p=some (yL es c p):=by
 unfold sN
 have key:aK (pX ⟨c,H,D,J,F⟩ es p) 0=some (if (List.range es.length).any (held es c p) then .inl () else .inr ()):=by
  refine jF es.length (pX ⟨c,H,D,J,F⟩ es p) (fun k=>(k:Int)) (held es c p) _ _ rfl (fun k hk=>?_) ?_
  ·have e1:es[k]?=some es[k]:=List.getElem?_eq_getElem hk
   have e2:c[k]?=some (c[k]'(by omega)):=List.getElem?_eq_getElem (by omega)
   unfold pX held
   have hd:decide ((k:Int)<(es.length:Int))=true:=by simp [hk]
   simp only [hd,if_true,aQ e1,aQ e2,e1,e2,Option.bind_some,of_eq,bH k (by omega)]
   cases ofB es[k] p <;> simp
  ·simp [pX]
 rw [key]
 unfold yL
 cases (List.range es.length).any (held es c p) <;> rfl
theorem Tt (p:Int) (H:List (List Bool)) (D:List Bool) (J:List Int) (F:List Bool):gL es ⟨c,H,D,J,F⟩ p=some (yL es c p):=by
 unfold gL
 have key:aK (jL es ⟨c,H,D,J,F⟩ p) 0=some (if (List.range es.length).any (held es c p) then .inl () else .inr ()):=by
  refine jF es.length (jL es ⟨c,H,D,J,F⟩ p) (fun k=>(k:Int)) (held es c p) _ _ rfl (fun k hk=>?_) ?_
  ·have e1:es[k]?=some es[k]:=List.getElem?_eq_getElem hk
   have e2:c[k]?=some (c[k]'(by omega)):=List.getElem?_eq_getElem (by omega)
   unfold jL held ofB
   have hd:decide ((k:Int)<(es.length:Int))=true:=by simp [hk]
   simp only [hd,if_true,aQ e1,aQ e2,e1,e2,Option.bind_some,bH k (by omega)]
   cases (es[k].A==p) <;> cases (es[k].B==p) <;> simp
  ·simp [jL]
 rw [key]
 unfold yL
 cases (List.range es.length).any (held es c p) <;> rfl
end
theorem uP (t:List Bool) (ht:t.length≤1048576):dJ t false=some (!(t.all fun b=>b)):=by
 unfold dJ sX
 rw [Ky t (kT t false) (fun b=>!b) (fun k=>.inl (k:Int)) (.inr ()) (fun k b hb=>?s) ?f]
 ·cases e:t.findIdx? (fun b=>!b) with
  | none =>
    rw [List.findIdx?_eq_none_iff] at e
    have:(t.all fun b=>b)=true:=List.all_eq_true.2 fun b hb=>by have:=e b hb;simpa using this
    simp [this]
  | some i =>
    have:(t.all fun b=>b)=false:=by
     rw [← Bool.not_eq_true,List.all_eq_true]
     intro q
     obtain ⟨hi,h1,_⟩:=List.findIdx?_eq_some_iff_getElem.1 e
     have:=q _ (List.getElem_mem hi)
     simp [this] at h1
    simp [this]
 case s =>
  have h1:=bG hb
  unfold kT
  simp only [h1,Int.ofNat_lt,decide_true,if_true,aQ hb,Option.bind_some,bH k (by omega)]
  cases b <;> rfl
 case f=>simp [kT]
theorem all_eq (t:List Bool) (ht:t.length≤1048576):kY t=some (t.all fun b=>b):=by
 unfold kY
 rw [He t (nZ t) (fun b=>b) (.inl ()) (.inr ()) (fun k b hb=>?s) ?f]
 ·cases t.all (fun b=>b) <;> rfl
 case s =>
  have h1:=bG hb
  unfold nZ
  simp only [h1,Int.ofNat_lt,decide_true,if_true,aQ hb,Option.bind_some,bH k (by omega)]
  cases b <;> rfl
 case f=>simp [nZ]
theorem BB (l:aT) (n8:l.aB.length≤8) (r12:∀ x ∈ l.aB,x.aD.length≤12) (x:bU):∃ b:Bool,aK (fO l x) 0=some (if b then .inl () else .inr ())∧aK (jJ l x.cW) 0=some (if b then .inl () else .inr ()):=by
 have hin:∀ k:Nat,∃ b:Bool,∀ y,l.aB[k]?=some y→eT y.aD x.cW=some b∧fB y.aD x.cW=some b:=fun k=>by
  cases e:l.aB[k]? with
  | none=>exact ⟨false,fun y hy=>by cases hy⟩
  | some y =>
    obtain ⟨b,b1,b2⟩:=Li y.aD x.cW (by have:=r12 y (List.mem_of_getElem? e);omega)
    exact ⟨b,fun z hz=>by injection hz with hz;subst hz;exact ⟨b1,b2⟩⟩
 obtain ⟨q,hq⟩:=Classical.axiomOfChoice hin
 refine ⟨(List.range l.aB.length).any q, ?_, ?_⟩
 ·refine jF l.aB.length (fO l x) (fun k=>(k:Int)) q _ _ rfl (fun k hk=>?_) ?_
  ·have e2:l.aB[k]?=some l.aB[k]:=List.getElem?_eq_getElem hk
   have e3:eT l.aB[k].aD (Ar.mk x.cW.X x.cW.Y)=some (q k):=(hq k _ e2).1
   unfold fO
   have hd:decide ((k:Int)<(l.aB.length:Int))=true:=by simp [hk]
   simp only [hd,if_true,aQ e2,Option.bind_some,e3,bH k (by omega)]
  ·simp [fO]
 ·refine jF l.aB.length (jJ l x.cW) (fun k=>(k:Int)) q _ _ rfl (fun k hk=>?_) ?_
  ·have e2:l.aB[k]?=some l.aB[k]:=List.getElem?_eq_getElem hk
   unfold jJ
   have hd:decide ((k:Int)<(l.aB.length:Int))=true:=by simp [hk]
   simp only [hd,if_true,aQ e2,Option.bind_some,(hq k _ e2).2,bH k (by omega)]
  ·simp [jJ]
def LH (s:Ar) (g:cT):Int:=imax (imax (imax (imax 0 (aJ g.X1 s.X)) (aJ s.X g.X2)) (aJ g.Y1 s.Y)) (aJ s.Y g.Y2)
def Ob (es:List bC) (c:List Bool) (p:Int) (s:Ar) (i:Nat):Bool:=match es[i]?,c[i]? with
 | some e,some b=>ofB e p&&(!b&&decide (LH s e.Line≤7200))
 | _,_=>false
theorem Sz {es:List bC} (hes:es.length≤1000000) {st:RS} (hc:st.Cut.length=es.length) (x:bU):aK (pY (toC st) es x) 0=some (if (List.range es.length).any (Ob es st.Cut x.aV x.cW) then .inl () else .inr ())∧aK (jK es st x.aV x.cW) 0=some (if (List.range es.length).any (Ob es st.Cut x.aV x.cW) then .inl () else .inr ()):=by
 constructor
 ·refine jF es.length (pY (toC st) es x) (fun k=>(k:Int)) (Ob es st.Cut x.aV x.cW) _ _ rfl (fun k hk=>?_) ?_
  ·have e1:es[k]?=some es[k]:=List.getElem?_eq_getElem hk
   have e2:st.Cut[k]?=some (st.Cut[k]'(by omega)):=List.getElem?_eq_getElem (by omega)
   have e2':(toC st).Cut[k]?=some (st.Cut[k]'(by omega)):=e2
   have e3:Xx (Ar.mk x.cW.X x.cW.Y) es[k].Line=some (LH x.cW es[k].Line):=rfl
   unfold pY Ob
   have hd:decide ((k:Int)<(es.length:Int))=true:=by simp [hk]
   simp only [hd,if_true,aQ e1,aQ e2',e1,e2,Option.bind_some,of_eq,e3,bH k (by omega)]
   cases ofB es[k] x.aV <;> cases st.Cut[k]'(by omega) <;> simp
  ·simp [pY]
 ·refine jF es.length (jK es st x.aV x.cW) (fun k=>(k:Int)) (Ob es st.Cut x.aV x.cW) _ _ rfl (fun k hk=>?_) ?_
  ·have e1:es[k]?=some es[k]:=List.getElem?_eq_getElem hk
   have e2:st.Cut[k]?=some (st.Cut[k]'(by omega)):=List.getElem?_eq_getElem (by omega)
   have e3:rE x.cW es[k].Line=some (LH x.cW es[k].Line):=rfl
   unfold jK Ob ofB
   have hd:decide ((k:Int)<(es.length:Int))=true:=by simp [hk]
   simp only [hd,if_true,aQ e1,aQ e2,e1,e2,Option.bind_some,e3,bH k (by omega)]
   cases (es[k].A==x.aV) <;> cases (es[k].B==x.aV) <;> cases st.Cut[k]'(by omega) <;> simp
  ·simp [jK]
theorem Wr {l:aT} (hl:LV l) {es:List bC} (hes:es.length≤1000000) {st:RS} (hc:st.Cut.length=es.length) (x:bU) (hx:x.jU<0):∃ b,oW (toC st) l es x=some b∧lS l es st x.aV x.cW=some b ∧
  (b=true→(0≤x.cW.X∧x.cW.X≤l.bF.fA∧0≤x.cW.Y∧x.cW.Y≤l.bF.cQ)):=by
 have sl:=Ie hl.sh
 obtain ⟨r,r1,r2⟩:=Li l.bF.cC x.cW (by omega)
 have r1':eT l.bF.cC (Ar.mk x.cW.X x.cW.Y)=some r:=r1
 obtain ⟨b,b1,b2⟩:=BB l hl.n hl.r12 x
 obtain ⟨c1,c2⟩:=Sz hes hc x
 have h0:decide (x.jU ≥ 0)=false:=by simp;omega
 unfold oW lS
 simp only [h0,Bool.false_eq_true,if_false,b1,b2,c1,c2,r1',r2,Option.bind_some]
 by_cases h1:x.cW.X<0
 ·exact ⟨false,by simp [h1],by simp [h1],by simp⟩
 by_cases h2:x.cW.X>l.bF.fA
 ·refine ⟨false,by simp [h1,h2], ?_,by simp⟩
  by_cases h3:x.cW.Y<0 <;> simp [h1,h2,h3]
 by_cases h3:x.cW.Y<0
 ·exact ⟨false,by simp [h1,h2,h3],by simp [h1,h3],by simp⟩
 by_cases h4:x.cW.Y>l.bF.cQ
 ·exact ⟨false,by simp [h1,h2,h3,h4],by simp [h1,h2,h3,h4],by simp⟩
 simp only [h1,h2,h3,h4,decide_false,Bool.false_eq_true,if_false,Option.bind_some]
 cases r with
 | true=>exact ⟨false,by simp,by simp,by simp⟩
 | false =>
   simp only [Bool.false_eq_true,if_false]
   cases b with
   | true=>exact ⟨false,rfl,rfl,by simp⟩
   | false =>
     simp only [Bool.false_eq_true,if_false,Option.bind_some]
     cases (List.range es.length).any (Ob es st.Cut x.aV x.cW) with
     | true=>exact ⟨true,rfl,rfl,fun _=>by omega⟩
     | false=>exact ⟨false,rfl,rfl,by simp⟩
end Go.SM
namespace Go.SM
open Go Go.VI
end Go.SM
namespace Go.SM
open Go Go.VI Go.Cells
def mark (n:Nat) (q:Nat→Bool) (c:List Bool):List Bool:=(List.range n).map fun i=>q i || c.getD i false
theorem qQ (n:Nat) (q:Nat→Bool) (c:List Bool):(mark n q c).length=n:=by simp [mark]
theorem Di {n:Nat} (q:Nat→Bool) {c:List Bool} {i:Nat} (hi:i<n):(mark n q c)[i]?=some (q i || c.getD i false):=by
 unfold mark;rw [List.getElem?_map,List.getElem?_range hi];rfl
theorem Wx {n:Nat} {c:List Bool} (hc:c.length=n):mark n (fun _=>false) c=c:=by
 refine List.ext_getElem? fun i=>?_
 by_cases hi:i<n
 ·rw [Di _ hi,Bool.false_or,List.getD_eq_getElem?_getD,List.getElem?_eq_getElem (by omega)];rfl
 ·rw [List.getElem?_eq_none (by rw [qQ];omega),List.getElem?_eq_none (by omega)]
theorem Ww {n:Nat} {q:Nat→Bool} {c:List Bool} {k:Nat}:mark n (fun i=>decide (i<k+1)&&q i) c=if q k then (mark n (fun i=>decide (i<k)&&q i) c).set k true else mark n (fun i=>decide (i<k)&&q i) c:=by
 refine List.ext_getElem? fun i=>?_
 by_cases hi:i<n
 ·rw [Di _ hi]
  split
  ·rename_i hq
   rw [List.getElem?_set]
   by_cases e:k=i
   ·subst e
    rw [if_pos rfl,if_pos (by rw [qQ];exact hi)]
    simp [hq]
   ·rw [if_neg e,Di _ hi]
    have:decide (i<k+1)=decide (i<k):=by simp;omega
    rw [this]
  ·rename_i hq
   rw [Di _ hi]
   by_cases e:k=i
   ·subst e
    have:q k=false:=by simpa using hq
    simp [this]
   ·have:decide (i<k+1)=decide (i<k):=by simp;omega
    rw [this]
 ·have h2:∀ l:List Bool,l.length=n→l[i]?=none:=fun l hl=>List.getElem?_eq_none (by omega)
  rw [h2 _ (qQ _ _ _)]
  split
  ·rw [h2 _ (by rw [List.length_set,qQ])]
  ·rw [h2 _ (qQ _ _ _)]
theorem Kz {n:Nat} (body:Int×List Bool→Option (Int×List Bool ⊕ List Bool)) (q:Nat→Bool) {c:List Bool} (hc:c.length=n) (step:∀ (k:Nat) (c':List Bool),k<n→c'.length=n→body ((k:Int),c')=some (.inl (((k+1:Nat):Int),if q k then c'.set k true else c'))) (fin:∀ c':List Bool,c'.length=n→body ((n:Int),c')=some (.inr c')) :
  aK body (0,c)=some (mark n q c):=by
 have key:=sU (List.range n) body (fun k=>((k:Int),mark n (fun i=>decide (i<k)&&q i) c)) (mark n q c) (fun k x hx=>?_) ?_
 ·have e0:mark n (fun i=>decide (i<0)&&q i) c=c:=by
   rw [show (fun i=>decide (i<0)&&q i)=fun _=>false from funext fun i=>by simp]
   exact Wx hc
  rw [e0] at key
  exact key
 ·have hk:k<n:=by have:=bG hx;simpa using this
  rw [step k _ hk (qQ _ _ _),Ww]
 ·rw [List.length_range,fin _ (qQ _ _ _)]
  congr 2
  unfold mark
  refine List.map_congr_left fun i hi=>?_
  have:=List.mem_range.1 hi
  simp [this]
theorem KL {s:RS} (h:SL1 s):tM (toC s)=some (toC s)∧rD s=some s:=by
 have h1:=h.c;have h2:=h.d;have h3:=h.j;have h4:=h.f;have h5:=h.h
 have ap:∀ {α:Type} {l:List α},l.length≤1048576→app [] l=some l:=fun {α l} hl=>by rw [lA (by unfold LIM;simp;omega)];rfl
 constructor
 ·have key:aK (lT (toC s)) (0,[])=some s.bD:=by
   have:=Hf s.bD (fun t=>t) (lT (toC s)) h5 (fun k t acc ht=>?_) (fun acc=>?_)
   ·rw [this,List.map_id']
   ·have hk:=bG ht
    have ht':(toC s).bD[k]?=some t:=ht
    unfold lT
    have hd:decide ((k:Int)<((toC s).bD.length:Int))=true:=by show decide ((k:Int)<(s.bD.length:Int))=true;simp [hk]
    have e:∀ f:List Bool→Option (Int×List (List Bool) ⊕ List (List Bool)),(app [] t).bind f=f t:=fun f=>by rw [ap (h.hh t (List.mem_of_getElem? ht))];rfl
    simp only [hd,if_true,aQ ht',Option.bind_some,bH k (by omega)]
    exact e _
   ·unfold lT
    have:¬ (s.bD.length:Int)<((toC s).bD.length:Int):=by show ¬ (s.bD.length:Int)<(s.bD.length:Int);omega
    simp [this]
  show (app [] s.Cut).bind (fun r9=>(app [] s.cG).bind fun r10=>(app [] s.aX).bind fun r11=>(app [] s.bJ).bind fun r12=>(aK (lT (toC s)) (0,[])).bind fun x114=>some (bQ.mk r9 x114 r10 r11 r12))=_
  rw [ap h1,ap h2,ap h3,ap h4]
  simp only [Option.bind_some,key]
  rfl
 ·have key:aK (jY s) (0,[])=some s.bD:=by
   have:=Hf s.bD (fun t=>t) (jY s) h5 (fun k t acc ht=>?_) (fun acc=>?_)
   ·rw [this,List.map_id']
   ·have hk:=bG ht
    unfold jY
    have hd:decide ((k:Int)<(s.bD.length:Int))=true:=by simp [hk]
    simp only [hd,if_true,aQ ht,Option.bind_some,ap (h.hh t (List.mem_of_getElem? ht)),bH k (by omega)]
   ·simp [jY]
  unfold rD
  rw [ap h1,ap h2,ap h3,ap h4]
  simp only [Option.bind_some,key]
def Tc (es:List bC) (c D:List Bool) (J:List Int) (i:Nat):Bool:=yL es c (i:Int)&&!(D.getD i false&&decide (J.getD i 0>0))
def fell (n:Nat) (es:List bC) (c:List Bool) (D:List Bool) (J:List Int) (F:List Bool):List Bool:=mark n (Tc es c D J) F
def Wj (n:Nat) (es:List bC) (s:RS) (p h:Nat) (t:List Bool):RS:=⟨s.Cut,s.bD.set p (t.set h true),s.cG,s.aX,fell n es s.Cut s.cG s.aX s.bJ⟩
def yS (es:List bC) (p:Int) (i:Nat):Bool:=match es[i]? with
 | some e=>ofB e p
 | none=>false
def RH (n:Nat) (es:List bC) (s:RS) (p:Nat) (j:Int):RS:=
 ⟨mark es.length (yS es (p:Int)) s.Cut,s.bD,s.cG.set p true,s.aX.set p j,fell n es (mark es.length (yS es (p:Int)) s.Cut) (s.cG.set p true) (s.aX.set p j) s.bJ⟩
section
variable {l:aT} (n8:l.aB.length≤8) {es:List bC} (hes:es.length≤1000000)
include n8 hes
theorem Wf {c:List Bool} (hc:c.length=es.length) (H:List (List Bool)) {D:List Bool} (hD:D.length=l.aB.length) {J:List Int} (hJ:J.length=l.aB.length) {F:List Bool} (hF:F.length=l.aB.length) :
  aK (yX l es (c,H,D,J)) (0,F)=some (fell l.aB.length es c D J F)∧aK (kA es (c,H,D,J)) (0,F)=some (fell l.aB.length es c D J F):=by
 have core:∀ k,k<l.aB.length→∃ d j,D[k]?=some d∧J[k]?=some j∧D.getD k false=d∧J.getD k 0=j:=fun k hk=>by
  have e1:D[k]?=some (D[k]'(by omega)):=List.getElem?_eq_getElem (by omega)
  have e2:J[k]?=some (J[k]'(by omega)):=List.getElem?_eq_getElem (by omega)
  exact ⟨_,_,e1,e2,mD e1,mD e2⟩
 constructor
 ·refine Kz (yX l es (c,H,D,J)) (Tc es c D J) hF (fun k c' hk hc'=>?_) (fun c' _=>by simp [yX])
  obtain ⟨d,j,e1,e2,e3,e4⟩:=core k hk
  have e5:c'[k]?=some (c'[k]'(by omega)):=List.getElem?_eq_getElem (by omega)
  unfold yX Tc
  have hd:decide ((k:Int)<(l.aB.length:Int))=true:=by simp [hk]
  simp only [hd,if_true,EY hes hc,Option.bind_some,aQ e1,aQ e2,e3,e4,aQ e5,Km,bH k (by omega),Int.toNat_natCast]
  cases yL es c (k:Int) <;> cases d <;> cases decide (j>0) <;> rfl
 ·refine Kz (kA es (c,H,D,J)) (Tc es c D J) hF (fun k c' hk hc'=>?_) (fun c' hc'=>by simp [kA,hc'])
  obtain ⟨d,j,e1,e2,e3,e4⟩:=core k hk
  have e5:c'[k]?=some (c'[k]'(by omega)):=List.getElem?_eq_getElem (by omega)
  unfold kA Tc
  have hd:decide ((k:Int)<(c'.length:Int))=true:=by simp;omega
  simp only [hd,if_true,Tt hes hc,Option.bind_some,aQ e1,aQ e2,e3,e4,aQ e5,nH,bH k (by omega),Int.toNat_natCast]
  cases yL es c (k:Int) <;> cases d <;> cases decide (j>0) <;> rfl
omit n8 in
theorem KN {c:List Bool} (hc:c.length=es.length) (x:bU) {p:Nat} (hp:x.aV=p):aK (Cn es x) (0,c)=some (mark es.length (yS es (p:Int)) c)∧aK (kB es x) (0,c)=some (mark es.length (yS es (p:Int)) c):=by
 constructor
 ·refine Kz (Cn es x) (yS es (p:Int)) hc (fun k c' hk hc'=>?_) (fun c' _=>by simp [Cn])
  have e1:es[k]?=some es[k]:=List.getElem?_eq_getElem hk
  have e5:c'[k]?=some (c'[k]'(by omega)):=List.getElem?_eq_getElem (by omega)
  unfold Cn yS
  have hd:decide ((k:Int)<(es.length:Int))=true:=by simp [hk]
  simp only [hd,if_true,aQ e1,e1,Option.bind_some,of_eq,hp,aQ e5,Kn,bH k (by omega),Int.toNat_natCast]
  cases ofB es[k] (p:Int) <;> rfl
 ·refine Kz (kB es x) (yS es (p:Int)) hc (fun k c' hk hc'=>?_) (fun c' _=>by simp [kB])
  have e1:es[k]?=some es[k]:=List.getElem?_eq_getElem hk
  have e5:c'[k]?=some (c'[k]'(by omega)):=List.getElem?_eq_getElem (by omega)
  unfold kB yS ofB
  have hd:decide ((k:Int)<(es.length:Int))=true:=by simp [hk]
  simp only [hd,if_true,aQ e1,e1,Option.bind_some,hp,aQ e5,nI,bH k (by omega),Int.toNat_natCast]
  cases (es[k].A==(p:Int)) <;> cases (es[k].B==(p:Int)) <;> rfl
end
inductive vQ (l:aT) (es:List bC) (s:RS) (x:bU):RS→Prop
 | hole {p h:Nat} {y:aV} {t:List Bool} (hp:x.aV=p) (hh:x.jU=h) (hj:x.aX=0) (hy:l.aB[p]?=some y) (hf:s.bJ[p]?=some false) (ht:s.bD[p]?=some t) (hb:t[h]?=some false):vQ l es s x (Wj l.aB.length es s p h t)
 | line {p:Nat} {y:aV} {t:List Bool} (hp:x.aV=p) (hh:x.jU=-1) (hj:0≤x.aX∧x.aX≤4) (hy:l.aB[p]?=some y) (hf:s.bJ[p]?=some false) (hd:s.cG[p]?=some false) (ht:s.bD[p]?=some t) (ha:(t.all fun b=>b)=true) (hn:yL es s.Cut (p:Int)=false):vQ l es s x (RH l.aB.length es s p x.aX)
theorem ER {l:aT} (hl:LV l) {es:List bC} (hes:es.length≤1000000) {s:RS} (hs:SL1 s) (x:bU) :
  ∃ e,bT l es s x=some e∧((e≠0∧Fh l es (toC s) x=some (toC noS,e))∨(e=0∧Fit l es.length s∧∃ s',vQ l es s x s'∧Fh l es (toC s) x=some (toC s',0)∧fW es s x=some s')):=by
 obtain ⟨b,f1,f2,f3⟩:=Pe hl.n es.length hs
 obtain ⟨k1,k2⟩:=KL hs
 unfold bT Fh
 rw [f1,f2]
 simp only [Option.bind_some]
 cases b with
 | false=>exact ⟨1,rfl,.inl ⟨by decide,rfl⟩⟩
 | true =>
 have fit:=f3.1 rfl
 simp only [if_true]
 by_cases a1:x.aV<0
 ·exact ⟨1,by simp [a1],.inl ⟨by decide,by simp [a1];rfl⟩⟩
 by_cases a2:x.aV ≥ (l.aB.length:Int)
 ·exact ⟨1,by simp [a1,a2],.inl ⟨by decide,by simp [a1,a2];rfl⟩⟩
 obtain ⟨p,hp⟩:∃ p:Nat,x.aV=p:=⟨x.aV.toNat,by omega⟩
 have hpl:p<l.aB.length:=by omega
 have hy:l.aB[p]?=some l.aB[p]:=List.getElem?_eq_getElem hpl
 generalize l.aB[p]=y at hy
 have b1:¬ ((p:Nat):Int)<0:=by omega
 have b2:¬ ((p:Nat):Int) ≥ (l.aB.length:Int):=by omega
 simp only [hp,b1,b2,decide_false,Bool.false_eq_true,if_false,Option.bind_some,aQ hy]
 by_cases a3:x.jU < -1
 ·exact ⟨1,by simp [a3],.inl ⟨by decide,by simp [a3];rfl⟩⟩
 by_cases a4:x.jU ≥ (y.bO.length:Int)
 ·exact ⟨1,by simp [a3,a4],.inl ⟨by decide,by simp [a3,a4];rfl⟩⟩
 by_cases a5:x.aX<0
 ·exact ⟨1,by simp [a3,a4,a5],.inl ⟨by decide,by simp [a3,a4,a5];rfl⟩⟩
 by_cases a6:x.aX>4
 ·exact ⟨1,by simp [a3,a4,a5,a6],.inl ⟨by decide,by simp [a3,a4,a5,a6];rfl⟩⟩
 have hf:s.bJ[p]?=some (s.bJ[p]'(by have:=fit.f;omega)):=List.getElem?_eq_getElem (by have:=fit.f;omega)
 have hh:s.bD[p]?=some (s.bD[p]'(by have:=fit.h;omega)):=List.getElem?_eq_getElem (by have:=fit.h;omega)
 have hd:s.cG[p]?=some (s.cG[p]'(by have:=fit.d;omega)):=List.getElem?_eq_getElem (by have:=fit.d;omega)
 have hjn:s.aX[p]?=some (s.aX[p]'(by have:=fit.j;omega)):=List.getElem?_eq_getElem (by have:=fit.j;omega)
 generalize s.bJ[p]'(by have:=fit.f;omega)=fl at hf
 generalize s.bD[p]'(by have:=fit.h;omega)=t at hh
 generalize s.cG[p]'(by have:=fit.d;omega)=dn at hd
 generalize s.aX[p]'(by have:=fit.j;omega)=jt at hjn
 have htl:=fit.hh p t y hh hy
 have htm:=hs.hh t (List.mem_of_getElem? hh)
 have hf':(toC s).bJ[p]?=some fl:=hf
 have hh':(toC s).bD[p]?=some t:=hh
 have hd':(toC s).cG[p]?=some dn:=hd
 have hjn':(toC s).aX[p]?=some jt:=hjn
 by_cases a7:x.jU ≥ 0
 ·-- a hole
  by_cases a8:x.aX=0
  case neg =>
   have:(x.aX != 0)=true:=by simp [a8]
   exact ⟨1,by simp [a3,a4,a5,a6,a7,this],.inl ⟨by decide,by simp [a3,a4,a5,a6,a7,this];rfl⟩⟩
  obtain ⟨h,hh0⟩:∃ h:Nat,x.jU=h:=⟨x.jU.toNat,by omega⟩
  have hhl:h<t.length:=by omega
  have hb:t[h]?=some t[h]:=List.getElem?_eq_getElem hhl
  have hc:y.bO[h]?=some (y.bO[h]'(by omega)):=List.getElem?_eq_getElem (by omega)
  generalize t[h]=bh at hb
  generalize y.bO[h]'(by omega)=cr at hc
  have n7:¬ x.jU<0:=by omega
  have j0:(x.aX != 0)=false:=by simp [a8]
  have b3:¬ ((h:Nat):Int) < -1:=by omega
  have b4:¬ ((h:Nat):Int) ≥ (y.bO.length:Int):=by omega
  have b7:((h:Nat):Int) ≥ 0:=by omega
  have bn7:¬ ((h:Nat):Int)<0:=by omega
  unfold wW oW
  simp only [b3,b4,a5,a6,b7,bn7,j0,hp,decide_true,decide_false,Bool.false_eq_true,if_false,if_true,Option.bind_some,aQ hf,aQ hf',aQ hh,aQ hh',hh0,aQ hb,aQ hc,aQ hy]
  cases fl with
  | true=>exact ⟨12,rfl,.inl ⟨by decide,rfl⟩⟩
  | false =>
  cases bh with
  | true=>exact ⟨12,rfl,.inl ⟨by decide,rfl⟩⟩
  | false =>
  simp only [Bool.false_eq_true,if_false,Option.bind_some,Bool.not_false,Bool.not_true]
  have fin:∀ r:Bool,∃ e,(if r=true then some (14:Int) else some 0)=some e∧((e≠0∧(if r=true then some (bQ.mk [] [] [] [] [],(14:Int)) else (tM (toC s)).bind fun r34=>(idx r34.bD (p:Int)).bind fun x214=>(idx x214 (h:Int)).bind fun x215=>yV l es r34 (r34.Cut,(List.set r34.bD (Int.toNat (p:Int)) (List.set x214 (Int.toNat (h:Int)) true)),r34.cG,r34.aX))=some (toC noS,e))∨(e=0∧Fit l es.length s∧∃ s',vQ l es s x s'∧(if r=true then some (bQ.mk [] [] [] [] [],(14:Int)) else (tM (toC s)).bind fun r34=>(idx r34.bD (p:Int)).bind fun x214=>(idx x214 (h:Int)).bind fun x215=>yV l es r34 (r34.Cut,(List.set r34.bD (Int.toNat (p:Int)) (List.set x214 (Int.toNat (h:Int)) true)),r34.cG,r34.aX))=some (toC s',0)∧fW es s x=some s')):=fun r=>by
   cases r with
   | true=>exact ⟨14,rfl,.inl ⟨by decide,rfl⟩⟩
   | false =>
     obtain ⟨l1,l2⟩:=Wf (l:=l) hl.n hes fit.c (s.bD.set p (t.set h true)) fit.d fit.j fit.f
     refine ⟨0,rfl,.inr ⟨rfl,fit,Wj l.aB.length es s p h t,.hole hp hh0 a8 hy hf hh hb, ?_, ?_⟩⟩
     ·simp only [Bool.false_eq_true,if_false,k1,Option.bind_some,aQ hh',aQ hb,Int.toNat_natCast]
      unfold yV
      show (aK (yX l es (s.Cut,s.bD.set p (t.set h true),s.cG,s.aX)) (0,s.bJ)).bind _=_
      rw [l1];rfl
     ·unfold fW
      rw [k2]
      have d7:decide (x.jU ≥ 0)=true:=by simp [a7]
      simp only [Option.bind_some,d7,if_true,hp,hh0,aQ hh,aQ hb,Int.toNat_natCast]
      unfold jZ
      rw [l2];rfl
  have conv1:∀ (A B C D':Prop) [Decidable A] [Decidable B] [Decidable C] [Decidable D'],(if decide A then some true else if decide B then some true else if decide C then some true else some (decide D'))=some (decide A || decide B || decide C || decide D'):=fun A B C D' _ _ _ _=>by
   by_cases h1:A <;> by_cases h2:B <;> by_cases h3:C <;> simp [h1,h2,h3]
  rw [conv1]
  have conv2:(if decide (x.cW.X>cr.X)=true then (if decide (x.cW.X<aL cr.X cr.W)=true then (if decide (x.cW.Y>cr.Y)=true then some (decide (x.cW.Y<aL cr.Y cr.H)) else some false) else some false) else some false)=some (!(decide (x.cW.X≤cr.X) || decide (x.cW.X ≥ aL cr.X cr.W) || decide (x.cW.Y≤cr.Y) || decide (x.cW.Y ≥ aL cr.Y cr.H))):=by
   by_cases h1:x.cW.X≤cr.X
   ·have:¬ x.cW.X>cr.X:=by omega
    simp [h1,this]
   ·have n1:x.cW.X>cr.X:=by omega
    by_cases h2:x.cW.X ≥ aL cr.X cr.W
    ·have:¬ x.cW.X<aL cr.X cr.W:=by omega
     simp [h1,n1,h2,this]
    ·have n2:x.cW.X<aL cr.X cr.W:=by omega
     by_cases h3:x.cW.Y≤cr.Y
     ·have:¬ x.cW.Y>cr.Y:=by omega
      simp [h1,n1,h2,n2,h3,this]
     ·have n3:x.cW.Y>cr.Y:=by omega
      by_cases h4:x.cW.Y ≥ aL cr.Y cr.H
      ·have:¬ x.cW.Y<aL cr.Y cr.H:=by omega
       simp [h1,n1,h2,n2,h3,n3,h4,this]
      ·have n4:x.cW.Y<aL cr.Y cr.H:=by omega
       simp [h1,n1,h2,n2,h3,n3,h4,n4]
  rw [conv2]
  simp only [Option.bind_some,Bool.not_not]
  exact fin _
 ·-- an outline
  have hm1:x.jU=-1:=by omega
  have n7:x.jU<0:=by omega
  obtain ⟨sb,s1,s2⟩:∃ b,yU y=some b∧fH y=some b:=⟨_,Zj y (by have:=hl.r12 y (List.mem_of_getElem? hy);omega),Xd y (by have:=hl.r12 y (List.mem_of_getElem? hy);omega)⟩
  obtain ⟨lb,l1,l2,_⟩:=Wr hl hes fit.c x n7
  have fr1:=EY hes fit.c (p:Int) s.bD s.cG s.aX s.bJ
  have fr2:=Tt hes fit.c (p:Int) s.bD s.cG s.aX s.bJ
  have fr1':sN (toC s) es (p:Int)=some (yL es s.Cut (p:Int)):=fr1
  have fr2':gL es s (p:Int)=some (yL es s.Cut (p:Int)):=fr2
  rw [hp] at l2
  unfold wW
  simp only [a3,a4,a5,a6,a7,n7,hp,decide_true,decide_false,Bool.false_eq_true,if_false,if_true,Option.bind_some,aQ hf,aQ hf',aQ hh,aQ hh',aQ hd,aQ hd',uP t htm,all_eq t htm,fr1',fr2',s1,s2,l1,l2]
  cases fl with
  | true=>exact ⟨12,rfl,.inl ⟨by decide,rfl⟩⟩
  | false =>
  cases dn with
  | true=>exact ⟨12,rfl,.inl ⟨by decide,rfl⟩⟩
  | false =>
  cases ha:(t.all fun b=>b) with
  | false=>exact ⟨12,rfl,.inl ⟨by decide,rfl⟩⟩
  | true =>
  cases hfr:yL es s.Cut (p:Int) with
  | true=>exact ⟨12,rfl,.inl ⟨by decide,rfl⟩⟩
  | false =>
  simp only [Bool.false_eq_true,if_false,Option.bind_some,Bool.not_false,Bool.not_true,if_true]
  have hsm:∀ b:Bool,(if (x.aX==0)=true then some sb else some false)=some b→(b=true→∃ e,(some (15:Int))=some e∧e≠0):=fun b _ _=>⟨15,rfl,by decide⟩
  cases hz:(if (x.aX==0)=true then some sb else some false:Option Bool) with
  | none=>cases hj0:(x.aX==0) <;> simp [hj0] at hz
  | some bz =>
  simp only [Option.bind_some]
  cases bz with
  | true=>exact ⟨15,rfl,.inl ⟨by decide,rfl⟩⟩
  | false =>
  simp only [Bool.false_eq_true,if_false]
  cases lb with
  | false=>exact ⟨14,rfl,.inl ⟨by decide,rfl⟩⟩
  | true =>
  simp only [Bool.not_true,Bool.false_eq_true,if_false,k1,Option.bind_some,aQ hd',aQ hjn',Int.toNat_natCast]
  obtain ⟨c1,c2⟩:=KN hes fit.c x hp
  have hml:(mark es.length (yS es (p:Int)) s.Cut).length=es.length:=qQ _ _ _
  obtain ⟨g1,g2⟩:=Wf (l:=l) hl.n hes hml s.bD (D:=s.cG.set p true) (by rw [List.length_set];exact fit.d) (J:=s.aX.set p x.aX) (by rw [List.length_set];exact fit.j) fit.f
  refine ⟨0,rfl,.inr ⟨rfl,fit,RH l.aB.length es s p x.aX,.line hp hm1 (by omega) hy hf hd hh ha hfr, ?_, ?_⟩⟩
  ·show (aK (Cn es x) (0,s.Cut)).bind _=_
   rw [c1]
   simp only [Option.bind_some]
   unfold yV
   show (aK (yX l es (mark es.length (yS es (p:Int)) s.Cut,s.bD,s.cG.set p true,s.aX.set p x.aX)) (0,s.bJ)).bind _=_
   rw [g1];rfl
  ·unfold fW
   rw [k2]
   have d7:decide (x.jU ≥ 0)=false:=by simp;omega
   simp only [Option.bind_some,d7,Bool.false_eq_true,if_false,hp,aQ hd,aQ hjn,c2,Int.toNat_natCast]
   unfold jZ
   rw [g2];rfl
def st0 (l:aT) (n:Nat):RS:=⟨List.replicate n false,l.aB.map fun x=>List.replicate x.bO.length false,List.replicate l.aB.length false,List.replicate l.aB.length 0,List.replicate l.aB.length false⟩
theorem mk_eq {α:Type} (n:Nat) (z:α) (h:n≤1048576):mk (n:Int) z=some (List.replicate n z):=by
 unfold mk
 rw [if_pos ⟨by omega,by simp [LIM];omega⟩,Int.toNat_natCast]
section
variable {l:aT} (n8:l.aB.length≤8) (hc:∀ x ∈ l.aB,x.bO.length≤1048576)
include n8 hc
theorem BT (n:Nat) (hn:n≤200000):xJ l (n:Int)=some (toC (st0 l n)):=by
 have key:aK (xS l) (0,[])=some (l.aB.map fun x=>List.replicate x.bO.length false):=by
  refine Hf l.aB (fun x=>List.replicate x.bO.length false) (xS l) (by omega) (fun k x acc hx=>?_) (fun acc=>by simp [xS])
  have hk:=bG hx
  unfold xS
  have hd:decide ((k:Int)<(l.aB.length:Int))=true:=by simp [hk]
  simp only [hd,if_true,aQ hx,Option.bind_some,mk_eq _ false (hc x (List.mem_of_getElem? hx)),bH k (by omega)]
 unfold xJ
 rw [mk_eq n false (by omega),mk_eq _ false (show l.aB.length≤1048576 by omega),mk_eq _ (0:Int) (show l.aB.length≤1048576 by omega)]
 simp only [Option.bind_some,key]
 rfl
theorem IL {es:List bC} (he:cZ l=some es) (hn:es.length≤200000):jD l=some (st0 l es.length):=by
 have key:aK (jM l) (0,[])=some (l.aB.map fun x=>List.replicate x.bO.length false):=by
  refine Hf l.aB (fun x=>List.replicate x.bO.length false) (jM l) (by omega) (fun k x acc hx=>?_) (fun acc=>by simp [jM])
  have hk:=bG hx
  unfold jM
  have hd:decide ((k:Int)<(l.aB.length:Int))=true:=by simp [hk]
  simp only [hd,if_true,aQ hx,Option.bind_some,mk_eq _ false (hc x (List.mem_of_getElem? hx)),bH k (by omega)]
 unfold jD
 rw [he]
 simp only [Option.bind_some]
 rw [mk_eq es.length false (by omega),mk_eq _ false (show l.aB.length≤1048576 by omega),mk_eq _ (0:Int) (show l.aB.length≤1048576 by omega)]
 simp only [Option.bind_some,key]
 rfl
omit n8 hc in
theorem QR (n:Nat):Fit l n (st0 l n):=by
 refine ⟨by simp [st0],by simp [st0],by simp [st0],by simp [st0],by simp [st0],fun k t x h1 h2=>?_⟩
 have:(st0 l n).bD[k]?=some (List.replicate x.bO.length false):=by
  show (l.aB.map fun x=>List.replicate x.bO.length false)[k]?=_
  rw [List.getElem?_map,h2];rfl
 rw [this] at h1
 injection h1 with h1
 rw [← h1,List.length_replicate]
end
theorem DB:SL1 noS:=⟨by simp [noS],by simp [noS],fun t ht=>by simp [noS] at ht,by simp [noS],by simp [noS],by simp [noS]⟩
theorem Nl {l:aT} {es:List bC} {s s':RS} {x:bU} (hd:vQ l es s x s') (hf:Fit l es.length s):Fit l es.length s':=by
 cases hd with
 | @hole p h y t hp hh hj hy hfl ht hb =>
   refine ⟨hf.c,by show (s.bD.set p _).length=_;rw [List.length_set];exact hf.h,hf.d,hf.j,qQ _ _ _,fun k u z h1 h2=>?_⟩
   have h1':(s.bD.set p (t.set h true))[k]?=some u:=h1
   rw [List.getElem?_set] at h1'
   split at h1'
   ·rename_i e
    subst e
    split at h1'
    ·injection h1' with h1'
     rw [← h1',List.length_set]
     exact hf.hh p t z ht h2
    ·cases h1'
   ·exact hf.hh k u z h1' h2
 | @line p y t hp hh hj hy hfl hdn ht ha hn =>
   exact ⟨qQ _ _ _,hf.h,by show (s.cG.set p true).length=_;rw [List.length_set];exact hf.d,by show (s.aX.set p x.aX).length=_;rw [List.length_set];exact hf.j,qQ _ _ _,hf.hh⟩
theorem CO {l:aT} (n8:l.aB.length≤8) (hc:∀ x ∈ l.aB,x.bO.length≤1048576) {n:Nat} (hn:n≤200000) {s:RS} (hf:Fit l n s):SL1 s:=by
 have h1:=hf.c;have h2:=hf.d;have h3:=hf.j;have h4:=hf.f;have h5:=hf.h
 refine ⟨by omega,by omega,fun t ht=>?_,by omega,by omega,by omega⟩
 obtain ⟨k,hk⟩:=List.mem_iff_getElem?.1 ht
 have hkl:=bG hk
 have hx:l.aB[k]?=some (l.aB[k]'(by omega)):=List.getElem?_eq_getElem (by omega)
 rw [hf.hh k t _ hk hx]
 exact hc _ (List.mem_of_getElem? hx)
theorem EN {l:aT} (h:uN l):∀ x ∈ l.aB,x.bO.length≤1048576:=fun x hx=>by
 obtain ⟨_,_,_,_,_,r2,_⟩:=h.2.2 x hx
 exact r2.1
structure Step (l:aT) (es:List bC) (s:RS) (x:bU) (s':RS):Prop where
 d:vQ l es s x s'
 c:Fh l es (toC s) x=some (toC s',0)
 r:bT l es s x=some 0
 f:fW es s x=some s'
structure Pz (l:aT) (es:List bC) (s:RS) (x:bU) (e:Int):Prop where
 n:e≠0
 r:bT l es s x=some e
 c:Fh l es (toC s) x=some (toC noS,e)
inductive Steps (l:aT) (es:List bC):RS→List bU→List RS→Prop
 | nil (s:RS):Steps l es s [] []
 | cons {s s':RS} {x:bU} {xs:List bU} {ss:List RS} (h:Step l es s x s') (t:Steps l es s' xs ss):Steps l es s (x::xs) (s'::ss)
def sG:RS→List RS→RS
 | s,[]=>s
 | _,s'::ss=>sG s' ss
def Qe {E:Type} (up:RS→RS→E→E):RS→List RS→E→E
 | _,[],e=>e
 | s,s'::ss,e=>Qe up s' ss (up s s' e)
theorem Steps.len {l:aT} {es:List bC} {s:RS} {xs:List bU} {ss:List RS} (h:Steps l es s xs ss):ss.length=xs.length:=by
 induction h with
 | nil=>rfl
 | cons _ _ ih=>simp [ih]
theorem Wq:∀ (ss:List RS) (s:RS),ss≠[]→ss[ss.length-1]?=some (sG s ss)
 | [],_,h=>absurd rfl h
 | [a],_,_=>rfl
 | a::b::ss,s,_=>by
   have:=Wq (b::ss) a (by simp)
   show (a::b::ss)[ss.length+1]?=_
   rw [List.getElem?_cons_succ]
   exact this
section
variable {l:aT} (hl:LV l) (hc:∀ x ∈ l.aB,x.bO.length≤1048576) {es:List bC} (hes:es.length≤200000)
include hl hc hes
theorem OG {s:RS} (hf:Fit l es.length s) (x:bU):(∃ e,Pz l es s x e)∨∃ s',Step l es s x s'∧Fit l es.length s':=by
 obtain ⟨e,r1,r2⟩:=ER hl (show es.length≤1000000 by omega) (CO hl.n hc hes hf) x
 rcases r2 with ⟨he,r2⟩ | ⟨he,_,s',hd,r2,r3⟩
 ·exact .inl ⟨e,he,r1,r2⟩
 ·subst he
  exact .inr ⟨s',⟨hd,r2,r1,r3⟩,Nl hd hf⟩
theorem FV:∀ (xs:List bU) (s:RS),Fit l es.length s→(∃ ss,Steps l es s xs ss)∨∃ pre x post ss e,xs=pre++x::post∧Steps l es s pre ss∧Pz l es (sG s ss) x e
 | [],s,_=>.inl ⟨[],.nil s⟩
 | x::xs,s,hf=>by
   rcases OG hl hc hes hf x with ⟨e,h⟩ | ⟨s',h,hf'⟩
   ·exact .inr ⟨[],x,xs,[],e,rfl,.nil s,h⟩
   ·rcases FV xs s' hf' with ⟨ss,h2⟩ | ⟨pre,y,post,ss,e,rfl,h2,h3⟩
    ·exact .inl ⟨_,.cons h h2⟩
    ·exact .inr ⟨x::pre,y,post,s'::ss,e,rfl,.cons h h2,h3⟩
omit hl hc hes in
theorem JG {s:RS} {xs:List bU} {ss:List RS} (h:Steps l es s xs ss):Fit l es.length s→Fit l es.length (sG s ss)∧∀ t ∈ ss,Fit l es.length t:=by
 induction h with
 | nil s=>exact fun hf=>⟨hf,fun t ht=>by cases ht⟩
 | cons h _ ih =>
   intro hf
   have h1:=Nl h.d hf
   obtain ⟨a,b⟩:=ih h1
   refine ⟨a,fun t ht=>?_⟩
   cases ht with
   | head=>exact h1
   | tail _ ht=>exact b t ht
end
section
variable {l:aT} {es:List bC} {items:List bU} {E S R:Type} (mk:Nat→RS→E→S) (body:S→Option (S ⊕ R)) (up:RS→RS→E→E) (I:Nat→RS→E→Prop)
variable (step:∀ k x s s' e,items[k]?=some x→Step l es s x s'→Fit l es.length s→I k s e→body (mk k s e)=some (.inl (mk (k+1) s' (up s s' e)))∧I (k+1) s' (up s s' e))
include step
theorem DT {xs:List bU} {s:RS} {ss:List RS} (h:Steps l es s xs ss):∀ (k:Nat) (e:E) (post:List bU),items.drop k=xs++post→Fit l es.length s→I k s e→aK body (mk k s e)=aK body (mk (k+xs.length) (sG s ss) (Qe up s ss e))∧I (k+xs.length) (sG s ss) (Qe up s ss e):=by
 induction h with
 | nil s=>exact fun k e post _ _ hI=>⟨rfl,hI⟩
 | @cons s s' x xs ss h _ ih =>
   intro k e post hd hf hI
   have hx:items[k]?=some x:=by
    have:(items.drop k)[0]?=some x:=by rw [hd];rfl
    rwa [List.getElem?_drop,Nat.add_zero] at this
   obtain ⟨h1,h2⟩:=step k x s s' e hx h hf hI
   have hd':items.drop (k+1)=xs++post:=by
    have:(items.drop k).drop 1=xs++post:=by rw [hd];rfl
    rwa [List.drop_drop] at this
   obtain ⟨g1,g2⟩:=ih (k+1) _ post hd' (Nl h.d hf) h2
   have e1:k+(x::xs).length=k+1+xs.length:=by simp;omega
   rw [e1]
   refine ⟨?_,g2⟩
   rw [gT h1,g1];rfl
theorem NL (fin:RS→E→R) (hfin:∀ s e,body (mk items.length s e)=some (.inr (fin s e))) {s:RS} {ss:List RS} (h:Steps l es s items ss) (e:E) (hf:Fit l es.length s) (hI:I 0 s e):aK body (mk 0 s e)=some (fin (sG s ss) (Qe up s ss e)):=by
 obtain ⟨g,_⟩:=DT mk body up I step h 0 e [] (by simp) hf hI
 rw [g,Nat.zero_add]
 exact eA (hfin _ _)
theorem FW (err:Nat→Int→RS→E→R) (herr:∀ k x s e c,items[k]?=some x→Pz l es s x c→I k s e→body (mk k s e)=some (.inr (err k c s e))) {s:RS} {pre post:List bU} {x:bU} {ss:List RS} {c:Int} (hi:items=pre++x::post) (h:Steps l es s pre ss) (hs:Pz l es (sG s ss) x c) (e:E) (hf:Fit l es.length s) (hI:I 0 s e):aK body (mk 0 s e)=some (err pre.length c (sG s ss) (Qe up s ss e)):=by
 obtain ⟨g,g2⟩:=DT mk body up I step h 0 e (x::post) (by simp [hi]) hf hI
 rw [Nat.zero_add] at g g2
 rw [g]
 refine eA (herr _ x _ _ _ ?_ hs g2)
 rw [hi,List.getElem?_append_right (Nat.le_refl _)];simp
end
end Go.SM
namespace Go.SM
open Go Go.VI
end Go.SM
namespace Go.SM
open Go Go.VI Go.Cells
structure Ran (l:aT) (items:List bU) (es:List bC) (ss:List RS):Prop where
 v:LV l
 c:∀ x ∈ l.aB,x.bO.length≤1048576
 e1:oK l=some (es,0)
 e2:yY l=some es
 e3:cZ l=some es
 n:es.length≤200000
 g:∃ xs ys,Lay (eK l) xs ys∧es=Fj (eK l) xs ys
 k:items.length≤128
 s:Steps l es (st0 l es.length) items ss
 a1:xJ l (es.length:Int)=some (toC (st0 l es.length))
 a2:jD l=some (st0 l es.length)
 vr:dG l=some 0
 t:gA l items=some (ss,0,0)
theorem Wh:∀ (ss:List RS) (s:RS) (acc:List RS),Qe (fun _ s' a=>a++[s']) s ss acc=acc++ss
 | [],_,acc=>by simp [Qe]
 | s'::ss,_,acc=>by rw [Qe,Wh ss];simp
section
variable {l:aT} {es:List bC} {items:List bU} (h128:items.length≤128)
include h128
theorem Qd (k:Nat) (x:bU) (s s':RS) (hx:items[k]?=some x) (h:Step l es s x s'):dP l items (es,0) ((k:Int),s.bD,s.Cut,s.cG,s.aX,s.bJ)=some (.inl (((k+1:Nat):Int),s'.bD,s'.Cut,s'.cG,s'.aX,s'.bJ)):=by
 have hk:=bG hx
 unfold dP
 have hd:decide ((k:Int)<(items.length:Int))=true:=by simp [hk]
 have hc:Fh l es ⟨s.Cut,s.bD,s.cG,s.aX,s.bJ⟩ x=some (toC s',0):=h.c
 simp only [hd,if_true,aQ hx,Option.bind_some,hc,bne_self_eq_false,Bool.false_eq_true,if_false,bH k (show (k:Int)<9223372036854775807 by omega)]
 rfl
omit h128 in
theorem Zx (k:Nat) (x:bU) (s:RS) (c:Int) (hx:items[k]?=some x) (h:Pz l es s x c):dP l items (es,0) ((k:Int),s.bD,s.Cut,s.cG,s.aX,s.bJ)=some (.inr (.inl ((k:Int),c))):=by
 have hk:=bG hx
 unfold dP
 have hd:decide ((k:Int)<(items.length:Int))=true:=by simp [hk]
 have hc:Fh l es ⟨s.Cut,s.bD,s.cG,s.aX,s.bJ⟩ x=some (toC noS,c):=h.c
 have hn:(c != 0)=true:=by rw [bne_iff_ne];exact h.n
 simp only [hd,if_true,aQ hx,Option.bind_some,hc,hn]
theorem Qq (k:Nat) (x:bU) (s s':RS) (acc:List RS) (hacc:acc.length=k) (hx:items[k]?=some x) (h:Step l es s x s'):bW l items es ((k:Int),s.Cut,s.bD,s.cG,s.aX,s.bJ,acc)=some (.inl (((k+1:Nat):Int),s'.Cut,s'.bD,s'.cG,s'.aX,s'.bJ,acc++[s'])):=by
 have hk:=bG hx
 unfold bW
 have hd:decide ((k:Int)<(items.length:Int))=true:=by simp [hk]
 have hr:bT l es ⟨s.Cut,s.bD,s.cG,s.aX,s.bJ⟩ x=some 0:=h.r
 have hc:fW es ⟨s.Cut,s.bD,s.cG,s.aX,s.bJ⟩ x=some s':=h.f
 have ha:app acc [s']=some (acc++[s']):=lA (by unfold LIM;simp;omega)
 simp only [hd,if_true,aQ hx,Option.bind_some,hr,hc,bne_self_eq_false,Bool.false_eq_true,if_false,ha,bH k (show (k:Int)<9223372036854775807 by omega)]
omit h128 in
theorem BU (k:Nat) (x:bU) (s:RS) (acc:List RS) (c:Int) (hx:items[k]?=some x) (h:Pz l es s x c):bW l items es ((k:Int),s.Cut,s.bD,s.cG,s.aX,s.bJ,acc)=some (.inr (.inl ((k:Int),c))):=by
 have hk:=bG hx
 unfold bW
 have hd:decide ((k:Int)<(items.length:Int))=true:=by simp [hk]
 have hr:bT l es ⟨s.Cut,s.bD,s.cG,s.aX,s.bJ⟩ x=some c:=h.r
 have hn:(c != 0)=true:=by rw [bne_iff_ne];exact h.n
 simp only [hd,if_true,aQ hx,Option.bind_some,hr,hn]
end
theorem Zi (l:aT) (h:uN l) (items:List bU):∃ s k e,Rj l items=some (toC s,k,e,s.bD)∧sM l items=some (s,k,e,s.Cut,s.bD,s.cG,s.aX,s.bJ)∧SL1 s ∧
  ((e≠0∧s=noS∧((k=0∧((∃ es,oK l=some (es,e))∨∃ es,oK l=some (es,0)∧es.length≤200000∧¬ items.length≤128∧e=4)) ∨
    ∃ es pre x post ss,items.length≤128∧LV l∧oK l=some (es,0)∧es.length≤200000∧xJ l (es.length:Int)=some (toC (st0 l es.length))∧items=pre++x::post∧k=(pre.length:Int)∧Steps l es (st0 l es.length) pre ss∧Pz l es (sG (st0 l es.length) ss) x e)) ∨
   (e=0∧k=0∧∃ es ss,Ran l items es ss∧s=sG (st0 l es.length) ss)):=by
 obtain ⟨es,b,v1,v2,e1,e2,e3,e4,e5⟩:=Sb l h
 have hc:=EN h
 unfold Rj xD sM
 rw [e1,v2]
 simp only [Option.bind_some]
 by_cases hb:b=0
 case neg =>
  have hb':(b != 0)=true:=by rw [bne_iff_ne];exact hb
  simp only [hb',if_true,Option.bind_some]
  exact ⟨noS,0,b,rfl,rfl,DB,.inl ⟨hb,rfl,.inl ⟨rfl,.inl ⟨es,rfl⟩⟩⟩⟩
 subst hb
 obtain ⟨hl,g1,g2,g3⟩:=e5 rfl
 simp only [bne_self_eq_false,Bool.false_eq_true,if_false]
 by_cases h128:items.length≤128
 case neg =>
  have:decide ((items.length:Int)>128)=true:=by simp;omega
  simp only [this,if_true,Option.bind_some]
  exact ⟨noS,0,4,rfl,rfl,DB,.inl ⟨by decide,rfl,.inl ⟨rfl,.inr ⟨es,rfl,e3,h128,rfl⟩⟩⟩⟩
 have hd:decide ((items.length:Int)>128)=false:=by simp;omega
 have a1:=BT hl.n hc es.length e3
 have a2:=IL hl.n hc g2 e3
 have hf0:=QR (l:=l) es.length
 simp only [hd,Bool.false_eq_true,if_false,a1,Option.bind_some]
 have S1:=fun s ss=>NL (l:=l) (es:=es) (items:=items) (fun k (s:RS) (_:Unit)=>((k:Int),s.bD,s.Cut,s.cG,s.aX,s.bJ)) (dP l items (es,0)) (fun _ _ e=>e) (fun _ _ _=>True)
  (fun k x s s' _ hx hs _ _=>⟨Qd h128 k x s s' hx hs,trivial⟩) (fun s _=>.inr (s.bD,s.Cut,s.cG,s.aX,s.bJ)) (fun s _=>by simp [dP]) (s:=s) (ss:=ss)
 have S2:=fun pre x post s ss c=>FW (l:=l) (es:=es) (items:=items) (fun k (s:RS) (_:Unit)=>((k:Int),s.bD,s.Cut,s.cG,s.aX,s.bJ)) (dP l items (es,0)) (fun _ _ e=>e) (fun _ _ _=>True)
  (fun k x s s' _ hx hs _ _=>⟨Qd h128 k x s s' hx hs,trivial⟩) (fun k c _ _=>.inl ((k:Int),c)) (fun k x s _ c hx hs _=>Zx k x s c hx hs) (pre:=pre) (post:=post) (x:=x) (s:=s) (ss:=ss) (c:=c)
 have S3:=fun s ss=>NL (l:=l) (es:=es) (items:=items) (fun k (s:RS) (acc:List RS)=>((k:Int),s.Cut,s.bD,s.cG,s.aX,s.bJ,acc)) (bW l items es) (fun _ s' a=>a++[s']) (fun k _ a=>a.length=k)
  (fun k x s s' acc hx hs _ hI=>⟨Qq h128 k x s s' acc hI hx hs,by simp [hI]⟩) (fun _ acc=>.inr acc) (fun s acc=>by simp [bW]) (s:=s) (ss:=ss)
 have S4:=fun pre x post s ss c=>FW (l:=l) (es:=es) (items:=items) (fun k (s:RS) (acc:List RS)=>((k:Int),s.Cut,s.bD,s.cG,s.aX,s.bJ,acc)) (bW l items es) (fun _ s' a=>a++[s']) (fun k _ a=>a.length=k)
  (fun k x s s' acc hx hs _ hI=>⟨Qq h128 k x s s' acc hI hx hs,by simp [hI]⟩) (fun k c _ _=>.inl ((k:Int),c)) (fun k x s acc c hx hs _=>BU k x s acc c hx hs) (pre:=pre) (post:=post) (x:=x) (s:=s) (ss:=ss) (c:=c)
 rcases FV hl hc e3 items (st0 l es.length) hf0 with ⟨ss,hs⟩ | ⟨pre,x,post,ss,e,hi,hs,hx⟩
 ·-- all run
  have q1:=S1 _ _ hs () hf0 trivial
  have q3:=S3 _ _ hs [] hf0 rfl
  rw [Wh,List.nil_append] at q3
  have hst:gA l items=some (ss,0,0):=by
   unfold gA
   rw [g2,a2]
   show (aK (bW l items es) (0,(st0 l es.length).Cut,(st0 l es.length).bD,(st0 l es.length).cG,(st0 l es.length).aX,(st0 l es.length).bJ,[])).bind _=_
   have q3':aK (bW l items es) (0,(st0 l es.length).Cut,(st0 l es.length).bD,(st0 l es.length).cG,(st0 l es.length).aX,(st0 l es.length).bJ,[])=some (.inr ss):=q3
   rw [q3'];rfl
  have hran:Ran l items es ss:=⟨hl,hc,e1,g1,g2,e3,g3,h128,hs,a1,a2,v2,hst⟩
  have hfit:=(JG hs hf0).1
  refine ⟨sG (st0 l es.length) ss,0,0, ?_, ?_,CO hl.n hc e3 hfit,.inr ⟨rfl,rfl,es,ss,hran,rfl⟩⟩
  ·have q1':aK (dP l items (es,0)) (0,(toC (st0 l es.length)).bD,(toC (st0 l es.length)).Cut,(toC (st0 l es.length)).cG,(toC (st0 l es.length)).aX,(toC (st0 l es.length)).bJ)=some (.inr ((sG (st0 l es.length) ss).bD,(sG (st0 l es.length) ss).Cut,(sG (st0 l es.length) ss).cG,(sG (st0 l es.length) ss).aX,(sG (st0 l es.length) ss).bJ)):=q1
   rw [q1'];rfl
  ·by_cases h0:items=[]
   ·subst h0
    cases hs
    simp only [List.length_nil,Int.natCast_zero,beq_self_eq_true,if_true,a2,Option.bind_some]
    rfl
   ·have hz:((items.length:Int)==0)=false:=by
     rw [beq_eq_false_iff_ne]
     have:=List.length_pos_iff.2 h0
     omega
    have hss:ss≠[]:=by
     have h1:=hs.len
     have h2:=List.length_pos_iff.2 h0
     intro e
     rw [e,List.length_nil] at h1
     omega
    have hpos:=List.length_pos_iff.2 hss
    have hlen:=hs.len
    simp only [hz,Bool.false_eq_true,if_false,hst,Option.bind_some,bne_self_eq_false]
    have hsub:aJ (ss.length:Int) 1=((ss.length-1:Nat):Int):=by
     rw [bK (a:=(ss.length:Int)) (b:=1) (by omega) (by omega)];omega
    rw [hsub,aQ (Wq ss (st0 l es.length) hss)]
    rfl
 ·-- refused
  have q2:=S2 pre x post _ _ _ hi hs hx () hf0 trivial
  have q4:=S4 pre x post _ _ _ hi hs hx [] hf0 rfl
  refine ⟨noS,pre.length,e, ?_, ?_,DB,.inl ⟨hx.n,rfl,.inr ⟨es,pre,x,post,ss,h128,hl,rfl,e3,a1,hi,rfl,hs,hx⟩⟩⟩
  ·have q2':aK (dP l items (es,0)) (0,(toC (st0 l es.length)).bD,(toC (st0 l es.length)).Cut,(toC (st0 l es.length)).cG,(toC (st0 l es.length)).aX,(toC (st0 l es.length)).bJ)=some (.inl ((pre.length:Int),e)):=q2
   rw [q2'];rfl
  ·have hz:((items.length:Int)==0)=false:=by
    rw [beq_eq_false_iff_ne,hi];simp;omega
   have hn:(e != 0)=true:=by rw [bne_iff_ne];exact hx.n
   have hst:gA l items=some ([],(pre.length:Int),e):=by
    unfold gA
    rw [g2,a2]
    have q4':aK (bW l items es) (0,(st0 l es.length).Cut,(st0 l es.length).bD,(st0 l es.length).cG,(st0 l es.length).aX,(st0 l es.length).bJ,[])=some (.inl ((pre.length:Int),e)):=q4
    simp only [Option.bind_some]
    rw [q4'];rfl
   simp only [hz,Bool.false_eq_true,if_false,hst,Option.bind_some,hn,if_true]
   rfl
theorem CB (l:aT) (h:uN l) (items:List bU):∃ e,yT l items=some e∧lR l items=some e∧(e=0→∃ es ss,Ran l items es ss∧((sG (st0 l es.length) ss).cG.all fun b=>b)=true∧((sG (st0 l es.length) ss).bD.all fun t=>t.all fun b=>b)=true):=by
 obtain ⟨s,k,e,r1,r2,r3,r4⟩:=Zi l h items
 unfold yT lR
 rw [r1,r2]
 simp only [Option.bind_some]
 by_cases he:e=0
 case neg =>
  have he':(e != 0)=true:=by rw [bne_iff_ne];exact he
  simp only [he',if_true]
  exact ⟨e,rfl,rfl,fun h=>absurd h he⟩
 subst he
 have key:∃ es ss,Ran l items es ss∧s=sG (st0 l es.length) ss:=by
  rcases r4 with ⟨h,_⟩ | ⟨_,_,h⟩
  ·exact absurd rfl h
  ·exact h
 obtain ⟨es,ss,hr,hs⟩:=key
 have c1:=uP s.cG r3.d
 have c2:=all_eq s.cG r3.d
 have c1':dJ (toC s).cG false=some (!(s.cG.all fun b=>b)):=c1
 simp only [bne_self_eq_false,Bool.false_eq_true,if_false,c1',c2,Option.bind_some]
 cases hd:(s.cG.all fun b=>b) with
 | false=>exact ⟨12,rfl,rfl,fun h=>absurd h (by decide)⟩
 | true =>
   have hl2:=r3.h
   have l1:aK (nT (toC s,k,0,s.bD)) 0=some (if s.bD.all (fun t=>t.all fun b=>b) then .inr () else .inl ()):=by
    refine He s.bD (nT (toC s,k,0,s.bD)) (fun t=>t.all fun b=>b) (.inl ()) (.inr ()) (fun j t ht=>?_) ?_
    ·have hj:=bG ht
     have ht':(toC s).bD[j]?=some t:=ht
     unfold nT
     have hd:decide ((j:Int)<((toC s).bD.length:Int))=true:=by show decide ((j:Int)<(s.bD.length:Int))=true;simp [hj]
     simp only [hd,if_true,aQ ht',Option.bind_some,uP t (r3.hh t (List.mem_of_getElem? ht)),bH j (show (j:Int)<9223372036854775807 by omega)]
     cases (t.all fun b=>b) <;> rfl
    ·unfold nT
     have:decide ((s.bD.length:Int)<((toC s).bD.length:Int))=false:=by show decide ((s.bD.length:Int)<(s.bD.length:Int))=false;simp
     simp only [this,Bool.false_eq_true,if_false]
   have l2:aK (jH (s,k,0,s.Cut,s.bD,s.cG,s.aX,s.bJ)) 0=some (if s.bD.all (fun t=>t.all fun b=>b) then .inr () else .inl ()):=by
    refine He s.bD (jH (s,k,0,s.Cut,s.bD,s.cG,s.aX,s.bJ)) (fun t=>t.all fun b=>b) (.inl ()) (.inr ()) (fun j t ht=>?_) ?_
    ·have hj:=bG ht
     unfold jH
     have hd:decide ((j:Int)<(s.bD.length:Int))=true:=by simp [hj]
     simp only [hd,if_true,aQ ht,Option.bind_some,all_eq t (r3.hh t (List.mem_of_getElem? ht)),bH j (show (j:Int)<9223372036854775807 by omega)]
     cases (t.all fun b=>b) <;> rfl
    ·simp [jH]
   simp only [Bool.not_true,Bool.false_eq_true,if_false,l1,l2,Option.bind_some]
   cases hh:s.bD.all (fun t=>t.all fun b=>b) with
   | false=>exact ⟨12,rfl,rfl,fun h=>absurd h (by decide)⟩
   | true=>exact ⟨0,rfl,rfl,fun _=>⟨es,ss,hr,hs ▸ hd,hs ▸ hh⟩⟩
def wr (a:Int):Int:=IntKind.i64.wrap a
theorem Za (a b:Int):wr (wr a+b)=wr (a+b):=by
 unfold wr
 simp only [IntKind.wrap,IntKind.signed,IntKind.bits,IntKind.min,IntKind.max]
 first | omega | (simp only [Int.reducePow,if_true];omega) | (simp;omega)
theorem OJ (a:Int):wr (wr a)=wr a:=by have:=Za a 0;simpa using this
theorem GB:wr 0=0:=by unfold wr;exact yH 0 (by omega) (by omega)
theorem Cr {n:Nat} (g:Nat→Int) (body:Int×Int→Option (Int×Int ⊕ Int)) (step:∀ (k:Nat) (acc:Int),k<n→wr acc=acc→body (acc,(k:Int))=some (.inl (wr (acc+g k),((k+1:Nat):Int)))) (fin:∀ acc,body (acc,(n:Int))=some (.inr acc)) {acc:Int} (ha:wr acc=acc) :
  aK body (acc,0)=some (wr (acc+Lg g n)):=by
 have key:=sU (List.range n) body (fun k=>(wr (acc+Lg g k),(k:Int))) (wr (acc+Lg g n)) (fun k x hx=>?_) ?_
 ·have e0:wr (acc+Lg g 0)=acc:=by rw [show acc+Lg g 0=acc from by simp [Lg]];exact ha
  rw [e0] at key
  exact key
 ·have hk:k<n:=by have:=bG hx;simpa using this
  rw [step k _ hk (OJ _),Za,Int.add_assoc]
  rfl
 ·rw [List.length_range,fin]
theorem Rs {R:List (List aS)} {x y i:Int} (h:eJ R x y=some i):0≤i∧i<(R.length:Int):=by
 unfold eJ Ge at h
 cases hl:lK R x y with
 | none=>rw [hl] at h;cases h
 | some k =>
   rw [hl] at h
   have h:(k:Int)=i:=Option.some.inj h
   unfold lK at hl
   obtain ⟨hi,_⟩:=List.findIdx?_eq_some_iff_getElem.1 hl
   omega
theorem pick (c:Prop) [Decidable c] (s:cT) (q p:Int):(if c then (⟨s,q,p⟩:bC) else ⟨s,p,q⟩).A=p∨(if c then (⟨s,q,p⟩:bC) else ⟨s,p,q⟩).B=p:=by
 by_cases h:c
 ·rw [if_pos h];exact .inr rfl
 ·rw [if_neg h];exact .inl rfl
theorem IM {s:Int→Int} {lo hi:Int} (hlo:∀ z,z<lo→s z=0) (hhi:∀ z,hi≤z→s z=0) {z:Int} (h:s z≠0):∃ a b,Mq s a b∧a≤z∧z<b:=by
 have hzl:lo≤z:=by
  by_cases q:lo≤z
  ·exact q
  ·exact absurd (hlo z (by omega)) h
 have hzh:z<hi:=by
  by_cases q:z<hi
  ·exact q
  ·exact absurd (hhi z (by omega)) h
 have left:∀ (n:Nat) (w:Int),w-lo≤n→lo≤w→w≤z→(∀ v,w≤v→v≤z→s v=s z)→∃ a,a≤z∧(∀ v,a≤v→v≤z→s v=s z)∧s (a-1)≠s z:=by
  intro n
  induction n with
  | zero =>
    intro w h1 h2 h3 h4
    refine ⟨w,h3,h4, ?_⟩
    rw [hlo (w-1) (by omega)];exact fun e=>h e.symm
  | succ n ih =>
    intro w h1 h2 h3 h4
    by_cases q:s (w-1)=s z
    ·have hw:lo≤w-1:=by
      by_cases q2:lo≤w-1
      ·exact q2
      ·exact absurd (q.symm.trans (hlo (w-1) (by omega))) h
     refine ih (w-1) (by omega) hw (by omega) fun v v1 v2=>?_
     by_cases e:v=w-1
     ·rw [e];exact q
     ·exact h4 v (by omega) v2
    ·exact ⟨w,h3,h4,q⟩
 have right:∀ (n:Nat) (w:Int),hi-w≤n→z<w→w≤hi→(∀ v,z≤v→v<w→s v=s z)→∃ b,z<b∧(∀ v,z≤v→v<b→s v=s z)∧s b≠s z:=by
  intro n
  induction n with
  | zero =>
    intro w h1 h2 h3 h4
    refine ⟨w,h2,h4, ?_⟩
    rw [hhi w (by omega)];exact fun e=>h e.symm
  | succ n ih =>
    intro w h1 h2 h3 h4
    by_cases q:s w=s z
    ·have hw:w<hi:=by
      by_cases q2:w<hi
      ·exact q2
      ·exact absurd (q.symm.trans (hhi w (by omega))) h
     refine ih (w+1) (by omega) (by omega) (by omega) fun v v1 v2=>?_
     by_cases e:v=w
     ·rw [e];exact q
     ·exact h4 v v1 (by omega)
    ·exact ⟨w,h2,h4,q⟩
 obtain ⟨a,a1,a2,a3⟩:=left (z-lo).toNat z (by omega) hzl (Int.le_refl z) fun v v1 v2=>by rw [show v=z by omega]
 obtain ⟨b,b1,b2,b3⟩:=right (hi-(z+1)).toNat (z+1) (by omega) (by omega) (by omega) fun v v1 v2=>by rw [show v=z by omega]
 have ea:s a=s z:=a2 a (Int.le_refl a) a1
 refine ⟨a,b,⟨by omega,by rw [ea];exact h,fun v v1 v2=>?_,by rw [ea];exact a3,by rw [ea];exact b3⟩,a1,b1⟩
 rw [ea]
 by_cases q:v≤z
 ·exact a2 v v1 q
 ·exact b2 v (by omega) v2
section
variable {R:List (List aS)} {xs ys:List Int} (hL:Lay R xs ys)
include hL
theorem Zu (P:Option Nat→Bool) (hP:P none=false) (y:Int):∀ (k:Nat) (x:Int),xs[k]?=some x→P (lK R x y)=true→∃ x' ∈ xs,P (lK R x' y)=true∧P (lK R (x'-1) y)=false
 | 0,x,hx,h=>by
   refine ⟨x,List.mem_of_getElem? hx,h, ?_⟩
   rw [(Nw hL).1 x hx (x-1) y (by omega),hP]
 | k+1,x,hx,h=>by
   have hk:=bG hx
   have hx0:xs[k]?=some (xs[k]'(by omega)):=List.getElem?_eq_getElem (by omega)
   obtain ⟨h1,h2⟩:=xF (Yi hL) hx0 hx
   by_cases q:P (lK R (x-1) y)=true
   ·have e:lK R (x-1) y=lK R (xs[k]'(by omega)) y:=congrFun (h2 (x-1) (by omega) (by omega)) y
    rw [e] at q
    exact Zu P hP y k _ hx0 q
   ·exact ⟨x,List.mem_of_getElem? hx,h,by simpa using q⟩
theorem TF (x:Int):nR (vS R x) (mB (vS R x)):=by
 have hA:=OO hL x
 obtain ⟨L,_,g2,_⟩:=JR hA (side:=fun z=>some (eJ R x z,eJ R (x-1) z)) (fun i y _ _=>rfl) (line:=fun a b=>some ⟨x,a,x,b⟩) (ln:=fun a b=>⟨x,a,x,b⟩) (fun a b=>rfl)
 have g2':nR (vS R x) L:=g2
 rw [Kf g2'];exact g2'
theorem TN (x:Int) {z:Int} (h:vS R x z≠0):∃ lo hi,(∀ w,w<lo→vS R x w=0)∧∀ w,hi≤w→vS R x w=0:=by
 have hA:=OO hL x
 have z0:∀ w,(eJ R x w=none∧eJ R (x-1) w=none)→vS R x w=0:=fun w hw=>by
  unfold vS;rw [hw.1,hw.2];rfl
 cases hys:ys[0]? with
 | none =>
   have:ys=[]:=by
    cases ys with
    | nil=>rfl
    | cons a t=>simp at hys
   exact absurd (z0 z (hA.emp this z)) h
 | some y0 =>
   have hlen:=bG hys
   have hl:ys[ys.length-1]?=some (ys[ys.length-1]'(by omega)):=List.getElem?_eq_getElem (by omega)
   exact ⟨y0,_,fun w hw=>z0 w (hA.low y0 hys w hw),fun w hw=>z0 w (hA.high _ hl w hw)⟩
theorem CL (U:Nat→Bool) {k p:Nat} {x y:Int} (hx:xs[k]?=some x) (hp:lK R x y=some p) (hU:U p=true) :
  ∃ e ∈ Fj R xs ys,∃ i:Nat,U i=true∧i<R.length∧ofB e (i:Int)=true∧((e.A=(i:Int)∧e.B=-1)∨∃ j:Nat,j<R.length∧U j=false∧ofB e (j:Int)=true∧e.A+e.B-(i:Int)=(j:Int)∧0≤e.B):=by
 obtain ⟨x',hx',c1,c2⟩:=Zu hL (fun o=>match o with | some i=>U i | none=>false) rfl y k x hx (by rw [hp];exact hU)
 obtain ⟨i,hi⟩:∃ i,lK R x' y=some i:=by
  cases e:lK R x' y with
  | none=>rw [e] at c1;cases c1
  | some i=>exact ⟨i,rfl⟩
 rw [hi] at c1
 have c1':U i=true:=c1
 have la:eJ R x' y=some (i:Int):=by unfold eJ Ge;rw [hi];rfl
 have hne:eJ R x' y≠eJ R (x'-1) y:=fun e=>by
  rw [la] at e
  unfold eJ Ge at e
  cases e2:lK R (x'-1) y with
  | none=>rw [e2] at e;cases e
  | some j =>
    rw [e2] at e c2
    have e3:(i:Int)=(j:Int):=Option.some.inj e
    have e4:i=j:=by omega
    subst e4
    have c2':U i=false:=c2
    rw [c1'] at c2';cases c2'
 have hs:vS R x' y≠0:=fun e=>hne ((Gi (lD hL.m _ _) (lD hL.m _ _)).1 e)
 obtain ⟨lo,hi',z1,z2⟩:=TN hL x' hs
 obtain ⟨a,b,hr,ha,hb⟩:=IM z1 z2 hs
 have hmem:=((TF hL x').2 a b).2 hr
 have hsa:vS R x' y=vS R x' a:=hr.2.2.1 y ha hb
 obtain ⟨e1,e2⟩:=EM (lD hL.m _ _) (lD hL.m _ _) (lD hL.m _ _) (lD hL.m _ _) hs hsa
 refine ⟨mkE ⟨x',a,x',b⟩ (eJ R x' a) (eJ R (x'-1) a), ?_,i,c1',Rq hi, ?_⟩
 ·unfold Fj
  refine List.mem_append.2 (.inr (List.mem_flatMap.2 ⟨x',hx', ?_⟩))
  exact List.mem_map.2 ⟨(a,b),hmem,rfl⟩
 ·rw [← e1,← e2,la]
  cases e3:lK R (x'-1) y with
  | none =>
    rw [nU e3]
    unfold mkE ofB
    have h0:¬ ((i:Int)<0∨((-1:Int) ≥ 0∧(-1:Int)<(i:Int))):=by omega
    simp only [h0,if_false]
    exact ⟨by simp,.inl ⟨trivial,trivial⟩⟩
  | some j =>
    have lb:eJ R (x'-1) y=some (j:Int):=by unfold eJ Ge;rw [e3];rfl
    rw [lb]
    rw [e3] at c2
    have c2':U j=false:=c2
    unfold mkE ofB
    simp only
    by_cases q:j<i
    ·have h0:((i:Int)<0∨((j:Int) ≥ 0∧(j:Int)<(i:Int))):=by omega
     rw [if_pos h0]
     exact ⟨by simp,.inr ⟨j,Rq e3,c2',by simp,by show (j:Int)+(i:Int)-(i:Int)=j;omega,by show (0:Int)≤(i:Int);omega⟩⟩
    ·have h0:¬ ((i:Int)<0∨((j:Int) ≥ 0∧(j:Int)<(i:Int))):=by omega
     rw [if_neg h0]
     exact ⟨by simp,.inr ⟨j,Rq e3,c2',by simp,by show (i:Int)+(j:Int)-(i:Int)=j;omega,by show (0:Int)≤(j:Int);omega⟩⟩
end
end Go.SM
namespace Go.SM
open Go Go.VI
structure PF (x:aV):Prop where
 n0:0<x.aD.length
 n2:x.bO.length≤12
 v:∀ r ∈ x.bO,vR r∧r.W≠1∧r.H≠1
theorem UC {x:aV} (k0:0<x.aD.length) (k2:x.bO.length≤12) (v2:(x.bO.any fun x=>!decide (vR x))=false) (v4:(List.range (x.bO++x.Forms).length).any (Eh x (x.bO++x.Forms))=false):PF x:=by
 refine ⟨k0,k2,fun r hr=>?_⟩
 have h1:=List.any_eq_false.1 v2 r hr
 have h1':vR r:=by simpa using h1
 obtain ⟨k,hk⟩:=List.mem_iff_getElem?.1 hr
 have hkl:k<x.bO.length:=(List.getElem?_eq_some_iff.1 hk).1
 have hk2:(x.bO++x.Forms)[k]?=some r:=by rw [List.getElem?_append_left hkl];exact hk
 have h2:=List.any_eq_false.1 v4 k (List.mem_range.2 (by simp;omega))
 unfold Eh at h2
 rw [hk2] at h2
 have hd:decide ((k:Int)<(x.bO.length:Int))=true:=by simp [hkl]
 simp only [hd,Bool.true_and,Bool.or_eq_true,beq_iff_eq,not_or] at h2
 exact ⟨h1',h2.2.1,h2.2.2⟩
theorem Mt (x:aV):∃ b,dV x=some b∧bX x=some b∧(b=0→PF x):=by
 obtain ⟨a,ha,ha'⟩:=pT x.Name
 obtain ⟨b,hb,hb'⟩:=pT x.cH
 unfold dV bX
 rw [ha,hb,Ur ha' hb']
 cases a with
 | false=>exact ⟨2,rfl,rfl,fun h=>absurd h (by decide)⟩
 | true =>
 cases b with
 | false=>exact ⟨2,rfl,rfl,fun h=>absurd h (by decide)⟩
 | true =>
 simp only [Option.bind_some,Hm,Bool.and_self,if_true,Bool.not_true,Bool.false_eq_true,if_false]
 by_cases h1:(1≤x.gU∧x.gU≤60)∧0≤x.gV∧x.gV≤2
 ·simp only [h1,and_self,decide_true,if_true,Option.bind_some,Bool.not_true,Bool.false_eq_true,if_false,bne_self_eq_false]
  by_cases l1:(x.aD.length:Int)>12
  ·exact ⟨4,by simp [l1],by simp [l1],fun h=>absurd h (by decide)⟩
  by_cases l2:(x.bO.length:Int)>12
  ·exact ⟨4,by simp [l2],by simp [l2],fun h=>absurd h (by decide)⟩
  by_cases l3:(x.Forms.length:Int)>12
  ·exact ⟨4,by simp [l3],by simp [l3],fun h=>absurd h (by decide)⟩
  have k1:x.aD.length≤12:=by omega
  have k2:x.bO.length≤12:=by omega
  have k3:x.Forms.length≤12:=by omega
  simp only [l1,l2,l3,decide_false,Bool.false_eq_true,if_false,Option.bind_some]
  by_cases h0:(x.aD.length:Int)=0
  ·exact ⟨1,by simp [h0],by simp [h0],fun h=>absurd h (by decide)⟩
  have h0':((x.aD.length:Int)==0)=false:=by rw [beq_eq_false_iff_ne];exact h0
  simp only [h0',Bool.false_eq_true,if_false,vP x.aD (by omega),vP x.bO (by omega),vP x.Forms (by omega),vT x.aD (by omega),vT x.bO (by omega),vT x.Forms (by omega),Option.bind_some]
  cases v1:(x.aD.any fun x=>!decide (vR x)) with
  | true=>exact ⟨1,rfl,rfl,fun h=>absurd h (by decide)⟩
  | false =>
  cases v2:(x.bO.any fun x=>!decide (vR x)) with
  | true=>exact ⟨1,rfl,rfl,fun h=>absurd h (by decide)⟩
  | false =>
  cases v3:(x.Forms.any fun x=>!decide (vR x)) with
  | true=>exact ⟨1,rfl,rfl,fun h=>absurd h (by decide)⟩
  | false =>
  have hr:x.aD[0]?=some (x.aD[0]'(by omega)):=by simp [show 0<x.aD.length by omega]
  have i0:idx x.aD 0=some (x.aD[0]'(by omega)):=aQ (k:=0) hr
  obtain ⟨cn,c1,c2⟩:=Jq (l:=x.aD) (by omega) (by omega)
  have ap1:app [] x.bO=some x.bO:=by rw [lA (by unfold LIM;simp;omega)];rfl
  have ap2:app x.bO x.Forms=some (x.bO++x.Forms):=lA (by unfold LIM;omega)
  have k4:(x.bO++x.Forms).length≤1000:=by simp;omega
  simp only [Bool.not_false,Bool.not_true,if_true,Bool.false_eq_true,if_false,Option.bind_some,i0,Tu x (by omega),AU x (by omega) hr,ov3 x (by omega),UK x (by omega),c1,c2]
  generalize x.aD[0]'(by omega)=r0 at hr i0 ⊢
  by_cases m1:Ip x.aD r0.X=0
  ·by_cases m2:Iq x.aD r0.Y=0
   ·simp only [m1,m2,bne_self_eq_false,Bool.false_eq_true,if_false,Option.bind_some]
    cases (List.range x.aD.length).any (Jj qU x.aD) with
    | true=>exact ⟨7,rfl,rfl,fun h=>absurd h (by decide)⟩
    | false =>
    cases cn with
    | false=>exact ⟨6,rfl,rfl,fun h=>absurd h (by decide)⟩
    | true =>
    simp only [Bool.not_true,Bool.false_eq_true,if_false,Option.bind_some]
    unfold Ex
    simp only [ap1,ap2,Option.bind_some,Wk x _ k4 (show x.aD.length≤1000 by omega),Ui x _ k4 (show x.aD.length≤1000 by omega),in3 _ k4,UE _ k4]
    cases v4:(List.range (x.bO++x.Forms).length).any (Eh x (x.bO++x.Forms)) with
    | true=>exact ⟨13,rfl,rfl,fun h=>absurd h (by decide)⟩
    | false =>
    cases (List.range (x.bO++x.Forms).length).any (Jj Qt (x.bO++x.Forms)) with
    | true=>exact ⟨7,rfl,rfl,fun h=>absurd h (by decide)⟩
    | false=>exact ⟨0,rfl,rfl,fun _=>UC (by omega) k2 v2 v4⟩
   ·have m2':(Iq x.aD r0.Y != 0)=true:=by rw [bne_iff_ne];exact m2
    simp only [m1,m2',bne_self_eq_false,Bool.false_eq_true,if_false,Option.bind_some,if_true]
    exact ⟨1,rfl,rfl,fun h=>absurd h (by decide)⟩
  ·have m1':(Ip x.aD r0.X != 0)=true:=by rw [bne_iff_ne];exact m1
   simp only [m1',Option.bind_some,if_true]
   exact ⟨1,rfl,rfl,fun h=>absurd h (by decide)⟩
 ·exact ⟨1,by simp only [h1,decide_false];rfl,by simp only [h1,if_false];rfl,fun h=>absurd h (by decide)⟩
theorem Pb {x:aV} (hs:Sm x) (h:kJ x=some 0):0<x.aD.length∧x.bO.length≤12∧∀ c ∈ x.bO,(-4194304≤c.X∧c.X≤4194304∧-4194304≤c.Y∧c.Y≤4194304)∧(2≤c.W∧c.W≤2097152)∧2≤c.H∧c.H≤2097152:=by
 obtain ⟨⟨s1,t1⟩,⟨s2,t2⟩,s3,t3⟩:=hs
 unfold kJ at h
 cases hl:aK (nA x) 0 with
 | none=>rw [hl] at h;cases h
 | some v =>
   rw [hl] at h
   cases v with
   | inl _=>exact absurd (Option.some.inj h) (by decide)
   | inr _ =>
     simp only [Option.bind_some] at h
     by_cases h0:(x.aD.length:Int)=0
     ·have h0':((x.aD.length:Int)==0)=true:=by rw [beq_iff_eq];exact h0
      rw [h0',if_pos rfl] at h
      obtain ⟨b,p1,_,p3⟩:=Mt x
      rw [p1] at h
      have hb:b=0:=Option.some.inj h
      have:=(p3 hb).n0
      omega
     ·have h0':((x.aD.length:Int)==0)=false:=by rw [beq_eq_false_iff_ne];exact h0
      have hr:x.aD[0]?=some (x.aD[0]'(by omega)):=List.getElem?_eq_getElem (by omega)
      have i0:idx x.aD 0=some (x.aD[0]'(by omega)):=aQ (k:=0) hr
      rw [h0',if_neg (by decide),i0] at h
      simp only [Option.bind_some,Ox x s1,back_eq s1,back_eq s2,back_eq s3] at h
      obtain ⟨b,p1,_,p3⟩:=Mt (aV.mk x.Name x.cH x.gU x.gV (x.aD.map (bkR (Ip x.aD (x.aD[0]'(by omega)).X) (Iq x.aD (x.aD[0]'(by omega)).Y))) (x.bO.map (bkR (Ip x.aD (x.aD[0]'(by omega)).X) (Iq x.aD (x.aD[0]'(by omega)).Y))) (x.Forms.map (bkR (Ip x.aD (x.aD[0]'(by omega)).X) (Iq x.aD (x.aD[0]'(by omega)).Y))))
      rw [p1] at h
      have hb:b=0:=Option.some.inj h
      obtain ⟨q0,q2,qv⟩:=p3 hb
      refine ⟨by omega,by simpa using q2,fun c hc=>?_⟩
      obtain ⟨w1,w2,w3⟩:=qv _ (List.mem_map.2 ⟨c,hc,rfl⟩)
      unfold bkR at w1 w2 w3
      by_cases far:c.X < -4194304∨c.X>4194304∨c.Y < -4194304∨c.Y>4194304
      ·rw [if_pos far] at w1
       have:=w1.2.2.1
       exact absurd this (by show ¬ (0:Int)<0;omega)
      ·rw [if_neg far] at w1 w2 w3
       obtain ⟨a1,a2,a3,a4,a5,a6⟩:=w1
       simp only at a1 a2 a3 a4 a5 a6 w2 w3
       exact ⟨by omega,by omega,by omega⟩
end Go.SM
namespace Go.SM
open Go Go.VI Go.Cells
theorem LW {r r':aS} (h1:vR r) (h2:vR r') {a b:Int} (c1:inC r a b=true) (c2:inC r' a b=true):qU r r'=true:=by
 unfold inC at c1 c2
 simp only [Bool.and_eq_true,decide_eq_true_eq] at c1 c2
 unfold qU
 rw [decide_eq_true_eq]
 unfold ovR
 refine ⟨h1,h2, ?_⟩
 omega
theorem FD {l:aT} (hl:LV l) {k:Nat} {y:aV} (hy:l.aB[k]?=some y) {a b:Int} (hc:cov y.aD a b=true):lK (eK l) a b=some k:=by
 have hk:=bG hy
 unfold lK
 rw [List.findIdx?_eq_some_iff_getElem]
 have hg:∀ j (hj:j<(eK l).length),(eK l)[j]=(l.aB[j]'(by simpa [eK] using hj)).aD:=fun j hj=>by simp [eK]
 refine ⟨by simpa [eK] using hk, ?_,fun j hj=>?_⟩
 ·rw [hg]
  have:l.aB[k]'hk=y:=by
   have:=List.getElem?_eq_getElem hk
   rw [hy] at this
   exact (Option.some.inj this).symm
  rw [this];exact hc
 ·rw [hg]
  intro hcj
  have hh:=hl.hit k hk
  unfold AL at hh
  rw [hy] at hh
  obtain ⟨r,hr,cr⟩:=My.1 hc
  obtain ⟨r',hr',cr'⟩:=My.1 hcj
  have hjm:(l.aB[j]'(by omega)) ∈ l.aB.take k:=List.mem_take_iff_getElem.2 ⟨j,by omega,rfl⟩
  have:=List.any_eq_false.1 hh _ hjm
  unfold Vi at this
  refine this (List.any_eq_true.2 ⟨r,hr,List.any_eq_true.2 ⟨r',hr',LW ?_ ?_ cr cr'⟩⟩)
  ·exact hl.hv y (List.mem_of_getElem? hy) r hr
  ·exact hl.hv _ (List.getElem_mem _) r' hr'
theorem RJ (c:Prop) [Decidable c] (s:cT) (q p:Int):(if c then (⟨s,q,p⟩:bC) else ⟨s,p,q⟩).Line=s:=by
 by_cases h:c
 ·rw [if_pos h]
 ·rw [if_neg h]
theorem Sy {R:List (List aS)} {xs ys:List Int} (hL:Lay R xs ys):∀ e ∈ Fj R xs ys,(e.Line.X1≤e.Line.X2∧e.Line.Y1≤e.Line.Y2)∧(eJ R e.Line.X1 e.Line.Y1≠eJ R (e.Line.X1-1) e.Line.Y1∨eJ R e.Line.X1 e.Line.Y1≠eJ R e.Line.X1 (e.Line.Y1-1)):=by
 have ln:∀ (s:cT) a b,(mkE s a b).Line=s:=fun s a b=>by
  unfold mkE
  exact RJ _ s _ _
 have rn:∀ {s:Int→Int} {p:Int×Int},p ∈ mB s→Mq s p.1 p.2:=fun {s p} hp=>by
  unfold mB at hp
  split at hp
  ·rename_i hx
   exact ((Classical.choose_spec hx).2 p.1 p.2).1 hp
  ·cases hp
 intro e he
 unfold Fj at he
 rw [List.mem_append,List.mem_flatMap,List.mem_flatMap] at he
 rcases he with ⟨y,_,h⟩ | ⟨x,_,h⟩
 ·obtain ⟨p,hp,rfl⟩:=List.mem_map.1 h
  have hr:=rn hp
  rw [ln]
  refine ⟨⟨Int.le_of_lt hr.1,Int.le_refl _⟩,.inr fun q=>hr.2.1 ?_⟩
  show cod (eJ R p.1 y) (eJ R p.1 (y-1))=0
  exact (Gi (lD hL.m _ _) (lD hL.m _ _)).2 q
 ·obtain ⟨p,hp,rfl⟩:=List.mem_map.1 h
  have hr:=rn hp
  rw [ln]
  refine ⟨⟨Int.le_refl _,Int.le_of_lt hr.1⟩,.inl fun q=>hr.2.1 ?_⟩
  show cod (eJ R x p.1) (eJ R (x-1) p.1)=0
  exact (Gi (lD hL.m _ _) (lD hL.m _ _)).2 q
theorem OA {l:List aS} {x y:Int} (h:sF l x y=true):∃ r ∈ l,vR r∧inC r x y=true:=by
 unfold sF at h
 obtain ⟨r,hr,hi⟩:=List.any_eq_true.1 h
 rw [decide_eq_true_eq] at hi
 obtain ⟨_,h2,h3,h4,h5,h6⟩:=hi
 simp only at h3 h4 h5 h6
 refine ⟨r,hr,h2, ?_⟩
 unfold inC
 simp only [Bool.and_eq_true,decide_eq_true_eq]
 omega
theorem GX {l:aT} (hl:LV l) {xs ys:List Int} (hL:Lay (eK l) xs ys) {e:bC} (he:e ∈ Fj (eK l) xs ys) :
  (0≤e.Line.X1∧e.Line.X1≤l.bF.fA∧0≤e.Line.Y1∧e.Line.Y1≤l.bF.cQ)∧eT l.bF.cC ⟨e.Line.X1,e.Line.Y1⟩=some false∧∀ y ∈ l.aB,eT y.aD ⟨e.Line.X1,e.Line.Y1⟩=some false:=by
 obtain ⟨_,hne⟩:=Sy hL e he
 generalize e.Line.X1=X at hne ⊢
 generalize e.Line.Y1=Y at hne ⊢
 have sl:=Ie hl.sh
 -- one of the two cells lies in a piece
 have cell:∀ (x y x' y':Int),eJ (eK l) x y≠eJ (eK l) x' y'→∃ (u v:Int) (k:Nat) (z:aV) (r:aS),((u=x∧v=y)∨(u=x'∧v=y'))∧l.aB[k]?=some z∧r ∈ z.aD∧inC r u v=true:=fun x y x' y' h=>by
  have one:∀ (u v:Int),lK (eK l) u v≠none→∃ (k:Nat) (z:aV) (r:aS),l.aB[k]?=some z∧r ∈ z.aD∧inC r u v=true:=fun u v hn=>by
   cases hk:lK (eK l) u v with
   | none=>exact absurd hk hn
   | some k =>
     unfold lK at hk
     obtain ⟨hi,h1,_⟩:=List.findIdx?_eq_some_iff_getElem.1 hk
     have hkl:k<l.aB.length:=by simpa [eK] using hi
     rw [show (eK l)[k]=(l.aB[k]).aD by simp [eK]] at h1
     obtain ⟨r,hr,hc⟩:=My.1 h1
     exact ⟨k,_,r,List.getElem?_eq_getElem hkl,hr,hc⟩
  by_cases q:lK (eK l) x y=none
  ·by_cases q':lK (eK l) x' y'=none
   ·exact absurd ((nU q).trans (nU q').symm) h
   ·obtain ⟨k,z,r,a,b,c⟩:=one x' y' q'
    exact ⟨x',y',k,z,r,.inr ⟨rfl,rfl⟩,a,b,c⟩
  ·obtain ⟨k,z,r,a,b,c⟩:=one x y q
   exact ⟨x,y,k,z,r,.inl ⟨rfl,rfl⟩,a,b,c⟩
 have main : ∀ (x' y':Int),((x'=X-1∧y'=Y)∨(x'=X∧y'=Y-1))→eJ (eK l) X Y≠eJ (eK l) x' y'→(0≤X∧X≤l.bF.fA∧0≤Y∧Y≤l.bF.cQ)∧(-4194304≤X∧X≤4194304∧-4194304≤Y∧Y≤4194304)∧(sF l.bF.cC X Y=false∨sF l.bF.cC x' y'=false)∧∀ y ∈ l.aB,sF y.aD X Y=false∨sF y.aD x' y'=false:=fun x' y' hxy h=>by
  obtain ⟨u,v,k,z,r,huv,hz,hr,hc⟩:=cell _ _ _ _ h
  obtain ⟨o1,o2,_⟩:=hl.off z (List.mem_of_getElem? hz) r hr
  have hc':=hc
  unfold inC at hc'
  simp only [Bool.and_eq_true,decide_eq_true_eq] at hc'
  obtain ⟨v1,v2,b1,b2,b3,b4⟩:=o1
  have v1':=v1
  obtain ⟨g1,g2,g3,g4,g5,g6⟩:=v1'
  simp only at b1 b2 b3 b4
  refine ⟨by rcases huv with ⟨rfl,rfl⟩ | ⟨rfl,rfl⟩ <;> rcases hxy with ⟨rfl,rfl⟩ | ⟨rfl,rfl⟩ <;> omega,by rcases huv with ⟨rfl,rfl⟩ | ⟨rfl,rfl⟩ <;> rcases hxy with ⟨rfl,rfl⟩ | ⟨rfl,rfl⟩ <;> omega, ?_,fun y hy=>?_⟩
  ·have no:sF l.bF.cC u v=false:=by
    cases q:sF l.bF.cC u v with
    | false=>rfl
    | true =>
      obtain ⟨c,hcm,hv,hi⟩:=OA q
      exact absurd (LW v1 hv hc hi) (List.any_eq_false.1 o2 c hcm)
   rcases huv with ⟨rfl,rfl⟩ | ⟨rfl,rfl⟩
   ·exact .inl no
   ·exact .inr no
  ·cases q:sF y.aD X Y with
   | false=>exact .inl rfl
   | true =>
     right
     cases q2:sF y.aD x' y' with
     | false=>rfl
     | true =>
       exfalso
       obtain ⟨j,hj⟩:=List.mem_iff_getElem?.1 hy
       have cv:∀ {a b:Int},sF y.aD a b=true→lK (eK l) a b=some j:=fun {a b} hq=>by
        obtain ⟨c,hcm,_,hi⟩:=OA hq
        exact FD hl hj (My.2 ⟨c,hcm,hi⟩)
       apply h
       unfold eJ
       rw [cv q,cv q2]
 have fin:∀ (x' y':Int),((x'=X-1∧y'=Y)∨(x'=X∧y'=Y-1))→eJ (eK l) X Y≠eJ (eK l) x' y'→(0≤X∧X≤l.bF.fA∧0≤Y∧Y≤l.bF.cQ)∧eT l.bF.cC ⟨X,Y⟩=some false∧∀ y ∈ l.aB,eT y.aD ⟨X,Y⟩=some false:=fun x' y' hxy h=>by
  obtain ⟨m1,m2,m3,m4⟩:=main x' y' hxy h
  have go:∀ L:List aS,L.length≤1000→(sF L X Y=false∨sF L x' y'=false)→eT L ⟨X,Y⟩=some false:=fun L hLl hq=>by
   rw [AQ L ⟨X,Y⟩ (by omega) m2]
   simp only
   rcases hq with hq | hq
   ·rw [hq];simp
   ·rcases hxy with ⟨rfl,rfl⟩ | ⟨rfl,rfl⟩ <;> rw [hq] <;> simp
  refine ⟨m1,go _ (by omega) m3,fun y hy=>go _ (by have:=hl.r12 y hy;omega) (m4 y hy)⟩
 rcases hne with h | h
 ·exact fin _ _ (.inl ⟨rfl,rfl⟩) h
 ·exact fin _ _ (.inr ⟨rfl,rfl⟩) h
end Go.SM
namespace Go.SM
open Go Go.VI
end Go.SM
namespace Go.SM
open Go Go.VI Go.Cells
section
variable {l:aT} (n8:l.aB.length≤8) {es:List bC} {items:List bU} (h128:items.length≤128)
include n8 h128
end
def TY (e:bC):Int:=aJ (aL (aJ e.Line.X2 e.Line.X1) e.Line.Y2) e.Line.Y1
def UR (r:aS):Int:=lB 2 (aL r.W r.H)
def HW (es:List bC) (i:Nat):Int:=match es[i]? with
 | some e=>TY e
 | none=>0
def GY (x:aV) (h:Nat):Int:=match x.bO[h]? with
 | some r=>UR r
 | none=>0
def AM (l:aT) (p:Nat):Int:=match l.aB[p]? with
 | some x=>Lg (GY x) x.bO.length
 | none=>0
def Xn (l:aT) (es:List bC):Int:=Lg (HW es) es.length+Lg (AM l) l.aB.length
theorem GZ {l:aT} (n8:l.aB.length≤8) (hc:∀ x ∈ l.aB,x.bO.length≤1048576) {es:List bC} (hes:es.length≤200000):(aK (tW es) (0,0)).bind (fun a=>aK (wF l) (a,0))=some (wr (Xn l es)):=by
 rw [Cr (n:=es.length) (HW es) (tW es) (fun k acc hk ha=>?_) (fun acc=>by simp [tW]) GB]
 ·simp only [Option.bind_some]
  rw [Cr (n:=l.aB.length) (AM l) (wF l) (fun k acc hk ha=>?_) (fun acc=>by simp [wF]) (OJ _),Za,Int.zero_add]
  ·rfl
  ·have hx:l.aB[k]?=some l.aB[k]:=List.getElem?_eq_getElem hk
   have hcl:=hc _ (List.mem_of_getElem? hx)
   generalize l.aB[k]=x at hx hcl
   have hin:aK (Ag x) (acc,0)=some (wr (acc+Lg (GY x) x.bO.length)):=by
    refine Cr _ _ (fun j a hj _=>?_) (fun a=>by simp [Ag]) ha
    have hr:x.bO[j]?=some x.bO[j]:=List.getElem?_eq_getElem hj
    unfold Ag GY
    have hd:decide ((j:Int)<(x.bO.length:Int))=true:=by simp [hj]
    simp only [hd,if_true,aQ hr,hr,Option.bind_some,bH j (show (j:Int)<9223372036854775807 by omega)]
    rfl
   unfold wF AM
   have hd:decide ((k:Int)<(l.aB.length:Int))=true:=by simp [hk]
   simp only [hd,if_true,aQ hx,hx,Option.bind_some,hin,bH k (show (k:Int)<9223372036854775807 by omega)]
 ·have hx:es[k]?=some es[k]:=List.getElem?_eq_getElem hk
  unfold tW HW
  have hd:decide ((k:Int)<(es.length:Int))=true:=by simp [hk]
  simp only [hd,if_true,aQ hx,hx,Option.bind_some,bH k (show (k:Int)<9223372036854775807 by omega)]
  rfl
def hM (l:aT) (H:List (List Bool)) (p:Nat):Int:=match l.aB[p]? with
 | some x=>Lg (fun h=>if (H.getD p []).getD h false then GY x h else 0) x.bO.length
 | none=>0
theorem Gv {α:Type} (n i:Nat) (z:α):(List.replicate n z).getD i z=z:=by
 rw [List.getD_eq_getElem?_getD,List.getElem?_replicate]
 split <;> rfl
theorem Ju {α:Type} (L:List α) (i j:Nat) (v z:α) (hi:i<L.length):(L.set i v).getD j z=if j=i then v else L.getD j z:=by
 rw [List.getD_eq_getElem?_getD,List.getElem?_set]
 by_cases e:i=j
 ·subst e;simp [hi]
 ·rw [if_neg e,if_neg fun h=>e h.symm,List.getD_eq_getElem?_getD]
theorem Wv {n:Nat} (q:Nat→Bool) (c:List Bool) {i:Nat} (hi:i<n):(mark n q c).getD i false=(q i || c.getD i false):=mD (Di q hi)
end Go.SM
namespace Go.SM
open Go Go.VI
def Im (e:bC) (a_0:Int) (a2_0:(List Bool)):Option (Bool):=
 ((Js e a_0).bind fun r4=>if r4 then (if (decide (e.B<0)) then (some true) else ((idx a2_0 (aJ (aL e.A e.B) a_0)).bind fun x5=>some x5)) else (some false)).bind fun j3=>some j3
def cP (s0:(List bC)) (f_0_0:Int) (f_1_0:(List Bool)):Int→Option (Int ⊕ (Int ⊕ Unit)):=fun a0 =>
 if (decide (a0<(s0.length:Int))) then ((idx s0 a0).bind fun a2=>(Im a2 f_0_0 f_1_0).bind fun a1=>if a1 then (some (.inr (.inl a0))) else (some (.inl (aL a0 1)))) else (some (.inr (.inr (()))))
def eZ (s0:(List bC)) (f_0_0:Int) (f_1_0:(List Bool)):Option (Int):=
 (aK (cP s0 f_0_0 f_1_0) 0).bind fun a1=>match a1 with | .inl a0=>some a0 | .inr a2=>some (-1)
def cO (s0:(List bC)) (f_0_0:Int) (f_1_0:(List Bool)):Option (Bool):=
 (eZ s0 f_0_0 f_1_0).bind fun r2=>some (decide (r2 ≥ 0))
def fL:Int×Int×(List Int)→Option (Int×Int×(List Int) ⊕ (List Int)):=fun a0 =>
 if (decide (a0.1<a0.2.1)) then ((idx a0.2.2 a0.2.1).bind fun a1=>(idx a0.2.2 a0.1).bind fun a2=>(idx a0.2.2 a0.1).bind fun a3=>(idx (List.set a0.2.2 (Int.toNat a0.1) a1) a0.2.1).bind fun a4=>some (.inl ((aL a0.1 1),(aJ a0.2.1 1),(List.set (List.set a0.2.2 (Int.toNat a0.1) a1) (Int.toNat a0.2.1) a2)))) else (some (.inr a0.2.2))
def nJ (h0:(List Int)):Option ((List Int)):=
 (aK (fL) (0,(aJ (h0.length:Int) 1),h0)).bind fun a0=>some a0
def xI (a1:Bool×(List Int)×(List Bool)×Int):(Bool×(List Int)×(List Bool))→Option ((Bool×(List Int)×(List Bool)×Int) ⊕ (Bool×(List Int)×(List Bool))):=fun a0 =>
 some (.inl (a0.1,a0.2.1,a0.2.2,(aJ a1.2.2.2 1)))
def Bb (all:(List bC)):(Bool×(List Int)×(List Bool)×Int)→Option ((Bool×(List Int)×(List Bool)×Int) ⊕ (Bool×(List Int)×(List Bool))):=fun a0 =>
 (if (decide (a0.2.2.2 ≥ 0)) then (some (!a0.1)) else (some false)).bind fun a1=>if a1 then (((idx a0.2.2.1 a0.2.2.2).bind fun a5=>if a5 then (some false) else ((cO all a0.2.2.2 a0.2.2.1).bind fun a4=>some a4)).bind fun a2=>if a2 then ((idx a0.2.2.1 a0.2.2.2).bind fun a6=>(app a0.2.1 [a0.2.2.2]).bind fun a3=>xI a0 (true,a3,(List.set a0.2.2.1 (Int.toNat a0.2.2.2) true))) else (xI a0 (a0.1,a0.2.1,a0.2.2.1))) else (some (.inr (a0.1,a0.2.1,a0.2.2.1)))
def Bc (n:Int) (all:(List bC)):((List Int)×(List Bool))→Option (((List Int)×(List Bool)) ⊕ Unit ⊕ (List Int)):=fun a0 =>
 if (decide ((a0.1.length:Int)<n)) then ((aK (Bb all) (false,a0.1,a0.2,(aJ n 1))).bind fun a1=>if (!a1.1) then (some (.inr (.inl ()))) else (some (.inl (a1.2.1,a1.2.2)))) else (some (.inr (.inr a0.1)))
def Nh (n:Int) (all:(List bC)):Option ((List Int)):=
 (mk n false).bind fun l2=>(aK (Bc n all) ([],l2)).bind fun a2=>match a2 with | .inl a3=>some [] | .inr a0=>(nJ a0).bind fun a1=>some a1
def Aw (a4:Int×(List bU)) (a2:aV):Int×(List bU)→Option (Int×(List bU) ⊕ (List bU)):=fun a0 =>
 if (decide (a0.1<(a2.bO.length:Int))) then ((idx a2.bO a0.1).bind fun a1=>(app a0.2 [(bU.mk a4.1 a0.1 0 (Ar.mk (aL a1.X (rO a1.W 2)) (aL a1.Y (rO a1.H 2))))]).bind fun a3=>some (.inl ((aL a0.1 1),a3))) else (some (.inr a0.2))
def Ax (l:aT):Int×(List bU)→Option (Int×(List bU) ⊕ (List bU)):=fun a0 =>
 if (decide (a0.1<(l.aB.length:Int))) then ((idx l.aB a0.1).bind fun a1=>(aK (Aw a0 a1) (0,a0.2)).bind fun a2=>some (.inl ((aL a0.1 1),a2))) else (some (.inr a0.2))
def Ei (a1:Bool×Int×(List Bool)×Int×Int):(Bool×(List Bool)×Int×Int)→Option ((Bool×Int×(List Bool)×Int×Int) ⊕ ((List Bool)×Int×Int)):=fun a0 =>
 some (.inl (a0.1,(aL a1.2.1 1),a0.2.1,a0.2.2.1,a0.2.2.2))
def Ej (a0:Bool×Int×(List Bool)×Int×Int):(Bool×Int×Int)→Option ((Bool×Int×(List Bool)×Int×Int) ⊕ ((List Bool)×Int×Int)):=fun a1 =>
 (idx a0.2.2.1 a0.2.1).bind fun a2=>Ei a0 (a1.1,(List.set a0.2.2.1 (Int.toNat a0.2.1) true),a1.2.1,a1.2.2)
def Ay (r2:(List bC)×Int) (a4:Int):(Bool×Int×(List Bool)×Int×Int)→Option ((Bool×Int×(List Bool)×Int×Int) ⊕ ((List Bool)×Int×Int)):=fun a0 =>
 if (decide (a0.2.1<(r2.1.length:Int))) then ((idx r2.1 a0.2.1).bind fun a1=>((Js a1 a4).bind fun a3=>if a3 then ((idx a0.2.2.1 a0.2.1).bind fun a5=>some (!a5)) else (some false)).bind fun a2=>if a2 then (if (!a0.1) then (Ej a0 (true,a1.Line.X1,a1.Line.Y1)) else (Ej a0 (a0.1,a0.2.2.2.1,a0.2.2.2.2))) else (Ei a0 (a0.1,a0.2.2.1,a0.2.2.2.1,a0.2.2.2.2))) else (some (.inr (a0.2.2.1,a0.2.2.2.1,a0.2.2.2.2)))
def Av (r2:(List bC)×Int) (a0:Int×(List bU)×(List Bool)) (a2:Int):Int→Option ((Int×(List bU)×(List Bool)) ⊕ (List bU)):=fun a3 =>
 (aK (Ay r2 a2) (false,0,a0.2.2,0,0)).bind fun a1=>(app a0.2.1 [(bU.mk a2 (-1) a3 (Ar.mk a1.2.1 a1.2.2))]).bind fun a4=>some (.inl ((aL a0.1 1),a4,a1.1))
def Az (l:aT) (r2:(List bC)×Int) (a3:(List Int)):(Int×(List bU)×(List Bool))→Option ((Int×(List bU)×(List Bool)) ⊕ (List bU)):=fun a0 =>
 if (decide (a0.1<(a3.length:Int))) then ((idx a3 a0.1).bind fun a1=>(idx l.aB a1).bind fun a4=>(yU a4).bind fun a2=>if a2 then (Av r2 a0 a1 1) else (Av r2 a0 a1 0)) else (some (.inr a0.2.1))
def Gj (l:aT):Option ((List bU)×Int):=
 (oK l).bind fun r2=>if (r2.2 != 0) then (some ([],r2.2)) else ((aK (Ax l) (0,[])).bind fun a3=>(Nh (l.aB.length:Int) r2.1).bind fun a1=>(xJ l (r2.1.length:Int)).bind fun a2=>(aK (Az l r2 a1) (0,a3,a2.Cut)).bind fun a0=>some (a0,0))
def mR (l:aT) (a1:Int×Int):(Int×Int)→Option ((Int×Int) ⊕ Int):=fun a0 =>
 (idx l.aB a1.2).bind fun a2=>if (decide (a0.2<(a2.bO.length:Int))) then ((idx l.aB a1.2).bind fun a3=>(idx a3.bO a0.2).bind fun a4=>(idx l.aB a1.2).bind fun a5=>(idx a5.bO a0.2).bind fun a6=>some (.inl ((aL a0.1 (lB 2 (aL a4.W a6.H))),(aL a0.2 1)))) else (some (.inr a0.1))
def mS (l:aT):(Int×Int)→Option ((Int×Int) ⊕ Int):=fun a0 =>
 if (decide (a0.2<(l.aB.length:Int))) then ((aK (mR l a0) (a0.1,0)).bind fun a1=>some (.inl (a1,(aL a0.2 1)))) else (some (.inr a0.1))
def mT (a1:(List bC)):(Int×Int)→Option ((Int×Int) ⊕ Int):=fun a0 =>
 if (decide (a0.2<(a1.length:Int))) then ((idx a1 a0.2).bind fun a3=>(vO a3.Line).bind fun a2=>some (.inl ((aL a0.1 a2),(aL a0.2 1)))) else (some (.inr a0.1))
def pO (l:aT):Option (Int):=
 (aK (mS l) (0,0)).bind fun a1=>(cZ l).bind fun a0=>(aK (mT a0) (a1,0)).bind fun a2=>some a2
def mH:Option (Bool):=
 (oK (aT.mk (bF.mk (ByteArray.mk #[115]) (ByteArray.mk #[115,116,101,101,108]) 10 0 57600 57600 [] []) [(aV.mk (ByteArray.mk #[97]) (ByteArray.mk #[115,116,101,101,108]) 10 0 [(aS.mk 0 0 14400 14400)] [] []),(aV.mk (ByteArray.mk #[98]) (ByteArray.mk #[115,116,101,101,108]) 10 0 [(aS.mk 14400 0 14400 14400)] [] [])])).bind fun r2=>(Vx (aT.mk (bF.mk (ByteArray.mk #[115]) (ByteArray.mk #[115,116,101,101,108]) 10 0 57600 57600 [] []) [(aV.mk (ByteArray.mk #[97]) (ByteArray.mk #[115,116,101,101,108]) 10 0 [(aS.mk 0 0 14400 14400)] [] []),(aV.mk (ByteArray.mk #[98]) (ByteArray.mk #[115,116,101,101,108]) 10 0 [(aS.mk 14400 0 14400 14400)] [] [])]) [(bU.mk 0 (-1) 0 (Ar.mk 0 0)),(bU.mk 1 (-1) 0 (Ar.mk 28800 0))]).bind fun r4=>if (r2.2==0) then (if ((r2.1.length:Int)==7) then (if (r4.2==0) then (if ((r4.1.length:Int)==2) then ((idx r4.1 0).bind fun x9=>(rS x9 [0]).bind fun a0=>if a0 then ((idx r4.1 1).bind fun a2=>(rS a2 [1]).bind fun a1=>some a1) else (none)) else (none)) else (none)) else (none)) else (none)
def rP (l:aT):Option (Bool):=
 (Gj l).bind fun r2=>if (r2.2 != 0) then (((dG l).bind fun a3=>if (r2.2==a3) then (if ((r2.1.length:Int)==0) then ((mH).bind fun a4=>some a4) else (some false)) else (some false)).bind fun a1=>some a1) else ((Ij l r2.1).bind fun a0=>((lR l r2.1).bind fun a5=>if (a5==0) then ((yT l r2.1).bind fun a6=>if (a6==0) then (if (a0.2==0) then ((pO l).bind fun a7=>if (a0.1==a7) then ((mH).bind fun a8=>some a8) else (some false)) else (some false)) else (some false)) else (some false)).bind fun a2=>some a2)
theorem Wp:mH=some true:=by kernel_rfl
end Go.SM
namespace Go.SM
open Go Go.VI Go.Cells
def EOk (n:Nat) (e:bC):Prop:=0≤e.A∧e.A<(n:Int)∧-1≤e.B∧e.B<(n:Int)
theorem SU {s:cT} {a b:Option Int} {n:Nat} (ha:∀ i,a=some i→0≤i∧i<(n:Int)) (hb:∀ i,b=some i→0≤i∧i<(n:Int)) (hne:a≠b):EOk n (mkE s a b):=by
 unfold EOk mkE
 cases a with
 | none =>
   cases b with
   | none=>exact absurd rfl hne
   | some j =>
     have:=hb j rfl
     simp only
     rw [if_pos (.inl (by omega))]
     simp only;omega
 | some i =>
   have:=ha i rfl
   cases b with
   | none =>
     simp only
     rw [if_neg (by omega)]
     simp only;omega
   | some j =>
     have:=hb j rfl
     simp only
     by_cases q:j<i
     ·rw [if_pos (by omega)];simp only;omega
     ·rw [if_neg (by omega)];simp only;omega
theorem Wb {R:List (List aS)} {xs ys:List Int} (hL:Lay R xs ys):∀ e ∈ Fj R xs ys,EOk R.length e:=by
 have key:∀ {s:Int→Int} {A B:Int→Option Int} (ln:Int→Int→cT) (_:s=fun z=>cod (A z) (B z)) (_:∀ z,SmO (A z)) (_:∀ z,SmO (B z)) (_:∀ z i,A z=some i→0≤i∧i<(R.length:Int)) (_:∀ z i,B z=some i→0≤i∧i<(R.length:Int)),∀ e ∈ (mB s).map (fun p=>mkE (ln p.1 p.2) (A p.1) (B p.1)),EOk R.length e:=fun {s A B} ln hs ha hb hA hB e he=>by
  obtain ⟨p,hp,rfl⟩:=List.mem_map.1 he
  have hr:s p.1≠0:=by
   unfold mB at hp
   split at hp
   ·rename_i hx
    exact (((Classical.choose_spec hx).2 p.1 p.2).1 hp).2.1
   ·cases hp
  have hne:A p.1≠B p.1:=fun q=>hr (by rw [hs];simp only;rw [(Gi (ha _) (hb _)).2 q])
  exact SU (hA _) (hB _) hne
 intro e he
 unfold Fj at he
 rw [List.mem_append,List.mem_flatMap,List.mem_flatMap] at he
 rcases he with ⟨y,_,h⟩ | ⟨x,_,h⟩
 ·exact key (fun a b=>⟨a,y,b,y⟩) (A:=fun z=>eJ R z y) (B:=fun z=>eJ R z (y-1)) rfl (fun z=>lD hL.m _ _) (fun z=>lD hL.m _ _) (fun z i h=>Rs h) (fun z i h=>Rs h) e h
 ·exact key (fun a b=>⟨x,a,x,b⟩) (A:=fun z=>eJ R x z) (B:=fun z=>eJ R (x-1) z) rfl (fun z=>lD hL.m _ _) (fun z=>lD hL.m _ _) (fun z i h=>Rs h) (fun z i h=>Rs h) e h
def Vh (taken:List Bool) (i:Nat) (e:bC):Bool:=ofB e (i:Int)&&(decide (e.B<0) || taken.getD (e.A+e.B-(i:Int)).toNat false)
def Xz (es:List bC) (taken:List Bool) (i:Nat):Bool:=es.any (Vh taken i)
theorem MV {n:Nat} (hn:n≤8) {e:bC} (he:EOk n e) {taken:List Bool} (ht:taken.length=n) {i:Nat} (hi:i<n):Im e (i:Int) taken=some (Vh taken i e):=by
 obtain ⟨h1,h2,h3,h4⟩:=he
 unfold Im Vh
 rw [of_eq]
 simp only [Option.bind_some]
 cases ho:ofB e (i:Int) with
 | false=>rfl
 | true =>
   simp only [if_true,Bool.true_and]
   by_cases hb:e.B<0
   ·simp [hb]
   ·have hs:0≤e.A+e.B-(i:Int)∧e.A+e.B-(i:Int)<(n:Int):=by
     unfold ofB at ho
     rw [Bool.or_eq_true,beq_iff_eq,beq_iff_eq] at ho
     omega
    obtain ⟨m,hm⟩:∃ m:Nat,e.A+e.B-(i:Int)=(m:Int):=⟨(e.A+e.B-(i:Int)).toNat,by omega⟩
    have hx:aJ (aL e.A e.B) (i:Int)=(m:Int):=by
     rw [aY (a:=e.A) (b:=e.B) (by omega) (by omega),bK (a:=e.A+e.B) (b:=(i:Int)) (by omega) (by omega),hm]
    have hg:taken[m]?=some (taken[m]'(by omega)):=List.getElem?_eq_getElem (by omega)
    simp only [hb,decide_false,Bool.false_eq_true,if_false,hx,aQ hg,Option.bind_some,hm,Int.toNat_natCast,mD hg,Bool.false_or]
theorem EW {n:Nat} (hn:n≤8) {es:List bC} (hes:es.length≤1000000) (he:∀ e ∈ es,EOk n e) {taken:List Bool} (ht:taken.length=n) {i:Nat} (hi:i<n):cO es (i:Int) taken=some (Xz es taken i):=by
 have key:aK (cP es (i:Int) taken) 0=some (match es.findIdx? (Vh taken i) with | some j=>(.inl (j:Int):Int ⊕ Unit) | none=>.inr ()):=by
  refine Ky es _ (Vh taken i) (fun j=>(.inl (j:Int):Int ⊕ Unit)) (.inr ()) (fun k e hk=>?_) ?_
  ·have hkl:=bG hk
   unfold cP
   have hd:decide ((k:Int)<(es.length:Int))=true:=by simp [hkl]
   simp only [hd,if_true,aQ hk,Option.bind_some,MV hn (he e (List.mem_of_getElem? hk)) ht hi,bH k (show (k:Int)<9223372036854775807 by omega)]
  ·simp [cP]
 unfold cO eZ Xz
 rw [key]
 simp only [Option.bind_some]
 cases hf:es.findIdx? (Vh taken i) with
 | some j =>
   obtain ⟨hj,h1,_⟩:=List.findIdx?_eq_some_iff_getElem.1 hf
   have:es.any (Vh taken i)=true:=List.any_eq_true.2 ⟨_,List.getElem_mem hj,h1⟩
   rw [this]
   simp
 | none =>
   have:es.any (Vh taken i)=false:=by
    rw [List.any_eq_false]
    intro e he
    have:=List.findIdx?_eq_none_iff.1 hf e he
    simp [this]
   rw [this]
   simp
theorem Uc {n:Nat} (hn:n≤8) {es:List bC} (hes:es.length≤1000000) (he:∀ e ∈ es,EOk n e) {taken:List Bool} (ht:taken.length=n) {T:List Int} (hT:T.length≤1000):∀ m:Nat,m≤n→(∃ j,j<m∧taken.getD j false=false∧Xz es taken j=true) →
  ∃ j,j<m∧taken.getD j false=false∧Xz es taken j=true∧aK (Bb es) (false,T,taken,(m:Int)-1)=some (true,T++[(j:Int)],taken.set j true)
 | 0,_,⟨j,h,_⟩=>by omega
 | m+1,hm,hj=>by
   have hg:taken[m]?=some (taken[m]'(by omega)):=List.getElem?_eq_getElem (by omega)
   have e1:((m+1:Nat):Int)-1=(m:Int):=by omega
   rw [e1]
   have hge:decide ((m:Int) ≥ 0)=true:=by simp
   have hsub:aJ (m:Int) 1=(m:Int)-1:=bK (a:=(m:Int)) (b:=1) (by omega) (by omega)
   by_cases hgood:taken.getD m false=false∧Xz es taken m=true
   ·refine ⟨m,by omega,hgood.1,hgood.2, ?_⟩
    have h1:=hgood.1
    rw [mD hg] at h1
    have hap:app T [(m:Int)]=some (T++[(m:Int)]):=lA (by unfold LIM;simp;omega)
    rw [gT (s':=(true,T++[(m:Int)],taken.set m true,(m:Int)-1))]
    ·refine eA ?_
     unfold Bb
     by_cases q:(m:Int)-1 ≥ 0
     ·simp [q]
     ·simp [q]
    ·unfold Bb
     simp only [hge,if_true,Option.bind_some,Bool.not_false,aQ hg,h1,Bool.false_eq_true,if_false,EW hn hes he ht (show m<n by omega),hgood.2,hap,xI,Int.toNat_natCast,hsub]
   ·obtain ⟨j,j1,j2,j3⟩:=hj
    have hjm:j<m:=by
     by_cases q:j=m
     ·subst q;exact absurd ⟨j2,j3⟩ hgood
     ·omega
    obtain ⟨i,i1,i2,i3,i4⟩:=Uc hn hes he ht hT m (by omega) ⟨j,hjm,j2,j3⟩
    refine ⟨i,by omega,i2,i3, ?_⟩
    rw [gT (s':=(false,T,taken,(m:Int)-1))]
    ·exact i4
    ·unfold Bb
     simp only [hge,if_true,Option.bind_some,Bool.not_false,aQ hg,EW hn hes he ht (show m<n by omega)]
     rw [mD hg] at hgood
     generalize taken[m]'(by omega)=b at hgood
     cases b with
     | true=>simp only [if_true,Option.bind_some,Bool.false_eq_true,if_false,xI,hsub]
     | false =>
       have:Xz es taken m=false:=by
        cases q:Xz es taken m with
        | false=>rfl
        | true=>exact absurd ⟨rfl,q⟩ hgood
       simp only [this,Bool.false_eq_true,if_false,Option.bind_some,xI,hsub]
def uK (n:Nat) (T:List Nat):List Bool:=(List.range n).map fun i=>decide (i ∈ T)
theorem Qr (n:Nat) (T:List Nat):(uK n T).length=n:=by simp [uK]
theorem Fa {n:Nat} (T:List Nat) {i:Nat} (hi:i<n):(uK n T).getD i false=decide (i ∈ T):=by
 refine mD ?_
 unfold uK;rw [List.getElem?_map,List.getElem?_range hi];rfl
theorem BZ {n:Nat} (T:List Nat) {j:Nat} (hj:j<n):(uK n T).set j true=uK n (T++[j]):=by
 refine List.ext_getElem? fun i=>?_
 rw [List.getElem?_set]
 by_cases e:j=i
 ·subst e
  rw [if_pos rfl,if_pos (by rw [Qr];exact hj)]
  unfold uK
  rw [List.getElem?_map,List.getElem?_range hj]
  simp
 ·rw [if_neg e]
  unfold uK
  rw [List.getElem?_map,List.getElem?_map]
  by_cases hi:i<n
  ·rw [List.getElem?_range hi]
   have:i≠j:=fun h=>e h.symm
   simp [this]
  ·rw [List.getElem?_eq_none (by simp;omega)];rfl
structure Zg (n:Nat) (es:List bC) (T:List Nat):Prop where
 nd:T.Nodup
 lt:∀ i ∈ T,i<n
 ex:∀ (k i:Nat),T[k]?=some i→∃ e ∈ es,ofB e (i:Int)=true∧(e.B<0∨∃ j ∈ T.take k,e.A+e.B-(i:Int)=(j:Int)∧0≤e.B)
def ints (T:List Nat):List Int:=T.map fun i:Nat=>(i:Int)
theorem SS {n:Nat}:∀ {T:List Nat},T.Nodup→(∀ i ∈ T,i<n)→T.length≤n:=by
 induction n with
 | zero =>
   intro T _ h
   cases T with
   | nil=>simp
   | cons a t=>have:=h a (by simp);omega
 | succ n ih =>
   intro T hn h
   by_cases hm:n ∈ T
   ·have h1:(T.erase n).Nodup:=hn.erase n
    have h2:∀ i ∈ T.erase n,i<n:=fun i hi=>by
     have h3:=(hn.mem_erase_iff).1 hi
     have:=h i h3.2
     omega
    have:=ih h1 h2
    rw [List.length_erase_of_mem hm] at this
    have:=List.length_pos_of_mem hm
    omega
   ·have:=ih hn fun i hi=>by
     have:=h i hi
     by_cases q:i=n
     ·subst q;exact absurd hi hm
     ·omega
    omega
theorem SA {n:Nat} {T:List Nat} (hn:T.Nodup) (h:∀ i ∈ T,i<n) (hl:T.length=n):∀ i,i<n→i ∈ T:=fun i hi=>by
 by_cases q:i ∈ T
 ·exact q
 ·have:(i::T).length≤n:=SS (List.nodup_cons.2 ⟨q,hn⟩) fun j hj=>by
   cases hj with
   | head=>exact hi
   | tail _ hj=>exact h j hj
  simp at this
  omega
section
variable {l:aT} (hl:LV l) (hs:∀ x ∈ l.aB,Sm x) {xs ys:List Int} (hL:Lay (eK l) xs ys) {es:List bC} (hes:es=Fj (eK l) xs ys)
include hl hs hL hes
theorem ID {T:List Nat} (hI:Zg l.aB.length es T) (hlt:T.length<l.aB.length):∃ j,j<l.aB.length∧(uK l.aB.length T).getD j false=false∧Xz es (uK l.aB.length T) j=true:=by
 obtain ⟨p,hp,hpT⟩:∃ p,p<l.aB.length∧p ∉ T:=by
  by_cases q:∃ p,p<l.aB.length∧p ∉ T
  ·exact q
  ·exfalso
   have hall:∀ p,p<l.aB.length→p ∈ T:=fun p hp=>by
    by_cases m:p ∈ T
    ·exact m
    ·exact absurd ⟨p,hp,m⟩ q
   have h1 : (List.range l.aB.length).length≤T.length:=by
    have:∀ {A:List Nat},A.Nodup→∀ {B:List Nat},(∀ i ∈ A,i ∈ B)→A.length≤B.length:=by
     intro A
     induction A with
     | nil=>intro _ B _;simp
     | cons a A ih =>
       intro hn B hB
       have hn':=List.nodup_cons.1 hn
       have:=ih hn'.2 (B:=B.erase a) fun i hi=>by
        have hia:i≠a:=fun e=>hn'.1 (e ▸ hi)
        exact (List.mem_erase_of_ne hia).2 (hB i (List.mem_cons_of_mem _ hi))
       have hm:=hB a (by simp)
       rw [List.length_erase_of_mem hm] at this
       have:=List.length_pos_of_mem hm
       simp only [List.length_cons]
       omega
    exact this List.nodup_range fun i hi=>hall i (List.mem_range.1 hi)
   rw [List.length_range] at h1
   omega
 have hy:l.aB[p]?=some l.aB[p]:=List.getElem?_eq_getElem hp
 obtain ⟨n0,_,_⟩:=Pb (hs _ (List.mem_of_getElem? hy)) (hl.pe _ (List.mem_of_getElem? hy))
 have hr:l.aB[p].aD[0]?=some (l.aB[p].aD[0]'n0):=List.getElem?_eq_getElem n0
 generalize l.aB[p].aD[0]'n0=r at hr
 have hrm:=List.mem_of_getElem? hr
 have hv:=hl.hv _ (List.mem_of_getElem? hy) r hrm
 have hlab:lK (eK l) r.X r.Y=some p:=FD hl hy (My.2 ⟨r,hrm,by
  obtain ⟨_,_,a,b,_⟩:=hv
  unfold inC
  simp only [Bool.and_eq_true,decide_eq_true_eq]
  omega⟩)
 have hxm:r.X ∈ xs:=(hL.x.2 _).2 (Uw (List.mem_flatten.2 ⟨_,List.mem_map.2 ⟨_,List.mem_of_getElem? hy,rfl⟩,hrm⟩)).1
 obtain ⟨k,hk⟩:=List.mem_iff_getElem?.1 hxm
 obtain ⟨e,he,i,hU,hi,ho,hc⟩:=CL hL (fun i=>decide (i<l.aB.length∧i ∉ T)) hk hlab (by rw [decide_eq_true_eq];exact ⟨hp,hpT⟩)
 rw [decide_eq_true_eq] at hU
 refine ⟨i,hU.1,by rw [Fa T hU.1,decide_eq_false_iff_not];exact hU.2,List.any_eq_true.2 ⟨e,hes ▸ he, ?_⟩⟩
 unfold Vh
 rw [ho,Bool.true_and,Bool.or_eq_true,decide_eq_true_eq]
 rcases hc with ⟨_,hb⟩ | ⟨j,hj,hUj,_,hd,_⟩
 ·exact .inl (by omega)
 ·right
  have hjl:j<l.aB.length:=by simpa [eK] using hj
  rw [hd,Int.toNat_natCast,Fa T hjl,decide_eq_true_eq]
  rw [decide_eq_false_iff_not] at hUj
  by_cases m:j ∈ T
  ·exact m
  ·exact absurd ⟨hjl,m⟩ hUj
theorem Xb (hn:es.length≤1000000):∀ (d:Nat) (T:List Nat),T.length+d=l.aB.length→Zg l.aB.length es T→∃ T',Zg l.aB.length es T'∧T'.length=l.aB.length∧aK (Bc (l.aB.length:Int) es) (ints T,uK l.aB.length T)=some (.inr (ints T'))
 | 0,T,hd,hI=>by
   refine ⟨T,hI,by omega,eA ?_⟩
   unfold Bc
   have:decide (((ints T).length:Int)<(l.aB.length:Int))=false:=by simp [ints];omega
   simp only [this,Bool.false_eq_true,if_false]
 | d+1,T,hd,hI=>by
   have h8:=hl.n
   have he:∀ e ∈ es,EOk l.aB.length e:=fun e h=>by
    have:=Wb hL e (hes ▸ h)
    rwa [show (eK l).length=l.aB.length by simp [eK]] at this
   obtain ⟨j,j1,j2,j3,j4⟩:=Uc h8 hn he (Qr l.aB.length T) (T:=ints T) (by simp [ints];omega) l.aB.length (Nat.le_refl _) (ID hl hs hL hes hI (by omega))
   rw [Fa T j1,decide_eq_false_iff_not] at j2
   have hsub:aJ (l.aB.length:Int) 1=(l.aB.length:Int)-1:=bK (a:=(l.aB.length:Int)) (b:=1) (by omega) (by omega)
   have hI':Zg l.aB.length es (T++[j]):=by
    refine ⟨?_,fun i hi=>?_,fun k i hk=>?_⟩
    ·rw [List.nodup_append]
     refine ⟨hI.nd,by simp,fun a ha b hb=>?_⟩
     rw [List.mem_singleton.1 hb]
     exact fun e=>j2 (e ▸ ha)
    ·rcases List.mem_append.1 hi with h | h
     ·exact hI.lt i h
     ·rw [List.mem_singleton.1 h];exact j1
    ·by_cases hkl:k<T.length
     ·rw [List.getElem?_append_left hkl] at hk
      obtain ⟨e,h1,h2,h3⟩:=hI.ex k i hk
      refine ⟨e,h1,h2, ?_⟩
      rw [List.take_append_of_le_length (by omega)]
      exact h3
     ·have hk':=bG hk
      simp at hk'
      have hkk:k=T.length:=by omega
      subst hkk
      rw [List.getElem?_append_right (Nat.le_refl _)] at hk
      have hij:i=j:=by simpa using hk.symm
      subst hij
      unfold Xz at j3
      obtain ⟨e,h1,h2⟩:=List.any_eq_true.1 j3
      unfold Vh at h2
      rw [Bool.and_eq_true,Bool.or_eq_true,decide_eq_true_eq] at h2
      refine ⟨e,h1,h2.1, ?_⟩
      obtain ⟨a1,a2,a3,a4⟩:=he e h1
      by_cases hb:e.B<0
      ·exact .inl hb
      ·right
       have h3:=h2.2.resolve_left hb
       have ho:=h2.1
       unfold ofB at ho
       rw [Bool.or_eq_true,beq_iff_eq,beq_iff_eq] at ho
       have hs:(e.A+e.B-(i:Int)).toNat<l.aB.length:=by omega
       rw [Fa T hs,decide_eq_true_eq] at h3
       refine ⟨(e.A+e.B-(i:Int)).toNat, ?_,by omega,by omega⟩
       ·rw [List.take_append_of_le_length (Nat.le_refl _),List.take_length];exact h3
   obtain ⟨T',t1,t2,t3⟩:=Xb hn d (T++[j]) (by simp;omega) hI'
   refine ⟨T',t1,t2, ?_⟩
   rw [gT (s':=(ints (T++[j]),uK l.aB.length (T++[j])))]
   ·exact t3
   ·unfold Bc
    have hd':decide (((ints T).length:Int)<(l.aB.length:Int))=true:=by simp [ints];omega
    simp only [hd',if_true,hsub,j4,Option.bind_some,Bool.not_true,Bool.false_eq_true,if_false,BZ T j1]
    simp [ints]
end
def Nz (l:List Int) (i:Nat):List Int:=(List.range l.length).map fun k=>if k<i∨l.length-1-k<i then l.getD (l.length-1-k) 0 else l.getD k 0
theorem Hj (l:List Int) (i:Nat):(Nz l i).length=l.length:=by simp [Nz]
theorem Hg (l:List Int) (i:Nat) {k:Nat} (hk:k<l.length):(Nz l i)[k]?=some (if k<i∨l.length-1-k<i then l.getD (l.length-1-k) 0 else l.getD k 0):=by
 unfold Nz;rw [List.getElem?_map,List.getElem?_range hk];rfl
theorem NG {l:List Int} (hl:l.length≤1000):∀ (d i:Nat),2*i≤l.length→l.length-2*i≤d→aK fL ((i:Int),(l.length:Int)-1-i,Nz l i)=some l.reverse:=by
 have out:∀ i:Nat,2*i≤l.length→¬ 2*i+1<l.length→aK fL ((i:Int),(l.length:Int)-1-i,Nz l i)=some l.reverse:=fun i hi hd=>by
  refine (eA (r:=Nz l i) ?_).trans ?_
  ·unfold fL
   have:decide ((i:Int)<(l.length:Int)-1-i)=false:=by rw [decide_eq_false_iff_not];omega
   simp only [this,Bool.false_eq_true,if_false]
  ·congr 1
   refine List.ext_getElem? fun k=>?_
   by_cases hk:k<l.length
   ·rw [Hg l i hk,List.getElem?_reverse hk]
    have e:l[l.length-1-k]?=some (l.getD (l.length-1-k) 0):=by
     rw [List.getD_eq_getElem?_getD,List.getElem?_eq_getElem (show l.length-1-k<l.length by omega)];rfl
    rw [e]
    split
    ·rfl
    ·rename_i hn
     rw [show l.length-1-k=k by omega]
   ·rw [List.getElem?_eq_none (by rw [Hj];omega),List.getElem?_eq_none (by simp;omega)]
 intro d
 induction d with
 | zero=>intro i h1 h2;exact out i h1 (by omega)
 | succ d ih =>
   intro i h1 h2
   by_cases hd:2*i+1<l.length
   ·obtain ⟨j,hj⟩:∃ j:Nat,j=l.length-1-i:=⟨_,rfl⟩
    have hjl:j<l.length:=by omega
    have hji:((l.length:Int)-1-i)=(j:Int):=by omega
    have gi:(Nz l i)[i]?=some (l.getD i 0):=by
     rw [Hg l i (by omega),if_neg (by omega)]
    have gj:(Nz l i)[j]?=some (l.getD j 0):=by
     rw [Hg l i hjl,if_neg (by omega)]
    have gj2:((Nz l i).set i (l.getD j 0))[j]?=some (l.getD j 0):=by
     rw [List.getElem?_set,if_neg (by omega)];exact gj
    have e:((Nz l i).set i (l.getD j 0)).set j (l.getD i 0)=Nz l (i+1):=by
     refine List.ext_getElem? fun k=>?_
     rw [List.getElem?_set,List.getElem?_set]
     by_cases hk:k<l.length
     ·rw [Hg l (i+1) hk]
      by_cases k1:j=k
      ·subst k1
       rw [if_pos rfl,if_pos (by rw [List.length_set,Hj];exact hjl),if_pos (by omega),show l.length-1-j=i by omega]
      ·rw [if_neg k1]
       by_cases k2:i=k
       ·subst k2
        rw [if_pos rfl,if_pos (by rw [Hj];omega),if_pos (by omega),← hj]
       ·rw [if_neg k2,Hg l i hk]
        by_cases c:k<i∨l.length-1-k<i
        ·rw [if_pos c,if_pos (by omega)]
        ·rw [if_neg c,if_neg (by omega)]
     ·rw [if_neg (by omega),if_neg (by omega),List.getElem?_eq_none (by rw [Hj];omega),List.getElem?_eq_none (by rw [Hj];omega)]
    rw [hji,gT (s':=(((i+1:Nat):Int),(l.length:Int)-1-((i+1:Nat):Int),Nz l (i+1)))]
    ·exact ih (i+1) (by omega) (by omega)
    ·unfold fL
     have hd':decide ((i:Int)<(j:Int))=true:=by rw [decide_eq_true_eq];omega
     have hs:aJ (j:Int) 1=(l.length:Int)-1-((i+1:Nat):Int):=by
      rw [bK (a:=(j:Int)) (b:=1) (by omega) (by omega)];omega
     simp only [hd',if_true,aQ gj,aQ gi,Option.bind_some,Int.toNat_natCast,aQ gj2,bH i (show (i:Int)<9223372036854775807 by omega),hs,e]
   ·exact out i h1 hd
theorem DP {l:List Int} (hl:l.length≤1000):nJ l=some l.reverse:=by
 unfold nJ
 have h0:Nz l 0=l:=by
  refine List.ext_getElem? fun k=>?_
  by_cases hk:k<l.length
  ·rw [Hg l 0 hk,if_neg (by omega),List.getD_eq_getElem?_getD,List.getElem?_eq_getElem hk];rfl
  ·rw [List.getElem?_eq_none (by rw [Hj];omega),List.getElem?_eq_none (by omega)]
 have:=NG hl l.length 0 (by omega) (by omega)
 rw [h0] at this
 have hs:aJ (l.length:Int) 1=(l.length:Int)-1-((0:Nat):Int):=by
  rw [bK (a:=(l.length:Int)) (b:=1) (by omega) (by omega)];omega
 rw [hs]
 have this':aK fL (0,(l.length:Int)-1-((0:Nat):Int),l)=some l.reverse:=this
 rw [this'];rfl
def Qg (x:aV) (p h:Nat):bU:=match x.bO[h]? with
 | some c=>⟨(p:Int),(h:Int),0,⟨aL c.X (rO c.W 2),aL c.Y (rO c.H 2)⟩⟩
 | none=>⟨(p:Int),(h:Int),0,⟨0,0⟩⟩
def xX (x:aV) (p k:Nat):List bU:=(List.range k).map (Qg x p)
def Pg (l:aT) (p:Nat):List bU:=match l.aB[p]? with
 | some x=>xX x p x.bO.length
 | none=>[]
def nL (l:aT) (n:Nat):List bU:=(List.range n).flatMap (Pg l)
theorem Jy (l:aT) (n:Nat):nL l (n+1)=nL l n++Pg l n:=by
 unfold nL;rw [List.range_succ,List.flatMap_append];simp
theorem Qh (x:aV) (p k:Nat):xX x p (k+1)=xX x p k++[Qg x p k]:=by
 unfold xX;rw [List.range_succ,List.map_append];rfl
section
variable {l:aT} (n8:l.aB.length≤8) (c12:∀ x ∈ l.aB,x.bO.length≤12)
include n8 c12
theorem CR (p:Nat):(Pg l p).length≤12:=by
 unfold Pg
 cases h:l.aB[p]? with
 | none=>simp
 | some x=>have:=c12 x (List.mem_of_getElem? h);simp [xX];omega
theorem Mg:∀ n:Nat,(nL l n).length≤12*n
 | 0=>by simp [nL]
 | n+1=>by
   rw [Jy,List.length_append]
   have:=Mg n
   have:=CR n8 c12 n
   omega
theorem DJ:aK (Ax l) (0,[])=some (nL l l.aB.length):=by
 have key:=sU l.aB (Ax l) (fun p=>((p:Int),nL l p)) (nL l l.aB.length) (fun p x hx=>?_) (by simp [Ax])
 ·exact key
 ·have hp:=bG hx
  have hc:=c12 x (List.mem_of_getElem? hx)
  have hal:=Mg n8 c12 p
  have inner:aK (Aw ((p:Int),nL l p) x) (0,nL l p)=some (nL l (p+1)):=by
   have:=sU x.bO (Aw ((p:Int),nL l p) x) (fun h=>((h:Int),nL l p++xX x p h)) (nL l (p+1)) (fun h c hc=>?_) ?_
   ·have e0:nL l p++xX x p 0=nL l p:=by simp [xX]
    rw [e0] at this
    exact this
   ·have hh:=bG hc
    unfold Aw
    have hd:decide ((h:Int)<(x.bO.length:Int))=true:=by simp [hh]
    have hap:∀ y:bU,app (nL l p++xX x p h) [y]=some (nL l p++xX x p h++[y]):=fun y=>lA (by
     unfold LIM
     simp [xX]
     omega)
    simp only [hd,if_true,aQ hc,Option.bind_some,hap,bH h (show (h:Int)<9223372036854775807 by omega)]
    rw [Qh,show Qg x p h=⟨(p:Int),(h:Int),0,⟨aL c.X (rO c.W 2),aL c.Y (rO c.H 2)⟩⟩ by unfold Qg;rw [hc],List.append_assoc]
   ·have e1:nL l (p+1)=nL l p++xX x p x.bO.length:=by
     rw [Jy]
     unfold Pg;rw [hx]
    rw [e1]
    unfold Aw
    simp
  unfold Ax
  have hd:decide ((p:Int)<(l.aB.length:Int))=true:=by simp [hp]
  simp only [hd,if_true,aQ hx,Option.bind_some,inner,bH p (show (p:Int)<9223372036854775807 by omega)]
end
def unB (es:List bC) (c:List Bool) (p:Int) (i:Nat):Bool:=yS es p i&&!c.getD i false
def sP (es:List bC) (c:List Bool) (p:Int) (k:Nat):Option Nat:=(List.range k).find? (unB es c p)
def Ac (es:List bC):Option Nat→Ar
 | some i=>match es[i]? with
   | some e=>⟨e.Line.X1,e.Line.Y1⟩
   | none=>⟨0,0⟩
 | none=>⟨0,0⟩
theorem AG (es:List bC) (c:List Bool) (p:Int) (k:Nat):sP es c p (k+1)=match sP es c p k with
  | some i=>some i
  | none=>if unB es c p k then some k else none:=by
 unfold sP
 rw [List.range_succ,List.find?_append]
 cases (List.range k).find? (unB es c p) with
 | some i=>rfl
 | none =>
   simp only [Option.none_or,List.find?_cons,List.find?_nil]
   cases unB es c p k <;> rfl
theorem PY {es:List bC} {c:List Bool} (p:Int):mark es.length (unB es c p) c=mark es.length (yS es p) c:=by
 unfold mark
 refine List.map_congr_left fun i _=>?_
 unfold unB
 cases yS es p i <;> cases c.getD i false <;> rfl
theorem Wt {es:List bC} (hes:es.length≤1000000) {c:List Bool} (hc:c.length=es.length) (b:Int) (p:Nat):aK (Ay (es,b) (p:Int)) (false,0,c,0,0)=some (mark es.length (yS es (p:Int)) c,(Ac es (sP es c (p:Int) es.length)).X,(Ac es (sP es c (p:Int) es.length)).Y):=by
 have key:=sU es (Ay (es,b) (p:Int)) (fun k=>((sP es c (p:Int) k).isSome,(k:Int),mark es.length (fun i=>decide (i<k)&&unB es c (p:Int) i) c,(Ac es (sP es c (p:Int) k)).X,(Ac es (sP es c (p:Int) k)).Y))
  (mark es.length (yS es (p:Int)) c,(Ac es (sP es c (p:Int) es.length)).X,(Ac es (sP es c (p:Int) es.length)).Y) (fun k e he=>?_) ?_
 ·have e0:mark es.length (fun i=>decide (i<0)&&unB es c (p:Int) i) c=c:=by
   rw [show (fun i=>decide (i<0)&&unB es c (p:Int) i)=fun _=>false from funext fun i=>by simp]
   exact Wx hc
  rw [e0] at key
  exact key
 ·have hk:=bG he
  have hm:(mark es.length (fun i=>decide (i<k)&&unB es c (p:Int) i) c)[k]?=some (c.getD k false):=by
   rw [Di _ hk]
   simp
  unfold Ay
  have hd:decide ((k:Int)<(es.length:Int))=true:=by simp [hk]
  have hq:yS es (p:Int) k=ofB e (p:Int):=by unfold yS;rw [he]
  have hu:unB es c (p:Int) k=(ofB e (p:Int)&&!c.getD k false):=by unfold unB;rw [hq]
  have hsp:Ac es (some k)=⟨e.Line.X1,e.Line.Y1⟩:=by unfold Ac;simp only [he]
  simp only [hd,if_true,aQ he,Option.bind_some,of_eq,aQ hm,Ei,Ej,bH k (show (k:Int)<9223372036854775807 by omega),Int.toNat_natCast,Ww,AG,hu]
  cases ofB e (p:Int) with
  | false =>
    simp only [Bool.false_eq_true,if_false,Option.bind_some,Bool.false_and]
    cases sP es c (p:Int) k <;> rfl
  | true =>
    cases hck:c.getD k false with
    | true =>
      simp only [if_true,Option.bind_some,Bool.not_true,Bool.false_eq_true,if_false,Bool.and_false]
      cases sP es c (p:Int) k <;> rfl
    | false =>
      simp only [if_true,Option.bind_some,Bool.not_false,Bool.and_true]
      cases hf:sP es c (p:Int) k with
      | some i=>simp only [Option.isSome_some,Bool.not_true,Bool.false_eq_true,if_false]
      | none=>simp only [Option.isSome_none,Bool.not_false,if_true,hsp,Option.isSome_some]
 ·unfold Ay
  have hd:decide ((es.length:Int)<(es.length:Int))=false:=by simp
  simp only [hd,Bool.false_eq_true,if_false]
  have:mark es.length (fun i=>decide (i<es.length)&&unB es c (p:Int) i) c=mark es.length (yS es (p:Int)) c:=by
   rw [← PY]
   unfold mark
   refine List.map_congr_left fun i hi=>?_
   have:=List.mem_range.1 hi
   simp [this]
  rw [this]
def Ja (x:aV):Bool:=decide (min (Mw x.aD).2.2.1 (Mw x.aD).2.2.2<7200)
def Vm (l:aT) (es:List bC) (c:List Bool) (p:Nat):bU:=⟨(p:Int),-1,match l.aB[p]? with | some x=>if Ja x then 1 else 0 | none=>0,Ac es (sP es c (p:Int) es.length)⟩
def Fo (l:aT) (es:List bC):List Nat→List Bool→List bU
 | [],_=>[]
 | p::O,c=>Vm l es c p::Fo l es O (mark es.length (yS es (p:Int)) c)
theorem Tr (l:aT) (es:List bC):∀ (O:List Nat) (c:List Bool),(Fo l es O c).length=O.length
 | [],_=>rfl
 | p::O,c=>by simp [Fo,Tr l es O]
theorem Uf {l:aT} (hl:LV l) {es:List bC} (hes:es.length≤1000000) (b:Int) {O:List Nat} (hO:O.length≤8) (hlt:∀ p ∈ O,p<l.aB.length):∀ (rest:List Nat) (k:Nat) (acc:List bU) (c:List Bool),O.drop k=rest→c.length=es.length→acc.length≤96+k →
  aK (Az l (es,b) (ints O)) ((k:Int),acc,c)=some (acc++Fo l es rest c)
 | [],k,acc,c,hd,_,_=>by
   have hk:O.length≤k:=by
    have:=congrArg List.length hd
    simp at this;omega
   refine (eA (r:=acc) ?_).trans (by simp [Fo])
   unfold Az
   have:decide ((k:Int)<((ints O).length:Int))=false:=by simp [ints];omega
   simp only [this,Bool.false_eq_true,if_false]
 | p::rest,k,acc,c,hd,hc,ha=>by
   have hx:O[k]?=some p:=by
    have:(O.drop k)[0]?=some p:=by rw [hd];rfl
    rwa [List.getElem?_drop,Nat.add_zero] at this
   have hk:=bG hx
   have hxi:(ints O)[k]?=some (p:Int):=by unfold ints;rw [List.getElem?_map,hx];rfl
   have hd':O.drop (k+1)=rest:=by
    have:(O.drop k).drop 1=rest:=by rw [hd];rfl
    rwa [List.drop_drop] at this
   have hp:=hlt p (List.mem_of_getElem? hx)
   have hy:l.aB[p]?=some l.aB[p]:=List.getElem?_eq_getElem hp
   have hr:=hl.r12 _ (List.mem_of_getElem? hy)
   have hsm:yU l.aB[p]=some (Ja l.aB[p]):=Zj _ (by omega)
   have hap:app acc [Vm l es c p]=some (acc++[Vm l es c p]):=lA (by unfold LIM;simp;omega)
   rw [gT (s':=(((k+1:Nat):Int),acc++[Vm l es c p],mark es.length (yS es (p:Int)) c))]
   ·rw [Uf hl hes b hO hlt rest (k+1) _ _ hd' (qQ _ _ _) (by simp;omega)]
    simp [Fo]
   ·have ho:∀ j:Int,(if Ja l.aB[p] then (1:Int) else 0)=j→Vm l es c p=⟨(p:Int),-1,j,⟨(Ac es (sP es c (p:Int) es.length)).X,(Ac es (sP es c (p:Int) es.length)).Y⟩⟩:=fun j hj=>by
     unfold Vm;rw [hy];simp only;rw [hj]
    unfold Az
    have hdd:decide ((k:Int)<((ints O).length:Int))=true:=by simp [ints,hk]
    simp only [hdd,if_true,aQ hxi,aQ hy,Option.bind_some,hsm]
    cases hb:Ja l.aB[p] with
    | true =>
      rw [ho 1 (by rw [hb];rfl)] at hap ⊢
      simp only [if_true,Av,Wt hes hc,Option.bind_some,hap,bH k (show (k:Int)<9223372036854775807 by omega)]
    | false =>
      rw [ho 0 (by rw [hb];rfl)] at hap ⊢
      simp only [Bool.false_eq_true,if_false,Av,Wt hes hc,Option.bind_some,hap,bH k (show (k:Int)<9223372036854775807 by omega)]
end Go.SM
end
