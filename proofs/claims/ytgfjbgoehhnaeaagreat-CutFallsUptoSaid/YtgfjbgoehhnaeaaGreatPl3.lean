/- What the functions compute, part 3. -/
import Derived.Test.YtgfjbgoehhnaeaaGreatPl2
import Derived.Test.YtgfjbgoehhnaeaaGreatPl1
set_option linter.unusedVariables false
set_option linter.unusedSimpArgs false
set_option linter.unusedSectionVars false
namespace Go.SM
open Go Go.VI
theorem Un {s:Sheet} (h:kP s=some 0):s.Clamps.length≤4∧s.Used.length≤48:=by
 obtain ⟨a,ha,_⟩:=Name_same s.Name
 obtain ⟨b,hb,_⟩:=Name_same s.Material
 unfold kP at h
 rw [ha,hb] at h
 cases a with
 | false=>exact absurd (Option.some.inj h) (by decide)
 | true =>
 cases b with
 | false=>exact absurd (Option.some.inj h) (by decide)
 | true =>
 simp only [Option.bind_some,Ri,IU,if_true,Bool.not_true,Bool.false_eq_true,if_false] at h
 generalize decide ((1≤s.Gauge∧s.Gauge≤60)∧0≤s.Grain∧s.Grain≤2)=g1 at h
 generalize decide (1≤s.Width∧s.Width≤1048576)=g2 at h
 generalize decide (1≤s.Height∧s.Height≤1048576)=g3 at h
 by_cases h4:(s.Clamps.length:Int)>4
 ·simp only [h4,decide_true,if_true,Option.bind_some] at h
  cases g1 <;> cases g2 <;> cases g3 <;> exact absurd (Option.some.inj h) (by decide)
 by_cases h5:(s.Used.length:Int)>48
 ·simp only [h4,h5,decide_false,decide_true,if_true,Bool.false_eq_true,if_false,Option.bind_some] at h
  cases g1 <;> cases g2 <;> cases g3 <;> exact absurd (Option.some.inj h) (by decide)
 omega
theorem UZ {α:Type} {l:List α} {k:Nat} (h:k≤l.length):slc l 0 (k:Int)=some (l.take k):=by
 unfold slc;rw [if_pos (by omega)];simp
theorem GA {l:List Rect} {g:Rect→Int}:∀ {a:Int},l.foldl (fun s r=>min s (g r)) a=a∨∃ r ∈ l,l.foldl (fun s r=>min s (g r)) a=g r:=by
 induction l with
 | nil=>intro a;exact .inl rfl
 | cons x l ih =>
   intro a
   simp only [List.foldl_cons]
   rcases ih (a:=min a (g x)) with h | ⟨r,hr,h⟩
   ·rw [h]
    by_cases hx:a≤g x
    ·left;omega
    ·right;exact ⟨x,by simp,by omega⟩
   ·exact .inr ⟨r,by simp [hr],h⟩
theorem Nw {α β:Type} (l:List α) (f:α→β) (body:Int×List β→Option ((Int×List β) ⊕ List β)) (hl:l.length≤1048576) (step:∀ (k:Nat) x acc,l[k]?=some x→body ((k:Int),acc)=(app acc [f x]).bind fun l'=>some (.inl (((k+1:Nat):Int),l'))) (fin:∀ acc,body ((l.length:Int),acc)=some (.inr acc)) :
  aK body (0,[])=some (l.map f):=by
 refine yI l body (fun k=>((k:Int),(l.take k).map f)) _ (fun k x hx=>?_) ?_
 ·have hk:=(List.getElem?_eq_some_iff.1 hx).1
  rw [step k x _ hx,nA (by unfold LIM;simp;omega)]
  simp only [Option.bind_some]
  rw [List.take_add_one,hx]
  simp
 ·rw [fin,List.take_length]
def bkR (x y:Int) (r:Rect):Rect:=if r.X < -4194304∨r.X>4194304∨r.Y < -4194304∨r.Y>4194304 then ⟨r.X,r.Y,0,r.H⟩ else ⟨aJ r.X x,aJ r.Y y,r.W,r.H⟩
def shR (x y:Int) (r:Rect):Rect:=if r.X > -2147483648∧r.X<2147483648∧r.Y > -2147483648∧r.Y<2147483648 then ⟨aL r.X x,aL r.Y y,r.W,r.H⟩ else r
theorem IC {l:List Rect} (hl:l.length≤1048576) (x y:Int):Nb l x y=some (l.map (bkR x y)):=by
 unfold Nb mE
 rw [nA (by unfold LIM;simp;omega)]
 simp only [List.nil_append,Option.bind_some]
 have key:aK (Eo x y l) (0,l)=some (l.map (bkR x y)):=by
  refine yI l (Eo x y l) (fun k=>((k:Int),(l.take k).map (bkR x y)++l.drop k)) _ (fun k r hr=>?_) ?_
  ·have hk:=(List.getElem?_eq_some_iff.1 hr).1
   have h1:decide ((k:Int)<(l.length:Int))=true:=by simp;omega
   have ht:((l.take k).map (bkR x y)).length=k:=by simp;omega
   have ed:l.drop k=r::l.drop (k+1):=by rw [List.drop_eq_getElem_cons hk];congr 1;exact (List.getElem?_eq_some_iff.1 hr).2
   have g1:∀ z:Rect,((l.take k).map (bkR x y)++z::l.drop (k+1))[k]?=some z:=fun z=>by rw [List.getElem?_append_right (by omega),ht];simp
   have i1:∀ z:Rect,idx ((l.take k).map (bkR x y)++z::l.drop (k+1)) (k:Int)=some z:=fun z=>aP (g1 z)
   have s1:∀ z z':Rect,List.set ((l.take k).map (bkR x y)++z::l.drop (k+1)) k z'=(l.take k).map (bkR x y)++z'::l.drop (k+1):=fun z z'=>by rw [List.set_append_right _ _ (by omega),ht];simp
   have e:l.take (k+1)=l.take k++[r]:=by rw [List.take_add_one,hr];rfl
   unfold Eo Jm
   simp only [h1,if_true,ed,i1,g1,s1,Option.bind_some,Int.toNat_natCast]
   rw [aS (a:=(k:Int)) (by omega) (by omega),e,List.map_append,List.append_assoc]
   by_cases q1:r.X < -4194304
   ·simp [q1,bkR]
   ·by_cases q2:r.X>4194304
    ·simp [q1,q2,bkR]
    ·by_cases q3:r.Y < -4194304
     ·simp [q1,q2,q3,bkR]
     ·by_cases q4:r.Y>4194304
      ·simp [q1,q2,q3,q4,bkR]
      ·simp [q1,q2,q3,q4,bkR]
  ·simp [Eo]
 rw [key]
 rfl
theorem ED {l:List Rect} (hl:l.length≤1048576) (x y:Int):jU l x y=some (l.map (shR x y)):=by
 unfold jU
 rw [Nw l (shR x y) (nT l x y) hl (fun k r acc hx=>?_) (fun acc=>?_)]
 ·rfl
 ·have hk:=(List.getElem?_eq_some_iff.1 hx).1
  unfold nT nS
  have h1:decide ((k:Int)<(l.length:Int))=true:=by simp;omega
  simp only [h1,if_true,aP hx,Option.bind_some]
  rw [aS (a:=(k:Int)) (by omega) (by omega)]
  unfold shR
  by_cases g1:r.X > -2147483648
  ·by_cases g2:r.X<2147483648
   ·by_cases g3:r.Y > -2147483648
    ·by_cases g4:r.Y<2147483648
     ·simp [g1,g2,g3,g4]
     ·simp [g1,g2,g3,g4]
    ·simp [g1,g2,g3]
   ·simp [g1,g2]
  ·simp [g1]
 ·simp [nT]
theorem Y0 {mx my:Int} (hx : -1048576≤mx∧mx≤1048576) (hy : -1048576≤my∧my≤1048576) (r:Rect) (hr:BH r):bkR mx my r=shR (vZ mx) (vZ my) r∨(¬ vR (bkR mx my r)∧¬ vR (shR (vZ mx) (vZ my) r)):=by
 obtain ⟨⟨a1,a2⟩,⟨b1,b2⟩,_,_⟩:=hr
 unfold bkR shR
 rw [IZ (a:=mx) (by omega) (by omega),IZ (a:=my) (by omega) (by omega)]
 by_cases h:r.X < -4194304∨r.X>4194304∨r.Y < -4194304∨r.Y>4194304
 ·right
  rw [if_pos h]
  refine ⟨fun q=>?_,fun q=>?_⟩
  ·have:=q.2.2.1;simp at this
  ·by_cases g:r.X > -2147483648∧r.X<2147483648∧r.Y > -2147483648∧r.Y<2147483648
   ·rw [if_pos g,aS (by omega) (by omega),aS (by omega) (by omega)] at q
    obtain ⟨q1,q2,_⟩:=q
    simp only at q1 q2
    omega
   ·rw [if_neg g] at q
    obtain ⟨q1,q2,_⟩:=q
    omega
 ·left
  rw [if_neg h,if_pos (by omega),bA (by omega) (by omega),bA (by omega) (by omega),aS (by omega) (by omega),aS (by omega) (by omega)]
  rfl
theorem VK {x:Piece} {a b:Bool} (ha:lQ x.Name=some a) (hb:lQ x.Material=some b) (h:∃ r ∈ x.Rects++(x.Cuts++x.Forms),¬ vR r) :
  fG x=some (if a&&b then (if (1≤x.Gauge∧x.Gauge≤60)∧0≤x.Grain∧x.Grain≤2 then (if x.Rects.length>12∨x.Cuts.length>12∨x.Forms.length>12 then 4 else 1) else 1) else 2):=by
 unfold fG
 rw [ha,hb]
 cases a with
 | false=>rfl
 | true =>
 cases b with
 | false=>rfl
 | true =>
 simp only [Option.bind_some,Ri,Bool.and_self,if_true,Bool.not_true,Bool.false_eq_true,if_false]
 by_cases h1:(1≤x.Gauge∧x.Gauge≤60)∧0≤x.Grain∧x.Grain≤2
 ·simp only [h1,and_self,decide_true,Bool.not_true,Bool.false_eq_true,if_false,if_true]
  by_cases l1:x.Rects.length>12
  ·simp [show (x.Rects.length:Int)>12 by omega,l1]
  by_cases l2:x.Cuts.length>12
  ·simp [show ¬ (x.Rects.length:Int)>12 by omega,show (x.Cuts.length:Int)>12 by omega,l1,l2]
  by_cases l3:x.Forms.length>12
  ·simp [show ¬ (x.Rects.length:Int)>12 by omega,show ¬ (x.Cuts.length:Int)>12 by omega,show (x.Forms.length:Int)>12 by omega,l1,l2,l3]
  have d1:decide ((x.Rects.length:Int)>12)=false:=by simp;omega
  have d2:decide ((x.Cuts.length:Int)>12)=false:=by simp;omega
  have d3:decide ((x.Forms.length:Int)>12)=false:=by simp;omega
  have hc:¬ (x.Rects.length>12∨x.Cuts.length>12∨x.Forms.length>12):=by omega
  simp only [d1,d2,d3,hc,Bool.false_eq_true,if_false,Option.bind_some,valid_eq x.Rects (by omega),valid_eq x.Cuts (by omega),valid_eq x.Forms (by omega)]
  have anyb:∀ l:List Rect,(∃ r ∈ l,¬ vR r)→(l.any fun x=>!decide (vR x))=true:=fun l ⟨r,hr,hv⟩=>List.any_eq_true.2 ⟨r,hr,by simp [hv]⟩
  obtain ⟨r,hr,hv⟩:=h
  have hj:(if ((x.Rects.length:Int)==0)=true then some true else (if (!(x.Rects.any fun x=>!decide (vR x)))=true then (if (!(x.Cuts.any fun x=>!decide (vR x)))=true then some (!(!(x.Forms.any fun x=>!decide (vR x)))) else some true) else some true))=some true:=by
   cases (x.Rects.length:Int)==0 with
   | true=>rfl
   | false =>
     rcases List.mem_append.1 hr with hr | hr
     ·rw [anyb _ ⟨r,hr,hv⟩];rfl
     ·rcases List.mem_append.1 hr with hr | hr
      ·rw [anyb x.Cuts ⟨r,hr,hv⟩];cases (x.Rects.any fun x=>!decide (vR x)) <;> rfl
      ·rw [anyb x.Forms ⟨r,hr,hv⟩];cases (x.Rects.any fun x=>!decide (vR x)) <;> cases (x.Cuts.any fun x=>!decide (vR x)) <;> rfl
  rw [hj]
  rfl
 ·simp only [h1,decide_false,Bool.not_false,if_true,if_false]
theorem Q7 {x:Piece} (h:fG x=some 0):x.Rects.length≤12:=by
 obtain ⟨a,ha,_⟩:=Name_same x.Name
 obtain ⟨b,hb,_⟩:=Name_same x.Material
 unfold fG at h
 rw [ha,hb] at h
 by_cases l1:(x.Rects.length:Int)>12
 ·cases a with
  | false=>exact absurd (Option.some.inj h) (by decide)
  | true =>
  cases b with
  | false=>exact absurd (Option.some.inj h) (by decide)
  | true =>
  simp only [Option.bind_some,Ri,if_true,Bool.not_true,Bool.false_eq_true,if_false,l1,decide_true] at h
  generalize decide ((1≤x.Gauge∧x.Gauge≤60)∧0≤x.Grain∧x.Grain≤2)=g1 at h
  cases g1 <;> exact absurd (Option.some.inj h) (by decide)
 ·omega
def Sm (x:Piece):Prop:=(x.Rects.length≤1048576∧∀ r ∈ x.Rects,BH r)∧(x.Cuts.length≤1048576∧∀ r ∈ x.Cuts,BH r)∧(x.Forms.length≤1048576∧∀ r ∈ x.Forms,BH r)
theorem FM (x0:Piece) (hl:x0.Rects.length≤1048576) (a b:Int):aK (gF x0) (a,b,0)=some (Wp x0.Rects a,Wq x0.Rects b):=by
 refine yI x0.Rects (gF x0) (fun k=>(Wp (x0.Rects.take k) a,Wq (x0.Rects.take k) b,(k:Int))) _ (fun k r hr=>?_) ?_
 ·have hk:=(List.getElem?_eq_some_iff.1 hr).1
  unfold gF
  have h1:decide ((k:Int)<(x0.Rects.length:Int))=true:=by simp;omega
  have e:x0.Rects.take (k+1)=x0.Rects.take k++[r]:=by rw [List.take_add_one,hr];rfl
  simp only [h1,if_true,aP hr,Option.bind_some,e,Gh]
  rw [aS (a:=(k:Int)) (by omega) (by omega)]
  unfold Wp Wq
  rw [List.foldl_append,List.foldl_append]
  rfl
 ·simp [gF]
theorem SG (x0:Piece):oU x0=gF x0:=by
 funext s
 unfold oU gF
 cases idx x0.Rects s.2.2 <;> rfl
theorem PD (x0:Piece) (hl:x0.Rects.length≤1048576) {r:Rect} (hr:x0.Rects[0]?=some r):aK (oU x0) (r.X,r.Y,1)=some (Wp x0.Rects r.X,Wq x0.Rects r.Y):=by
 have i0:idx x0.Rects 0=some r:=aP (k:=0) hr
 have hk:=(List.getElem?_eq_some_iff.1 hr).1
 have h1:aK (gF x0) (r.X,r.Y,0)=aK (gF x0) (r.X,r.Y,1):=by
  refine kJ ?_
  unfold gF
  have hd:decide ((0:Int)<(x0.Rects.length:Int))=true:=by simp;omega
  simp only [hd,if_true,i0,Option.bind_some,Gh,Int.min_self]
  rfl
 rw [SG,← h1,FM x0 hl]
theorem Vb {x:Piece} (hs:Sm x):∃ e:Int,qZ x=some e∧(e=0→x.Rects.length≤12) ∧
  ∀ {S:Type} (k:S),((uB x).bind fun r79=>if (!r79.2.1) then (some (Sum.inr (Sum.inl (1:Int)):S ⊕ (Int ⊕ Unit))) else ((cO (Piece.mk r79.1.Name r79.1.Material r79.1.Gauge r79.1.Grain r79.1.Rects r79.1.Cuts r79.1.Forms)).bind fun r81=>if (r81 != 0) then (some (.inr (.inl r81))) else (some (.inl k))))=if e=0 then some (.inl k) else some (.inr (.inl e)):=by
 obtain ⟨⟨s1,t1⟩,⟨s2,t2⟩,s3,t3⟩:=hs
 have k1:aK (tC x) 0=some (if (x.Rects.any fun x=>!decide (vR x)) then .inl () else .inr ()):=by
  refine gX x.Rects (tC x) (fun k=>(k:Int)) _ _ _ rfl (fun k y hx=>?_) ?_
  ·have hk:=(List.getElem?_eq_some_iff.1 hx).1
   unfold tC
   have h1:decide ((k:Int)<(x.Rects.length:Int))=true:=by simp;omega
   simp only [h1,if_true,aP hx,Option.bind_some,vW]
   rw [aS (a:=(k:Int)) (by omega) (by omega)]
   rfl
  ·simp [tC]
 unfold qZ uB
 rw [k1,Gz _ (by omega)]
 cases hv:(x.Rects.any fun x=>!decide (vR x)) with
 | true=>exact ⟨1,rfl,fun h=>absurd h (by decide),fun k=>rfl⟩
 | false =>
 have av:∀ r ∈ x.Rects,vR r:=fun r hr=>by have:=List.any_eq_false.1 hv r hr;simpa using this
 simp only [Bool.false_eq_true,if_false,Option.bind_some,Bool.not_false,Bool.not_true]
 by_cases h0:(x.Rects.length:Int)=0
 ·obtain ⟨e,e1,e2⟩:=Um x
  refine ⟨e,by simp [h0,e1],fun _=>by omega,fun k=>?_⟩
  have e2':cO (Piece.mk x.Name x.Material x.Gauge x.Grain x.Rects x.Cuts x.Forms)=some e:=e2
  simp only [h0,beq_self_eq_true,if_true,Option.bind_some,Bool.not_true,Bool.false_eq_true,if_false,e2']
  by_cases he:e=0
  ·simp [he]
  ·simp [he]
 ·have h0':((x.Rects.length:Int)==0)=false:=by rw [beq_eq_false_iff_ne];exact h0
  have hlt:0<x.Rects.length:=by omega
  have hr:x.Rects[0]?=some (x.Rects[0]'hlt):=by simp [hlt]
  have i0:idx x.Rects 0=some (x.Rects[0]'hlt):=aP (k:=0) hr
  have hmem:x.Rects[0]'hlt ∈ x.Rects:=List.getElem_mem hlt
  have rb:=PD x s1 hr
  generalize x.Rects[0]'hlt=r0 at hr i0 hmem rb
  have bx : -1048576≤Wp x.Rects r0.X∧Wp x.Rects r0.X≤1048576:=by
   have:∃ y ∈ x.Rects,Wp x.Rects r0.X=y.X:=by
    rcases GA (l:=x.Rects) (g:=fun r=>r.X) (a:=r0.X) with e | ⟨y,hy,e⟩
    ·exact ⟨r0,hmem,e⟩
    ·exact ⟨y,hy,e⟩
   obtain ⟨y,hy,e⟩:=this
   have:=av y hy;unfold vR at this;omega
  have by' : -1048576≤Wq x.Rects r0.Y∧Wq x.Rects r0.Y≤1048576:=by
   have:∃ y ∈ x.Rects,Wq x.Rects r0.Y=y.Y:=by
    rcases GA (l:=x.Rects) (g:=fun r=>r.Y) (a:=r0.Y) with e | ⟨y,hy,e⟩
    ·exact ⟨r0,hmem,e⟩
    ·exact ⟨y,hy,e⟩
   obtain ⟨y,hy,e⟩:=this
   have:=av y hy;unfold vR at this;omega
  unfold yD
  simp only [h0',Bool.false_eq_true,if_false,i0,Option.bind_some,FM x s1,rb,IC s1,IC s2,IC s3,ED s1,ED s2,ED s3,Bool.not_true]
  generalize Wp x.Rects r0.X=mx at bx
  generalize Wq x.Rects r0.Y=my at by'
  have main : ∃ e,fG ⟨x.Name,x.Material,x.Gauge,x.Grain,x.Rects.map (bkR mx my),x.Cuts.map (bkR mx my),x.Forms.map (bkR mx my)⟩=some e∧cO ⟨x.Name,x.Material,x.Gauge,x.Grain,x.Rects.map (shR (vZ mx) (vZ my)),x.Cuts.map (shR (vZ mx) (vZ my)),x.Forms.map (shR (vZ mx) (vZ my))⟩=some e:=by
   have cmp:=Y0 bx by'
   by_cases hall:∀ r ∈ x.Rects++(x.Cuts++x.Forms),bkR mx my r=shR (vZ mx) (vZ my) r
   ·have m1:x.Rects.map (bkR mx my)=x.Rects.map (shR (vZ mx) (vZ my)):=List.map_congr_left fun r hr=>hall r (List.mem_append.2 (.inl hr))
    have m2:x.Cuts.map (bkR mx my)=x.Cuts.map (shR (vZ mx) (vZ my)):=List.map_congr_left fun r hr=>hall r (List.mem_append.2 (.inr (List.mem_append.2 (.inl hr))))
    have m3:x.Forms.map (bkR mx my)=x.Forms.map (shR (vZ mx) (vZ my)):=List.map_congr_left fun r hr=>hall r (List.mem_append.2 (.inr (List.mem_append.2 (.inr hr))))
    rw [m1,m2,m3]
    exact Um _
   ·have hex:∃ r ∈ x.Rects++(x.Cuts++x.Forms),¬ vR (bkR mx my r)∧¬ vR (shR (vZ mx) (vZ my) r):=by
     apply Classical.byContradiction
     intro hno
     refine hall fun r hr=>?_
     have hR:BH r:=by
      rcases List.mem_append.1 hr with h | h
      ·exact t1 r h
      ·rcases List.mem_append.1 h with h | h
       ·exact t2 r h
       ·exact t3 r h
     rcases cmp r hR with h | h
     ·exact h
     ·exact absurd ⟨r,hr,h⟩ hno
    obtain ⟨r,hr,v1,v2⟩:=hex
    obtain ⟨a,ha,_⟩:=Name_same x.Name
    obtain ⟨b,hb,_⟩:=Name_same x.Material
    have p1:=VK (x:=⟨x.Name,x.Material,x.Gauge,x.Grain,x.Rects.map (bkR mx my),x.Cuts.map (bkR mx my),x.Forms.map (bkR mx my)⟩) ha hb ⟨bkR mx my r,by show _ ∈ x.Rects.map _++(x.Cuts.map _++x.Forms.map _);rw [← List.map_append,← List.map_append];exact List.mem_map_of_mem hr,v1⟩
    have p2:=VK (x:=⟨x.Name,x.Material,x.Gauge,x.Grain,x.Rects.map (shR (vZ mx) (vZ my)),x.Cuts.map (shR (vZ mx) (vZ my)),x.Forms.map (shR (vZ mx) (vZ my))⟩) ha hb ⟨shR (vZ mx) (vZ my) r,by show _ ∈ x.Rects.map _++(x.Cuts.map _++x.Forms.map _);rw [← List.map_append,← List.map_append];exact List.mem_map_of_mem hr,v2⟩
    simp only [List.length_map] at p1 p2
    obtain ⟨e,e1,e2⟩:=Um ⟨x.Name,x.Material,x.Gauge,x.Grain,x.Rects.map (shR (vZ mx) (vZ my)),x.Cuts.map (shR (vZ mx) (vZ my)),x.Forms.map (shR (vZ mx) (vZ my))⟩
    exact ⟨e,by rw [p1,← p2];exact e1,e2⟩
  obtain ⟨e,e1,e2⟩:=main
  refine ⟨e,by rw [e1];rfl,fun he=>?_,fun k=>?_⟩
  ·subst he
   have:=Q7 e1
   simpa using this
  ·simp only [e2,Option.bind_some]
   by_cases he:e=0
   ·simp [he]
   ·simp [he]
theorem DI (r:Rect) {l:List Rect} (hl:l.length≤1000):He r l=some (l.any (vQ r)):=by
 have key:∃ z,aK (bC l r.X r.Y r.W r.H) 0=some z∧((∃ k:Nat,z=.inl (k:Int))∧l.any (vQ r)=true∨z=.inr ()∧l.any (vQ r)=false):=by
  have go : ∀ (m k:Nat),k+m=l.length→(∀ y ∈ l.take k,vQ r y=false)→∃ z,aK (bC l r.X r.Y r.W r.H) (k:Int)=some z∧((∃ k:Nat,z=.inl (k:Int))∧l.any (vQ r)=true∨z=.inr ()∧l.any (vQ r)=false):=by
   intro m
   induction m with
   | zero =>
     intro k h hb
     obtain rfl:k=l.length:=by omega
     rw [List.take_length] at hb
     exact ⟨.inr (),eP (by simp [bC]),.inr ⟨rfl,List.any_eq_false.2 fun y hy=>by simp [hb y hy]⟩⟩
   | succ m ih =>
     intro k h hb
     have hx:l[k]?=some (l[k]'(by omega)):=by simp [show k<l.length by omega]
     have hd:decide ((k:Int)<(l.length:Int))=true:=by simp;omega
     have hm:Js (l[k]'(by omega)) r.X r.Y r.W r.H=some (vQ r (l[k]'(by omega))):=by
      unfold Js
      rw [BD];rfl
     by_cases ho:vQ r (l[k]'(by omega))=true
     ·refine ⟨.inl (k:Int),eP ?_,.inl ⟨⟨k,rfl⟩,List.any_eq_true.2 ⟨_,List.mem_of_getElem? hx,ho⟩⟩⟩
      unfold bC
      simp only [hd,if_true,aP hx,Option.bind_some,hm,ho]
     ·have ho':vQ r (l[k]'(by omega))=false:=by simpa using ho
      rw [kJ (s':=((k+1:Nat):Int))]
      ·refine ih (k+1) (by omega) fun y hy=>?_
       rw [List.take_add_one,hx] at hy
       rcases List.mem_append.1 hy with hy | hy
       ·exact hb y hy
       ·simp at hy;rw [hy];exact ho'
      ·unfold bC
       simp only [hd,if_true,aP hx,Option.bind_some,hm,ho',Bool.false_eq_true,if_false]
       rw [aS (by omega) (by omega)];rfl
  exact go l.length 0 (by omega) (by simp)
 obtain ⟨z,hz,h⟩:=key
 unfold He dU eT
 rw [hz]
 rcases h with ⟨⟨k,rfl⟩,h⟩ | ⟨rfl,h⟩
 ·rw [h]
  have:decide ((k:Int) ≥ 0)=true:=by simp
  simp only [Option.bind_some,this]
 ·rw [h];rfl
def DN (s:Sheet) (y:Rect):Bool:=!(decide (wZ y ⟨0,0,s.Width,s.Height⟩)) || (s.Clamps.any (vQ y) || s.Used.any (vQ y))
theorem Y5 (l:LayoutT) (x:Piece) (hx:x.Rects.length≤12) (h1:l.Sheet.Clamps.length≤4) (h2:l.Sheet.Used.length≤48):aK (wO l x) 0=some (if x.Rects.any (DN l.Sheet) then .inl () else .inr ()):=by
 refine gX x.Rects (wO l x) (fun k=>(k:Int)) _ _ _ rfl (fun k y hy=>?_) ?_
 ·have hk:=(List.getElem?_eq_some_iff.1 hy).1
  unfold wO DN
  have hd:decide ((k:Int)<(x.Rects.length:Int))=true:=by simp;omega
  simp only [hd,if_true,aP hy,Option.bind_some,Xj,DI y (show l.Sheet.Clamps.length≤1000 by omega),DI y (show l.Sheet.Used.length≤1000 by omega)]
  rw [aS (a:=(k:Int)) (by omega) (by omega)]
  cases decide (wZ y ⟨0,0,l.Sheet.Width,l.Sheet.Height⟩) <;> cases l.Sheet.Clamps.any (vQ y) <;> cases l.Sheet.Used.any (vQ y) <;> rfl
 ·simp [wO]
theorem V6 (l:LayoutT) (x:Piece) (hx:x.Rects.length≤12) (h1:l.Sheet.Clamps.length≤4) (h2:l.Sheet.Used.length≤48):aK (iH l x) 0=some (if x.Rects.any (DN l.Sheet) then .inl () else .inr ()):=by
 refine gX x.Rects (iH l x) (fun k=>(k:Int)) _ _ _ rfl (fun k y hy=>?_) ?_
 ·have hk:=(List.getElem?_eq_some_iff.1 hy).1
  unfold iH DN
  have hd:decide ((k:Int)<(x.Rects.length:Int))=true:=by simp;omega
  simp only [hd,if_true,aP hy,Option.bind_some,Xk,Vl y _ (show l.Sheet.Clamps.length≤1000 by omega),Vl y _ (show l.Sheet.Used.length≤1000 by omega)]
  rw [aS (a:=(k:Int)) (by omega) (by omega)]
  cases decide (wZ y ⟨0,0,l.Sheet.Width,l.Sheet.Height⟩) <;> cases l.Sheet.Clamps.any (vQ y) <;> cases l.Sheet.Used.any (vQ y) <;> rfl
 ·simp [iH]
theorem O6 (l:LayoutT) (hp:l.Pieces.length≤8) (hx:∀ x ∈ l.Pieces,x.Rects.length≤12) (h1:l.Sheet.Clamps.length≤4) (h2:l.Sheet.Used.length≤48):aK (wP l) 0=some (if l.Pieces.any (fun x=>x.Rects.any (DN l.Sheet)) then .inl () else .inr ()):=by
 refine gX l.Pieces (wP l) (fun k=>(k:Int)) _ _ _ rfl (fun k y hy=>?_) ?_
 ·have hk:=(List.getElem?_eq_some_iff.1 hy).1
  unfold wP
  have hd:decide ((k:Int)<(l.Pieces.length:Int))=true:=by simp;omega
  simp only [hd,if_true,aP hy,Option.bind_some,Y5 l y (hx y (List.mem_of_getElem? hy)) h1 h2]
  rw [aS (a:=(k:Int)) (by omega) (by omega)]
  cases y.Rects.any (DN l.Sheet) <;> rfl
 ·simp [wP]
theorem V7 (l:LayoutT) (hp:l.Pieces.length≤8) (hx:∀ x ∈ l.Pieces,x.Rects.length≤12) (h1:l.Sheet.Clamps.length≤4) (h2:l.Sheet.Used.length≤48):aK (iI l) 0=some (if l.Pieces.any (fun x=>x.Rects.any (DN l.Sheet)) then .inl () else .inr ()):=by
 refine gX l.Pieces (iI l) (fun k=>(k:Int)) _ _ _ rfl (fun k y hy=>?_) ?_
 ·have hk:=(List.getElem?_eq_some_iff.1 hy).1
  unfold iI
  have hd:decide ((k:Int)<(l.Pieces.length:Int))=true:=by simp;omega
  simp only [hd,if_true,aP hy,Option.bind_some,V6 l y (hx y (List.mem_of_getElem? hy)) h1 h2]
  rw [aS (a:=(k:Int)) (by omega) (by omega)]
  cases y.Rects.any (DN l.Sheet) <;> rfl
 ·simp [iI]
def IV (x y:Piece):Bool:=x.Rects.any fun r=>y.Rects.any (vQ r)
def OB (l:List Piece) (k:Nat):Bool:=match l[k]? with
 | some x=>(l.take k).any (IV x)
 | none=>false
theorem Y6 (x y:Piece) (hx:x.Rects.length≤12) (hy:y.Rects.length≤12):aK (wQ x y) 0=some (if IV x y then .inl () else .inr ()):=by
 refine gX x.Rects (wQ x y) (fun k=>(k:Int)) _ _ _ rfl (fun k r hr=>?_) ?_
 ·have hk:=(List.getElem?_eq_some_iff.1 hr).1
  unfold wQ
  have hd:decide ((k:Int)<(x.Rects.length:Int))=true:=by simp;omega
  simp only [hd,if_true,aP hr,Option.bind_some,DI r (show y.Rects.length≤1000 by omega)]
  rw [aS (a:=(k:Int)) (by omega) (by omega)]
  rfl
 ·simp [wQ]
theorem O7 (l:LayoutT) (hp:l.Pieces.length≤8) (hx:∀ x ∈ l.Pieces,x.Rects.length≤12):aK (wS l) 0=some (if (List.range l.Pieces.length).any (OB l.Pieces) then .inl () else .inr ()):=by
 refine kS l.Pieces.length (wS l) (fun k=>(k:Int)) _ _ _ rfl (fun k hk=>?_) ?_
 ·have he:l.Pieces[k]?=some l.Pieces[k]:=by simp
  have hin:aK (wR l.Pieces[k] (l.Pieces.take k)) 0=some (if (l.Pieces.take k).any (IV l.Pieces[k]) then .inl () else .inr ()):=by
   refine gX (l.Pieces.take k) (wR l.Pieces[k] (l.Pieces.take k)) (fun k=>(k:Int)) _ _ _ rfl (fun j y hy=>?_) ?_
   ·have hj:=(List.getElem?_eq_some_iff.1 hy).1
    have hjl:(l.Pieces.take k).length≤8:=by rw [List.length_take];omega
    unfold wR
    have hd:decide ((j:Int)<((l.Pieces.take k).length:Int))=true:=by rw [decide_eq_true_eq];omega
    simp only [hd,if_true,aP hy,Option.bind_some,Y6 _ y (hx _ (List.getElem_mem hk)) (hx y (List.mem_of_mem_take (List.mem_of_getElem? hy)))]
    rw [aS (a:=(j:Int)) (by omega) (by omega)]
    cases IV l.Pieces[k] y <;> rfl
   ·simp [wR]
  unfold wS OB
  have hd:decide ((k:Int)<(l.Pieces.length:Int))=true:=by simp;omega
  simp only [hd,if_true,aP he,he,Option.bind_some,UZ (Nat.le_of_lt hk),hin]
  rw [aS (a:=(k:Int)) (by omega) (by omega)]
  cases (l.Pieces.take k).any (IV l.Pieces[k]) <;> rfl
 ·simp [wS]
theorem V8 (l:LayoutT) (hp:l.Pieces.length≤8) (hx:∀ x ∈ l.Pieces,x.Rects.length≤12):aK (iL l) 0=some (if (List.range l.Pieces.length).any (OB l.Pieces) then .inl () else .inr ()):=by
 refine kS l.Pieces.length (iL l) (fun k=>(k:Int)) _ _ _ rfl (fun k hk=>?_) ?_
 ·have he : l.Pieces[k]?=some l.Pieces[k]:=by simp
  have hlt:(l.Pieces.take k).length=k:=by rw [List.length_take];omega
  have hin:aK (iK l (k:Int)) 0=some (if (l.Pieces.take k).any (IV l.Pieces[k]) then .inl () else .inr ()):=by
   refine gX (l.Pieces.take k) (iK l (k:Int)) (fun k=>(k:Int)) _ _ _ rfl (fun j y hy=>?_) ?_
   ·have hj:=(List.getElem?_eq_some_iff.1 hy).1
    rw [hlt] at hj
    have hy':l.Pieces[j]?=some y:=by rw [List.getElem?_take] at hy;simpa [hj] using hy
    have h4:aK (iJ l (k:Int) (j:Int)) 0=some (if IV l.Pieces[k] y then .inl () else .inr ()):=by
     refine gX l.Pieces[k].Rects (iJ l (k:Int) (j:Int)) (fun k=>(k:Int)) _ _ _ rfl (fun i r hr=>?_) ?_
     ·have hi:=(List.getElem?_eq_some_iff.1 hr).1
      have hkl:=hx _ (List.getElem_mem hk)
      have hyl:=hx y (List.mem_of_getElem? hy')
      unfold iJ
      have hd:decide ((i:Int)<(l.Pieces[k].Rects.length:Int))=true:=by rw [decide_eq_true_eq];omega
      simp only [hd,if_true,aP he,aP hy',aP hr,Option.bind_some,Vl r _ (show y.Rects.length≤1000 by omega)]
      rw [aS (a:=(i:Int)) (by omega) (by omega)]
      rfl
     ·simp [iJ,aP he]
    unfold iK
    have hd:decide ((j:Int)<(k:Int))=true:=by simp;omega
    simp only [hd,if_true,h4,Option.bind_some]
    rw [aS (a:=(j:Int)) (by omega) (by omega)]
    cases IV l.Pieces[k] y <;> rfl
   ·rw [hlt];simp [iK]
  unfold iL OB
  have hd:decide ((k:Int)<(l.Pieces.length:Int))=true:=by simp;omega
  simp only [hd,if_true,he,Option.bind_some,hin]
  rw [aS (a:=(k:Int)) (by omega) (by omega)]
  cases (l.Pieces.take k).any (IV l.Pieces[k]) <;> rfl
 ·simp [iL]
theorem QP (l:LayoutT) (hp:l.Pieces.length≤8) (hs:∀ x ∈ l.Pieces,Sm x):(∃ c,aK (bZ l) 0=some (.inl c)∧aK (bW l) 0=some (.inl c))∨(aK (bZ l) 0=some (.inr ())∧aK (bW l) 0=some (.inr ())∧∀ x ∈ l.Pieces,x.Rects.length≤12):=by
 have key:∀ (m k:Nat),k+m=l.Pieces.length→(∀ x ∈ l.Pieces.take k,x.Rects.length≤12)→(∃ c,aK (bZ l) (k:Int)=some (.inl c)∧aK (bW l) (k:Int)=some (.inl c))∨(aK (bZ l) (k:Int)=some (.inr ())∧aK (bW l) (k:Int)=some (.inr ())∧∀ x ∈ l.Pieces,x.Rects.length≤12):=by
  intro m
  induction m with
  | zero =>
    intro k h hb;obtain rfl:k=l.Pieces.length:=by omega
    rw [List.take_length] at hb
    exact .inr ⟨eP (by simp [bZ]),eP (by simp [bW]),hb⟩
  | succ m ih =>
    intro k h hb
    have hx:l.Pieces[k]?=some (l.Pieces[k]'(by omega)):=by simp [show k<l.Pieces.length by omega]
    have hd:decide ((k:Int)<(l.Pieces.length:Int))=true:=by simp;omega
    obtain ⟨e,e1,e2,e3⟩:=Vb (hs _ (List.getElem_mem (show k<l.Pieces.length by omega)))
    have i1:aL (k:Int) 1=((k+1:Nat):Int):=by rw [aS (by omega) (by omega)];rfl
    have b2:bW l (k:Int)=if e=0 then some (.inl ((k+1:Nat):Int)) else some (.inr (.inl e)):=by
     unfold bW
     simp only [hd,if_true,aP hx,Option.bind_some,i1]
     exact e3 _
    by_cases he:e=0
    ·subst he
     rw [if_pos rfl] at b2
     rw [kJ (s':=((k+1:Nat):Int)),kJ b2]
     ·refine ih (k+1) (by omega) fun x hxm=>?_
      rw [List.take_add_one,hx] at hxm
      rcases List.mem_append.1 hxm with h | h
      ·exact hb x h
      ·simp at h;rw [h];exact e2 rfl
     ·unfold bZ
      simp only [hd,if_true,aP hx,Option.bind_some,e1,bne_self_eq_false,Bool.false_eq_true,if_false,i1]
    ·rw [if_neg he] at b2
     refine .inl ⟨e,eP ?_,eP b2⟩
     have he':(e != 0)=true:=by rw [bne_iff_ne];exact he
     unfold bZ
     simp only [hd,if_true,aP hx,Option.bind_some,e1,he']
 exact key l.Pieces.length 0 (by omega) (by simp)
theorem JY (l:LayoutT) (hs:∀ x ∈ l.Pieces,Sm x):∃ b,vX l=some b∧dP l=some b:=by
 obtain ⟨b,b1,b2⟩:=BI l.Sheet
 unfold vX dP
 rw [b1,b2]
 simp only [Option.bind_some]
 by_cases hb:b=0
 ·subst hb
  have sl:=Un b1
  simp only [bne_self_eq_false,Bool.false_eq_true,if_false]
  by_cases h8:(l.Pieces.length:Int)>8
  ·exact ⟨4,by simp [h8],by simp [h8]⟩
  have hp:l.Pieces.length≤8:=by omega
  simp only [h8,decide_false,Bool.false_eq_true,if_false]
  rcases QP l hp hs with ⟨c,c1,c2⟩ | ⟨c1,c2,c3⟩
  ·exact ⟨c,by rw [c1];rfl,by rw [c2];rfl⟩
  ·simp only [c1,c2,Option.bind_some,O6 l hp c3 sl.1 sl.2,V7 l hp c3 sl.1 sl.2,O7 l hp c3,V8 l hp c3]
   cases l.Pieces.any (fun x=>x.Rects.any (DN l.Sheet)) with
   | true=>exact ⟨13,rfl,rfl⟩
   | false =>
   cases (List.range l.Pieces.length).any (OB l.Pieces) with
   | true=>exact ⟨7,rfl,rfl⟩
   | false=>exact ⟨0,rfl,rfl⟩
 ·have hb':(b != 0)=true:=by rw [bne_iff_ne];exact hb
  exact ⟨b,by simp [hb'],by simp [hb']⟩
end Go.SM
namespace Go.SM
open Go Go.VI
structure LV (l:LayoutT):Prop where
 n:l.Pieces.length≤8
 sh:kP l.Sheet=some 0
 r12:∀ x ∈ l.Pieces,x.Rects.length≤12
 pe:∀ x ∈ l.Pieces,qZ x=some 0
 off:∀ x ∈ l.Pieces,∀ r ∈ x.Rects,wZ r ⟨0,0,l.Sheet.Width,l.Sheet.Height⟩∧l.Sheet.Clamps.any (vQ r)=false∧l.Sheet.Used.any (vQ r)=false
 hit:∀ k,k<l.Pieces.length→OB l.Pieces k=false
theorem U3 (l:LayoutT) (hp:l.Pieces.length≤8) (hs:∀ x ∈ l.Pieces,Sm x) (h:aK (bZ l) 0=some (.inr ())):∀ x ∈ l.Pieces,qZ x=some 0:=by
 have key:∀ (m k:Nat),k+m=l.Pieces.length→aK (bZ l) (k:Int)=some (.inr ())→∀ x ∈ l.Pieces.drop k,qZ x=some 0:=by
  intro m
  induction m with
  | zero =>
    intro k h hb;obtain rfl:k=l.Pieces.length:=by omega
    intro x hx;simp at hx
  | succ m ih =>
    intro k h hb
    have hx:l.Pieces[k]?=some (l.Pieces[k]'(by omega)):=by simp [show k<l.Pieces.length by omega]
    have hd:decide ((k:Int)<(l.Pieces.length:Int))=true:=by simp;omega
    obtain ⟨e,e1,_⟩:=Vb (hs _ (List.getElem_mem (show k<l.Pieces.length by omega)))
    have i1:aL (k:Int) 1=((k+1:Nat):Int):=by rw [aS (by omega) (by omega)];rfl
    by_cases he:e=0
    ·subst he
     rw [kJ (s':=((k+1:Nat):Int))] at hb
     ·intro x hxm
      rw [List.drop_eq_getElem_cons (show k<l.Pieces.length by omega)] at hxm
      rcases List.mem_cons.1 hxm with rfl | hxm
      ·exact e1
      ·exact ih (k+1) (by omega) hb x hxm
     ·unfold bZ
      simp only [hd,if_true,aP hx,Option.bind_some,e1,bne_self_eq_false,Bool.false_eq_true,if_false,i1]
    ·have he':(e != 0)=true:=by rw [bne_iff_ne];exact he
     rw [eP (r:=.inl e)] at hb
     ·cases hb
     ·unfold bZ
      simp only [hd,if_true,aP hx,Option.bind_some,e1,he']
 exact key l.Pieces.length 0 (by omega) h
theorem IA (l:LayoutT) (hs:∀ x ∈ l.Pieces,Sm x):∃ b,vX l=some b∧dP l=some b∧(b=0→LV l):=by
 obtain ⟨b,b1,b2⟩:=JY l hs
 refine ⟨b,b1,b2,fun hb0=>?_⟩
 subst hb0
 obtain ⟨c,c1,_⟩:=BI l.Sheet
 unfold vX at b1
 rw [c1] at b1
 simp only [Option.bind_some] at b1
 by_cases hc:c=0
 ·subst hc
  have sl:=Un c1
  simp only [bne_self_eq_false,Bool.false_eq_true,if_false] at b1
  by_cases h8:(l.Pieces.length:Int)>8
  ·simp [h8] at b1
  have hp:l.Pieces.length≤8:=by omega
  simp only [h8,decide_false,Bool.false_eq_true,if_false] at b1
  rcases QP l hp hs with ⟨d,d1,_⟩ | ⟨d1,_,d3⟩
  ·exfalso
   rw [d1] at b1
   simp only [Option.bind_some] at b1
   -- the error of a piece is not 0
   have hne:∀ (m k:Nat),k+m=l.Pieces.length→aK (bZ l) (k:Int)=some (.inl d)→d≠0:=by
    intro m
    induction m with
    | zero =>
      intro k h hb;obtain rfl:k=l.Pieces.length:=by omega
      rw [eP (r:=.inr ()) (by simp [bZ])] at hb
      cases hb
    | succ m ih =>
      intro k h hb
      have hx:l.Pieces[k]?=some (l.Pieces[k]'(by omega)):=by simp [show k<l.Pieces.length by omega]
      have hd:decide ((k:Int)<(l.Pieces.length:Int))=true:=by simp;omega
      obtain ⟨e,e1,_⟩:=Vb (hs _ (List.getElem_mem (show k<l.Pieces.length by omega)))
      have i1:aL (k:Int) 1=((k+1:Nat):Int):=by rw [aS (by omega) (by omega)];rfl
      by_cases he:e=0
      ·subst he
       rw [kJ (s':=((k+1:Nat):Int))] at hb
       ·exact ih (k+1) (by omega) hb
       ·unfold bZ
        simp only [hd,if_true,aP hx,Option.bind_some,e1,bne_self_eq_false,Bool.false_eq_true,if_false,i1]
      ·have he':(e != 0)=true:=by rw [bne_iff_ne];exact he
       rw [eP (r:=.inl e)] at hb
       ·injection hb with hb;injection hb with hb;rw [← hb];exact he
       ·unfold bZ
        simp only [hd,if_true,aP hx,Option.bind_some,e1,he']
   exact hne l.Pieces.length 0 (by omega) d1 (Option.some.inj b1)
  ·simp only [d1,Option.bind_some,O6 l hp d3 sl.1 sl.2,O7 l hp d3] at b1
   cases h3:l.Pieces.any (fun x=>x.Rects.any (DN l.Sheet)) with
   | true=>rw [h3] at b1;exact absurd (Option.some.inj b1) (by decide)
   | false =>
   cases h6:(List.range l.Pieces.length).any (OB l.Pieces) with
   | true=>rw [h3,h6] at b1;exact absurd (Option.some.inj b1) (by decide)
   | false =>
     refine ⟨hp,c1,d3,U3 l hp hs d1,fun x hx r hr=>?_,fun k hk=>?_⟩
     ·have q1:=List.any_eq_false.1 h3 x hx
      rw [Bool.not_eq_true,List.any_eq_false] at q1
      have q2:=q1 r hr
      unfold DN at q2
      simp only [Bool.or_eq_true,not_or,Bool.not_eq_true',Bool.not_eq_false,Bool.not_eq_true,decide_eq_true_eq] at q2
      exact q2
     ·have:=List.any_eq_false.1 h6 k (List.mem_range.2 hk)
      simpa using this
 ·have hb':(c != 0)=true:=by rw [bne_iff_ne];exact hc
  simp only [hb',if_true] at b1
  exact absurd (Option.some.inj b1) hc
end Go.SM
namespace Go.SM
open Go Go.VI Go.Cells
def regs (l:LayoutT):List (List Rect):=l.Pieces.map fun x=>x.Rects
noncomputable def CF (R:List (List Rect)) (xs ys:List Int):List EdgeT:=
 ys.flatMap (fun y=>(rH (hS R y)).map fun p=>mkE ⟨p.1,y,p.2,y⟩ (kM R p.1 y) (kM R p.1 (y-1)))++xs.flatMap fun x=>(rH (vS R x)).map fun p=>mkE ⟨x,p.1,x,p.2⟩ (kM R x p.1) (kM R (x-1) p.1)
section
variable {l:LayoutT} (n8:l.Pieces.length≤8) (r12:∀ x ∈ l.Pieces,x.Rects.length≤12) (hv:∀ x ∈ l.Pieces,EN x.Rects)
include n8 r12 hv
theorem U0:EN (regs l).flatten:=fun r hr=>by
 obtain ⟨t,ht,hr⟩:=List.mem_flatten.1 hr
 obtain ⟨x,hx,rfl⟩:=List.mem_map.1 ht
 exact hv x hx r hr
omit hv in
theorem NZ:(regs l).flatten.length≤96:=by
 have:∀ p:List Piece,(∀ x ∈ p,x.Rects.length≤12)→(p.map fun x=>x.Rects).flatten.length≤12*p.length:=by
  intro p
  induction p with
  | nil=>intro _;simp
  | cons x p ih =>
    intro h
    have h1:=ih fun y hy=>h y (List.mem_cons_of_mem _ hy)
    have h2:=h x List.mem_cons_self
    simp only [List.map_cons,List.flatten_cons,List.length_append,List.length_cons]
    omega
 have:=this l.Pieces r12
 unfold regs;omega
omit r12 hv in
theorem V4:(regs l).length≤900:=by unfold regs;rw [List.length_map];omega
omit n8 hv in
theorem V3:∀ t ∈ regs l,t.length≤1000:=fun t ht=>by
 obtain ⟨x,hx,rfl⟩:=List.mem_map.1 ht
 have:=r12 x hx;omega
theorem U6 {xs ys:List Int} (gx:Ew xs (xsL (regs l).flatten)) (gy:Ew ys (ysL (regs l).flatten)):Lay (regs l) xs ys:=
 ⟨gx,gy,U0 n8 r12 hv,by have:=NZ n8 r12;omega,V4 n8⟩
theorem at_eq (x y:Int):Hu l x y=some (kM (regs l) x y):=by
 unfold Hu
 have h2:=Xz l.Pieces (Ry l x y) (fun p=>cov p.Rects x y) (fun k=>.inl (some (k:Int))) (.inr ()) (fun k p hp=>?s) ?f
 ·rw [h2]
  unfold kM Tz Ao regs
  rw [List.findIdx?_map]
  show _=some ((l.Pieces.findIdx? fun p=>cov p.Rects x y).map fun i=>(i:Int))
  cases l.Pieces.findIdx? (fun p=>cov p.Rects x y) <;> rfl
 case s =>
  have h1:=aY hp
  have hpm:=List.mem_of_getElem? hp
  have hl:=r12 p hpm
  have h3:aK (Na x y p) 0=some (if p.Rects.any (fun r=>inC r x y) then .inl () else .inr ()):=by
   refine DC p.Rects (Na x y p) (fun r=>inC r x y) (.inr ()) (.inl ()) (fun k r hr=>?_) ?_
   ·have h1:=aY hr
    obtain ⟨e1,e2⟩:=JU (hv p hpm r (List.mem_of_getElem? hr))
    unfold Na
    simp only [h1,Int.ofNat_lt,decide_true,if_true,aP hr,Option.bind_some,e1,e2]
    have hb':(if decide (r.X≤x) then (if decide (x<r.X+r.W) then (if decide (r.Y≤y) then some (decide (y<r.Y+r.H)) else some false) else some false) else some false)=some (inC r x y):=by
     unfold inC
     cases decide (r.X≤x) <;> cases decide (x<r.X+r.W) <;> cases decide (r.Y≤y) <;> simp
    rw [hb',Option.bind_some,aX k (by omega)]
   ·simp [Na]
  unfold Ry
  simp only [h1,Int.ofNat_lt,decide_true,if_true,aP hp,Option.bind_some,h3,aX k (by omega)]
  show _=if (p.Rects.any fun r=>inC r x y)=true then _ else _
  cases p.Rects.any (fun r=>inC r x y) <;> rfl
 case f=>simp [Ry]
theorem KS:aK (Bg l) (0,[],[])=some (xsL (regs l).flatten,ysL (regs l).flatten):=by
 have hfl:∀ k,k≤l.Pieces.length→(xsL ((l.Pieces.take k).map fun x=>x.Rects).flatten).length≤200∧(ysL ((l.Pieces.take k).map fun x=>x.Rects).flatten).length≤200:=fun k hk=>by
  have:=NZ (l:=⟨l.Sheet,l.Pieces.take k⟩) (by simp only [List.length_take];omega) (fun x hx=>r12 x (List.mem_of_mem_take hx))
  unfold regs at this
  simp only at this
  rw [Xh,Xi];omega
 obtain ⟨r,q1,q2⟩:=wU l.Pieces (fun k (s:List Int×List Int)=>((k:Int),s.1,s.2)) (Bg l) (fun s=>(s.1,s.2)) (fun k s=>s=(xsL ((l.Pieces.take k).map fun x=>x.Rects).flatten,ysL ((l.Pieces.take k).map fun x=>x.Rects).flatten)) ([],[]) (by simp [xsL,ysL])
  (fun k p s hp hI=>by
   have h1:=aY hp
   have hd:decide ((k:Int)<(l.Pieces.length:Int))=true:=by simp [h1]
   have hpm:=List.mem_of_getElem? hp
   have hl:=r12 p hpm
   have hf:=hfl k (by omega)
   subst hI
   obtain ⟨r,t1,t2⟩:=wU p.Rects (fun k (s:List Int×List Int)=>((k:Int),s.1,s.2)) (Fp p) (fun s=>(s.1,s.2)) (fun j s=>s=(xsL ((l.Pieces.take k).map fun x=>x.Rects).flatten++xsL (p.Rects.take j),ysL ((l.Pieces.take k).map fun x=>x.Rects).flatten++ysL (p.Rects.take j))) (xsL ((l.Pieces.take k).map fun x=>x.Rects).flatten,ysL ((l.Pieces.take k).map fun x=>x.Rects).flatten) (by simp [xsL,ysL])
    (fun j r s hr hI=>by
     have h2:=aY hr
     have hd:decide ((j:Int)<(p.Rects.length:Int))=true:=by simp [h2]
     obtain ⟨e1,e2⟩:=JU (hv p hpm r (List.mem_of_getElem? hr))
     subst hI
     unfold Fp
     simp only [hd,if_true,aP hr,Option.bind_some,e1,e2]
     have l1:(xsL (p.Rects.take j)).length≤200:=by rw [Xh,List.length_take];omega
     have l2:(ysL (p.Rects.take j)).length≤200:=by rw [Xi,List.length_take];omega
     rw [nA (by simp only [List.length_append,List.length_cons,List.length_nil,LIM];omega),nA (by simp only [List.length_append,List.length_cons,List.length_nil,LIM];omega)]
     simp only [Option.bind_some,aX j (by omega)]
     refine ⟨(xsL ((l.Pieces.take k).map fun x=>x.Rects).flatten++xsL (p.Rects.take (j+1)),ysL ((l.Pieces.take k).map fun x=>x.Rects).flatten++ysL (p.Rects.take (j+1))), ?_,rfl⟩
     rw [oZ hr,Vi,Vj]
     simp [xsL,ysL]) (fun s _=>by simp [Fp])
   rw [List.take_length] at t2
   unfold Bg
   simp only [hd,if_true,aP hp,Option.bind_some,aX k (by omega)]
   rw [show ((0:Int),xsL ((l.Pieces.take k).map fun x=>x.Rects).flatten,ysL ((l.Pieces.take k).map fun x=>x.Rects).flatten)=(((0:Nat):Int),xsL ((l.Pieces.take k).map fun x=>x.Rects).flatten,ysL ((l.Pieces.take k).map fun x=>x.Rects).flatten) from rfl,t1,t2]
   refine ⟨(xsL ((l.Pieces.take (k+1)).map fun x=>x.Rects).flatten,ysL ((l.Pieces.take (k+1)).map fun x=>x.Rects).flatten), ?_,rfl⟩
   rw [oZ hp,List.map_append,List.flatten_append,Vi,Vj]
   simp) (fun s _=>by simp [Bg])
 rw [List.take_length] at q2
 rw [show ((0:Int),([]:List Int),([]:List Int))=(((0:Nat):Int),(([],[]):List Int×List Int).1,(([],[]):List Int×List Int).2) from rfl,q1,q2]
 rfl
theorem WO:∃ xs ys,Lay (regs l) xs ys∧Di l=some (CF (regs l) xs ys)∧(CF (regs l) xs ys).length≤200000:=by
 have hn:=NZ n8 r12
 obtain ⟨xs,x1,x2,x3⟩:=ZJ (l:=xsL (regs l).flatten) (by rw [Xh];omega)
 obtain ⟨ys,y1,y2,y3⟩:=ZJ (l:=ysL (regs l).flatten) (by rw [Xi];omega)
 have hL:=U6 n8 r12 hv ⟨x2,x3⟩ ⟨y2,y3⟩
 have lx:xs.length≤200:=by have:=Ah x2 fun x m=>(x3 x).1 m;rw [Xh] at this;omega
 have ly:ys.length≤200:=by have:=Ah y2 fun x m=>(y3 x).1 m;rw [Xi] at this;omega
 have rowH:∀ y,(-1048576≤y∧y≤1048576)→∃ L,fZ xs l.Sheet.Name l.Sheet.Material l.Sheet.Gauge l.Sheet.Grain l.Sheet.Width l.Sheet.Height l.Sheet.Clamps l.Sheet.Used l.Pieces y y=some ((rH (hS (regs l) y)).map fun p=>mkE ⟨p.1,y,p.2,y⟩ (kM (regs l) p.1 y) (kM (regs l) p.1 (y-1)))∧L=rH (hS (regs l) y)∧L.length≤xs.length:=fun y hy=>by
  have hA:=X7 hL y
  obtain ⟨L,g1,g2,g3⟩:=N9 hA (side:=fun i=>Jo i l.Sheet.Name l.Sheet.Material l.Sheet.Gauge l.Sheet.Grain l.Sheet.Width l.Sheet.Height l.Sheet.Clamps l.Sheet.Used l.Pieces y) (fun i x hx _=>by
   show (Hu l x y).bind (fun r5=>(Hu l x (aJ y 1)).bind fun r6=>some (r5,r6))=_
   rw [bA (by omega) (by omega),at_eq n8 r12 hv,at_eq n8 r12 hv];rfl) (line:=fun a b=>Jp a b y) (ln:=fun a b=>⟨a,y,b,y⟩) (fun a b=>rfl)
  have e:rH (hS (regs l) y)=L:=Xd g2
  exact ⟨L,by rw [SA,g1,e],e.symm,g3⟩
 have rowV:∀ x,(-1048576≤x∧x≤1048576)→∃ L,gB ys l.Sheet.Name l.Sheet.Material l.Sheet.Gauge l.Sheet.Grain l.Sheet.Width l.Sheet.Height l.Sheet.Clamps l.Sheet.Used l.Pieces x x=some ((rH (vS (regs l) x)).map fun p=>mkE ⟨x,p.1,x,p.2⟩ (kM (regs l) x p.1) (kM (regs l) (x-1) p.1))∧L=rH (vS (regs l) x)∧L.length≤ys.length:=fun x hx=>by
  have hA:=X8 hL x
  obtain ⟨L,g1,g2,g3⟩:=N9 hA (side:=fun i=>Jq i l.Sheet.Name l.Sheet.Material l.Sheet.Gauge l.Sheet.Grain l.Sheet.Width l.Sheet.Height l.Sheet.Clamps l.Sheet.Used l.Pieces x) (fun i y hy _=>by
   show (Hu l x y).bind (fun r5=>(Hu l (aJ x 1) y).bind fun r6=>some (r5,r6))=_
   rw [bA (by omega) (by omega),at_eq n8 r12 hv,at_eq n8 r12 hv];rfl) (line:=fun a b=>Jr a b x) (ln:=fun a b=>⟨x,a,x,b⟩) (fun a b=>rfl)
  have e:rH (vS (regs l) x)=L:=Xd g2
  exact ⟨L,by rw [SB,g1,e],e.symm,g3⟩
 obtain ⟨r,q1,q2,q3⟩:=wU ys (fun k (s:List EdgeT)=>((k:Int),s)) (Fq l xs ys) (fun s=>s) (fun k s=>s=(ys.take k).flatMap (fun y=>(rH (hS (regs l) y)).map fun p=>mkE ⟨p.1,y,p.2,y⟩ (kM (regs l) p.1 y) (kM (regs l) p.1 (y-1)))∧s.length≤200*k) [] ⟨rfl,by simp⟩
  (fun k y s hy hI=>by
   have hk:=aY hy
   have hd:decide ((k:Int)<(ys.length:Int))=true:=by simp [hk]
   obtain ⟨L,g1,g2,g3⟩:=rowH y (hL.Y.within y (List.mem_of_getElem? hy))
   have hrl:((rH (hS (regs l) y)).map fun p=>mkE ⟨p.1,y,p.2,y⟩ (kM (regs l) p.1 y) (kM (regs l) p.1 (y-1))).length≤200:=by rw [List.length_map,← g2];omega
   have hsl:=hI.2
   unfold Fq
   simp only [hd,if_true,aP hy,Option.bind_some,g1,aX k (by omega)]
   rw [nA (by unfold LIM;omega)]
   refine ⟨_,rfl, ?_,by rw [List.length_append];omega⟩
   rw [oZ hy,List.flatMap_append,hI.1]
   simp) (fun s _=>by simp [Fq])
 rw [List.take_length] at q2
 obtain ⟨r',t1,t2,t3⟩:=wU xs (fun k (s:List EdgeT)=>((k:Int),s)) (Fv l xs ys) (fun s=>s) (fun k s=>s=r++(xs.take k).flatMap (fun x=>(rH (vS (regs l) x)).map fun p=>mkE ⟨x,p.1,x,p.2⟩ (kM (regs l) x p.1) (kM (regs l) (x-1) p.1))∧s.length≤40000+200*k) r ⟨by simp,by omega⟩
  (fun k x s hx hI=>by
   have hk:=aY hx
   have hd:decide ((k:Int)<(xs.length:Int))=true:=by simp [hk]
   obtain ⟨L,g1,g2,g3⟩:=rowV x (hL.X.within x (List.mem_of_getElem? hx))
   have hrl:((rH (vS (regs l) x)).map fun p=>mkE ⟨x,p.1,x,p.2⟩ (kM (regs l) x p.1) (kM (regs l) (x-1) p.1)).length≤200:=by rw [List.length_map,← g2];omega
   have hsl:=hI.2
   unfold Fv
   simp only [hd,if_true,aP hx,Option.bind_some,g1,aX k (by omega)]
   rw [nA (by unfold LIM;omega)]
   refine ⟨_,rfl, ?_,by rw [List.length_append];omega⟩
   rw [oZ hx,List.flatMap_append,hI.1]
   simp) (fun s _=>by simp [Fv])
 rw [List.take_length] at t2
 have e:r'=CF (regs l) xs ys:=by rw [t2,q2];rfl
 refine ⟨xs,ys,hL, ?_,by rw [← e];omega⟩
 unfold Di
 rw [KS n8 r12 hv]
 simp only [Option.bind_some,x1,y1]
 rw [show ((0:Int),([]:List EdgeT))=(((0:Nat):Int),[]) from rfl,q1]
 simp only [Option.bind_some]
 rw [show ((0:Int),r)=(((0:Nat):Int),r) from rfl,t1,e]
 rfl
end
end Go.SM
namespace Go.SM
open Go Go.VI
end Go.SM
namespace Go.SM
open Go Go.VI Go.Cells
noncomputable def Nu (R:List (List Rect)) (xs ys:List Int):List Ln:=
 ys.flatMap (fun y=>(rH (hS R y)).map fun p=>⟨⟨p.1,y,p.2,y⟩,nm (kM R p.1 (y-1)),nm (kM R p.1 y)⟩)++xs.flatMap fun x=>(rH (vS R x)).map fun p=>⟨⟨x,p.1,x,p.2⟩,nm (kM R (x-1) p.1),nm (kM R x p.1)⟩
section
variable {R:List (List Rect)} {xs ys:List Int} (h:Lay R xs ys) (hk:∀ t ∈ R,t.length≤1000) (lx:xs.length≤1000) (ly:ys.length≤1000)
include h
theorem WE {i j:Nat} {x y:Int} (hx:xs[i]?=some x) (hi:i+1<xs.length) (hy:ys[j]?=some y):cellV R xs ys (i+1) (j+1)=nm (kM R x y)∧cellV R xs ys (i+1) j=nm (kM R x (y-1)):=by
 obtain ⟨_,_,_,o1,o2,_⟩:=AR h
 have hjl:=aY hy
 have neg:∀ {x y:Int},Ao R x y=none→nm (kM R x y)=-1:=fun {x y} e=>by rw [xC e];rfl
 constructor
 ·unfold cellV
  by_cases hj:j+1<ys.length
  ·rw [if_pos ⟨by omega,by omega,hi,hj⟩]
   simp only [Nat.add_sub_cancel,nM hx,nM hy,JF]
  ·rw [if_neg (by omega),neg (o2 y (by rw [show ys.length-1=j by omega];exact hy) x y (Int.le_refl y))]
 ·unfold cellV
  by_cases hj:0<j
  ·rw [if_pos ⟨by omega,hj,hi,hjl⟩]
   obtain ⟨y0,hy0⟩:∃ y0,ys[j-1]?=some y0:=⟨_,List.getElem?_eq_getElem (by omega)⟩
   obtain ⟨h1,h2⟩:=Dp (QR h) hy0 (by rw [show j-1+1=j by omega];exact hy)
   simp only [Nat.add_sub_cancel,nM hx,nM hy0]
   rw [← JF]
   have:=congrFun (h2 (y-1) (by omega) (by omega)) x
   unfold kM
   rw [this]
  ·obtain rfl:j=0:=by omega
   rw [if_neg (by omega),neg (o1 y hy x (y-1) (by omega))]
theorem SQ {i j:Nat} {x y:Int} (hx:xs[i]?=some x) (hy:ys[j]?=some y) (hj:j+1<ys.length):cellV R xs ys (i+1) (j+1)=nm (kM R x y)∧cellV R xs ys i (j+1)=nm (kM R (x-1) y):=by
 obtain ⟨o1,o2,_⟩:=AR h
 have hil:=aY hx
 have neg:∀ {x y:Int},Ao R x y=none→nm (kM R x y)=-1:=fun {x y} e=>by rw [xC e];rfl
 constructor
 ·unfold cellV
  by_cases hi:i+1<xs.length
  ·rw [if_pos ⟨by omega,by omega,hi,hj⟩]
   simp only [Nat.add_sub_cancel,nM hx,nM hy,JF]
  ·rw [if_neg (by omega),neg (o2 x (by rw [show xs.length-1=i by omega];exact hx) x y (Int.le_refl x))]
 ·unfold cellV
  by_cases hi:0<i
  ·rw [if_pos ⟨hi,by omega,hil,hj⟩]
   obtain ⟨x0,hx0⟩:∃ x0,xs[i-1]?=some x0:=⟨_,List.getElem?_eq_getElem (by omega)⟩
   obtain ⟨h1,h2⟩:=Dp (QQ h) hx0 (by rw [show i-1+1=i by omega];exact hx)
   simp only [Nat.add_sub_cancel,nM hy,nM hx0]
   rw [← JF]
   have:=congrFun (h2 (x-1) (by omega) (by omega)) y
   unfold kM
   rw [this]
  ·obtain rfl:i=0:=by omega
   rw [if_neg (by omega),neg (o1 x hx (x-1) y (by omega))]
include lx ly
theorem J9 {j:Nat} {y:Int} (hy:ys[j]?=some y) (s:List Ln) {out0:List Ln} (h0:out0.length≤5000000) (hout:∀ q ∈ out0,q.At.Y2<y) :
  aK (iU (xs,ys) (Lu R xs ys) ((j:Int),s)) (0,out0)=some (out0++(rH (hS R y)).map fun p=>⟨⟨p.1,y,p.2,y⟩,nm (kM R p.1 (y-1)),nm (kM R p.1 y)⟩)∧(rH (hS R y)).length≤xs.length:=by
 have hjl:=aY hy
 obtain ⟨L,g1,g2,g3⟩:=ZA (X7 h y) (ln:=fun a b=>⟨a,y,b,y⟩) (body:=iU (xs,ys) (Lu R xs ys) ((j:Int),s)) (fun k x x' out hx hx'=>by
  have hkl:=aY hx'
  obtain ⟨c1,c2⟩:=WE h hx hkl hy
  have d:decide (((k+1:Nat):Int)<(xs.length:Int))=true:=by simp;omega
  have g0:=Rw (R:=R) xs ys (k+1) (by omega)
  have r1:=Lx (R:=R) xs ys (k+1) j (by omega)
  have r2:=Lx (R:=R) xs ys (k+1) (j+1) (by omega)
  unfold iU
  simp only [aX k (by omega),aX j (by omega),d,if_true,aP hx,aP hy,aP hx',aP g0,aP r1,aP r2,Option.bind_some,c1,c2]) (fun k out hk1 hk2=>by
  have d:decide (aL (k:Int) 1<(xs.length:Int))=false:=by rw [aX k (by omega)];simp;omega
  unfold iU
  simp only [d,Bool.false_eq_true,if_false]) (fun a b e e'=>by unfold cS;simp) (fun a e e'=>rfl) h0 (fun q hq x x' _ hc=>by have:=hout q hq;have:=hc.2.1;simp only at this;omega)
 have e:rH (hS R y)=L:=Xd g2
 rw [e];exact ⟨g1,g3⟩
theorem L6 {i:Nat} {x:Int} (hx:xs[i]?=some x) (s:List Ln) {out0:List Ln} (h0:out0.length≤5000000) (hout:∀ q ∈ out0,(q.At.X2<x)∨(q.At.Y1=q.At.Y2∧q.At.X1<q.At.X2)) :
  aK (iX (xs,ys) (Lu R xs ys) ((i:Int),s)) (0,out0)=some (out0++(rH (vS R x)).map fun p=>⟨⟨x,p.1,x,p.2⟩,nm (kM R (x-1) p.1),nm (kM R x p.1)⟩)∧(rH (vS R x)).length≤ys.length:=by
 have hil:=aY hx
 obtain ⟨L,g1,g2,g3⟩:=ZA (X8 h x) (ln:=fun a b=>⟨x,a,x,b⟩) (body:=iX (xs,ys) (Lu R xs ys) ((i:Int),s)) (fun k y y' out hy hy'=>by
  have hkl:=aY hy'
  obtain ⟨c1,c2⟩:=SQ h hx hy hkl
  have d:decide (((k+1:Nat):Int)<(ys.length:Int))=true:=by simp;omega
  have g0:=Rw (R:=R) xs ys i (by omega)
  have g0':=Rw (R:=R) xs ys (i+1) (by omega)
  have r1:=Lx (R:=R) xs ys i (k+1) (by omega)
  have r2:=Lx (R:=R) xs ys (i+1) (k+1) (by omega)
  unfold iX
  simp only [aX k (by omega),aX i (by omega),d,if_true,aP hx,aP hy,aP hy',aP g0,aP g0',aP r1,aP r2,Option.bind_some,c1,c2]) (fun k out hk1 hk2=>by
  have d:decide (aL (k:Int) 1<(ys.length:Int))=false:=by rw [aX k (by omega)];simp;omega
  unfold iX
  simp only [d,Bool.false_eq_true,if_false]) (fun a b e e'=>by unfold cS;simp) (fun a e e'=>rfl) h0 (fun q hq y y' hyy hc=>by
  obtain ⟨c1,c2,c3⟩:=hc
  simp only at c1 c2 c3
  have:=hout q hq
  omega)
 have e:rH (vS R x)=L:=Xd g2
 rw [e];exact ⟨g1,g3⟩
theorem EP:∃ r,aK (iW (xs,ys) (Lu R xs ys)) (0,[])=some r∧aK (iY (xs,ys) (Lu R xs ys)) (0,r)=some (Nu R xs ys)∧(Nu R xs ys).length≤2000000:=by
 have isr:∀ {s:Int→Int} {p:Int×Int},p ∈ rH s→p.1<p.2:=fun {s p} hp=>by
  unfold rH at hp
  split at hp
  ·rename_i hx
   exact (((Classical.choose_spec hx).2 p.1 p.2).1 hp).1
  ·cases hp
 obtain ⟨r,q1,q2,q3,q4⟩:=wU ys (fun k (s:List Ln)=>((k:Int),s)) (iW (xs,ys) (Lu R xs ys)) (fun s=>s) (fun k s=>s=(ys.take k).flatMap (fun y=>(rH (hS R y)).map fun p=>⟨⟨p.1,y,p.2,y⟩,nm (kM R p.1 (y-1)),nm (kM R p.1 y)⟩)∧s.length≤1000*k∧∀ q ∈ s,q.At.Y1=q.At.Y2∧q.At.X1<q.At.X2∧q.At.Y2 ∈ ys.take k) [] ⟨rfl,by simp,fun q hq=>by cases hq⟩
  (fun k y s hy hI=>by
   have hk:=aY hy
   have hd:decide ((k:Int)<(ys.length:Int))=true:=by simp [hk]
   obtain ⟨i1,i2,i3⟩:=hI
   obtain ⟨g1,g2⟩:=J9 h lx ly hy s (out0:=s) (by omega) (fun q hq=>by
    obtain ⟨_,_,hm⟩:=i3 q hq
    obtain ⟨n,hn⟩:=List.mem_iff_getElem?.1 hm
    have hnl:=aY hn
    rw [List.length_take] at hnl
    rw [List.getElem?_take,if_pos (by omega)] at hn
    exact Vm h.Y.asc (show n<k by omega) hn hy)
   unfold iW
   simp only [hd,if_true,g1,Option.bind_some,aX k (by omega)]
   refine ⟨_,rfl, ?_,by simp;omega,fun q hq=>?_⟩
   ·rw [oZ hy,List.flatMap_append,i1]
    simp
   ·rw [oZ hy]
    rcases List.mem_append.1 hq with hq | hq
    ·obtain ⟨a,b,c⟩:=i3 q hq
     exact ⟨a,b,List.mem_append_left _ c⟩
    ·obtain ⟨p,hp,rfl⟩:=List.mem_map.1 hq
     exact ⟨rfl,isr hp,List.mem_append_right _ (by simp)⟩) (fun s _=>by simp [iW])
 rw [List.take_length] at q2 q4
 obtain ⟨r',t1,t2,t3,t4⟩:=wU xs (fun k (s:List Ln)=>((k:Int),s)) (iY (xs,ys) (Lu R xs ys)) (fun s=>s) (fun k s=>s=r++(xs.take k).flatMap (fun x=>(rH (vS R x)).map fun p=>⟨⟨x,p.1,x,p.2⟩,nm (kM R (x-1) p.1),nm (kM R x p.1)⟩)∧s.length≤1000000+1000*k∧∀ q ∈ s,q.At.X2 ∈ xs.take k∨(q.At.Y1=q.At.Y2∧q.At.X1<q.At.X2)) r ⟨by simp,by omega,fun q hq=>.inr ⟨(q4 q hq).1,(q4 q hq).2.1⟩⟩
  (fun k x s hx hI=>by
   have hk:=aY hx
   have hd:decide ((k:Int)<(xs.length:Int))=true:=by simp [hk]
   obtain ⟨i1,i2,i3⟩:=hI
   obtain ⟨g1,g2⟩:=L6 h lx ly hx s (out0:=s) (by omega) (fun q hq=>by
    rcases i3 q hq with hm | hm
    ·left
     obtain ⟨n,hn⟩:=List.mem_iff_getElem?.1 hm
     have hnl:=aY hn
     rw [List.length_take] at hnl
     rw [List.getElem?_take,if_pos (by omega)] at hn
     exact Vm h.X.asc (show n<k by omega) hn hx
    ·exact .inr hm)
   unfold iY
   simp only [hd,if_true,g1,Option.bind_some,aX k (by omega)]
   refine ⟨_,rfl, ?_,by simp;omega,fun q hq=>?_⟩
   ·rw [oZ hx,List.flatMap_append,i1]
    simp
   ·rw [oZ hx]
    rcases List.mem_append.1 hq with hq | hq
    ·exact (i3 q hq).imp (fun c=>List.mem_append_left _ c) id
    ·obtain ⟨p,hp,rfl⟩:=List.mem_map.1 hq
     exact .inl (List.mem_append_right _ (by simp))) (fun s _=>by simp [iY])
 rw [List.take_length] at t2
 have e:r'=Nu R xs ys:=by rw [t2,q2];rfl
 exact ⟨r,by rw [show ((0:Int),([]:List Ln))=(((0:Nat):Int),[]) from rfl,q1],by rw [show ((0:Int),r)=(((0:Nat):Int),r) from rfl,t1,e],by rw [← e];omega⟩
end
theorem NH {R:List (List Rect)} {xs ys:List Int} (h:Lay R xs ys) (hk:∀ t ∈ R,t.length≤1000):kT R=some (Nu R xs ys)∧(Nu R xs ys).length≤2000000:=by
 have hm:=h.m
 have hn:=h.n
 have hfl:∀ k,(R.take k).flatten.length≤R.flatten.length:=fun k=>by
  conv=>rhs;rw [← List.take_append_drop k R,List.flatten_append,List.length_append]
  omega
 obtain ⟨r,q1,q2⟩:=wU R (fun k (s:List Rect)=>((k:Int),s)) (lS R) (fun s=>s) (fun k s=>s=(R.take k).flatten) [] (by simp)
  (fun k t s ht hI=>by
   have h1:=aY ht
   have hd:decide ((k:Int)<(R.length:Int))=true:=by simp [h1]
   have:=hfl k
   have:=hk t (List.mem_of_getElem? ht)
   unfold lS
   simp only [hd,if_true,aP ht,Option.bind_some,aX k (by omega)]
   subst hI
   rw [nA (by unfold LIM;omega)]
   refine ⟨_,rfl, ?_⟩
   rw [oZ ht,List.flatten_append];simp) (fun s _=>by simp [lS])
 rw [List.take_length] at q2
 obtain ⟨xs1,ys1,g1,g2,g3⟩:=ZX h.v hn
 obtain rfl:=Yy h.x g2
 obtain rfl:=Yy h.y g3
 obtain ⟨r',b1,b2,b3⟩:=EP h h.X.len h.Y.len
 refine ⟨?_,b3⟩
 unfold kT
 rw [show ((0:Int),([]:List Rect))=(((0:Nat):Int),[]) from rfl,q1,q2]
 simp only [Option.bind_some,g1,TV h.v hm hk h.X.len h.Y.len,b1,b2]
theorem TC (s:Segment) {a b:Option Int} (ha:SmO a) (hb:SmO b) (hne:a≠b):(if nO (nm b) (nm a)<0 then (⟨s,fF (nm b) (nm a),nO (nm b) (nm a)⟩:EdgeT) else ⟨s,nO (nm b) (nm a),fF (nm b) (nm a)⟩)=mkE s a b:=by
 have h1:mkE s a b=if nm a<0∨(nm b ≥ 0∧nm b<nm a) then ⟨s,nm b,nm a⟩ else ⟨s,nm a,nm b⟩:=rfl
 have hne':nm a≠nm b:=fun q=>hne ((JE ha hb).1 q)
 have bd:∀ {o:Option Int},SmO o→-1≤nm o:=fun {o} ho=>by
  cases o with
  | none=>simp [nm]
  | some i=>have:=ho i rfl;simp only [nm];omega
 have ba:=bd ha
 have bb:=bd hb
 rw [h1,Gh,Wj]
 generalize nm a=p at *
 generalize nm b=q at *
 by_cases c1:p<0
 ·rw [if_pos (by omega),if_pos (.inl c1),show max q p=q by omega,show min q p=p by omega]
 ·by_cases c2:q<0
  ·rw [if_pos (by omega),if_neg (by omega),show max q p=p by omega,show min q p=q by omega]
  ·rw [if_neg (by omega)]
   by_cases c3:q<p
   ·rw [if_pos (.inr ⟨by omega,c3⟩),show max q p=p by omega,show min q p=q by omega]
   ·rw [if_neg (by omega),show max q p=q by omega,show min q p=p by omega]
section
variable {l:LayoutT} (n8:l.Pieces.length≤8) (r12:∀ x ∈ l.Pieces,x.Rects.length≤12) (hv:∀ x ∈ l.Pieces,EN x.Rects)
include n8 r12 hv
theorem UK {xs ys:List Int} (hL:Lay (regs l) xs ys):bV l=some (CF (regs l) xs ys):=by
 obtain ⟨r,q1,q2⟩:=wU l.Pieces (fun k (s:List (List Rect))=>((k:Int),s)) (oD l) (fun s=>s) (fun k s=>s=(l.Pieces.take k).map fun x=>x.Rects) [] (by simp)
  (fun k x s hx hI=>by
   have h1:=aY hx
   have hd:decide ((k:Int)<(l.Pieces.length:Int))=true:=by simp [h1]
   unfold oD
   simp only [hd,if_true,aP hx,Option.bind_some,aX k (by omega)]
   subst hI
   rw [nA (by simp [LIM];omega)]
   refine ⟨_,rfl, ?_⟩
   rw [oZ hx,List.map_append];rfl) (fun s _=>by simp [oD])
 rw [List.take_length] at q2
 obtain ⟨b1,b2⟩:=NH hL (V3 r12)
 -- from lines to edges
 let f:Ln→EdgeT:=fun x=>if nO x.Low x.High<0 then ⟨x.At,fF x.Low x.High,nO x.Low x.High⟩ else ⟨x.At,nO x.Low x.High,fF x.Low x.High⟩
 have hmap:(Nu (regs l) xs ys).map f=CF (regs l) xs ys:=by
  have key:∀ {s:Int→Int} {A B:Int→Option Int} (ln:Int→Int→Segment) (hs:s=fun z=>cod (A z) (B z)) (ha:∀ z,SmO (A z)) (hb:∀ z,SmO (B z)),((rH s).map fun p=>(⟨ln p.1 p.2,nm (B p.1),nm (A p.1)⟩:Ln)).map f=(rH s).map fun p=>mkE (ln p.1 p.2) (A p.1) (B p.1):=fun {s A B} ln hs ha hb=>by
   rw [List.map_map]
   refine List.map_congr_left fun p hp=>?_
   have hr:s p.1≠0:=by
    unfold rH at hp
    split at hp
    ·rename_i hx
     exact (((Classical.choose_spec hx).2 p.1 p.2).1 hp).2.1
    ·cases hp
   have hne:A p.1≠B p.1:=fun q=>hr (by rw [hs];simp only;rw [(BO (ha _) (hb _)).2 q])
   exact TC _ (ha _) (hb _) hne
  unfold Nu CF
  rw [List.map_append,List.map_flatMap,List.map_flatMap]
  congr 1
  ·congr 1;funext y
   exact key (fun a b=>⟨a,y,b,y⟩) (A:=fun z=>kM (regs l) z y) (B:=fun z=>kM (regs l) z (y-1)) rfl (fun z=>Ag hL.m _ _) (fun z=>Ag hL.m _ _)
  ·congr 1;funext x
   exact key (fun a b=>⟨x,a,x,b⟩) (A:=fun z=>kM (regs l) x z) (B:=fun z=>kM (regs l) (x-1) z) rfl (fun z=>Ag hL.m _ _) (fun z=>Ag hL.m _ _)
 obtain ⟨r',t1,t2⟩:=wU (Nu (regs l) xs ys) (fun k (s:List EdgeT)=>((k:Int),s)) (oF (Nu (regs l) xs ys)) (fun s=>s) (fun k s=>s=((Nu (regs l) xs ys).take k).map f) [] (by simp)
  (fun k x s hx hI=>by
   have h1:=aY hx
   have hd:decide ((k:Int)<((Nu (regs l) xs ys).length:Int))=true:=by rw [decide_eq_true_eq];omega
   unfold oF
   simp only [hd,if_true,aP hx,Option.bind_some,nZ,aX k (by omega)]
   subst hI
   have hl:(((Nu (regs l) xs ys).take k).map f).length≤2000000:=by rw [List.length_map,List.length_take];omega
   rw [nA (by simp only [List.length_cons,List.length_nil,LIM];omega),nA (by simp only [List.length_cons,List.length_nil,LIM];omega)]
   simp only [Option.bind_some]
   refine ⟨((Nu (regs l) xs ys).take k).map f++[f x], ?_,by rw [oZ hx,List.map_append];rfl⟩
   show _=some (Sum.inl (((k+1:Nat):Int),_++[if nO x.Low x.High<0 then _ else _]))
   by_cases hc:nO x.Low x.High<0
   ·simp only [hc,decide_true,if_true]
   ·simp only [hc,decide_false,Bool.false_eq_true,if_false]) (fun s _=>by simp [oF])
 rw [List.take_length,hmap] at t2
 unfold bV
 rw [show ((0:Int),([]:List (List Rect)))=(((0:Nat):Int),[]) from rfl,q1,q2]
 show (kT (regs l)).bind _=_
 simp only [b1,Option.bind_some]
 rw [show ((0:Int),([]:List EdgeT))=(((0:Nat):Int),[]) from rfl,t1,t2]
 rfl
end
theorem LV.hv {l:LayoutT} (h:LV l):∀ x ∈ l.Pieces,EN x.Rects:=fun x hx r hr=>(h.off x hx r hr).1.1
theorem aAf {l:LayoutT} (h:vV l):∀ x ∈ l.Pieces,Sm x:=fun x hx=>by
 obtain ⟨_,_,_,_,r1,r2,r3⟩:=h.2.2 x hx
 exact ⟨⟨r1.1,fun r hr=>r1.2 r hr⟩,⟨r2.1,fun r hr=>r2.2 r hr⟩,⟨r3.1,fun r hr=>r3.2 r hr⟩⟩
theorem NJ (l:LayoutT) (h:vV l):∃ es b,vX l=some b∧dP l=some b∧wW l=some (es,b)∧Cm l=some (es,b)∧es.length≤200000∧(b≠0→es=[])∧(b=0→LV l∧Di l=some es∧bV l=some es∧∃ xs ys,Lay (regs l) xs ys∧es=CF (regs l) xs ys):=by
 obtain ⟨b,b1,b2,b3⟩:=IA l (aAf h)
 unfold wW Cm
 rw [b1,b2]
 simp only [Option.bind_some]
 by_cases hb:b=0
 ·subst hb
  have hl:=b3 rfl
  obtain ⟨xs,ys,h1,h2,h3⟩:=WO hl.n hl.r12 hl.hv
  have h4:=UK hl.n hl.r12 hl.hv h1
  refine ⟨CF (regs l) xs ys,0,rfl,rfl, ?_, ?_,h3,fun q=>absurd rfl q,fun _=>⟨hl,h2,h4,xs,ys,h1,rfl⟩⟩
  ·simp [h2]
  ·simp [h4]
 ·have hb':(b != 0)=true:=by rw [bne_iff_ne];exact hb
  exact ⟨[],b,rfl,rfl,by simp [hb'],by simp [hb'],by simp,fun _=>rfl,fun q=>absurd q hb⟩
end Go.SM
namespace Go.SM
open Go Go.VI
noncomputable def FP (a:cut_State):Option (Unit):=
 some ()
noncomputable def dB (l:LayoutT) (items:(List ItemT)) (r2:(List EdgeT)×Int):(Int×(List (List Bool))×(List Bool)×(List Bool)×(List Int)×(List Bool))→Option ((Int×(List (List Bool))×(List Bool)×(List Bool)×(List Int)×(List Bool)) ⊕ ((Int×Int) ⊕ ((List (List Bool))×(List Bool)×(List Bool)×(List Int)×(List Bool)))):=fun s59 =>
 if (decide (s59.1<(items.length:Int))) then ((idx items s59.1).bind fun x79=>(Ey l r2.1 (cut_State.mk s59.2.2.1 s59.2.1 s59.2.2.2.1 s59.2.2.2.2.1 s59.2.2.2.2.2) x79).bind fun r81=>if (r81.2 != 0) then (some (.inr (.inl (s59.1,r81.2)))) else ((FP r81.1).bind fun r83=>some (.inl ((aL s59.1 1),r81.1.Holes,r81.1.Cut,r81.1.Done,r81.1.Joints,r81.1.Fallen)))) else (some (.inr (.inr ((s59.2.1,s59.2.2.1,s59.2.2.2.1,s59.2.2.2.2.1,s59.2.2.2.2.2)))))
noncomputable def Ak (l:LayoutT) (items:(List ItemT)):Option (cut_State×Int×Int×(List (List Bool))):=
 (wW l).bind fun r2=>if (r2.2 != 0) then (some ((cut_State.mk [] [] [] [] []),0,r2.2,[])) else (if (decide ((items.length:Int)>128)) then (some ((cut_State.mk [] [] [] [] []),0,4,[])) else ((Dj l (r2.1.length:Int)).bind fun r4=>(aK (dB l items r2) (0,r4.Holes,r4.Cut,r4.Done,r4.Joints,r4.Fallen)).bind fun x84=>match x84 with | .inl j85=>some ((cut_State.mk [] [] [] [] []),j85.1,j85.2,[]) | .inr j86=>some ((cut_State.mk j86.2.1 j86.1 j86.2.2.1 j86.2.2.2.1 j86.2.2.2.2),0,0,j86.1)))
noncomputable def Zy (l:LayoutT) (items:(List ItemT)):Option (cut_State×Int×Int×(List (List Bool))):=
 (Ak l items).bind fun r2=>some ((cut_State.mk r2.1.Cut r2.1.Holes r2.1.Done r2.1.Joints r2.1.Fallen),r2.2.1,r2.2.2.1,r2.1.Holes)
noncomputable def bJ (l:LayoutT) (items:(List ItemT)) (r2:(List EdgeT)):(Int×(List Bool)×(List (List Bool))×(List Bool)×(List Int)×(List Bool)×(List sheetmetalref07_State))→Option ((Int×(List Bool)×(List (List Bool))×(List Bool)×(List Int)×(List Bool)×(List sheetmetalref07_State)) ⊕ ((Int×Int) ⊕ (List sheetmetalref07_State))):=fun s123 =>
 if (decide (s123.1<(items.length:Int))) then ((idx items s123.1).bind fun x170=>(eG l r2 (sheetmetalref07_State.mk s123.2.1 s123.2.2.1 s123.2.2.2.1 s123.2.2.2.2.1 s123.2.2.2.2.2.1) x170).bind fun r171=>if (r171 != 0) then (some (.inr (.inl (s123.1,r171)))) else ((idx items s123.1).bind fun x176=>(gJ r2 (sheetmetalref07_State.mk s123.2.1 s123.2.2.1 s123.2.2.2.1 s123.2.2.2.2.1 s123.2.2.2.2.2.1) x176).bind fun r177=>(app s123.2.2.2.2.2.2 [r177]).bind fun l179=>some (.inl ((aL s123.1 1),r177.Cut,r177.Holes,r177.Done,r177.Joints,r177.Fallen,l179)))) else (some (.inr (.inr s123.2.2.2.2.2.2)))
noncomputable def dK (l:LayoutT) (items:(List ItemT)):Option ((List sheetmetalref07_State)×Int×Int):=
 (bV l).bind fun r2=>(iE l).bind fun r4=>(aK (bJ l items r2) (0,r4.Cut,r4.Holes,r4.Done,r4.Joints,r4.Fallen,[])).bind fun x180=>match x180 with | .inl j181=>some ([],j181.1,j181.2) | .inr j182=>some (j182,0,0)
noncomputable def pJ (l:LayoutT) (items:(List ItemT)):Option (sheetmetalref07_State×Int×Int×(List Bool)×(List (List Bool))×(List Bool)×(List Int)×(List Bool)):=
 (dP l).bind fun r2=>if (r2 != 0) then (some ((sheetmetalref07_State.mk [] [] [] [] []),0,r2,[],[],[],[],[])) else (if (decide ((items.length:Int)>128)) then (some ((sheetmetalref07_State.mk [] [] [] [] []),0,4,[],[],[],[],[])) else (if ((items.length:Int)==0) then ((iE l).bind fun r6=>some (r6,0,0,r6.Cut,r6.Holes,r6.Done,r6.Joints,r6.Fallen)) else ((dK l items).bind fun r8=>if (r8.2.2 != 0) then (some ((sheetmetalref07_State.mk [] [] [] [] []),r8.2.1,r8.2.2,[],[],[],[],[])) else ((idx r8.1 (aJ (r8.1.length:Int) 1)).bind fun x10=>some (x10,0,0,x10.Cut,x10.Holes,x10.Done,x10.Joints,x10.Fallen)))))
noncomputable def Bd (r2:cut_State×Int×Int×(List (List Bool))):Int→Option (Int ⊕ (Unit ⊕ Unit)):=fun s45 =>
 if (decide (s45<(r2.1.Holes.length:Int))) then ((idx r2.1.Holes s45).bind fun x59=>(eF x59 false).bind fun r61=>if r61 then (some (.inr (.inl ()))) else (some (.inl (aL s45 1)))) else (some (.inr (.inr (()))))
noncomputable def Rx (l:LayoutT) (items:(List ItemT)):Option (Int):=
 (Zy l items).bind fun r2=>if (r2.2.2.1 != 0) then (some r2.2.2.1) else ((eF r2.1.Done false).bind fun r6=>if r6 then (some 12) else ((aK (Bd r2) 0).bind fun x62=>match x62 with | .inl j63=>some 12 | .inr j64=>some 0))
noncomputable def jX (r2:sheetmetalref07_State×Int×Int×(List Bool)×(List (List Bool))×(List Bool)×(List Int)×(List Bool)):Int→Option (Int ⊕ (Unit ⊕ Unit)):=fun s45 =>
 if (decide (s45<(r2.1.Holes.length:Int))) then ((idx r2.1.Holes s45).bind fun x60=>(lY x60).bind fun r61=>if (!r61) then (some (.inr (.inl ()))) else (some (.inl (aL s45 1)))) else (some (.inr (.inr (()))))
noncomputable def rZ (l:LayoutT) (items:(List ItemT)):Option (Int):=
 (pJ l items).bind fun r2=>if (r2.2.2.1 != 0) then (some r2.2.2.1) else ((lY r2.1.Done).bind fun r6=>if (!r6) then (some 12) else ((aK (jX r2) 0).bind fun x62=>match x62 with | .inl j63=>some 12 | .inr j64=>some 0))
end Go.SM
namespace Go.SM
open Go Go.VI
noncomputable def zY (s65:Int×(List Int)):(List Int)→Option (Int×(List Int) ⊕ (List Int)):=fun j88 =>
 some (.inl ((aL s65.1 1),j88))
noncomputable def zZ (st:cut_State) (h0_0:(List Bool)):Int×(List Int)→Option (Int×(List Int) ⊕ (List Int)):=fun s65 =>
 if (decide (s65.1<(st.Fallen.length:Int))) then ((idx st.Fallen s65.1).bind fun x90=>(if x90 then ((idx h0_0 s65.1).bind fun x93=>some (!x93)) else (some false)).bind fun j92=>if j92 then ((app s65.2 [s65.1]).bind fun l95=>zY s65 l95) else (zY s65 s65.2)) else (some (.inr s65.2))
noncomputable def Fj (st:cut_State) (h0_0:(List Bool)) (h2:(List (List Int))):Option ((List (List Int))):=
 (aK (zZ st h0_0) (0,[])).bind fun x96=>(app h2 [x96]).bind fun l98=>some l98
noncomputable def bT (l:LayoutT) (items:(List ItemT)) (r2:(List EdgeT)×Int):(Int×(List (List Int))×(List Bool)×(List (List Bool))×(List Bool)×(List Int)×(List Bool)×(List Bool))→Option ((Int×(List (List Int))×(List Bool)×(List (List Bool))×(List Bool)×(List Int)×(List Bool)×(List Bool)) ⊕ ((Int×Int×(List (List Int))×(List Bool)) ⊕ ((List Bool)×(List (List Bool))×(List Bool)×(List Int)×(List Bool)×(List (List Int))×(List Bool)))):=fun s59 =>
 if (decide (s59.1<(items.length:Int))) then ((idx items s59.1).bind fun x79=>(Ey l r2.1 (cut_State.mk s59.2.2.1 s59.2.2.2.1 s59.2.2.2.2.1 s59.2.2.2.2.2.1 s59.2.2.2.2.2.2.1) x79).bind fun r81=>if (r81.2 != 0) then (some (.inr (.inl (s59.1,r81.2,s59.2.1,s59.2.2.2.2.2.2.2)))) else ((Fj r81.1 s59.2.2.2.2.2.2.2 s59.2.1).bind fun r83=>some (.inl ((aL s59.1 1),r83,r81.1.Cut,r81.1.Holes,r81.1.Done,r81.1.Joints,r81.1.Fallen,r81.1.Fallen)))) else (some (.inr (.inr ((s59.2.2.1,s59.2.2.2.1,s59.2.2.2.2.1,s59.2.2.2.2.2.1,s59.2.2.2.2.2.2.1,s59.2.1,s59.2.2.2.2.2.2.2)))))
noncomputable def oJ (l:LayoutT) (items:(List ItemT)) (h1:(List Bool)) (h3:(List (List Int))):Option (cut_State×Int×Int×(List Bool)×(List (List Bool))×(List Bool)×(List Int)×(List Bool)×(List (List Int))×(List Bool)):=
 (wW l).bind fun r2=>if (r2.2 != 0) then (some ((cut_State.mk [] [] [] [] []),0,r2.2,[],[],[],[],[],h3,h1)) else (if (decide ((items.length:Int)>128)) then (some ((cut_State.mk [] [] [] [] []),0,4,[],[],[],[],[],h3,h1)) else ((Dj l (r2.1.length:Int)).bind fun r4=>(aK (bT l items r2) (0,h3,r4.Cut,r4.Holes,r4.Done,r4.Joints,r4.Fallen,h1)).bind fun x84=>match x84 with | .inl j85=>some ((cut_State.mk [] [] [] [] []),j85.1,j85.2.1,[],[],[],[],[],j85.2.2.1,j85.2.2.2) | .inr j86=>some ((cut_State.mk j86.1 j86.2.1 j86.2.2.1 j86.2.2.2.1 j86.2.2.2.2.1),0,0,j86.1,j86.2.1,j86.2.2.1,j86.2.2.2.1,j86.2.2.2.2.1,j86.2.2.2.2.2.1,j86.2.2.2.2.2.2)))
noncomputable def Md (l:LayoutT) (items:(List ItemT)):Option ((List (List Int))×Int):=
 (mk (l.Pieces.length:Int) false).bind fun l2=>(oJ l items l2 []).bind fun r4=>if (r4.2.2.1 != 0) then (some ([],r4.2.2.1)) else (some (r4.2.2.2.2.2.2.2.2.1,0))
noncomputable def nV (s1456:Int×(List Int)):(List Int)→Option (Int×(List Int) ⊕ (List Int)):=fun j1485 =>
 some (.inl ((aL s1456.1 1),j1485))
noncomputable def nW (r4:(List sheetmetalref07_State)×Int×Int) (s1003:(List Bool)×Int×(List (List Int))):Int×(List Int)→Option (Int×(List Int) ⊕ (List Int)):=fun s1456 =>
 if (decide (s1456.1<(s1003.1.length:Int))) then (((idx r4.1 s1003.2.1).bind fun x1490=>(idx x1490.Fallen s1456.1).bind fun x1491=>if x1491 then ((idx s1003.1 s1456.1).bind fun x1492=>some (!x1492)) else (some false)).bind fun j1489=>if j1489 then ((app s1456.2 [s1456.1]).bind fun l1494=>nV s1456 l1494) else (nV s1456 s1456.2)) else (some (.inr s1456.2))
noncomputable def jY (r4:(List sheetmetalref07_State)×Int×Int):((List Bool)×Int×(List (List Int)))→Option (((List Bool)×Int×(List (List Int))) ⊕ (List (List Int))):=fun s1003 =>
 if (decide (s1003.2.1<(r4.1.length:Int))) then ((aK (nW r4 s1003) (0,[])).bind fun x1495=>(app s1003.2.2 [x1495]).bind fun l1497=>(idx r4.1 s1003.2.1).bind fun x1499=>some (.inl (x1499.Fallen,(aL s1003.2.1 1),l1497))) else (some (.inr s1003.2.2))
noncomputable def sD (l:LayoutT) (items:(List ItemT)):Option ((List (List Int))×Int):=
 (pJ l items).bind fun r2=>if (r2.2.2.1 != 0) then (some ([],r2.2.2.1)) else ((dK l items).bind fun r4=>(mk (l.Pieces.length:Int) false).bind fun l6=>(aK (jY r4) (l6,0,[])).bind fun x1500=>some (x1500,0))
noncomputable def wX (r23:(List EdgeT)):(Int×Int)→Option ((Int×Int) ⊕ Int):=fun s29 =>
 if (decide (s29.2<(r23.length:Int))) then ((idx r23 s29.2).bind fun x37=>some (.inl ((aL s29.1 (aJ (aL (aJ x37.Line.X2 x37.Line.X1) x37.Line.Y2) x37.Line.Y1)),(aL s29.2 1)))) else (some (.inr s29.1))
noncomputable def Ec (x232:Piece):(Int×Int)→Option ((Int×Int) ⊕ Int):=fun s238 =>
 if (decide (s238.2<(x232.Cuts.length:Int))) then ((idx x232.Cuts s238.2).bind fun x246=>some (.inl ((aL s238.1 (lZ 2 (aL x246.W x246.H))),(aL s238.2 1)))) else (some (.inr s238.1))
noncomputable def yQ (l:LayoutT):(Int×Int)→Option ((Int×Int) ⊕ Int):=fun s179 =>
 if (decide (s179.2<(l.Pieces.length:Int))) then ((idx l.Pieces s179.2).bind fun x232=>(aK (Ec x232) (s179.1,0)).bind fun x247=>some (.inl (x247,(aL s179.2 1)))) else (some (.inr s179.1))
noncomputable def Ph (l:LayoutT) (items:(List ItemT)):Option (Int×Int):=
 (Rx l items).bind fun r4=>if (r4 != 0) then (some (0,r4)) else ((Di l).bind fun r23=>(aK (wX r23) (0,0)).bind fun x38=>(aK (yQ l) (x38,0)).bind fun x248=>some (x248,0))
noncomputable def yF (g:Segment):Option (Int):=
 some (aJ (aL (aJ g.X2 g.X1) g.Y2) g.Y1)
noncomputable def mO (s2050:Int×Int):Int→Option ((Int×Int) ⊕ Int):=fun j2085 =>
 some (.inl (j2085,(aL s2050.2 1)))
noncomputable def mP (r4:(List sheetmetalref07_State)×Int×Int) (r6:(List EdgeT)) (s1413:Int×Int×(List Bool)×(List (List Bool))×(List Bool)×(List Int)×(List Bool)):(Int×Int)→Option ((Int×Int) ⊕ Int):=fun s2050 =>
 if (decide (s2050.2<(r6.length:Int))) then (((idx r4.1 s1413.2.1).bind fun x2090=>(idx x2090.Cut s2050.2).bind fun x2091=>if x2091 then ((idx s1413.2.2.1 s2050.2).bind fun x2092=>some (!x2092)) else (some false)).bind fun j2089=>if j2089 then ((idx r6 s2050.2).bind fun x2095=>(yF x2095.Line).bind fun r2096=>mO s2050 (aL s2050.1 r2096)) else (mO s2050 s2050.1)) else (some (.inr s2050.1))
noncomputable def jI (r4:(List sheetmetalref07_State)×Int×Int) (r6:(List EdgeT)) (s1413:Int×Int×(List Bool)×(List (List Bool))×(List Bool)×(List Int)×(List Bool)):Int→Option ((Int×Int×(List Bool)×(List (List Bool))×(List Bool)×(List Int)×(List Bool)) ⊕ Int):=fun j1953 =>
 (aK (mP r4 r6 s1413) (j1953,0)).bind fun x2097=>(idx r4.1 s1413.2.1).bind fun x2099=>some (.inl (x2097,(aL s1413.2.1 1),x2099.Cut,x2099.Holes,x2099.Done,x2099.Joints,x2099.Fallen))
noncomputable def dH (l:LayoutT) (items:(List ItemT)) (r4:(List sheetmetalref07_State)×Int×Int) (r6:(List EdgeT)):(Int×Int×(List Bool)×(List (List Bool))×(List Bool)×(List Int)×(List Bool))→Option ((Int×Int×(List Bool)×(List (List Bool))×(List Bool)×(List Int)×(List Bool)) ⊕ Int):=fun s1413 =>
 if (decide (s1413.2.1<(items.length:Int))) then ((idx items s1413.2.1).bind fun x2101=>if (decide (x2101.Hole ≥ 0)) then ((idx items s1413.2.1).bind fun x2110=>(idx l.Pieces x2110.Piece).bind fun x2111=>(idx items s1413.2.1).bind fun x2112=>(idx x2111.Cuts x2112.Hole).bind fun x2113=>jI r4 r6 s1413 (aL s1413.1 (lZ 2 (aL x2113.W x2113.H)))) else (jI r4 r6 s1413 s1413.1)) else (some (.inr s1413.1))
noncomputable def pW (l:LayoutT) (items:(List ItemT)):Option (Int×Int):=
 (rZ l items).bind fun r2=>if (r2 != 0) then (some (0,r2)) else ((dK l items).bind fun r4=>(bV l).bind fun r6=>(iE l).bind fun r8=>(aK (dH l items r4 r6) (0,0,r8.Cut,r8.Holes,r8.Done,r8.Joints,r8.Fallen)).bind fun x2114=>some (x2114,0))
noncomputable def uL:Option (Bool):=
 (wW (LayoutT.mk (Sheet.mk (ByteArray.mk #[115]) (ByteArray.mk #[115,116,101,101,108]) 10 0 57600 57600 [] []) [(Piece.mk (ByteArray.mk #[97]) (ByteArray.mk #[115,116,101,101,108]) 10 0 [(Rect.mk 0 0 14400 14400)] [] []),(Piece.mk (ByteArray.mk #[98]) (ByteArray.mk #[115,116,101,101,108]) 10 0 [(Rect.mk 14400 0 14400 14400)] [] [])])).bind fun r2=>(Md (LayoutT.mk (Sheet.mk (ByteArray.mk #[115]) (ByteArray.mk #[115,116,101,101,108]) 10 0 57600 57600 [] []) [(Piece.mk (ByteArray.mk #[97]) (ByteArray.mk #[115,116,101,101,108]) 10 0 [(Rect.mk 0 0 14400 14400)] [] []),(Piece.mk (ByteArray.mk #[98]) (ByteArray.mk #[115,116,101,101,108]) 10 0 [(Rect.mk 14400 0 14400 14400)] [] [])]) [(ItemT.mk 0 (-1) 0 (Spot.mk 0 0)),(ItemT.mk 1 (-1) 0 (Spot.mk 28800 0))]).bind fun r4=>if (r2.2==0) then (if ((r2.1.length:Int)==7) then (if (r4.2==0) then (if ((r4.1.length:Int)==2) then ((idx r4.1 0).bind fun x9=>(iA x9 [0]).bind fun r10=>if r10 then ((idx r4.1 1).bind fun x11=>(iA x11 [1]).bind fun r12=>some r12) else (none)) else (none)) else (none)) else (none)) else (none)
noncomputable def iG (r2:(List (List Int))×Int) (r4:(List (List Int))×Int):Int→Option (Int ⊕ (Unit ⊕ Unit)):=fun s89 =>
 if (decide (s89<(r2.1.length:Int))) then ((idx r2.1 s89).bind fun x123=>(idx r4.1 s89).bind fun x124=>(iA x123 x124).bind fun r125=>if (!r125) then (some (.inr (.inl ()))) else (some (.inl (aL s89 1)))) else (some (.inr (.inr (()))))
noncomputable def uK (l:LayoutT) (items:(List ItemT)):Option (Bool):=
 (Md l items).bind fun r2=>(sD l items).bind fun r4=>(Ph l items).bind fun r6=>(pW l items).bind fun r8=>(if (r2.2 != r4.2) then (some true) else (if ((r2.1.length:Int) != (r4.1.length:Int)) then (some true) else (if (r6.1 != r8.1) then (some true) else (some (r6.2 != r8.2))))).bind fun j10=>if j10 then (some false) else ((aK (iG r2 r4) 0).bind fun x126=>match x126 with | .inl j127=>some false | .inr j128=>(uL).bind fun r130=>some r130)
end Go.SM
namespace Go.SM
open Go Go.VI Go.Cells
abbrev RS:=sheetmetalref07_State
def toC (s:RS):cut_State:=⟨s.Cut,s.Holes,s.Done,s.Joints,s.Fallen⟩
def noS:RS:=⟨[],[],[],[],[]⟩
structure SL1 (s:RS):Prop where
 c:s.Cut.length≤1048576
 h:s.Holes.length≤1048576
 hh:∀ t ∈ s.Holes,t.length≤1048576
 d:s.Done.length≤1048576
 j:s.Joints.length≤1048576
 f:s.Fallen.length≤1048576
structure Fit (l:LayoutT) (n:Nat) (s:RS):Prop where
 c:s.Cut.length=n
 h:s.Holes.length=l.Pieces.length
 d:s.Done.length=l.Pieces.length
 j:s.Joints.length=l.Pieces.length
 f:s.Fallen.length=l.Pieces.length
 hh:∀ (k:Nat) t x,s.Holes[k]?=some t→l.Pieces[k]?=some x→t.length=x.Cuts.length
theorem TM {l:LayoutT} (n8:l.Pieces.length≤8) (n:Nat) {s:RS} (hs:SL1 s):∃ b,lI (toC s) l (n:Int)=some b∧fD l s (n:Int)=some b∧(b=true↔Fit l n s):=by
 have hb:∀ a b:Nat,((a:Int) != (b:Int))=!decide (a=b):=fun a b=>by
  by_cases h:a=b
  ·subst h;simp
  ·have:¬ (a:Int)=(b:Int):=by omega
   simp [h,this]
 by_cases h1:s.Cut.length=n
 ·by_cases h2 : s.Holes.length=l.Pieces.length
  ·by_cases h3:s.Done.length=l.Pieces.length
   ·by_cases h4:s.Joints.length=l.Pieces.length
    ·by_cases h5:s.Fallen.length=l.Pieces.length
     ·let q:Nat→Bool:=fun k=>match s.Holes[k]?,l.Pieces[k]? with
       | some t,some x=>!decide (t.length=x.Cuts.length)
       | _,_=>false
      have g1:aK (sS (toC s) l) 0=some (if (List.range l.Pieces.length).any q then .inl () else .inr ()):=by
       refine kS l.Pieces.length (sS (toC s) l) (fun k=>(k:Int)) q _ _ rfl (fun k hk=>?_) ?_
       ·have e1:s.Holes[k]?=some (s.Holes[k]'(by omega)):=List.getElem?_eq_getElem (by omega)
        have e2:l.Pieces[k]?=some l.Pieces[k]:=List.getElem?_eq_getElem hk
        have e1':(toC s).Holes[k]?=some (s.Holes[k]'(by omega)):=e1
        unfold sS
        have hd:decide ((k:Int)<(l.Pieces.length:Int))=true:=by simp [hk]
        simp only [hd,if_true,aP e1',aP e2,Option.bind_some,hb,q,e1,e2,aX k (by omega)]
       ·simp [sS]
      have g2:aK (kZ l s) 0=some (if (List.range l.Pieces.length).any q then .inl () else .inr ()):=by
       refine kS l.Pieces.length (kZ l s) (fun k=>(k:Int)) q _ _ rfl (fun k hk=>?_) ?_
       ·have e1:s.Holes[k]?=some (s.Holes[k]'(by omega)):=List.getElem?_eq_getElem (by omega)
        have e2:l.Pieces[k]?=some l.Pieces[k]:=List.getElem?_eq_getElem hk
        unfold kZ
        have hd:decide ((k:Int)<(l.Pieces.length:Int))=true:=by simp [hk]
        simp only [hd,if_true,aP e1,aP e2,Option.bind_some,hb,q,e1,e2,aX k (by omega)]
       ·simp [kZ]
      refine ⟨!((List.range l.Pieces.length).any q), ?_, ?_, ?_⟩
      ·unfold lI
       rw [g1]
       show (Option.bind (if ((s.Cut.length:Int) != (n:Int))=true then _ else _) _)=_
       simp only [toC,hb,h1,h2,h3,h4,h5,decide_true,Bool.not_true,Bool.false_eq_true,if_false,Option.bind_some]
       cases (List.range l.Pieces.length).any q <;> rfl
      ·unfold fD
       rw [g2]
       simp only [hb,h1,h2,h3,h4,h5,decide_true,Bool.not_true,Bool.false_eq_true,if_false,Option.bind_some]
       cases (List.range l.Pieces.length).any q <;> rfl
      ·rw [Bool.not_eq_true',List.any_eq_false]
       constructor
       ·intro hq
        refine ⟨h1,h2,h3,h4,h5,fun k t x e1 e2=>?_⟩
        have:=hq k (List.mem_range.2 (aY e2))
        simp only [q,e1,e2] at this
        simpa using this
       ·intro hf k hk
        have hk':=List.mem_range.1 hk
        have e1:s.Holes[k]?=some (s.Holes[k]'(by omega)):=List.getElem?_eq_getElem (by omega)
        have e2:l.Pieces[k]?=some l.Pieces[k]:=List.getElem?_eq_getElem hk'
        simp only [q,e1,e2,hf.hh k _ _ e1 e2]
        simp
     ·refine ⟨false, ?_, ?_,by simp;exact fun hf=>h5 hf.f⟩
      ·unfold lI;simp [toC,hb,h1,h2,h3,h4,h5]
      ·unfold fD;simp [hb,h1,h2,h3,h4,h5]
    ·refine ⟨false, ?_, ?_,by simp;exact fun hf=>h4 hf.j⟩
     ·unfold lI;simp [toC,hb,h1,h2,h3,h4]
     ·unfold fD;simp [hb,h1,h2,h3,h4]
   ·refine ⟨false, ?_, ?_,by simp;exact fun hf=>h3 hf.d⟩
    ·unfold lI;simp [toC,hb,h1,h2,h3]
    ·unfold fD;simp [hb,h1,h2,h3]
  ·refine ⟨false, ?_, ?_,by simp;exact fun hf=>h2 hf.h⟩
   ·unfold lI;simp [toC,hb,h1,h2]
   ·unfold fD;simp [hb,h1,h2]
 ·refine ⟨false, ?_, ?_,by simp;exact fun hf=>h1 hf.c⟩
  ·unfold lI;simp [toC,hb,h1]
  ·unfold fD;simp [hb,h1]
def ofB (e:EdgeT) (p:Int):Bool:=(e.A==p) || (e.B==p)
theorem YI (e:EdgeT) (p:Int):Xq e p=some (ofB e p):=by
 unfold Xq ofB
 cases (e.A==p) <;> simp
def held (es:List EdgeT) (c:List Bool) (p:Int) (i:Nat):Bool:=match es[i]?,c[i]? with
 | some e,some b=>ofB e p&&!b
 | _,_=>false
def Qt (es:List EdgeT) (c:List Bool) (p:Int):Bool:=!((List.range es.length).any (held es c p))
section
variable {es:List EdgeT} (hes:es.length≤1000000) {c:List Bool} (hc:c.length=es.length)
include hes hc
theorem free_eq (p:Int) (H:List (List Bool)) (D:List Bool) (J:List Int) (F:List Bool):vC ⟨c,H,D,J,F⟩ es p=some (Qt es c p):=by
 unfold vC
 have key:aK (sU ⟨c,H,D,J,F⟩ es p) 0=some (if (List.range es.length).any (held es c p) then .inl () else .inr ()):=by
  refine kS es.length (sU ⟨c,H,D,J,F⟩ es p) (fun k=>(k:Int)) (held es c p) _ _ rfl (fun k hk=>?_) ?_
  ·have e1:es[k]?=some es[k]:=List.getElem?_eq_getElem hk
   have e2:c[k]?=some (c[k]'(by omega)):=List.getElem?_eq_getElem (by omega)
   unfold sU held
   have hd:decide ((k:Int)<(es.length:Int))=true:=by simp [hk]
   simp only [hd,if_true,aP e1,aP e2,e1,e2,Option.bind_some,YI,aX k (by omega)]
   cases ofB es[k] p <;> simp
  ·simp [sU]
 rw [key]
 unfold Qt
 cases (List.range es.length).any (held es c p) <;> rfl
theorem LY (p:Int) (H:List (List Bool)) (D:List Bool) (J:List Int) (F:List Bool):jV es ⟨c,H,D,J,F⟩ p=some (Qt es c p):=by
 unfold jV
 have key:aK (kE es ⟨c,H,D,J,F⟩ p) 0=some (if (List.range es.length).any (held es c p) then .inl () else .inr ()):=by
  refine kS es.length (kE es ⟨c,H,D,J,F⟩ p) (fun k=>(k:Int)) (held es c p) _ _ rfl (fun k hk=>?_) ?_
  ·have e1:es[k]?=some es[k]:=List.getElem?_eq_getElem hk
   have e2:c[k]?=some (c[k]'(by omega)):=List.getElem?_eq_getElem (by omega)
   unfold kE held ofB
   have hd:decide ((k:Int)<(es.length:Int))=true:=by simp [hk]
   simp only [hd,if_true,aP e1,aP e2,e1,e2,Option.bind_some,aX k (by omega)]
   cases (es[k].A==p) <;> cases (es[k].B==p) <;> simp
  ·simp [kE]
 rw [key]
 unfold Qt
 cases (List.range es.length).any (held es c p) <;> rfl
end
theorem Hr (t:List Bool) (ht:t.length≤1048576):eF t false=some (!(t.all fun b=>b)):=by
 unfold eF vM
 rw [Xz t (lU t false) (fun b=>!b) (fun k=>.inl (k:Int)) (.inr ()) (fun k b hb=>?s) ?f]
 ·cases e:t.findIdx? (fun b=>!b) with
  | none =>
    rw [List.findIdx?_eq_none_iff] at e
    have:(t.all fun b=>b)=true:=List.all_eq_true.2 fun b hb=>by have:=e b hb;simpa using this
    simp [this]
  | some i =>
    have:(t.all fun b=>b)=false:=by
     rw [← Bool.not_eq_true,List.all_eq_true]
     intro q
     obtain ⟨hi,h1,_⟩:=List.findIdx?_eq_some_iff_getElem.1 e
     have:=q _ (List.getElem_mem hi)
     simp [this] at h1
    simp [this]
 case s =>
  have h1:=aY hb
  unfold lU
  simp only [h1,Int.ofNat_lt,decide_true,if_true,aP hb,Option.bind_some,aX k (by omega)]
  cases b <;> rfl
 case f=>simp [lU]
theorem NM (t:List Bool) (ht:t.length≤1048576):lY t=some (t.all fun b=>b):=by
 unfold lY
 rw [Ij t (pX t) (fun b=>b) (.inl ()) (.inr ()) (fun k b hb=>?s) ?f]
 ·cases t.all (fun b=>b) <;> rfl
 case s =>
  have h1:=aY hb
  unfold pX
  simp only [h1,Int.ofNat_lt,decide_true,if_true,aP hb,Option.bind_some,aX k (by omega)]
  cases b <;> rfl
 case f=>simp [pX]
theorem MH (l:LayoutT) (n8:l.Pieces.length≤8) (r12:∀ x ∈ l.Pieces,x.Rects.length≤12) (x:ItemT):∃ b:Bool,aK (sV l x) 0=some (if b then .inl () else .inr ())∧aK (kC l x.Lead) 0=some (if b then .inl () else .inr ()):=by
 have hin:∀ k:Nat,∃ b:Bool,∀ y,l.Pieces[k]?=some y→nL y.Rects x.Lead=some b∧fH y.Rects x.Lead=some b:=fun k=>by
  cases e:l.Pieces[k]? with
  | none=>exact ⟨false,fun y hy=>by cases hy⟩
  | some y =>
    obtain ⟨b,b1,b2⟩:=Tu y.Rects x.Lead (by have:=r12 y (List.mem_of_getElem? e);omega)
    exact ⟨b,fun z hz=>by injection hz with hz;subst hz;exact ⟨b1,b2⟩⟩
 obtain ⟨q,hq⟩:=Classical.axiomOfChoice hin
 refine ⟨(List.range l.Pieces.length).any q, ?_, ?_⟩
 ·refine kS l.Pieces.length (sV l x) (fun k=>(k:Int)) q _ _ rfl (fun k hk=>?_) ?_
  ·have e2:l.Pieces[k]?=some l.Pieces[k]:=List.getElem?_eq_getElem hk
   have e3:nL l.Pieces[k].Rects (Spot.mk x.Lead.X x.Lead.Y)=some (q k):=(hq k _ e2).1
   unfold sV
   have hd:decide ((k:Int)<(l.Pieces.length:Int))=true:=by simp [hk]
   simp only [hd,if_true,aP e2,Option.bind_some,e3,aX k (by omega)]
  ·simp [sV]
 ·refine kS l.Pieces.length (kC l x.Lead) (fun k=>(k:Int)) q _ _ rfl (fun k hk=>?_) ?_
  ·have e2:l.Pieces[k]?=some l.Pieces[k]:=List.getElem?_eq_getElem hk
   unfold kC
   have hd:decide ((k:Int)<(l.Pieces.length:Int))=true:=by simp [hk]
   simp only [hd,if_true,aP e2,Option.bind_some,(hq k _ e2).2,aX k (by omega)]
  ·simp [kC]
def U1 (s:Spot) (g:Segment):Int:=fF (fF (fF (fF 0 (aJ g.X1 s.X)) (aJ s.X g.X2)) (aJ g.Y1 s.Y)) (aJ s.Y g.Y2)
def DJ (es:List EdgeT) (c:List Bool) (p:Int) (s:Spot) (i:Nat):Bool:=match es[i]?,c[i]? with
 | some e,some b=>ofB e p&&(!b&&decide (U1 s e.Line≤7200))
 | _,_=>false
theorem NV {es:List EdgeT} (hes:es.length≤1000000) {st:RS} (hc:st.Cut.length=es.length) (x:ItemT):aK (sW (toC st) es x) 0=some (if (List.range es.length).any (DJ es st.Cut x.Piece x.Lead) then .inl () else .inr ())∧aK (kD es st x.Piece x.Lead) 0=some (if (List.range es.length).any (DJ es st.Cut x.Piece x.Lead) then .inl () else .inr ()):=by
 constructor
 ·refine kS es.length (sW (toC st) es x) (fun k=>(k:Int)) (DJ es st.Cut x.Piece x.Lead) _ _ rfl (fun k hk=>?_) ?_
  ·have e1:es[k]?=some es[k]:=List.getElem?_eq_getElem hk
   have e2:st.Cut[k]?=some (st.Cut[k]'(by omega)):=List.getElem?_eq_getElem (by omega)
   have e2':(toC st).Cut[k]?=some (st.Cut[k]'(by omega)):=e2
   have e3:IQ (Spot.mk x.Lead.X x.Lead.Y) es[k].Line=some (U1 x.Lead es[k].Line):=rfl
   unfold sW DJ
   have hd:decide ((k:Int)<(es.length:Int))=true:=by simp [hk]
   simp only [hd,if_true,aP e1,aP e2',e1,e2,Option.bind_some,YI,e3,aX k (by omega)]
   cases ofB es[k] x.Piece <;> cases st.Cut[k]'(by omega) <;> simp
  ·simp [sW]
 ·refine kS es.length (kD es st x.Piece x.Lead) (fun k=>(k:Int)) (DJ es st.Cut x.Piece x.Lead) _ _ rfl (fun k hk=>?_) ?_
  ·have e1:es[k]?=some es[k]:=List.getElem?_eq_getElem hk
   have e2:st.Cut[k]?=some (st.Cut[k]'(by omega)):=List.getElem?_eq_getElem (by omega)
   have e3:uA x.Lead es[k].Line=some (U1 x.Lead es[k].Line):=rfl
   unfold kD DJ ofB
   have hd:decide ((k:Int)<(es.length:Int))=true:=by simp [hk]
   simp only [hd,if_true,aP e1,aP e2,e1,e2,Option.bind_some,e3,aX k (by omega)]
   cases (es[k].A==x.Piece) <;> cases (es[k].B==x.Piece) <;> cases st.Cut[k]'(by omega) <;> simp
  ·simp [kD]
theorem TZ {l:LayoutT} (hl:LV l) {es:List EdgeT} (hes:es.length≤1000000) {st:RS} (hc:st.Cut.length=es.length) (x:ItemT) (hx:x.Hole<0):∃ b,xI (toC st) l es x=some b∧sF l es st x.Piece x.Lead=some b ∧
  (b=true→(0≤x.Lead.X∧x.Lead.X≤l.Sheet.Width∧0≤x.Lead.Y∧x.Lead.Y≤l.Sheet.Height)):=by
 have sl:=Un hl.sh
 obtain ⟨r,r1,r2⟩:=Tu l.Sheet.Clamps x.Lead (by omega)
 have r1':nL l.Sheet.Clamps (Spot.mk x.Lead.X x.Lead.Y)=some r:=r1
 obtain ⟨b,b1,b2⟩:=MH l hl.n hl.r12 x
 obtain ⟨c1,c2⟩:=NV hes hc x
 have h0:decide (x.Hole ≥ 0)=false:=by simp;omega
 unfold xI sF
 simp only [h0,Bool.false_eq_true,if_false,b1,b2,c1,c2,r1',r2,Option.bind_some]
 by_cases h1:x.Lead.X<0
 ·exact ⟨false,by simp [h1],by simp [h1],by simp⟩
 by_cases h2:x.Lead.X>l.Sheet.Width
 ·refine ⟨false,by simp [h1,h2], ?_,by simp⟩
  by_cases h3:x.Lead.Y<0 <;> simp [h1,h2,h3]
 by_cases h3:x.Lead.Y<0
 ·exact ⟨false,by simp [h1,h2,h3],by simp [h1,h3],by simp⟩
 by_cases h4:x.Lead.Y>l.Sheet.Height
 ·exact ⟨false,by simp [h1,h2,h3,h4],by simp [h1,h2,h3,h4],by simp⟩
 simp only [h1,h2,h3,h4,decide_false,Bool.false_eq_true,if_false,Option.bind_some]
 cases r with
 | true=>exact ⟨false,by simp,by simp,by simp⟩
 | false =>
   simp only [Bool.false_eq_true,if_false]
   cases b with
   | true=>exact ⟨false,rfl,rfl,by simp⟩
   | false =>
     simp only [Bool.false_eq_true,if_false,Option.bind_some]
     cases (List.range es.length).any (DJ es st.Cut x.Piece x.Lead) with
     | true=>exact ⟨true,rfl,rfl,fun _=>by omega⟩
     | false=>exact ⟨false,rfl,rfl,by simp⟩
end Go.SM
namespace Go.SM
open Go Go.VI
end Go.SM
namespace Go.SM
open Go Go.VI Go.Cells
def mark (n:Nat) (q:Nat→Bool) (c:List Bool):List Bool:=(List.range n).map fun i=>q i || c.getD i false
theorem xW (n:Nat) (q:Nat→Bool) (c:List Bool):(mark n q c).length=n:=by simp [mark]
theorem Rf {n:Nat} (q:Nat→Bool) {c:List Bool} {i:Nat} (hi:i<n):(mark n q c)[i]?=some (q i || c.getD i false):=by
 unfold mark;rw [List.getElem?_map,List.getElem?_range hi];rfl
theorem UC {n:Nat} {c:List Bool} (hc:c.length=n):mark n (fun _=>false) c=c:=by
 refine List.ext_getElem? fun i=>?_
 by_cases hi:i<n
 ·rw [Rf _ hi,Bool.false_or,List.getD_eq_getElem?_getD,List.getElem?_eq_getElem (by omega)];rfl
 ·rw [List.getElem?_eq_none (by rw [xW];omega),List.getElem?_eq_none (by omega)]
theorem UB {n:Nat} {q:Nat→Bool} {c:List Bool} {k:Nat}:mark n (fun i=>decide (i<k+1)&&q i) c=if q k then (mark n (fun i=>decide (i<k)&&q i) c).set k true else mark n (fun i=>decide (i<k)&&q i) c:=by
 refine List.ext_getElem? fun i=>?_
 by_cases hi:i<n
 ·rw [Rf _ hi]
  split
  ·rename_i hq
   rw [List.getElem?_set]
   by_cases e:k=i
   ·subst e
    rw [if_pos rfl,if_pos (by rw [xW];exact hi)]
    simp [hq]
   ·rw [if_neg e,Rf _ hi]
    have:decide (i<k+1)=decide (i<k):=by simp;omega
    rw [this]
  ·rename_i hq
   rw [Rf _ hi]
   by_cases e:k=i
   ·subst e
    have:q k=false:=by simpa using hq
    simp [this]
   ·have:decide (i<k+1)=decide (i<k):=by simp;omega
    rw [this]
 ·have h2:∀ l:List Bool,l.length=n→l[i]?=none:=fun l hl=>List.getElem?_eq_none (by omega)
  rw [h2 _ (xW _ _ _)]
  split
  ·rw [h2 _ (by rw [List.length_set,xW])]
  ·rw [h2 _ (xW _ _ _)]
theorem Tc {n:Nat} (body:Int×List Bool→Option (Int×List Bool ⊕ List Bool)) (q:Nat→Bool) {c:List Bool} (hc:c.length=n) (step:∀ (k:Nat) (c':List Bool),k<n→c'.length=n→body ((k:Int),c')=some (.inl (((k+1:Nat):Int),if q k then c'.set k true else c'))) (fin:∀ c':List Bool,c'.length=n→body ((n:Int),c')=some (.inr c')) :
  aK body (0,c)=some (mark n q c):=by
 have key:=yI (List.range n) body (fun k=>((k:Int),mark n (fun i=>decide (i<k)&&q i) c)) (mark n q c) (fun k x hx=>?_) ?_
 ·have e0:mark n (fun i=>decide (i<0)&&q i) c=c:=by
   rw [show (fun i=>decide (i<0)&&q i)=fun _=>false from funext fun i=>by simp]
   exact UC hc
  rw [e0] at key
  exact key
 ·have hk:k<n:=by have:=aY hx;simpa using this
  rw [step k _ hk (xW _ _ _),UB]
 ·rw [List.length_range,fin _ (xW _ _ _)]
  congr 2
  unfold mark
  refine List.map_congr_left fun i hi=>?_
  have:=List.mem_range.1 hi
  simp [this]
theorem WG {s:RS} (h:SL1 s):wN (toC s)=some (toC s)∧tZ s=some s:=by
 have h1:=h.c;have h2:=h.d;have h3:=h.j;have h4:=h.f;have h5:=h.h
 have ap:∀ {α:Type} {l:List α},l.length≤1048576→app [] l=some l:=fun {α l} hl=>by rw [nA (by unfold LIM;simp;omega)];rfl
 constructor
 ·have key:aK (nC (toC s)) (0,[])=some s.Holes:=by
   have:=Nw s.Holes (fun t=>t) (nC (toC s)) h5 (fun k t acc ht=>?_) (fun acc=>?_)
   ·rw [this,List.map_id']
   ·have hk:=aY ht
    have ht':(toC s).Holes[k]?=some t:=ht
    unfold nC
    have hd:decide ((k:Int)<((toC s).Holes.length:Int))=true:=by show decide ((k:Int)<(s.Holes.length:Int))=true;simp [hk]
    have e:∀ f:List Bool→Option (Int×List (List Bool) ⊕ List (List Bool)),(app [] t).bind f=f t:=fun f=>by rw [ap (h.hh t (List.mem_of_getElem? ht))];rfl
    simp only [hd,if_true,aP ht',Option.bind_some,aX k (by omega)]
    exact e _
   ·unfold nC
    have:¬ (s.Holes.length:Int)<((toC s).Holes.length:Int):=by show ¬ (s.Holes.length:Int)<(s.Holes.length:Int);omega
    simp [this]
  show (app [] s.Cut).bind (fun r9=>(app [] s.Done).bind fun r10=>(app [] s.Joints).bind fun r11=>(app [] s.Fallen).bind fun r12=>(aK (nC (toC s)) (0,[])).bind fun x114=>some (cut_State.mk r9 x114 r10 r11 r12))=_
  rw [ap h1,ap h2,ap h3,ap h4]
  simp only [Option.bind_some,key]
  rfl
 ·have key:aK (kV s) (0,[])=some s.Holes:=by
   have:=Nw s.Holes (fun t=>t) (kV s) h5 (fun k t acc ht=>?_) (fun acc=>?_)
   ·rw [this,List.map_id']
   ·have hk:=aY ht
    unfold kV
    have hd:decide ((k:Int)<(s.Holes.length:Int))=true:=by simp [hk]
    simp only [hd,if_true,aP ht,Option.bind_some,ap (h.hh t (List.mem_of_getElem? ht)),aX k (by omega)]
   ·simp [kV]
  unfold tZ
  rw [ap h1,ap h2,ap h3,ap h4]
  simp only [Option.bind_some,key]
def LB (es:List EdgeT) (c D:List Bool) (J:List Int) (i:Nat):Bool:=Qt es c (i:Int)&&!(D.getD i false&&decide (J.getD i 0>0))
def fell (n:Nat) (es:List EdgeT) (c:List Bool) (D:List Bool) (J:List Int) (F:List Bool):List Bool:=mark n (LB es c D J) F
def XK (n:Nat) (es:List EdgeT) (s:RS) (p h:Nat) (t:List Bool):RS:=⟨s.Cut,s.Holes.set p (t.set h true),s.Done,s.Joints,fell n es s.Cut s.Done s.Joints s.Fallen⟩
def Qp (es:List EdgeT) (p:Int) (i:Nat):Bool:=match es[i]? with
 | some e=>ofB e p
 | none=>false
def O8 (n:Nat) (es:List EdgeT) (s:RS) (p:Nat) (j:Int):RS:=
 ⟨mark es.length (Qp es (p:Int)) s.Cut,s.Holes,s.Done.set p true,s.Joints.set p j,fell n es (mark es.length (Qp es (p:Int)) s.Cut) (s.Done.set p true) (s.Joints.set p j) s.Fallen⟩
section
variable {l:LayoutT} (n8:l.Pieces.length≤8) {es:List EdgeT} (hes:es.length≤1000000)
include n8 hes
theorem FV {c:List Bool} (hc:c.length=es.length) (H:List (List Bool)) {D:List Bool} (hD:D.length=l.Pieces.length) {J:List Int} (hJ:J.length=l.Pieces.length) {F:List Bool} (hF:F.length=l.Pieces.length) :
  aK (Dh l es (c,H,D,J)) (0,F)=some (fell l.Pieces.length es c D J F)∧aK (kX es (c,H,D,J)) (0,F)=some (fell l.Pieces.length es c D J F):=by
 have core:∀ k,k<l.Pieces.length→∃ d j,D[k]?=some d∧J[k]?=some j∧D.getD k false=d∧J.getD k 0=j:=fun k hk=>by
  have e1:D[k]?=some (D[k]'(by omega)):=List.getElem?_eq_getElem (by omega)
  have e2:J[k]?=some (J[k]'(by omega)):=List.getElem?_eq_getElem (by omega)
  exact ⟨_,_,e1,e2,nM e1,nM e2⟩
 constructor
 ·refine Tc (Dh l es (c,H,D,J)) (LB es c D J) hF (fun k c' hk hc'=>?_) (fun c' _=>by simp [Dh])
  obtain ⟨d,j,e1,e2,e3,e4⟩:=core k hk
  have e5:c'[k]?=some (c'[k]'(by omega)):=List.getElem?_eq_getElem (by omega)
  unfold Dh LB
  have hd:decide ((k:Int)<(l.Pieces.length:Int))=true:=by simp [hk]
  simp only [hd,if_true,free_eq hes hc,Option.bind_some,aP e1,aP e2,e3,e4,aP e5,Sd,aX k (by omega),Int.toNat_natCast]
  cases Qt es c (k:Int) <;> cases d <;> cases decide (j>0) <;> rfl
 ·refine Tc (kX es (c,H,D,J)) (LB es c D J) hF (fun k c' hk hc'=>?_) (fun c' hc'=>by simp [kX,hc'])
  obtain ⟨d,j,e1,e2,e3,e4⟩:=core k hk
  have e5:c'[k]?=some (c'[k]'(by omega)):=List.getElem?_eq_getElem (by omega)
  unfold kX LB
  have hd:decide ((k:Int)<(c'.length:Int))=true:=by simp;omega
  simp only [hd,if_true,LY hes hc,Option.bind_some,aP e1,aP e2,e3,e4,aP e5,oV,aX k (by omega),Int.toNat_natCast]
  cases Qt es c (k:Int) <;> cases d <;> cases decide (j>0) <;> rfl
omit n8 in
theorem WJ {c:List Bool} (hc:c.length=es.length) (x:ItemT) {p:Nat} (hp:x.Piece=p):aK (Ha es x) (0,c)=some (mark es.length (Qp es (p:Int)) c)∧aK (kY es x) (0,c)=some (mark es.length (Qp es (p:Int)) c):=by
 constructor
 ·refine Tc (Ha es x) (Qp es (p:Int)) hc (fun k c' hk hc'=>?_) (fun c' _=>by simp [Ha])
  have e1:es[k]?=some es[k]:=List.getElem?_eq_getElem hk
  have e5:c'[k]?=some (c'[k]'(by omega)):=List.getElem?_eq_getElem (by omega)
  unfold Ha Qp
  have hd:decide ((k:Int)<(es.length:Int))=true:=by simp [hk]
  simp only [hd,if_true,aP e1,e1,Option.bind_some,YI,hp,aP e5,Si,aX k (by omega),Int.toNat_natCast]
  cases ofB es[k] (p:Int) <;> rfl
 ·refine Tc (kY es x) (Qp es (p:Int)) hc (fun k c' hk hc'=>?_) (fun c' _=>by simp [kY])
  have e1:es[k]?=some es[k]:=List.getElem?_eq_getElem hk
  have e5:c'[k]?=some (c'[k]'(by omega)):=List.getElem?_eq_getElem (by omega)
  unfold kY Qp ofB
  have hd:decide ((k:Int)<(es.length:Int))=true:=by simp [hk]
  simp only [hd,if_true,aP e1,e1,Option.bind_some,hp,aP e5,oW,aX k (by omega),Int.toNat_natCast]
  cases (es[k].A==(p:Int)) <;> cases (es[k].B==(p:Int)) <;> rfl
end
inductive Does (l:LayoutT) (es:List EdgeT) (s:RS) (x:ItemT):RS→Prop
 | hole {p h:Nat} {y:Piece} {t:List Bool} (hp:x.Piece=p) (hh:x.Hole=h) (hj:x.Joints=0) (hy:l.Pieces[p]?=some y) (hf:s.Fallen[p]?=some false) (ht:s.Holes[p]?=some t) (hb:t[h]?=some false):Does l es s x (XK l.Pieces.length es s p h t)
 | line {p:Nat} {y:Piece} {t:List Bool} (hp:x.Piece=p) (hh:x.Hole=-1) (hj:0≤x.Joints∧x.Joints≤4) (hy:l.Pieces[p]?=some y) (hf:s.Fallen[p]?=some false) (hd:s.Done[p]?=some false) (ht:s.Holes[p]?=some t) (ha:(t.all fun b=>b)=true) (hn:Qt es s.Cut (p:Int)=false):Does l es s x (O8 l.Pieces.length es s p x.Joints)
theorem F3 {l:LayoutT} (hl:LV l) {es:List EdgeT} (hes:es.length≤1000000) {s:RS} (hs:SL1 s) (x:ItemT) :
  ∃ e,eG l es s x=some e∧((e≠0∧Ey l es (toC s) x=some (toC noS,e))∨(e=0∧Fit l es.length s∧∃ s',Does l es s x s'∧Ey l es (toC s) x=some (toC s',0)∧gJ es s x=some s')):=by
 obtain ⟨b,f1,f2,f3⟩:=TM hl.n es.length hs
 obtain ⟨k1,k2⟩:=WG hs
 unfold eG Ey
 rw [f1,f2]
 simp only [Option.bind_some]
 cases b with
 | false=>exact ⟨1,rfl,.inl ⟨by decide,rfl⟩⟩
 | true =>
 have fit:=f3.1 rfl
 simp only [if_true]
 by_cases a1:x.Piece<0
 ·exact ⟨1,by simp [a1],.inl ⟨by decide,by simp [a1];rfl⟩⟩
 by_cases a2:x.Piece ≥ (l.Pieces.length:Int)
 ·exact ⟨1,by simp [a1,a2],.inl ⟨by decide,by simp [a1,a2];rfl⟩⟩
 obtain ⟨p,hp⟩:∃ p:Nat,x.Piece=p:=⟨x.Piece.toNat,by omega⟩
 have hpl:p<l.Pieces.length:=by omega
 have hy:l.Pieces[p]?=some l.Pieces[p]:=List.getElem?_eq_getElem hpl
 generalize l.Pieces[p]=y at hy
 have b1:¬ ((p:Nat):Int)<0:=by omega
 have b2:¬ ((p:Nat):Int) ≥ (l.Pieces.length:Int):=by omega
 simp only [hp,b1,b2,decide_false,Bool.false_eq_true,if_false,Option.bind_some,aP hy]
 by_cases a3:x.Hole < -1
 ·exact ⟨1,by simp [a3],.inl ⟨by decide,by simp [a3];rfl⟩⟩
 by_cases a4:x.Hole ≥ (y.Cuts.length:Int)
 ·exact ⟨1,by simp [a3,a4],.inl ⟨by decide,by simp [a3,a4];rfl⟩⟩
 by_cases a5:x.Joints<0
 ·exact ⟨1,by simp [a3,a4,a5],.inl ⟨by decide,by simp [a3,a4,a5];rfl⟩⟩
 by_cases a6:x.Joints>4
 ·exact ⟨1,by simp [a3,a4,a5,a6],.inl ⟨by decide,by simp [a3,a4,a5,a6];rfl⟩⟩
 have hf:s.Fallen[p]?=some (s.Fallen[p]'(by have:=fit.f;omega)):=List.getElem?_eq_getElem (by have:=fit.f;omega)
 have hh:s.Holes[p]?=some (s.Holes[p]'(by have:=fit.h;omega)):=List.getElem?_eq_getElem (by have:=fit.h;omega)
 have hd:s.Done[p]?=some (s.Done[p]'(by have:=fit.d;omega)):=List.getElem?_eq_getElem (by have:=fit.d;omega)
 have hjn:s.Joints[p]?=some (s.Joints[p]'(by have:=fit.j;omega)):=List.getElem?_eq_getElem (by have:=fit.j;omega)
 generalize s.Fallen[p]'(by have:=fit.f;omega)=fl at hf
 generalize s.Holes[p]'(by have:=fit.h;omega)=t at hh
 generalize s.Done[p]'(by have:=fit.d;omega)=dn at hd
 generalize s.Joints[p]'(by have:=fit.j;omega)=jt at hjn
 have htl:=fit.hh p t y hh hy
 have htm:=hs.hh t (List.mem_of_getElem? hh)
 have hf':(toC s).Fallen[p]?=some fl:=hf
 have hh':(toC s).Holes[p]?=some t:=hh
 have hd':(toC s).Done[p]?=some dn:=hd
 have hjn':(toC s).Joints[p]?=some jt:=hjn
 by_cases a7:x.Hole ≥ 0
 ·-- a hole
  by_cases a8:x.Joints=0
  case neg =>
   have:(x.Joints != 0)=true:=by simp [a8]
   exact ⟨1,by simp [a3,a4,a5,a6,a7,this],.inl ⟨by decide,by simp [a3,a4,a5,a6,a7,this];rfl⟩⟩
  obtain ⟨h,hh0⟩:∃ h:Nat,x.Hole=h:=⟨x.Hole.toNat,by omega⟩
  have hhl:h<t.length:=by omega
  have hb:t[h]?=some t[h]:=List.getElem?_eq_getElem hhl
  have hc:y.Cuts[h]?=some (y.Cuts[h]'(by omega)):=List.getElem?_eq_getElem (by omega)
  generalize t[h]=bh at hb
  generalize y.Cuts[h]'(by omega)=cr at hc
  have n7:¬ x.Hole<0:=by omega
  have j0:(x.Joints != 0)=false:=by simp [a8]
  have b3:¬ ((h:Nat):Int) < -1:=by omega
  have b4:¬ ((h:Nat):Int) ≥ (y.Cuts.length:Int):=by omega
  have b7:((h:Nat):Int) ≥ 0:=by omega
  have bn7:¬ ((h:Nat):Int)<0:=by omega
  unfold Aa xI
  simp only [b3,b4,a5,a6,b7,bn7,j0,hp,decide_true,decide_false,Bool.false_eq_true,if_false,if_true,Option.bind_some,aP hf,aP hf',aP hh,aP hh',hh0,aP hb,aP hc,aP hy]
  cases fl with
  | true=>exact ⟨12,rfl,.inl ⟨by decide,rfl⟩⟩
  | false =>
  cases bh with
  | true=>exact ⟨12,rfl,.inl ⟨by decide,rfl⟩⟩
  | false =>
  simp only [Bool.false_eq_true,if_false,Option.bind_some,Bool.not_false,Bool.not_true]
  have fin:∀ r:Bool,∃ e,(if r=true then some (14:Int) else some 0)=some e∧((e≠0∧(if r=true then some (cut_State.mk [] [] [] [] [],(14:Int)) else (wN (toC s)).bind fun r34=>(idx r34.Holes (p:Int)).bind fun x214=>(idx x214 (h:Int)).bind fun x215=>Df l es r34 (r34.Cut,(List.set r34.Holes (Int.toNat (p:Int)) (List.set x214 (Int.toNat (h:Int)) true)),r34.Done,r34.Joints))=some (toC noS,e))∨(e=0∧Fit l es.length s∧∃ s',Does l es s x s'∧(if r=true then some (cut_State.mk [] [] [] [] [],(14:Int)) else (wN (toC s)).bind fun r34=>(idx r34.Holes (p:Int)).bind fun x214=>(idx x214 (h:Int)).bind fun x215=>Df l es r34 (r34.Cut,(List.set r34.Holes (Int.toNat (p:Int)) (List.set x214 (Int.toNat (h:Int)) true)),r34.Done,r34.Joints))=some (toC s',0)∧gJ es s x=some s')):=fun r=>by
   cases r with
   | true=>exact ⟨14,rfl,.inl ⟨by decide,rfl⟩⟩
   | false =>
     obtain ⟨l1,l2⟩:=FV (l:=l) hl.n hes fit.c (s.Holes.set p (t.set h true)) fit.d fit.j fit.f
     refine ⟨0,rfl,.inr ⟨rfl,fit,XK l.Pieces.length es s p h t,.hole hp hh0 a8 hy hf hh hb, ?_, ?_⟩⟩
     ·simp only [Bool.false_eq_true,if_false,k1,Option.bind_some,aP hh',aP hb,Int.toNat_natCast]
      unfold Df
      show (aK (Dh l es (s.Cut,s.Holes.set p (t.set h true),s.Done,s.Joints)) (0,s.Fallen)).bind _=_
      rw [l1];rfl
     ·unfold gJ
      rw [k2]
      have d7:decide (x.Hole ≥ 0)=true:=by simp [a7]
      simp only [Option.bind_some,d7,if_true,hp,hh0,aP hh,aP hb,Int.toNat_natCast]
      unfold kW
      rw [l2];rfl
  have conv1:∀ (A B C D':Prop) [Decidable A] [Decidable B] [Decidable C] [Decidable D'],(if decide A then some true else if decide B then some true else if decide C then some true else some (decide D'))=some (decide A || decide B || decide C || decide D'):=fun A B C D' _ _ _ _=>by
   by_cases h1:A <;> by_cases h2:B <;> by_cases h3:C <;> simp [h1,h2,h3]
  rw [conv1]
  have conv2:(if decide (x.Lead.X>cr.X)=true then (if decide (x.Lead.X<aL cr.X cr.W)=true then (if decide (x.Lead.Y>cr.Y)=true then some (decide (x.Lead.Y<aL cr.Y cr.H)) else some false) else some false) else some false)=some (!(decide (x.Lead.X≤cr.X) || decide (x.Lead.X ≥ aL cr.X cr.W) || decide (x.Lead.Y≤cr.Y) || decide (x.Lead.Y ≥ aL cr.Y cr.H))):=by
   by_cases h1:x.Lead.X≤cr.X
   ·have:¬ x.Lead.X>cr.X:=by omega
    simp [h1,this]
   ·have n1:x.Lead.X>cr.X:=by omega
    by_cases h2:x.Lead.X ≥ aL cr.X cr.W
    ·have:¬ x.Lead.X<aL cr.X cr.W:=by omega
     simp [h1,n1,h2,this]
    ·have n2:x.Lead.X<aL cr.X cr.W:=by omega
     by_cases h3:x.Lead.Y≤cr.Y
     ·have:¬ x.Lead.Y>cr.Y:=by omega
      simp [h1,n1,h2,n2,h3,this]
     ·have n3:x.Lead.Y>cr.Y:=by omega
      by_cases h4:x.Lead.Y ≥ aL cr.Y cr.H
      ·have:¬ x.Lead.Y<aL cr.Y cr.H:=by omega
       simp [h1,n1,h2,n2,h3,n3,h4,this]
      ·have n4:x.Lead.Y<aL cr.Y cr.H:=by omega
       simp [h1,n1,h2,n2,h3,n3,h4,n4]
  rw [conv2]
  simp only [Option.bind_some,Bool.not_not]
  exact fin _
 ·-- an outline
  have hm1:x.Hole=-1:=by omega
  have n7:x.Hole<0:=by omega
  obtain ⟨sb,s1,s2⟩:∃ b,Me y=some b∧mZ y=some b:=⟨_,VJ y (by have:=hl.r12 y (List.mem_of_getElem? hy);omega),UJ y (by have:=hl.r12 y (List.mem_of_getElem? hy);omega)⟩
  obtain ⟨lb,l1,l2,_⟩:=TZ hl hes fit.c x n7
  have fr1:=free_eq hes fit.c (p:Int) s.Holes s.Done s.Joints s.Fallen
  have fr2:=LY hes fit.c (p:Int) s.Holes s.Done s.Joints s.Fallen
  have fr1':vC (toC s) es (p:Int)=some (Qt es s.Cut (p:Int)):=fr1
  have fr2':jV es s (p:Int)=some (Qt es s.Cut (p:Int)):=fr2
  rw [hp] at l2
  unfold Aa
  simp only [a3,a4,a5,a6,a7,n7,hp,decide_true,decide_false,Bool.false_eq_true,if_false,if_true,Option.bind_some,aP hf,aP hf',aP hh,aP hh',aP hd,aP hd',Hr t htm,NM t htm,fr1',fr2',s1,s2,l1,l2]
  cases fl with
  | true=>exact ⟨12,rfl,.inl ⟨by decide,rfl⟩⟩
  | false =>
  cases dn with
  | true=>exact ⟨12,rfl,.inl ⟨by decide,rfl⟩⟩
  | false =>
  cases ha:(t.all fun b=>b) with
  | false=>exact ⟨12,rfl,.inl ⟨by decide,rfl⟩⟩
  | true =>
  cases hfr:Qt es s.Cut (p:Int) with
  | true=>exact ⟨12,rfl,.inl ⟨by decide,rfl⟩⟩
  | false =>
  simp only [Bool.false_eq_true,if_false,Option.bind_some,Bool.not_false,Bool.not_true,if_true]
  have hsm:∀ b:Bool,(if (x.Joints==0)=true then some sb else some false)=some b→(b=true→∃ e,(some (15:Int))=some e∧e≠0):=fun b _ _=>⟨15,rfl,by decide⟩
  cases hz:(if (x.Joints==0)=true then some sb else some false:Option Bool) with
  | none=>cases hj0:(x.Joints==0) <;> simp [hj0] at hz
  | some bz =>
  simp only [Option.bind_some]
  cases bz with
  | true=>exact ⟨15,rfl,.inl ⟨by decide,rfl⟩⟩
  | false =>
  simp only [Bool.false_eq_true,if_false]
  cases lb with
  | false=>exact ⟨14,rfl,.inl ⟨by decide,rfl⟩⟩
  | true =>
  simp only [Bool.not_true,Bool.false_eq_true,if_false,k1,Option.bind_some,aP hd',aP hjn',Int.toNat_natCast]
  obtain ⟨c1,c2⟩:=WJ hes fit.c x hp
  have hml:(mark es.length (Qp es (p:Int)) s.Cut).length=es.length:=xW _ _ _
  obtain ⟨g1,g2⟩:=FV (l:=l) hl.n hes hml s.Holes (D:=s.Done.set p true) (by rw [List.length_set];exact fit.d) (J:=s.Joints.set p x.Joints) (by rw [List.length_set];exact fit.j) fit.f
  refine ⟨0,rfl,.inr ⟨rfl,fit,O8 l.Pieces.length es s p x.Joints,.line hp hm1 (by omega) hy hf hd hh ha hfr, ?_, ?_⟩⟩
  ·show (aK (Ha es x) (0,s.Cut)).bind _=_
   rw [c1]
   simp only [Option.bind_some]
   unfold Df
   show (aK (Dh l es (mark es.length (Qp es (p:Int)) s.Cut,s.Holes,s.Done.set p true,s.Joints.set p x.Joints)) (0,s.Fallen)).bind _=_
   rw [g1];rfl
  ·unfold gJ
   rw [k2]
   have d7:decide (x.Hole ≥ 0)=false:=by simp;omega
   simp only [Option.bind_some,d7,Bool.false_eq_true,if_false,hp,aP hd,aP hjn,c2,Int.toNat_natCast]
   unfold kW
   rw [g2];rfl
end Go.SM
namespace Go.SM
open Go Go.VI Go.Cells
def st0 (l:LayoutT) (n:Nat):RS:=⟨List.replicate n false,l.Pieces.map fun x=>List.replicate x.Cuts.length false,List.replicate l.Pieces.length false,List.replicate l.Pieces.length 0,List.replicate l.Pieces.length false⟩
theorem Wu {α:Type} (n:Nat) (z:α) (h:n≤1048576):mk (n:Int) z=some (List.replicate n z):=by
 unfold mk
 rw [if_pos ⟨by omega,by simp [LIM];omega⟩,Int.toNat_natCast]
section
variable {l:LayoutT} (n8:l.Pieces.length≤8) (hc:∀ x ∈ l.Pieces,x.Cuts.length≤1048576)
include n8 hc
theorem ZT (n:Nat) (hn:n≤200000):Dj l (n:Int)=some (toC (st0 l n)):=by
 have key:aK (Bh l) (0,[])=some (l.Pieces.map fun x=>List.replicate x.Cuts.length false):=by
  refine Nw l.Pieces (fun x=>List.replicate x.Cuts.length false) (Bh l) (by omega) (fun k x acc hx=>?_) (fun acc=>by simp [Bh])
  have hk:=aY hx
  unfold Bh
  have hd:decide ((k:Int)<(l.Pieces.length:Int))=true:=by simp [hk]
  simp only [hd,if_true,aP hx,Option.bind_some,Wu _ false (hc x (List.mem_of_getElem? hx)),aX k (by omega)]
 unfold Dj
 rw [Wu n false (by omega),Wu _ false (show l.Pieces.length≤1048576 by omega),Wu _ (0:Int) (show l.Pieces.length≤1048576 by omega)]
 simp only [Option.bind_some,key]
 rfl
theorem UN {es:List EdgeT} (he:bV l=some es) (hn:es.length≤200000):iE l=some (st0 l es.length):=by
 have key:aK (kF l) (0,[])=some (l.Pieces.map fun x=>List.replicate x.Cuts.length false):=by
  refine Nw l.Pieces (fun x=>List.replicate x.Cuts.length false) (kF l) (by omega) (fun k x acc hx=>?_) (fun acc=>by simp [kF])
  have hk:=aY hx
  unfold kF
  have hd:decide ((k:Int)<(l.Pieces.length:Int))=true:=by simp [hk]
  simp only [hd,if_true,aP hx,Option.bind_some,Wu _ false (hc x (List.mem_of_getElem? hx)),aX k (by omega)]
 unfold iE
 rw [he]
 simp only [Option.bind_some]
 rw [Wu es.length false (by omega),Wu _ false (show l.Pieces.length≤1048576 by omega),Wu _ (0:Int) (show l.Pieces.length≤1048576 by omega)]
 simp only [Option.bind_some,key]
 rfl
omit n8 hc in
theorem Tm (n:Nat):Fit l n (st0 l n):=by
 refine ⟨by simp [st0],by simp [st0],by simp [st0],by simp [st0],by simp [st0],fun k t x h1 h2=>?_⟩
 have:(st0 l n).Holes[k]?=some (List.replicate x.Cuts.length false):=by
  show (l.Pieces.map fun x=>List.replicate x.Cuts.length false)[k]?=_
  rw [List.getElem?_map,h2];rfl
 rw [this] at h1
 injection h1 with h1
 rw [← h1,List.length_replicate]
end
theorem FE (a:List Int) (h:a.length≤1048576):iA a a=some true:=by
 unfold iA
 simp only [bne_self_eq_false,Bool.false_eq_true,if_false]
 rw [Ij a (lF a a) (fun _=>true) (.inl ()) (.inr ()) (fun k x hx=>?s) ?f]
 ·simp
 case s =>
  have h1:=aY hx
  unfold lF
  simp [h1,aP hx,aX k (show (k:Int)<9223372036854775807 by omega)]
 case f=>simp [lF]
theorem OP:SL1 noS:=⟨by simp [noS],by simp [noS],fun t ht=>by simp [noS] at ht,by simp [noS],by simp [noS],by simp [noS]⟩
theorem Qr {l:LayoutT} {es:List EdgeT} {s s':RS} {x:ItemT} (hd:Does l es s x s') (hf:Fit l es.length s):Fit l es.length s':=by
 cases hd with
 | @hole p h y t hp hh hj hy hfl ht hb =>
   refine ⟨hf.c,by show (s.Holes.set p _).length=_;rw [List.length_set];exact hf.h,hf.d,hf.j,xW _ _ _,fun k u z h1 h2=>?_⟩
   have h1':(s.Holes.set p (t.set h true))[k]?=some u:=h1
   rw [List.getElem?_set] at h1'
   split at h1'
   ·rename_i e
    subst e
    split at h1'
    ·injection h1' with h1'
     rw [← h1',List.length_set]
     exact hf.hh p t z ht h2
    ·cases h1'
   ·exact hf.hh k u z h1' h2
 | @line p y t hp hh hj hy hfl hdn ht ha hn =>
   exact ⟨xW _ _ _,hf.h,by show (s.Done.set p true).length=_;rw [List.length_set];exact hf.d,by show (s.Joints.set p x.Joints).length=_;rw [List.length_set];exact hf.j,xW _ _ _,hf.hh⟩
theorem XC {l:LayoutT} (n8:l.Pieces.length≤8) (hc:∀ x ∈ l.Pieces,x.Cuts.length≤1048576) {n:Nat} (hn:n≤200000) {s:RS} (hf:Fit l n s):SL1 s:=by
 have h1:=hf.c;have h2:=hf.d;have h3:=hf.j;have h4:=hf.f;have h5:=hf.h
 refine ⟨by omega,by omega,fun t ht=>?_,by omega,by omega,by omega⟩
 obtain ⟨k,hk⟩:=List.mem_iff_getElem?.1 ht
 have hkl:=aY hk
 have hx:l.Pieces[k]?=some (l.Pieces[k]'(by omega)):=List.getElem?_eq_getElem (by omega)
 rw [hf.hh k t _ hk hx]
 exact hc _ (List.mem_of_getElem? hx)
theorem E8 {l:LayoutT} (h:vV l):∀ x ∈ l.Pieces,x.Cuts.length≤1048576:=fun x hx=>by
 obtain ⟨_,_,_,_,_,r2,_⟩:=h.2.2 x hx
 exact r2.1
end Go.SM
namespace Go.SM
open Go Go.VI Go.Cells
structure Step (l:LayoutT) (es:List EdgeT) (s:RS) (x:ItemT) (s':RS):Prop where
 d:Does l es s x s'
 c:Ey l es (toC s) x=some (toC s',0)
 r:eG l es s x=some 0
 f:gJ es s x=some s'
structure Stop1 (l:LayoutT) (es:List EdgeT) (s:RS) (x:ItemT) (e:Int):Prop where
 n:e≠0
 r:eG l es s x=some e
 c:Ey l es (toC s) x=some (toC noS,e)
inductive Steps (l:LayoutT) (es:List EdgeT):RS→List ItemT→List RS→Prop
 | nil (s:RS):Steps l es s [] []
 | cons {s s':RS} {x:ItemT} {xs:List ItemT} {ss:List RS} (h:Step l es s x s') (t:Steps l es s' xs ss):Steps l es s (x::xs) (s'::ss)
def rF:RS→List RS→RS
 | s,[]=>s
 | _,s'::ss=>rF s' ss
def Qh {E:Type} (up:RS→RS→E→E):RS→List RS→E→E
 | _,[],e=>e
 | s,s'::ss,e=>Qh up s' ss (up s s' e)
theorem Steps.len {l:LayoutT} {es:List EdgeT} {s:RS} {xs:List ItemT} {ss:List RS} (h:Steps l es s xs ss):ss.length=xs.length:=by
 induction h with
 | nil=>rfl
 | cons _ _ ih=>simp [ih]
theorem GI:∀ (ss:List RS) (s:RS),ss≠[]→ss[ss.length-1]?=some (rF s ss)
 | [],_,h=>absurd rfl h
 | [a],_,_=>rfl
 | a::b::ss,s,_=>by
   have:=GI (b::ss) a (by simp)
   show (a::b::ss)[ss.length+1]?=_
   rw [List.getElem?_cons_succ]
   exact this
section
variable {l:LayoutT} (hl:LV l) (hc:∀ x ∈ l.Pieces,x.Cuts.length≤1048576) {es:List EdgeT} (hes:es.length≤200000)
include hl hc hes
theorem ZV {s:RS} (hf:Fit l es.length s) (x:ItemT):(∃ e,Stop1 l es s x e)∨∃ s',Step l es s x s'∧Fit l es.length s':=by
 obtain ⟨e,r1,r2⟩:=F3 hl (show es.length≤1000000 by omega) (XC hl.n hc hes hf) x
 rcases r2 with ⟨he,r2⟩ | ⟨he,_,s',hd,r2,r3⟩
 ·exact .inl ⟨e,he,r1,r2⟩
 ·subst he
  exact .inr ⟨s',⟨hd,r2,r1,r3⟩,Qr hd hf⟩
theorem RN:∀ (xs:List ItemT) (s:RS),Fit l es.length s→(∃ ss,Steps l es s xs ss)∨∃ pre x post ss e,xs=pre++x::post∧Steps l es s pre ss∧Stop1 l es (rF s ss) x e
 | [],s,_=>.inl ⟨[],.nil s⟩
 | x::xs,s,hf=>by
   rcases ZV hl hc hes hf x with ⟨e,h⟩ | ⟨s',h,hf'⟩
   ·exact .inr ⟨[],x,xs,[],e,rfl,.nil s,h⟩
   ·rcases RN xs s' hf' with ⟨ss,h2⟩ | ⟨pre,y,post,ss,e,rfl,h2,h3⟩
    ·exact .inl ⟨_,.cons h h2⟩
    ·exact .inr ⟨x::pre,y,post,s'::ss,e,rfl,.cons h h2,h3⟩
omit hl hc hes in
theorem Yp {s:RS} {xs:List ItemT} {ss:List RS} (h:Steps l es s xs ss):Fit l es.length s→Fit l es.length (rF s ss)∧∀ t ∈ ss,Fit l es.length t:=by
 induction h with
 | nil s=>exact fun hf=>⟨hf,fun t ht=>by cases ht⟩
 | cons h _ ih =>
   intro hf
   have h1:=Qr h.d hf
   obtain ⟨a,b⟩:=ih h1
   refine ⟨a,fun t ht=>?_⟩
   cases ht with
   | head=>exact h1
   | tail _ ht=>exact b t ht
end
section
variable {l:LayoutT} {es:List EdgeT} {items:List ItemT} {E S R:Type} (mk:Nat→RS→E→S) (body:S→Option (S ⊕ R)) (up:RS→RS→E→E) (I:Nat→RS→E→Prop)
variable (step:∀ k x s s' e,items[k]?=some x→Step l es s x s'→Fit l es.length s→I k s e→body (mk k s e)=some (.inl (mk (k+1) s' (up s s' e)))∧I (k+1) s' (up s s' e))
include step
theorem PL {xs:List ItemT} {s:RS} {ss:List RS} (h:Steps l es s xs ss):∀ (k:Nat) (e:E) (post:List ItemT),items.drop k=xs++post→Fit l es.length s→I k s e→aK body (mk k s e)=aK body (mk (k+xs.length) (rF s ss) (Qh up s ss e))∧I (k+xs.length) (rF s ss) (Qh up s ss e):=by
 induction h with
 | nil s=>exact fun k e post _ _ hI=>⟨rfl,hI⟩
 | @cons s s' x xs ss h _ ih =>
   intro k e post hd hf hI
   have hx:items[k]?=some x:=by
    have:(items.drop k)[0]?=some x:=by rw [hd];rfl
    rwa [List.getElem?_drop,Nat.add_zero] at this
   obtain ⟨h1,h2⟩:=step k x s s' e hx h hf hI
   have hd':items.drop (k+1)=xs++post:=by
    have:(items.drop k).drop 1=xs++post:=by rw [hd];rfl
    rwa [List.drop_drop] at this
   obtain ⟨g1,g2⟩:=ih (k+1) _ post hd' (Qr h.d hf) h2
   have e1:k+(x::xs).length=k+1+xs.length:=by simp;omega
   rw [e1]
   refine ⟨?_,g2⟩
   rw [kJ h1,g1];rfl
theorem PM (fin:RS→E→R) (hfin:∀ s e,body (mk items.length s e)=some (.inr (fin s e))) {s:RS} {ss:List RS} (h:Steps l es s items ss) (e:E) (hf:Fit l es.length s) (hI:I 0 s e):aK body (mk 0 s e)=some (fin (rF s ss) (Qh up s ss e)):=by
 obtain ⟨g,_⟩:=PL mk body up I step h 0 e [] (by simp) hf hI
 rw [g,Nat.zero_add]
 exact eP (hfin _ _)
theorem JL (err:Nat→Int→RS→E→R) (herr:∀ k x s e c,items[k]?=some x→Stop1 l es s x c→I k s e→body (mk k s e)=some (.inr (err k c s e))) {s:RS} {pre post:List ItemT} {x:ItemT} {ss:List RS} {c:Int} (hi:items=pre++x::post) (h:Steps l es s pre ss) (hs:Stop1 l es (rF s ss) x c) (e:E) (hf:Fit l es.length s) (hI:I 0 s e):aK body (mk 0 s e)=some (err pre.length c (rF s ss) (Qh up s ss e)):=by
 obtain ⟨g,g2⟩:=PL mk body up I step h 0 e (x::post) (by simp [hi]) hf hI
 rw [Nat.zero_add] at g g2
 rw [g]
 refine eP (herr _ x _ _ _ ?_ hs g2)
 rw [hi,List.getElem?_append_right (Nat.le_refl _)];simp
end
end Go.SM
namespace Go.SM
open Go Go.VI
end Go.SM
namespace Go.SM
open Go Go.VI Go.Cells
structure Ran (l:LayoutT) (items:List ItemT) (es:List EdgeT) (ss:List RS):Prop where
 v:LV l
 c:∀ x ∈ l.Pieces,x.Cuts.length≤1048576
 e1:wW l=some (es,0)
 e2:Di l=some es
 e3:bV l=some es
 n:es.length≤200000
 g:∃ xs ys,Lay (regs l) xs ys∧es=CF (regs l) xs ys
 k:items.length≤128
 s:Steps l es (st0 l es.length) items ss
 a1:Dj l (es.length:Int)=some (toC (st0 l es.length))
 a2:iE l=some (st0 l es.length)
 vr:dP l=some 0
 t:dK l items=some (ss,0,0)
theorem FX:∀ (ss:List RS) (s:RS) (acc:List RS),Qh (fun _ s' a=>a++[s']) s ss acc=acc++ss
 | [],_,acc=>by simp [Qh]
 | s'::ss,_,acc=>by rw [Qh,FX ss];simp
section
variable {l:LayoutT} {es:List EdgeT} {items:List ItemT} (h128:items.length≤128)
include h128
theorem Yx (k:Nat) (x:ItemT) (s s':RS) (hx:items[k]?=some x) (h:Step l es s x s'):dB l items (es,0) ((k:Int),s.Holes,s.Cut,s.Done,s.Joints,s.Fallen)=some (.inl (((k+1:Nat):Int),s'.Holes,s'.Cut,s'.Done,s'.Joints,s'.Fallen)):=by
 have hk:=aY hx
 unfold dB
 have hd:decide ((k:Int)<(items.length:Int))=true:=by simp [hk]
 have hc:Ey l es ⟨s.Cut,s.Holes,s.Done,s.Joints,s.Fallen⟩ x=some (toC s',0):=h.c
 simp only [hd,if_true,aP hx,Option.bind_some,hc,bne_self_eq_false,Bool.false_eq_true,if_false,aX k (show (k:Int)<9223372036854775807 by omega)]
 rfl
omit h128 in
theorem KT (k:Nat) (x:ItemT) (s:RS) (c:Int) (hx:items[k]?=some x) (h:Stop1 l es s x c):dB l items (es,0) ((k:Int),s.Holes,s.Cut,s.Done,s.Joints,s.Fallen)=some (.inr (.inl ((k:Int),c))):=by
 have hk:=aY hx
 unfold dB
 have hd:decide ((k:Int)<(items.length:Int))=true:=by simp [hk]
 have hc:Ey l es ⟨s.Cut,s.Holes,s.Done,s.Joints,s.Fallen⟩ x=some (toC noS,c):=h.c
 have hn:(c != 0)=true:=by rw [bne_iff_ne];exact h.n
 simp only [hd,if_true,aP hx,Option.bind_some,hc,hn]
theorem Zh (k:Nat) (x:ItemT) (s s':RS) (acc:List RS) (hacc:acc.length=k) (hx:items[k]?=some x) (h:Step l es s x s'):bJ l items es ((k:Int),s.Cut,s.Holes,s.Done,s.Joints,s.Fallen,acc)=some (.inl (((k+1:Nat):Int),s'.Cut,s'.Holes,s'.Done,s'.Joints,s'.Fallen,acc++[s'])):=by
 have hk:=aY hx
 unfold bJ
 have hd:decide ((k:Int)<(items.length:Int))=true:=by simp [hk]
 have hr:eG l es ⟨s.Cut,s.Holes,s.Done,s.Joints,s.Fallen⟩ x=some 0:=h.r
 have hc:gJ es ⟨s.Cut,s.Holes,s.Done,s.Joints,s.Fallen⟩ x=some s':=h.f
 have ha:app acc [s']=some (acc++[s']):=nA (by unfold LIM;simp;omega)
 simp only [hd,if_true,aP hx,Option.bind_some,hr,hc,bne_self_eq_false,Bool.false_eq_true,if_false,ha,aX k (show (k:Int)<9223372036854775807 by omega)]
omit h128 in
theorem NB (k:Nat) (x:ItemT) (s:RS) (acc:List RS) (c:Int) (hx:items[k]?=some x) (h:Stop1 l es s x c):bJ l items es ((k:Int),s.Cut,s.Holes,s.Done,s.Joints,s.Fallen,acc)=some (.inr (.inl ((k:Int),c))):=by
 have hk:=aY hx
 unfold bJ
 have hd:decide ((k:Int)<(items.length:Int))=true:=by simp [hk]
 have hr:eG l es ⟨s.Cut,s.Holes,s.Done,s.Joints,s.Fallen⟩ x=some c:=h.r
 have hn:(c != 0)=true:=by rw [bne_iff_ne];exact h.n
 simp only [hd,if_true,aP hx,Option.bind_some,hr,hn]
end
theorem KD (l:LayoutT) (h:vV l) (items:List ItemT):∃ s k e,Zy l items=some (toC s,k,e,s.Holes)∧pJ l items=some (s,k,e,s.Cut,s.Holes,s.Done,s.Joints,s.Fallen)∧SL1 s ∧
  ((e≠0∧s=noS∧((k=0∧((∃ es,wW l=some (es,e))∨∃ es,wW l=some (es,0)∧es.length≤200000∧¬ items.length≤128∧e=4)) ∨
    ∃ es pre x post ss,items.length≤128∧LV l∧wW l=some (es,0)∧es.length≤200000∧Dj l (es.length:Int)=some (toC (st0 l es.length))∧items=pre++x::post∧k=(pre.length:Int)∧Steps l es (st0 l es.length) pre ss∧Stop1 l es (rF (st0 l es.length) ss) x e)) ∨
   (e=0∧k=0∧∃ es ss,Ran l items es ss∧s=rF (st0 l es.length) ss)):=by
 obtain ⟨es,b,v1,v2,e1,e2,e3,e4,e5⟩:=NJ l h
 have hc:=E8 h
 unfold Zy Ak pJ
 rw [e1,v2]
 simp only [Option.bind_some]
 by_cases hb:b=0
 case neg =>
  have hb':(b != 0)=true:=by rw [bne_iff_ne];exact hb
  simp only [hb',if_true,Option.bind_some]
  exact ⟨noS,0,b,rfl,rfl,OP,.inl ⟨hb,rfl,.inl ⟨rfl,.inl ⟨es,rfl⟩⟩⟩⟩
 subst hb
 obtain ⟨hl,g1,g2,g3⟩:=e5 rfl
 simp only [bne_self_eq_false,Bool.false_eq_true,if_false]
 by_cases h128:items.length≤128
 case neg =>
  have:decide ((items.length:Int)>128)=true:=by simp;omega
  simp only [this,if_true,Option.bind_some]
  exact ⟨noS,0,4,rfl,rfl,OP,.inl ⟨by decide,rfl,.inl ⟨rfl,.inr ⟨es,rfl,e3,h128,rfl⟩⟩⟩⟩
 have hd:decide ((items.length:Int)>128)=false:=by simp;omega
 have a1:=ZT hl.n hc es.length e3
 have a2:=UN hl.n hc g2 e3
 have hf0:=Tm (l:=l) es.length
 simp only [hd,Bool.false_eq_true,if_false,a1,Option.bind_some]
 have S1:=fun s ss=>PM (l:=l) (es:=es) (items:=items) (fun k (s:RS) (_:Unit)=>((k:Int),s.Holes,s.Cut,s.Done,s.Joints,s.Fallen)) (dB l items (es,0)) (fun _ _ e=>e) (fun _ _ _=>True)
  (fun k x s s' _ hx hs _ _=>⟨Yx h128 k x s s' hx hs,trivial⟩) (fun s _=>.inr (s.Holes,s.Cut,s.Done,s.Joints,s.Fallen)) (fun s _=>by simp [dB]) (s:=s) (ss:=ss)
 have S2:=fun pre x post s ss c=>JL (l:=l) (es:=es) (items:=items) (fun k (s:RS) (_:Unit)=>((k:Int),s.Holes,s.Cut,s.Done,s.Joints,s.Fallen)) (dB l items (es,0)) (fun _ _ e=>e) (fun _ _ _=>True)
  (fun k x s s' _ hx hs _ _=>⟨Yx h128 k x s s' hx hs,trivial⟩) (fun k c _ _=>.inl ((k:Int),c)) (fun k x s _ c hx hs _=>KT k x s c hx hs) (pre:=pre) (post:=post) (x:=x) (s:=s) (ss:=ss) (c:=c)
 have S3:=fun s ss=>PM (l:=l) (es:=es) (items:=items) (fun k (s:RS) (acc:List RS)=>((k:Int),s.Cut,s.Holes,s.Done,s.Joints,s.Fallen,acc)) (bJ l items es) (fun _ s' a=>a++[s']) (fun k _ a=>a.length=k)
  (fun k x s s' acc hx hs _ hI=>⟨Zh h128 k x s s' acc hI hx hs,by simp [hI]⟩) (fun _ acc=>.inr acc) (fun s acc=>by simp [bJ]) (s:=s) (ss:=ss)
 have S4:=fun pre x post s ss c=>JL (l:=l) (es:=es) (items:=items) (fun k (s:RS) (acc:List RS)=>((k:Int),s.Cut,s.Holes,s.Done,s.Joints,s.Fallen,acc)) (bJ l items es) (fun _ s' a=>a++[s']) (fun k _ a=>a.length=k)
  (fun k x s s' acc hx hs _ hI=>⟨Zh h128 k x s s' acc hI hx hs,by simp [hI]⟩) (fun k c _ _=>.inl ((k:Int),c)) (fun k x s acc c hx hs _=>NB k x s acc c hx hs) (pre:=pre) (post:=post) (x:=x) (s:=s) (ss:=ss) (c:=c)
 rcases RN hl hc e3 items (st0 l es.length) hf0 with ⟨ss,hs⟩ | ⟨pre,x,post,ss,e,hi,hs,hx⟩
 ·-- all run
  have q1:=S1 _ _ hs () hf0 trivial
  have q3:=S3 _ _ hs [] hf0 rfl
  rw [FX,List.nil_append] at q3
  have hst:dK l items=some (ss,0,0):=by
   unfold dK
   rw [g2,a2]
   show (aK (bJ l items es) (0,(st0 l es.length).Cut,(st0 l es.length).Holes,(st0 l es.length).Done,(st0 l es.length).Joints,(st0 l es.length).Fallen,[])).bind _=_
   have q3':aK (bJ l items es) (0,(st0 l es.length).Cut,(st0 l es.length).Holes,(st0 l es.length).Done,(st0 l es.length).Joints,(st0 l es.length).Fallen,[])=some (.inr ss):=q3
   rw [q3'];rfl
  have hran:Ran l items es ss:=⟨hl,hc,e1,g1,g2,e3,g3,h128,hs,a1,a2,v2,hst⟩
  have hfit:=(Yp hs hf0).1
  refine ⟨rF (st0 l es.length) ss,0,0, ?_, ?_,XC hl.n hc e3 hfit,.inr ⟨rfl,rfl,es,ss,hran,rfl⟩⟩
  ·have q1':aK (dB l items (es,0)) (0,(toC (st0 l es.length)).Holes,(toC (st0 l es.length)).Cut,(toC (st0 l es.length)).Done,(toC (st0 l es.length)).Joints,(toC (st0 l es.length)).Fallen)=some (.inr ((rF (st0 l es.length) ss).Holes,(rF (st0 l es.length) ss).Cut,(rF (st0 l es.length) ss).Done,(rF (st0 l es.length) ss).Joints,(rF (st0 l es.length) ss).Fallen)):=q1
   rw [q1'];rfl
  ·by_cases h0:items=[]
   ·subst h0
    cases hs
    simp only [List.length_nil,Int.natCast_zero,beq_self_eq_true,if_true,a2,Option.bind_some]
    rfl
   ·have hz:((items.length:Int)==0)=false:=by
     rw [beq_eq_false_iff_ne]
     have:=List.length_pos_iff.2 h0
     omega
    have hss:ss≠[]:=by
     have h1:=hs.len
     have h2:=List.length_pos_iff.2 h0
     intro e
     rw [e,List.length_nil] at h1
     omega
    have hpos:=List.length_pos_iff.2 hss
    have hlen:=hs.len
    simp only [hz,Bool.false_eq_true,if_false,hst,Option.bind_some,bne_self_eq_false]
    have hsub:aJ (ss.length:Int) 1=((ss.length-1:Nat):Int):=by
     rw [bA (a:=(ss.length:Int)) (b:=1) (by omega) (by omega)];omega
    rw [hsub,aP (GI ss (st0 l es.length) hss)]
    rfl
 ·-- refused
  have q2:=S2 pre x post _ _ _ hi hs hx () hf0 trivial
  have q4:=S4 pre x post _ _ _ hi hs hx [] hf0 rfl
  refine ⟨noS,pre.length,e, ?_, ?_,OP,.inl ⟨hx.n,rfl,.inr ⟨es,pre,x,post,ss,h128,hl,rfl,e3,a1,hi,rfl,hs,hx⟩⟩⟩
  ·have q2':aK (dB l items (es,0)) (0,(toC (st0 l es.length)).Holes,(toC (st0 l es.length)).Cut,(toC (st0 l es.length)).Done,(toC (st0 l es.length)).Joints,(toC (st0 l es.length)).Fallen)=some (.inl ((pre.length:Int),e)):=q2
   rw [q2'];rfl
  ·have hz:((items.length:Int)==0)=false:=by
    rw [beq_eq_false_iff_ne,hi];simp;omega
   have hn:(e != 0)=true:=by rw [bne_iff_ne];exact hx.n
   have hst:dK l items=some ([],(pre.length:Int),e):=by
    unfold dK
    rw [g2,a2]
    have q4':aK (bJ l items es) (0,(st0 l es.length).Cut,(st0 l es.length).Holes,(st0 l es.length).Done,(st0 l es.length).Joints,(st0 l es.length).Fallen,[])=some (.inl ((pre.length:Int),e)):=q4
    simp only [Option.bind_some]
    rw [q4'];rfl
   simp only [hz,Bool.false_eq_true,if_false,hst,Option.bind_some,hn,if_true]
   rfl
theorem NI (l:LayoutT) (h:vV l) (items:List ItemT):∃ e,Rx l items=some e∧rZ l items=some e∧(e=0→∃ es ss,Ran l items es ss∧((rF (st0 l es.length) ss).Done.all fun b=>b)=true∧((rF (st0 l es.length) ss).Holes.all fun t=>t.all fun b=>b)=true):=by
 obtain ⟨s,k,e,r1,r2,r3,r4⟩:=KD l h items
 unfold Rx rZ
 rw [r1,r2]
 simp only [Option.bind_some]
 by_cases he:e=0
 case neg =>
  have he':(e != 0)=true:=by rw [bne_iff_ne];exact he
  simp only [he',if_true]
  exact ⟨e,rfl,rfl,fun h=>absurd h he⟩
 subst he
 have key:∃ es ss,Ran l items es ss∧s=rF (st0 l es.length) ss:=by
  rcases r4 with ⟨h,_⟩ | ⟨_,_,h⟩
  ·exact absurd rfl h
  ·exact h
 obtain ⟨es,ss,hr,hs⟩:=key
 have c1:=Hr s.Done r3.d
 have c2:=NM s.Done r3.d
 have c1':eF (toC s).Done false=some (!(s.Done.all fun b=>b)):=c1
 simp only [bne_self_eq_false,Bool.false_eq_true,if_false,c1',c2,Option.bind_some]
 cases hd:(s.Done.all fun b=>b) with
 | false=>exact ⟨12,rfl,rfl,fun h=>absurd h (by decide)⟩
 | true =>
   have hl2:=r3.h
   have l1:aK (Bd (toC s,k,0,s.Holes)) 0=some (if s.Holes.all (fun t=>t.all fun b=>b) then .inr () else .inl ()):=by
    refine Ij s.Holes (Bd (toC s,k,0,s.Holes)) (fun t=>t.all fun b=>b) (.inl ()) (.inr ()) (fun j t ht=>?_) ?_
    ·have hj:=aY ht
     have ht':(toC s).Holes[j]?=some t:=ht
     unfold Bd
     have hd:decide ((j:Int)<((toC s).Holes.length:Int))=true:=by show decide ((j:Int)<(s.Holes.length:Int))=true;simp [hj]
     simp only [hd,if_true,aP ht',Option.bind_some,Hr t (r3.hh t (List.mem_of_getElem? ht)),aX j (show (j:Int)<9223372036854775807 by omega)]
     cases (t.all fun b=>b) <;> rfl
    ·unfold Bd
     have:decide ((s.Holes.length:Int)<((toC s).Holes.length:Int))=false:=by show decide ((s.Holes.length:Int)<(s.Holes.length:Int))=false;simp
     simp only [this,Bool.false_eq_true,if_false]
   have l2:aK (jX (s,k,0,s.Cut,s.Holes,s.Done,s.Joints,s.Fallen)) 0=some (if s.Holes.all (fun t=>t.all fun b=>b) then .inr () else .inl ()):=by
    refine Ij s.Holes (jX (s,k,0,s.Cut,s.Holes,s.Done,s.Joints,s.Fallen)) (fun t=>t.all fun b=>b) (.inl ()) (.inr ()) (fun j t ht=>?_) ?_
    ·have hj:=aY ht
     unfold jX
     have hd:decide ((j:Int)<(s.Holes.length:Int))=true:=by simp [hj]
     simp only [hd,if_true,aP ht,Option.bind_some,NM t (r3.hh t (List.mem_of_getElem? ht)),aX j (show (j:Int)<9223372036854775807 by omega)]
     cases (t.all fun b=>b) <;> rfl
    ·simp [jX]
   simp only [Bool.not_true,Bool.false_eq_true,if_false,l1,l2,Option.bind_some]
   cases hh:s.Holes.all (fun t=>t.all fun b=>b) with
   | false=>exact ⟨12,rfl,rfl,fun h=>absurd h (by decide)⟩
   | true=>exact ⟨0,rfl,rfl,fun _=>⟨es,ss,hr,hs ▸ hd,hs ▸ hh⟩⟩
end Go.SM
namespace Go.SM
open Go Go.VI Go.Cells
def wr (a:Int):Int:=IntKind.i64.wrap a
theorem EK (a b:Int):wr (wr a+b)=wr (a+b):=by
 unfold wr
 simp only [IntKind.wrap,IntKind.signed,IntKind.bits,IntKind.min,IntKind.max]
 first | omega | (simp only [Int.reducePow,if_true];omega) | (simp;omega)
theorem NG (a:Int):wr (wr a)=wr a:=by have:=EK a 0;simpa using this
theorem RU:wr 0=0:=by unfold wr;exact Jz 0 (by omega) (by omega)
theorem Td {n:Nat} (g:Nat→Int) (body:Int×Int→Option (Int×Int ⊕ Int)) (step:∀ (k:Nat) (acc:Int),k<n→wr acc=acc→body (acc,(k:Int))=some (.inl (wr (acc+g k),((k+1:Nat):Int)))) (fin:∀ acc,body (acc,(n:Int))=some (.inr acc)) {acc:Int} (ha:wr acc=acc) :
  aK body (acc,0)=some (wr (acc+wH g n)):=by
 have key:=yI (List.range n) body (fun k=>(wr (acc+wH g k),(k:Int))) (wr (acc+wH g n)) (fun k x hx=>?_) ?_
 ·have e0:wr (acc+wH g 0)=acc:=by rw [show acc+wH g 0=acc from by simp [wH]];exact ha
  rw [e0] at key
  exact key
 ·have hk:k<n:=by have:=aY hx;simpa using this
  rw [step k _ hk (NG _),EK,Int.add_assoc]
  rfl
 ·rw [List.length_range,fin]
def EW (n:Nat) (q:Nat→Bool):List Int:=((List.range n).filter q).map fun i:Nat=>(i:Int)
theorem TK (n:Nat) (q:Nat→Bool):EW (n+1) q=if q n then EW n q++[(n:Int)] else EW n q:=by
 unfold EW
 rw [List.range_succ,List.filter_append,List.map_append]
 cases h:q n <;> simp [h]
theorem LD (n:Nat) (q:Nat→Bool):(EW n q).length≤n:=by
 unfold EW
 rw [List.length_map]
 have:=List.length_filter_le q (List.range n)
 rwa [List.length_range] at this
theorem GK {n:Nat} (body:Int×List Int→Option (Int×List Int ⊕ List Int)) (q:Nat→Bool) (step:∀ (k:Nat) (acc:List Int),k<n→acc.length≤k→body ((k:Int),acc)=some (.inl (((k+1:Nat):Int),if q k then acc++[(k:Int)] else acc))) (fin:∀ acc,body ((n:Int),acc)=some (.inr acc)):aK body (0,[])=some (EW n q):=by
 have key:=yI (List.range n) body (fun k=>((k:Int),EW k q)) (EW n q) (fun k x hx=>?_) ?_
 ·exact key
 ·have hk:k<n:=by have:=aY hx;simpa using this
  rw [step k _ hk (LD _ _),TK]
 ·rw [List.length_range,fin]
theorem HV (f g:Nat→Int):∀ n,wH (fun k=>f k+g k) n=wH f n+wH g n
 | 0=>by simp [wH]
 | n+1=>by simp only [wH];rw [HV f g n];omega
theorem Yq {f g:Nat→Int} {d:Int} {s:Nat} (hs:g s=f s+d) (hn:∀ k,k≠s→g k=f k):∀ n,s<n→wH g n=wH f n+d
 | 0,h=>by omega
 | n+1,h=>by
   simp only [wH]
   by_cases q:s<n
   ·rw [Yq hs hn n q,hn n (by omega)];omega
   ·have:s=n:=by omega
    subst this
    rw [wJ (g:=f) fun k hk=>hn k (by omega),hs];omega
theorem Rq:∀ n,wH (fun _=>0) n=0
 | 0=>rfl
 | n+1=>by simp only [wH];rw [Rq n];rfl
theorem AQ {R:List (List Rect)} {x y i:Int} (h:kM R x y=some i):0≤i∧i<(R.length:Int):=by
 unfold kM Tz at h
 cases hl:Ao R x y with
 | none=>rw [hl] at h;cases h
 | some k =>
   rw [hl] at h
   have h:(k:Int)=i:=Option.some.inj h
   unfold Ao at hl
   obtain ⟨hi,_⟩:=List.findIdx?_eq_some_iff_getElem.1 hl
   omega
theorem pick (c:Prop) [Decidable c] (s:Segment) (q p:Int):(if c then (⟨s,q,p⟩:EdgeT) else ⟨s,p,q⟩).A=p∨(if c then (⟨s,q,p⟩:EdgeT) else ⟨s,p,q⟩).B=p:=by
 by_cases h:c
 ·rw [if_pos h];exact .inr rfl
 ·rw [if_neg h];exact .inl rfl
theorem I5 {s:Segment} {a b:Option Int} {n:Nat} (ha:∀ i,a=some i→0≤i∧i<(n:Int)) (hb:∀ i,b=some i→0≤i∧i<(n:Int)) (hne:a≠b):∃ p:Nat,p<n∧ofB (mkE s a b) (p:Int)=true:=by
 have key:∀ i:Int,(0≤i∧i<(n:Int))→((mkE s a b).A=i∨(mkE s a b).B=i)→∃ p:Nat,p<n∧ofB (mkE s a b) (p:Int)=true:=fun i hi h=>by
  refine ⟨i.toNat,by omega, ?_⟩
  have e:((i.toNat:Nat):Int)=i:=by omega
  unfold ofB
  rw [e,Bool.or_eq_true,beq_iff_eq,beq_iff_eq]
  exact h
 cases a with
 | some i =>
   refine key i (ha i rfl) ?_
   unfold mkE
   exact pick _ s _ i
 | none =>
   cases b with
   | none=>exact absurd rfl hne
   | some j =>
     refine key j (hb j rfl) ?_
     unfold mkE
     simp only
     rw [if_pos (.inl (by omega))]
     exact .inl rfl
theorem WN {R:List (List Rect)} {xs ys:List Int} (hL:Lay R xs ys):∀ e ∈ CF R xs ys,∃ p:Nat,p<R.length∧ofB e (p:Int)=true:=by
 have key:∀ {s:Int→Int} {A B:Int→Option Int} (ln:Int→Int→Segment) (_:s=fun z=>cod (A z) (B z)) (_:∀ z,SmO (A z)) (_:∀ z,SmO (B z)) (_:∀ z i,A z=some i→0≤i∧i<(R.length:Int)) (_:∀ z i,B z=some i→0≤i∧i<(R.length:Int)),∀ e ∈ (rH s).map (fun p=>mkE (ln p.1 p.2) (A p.1) (B p.1)),∃ p:Nat,p<R.length∧ofB e (p:Int)=true:=fun {s A B} ln hs ha hb hA hB e he=>by
  obtain ⟨p,hp,rfl⟩:=List.mem_map.1 he
  have hr:s p.1≠0:=by
   unfold rH at hp
   split at hp
   ·rename_i hx
    exact (((Classical.choose_spec hx).2 p.1 p.2).1 hp).2.1
   ·cases hp
  have hne:A p.1≠B p.1:=fun q=>hr (by rw [hs];simp only;rw [(BO (ha _) (hb _)).2 q])
  exact I5 (hA _) (hB _) hne
 intro e he
 unfold CF at he
 rw [List.mem_append,List.mem_flatMap,List.mem_flatMap] at he
 rcases he with ⟨y,_,h⟩ | ⟨x,_,h⟩
 ·exact key (fun a b=>⟨a,y,b,y⟩) (A:=fun z=>kM R z y) (B:=fun z=>kM R z (y-1)) rfl (fun z=>Ag hL.m _ _) (fun z=>Ag hL.m _ _) (fun z i h=>AQ h) (fun z i h=>AQ h) e h
 ·exact key (fun a b=>⟨x,a,x,b⟩) (A:=fun z=>kM R x z) (B:=fun z=>kM R (x-1) z) rfl (fun z=>Ag hL.m _ _) (fun z=>Ag hL.m _ _) (fun z i h=>AQ h) (fun z i h=>AQ h) e h
end Go.SM
namespace Go.SM
open Go Go.VI
theorem TU:uL=some true:=by kernel_rfl
end Go.SM
namespace Go.SM
open Go Go.VI Go.Cells
def Wy (n:Nat) (s s':RS):List Int:=EW n fun i=>s'.Fallen.getD i false&&!s.Fallen.getD i false
theorem TJ {n:Nat} (hn:n≤8) {s s':RS} (h1:s.Fallen.length=n) (h2:s'.Fallen.length=n) (acc:List (List Int)) (ha:acc.length≤200):Fj (toC s') s.Fallen acc=some (acc++[Wy n s s']):=by
 have key:aK (zZ (toC s') s.Fallen) (0,[])=some (Wy n s s'):=by
  refine GK _ _ (fun k a hk ha=>?_) (fun a=>?_)
  ·have e1:(toC s').Fallen[k]?=some (s'.Fallen[k]'(by omega)):=List.getElem?_eq_getElem (by show k<s'.Fallen.length;omega)
   have e2:s.Fallen[k]?=some (s.Fallen[k]'(by omega)):=List.getElem?_eq_getElem (by omega)
   have e3:s'.Fallen[k]?=some (s'.Fallen[k]'(by omega)):=e1
   unfold zZ
   have hd:decide ((k:Int)<((toC s').Fallen.length:Int))=true:=by show decide ((k:Int)<(s'.Fallen.length:Int))=true;simp;omega
   have hap:app a [(k:Int)]=some (a++[(k:Int)]):=nA (by unfold LIM;simp;omega)
   simp only [hd,if_true,aP e1,aP e2,Option.bind_some,zY,hap,aX k (show (k:Int)<9223372036854775807 by omega),nM e3,nM e2]
   cases s'.Fallen[k]'(by omega) <;> cases s.Fallen[k]'(by omega) <;> rfl
  ·unfold zZ
   have:decide ((n:Int)<((toC s').Fallen.length:Int))=false:=by show decide ((n:Int)<(s'.Fallen.length:Int))=false;simp;omega
   simp only [this,Bool.false_eq_true,if_false]
 unfold Fj
 rw [key]
 have hap:app acc [Wy n s s']=some (acc++[Wy n s s']):=nA (by unfold LIM;simp;omega)
 simp only [Option.bind_some,hap]
theorem FY {n:Nat}:∀ (ss:List RS) (s:RS) (acc:List (List Int)),(Qh (fun s s' a=>a++[Wy n s s']) s ss acc).length=acc.length+ss.length
 | [],_,acc=>rfl
 | s'::ss,s,acc=>by rw [Qh,FY ss];simp;omega
theorem FZ {n:Nat}:∀ (ss:List RS) (s:RS) (acc:List (List Int)),(∀ t ∈ acc,t.length≤n)→∀ t ∈ Qh (fun s s' a=>a++[Wy n s s']) s ss acc,t.length≤n
 | [],_,acc,h=>h
 | s'::ss,s,acc,h=>FZ ss s' _ fun t ht=>by
   rcases List.mem_append.1 ht with ht | ht
   ·exact h t ht
   ·rw [List.mem_singleton.1 ht];exact LD _ _
theorem Zd {n:Nat} (hn:n≤8) {all:List RS} (hall:∀ t ∈ all,t.Fallen.length=n) (h128:all.length≤128) (z z':Int):∀ (ss:List RS) (k:Nat) (s:RS) (acc:List (List Int)),all.drop k=ss→s.Fallen.length=n→acc.length=k →
  aK (jY (all,z,z')) (s.Fallen,(k:Int),acc)=some (Qh (fun s s' a=>a++[Wy n s s']) s ss acc)
 | [],k,s,acc,hd,_,_=>by
   have hk:all.length≤k:=by
    have:=congrArg List.length hd
    simp at this;omega
   refine eP ?_
   unfold jY
   have:decide ((k:Int)<(all.length:Int))=false:=by simp;omega
   simp only [this,Bool.false_eq_true,if_false]
   rfl
 | s'::ss,k,s,acc,hd,hs,ha=>by
   have hx:all[k]?=some s':=by
    have:(all.drop k)[0]?=some s':=by rw [hd];rfl
    rwa [List.getElem?_drop,Nat.add_zero] at this
   have hk:=aY hx
   have hs':=hall s' (List.mem_of_getElem? hx)
   have hd':all.drop (k+1)=ss:=by
    have:(all.drop k).drop 1=ss:=by rw [hd];rfl
    rwa [List.drop_drop] at this
   have key:aK (nW (all,z,z') (s.Fallen,(k:Int),acc)) (0,[])=some (Wy n s s'):=by
    refine GK _ _ (fun j a hj ha=>?_) (fun a=>?_)
    ·have e1:s'.Fallen[j]?=some (s'.Fallen[j]'(by omega)):=List.getElem?_eq_getElem (by omega)
     have e2:s.Fallen[j]?=some (s.Fallen[j]'(by omega)):=List.getElem?_eq_getElem (by omega)
     unfold nW
     have hd:decide ((j:Int)<(s.Fallen.length:Int))=true:=by simp;omega
     have hap:app a [(j:Int)]=some (a++[(j:Int)]):=nA (by unfold LIM;simp;omega)
     simp only [hd,if_true,aP hx,aP e1,aP e2,Option.bind_some,nV,hap,aX j (show (j:Int)<9223372036854775807 by omega),nM e1,nM e2]
     cases s'.Fallen[j]'(by omega) <;> cases s.Fallen[j]'(by omega) <;> rfl
    ·unfold nW
     have:decide ((n:Int)<(s.Fallen.length:Int))=false:=by simp;omega
     simp only [this,Bool.false_eq_true,if_false]
   have hap:app acc [Wy n s s']=some (acc++[Wy n s s']):=nA (by unfold LIM;simp;omega)
   rw [kJ (s':=(s'.Fallen,((k+1:Nat):Int),acc++[Wy n s s']))]
   ·exact Zd hn hall h128 z z' ss (k+1) s' _ hd' hs' (by simp [ha])
   ·unfold jY
    have hd:decide ((k:Int)<(all.length:Int))=true:=by simp [hk]
    simp only [hd,if_true,key,Option.bind_some,hap,aP hx,aX k (show (k:Int)<9223372036854775807 by omega)]
section
variable {l:LayoutT} (n8:l.Pieces.length≤8) {es:List EdgeT} {items:List ItemT} (h128:items.length≤128)
include n8 h128
theorem Yv (k:Nat) (x:ItemT) (s s':RS) (acc:List (List Int)) (ha:acc.length=k) (hx:items[k]?=some x) (h:Step l es s x s') (hf:Fit l es.length s):bT l items (es,0) ((k:Int),acc,s.Cut,s.Holes,s.Done,s.Joints,s.Fallen,s.Fallen)=some (.inl (((k+1:Nat):Int),acc++[Wy l.Pieces.length s s'],s'.Cut,s'.Holes,s'.Done,s'.Joints,s'.Fallen,s'.Fallen)):=by
 have hk:=aY hx
 unfold bT
 have hd:decide ((k:Int)<(items.length:Int))=true:=by simp [hk]
 have hc:Ey l es ⟨s.Cut,s.Holes,s.Done,s.Joints,s.Fallen⟩ x=some (toC s',0):=h.c
 have hq:=TJ n8 hf.f (Qr h.d hf).f acc (by omega)
 simp only [hd,if_true,aP hx,Option.bind_some,hc,bne_self_eq_false,Bool.false_eq_true,if_false,hq,aX k (show (k:Int)<9223372036854775807 by omega)]
 rfl
omit n8 h128 in
theorem KP (k:Nat) (x:ItemT) (s:RS) (acc:List (List Int)) (c:Int) (hx:items[k]?=some x) (h:Stop1 l es s x c):bT l items (es,0) ((k:Int),acc,s.Cut,s.Holes,s.Done,s.Joints,s.Fallen,s.Fallen)=some (.inr (.inl ((k:Int),c,acc,s.Fallen))):=by
 have hk:=aY hx
 unfold bT
 have hd:decide ((k:Int)<(items.length:Int))=true:=by simp [hk]
 have hc:Ey l es ⟨s.Cut,s.Holes,s.Done,s.Joints,s.Fallen⟩ x=some (toC noS,c):=h.c
 have hn:(c != 0)=true:=by rw [bne_iff_ne];exact h.n
 simp only [hd,if_true,aP hx,Option.bind_some,hc,hn]
end
theorem NK (l:LayoutT) (h:vV l) (items:List ItemT):∃ a e,Md l items=some (a,e)∧sD l items=some (a,e)∧a.length≤1048576∧∀ t ∈ a,t.length≤1048576:=by
 obtain ⟨s,k,e,r1,r2,r3,r4⟩:=KD l h items
 have hp:l.Pieces.length≤1048576:=h.2.1
 have hm:=Wu l.Pieces.length false hp
 unfold Md sD
 rw [hm,r2]
 simp only [Option.bind_some]
 rcases r4 with ⟨he,_,r4⟩ | ⟨he,_,es,ss,hr,hs⟩
 ·have he':(e != 0)=true:=by rw [bne_iff_ne];exact he
  have key:∃ s' k' c hh d j f a b,oJ l items (List.replicate l.Pieces.length false) []=some (s',k',e,c,hh,d,j,f,a,b):=by
   unfold oJ
   rcases r4 with ⟨_,⟨es,h1⟩ | ⟨es,h1,_,h2,h3⟩⟩ | ⟨es,pre,x,post,ss,h1,hl,h2,h3,h4,h5,h6,h7,h8⟩
   ·rw [h1]
    simp only [Option.bind_some,he',if_true]
    exact ⟨_,_,_,_,_,_,_,_,_,rfl⟩
   ·subst h3
    have hd:decide ((items.length:Int)>128)=true:=by simp;omega
    rw [h1]
    simp only [Option.bind_some,bne_self_eq_false,Bool.false_eq_true,if_false,hd,if_true]
    exact ⟨_,_,_,_,_,_,_,_,_,rfl⟩
   ·have hd:decide ((items.length:Int)>128)=false:=by simp;omega
    rw [h2]
    simp only [Option.bind_some,bne_self_eq_false,Bool.false_eq_true,if_false,hd,h4]
    have q:=JL (l:=l) (es:=es) (items:=items) (fun k (s:RS) (acc:List (List Int))=>((k:Int),acc,s.Cut,s.Holes,s.Done,s.Joints,s.Fallen,s.Fallen)) (bT l items (es,0)) (fun s s' a=>a++[Wy l.Pieces.length s s']) (fun k _ a=>a.length=k)
     (fun k x s s' acc hx hs hf hI=>⟨Yv hl.n h1 k x s s' acc hI hx hs hf,by simp [hI]⟩) (fun k c s acc=>.inl ((k:Int),c,acc,s.Fallen)) (fun k x s acc c hx hs _=>KP k x s acc c hx hs) h5 h7 h8 [] (Tm es.length) rfl
    have q':aK (bT l items (es,0)) (0,[],(toC (st0 l es.length)).Cut,(toC (st0 l es.length)).Holes,(toC (st0 l es.length)).Done,(toC (st0 l es.length)).Joints,(toC (st0 l es.length)).Fallen,List.replicate l.Pieces.length false)=_:=q
    rw [q']
    exact ⟨_,_,_,_,_,_,_,_,_,rfl⟩
  obtain ⟨s',k',c,hh,d,j,f,a,b,key⟩:=key
  rw [key]
  simp only [Option.bind_some,he',if_true]
  exact ⟨[],e,rfl,rfl,by simp,by simp⟩
 ·subst he
  have hfit:=Yp hr.s (Tm es.length)
  have hlen:=hr.s.len
  have hk:=hr.k
  have hd:decide ((items.length:Int)>128)=false:=by simp;omega
  have q:=PM (l:=l) (es:=es) (items:=items) (fun k (s:RS) (acc:List (List Int))=>((k:Int),acc,s.Cut,s.Holes,s.Done,s.Joints,s.Fallen,s.Fallen)) (bT l items (es,0)) (fun s s' a=>a++[Wy l.Pieces.length s s']) (fun k _ a=>a.length=k)
   (fun k x s s' acc hx hs hf hI=>⟨Yv hr.v.n hr.k k x s s' acc hI hx hs hf,by simp [hI]⟩) (fun s acc=>.inr (s.Cut,s.Holes,s.Done,s.Joints,s.Fallen,acc,s.Fallen)) (fun s acc=>by simp [bT]) hr.s [] (Tm es.length) rfl
  have q':aK (bT l items (es,0)) (0,[],(toC (st0 l es.length)).Cut,(toC (st0 l es.length)).Holes,(toC (st0 l es.length)).Done,(toC (st0 l es.length)).Joints,(toC (st0 l es.length)).Fallen,List.replicate l.Pieces.length false)=_:=q
  have q2:=Zd hr.v.n (all:=ss) (fun t ht=>(hfit.2 t ht).f) (by omega) 0 0 ss 0 (st0 l es.length) [] (by simp) (by simp [st0]) rfl
  have q2':aK (jY (ss,0,0)) (List.replicate l.Pieces.length false,0,[])=_:=q2
  unfold oJ
  rw [hr.e1,hr.t]
  simp only [Option.bind_some,bne_self_eq_false,Bool.false_eq_true,if_false,hd,hr.a1,q',q2']
  have hn:=hr.v.n
  refine ⟨_,0,rfl,rfl, ?_,fun t ht=>?_⟩
  ·rw [FY];simp;omega
  ·have:=FZ ss (st0 l es.length) [] (by simp) t ht
   omega
def Y7 (e:EdgeT):Int:=aJ (aL (aJ e.Line.X2 e.Line.X1) e.Line.Y2) e.Line.Y1
def YP (r:Rect):Int:=lZ 2 (aL r.W r.H)
def OL (es:List EdgeT) (i:Nat):Int:=match es[i]? with
 | some e=>Y7 e
 | none=>0
def WI (x:Piece) (h:Nat):Int:=match x.Cuts[h]? with
 | some r=>YP r
 | none=>0
def LP (l:LayoutT) (p:Nat):Int:=match l.Pieces[p]? with
 | some x=>wH (WI x) x.Cuts.length
 | none=>0
def Xm (l:LayoutT) (es:List EdgeT):Int:=wH (OL es) es.length+wH (LP l) l.Pieces.length
theorem SY {l:LayoutT} (n8:l.Pieces.length≤8) (hc:∀ x ∈ l.Pieces,x.Cuts.length≤1048576) {es:List EdgeT} (hes:es.length≤200000):(aK (wX es) (0,0)).bind (fun a=>aK (yQ l) (a,0))=some (wr (Xm l es)):=by
 rw [Td (n:=es.length) (OL es) (wX es) (fun k acc hk ha=>?_) (fun acc=>by simp [wX]) RU]
 ·simp only [Option.bind_some]
  rw [Td (n:=l.Pieces.length) (LP l) (yQ l) (fun k acc hk ha=>?_) (fun acc=>by simp [yQ]) (NG _),EK,Int.zero_add]
  ·rfl
  ·have hx:l.Pieces[k]?=some l.Pieces[k]:=List.getElem?_eq_getElem hk
   have hcl:=hc _ (List.mem_of_getElem? hx)
   generalize l.Pieces[k]=x at hx hcl
   have hin:aK (Ec x) (acc,0)=some (wr (acc+wH (WI x) x.Cuts.length)):=by
    refine Td _ _ (fun j a hj _=>?_) (fun a=>by simp [Ec]) ha
    have hr:x.Cuts[j]?=some x.Cuts[j]:=List.getElem?_eq_getElem hj
    unfold Ec WI
    have hd:decide ((j:Int)<(x.Cuts.length:Int))=true:=by simp [hj]
    simp only [hd,if_true,aP hr,hr,Option.bind_some,aX j (show (j:Int)<9223372036854775807 by omega)]
    rfl
   unfold yQ LP
   have hd:decide ((k:Int)<(l.Pieces.length:Int))=true:=by simp [hk]
   simp only [hd,if_true,aP hx,hx,Option.bind_some,hin,aX k (show (k:Int)<9223372036854775807 by omega)]
 ·have hx:es[k]?=some es[k]:=List.getElem?_eq_getElem hk
  unfold wX OL
  have hd:decide ((k:Int)<(es.length:Int))=true:=by simp [hk]
  simp only [hd,if_true,aP hx,hx,Option.bind_some,aX k (show (k:Int)<9223372036854775807 by omega)]
  rfl
def hM (l:LayoutT) (H:List (List Bool)) (p:Nat):Int:=match l.Pieces[p]? with
 | some x=>wH (fun h=>if (H.getD p []).getD h false then WI x h else 0) x.Cuts.length
 | none=>0
def eM (es:List EdgeT) (c:List Bool):Int:=wH (fun i=>if c.getD i false then OL es i else 0) es.length
def mM (l:LayoutT) (es:List EdgeT) (s:RS):Int:=eM es s.Cut+wH (hM l s.Holes) l.Pieces.length
def Ya (es:List EdgeT) (c c':List Bool):Int:=wH (fun i=>if c'.getD i false&&!c.getD i false then OL es i else 0) es.length
theorem Xw {α:Type} (n i:Nat) (z:α):(List.replicate n z).getD i z=z:=by
 rw [List.getD_eq_getElem?_getD,List.getElem?_replicate]
 split <;> rfl
theorem I4 (l:LayoutT) (es:List EdgeT):mM l es (st0 l es.length)=0:=by
 have h1:eM es (st0 l es.length).Cut=0:=by
  unfold eM
  rw [wJ (g:=fun _=>0) fun k hk=>?_,Rq]
  rw [show (st0 l es.length).Cut=List.replicate es.length false from rfl,Xw];rfl
 have h2:wH (hM l (st0 l es.length).Holes) l.Pieces.length=0:=by
  rw [wJ (g:=fun _=>0) fun k hk=>?_,Rq]
  have hx:l.Pieces[k]?=some l.Pieces[k]:=List.getElem?_eq_getElem hk
  unfold hM
  rw [hx]
  have hg:(st0 l es.length).Holes.getD k []=List.replicate l.Pieces[k].Cuts.length false:=nM (by show (l.Pieces.map _)[k]?=_;rw [List.getElem?_map,hx];rfl)
  simp only [hg,Xw,Bool.false_eq_true,if_false]
  exact Rq _
 unfold mM;rw [h1,h2];rfl
theorem Es {α:Type} (L:List α) (i j:Nat) (v z:α) (hi:i<L.length):(L.set i v).getD j z=if j=i then v else L.getD j z:=by
 rw [List.getD_eq_getElem?_getD,List.getElem?_set]
 by_cases e:i=j
 ·subst e;simp [hi]
 ·rw [if_neg e,if_neg fun h=>e h.symm,List.getD_eq_getElem?_getD]
theorem GL {n:Nat} (q:Nat→Bool) (c:List Bool) {i:Nat} (hi:i<n):(mark n q c).getD i false=(q i || c.getD i false):=nM (Rf q hi)
theorem WK {l:LayoutT} {es:List EdgeT} {s s':RS} {x:ItemT} (hd:Does l es s x s') (hf:Fit l es.length s) :
  (∃ (p h:Nat) (y:Piece) (r:Rect),x.Piece=p∧x.Hole=h∧l.Pieces[p]?=some y∧y.Cuts[h]?=some r∧mM l es s'=mM l es s+(YP r+Ya es s.Cut s'.Cut))∨(x.Hole<0∧mM l es s'=mM l es s+Ya es s.Cut s'.Cut):=by
 cases hd with
 | @hole p h y t hp hh hj hy hfl ht hb =>
   have htl:=hf.hh p t y ht hy
   have hhl:=aY hb
   have hpl:=aY ht
   have hc:y.Cuts[h]?=some (y.Cuts[h]'(by omega)):=List.getElem?_eq_getElem (by omega)
   refine .inl ⟨p,h,y,_,hp,hh,hy,hc, ?_⟩
   have hne:Ya es s.Cut (XK l.Pieces.length es s p h t).Cut=0:=by
    unfold Ya
    rw [wJ (g:=fun _=>0) fun k hk=>?_,Rq]
    show (if s.Cut.getD k false&&!s.Cut.getD k false then _ else _)=_
    cases s.Cut.getD k false <;> rfl
   rw [hne]
   have hin:hM l (s.Holes.set p (t.set h true)) p=hM l s.Holes p+YP (y.Cuts[h]'(by omega)):=by
    unfold hM
    rw [hy]
    simp only [Es s.Holes p p _ _ hpl,if_true,nM ht]
    refine Yq (s:=h) ?_ (fun k hk=>?_) _ (by omega)
    ·simp only [Es t h h true false hhl,if_true,nM hb,Bool.false_eq_true,if_false]
     unfold WI
     rw [hc]
     simp
    ·simp only [Es t h k true false hhl,if_neg hk]
   have hout:wH (hM l (s.Holes.set p (t.set h true))) l.Pieces.length=wH (hM l s.Holes) l.Pieces.length+YP (y.Cuts[h]'(by omega)):=by
    refine Yq hin (fun k hk=>?_) _ (aY hy)
    unfold hM
    rw [Es s.Holes p k _ _ hpl,if_neg hk]
   show eM es s.Cut+wH (hM l (s.Holes.set p (t.set h true))) l.Pieces.length=_
   rw [hout]
   unfold mM
   omega
 | @line p y t hp hh hj hy hfl hdn ht ha hn =>
   refine .inr ⟨by omega, ?_⟩
   show eM es (mark es.length (Qp es (p:Int)) s.Cut)+wH (hM l s.Holes) l.Pieces.length=eM es s.Cut+wH (hM l s.Holes) l.Pieces.length+Ya es s.Cut (mark es.length (Qp es (p:Int)) s.Cut)
   have:eM es (mark es.length (Qp es (p:Int)) s.Cut)=eM es s.Cut+Ya es s.Cut (mark es.length (Qp es (p:Int)) s.Cut):=by
    unfold eM Ya
    rw [← HV]
    refine wJ fun k hk=>?_
    rw [GL _ _ hk]
    cases Qp es (p:Int) k <;> cases s.Cut.getD k false <;> simp
   omega
theorem UL {l:LayoutT} (n8:l.Pieces.length≤8) {es:List EdgeT} (hes:es.length≤200000) {items:List ItemT} (h128:items.length≤128) {all:List RS} (z z':Int) {xs:List ItemT} {s:RS} {ss:List RS} (h:Steps l es s xs ss):∀ (k:Nat) (acc:Int),items.drop k=xs→all.drop k=ss→Fit l es.length s→wr acc=acc →
  aK (dH l items (all,z,z') es) (acc,(k:Int),s.Cut,s.Holes,s.Done,s.Joints,s.Fallen)=some (wr (acc+(mM l es (rF s ss)-mM l es s))):=by
 induction h with
 | nil s =>
   intro k acc hd _ _ ha
   have hk:items.length≤k:=by
    have:=congrArg List.length hd
    simp at this;omega
   rw [show acc+(mM l es (rF s [])-mM l es s)=acc by simp [rF],ha]
   refine eP ?_
   unfold dH
   have:decide ((k:Int)<(items.length:Int))=false:=by simp;omega
   simp only [this,Bool.false_eq_true,if_false]
 | @cons s s' x xs ss h _ ih =>
   intro k acc hd hd2 hf ha
   have hx:items[k]?=some x:=by
    have:(items.drop k)[0]?=some x:=by rw [hd];rfl
    rwa [List.getElem?_drop,Nat.add_zero] at this
   have hx2:all[k]?=some s':=by
    have:(all.drop k)[0]?=some s':=by rw [hd2];rfl
    rwa [List.getElem?_drop,Nat.add_zero] at this
   have hd':items.drop (k+1)=xs:=by
    have:(items.drop k).drop 1=xs:=by rw [hd];rfl
    rwa [List.drop_drop] at this
   have hd2':all.drop (k+1)=ss:=by
    have:(all.drop k).drop 1=ss:=by rw [hd2];rfl
    rwa [List.drop_drop] at this
   have hk:=aY hx
   have hf':=Qr h.d hf
   have inner:∀ a:Int,wr a=a→aK (mP (all,z,z') es (acc,(k:Int),s.Cut,s.Holes,s.Done,s.Joints,s.Fallen)) (a,0)=some (wr (a+Ya es s.Cut s'.Cut)):=fun a ha=>by
    refine Td _ _ (fun j b hj hb=>?_) (fun b=>by simp [mP]) ha
    have e1:s'.Cut[j]?=some (s'.Cut[j]'(by have:=hf'.c;omega)):=List.getElem?_eq_getElem (by have:=hf'.c;omega)
    have e2:s.Cut[j]?=some (s.Cut[j]'(by have:=hf.c;omega)):=List.getElem?_eq_getElem (by have:=hf.c;omega)
    have e3:es[j]?=some es[j]:=List.getElem?_eq_getElem hj
    unfold mP OL
    have hd:decide ((j:Int)<(es.length:Int))=true:=by simp [hj]
    simp only [hd,if_true,aP hx2,aP e1,aP e2,aP e3,e3,Option.bind_some,nM e1,nM e2,mO,yF,aX j (show (j:Int)<9223372036854775807 by omega)]
    have hb0:wr (b+0)=b:=by rw [Int.add_zero];exact hb
    cases s'.Cut[j]'(by have:=hf'.c;omega) <;> cases s.Cut[j]'(by have:=hf.c;omega) <;> simp only [Bool.false_and,Bool.true_and,Bool.not_true,Bool.not_false,Bool.false_eq_true,if_false,if_true,Option.bind_some,hb0] <;> rfl
   have fin:∀ a:Int,wr a=a→a=wr (acc+(mM l es s'-mM l es s-Ya es s.Cut s'.Cut))→dH l items (all,z,z') es (acc,(k:Int),s.Cut,s.Holes,s.Done,s.Joints,s.Fallen)=some (.inl (wr (a+Ya es s.Cut s'.Cut),((k+1:Nat):Int),s'.Cut,s'.Holes,s'.Done,s'.Joints,s'.Fallen))→aK (dH l items (all,z,z') es) (acc,(k:Int),s.Cut,s.Holes,s.Done,s.Joints,s.Fallen)=some (wr (acc+(mM l es (rF s (s'::ss))-mM l es s))):=fun a ha1 ha2 hb=>by
    rw [kJ hb,ih (k+1) _ hd' hd2' hf' (NG _),EK,ha2,Int.add_assoc,EK]
    show some (wr (acc+(mM l es s'-mM l es s-Ya es s.Cut s'.Cut)+(Ya es s.Cut s'.Cut+(mM l es (rF s' ss)-mM l es s'))))=some (wr (acc+(mM l es (rF s' ss)-mM l es s)))
    congr 2;omega
   have k3:∀ a:Int,wr a=a→jI (all,z,z') es (acc,(k:Int),s.Cut,s.Holes,s.Done,s.Joints,s.Fallen) a=some (.inl (wr (a+Ya es s.Cut s'.Cut),((k+1:Nat):Int),s'.Cut,s'.Holes,s'.Done,s'.Joints,s'.Fallen)):=fun a ha=>by
    unfold jI
    simp only [inner a ha,Option.bind_some,aP hx2,aX k (show (k:Int)<9223372036854775807 by omega)]
   have hdk:decide ((k:Int)<(items.length:Int))=true:=by simp [hk]
   rcases WK h.d hf with ⟨p,hh,y,r,hp,hhh,hy,hr,hm⟩ | ⟨hneg,hm⟩
   ·refine fin (wr (acc+YP r)) (NG _) (by congr 1;omega) ?_
    unfold dH
    have hge:decide (x.Hole ≥ 0)=true:=by simp;omega
    simp only [hdk,if_true,aP hx,Option.bind_some,hge,hp,hhh,aP hy,aP hr]
    exact k3 _ (NG _)
   ·refine fin acc ha (by rw [← ha];congr 1;rw [ha];omega) ?_
    unfold dH
    have hge:decide (x.Hole ≥ 0)=false:=by simp;omega
    simp only [hdk,if_true,aP hx,Option.bind_some,hge,Bool.false_eq_true,if_false]
    exact k3 _ ha
def Zw (es:List EdgeT) (s:RS):Prop:=∀ p:Nat,s.Done.getD p false=true→∀ i e,es[i]?=some e→ofB e (p:Int)=true→s.Cut.getD i false=true
theorem TA {l:LayoutT} {es:List EdgeT} {s s':RS} {x:ItemT} (hd:Does l es s x s') (hi:Zw es s):Zw es s':=by
 cases hd with
 | @hole p h y t hp hh hj hy hfl ht hb=>exact hi
 | @line p y t hp hh hj hy hfl hdn ht ha hn =>
   intro q hq i e he ho
   have hil:=aY he
   show (mark es.length (Qp es (p:Int)) s.Cut).getD i false=true
   rw [GL _ _ hil,Bool.or_eq_true]
   have hq':(s.Done.set p true).getD q false=true:=hq
   rw [Es _ _ _ _ _ (aY hdn)] at hq'
   by_cases e1:q=p
   ·subst e1
    left;unfold Qp;rw [he];exact ho
   ·rw [if_neg e1] at hq'
    exact .inr (hi q hq' i e he ho)
theorem PR {l:LayoutT} {es:List EdgeT} {s:RS} {xs:List ItemT} {ss:List RS} (h:Steps l es s xs ss):Zw es s→Zw es (rF s ss):=by
 induction h with
 | nil s=>exact fun h=>h
 | cons h _ ih=>exact fun hi=>ih (TA h.d hi)
theorem KH {t:List Bool} (h:(t.all fun b=>b)=true) {i:Nat} (hi:i<t.length):t.getD i false=true:=by
 rw [List.getD_eq_getElem?_getD,List.getElem?_eq_getElem hi]
 exact (List.all_eq_true.1 h) _ (List.getElem_mem hi)
theorem F6 {l:LayoutT} {items:List ItemT} {es:List EdgeT} {ss:List RS} (hr:Ran l items es ss) (hd:((rF (st0 l es.length) ss).Done.all fun b=>b)=true) (hh:((rF (st0 l es.length) ss).Holes.all fun t=>t.all fun b=>b)=true):mM l es (rF (st0 l es.length) ss)=Xm l es:=by
 have hf:=(Yp hr.s (Tm es.length)).1
 have hc:=PR hr.s (fun p hp=>by
  rw [show (st0 l es.length).Done=List.replicate l.Pieces.length false from rfl,Xw] at hp
  exact absurd hp (by decide))
 generalize rF (st0 l es.length) ss=s at hd hh hf hc
 obtain ⟨xs,ys,hL,hes⟩:=hr.g
 have h1:eM es s.Cut=wH (OL es) es.length:=by
  unfold eM
  refine wJ fun k hk=>?_
  have hk':es[k]?=some es[k]:=List.getElem?_eq_getElem hk
  obtain ⟨p,hp,ho⟩:=WN hL es[k] (by rw [← hes];exact List.getElem_mem hk)
  have hpl:p<s.Done.length:=by rw [hf.d];simpa [regs] using hp
  rw [hc p (KH hd hpl) k _ hk' ho]
  simp
 have h2:wH (hM l s.Holes) l.Pieces.length=wH (LP l) l.Pieces.length:=by
  refine wJ fun k hk=>?_
  have hx:l.Pieces[k]?=some l.Pieces[k]:=List.getElem?_eq_getElem hk
  have hkl:k<s.Holes.length:=by rw [hf.h];exact hk
  have ht:s.Holes[k]?=some s.Holes[k]:=List.getElem?_eq_getElem hkl
  unfold hM LP
  rw [hx]
  refine wJ fun j hj=>?_
  have hl:=hf.hh k _ _ ht hx
  rw [nM ht,KH ((List.all_eq_true.1 hh) _ (List.getElem_mem hkl)) (by omega)]
  simp
 unfold mM Xm
 rw [h1,h2]
theorem JZ (l:LayoutT) (h:vV l) (items:List ItemT):∃ n e,Ph l items=some (n,e)∧pW l items=some (n,e)∧(e=0→∃ es,bV l=some es∧LV l∧es.length≤200000∧n=wr (Xm l es)):=by
 obtain ⟨e,c1,c2,c3⟩:=NI l h items
 unfold Ph pW
 rw [c1,c2]
 simp only [Option.bind_some]
 by_cases he:e=0
 case neg =>
  have he':(e != 0)=true:=by rw [bne_iff_ne];exact he
  simp only [he',if_true]
  exact ⟨0,e,rfl,rfl,fun h=>absurd h he⟩
 subst he
 obtain ⟨es,ss,hr,hd,hh⟩:=c3 rfl
 have hlen:=hr.s.len
 have hk:=hr.k
 have q1:=SY hr.v.n hr.c hr.n
 have q2:=UL hr.v.n hr.n hr.k (all:=ss) 0 0 hr.s 0 0 (by simp) (by simp) (Tm es.length) RU
 rw [I4,F6 hr hd hh,Int.zero_add,Int.sub_zero] at q2
 have q2':aK (dH l items (ss,0,0) es) (0,0,(st0 l es.length).Cut,(st0 l es.length).Holes,(st0 l es.length).Done,(st0 l es.length).Joints,(st0 l es.length).Fallen)=some (wr (Xm l es)):=q2
 simp only [bne_self_eq_false,Bool.false_eq_true,if_false,hr.e2,hr.e3,hr.t,hr.a2,Option.bind_some,q2']
 refine ⟨wr (Xm l es),0, ?_,rfl,fun _=>⟨es,rfl,hr.v,hr.n,rfl⟩⟩
 cases hz:aK (wX es) (0,0) with
 | none=>rw [hz] at q1;cases q1
 | some a =>
   rw [hz] at q1
   simp only [Option.bind_some] at q1 ⊢
   rw [q1];rfl
theorem JC (l:LayoutT) (items:List ItemT) (h:vV l) (_:RLN 1048576 BF items):uK l items=some true:=by
 obtain ⟨a,e,f1,f2,f3,f4⟩:=NK l h items
 obtain ⟨n,g,g1,g2,_⟩:=JZ l h items
 have key:aK (iG (a,e) (a,e)) 0=some (.inr ()):=by
  have:=Ij a (iG (a,e) (a,e)) (fun _=>true) (.inl ()) (.inr ()) (fun k x hx=>?_) ?_
  ·rw [this];simp
  ·have h1:=aY hx
   unfold iG
   simp [h1,aP hx,FE x (f4 x (List.mem_of_getElem? hx)),aX k (show (k:Int)<9223372036854775807 by omega)]
  ·simp [iG]
 unfold uK
 rw [f1,f2,g1,g2]
 simp only [Option.bind_some,bne_self_eq_false,Bool.false_eq_true,if_false,key,TU]
end Go.SM
