/- What the functions compute, part 3. -/
import Derived.Test.YtgfjbgoehhnaeaaGreatPl2
import Derived.Test.YtgfjbgoehhnaeaaGreatPl1
set_option linter.unusedVariables false
set_option linter.unusedSimpArgs false
set_option linter.unusedSectionVars false
namespace Go.SM
open Go Go.VI
theorem Tf {s:Sheet} (h:kI s=some 0):s.Clamps.length≤4∧s.Used.length≤48:=by
  obtain ⟨a,ha,_⟩:=Name_same s.Name
  obtain ⟨b,hb,_⟩:=Name_same s.Material
  unfold kI at h
  rw [ha,hb] at h
  cases a with
  | false=>exact absurd (Option.some.inj h) (by decide)
  | true =>
  cases b with
  | false=>exact absurd (Option.some.inj h) (by decide)
  | true =>
  simp only [Option.bind_some,Qj,FZ,if_true,Bool.not_true,Bool.false_eq_true,if_false] at h
  generalize decide ((1≤s.Gauge∧s.Gauge≤60)∧0≤s.Grain∧s.Grain≤2)=g1 at h
  generalize decide (1≤s.Width∧s.Width≤1048576)=g2 at h
  generalize decide (1≤s.Height∧s.Height≤1048576)=g3 at h
  by_cases h4:(s.Clamps.length:Int)>4
  · simp only [h4,decide_true,if_true,Option.bind_some] at h
    cases g1 <;> cases g2 <;> cases g3 <;> exact absurd (Option.some.inj h) (by decide)
  by_cases h5:(s.Used.length:Int)>48
  · simp only [h4,h5,decide_false,decide_true,if_true,Bool.false_eq_true,if_false,Option.bind_some] at h
    cases g1 <;> cases g2 <;> cases g3 <;> exact absurd (Option.some.inj h) (by decide)
  omega
theorem SV {α:Type} {l:List α} {k:Nat} (h:k≤l.length):slc l 0 (k:Int)=some (l.take k):=by
  unfold slc;rw [if_pos (by omega)];simp
theorem EP {l:List Rect} {g:Rect→Int}:∀ {a:Int},l.foldl (fun s r=>min s (g r)) a=a∨∃ r ∈ l,l.foldl (fun s r=>min s (g r)) a=g r:=by
  induction l with
  | nil=>intro a;exact .inl rfl
  | cons x l ih =>
    intro a
    simp only [List.foldl_cons]
    rcases ih (a:=min a (g x)) with h | ⟨r,hr,h⟩
    · rw [h]
      by_cases hx:a≤g x
      · left;omega
      · right;exact ⟨x,by simp,by omega⟩
    · exact .inr ⟨r,by simp [hr],h⟩
theorem Mc {α β:Type} (l:List α) (f:α→β) (body:Int×List β→Option ((Int×List β) ⊕ List β)) (hl:l.length≤1048576) (step:∀ (k:Nat) x acc,l[k]?=some x→body ((k:Int),acc)=(app acc [f x]).bind fun l'=>some (.inl (((k+1:Nat):Int),l'))) (fin:∀ acc,body ((l.length:Int),acc)=some (.inr acc)) :
    aK body (0,[])=some (l.map f):=by
  refine Cf l body (fun k=>((k:Int),(l.take k).map f)) _ (fun k x hx=>?_) ?_
  · have hk:=(List.getElem?_eq_some_iff.1 hx).1
    rw [step k x _ hx,pY (by unfold LIM;simp;omega)]
    simp only [Option.bind_some]
    rw [List.take_add_one,hx]
    simp
  · rw [fin,List.take_length]
def bkR (x y:Int) (r:Rect):Rect:=if r.X < -4194304∨r.X>4194304∨r.Y < -4194304∨r.Y>4194304 then ⟨r.X,r.Y,0,r.H⟩ else ⟨aJ r.X x,aJ r.Y y,r.W,r.H⟩
def shR (x y:Int) (r:Rect):Rect:=if r.X > -2147483648∧r.X<2147483648∧r.Y > -2147483648∧r.Y<2147483648 then ⟨aM r.X x,aM r.Y y,r.W,r.H⟩ else r
theorem FL {l:List Rect} (hl:l.length≤1048576) (x y:Int):Lc l x y=some (l.map (bkR x y)):=by
  unfold Lc lZ
  rw [pY (by unfold LIM;simp;omega)]
  simp only [List.nil_append,Option.bind_some]
  have key:aK (Dx x y l) (0,l)=some (l.map (bkR x y)):=by
    refine Cf l (Dx x y l) (fun k=>((k:Int),(l.take k).map (bkR x y)++l.drop k)) _ (fun k r hr=>?_) ?_
    · have hk:=(List.getElem?_eq_some_iff.1 hr).1
      have h1:decide ((k:Int)<(l.length:Int))=true:=by simp;omega
      have ht:((l.take k).map (bkR x y)).length=k:=by simp;omega
      have ed:l.drop k=r::l.drop (k+1):=by rw [List.drop_eq_getElem_cons hk];congr 1;exact (List.getElem?_eq_some_iff.1 hr).2
      have g1:∀ z:Rect,((l.take k).map (bkR x y)++z::l.drop (k+1))[k]?=some z:=fun z=>by rw [List.getElem?_append_right (by omega),ht];simp
      have i1:∀ z:Rect,idx ((l.take k).map (bkR x y)++z::l.drop (k+1)) (k:Int)=some z:=fun z=>aP (g1 z)
      have s1:∀ z z':Rect,List.set ((l.take k).map (bkR x y)++z::l.drop (k+1)) k z'=(l.take k).map (bkR x y)++z'::l.drop (k+1):=fun z z'=>by rw [List.set_append_right _ _ (by omega),ht];simp
      have e:l.take (k+1)=l.take k++[r]:=by rw [List.take_add_one,hr];rfl
      unfold Dx Ir
      simp only [h1,if_true,ed,i1,g1,s1,Option.bind_some,Int.toNat_natCast]
      rw [aS (a:=(k:Int)) (by omega) (by omega),e,List.map_append,List.append_assoc]
      by_cases q1:r.X < -4194304
      · simp [q1,bkR]
      · by_cases q2:r.X>4194304
        · simp [q1,q2,bkR]
        · by_cases q3:r.Y < -4194304
          · simp [q1,q2,q3,bkR]
          · by_cases q4:r.Y>4194304
            · simp [q1,q2,q3,q4,bkR]
            · simp [q1,q2,q3,q4,bkR]
    · simp [Dx]
  rw [key]
  rfl
theorem CO {l:List Rect} (hl:l.length≤1048576) (x y:Int):jP l x y=some (l.map (shR x y)):=by
  unfold jP
  rw [Mc l (shR x y) (nN l x y) hl (fun k r acc hx=>?_) (fun acc=>?_)]
  · rfl
  · have hk:=(List.getElem?_eq_some_iff.1 hx).1
    unfold nN nM
    have h1:decide ((k:Int)<(l.length:Int))=true:=by simp;omega
    simp only [h1,if_true,aP hx,Option.bind_some]
    rw [aS (a:=(k:Int)) (by omega) (by omega)]
    unfold shR
    by_cases g1:r.X > -2147483648
    · by_cases g2:r.X<2147483648
      · by_cases g3:r.Y > -2147483648
        · by_cases g4:r.Y<2147483648
          · simp [g1,g2,g3,g4]
          · simp [g1,g2,g3,g4]
        · simp [g1,g2,g3]
      · simp [g1,g2]
    · simp [g1]
  · simp [nN]
theorem O6 {mx my:Int} (hx : -1048576≤mx∧mx≤1048576) (hy : -1048576≤my∧my≤1048576) (r:Rect) (hr:Zp r):bkR mx my r=shR (vG mx) (vG my) r∨(¬ vR (bkR mx my r)∧¬ vR (shR (vG mx) (vG my) r)):=by
  obtain ⟨⟨a1,a2⟩,⟨b1,b2⟩,_,_⟩:=hr
  unfold bkR shR
  rw [GI (a:=mx) (by omega) (by omega),GI (a:=my) (by omega) (by omega)]
  by_cases h:r.X < -4194304∨r.X>4194304∨r.Y < -4194304∨r.Y>4194304
  · right
    rw [if_pos h]
    refine ⟨fun q=>?_,fun q=>?_⟩
    · have:=q.2.2.1;simp at this
    · by_cases g:r.X > -2147483648∧r.X<2147483648∧r.Y > -2147483648∧r.Y<2147483648
      · rw [if_pos g,aS (by omega) (by omega),aS (by omega) (by omega)] at q
        obtain ⟨q1,q2,_⟩:=q
        simp only at q1 q2
        omega
      · rw [if_neg g] at q
        obtain ⟨q1,q2,_⟩:=q
        omega
  · left
    rw [if_neg h,if_pos (by omega),aY (by omega) (by omega),aY (by omega) (by omega),aS (by omega) (by omega),aS (by omega) (by omega)]
    rfl
theorem TI {x:Piece} {a b:Bool} (ha:lM x.Name=some a) (hb:lM x.Material=some b) (h:∃ r ∈ x.Rects++(x.Cuts++x.Forms),¬ vR r) :
    fB x=some (if a&&b then (if (1≤x.Gauge∧x.Gauge≤60)∧0≤x.Grain∧x.Grain≤2 then (if x.Rects.length>12∨x.Cuts.length>12∨x.Forms.length>12 then 4 else 1) else 1) else 2):=by
  unfold fB
  rw [ha,hb]
  cases a with
  | false=>rfl
  | true =>
  cases b with
  | false=>rfl
  | true =>
  simp only [Option.bind_some,Qj,Bool.and_self,if_true,Bool.not_true,Bool.false_eq_true,if_false]
  by_cases h1:(1≤x.Gauge∧x.Gauge≤60)∧0≤x.Grain∧x.Grain≤2
  · simp only [h1,and_self,decide_true,Bool.not_true,Bool.false_eq_true,if_false,if_true]
    by_cases l1:x.Rects.length>12
    · simp [show (x.Rects.length:Int)>12 by omega,l1]
    by_cases l2:x.Cuts.length>12
    · simp [show ¬ (x.Rects.length:Int)>12 by omega,show (x.Cuts.length:Int)>12 by omega,l1,l2]
    by_cases l3:x.Forms.length>12
    · simp [show ¬ (x.Rects.length:Int)>12 by omega,show ¬ (x.Cuts.length:Int)>12 by omega,show (x.Forms.length:Int)>12 by omega,l1,l2,l3]
    have d1:decide ((x.Rects.length:Int)>12)=false:=by simp;omega
    have d2:decide ((x.Cuts.length:Int)>12)=false:=by simp;omega
    have d3:decide ((x.Forms.length:Int)>12)=false:=by simp;omega
    have hc:¬ (x.Rects.length>12∨x.Cuts.length>12∨x.Forms.length>12):=by omega
    simp only [d1,d2,d3,hc,Bool.false_eq_true,if_false,Option.bind_some,valid_eq x.Rects (by omega),valid_eq x.Cuts (by omega),valid_eq x.Forms (by omega)]
    have anyb:∀ l:List Rect,(∃ r ∈ l,¬ vR r)→(l.any fun x=>!decide (vR x))=true:=fun l ⟨r,hr,hv⟩=>List.any_eq_true.2 ⟨r,hr,by simp [hv]⟩
    obtain ⟨r,hr,hv⟩:=h
    have hj:(if ((x.Rects.length:Int)==0)=true then some true else (if (!(x.Rects.any fun x=>!decide (vR x)))=true then (if (!(x.Cuts.any fun x=>!decide (vR x)))=true then some (!(!(x.Forms.any fun x=>!decide (vR x)))) else some true) else some true))=some true:=by
      cases (x.Rects.length:Int)==0 with
      | true=>rfl
      | false =>
        rcases List.mem_append.1 hr with hr | hr
        · rw [anyb _ ⟨r,hr,hv⟩];rfl
        · rcases List.mem_append.1 hr with hr | hr
          · rw [anyb x.Cuts ⟨r,hr,hv⟩];cases (x.Rects.any fun x=>!decide (vR x)) <;> rfl
          · rw [anyb x.Forms ⟨r,hr,hv⟩];cases (x.Rects.any fun x=>!decide (vR x)) <;> cases (x.Cuts.any fun x=>!decide (vR x)) <;> rfl
    rw [hj]
    rfl
  · simp only [h1,decide_false,Bool.not_false,if_true,if_false]
theorem G9 {x:Piece} (h:fB x=some 0):x.Rects.length≤12:=by
  obtain ⟨a,ha,_⟩:=Name_same x.Name
  obtain ⟨b,hb,_⟩:=Name_same x.Material
  unfold fB at h
  rw [ha,hb] at h
  by_cases l1:(x.Rects.length:Int)>12
  · cases a with
    | false=>exact absurd (Option.some.inj h) (by decide)
    | true =>
    cases b with
    | false=>exact absurd (Option.some.inj h) (by decide)
    | true =>
    simp only [Option.bind_some,Qj,if_true,Bool.not_true,Bool.false_eq_true,if_false,l1,decide_true] at h
    generalize decide ((1≤x.Gauge∧x.Gauge≤60)∧0≤x.Grain∧x.Grain≤2)=g1 at h
    cases g1 <;> exact absurd (Option.some.inj h) (by decide)
  · omega
def Sm (x:Piece):Prop:=(x.Rects.length≤1048576∧∀ r ∈ x.Rects,Zp r)∧(x.Cuts.length≤1048576∧∀ r ∈ x.Cuts,Zp r)∧(x.Forms.length≤1048576∧∀ r ∈ x.Forms,Zp r)
theorem EC (x0:Piece) (hl:x0.Rects.length≤1048576) (a b:Int):aK (fV x0) (a,b,0)=some (Vo x0.Rects a,Vp x0.Rects b):=by
  refine Cf x0.Rects (fV x0) (fun k=>(Vo (x0.Rects.take k) a,Vp (x0.Rects.take k) b,(k:Int))) _ (fun k r hr=>?_) ?_
  · have hk:=(List.getElem?_eq_some_iff.1 hr).1
    unfold fV
    have h1:decide ((k:Int)<(x0.Rects.length:Int))=true:=by simp;omega
    have e:x0.Rects.take (k+1)=x0.Rects.take k++[r]:=by rw [List.take_add_one,hr];rfl
    simp only [h1,if_true,aP hr,Option.bind_some,e,Eu]
    rw [aS (a:=(k:Int)) (by omega) (by omega)]
    unfold Vo Vp
    rw [List.foldl_append,List.foldl_append]
    rfl
  · simp [fV]
theorem QE (x0:Piece):oF x0=fV x0:=by
  funext s
  unfold oF fV
  cases idx x0.Rects s.2.2 <;> rfl
theorem NE (x0:Piece) (hl:x0.Rects.length≤1048576) {r:Rect} (hr:x0.Rects[0]?=some r):aK (oF x0) (r.X,r.Y,1)=some (Vo x0.Rects r.X,Vp x0.Rects r.Y):=by
  have i0:idx x0.Rects 0=some r:=aP (k:=0) hr
  have hk:=(List.getElem?_eq_some_iff.1 hr).1
  have h1:aK (fV x0) (r.X,r.Y,0)=aK (fV x0) (r.X,r.Y,1):=by
    refine lK ?_
    unfold fV
    have hd:decide ((0:Int)<(x0.Rects.length:Int))=true:=by simp;omega
    simp only [hd,if_true,i0,Option.bind_some,Eu,Int.min_self]
    rfl
  rw [QE,← h1,EC x0 hl]
theorem Ud {x:Piece} (hs:Sm x):∃ e:Int,qD x=some e∧(e=0→x.Rects.length≤12) ∧
    ∀ {S:Type} (k:S),((tK x).bind fun r79=>if (!r79.2.1) then (some (Sum.inr (Sum.inl (1:Int)):S ⊕ (Int ⊕ Unit))) else ((bX (Piece.mk r79.1.Name r79.1.Material r79.1.Gauge r79.1.Grain r79.1.Rects r79.1.Cuts r79.1.Forms)).bind fun r81=>if (r81 != 0) then (some (.inr (.inl r81))) else (some (.inl k))))=if e=0 then some (.inl k) else some (.inr (.inl e)):=by
  obtain ⟨⟨s1,t1⟩,⟨s2,t2⟩,s3,t3⟩:=hs
  have k1:aK (sF x) 0=some (if (x.Rects.any fun x=>!decide (vR x)) then .inl () else .inr ()):=by
    refine gV x.Rects (sF x) (fun k=>(k:Int)) _ _ _ rfl (fun k y hx=>?_) ?_
    · have hk:=(List.getElem?_eq_some_iff.1 hx).1
      unfold sF
      have h1:decide ((k:Int)<(x.Rects.length:Int))=true:=by simp;omega
      simp only [h1,if_true,aP hx,Option.bind_some,vD]
      rw [aS (a:=(k:Int)) (by omega) (by omega)]
      rfl
    · simp [sF]
  unfold qD tK
  rw [k1,Fv _ (by omega)]
  cases hv:(x.Rects.any fun x=>!decide (vR x)) with
  | true=>exact ⟨1,rfl,fun h=>absurd h (by decide),fun k=>rfl⟩
  | false =>
  have av:∀ r ∈ x.Rects,vR r:=fun r hr=>by have:=List.any_eq_false.1 hv r hr;simpa using this
  simp only [Bool.false_eq_true,if_false,Option.bind_some,Bool.not_false,Bool.not_true]
  by_cases h0:(x.Rects.length:Int)=0
  · obtain ⟨e,e1,e2⟩:=Td x
    refine ⟨e,by simp [h0,e1],fun _=>by omega,fun k=>?_⟩
    have e2':bX (Piece.mk x.Name x.Material x.Gauge x.Grain x.Rects x.Cuts x.Forms)=some e:=e2
    simp only [h0,beq_self_eq_true,if_true,Option.bind_some,Bool.not_true,Bool.false_eq_true,if_false,e2']
    by_cases he:e=0
    · simp [he]
    · simp [he]
  · have h0':((x.Rects.length:Int)==0)=false:=by rw [beq_eq_false_iff_ne];exact h0
    have hlt:0<x.Rects.length:=by omega
    have hr:x.Rects[0]?=some (x.Rects[0]'hlt):=by simp [hlt]
    have i0:idx x.Rects 0=some (x.Rects[0]'hlt):=aP (k:=0) hr
    have hmem:x.Rects[0]'hlt ∈ x.Rects:=List.getElem_mem hlt
    have rb:=NE x s1 hr
    generalize x.Rects[0]'hlt=r0 at hr i0 hmem rb
    have bx : -1048576≤Vo x.Rects r0.X∧Vo x.Rects r0.X≤1048576:=by
      have:∃ y ∈ x.Rects,Vo x.Rects r0.X=y.X:=by
        rcases EP (l:=x.Rects) (g:=fun r=>r.X) (a:=r0.X) with e | ⟨y,hy,e⟩
        · exact ⟨r0,hmem,e⟩
        · exact ⟨y,hy,e⟩
      obtain ⟨y,hy,e⟩:=this
      have:=av y hy;unfold vR at this;omega
    have by' : -1048576≤Vp x.Rects r0.Y∧Vp x.Rects r0.Y≤1048576:=by
      have:∃ y ∈ x.Rects,Vp x.Rects r0.Y=y.Y:=by
        rcases EP (l:=x.Rects) (g:=fun r=>r.Y) (a:=r0.Y) with e | ⟨y,hy,e⟩
        · exact ⟨r0,hmem,e⟩
        · exact ⟨y,hy,e⟩
      obtain ⟨y,hy,e⟩:=this
      have:=av y hy;unfold vR at this;omega
    unfold xL
    simp only [h0',Bool.false_eq_true,if_false,i0,Option.bind_some,EC x s1,rb,FL s1,FL s2,FL s3,CO s1,CO s2,CO s3,Bool.not_true]
    generalize Vo x.Rects r0.X=mx at bx
    generalize Vp x.Rects r0.Y=my at by'
    have main : ∃ e,fB ⟨x.Name,x.Material,x.Gauge,x.Grain,x.Rects.map (bkR mx my),x.Cuts.map (bkR mx my),x.Forms.map (bkR mx my)⟩=some e∧bX ⟨x.Name,x.Material,x.Gauge,x.Grain,x.Rects.map (shR (vG mx) (vG my)),x.Cuts.map (shR (vG mx) (vG my)),x.Forms.map (shR (vG mx) (vG my))⟩=some e:=by
      have cmp:=O6 bx by'
      by_cases hall:∀ r ∈ x.Rects++(x.Cuts++x.Forms),bkR mx my r=shR (vG mx) (vG my) r
      · have m1:x.Rects.map (bkR mx my)=x.Rects.map (shR (vG mx) (vG my)):=List.map_congr_left fun r hr=>hall r (List.mem_append.2 (.inl hr))
        have m2:x.Cuts.map (bkR mx my)=x.Cuts.map (shR (vG mx) (vG my)):=List.map_congr_left fun r hr=>hall r (List.mem_append.2 (.inr (List.mem_append.2 (.inl hr))))
        have m3:x.Forms.map (bkR mx my)=x.Forms.map (shR (vG mx) (vG my)):=List.map_congr_left fun r hr=>hall r (List.mem_append.2 (.inr (List.mem_append.2 (.inr hr))))
        rw [m1,m2,m3]
        exact Td _
      · have hex:∃ r ∈ x.Rects++(x.Cuts++x.Forms),¬ vR (bkR mx my r)∧¬ vR (shR (vG mx) (vG my) r):=by
          apply Classical.byContradiction
          intro hno
          refine hall fun r hr=>?_
          have hR:Zp r:=by
            rcases List.mem_append.1 hr with h | h
            · exact t1 r h
            · rcases List.mem_append.1 h with h | h
              · exact t2 r h
              · exact t3 r h
          rcases cmp r hR with h | h
          · exact h
          · exact absurd ⟨r,hr,h⟩ hno
        obtain ⟨r,hr,v1,v2⟩:=hex
        obtain ⟨a,ha,_⟩:=Name_same x.Name
        obtain ⟨b,hb,_⟩:=Name_same x.Material
        have p1:=TI (x:=⟨x.Name,x.Material,x.Gauge,x.Grain,x.Rects.map (bkR mx my),x.Cuts.map (bkR mx my),x.Forms.map (bkR mx my)⟩) ha hb ⟨bkR mx my r,by show _ ∈ x.Rects.map _++(x.Cuts.map _++x.Forms.map _);rw [← List.map_append,← List.map_append];exact List.mem_map_of_mem hr,v1⟩
        have p2:=TI (x:=⟨x.Name,x.Material,x.Gauge,x.Grain,x.Rects.map (shR (vG mx) (vG my)),x.Cuts.map (shR (vG mx) (vG my)),x.Forms.map (shR (vG mx) (vG my))⟩) ha hb ⟨shR (vG mx) (vG my) r,by show _ ∈ x.Rects.map _++(x.Cuts.map _++x.Forms.map _);rw [← List.map_append,← List.map_append];exact List.mem_map_of_mem hr,v2⟩
        simp only [List.length_map] at p1 p2
        obtain ⟨e,e1,e2⟩:=Td ⟨x.Name,x.Material,x.Gauge,x.Grain,x.Rects.map (shR (vG mx) (vG my)),x.Cuts.map (shR (vG mx) (vG my)),x.Forms.map (shR (vG mx) (vG my))⟩
        exact ⟨e,by rw [p1,← p2];exact e1,e2⟩
    obtain ⟨e,e1,e2⟩:=main
    refine ⟨e,by rw [e1];rfl,fun he=>?_,fun k=>?_⟩
    · subst he
      have:=G9 e1
      simpa using this
    · simp only [e2,Option.bind_some]
      by_cases he:e=0
      · simp [he]
      · simp [he]
theorem BO (r:Rect) {l:List Rect} (hl:l.length≤1000):Gg r l=some (l.any (uZ r)):=by
  have key:∃ z,aK (bB l r.X r.Y r.W r.H) 0=some z∧((∃ k:Nat,z=.inl (k:Int))∧l.any (uZ r)=true∨z=.inr ()∧l.any (uZ r)=false):=by
    have go : ∀ (m k:Nat),k+m=l.length→(∀ y ∈ l.take k,uZ r y=false)→∃ z,aK (bB l r.X r.Y r.W r.H) (k:Int)=some z∧((∃ k:Nat,z=.inl (k:Int))∧l.any (uZ r)=true∨z=.inr ()∧l.any (uZ r)=false):=by
      intro m
      induction m with
      | zero =>
        intro k h hb
        obtain rfl:k=l.length:=by omega
        rw [List.take_length] at hb
        exact ⟨.inr (),fF (by simp [bB]),.inr ⟨rfl,List.any_eq_false.2 fun y hy=>by simp [hb y hy]⟩⟩
      | succ m ih =>
        intro k h hb
        have hx:l[k]?=some (l[k]'(by omega)):=by simp [show k<l.length by omega]
        have hd:decide ((k:Int)<(l.length:Int))=true:=by simp;omega
        have hm:Jb (l[k]'(by omega)) r.X r.Y r.W r.H=some (uZ r (l[k]'(by omega))):=by
          unfold Jb
          rw [Zm];rfl
        by_cases ho:uZ r (l[k]'(by omega))=true
        · refine ⟨.inl (k:Int),fF ?_,.inl ⟨⟨k,rfl⟩,List.any_eq_true.2 ⟨_,List.mem_of_getElem? hx,ho⟩⟩⟩
          unfold bB
          simp only [hd,if_true,aP hx,Option.bind_some,hm,ho]
        · have ho':uZ r (l[k]'(by omega))=false:=by simpa using ho
          rw [lK (s':=((k+1:Nat):Int))]
          · refine ih (k+1) (by omega) fun y hy=>?_
            rw [List.take_add_one,hx] at hy
            rcases List.mem_append.1 hy with hy | hy
            · exact hb y hy
            · simp at hy;rw [hy];exact ho'
          · unfold bB
            simp only [hd,if_true,aP hx,Option.bind_some,hm,ho',Bool.false_eq_true,if_false]
            rw [aS (by omega) (by omega)];rfl
    exact go l.length 0 (by omega) (by simp)
  obtain ⟨z,hz,h⟩:=key
  unfold Gg dK eH
  rw [hz]
  rcases h with ⟨⟨k,rfl⟩,h⟩ | ⟨rfl,h⟩
  · rw [h]
    have:decide ((k:Int) ≥ 0)=true:=by simp
    simp only [Option.bind_some,this]
  · rw [h];rfl
def BS (s:Sheet) (y:Rect):Bool:=!(decide (wH y ⟨0,0,s.Width,s.Height⟩)) || (s.Clamps.any (uZ y) || s.Used.any (uZ y))
theorem O9 (l:LayoutT) (x:Piece) (hx:x.Rects.length≤12) (h1:l.Sheet.Clamps.length≤4) (h2:l.Sheet.Used.length≤48):aK (vQ l x) 0=some (if x.Rects.any (BS l.Sheet) then .inl () else .inr ()):=by
  refine gV x.Rects (vQ l x) (fun k=>(k:Int)) _ _ _ rfl (fun k y hy=>?_) ?_
  · have hk:=(List.getElem?_eq_some_iff.1 hy).1
    unfold vQ BS
    have hd:decide ((k:Int)<(x.Rects.length:Int))=true:=by simp;omega
    simp only [hd,if_true,aP hy,Option.bind_some,Wm,BO y (show l.Sheet.Clamps.length≤1000 by omega),BO y (show l.Sheet.Used.length≤1000 by omega)]
    rw [aS (a:=(k:Int)) (by omega) (by omega)]
    cases decide (wH y ⟨0,0,l.Sheet.Width,l.Sheet.Height⟩) <;> cases l.Sheet.Clamps.any (uZ y) <;> cases l.Sheet.Used.any (uZ y) <;> rfl
  · simp [vQ]
theorem M4 (l:LayoutT) (x:Piece) (hx:x.Rects.length≤12) (h1:l.Sheet.Clamps.length≤4) (h2:l.Sheet.Used.length≤48):aK (iE l x) 0=some (if x.Rects.any (BS l.Sheet) then .inl () else .inr ()):=by
  refine gV x.Rects (iE l x) (fun k=>(k:Int)) _ _ _ rfl (fun k y hy=>?_) ?_
  · have hk:=(List.getElem?_eq_some_iff.1 hy).1
    unfold iE BS
    have hd:decide ((k:Int)<(x.Rects.length:Int))=true:=by simp;omega
    simp only [hd,if_true,aP hy,Option.bind_some,Wn,Um y _ (show l.Sheet.Clamps.length≤1000 by omega),Um y _ (show l.Sheet.Used.length≤1000 by omega)]
    rw [aS (a:=(k:Int)) (by omega) (by omega)]
    cases decide (wH y ⟨0,0,l.Sheet.Width,l.Sheet.Height⟩) <;> cases l.Sheet.Clamps.any (uZ y) <;> cases l.Sheet.Used.any (uZ y) <;> rfl
  · simp [iE]
theorem E8 (l:LayoutT) (hp:l.Pieces.length≤8) (hx:∀ x ∈ l.Pieces,x.Rects.length≤12) (h1:l.Sheet.Clamps.length≤4) (h2:l.Sheet.Used.length≤48):aK (vT l) 0=some (if l.Pieces.any (fun x=>x.Rects.any (BS l.Sheet)) then .inl () else .inr ()):=by
  refine gV l.Pieces (vT l) (fun k=>(k:Int)) _ _ _ rfl (fun k y hy=>?_) ?_
  · have hk:=(List.getElem?_eq_some_iff.1 hy).1
    unfold vT
    have hd:decide ((k:Int)<(l.Pieces.length:Int))=true:=by simp;omega
    simp only [hd,if_true,aP hy,Option.bind_some,O9 l y (hx y (List.mem_of_getElem? hy)) h1 h2]
    rw [aS (a:=(k:Int)) (by omega) (by omega)]
    cases y.Rects.any (BS l.Sheet) <;> rfl
  · simp [vT]
theorem M5 (l:LayoutT) (hp:l.Pieces.length≤8) (hx:∀ x ∈ l.Pieces,x.Rects.length≤12) (h1:l.Sheet.Clamps.length≤4) (h2:l.Sheet.Used.length≤48):aK (iF l) 0=some (if l.Pieces.any (fun x=>x.Rects.any (BS l.Sheet)) then .inl () else .inr ()):=by
  refine gV l.Pieces (iF l) (fun k=>(k:Int)) _ _ _ rfl (fun k y hy=>?_) ?_
  · have hk:=(List.getElem?_eq_some_iff.1 hy).1
    unfold iF
    have hd:decide ((k:Int)<(l.Pieces.length:Int))=true:=by simp;omega
    simp only [hd,if_true,aP hy,Option.bind_some,M4 l y (hx y (List.mem_of_getElem? hy)) h1 h2]
    rw [aS (a:=(k:Int)) (by omega) (by omega)]
    cases y.Rects.any (BS l.Sheet) <;> rfl
  · simp [iF]
def GA (x y:Piece):Bool:=x.Rects.any fun r=>y.Rects.any (uZ r)
def MI (l:List Piece) (k:Nat):Bool:=match l[k]? with
  | some x=>(l.take k).any (GA x)
  | none=>false
theorem P5 (x y:Piece) (hx:x.Rects.length≤12) (hy:y.Rects.length≤12):aK (vV x y) 0=some (if GA x y then .inl () else .inr ()):=by
  refine gV x.Rects (vV x y) (fun k=>(k:Int)) _ _ _ rfl (fun k r hr=>?_) ?_
  · have hk:=(List.getElem?_eq_some_iff.1 hr).1
    unfold vV
    have hd:decide ((k:Int)<(x.Rects.length:Int))=true:=by simp;omega
    simp only [hd,if_true,aP hr,Option.bind_some,BO r (show y.Rects.length≤1000 by omega)]
    rw [aS (a:=(k:Int)) (by omega) (by omega)]
    rfl
  · simp [vV]
theorem E9 (l:LayoutT) (hp:l.Pieces.length≤8) (hx:∀ x ∈ l.Pieces,x.Rects.length≤12):aK (vX l) 0=some (if (List.range l.Pieces.length).any (MI l.Pieces) then .inl () else .inr ()):=by
  refine kL l.Pieces.length (vX l) (fun k=>(k:Int)) _ _ _ rfl (fun k hk=>?_) ?_
  · have he:l.Pieces[k]?=some l.Pieces[k]:=by simp
    have hin:aK (vW l.Pieces[k] (l.Pieces.take k)) 0=some (if (l.Pieces.take k).any (GA l.Pieces[k]) then .inl () else .inr ()):=by
      refine gV (l.Pieces.take k) (vW l.Pieces[k] (l.Pieces.take k)) (fun k=>(k:Int)) _ _ _ rfl (fun j y hy=>?_) ?_
      · have hj:=(List.getElem?_eq_some_iff.1 hy).1
        have hjl:(l.Pieces.take k).length≤8:=by rw [List.length_take];omega
        unfold vW
        have hd:decide ((j:Int)<((l.Pieces.take k).length:Int))=true:=by rw [decide_eq_true_eq];omega
        simp only [hd,if_true,aP hy,Option.bind_some,P5 _ y (hx _ (List.getElem_mem hk)) (hx y (List.mem_of_mem_take (List.mem_of_getElem? hy)))]
        rw [aS (a:=(j:Int)) (by omega) (by omega)]
        cases GA l.Pieces[k] y <;> rfl
      · simp [vW]
    unfold vX MI
    have hd:decide ((k:Int)<(l.Pieces.length:Int))=true:=by simp;omega
    simp only [hd,if_true,aP he,he,Option.bind_some,SV (Nat.le_of_lt hk),hin]
    rw [aS (a:=(k:Int)) (by omega) (by omega)]
    cases (l.Pieces.take k).any (GA l.Pieces[k]) <;> rfl
  · simp [vX]
theorem M6 (l:LayoutT) (hp:l.Pieces.length≤8) (hx:∀ x ∈ l.Pieces,x.Rects.length≤12):aK (iI l) 0=some (if (List.range l.Pieces.length).any (MI l.Pieces) then .inl () else .inr ()):=by
  refine kL l.Pieces.length (iI l) (fun k=>(k:Int)) _ _ _ rfl (fun k hk=>?_) ?_
  · have he : l.Pieces[k]?=some l.Pieces[k]:=by simp
    have hlt:(l.Pieces.take k).length=k:=by rw [List.length_take];omega
    have hin:aK (iH l (k:Int)) 0=some (if (l.Pieces.take k).any (GA l.Pieces[k]) then .inl () else .inr ()):=by
      refine gV (l.Pieces.take k) (iH l (k:Int)) (fun k=>(k:Int)) _ _ _ rfl (fun j y hy=>?_) ?_
      · have hj:=(List.getElem?_eq_some_iff.1 hy).1
        rw [hlt] at hj
        have hy':l.Pieces[j]?=some y:=by rw [List.getElem?_take] at hy;simpa [hj] using hy
        have h4:aK (iG l (k:Int) (j:Int)) 0=some (if GA l.Pieces[k] y then .inl () else .inr ()):=by
          refine gV l.Pieces[k].Rects (iG l (k:Int) (j:Int)) (fun k=>(k:Int)) _ _ _ rfl (fun i r hr=>?_) ?_
          · have hi:=(List.getElem?_eq_some_iff.1 hr).1
            have hkl:=hx _ (List.getElem_mem hk)
            have hyl:=hx y (List.mem_of_getElem? hy')
            unfold iG
            have hd:decide ((i:Int)<(l.Pieces[k].Rects.length:Int))=true:=by rw [decide_eq_true_eq];omega
            simp only [hd,if_true,aP he,aP hy',aP hr,Option.bind_some,Um r _ (show y.Rects.length≤1000 by omega)]
            rw [aS (a:=(i:Int)) (by omega) (by omega)]
            rfl
          · simp [iG,aP he]
        unfold iH
        have hd:decide ((j:Int)<(k:Int))=true:=by simp;omega
        simp only [hd,if_true,h4,Option.bind_some]
        rw [aS (a:=(j:Int)) (by omega) (by omega)]
        cases GA l.Pieces[k] y <;> rfl
      · rw [hlt];simp [iH]
    unfold iI MI
    have hd:decide ((k:Int)<(l.Pieces.length:Int))=true:=by simp;omega
    simp only [hd,if_true,he,Option.bind_some,hin]
    rw [aS (a:=(k:Int)) (by omega) (by omega)]
    cases (l.Pieces.take k).any (GA l.Pieces[k]) <;> rfl
  · simp [iI]
theorem OP (l:LayoutT) (hp:l.Pieces.length≤8) (hs:∀ x ∈ l.Pieces,Sm x):(∃ c,aK (bW l) 0=some (.inl c)∧aK (bS l) 0=some (.inl c))∨(aK (bW l) 0=some (.inr ())∧aK (bS l) 0=some (.inr ())∧∀ x ∈ l.Pieces,x.Rects.length≤12):=by
  have key:∀ (m k:Nat),k+m=l.Pieces.length→(∀ x ∈ l.Pieces.take k,x.Rects.length≤12)→(∃ c,aK (bW l) (k:Int)=some (.inl c)∧aK (bS l) (k:Int)=some (.inl c))∨(aK (bW l) (k:Int)=some (.inr ())∧aK (bS l) (k:Int)=some (.inr ())∧∀ x ∈ l.Pieces,x.Rects.length≤12):=by
    intro m
    induction m with
    | zero =>
      intro k h hb;obtain rfl:k=l.Pieces.length:=by omega
      rw [List.take_length] at hb
      exact .inr ⟨fF (by simp [bW]),fF (by simp [bS]),hb⟩
    | succ m ih =>
      intro k h hb
      have hx:l.Pieces[k]?=some (l.Pieces[k]'(by omega)):=by simp [show k<l.Pieces.length by omega]
      have hd:decide ((k:Int)<(l.Pieces.length:Int))=true:=by simp;omega
      obtain ⟨e,e1,e2,e3⟩:=Ud (hs _ (List.getElem_mem (show k<l.Pieces.length by omega)))
      have i1:aM (k:Int) 1=((k+1:Nat):Int):=by rw [aS (by omega) (by omega)];rfl
      have b2:bS l (k:Int)=if e=0 then some (.inl ((k+1:Nat):Int)) else some (.inr (.inl e)):=by
        unfold bS
        simp only [hd,if_true,aP hx,Option.bind_some,i1]
        exact e3 _
      by_cases he:e=0
      · subst he
        rw [if_pos rfl] at b2
        rw [lK (s':=((k+1:Nat):Int)),lK b2]
        · refine ih (k+1) (by omega) fun x hxm=>?_
          rw [List.take_add_one,hx] at hxm
          rcases List.mem_append.1 hxm with h | h
          · exact hb x h
          · simp at h;rw [h];exact e2 rfl
        · unfold bW
          simp only [hd,if_true,aP hx,Option.bind_some,e1,bne_self_eq_false,Bool.false_eq_true,if_false,i1]
      · rw [if_neg he] at b2
        refine .inl ⟨e,fF ?_,fF b2⟩
        have he':(e != 0)=true:=by rw [bne_iff_ne];exact he
        unfold bW
        simp only [hd,if_true,aP hx,Option.bind_some,e1,he']
  exact key l.Pieces.length 0 (by omega) (by simp)
theorem IJ (l:LayoutT) (hs:∀ x ∈ l.Pieces,Sm x):∃ b,vE l=some b∧dH l=some b:=by
  obtain ⟨b,b1,b2⟩:=Zq l.Sheet
  unfold vE dH
  rw [b1,b2]
  simp only [Option.bind_some]
  by_cases hb:b=0
  · subst hb
    have sl:=Tf b1
    simp only [bne_self_eq_false,Bool.false_eq_true,if_false]
    by_cases h8:(l.Pieces.length:Int)>8
    · exact ⟨4,by simp [h8],by simp [h8]⟩
    have hp:l.Pieces.length≤8:=by omega
    simp only [h8,decide_false,Bool.false_eq_true,if_false]
    rcases OP l hp hs with ⟨c,c1,c2⟩ | ⟨c1,c2,c3⟩
    · exact ⟨c,by rw [c1];rfl,by rw [c2];rfl⟩
    · simp only [c1,c2,Option.bind_some,E8 l hp c3 sl.1 sl.2,M5 l hp c3 sl.1 sl.2,E9 l hp c3,M6 l hp c3]
      cases l.Pieces.any (fun x=>x.Rects.any (BS l.Sheet)) with
      | true=>exact ⟨13,rfl,rfl⟩
      | false =>
      cases (List.range l.Pieces.length).any (MI l.Pieces) with
      | true=>exact ⟨7,rfl,rfl⟩
      | false=>exact ⟨0,rfl,rfl⟩
  · have hb':(b != 0)=true:=by rw [bne_iff_ne];exact hb
    exact ⟨b,by simp [hb'],by simp [hb']⟩
end Go.SM
namespace Go.SM
open Go Go.VI
structure LV (l:LayoutT):Prop where
  n:l.Pieces.length≤8
  sh:kI l.Sheet=some 0
  r12:∀ x ∈ l.Pieces,x.Rects.length≤12
  pe:∀ x ∈ l.Pieces,qD x=some 0
  off:∀ x ∈ l.Pieces,∀ r ∈ x.Rects,wH r ⟨0,0,l.Sheet.Width,l.Sheet.Height⟩∧l.Sheet.Clamps.any (uZ r)=false∧l.Sheet.Used.any (uZ r)=false
  hit:∀ k,k<l.Pieces.length→MI l.Pieces k=false
theorem J4 (l:LayoutT) (hp:l.Pieces.length≤8) (hs:∀ x ∈ l.Pieces,Sm x) (h:aK (bW l) 0=some (.inr ())):∀ x ∈ l.Pieces,qD x=some 0:=by
  have key:∀ (m k:Nat),k+m=l.Pieces.length→aK (bW l) (k:Int)=some (.inr ())→∀ x ∈ l.Pieces.drop k,qD x=some 0:=by
    intro m
    induction m with
    | zero =>
      intro k h hb;obtain rfl:k=l.Pieces.length:=by omega
      intro x hx;simp at hx
    | succ m ih =>
      intro k h hb
      have hx:l.Pieces[k]?=some (l.Pieces[k]'(by omega)):=by simp [show k<l.Pieces.length by omega]
      have hd:decide ((k:Int)<(l.Pieces.length:Int))=true:=by simp;omega
      obtain ⟨e,e1,_⟩:=Ud (hs _ (List.getElem_mem (show k<l.Pieces.length by omega)))
      have i1:aM (k:Int) 1=((k+1:Nat):Int):=by rw [aS (by omega) (by omega)];rfl
      by_cases he:e=0
      · subst he
        rw [lK (s':=((k+1:Nat):Int))] at hb
        · intro x hxm
          rw [List.drop_eq_getElem_cons (show k<l.Pieces.length by omega)] at hxm
          rcases List.mem_cons.1 hxm with rfl | hxm
          · exact e1
          · exact ih (k+1) (by omega) hb x hxm
        · unfold bW
          simp only [hd,if_true,aP hx,Option.bind_some,e1,bne_self_eq_false,Bool.false_eq_true,if_false,i1]
      · have he':(e != 0)=true:=by rw [bne_iff_ne];exact he
        rw [fF (r:=.inl e)] at hb
        · cases hb
        · unfold bW
          simp only [hd,if_true,aP hx,Option.bind_some,e1,he']
  exact key l.Pieces.length 0 (by omega) h
theorem FJ (l:LayoutT) (hs:∀ x ∈ l.Pieces,Sm x):∃ b,vE l=some b∧dH l=some b∧(b=0→LV l):=by
  obtain ⟨b,b1,b2⟩:=IJ l hs
  refine ⟨b,b1,b2,fun hb0=>?_⟩
  subst hb0
  obtain ⟨c,c1,_⟩:=Zq l.Sheet
  unfold vE at b1
  rw [c1] at b1
  simp only [Option.bind_some] at b1
  by_cases hc:c=0
  · subst hc
    have sl:=Tf c1
    simp only [bne_self_eq_false,Bool.false_eq_true,if_false] at b1
    by_cases h8:(l.Pieces.length:Int)>8
    · simp [h8] at b1
    have hp:l.Pieces.length≤8:=by omega
    simp only [h8,decide_false,Bool.false_eq_true,if_false] at b1
    rcases OP l hp hs with ⟨d,d1,_⟩ | ⟨d1,_,d3⟩
    · exfalso
      rw [d1] at b1
      simp only [Option.bind_some] at b1
      -- the error of a piece is not 0
      have hne:∀ (m k:Nat),k+m=l.Pieces.length→aK (bW l) (k:Int)=some (.inl d)→d≠0:=by
        intro m
        induction m with
        | zero =>
          intro k h hb;obtain rfl:k=l.Pieces.length:=by omega
          rw [fF (r:=.inr ()) (by simp [bW])] at hb
          cases hb
        | succ m ih =>
          intro k h hb
          have hx:l.Pieces[k]?=some (l.Pieces[k]'(by omega)):=by simp [show k<l.Pieces.length by omega]
          have hd:decide ((k:Int)<(l.Pieces.length:Int))=true:=by simp;omega
          obtain ⟨e,e1,_⟩:=Ud (hs _ (List.getElem_mem (show k<l.Pieces.length by omega)))
          have i1:aM (k:Int) 1=((k+1:Nat):Int):=by rw [aS (by omega) (by omega)];rfl
          by_cases he:e=0
          · subst he
            rw [lK (s':=((k+1:Nat):Int))] at hb
            · exact ih (k+1) (by omega) hb
            · unfold bW
              simp only [hd,if_true,aP hx,Option.bind_some,e1,bne_self_eq_false,Bool.false_eq_true,if_false,i1]
          · have he':(e != 0)=true:=by rw [bne_iff_ne];exact he
            rw [fF (r:=.inl e)] at hb
            · injection hb with hb;injection hb with hb;rw [← hb];exact he
            · unfold bW
              simp only [hd,if_true,aP hx,Option.bind_some,e1,he']
      exact hne l.Pieces.length 0 (by omega) d1 (Option.some.inj b1)
    · simp only [d1,Option.bind_some,E8 l hp d3 sl.1 sl.2,E9 l hp d3] at b1
      cases h3:l.Pieces.any (fun x=>x.Rects.any (BS l.Sheet)) with
      | true=>rw [h3] at b1;exact absurd (Option.some.inj b1) (by decide)
      | false =>
      cases h6:(List.range l.Pieces.length).any (MI l.Pieces) with
      | true=>rw [h3,h6] at b1;exact absurd (Option.some.inj b1) (by decide)
      | false =>
        refine ⟨hp,c1,d3,J4 l hp hs d1,fun x hx r hr=>?_,fun k hk=>?_⟩
        · have q1:=List.any_eq_false.1 h3 x hx
          rw [Bool.not_eq_true,List.any_eq_false] at q1
          have q2:=q1 r hr
          unfold BS at q2
          simp only [Bool.or_eq_true,not_or,Bool.not_eq_true',Bool.not_eq_false,Bool.not_eq_true,decide_eq_true_eq] at q2
          exact q2
        · have:=List.any_eq_false.1 h6 k (List.mem_range.2 hk)
          simpa using this
  · have hb':(c != 0)=true:=by rw [bne_iff_ne];exact hc
    simp only [hb',if_true] at b1
    exact absurd (Option.some.inj b1) hc
end Go.SM
namespace Go.SM
open Go Go.VI Go.Cells
def regs (l:LayoutT):List (List Rect):=l.Pieces.map fun x=>x.Rects
noncomputable def FY (R:List (List Rect)) (xs ys:List Int):List EdgeT:=
  ys.flatMap (fun y=>(sU (hS R y)).map fun p=>mkE ⟨p.1,y,p.2,y⟩ (lY R p.1 y) (lY R p.1 (y-1)))++xs.flatMap fun x=>(sU (vS R x)).map fun p=>mkE ⟨x,p.1,x,p.2⟩ (lY R x p.1) (lY R (x-1) p.1)
section
variable {l:LayoutT} (n8:l.Pieces.length≤8) (r12:∀ x ∈ l.Pieces,x.Rects.length≤12) (hv:∀ x ∈ l.Pieces,CX x.Rects)
include n8 r12 hv
theorem I9:CX (regs l).flatten:=fun r hr=>by
  obtain ⟨t,ht,hr⟩:=List.mem_flatten.1 hr
  obtain ⟨x,hx,rfl⟩:=List.mem_map.1 ht
  exact hv x hx r hr
omit hv in
theorem MG:(regs l).flatten.length≤96:=by
  have:∀ p:List Piece,(∀ x ∈ p,x.Rects.length≤12)→(p.map fun x=>x.Rects).flatten.length≤12*p.length:=by
    intro p
    induction p with
    | nil=>intro _;simp
    | cons x p ih =>
      intro h
      have h1:=ih fun y hy=>h y (List.mem_cons_of_mem _ hy)
      have h2:=h x List.mem_cons_self
      simp only [List.map_cons,List.flatten_cons,List.length_append,List.length_cons]
      omega
  have:=this l.Pieces r12
  unfold regs;omega
omit r12 hv in
theorem L9:(regs l).length≤900:=by unfold regs;rw [List.length_map];omega
omit n8 hv in
theorem L8:∀ t ∈ regs l,t.length≤1000:=fun t ht=>by
  obtain ⟨x,hx,rfl⟩:=List.mem_map.1 ht
  have:=r12 x hx;omega
theorem J7 {xs ys:List Int} (gx:Ec xs (xsL (regs l).flatten)) (gy:Ec ys (ysL (regs l).flatten)):Lay (regs l) xs ys:=
  ⟨gx,gy,I9 n8 r12 hv,by have:=MG n8 r12;omega,L9 n8⟩
theorem at_eq (x y:Int):Gs l x y=some (lY (regs l) x y):=by
  unfold Gs
  have h2:=Xc l.Pieces (Qt l x y) (fun p=>cov p.Rects x y) (fun k=>.inl (some (k:Int))) (.inr ()) (fun k p hp=>?s) ?f
  · rw [h2]
    unfold lY Us Ar regs
    rw [List.findIdx?_map]
    show _=some ((l.Pieces.findIdx? fun p=>cov p.Rects x y).map fun i=>(i:Int))
    cases l.Pieces.findIdx? (fun p=>cov p.Rects x y) <;> rfl
  case s =>
    have h1:=bA hp
    have hpm:=List.mem_of_getElem? hp
    have hl:=r12 p hpm
    have h3:aK (La x y p) 0=some (if p.Rects.any (fun r=>inC r x y) then .inl () else .inr ()):=by
      refine BM p.Rects (La x y p) (fun r=>inC r x y) (.inr ()) (.inl ()) (fun k r hr=>?_) ?_
      · have h1:=bA hr
        obtain ⟨e1,e2⟩:=IC (hv p hpm r (List.mem_of_getElem? hr))
        unfold La
        simp only [h1,Int.ofNat_lt,decide_true,if_true,aP hr,Option.bind_some,e1,e2]
        have hb':(if decide (r.X≤x) then (if decide (x<r.X+r.W) then (if decide (r.Y≤y) then some (decide (y<r.Y+r.H)) else some false) else some false) else some false)=some (inC r x y):=by
          unfold inC
          cases decide (r.X≤x) <;> cases decide (x<r.X+r.W) <;> cases decide (r.Y≤y) <;> simp
        rw [hb',Option.bind_some,aZ k (by omega)]
      · simp [La]
    unfold Qt
    simp only [h1,Int.ofNat_lt,decide_true,if_true,aP hp,Option.bind_some,h3,aZ k (by omega)]
    show _=if (p.Rects.any fun r=>inC r x y)=true then _ else _
    cases p.Rects.any (fun r=>inC r x y) <;> rfl
  case f=>simp [Qt]
theorem JD:aK (Af l) (0,[],[])=some (xsL (regs l).flatten,ysL (regs l).flatten):=by
  have hfl:∀ k,k≤l.Pieces.length→(xsL ((l.Pieces.take k).map fun x=>x.Rects).flatten).length≤200∧(ysL ((l.Pieces.take k).map fun x=>x.Rects).flatten).length≤200:=fun k hk=>by
    have:=MG (l:=⟨l.Sheet,l.Pieces.take k⟩) (by simp only [List.length_take];omega) (fun x hx=>r12 x (List.mem_of_mem_take hx))
    unfold regs at this
    simp only at this
    rw [Wj,Wl];omega
  obtain ⟨r,q1,q2⟩:=vZ l.Pieces (fun k (s:List Int×List Int)=>((k:Int),s.1,s.2)) (Af l) (fun s=>(s.1,s.2)) (fun k s=>s=(xsL ((l.Pieces.take k).map fun x=>x.Rects).flatten,ysL ((l.Pieces.take k).map fun x=>x.Rects).flatten)) ([],[]) (by simp [xsL,ysL])
    (fun k p s hp hI=>by
      have h1:=bA hp
      have hd:decide ((k:Int)<(l.Pieces.length:Int))=true:=by simp [h1]
      have hpm:=List.mem_of_getElem? hp
      have hl:=r12 p hpm
      have hf:=hfl k (by omega)
      subst hI
      obtain ⟨r,t1,t2⟩:=vZ p.Rects (fun k (s:List Int×List Int)=>((k:Int),s.1,s.2)) (Em p) (fun s=>(s.1,s.2)) (fun j s=>s=(xsL ((l.Pieces.take k).map fun x=>x.Rects).flatten++xsL (p.Rects.take j),ysL ((l.Pieces.take k).map fun x=>x.Rects).flatten++ysL (p.Rects.take j))) (xsL ((l.Pieces.take k).map fun x=>x.Rects).flatten,ysL ((l.Pieces.take k).map fun x=>x.Rects).flatten) (by simp [xsL,ysL])
        (fun j r s hr hI=>by
          have h2:=bA hr
          have hd:decide ((j:Int)<(p.Rects.length:Int))=true:=by simp [h2]
          obtain ⟨e1,e2⟩:=IC (hv p hpm r (List.mem_of_getElem? hr))
          subst hI
          unfold Em
          simp only [hd,if_true,aP hr,Option.bind_some,e1,e2]
          have l1:(xsL (p.Rects.take j)).length≤200:=by rw [Wj,List.length_take];omega
          have l2:(ysL (p.Rects.take j)).length≤200:=by rw [Wl,List.length_take];omega
          rw [pY (by simp only [List.length_append,List.length_cons,List.length_nil,LIM];omega),pY (by simp only [List.length_append,List.length_cons,List.length_nil,LIM];omega)]
          simp only [Option.bind_some,aZ j (by omega)]
          refine ⟨(xsL ((l.Pieces.take k).map fun x=>x.Rects).flatten++xsL (p.Rects.take (j+1)),ysL ((l.Pieces.take k).map fun x=>x.Rects).flatten++ysL (p.Rects.take (j+1))), ?_,rfl⟩
          rw [oJ hr,Uj,Uk]
          simp [xsL,ysL]) (fun s _=>by simp [Em])
      rw [List.take_length] at t2
      unfold Af
      simp only [hd,if_true,aP hp,Option.bind_some,aZ k (by omega)]
      rw [show ((0:Int),xsL ((l.Pieces.take k).map fun x=>x.Rects).flatten,ysL ((l.Pieces.take k).map fun x=>x.Rects).flatten)=(((0:Nat):Int),xsL ((l.Pieces.take k).map fun x=>x.Rects).flatten,ysL ((l.Pieces.take k).map fun x=>x.Rects).flatten) from rfl,t1,t2]
      refine ⟨(xsL ((l.Pieces.take (k+1)).map fun x=>x.Rects).flatten,ysL ((l.Pieces.take (k+1)).map fun x=>x.Rects).flatten), ?_,rfl⟩
      rw [oJ hp,List.map_append,List.flatten_append,Uj,Uk]
      simp) (fun s _=>by simp [Af])
  rw [List.take_length] at q2
  rw [show ((0:Int),([]:List Int),([]:List Int))=(((0:Nat):Int),(([],[]):List Int×List Int).1,(([],[]):List Int×List Int).2) from rfl,q1,q2]
  rfl
theorem UM:∃ xs ys,Lay (regs l) xs ys∧Gf l=some (FY (regs l) xs ys)∧(FY (regs l) xs ys).length≤200000:=by
  have hn:=MG n8 r12
  obtain ⟨xs,x1,x2,x3⟩:=XI (l:=xsL (regs l).flatten) (by rw [Wj];omega)
  obtain ⟨ys,y1,y2,y3⟩:=XI (l:=ysL (regs l).flatten) (by rw [Wl];omega)
  have hL:=J7 n8 r12 hv ⟨x2,x3⟩ ⟨y2,y3⟩
  have lx:xs.length≤200:=by have:=yU x2 fun x m=>(x3 x).1 m;rw [Wj] at this;omega
  have ly:ys.length≤200:=by have:=yU y2 fun x m=>(y3 x).1 m;rw [Wl] at this;omega
  have rowH:∀ y,(-1048576≤y∧y≤1048576)→∃ L,fQ xs l.Sheet.Name l.Sheet.Material l.Sheet.Gauge l.Sheet.Grain l.Sheet.Width l.Sheet.Height l.Sheet.Clamps l.Sheet.Used l.Pieces y y=some ((sU (hS (regs l) y)).map fun p=>mkE ⟨p.1,y,p.2,y⟩ (lY (regs l) p.1 y) (lY (regs l) p.1 (y-1)))∧L=sU (hS (regs l) y)∧L.length≤xs.length:=fun y hy=>by
    have hA:=O3 hL y
    obtain ⟨L,g1,g2,g3⟩:=C9 hA (side:=fun i=>Iw i l.Sheet.Name l.Sheet.Material l.Sheet.Gauge l.Sheet.Grain l.Sheet.Width l.Sheet.Height l.Sheet.Clamps l.Sheet.Used l.Pieces y) (fun i x hx _=>by
      show (Gs l x y).bind (fun r5=>(Gs l x (aJ y 1)).bind fun r6=>some (r5,r6))=_
      rw [aY (by omega) (by omega),at_eq n8 r12 hv,at_eq n8 r12 hv];rfl) (line:=fun a b=>Iy a b y) (ln:=fun a b=>⟨a,y,b,y⟩) (fun a b=>rfl)
    have e:sU (hS (regs l) y)=L:=Vz g2
    exact ⟨L,by rw [PZ,g1,e],e.symm,g3⟩
  have rowV:∀ x,(-1048576≤x∧x≤1048576)→∃ L,fT ys l.Sheet.Name l.Sheet.Material l.Sheet.Gauge l.Sheet.Grain l.Sheet.Width l.Sheet.Height l.Sheet.Clamps l.Sheet.Used l.Pieces x x=some ((sU (vS (regs l) x)).map fun p=>mkE ⟨x,p.1,x,p.2⟩ (lY (regs l) x p.1) (lY (regs l) (x-1) p.1))∧L=sU (vS (regs l) x)∧L.length≤ys.length:=fun x hx=>by
    have hA:=O4 hL x
    obtain ⟨L,g1,g2,g3⟩:=C9 hA (side:=fun i=>Iz i l.Sheet.Name l.Sheet.Material l.Sheet.Gauge l.Sheet.Grain l.Sheet.Width l.Sheet.Height l.Sheet.Clamps l.Sheet.Used l.Pieces x) (fun i y hy _=>by
      show (Gs l x y).bind (fun r5=>(Gs l (aJ x 1) y).bind fun r6=>some (r5,r6))=_
      rw [aY (by omega) (by omega),at_eq n8 r12 hv,at_eq n8 r12 hv];rfl) (line:=fun a b=>Ja a b x) (ln:=fun a b=>⟨x,a,x,b⟩) (fun a b=>rfl)
    have e:sU (vS (regs l) x)=L:=Vz g2
    exact ⟨L,by rw [QA,g1,e],e.symm,g3⟩
  obtain ⟨r,q1,q2,q3⟩:=vZ ys (fun k (s:List EdgeT)=>((k:Int),s)) (En l xs ys) (fun s=>s) (fun k s=>s=(ys.take k).flatMap (fun y=>(sU (hS (regs l) y)).map fun p=>mkE ⟨p.1,y,p.2,y⟩ (lY (regs l) p.1 y) (lY (regs l) p.1 (y-1)))∧s.length≤200*k) [] ⟨rfl,by simp⟩
    (fun k y s hy hI=>by
      have hk:=bA hy
      have hd:decide ((k:Int)<(ys.length:Int))=true:=by simp [hk]
      obtain ⟨L,g1,g2,g3⟩:=rowH y (hL.Y.within y (List.mem_of_getElem? hy))
      have hrl:((sU (hS (regs l) y)).map fun p=>mkE ⟨p.1,y,p.2,y⟩ (lY (regs l) p.1 y) (lY (regs l) p.1 (y-1))).length≤200:=by rw [List.length_map,← g2];omega
      have hsl:=hI.2
      unfold En
      simp only [hd,if_true,aP hy,Option.bind_some,g1,aZ k (by omega)]
      rw [pY (by unfold LIM;omega)]
      refine ⟨_,rfl, ?_,by rw [List.length_append];omega⟩
      rw [oJ hy,List.flatMap_append,hI.1]
      simp) (fun s _=>by simp [En])
  rw [List.take_length] at q2
  obtain ⟨r',t1,t2,t3⟩:=vZ xs (fun k (s:List EdgeT)=>((k:Int),s)) (Eo l xs ys) (fun s=>s) (fun k s=>s=r++(xs.take k).flatMap (fun x=>(sU (vS (regs l) x)).map fun p=>mkE ⟨x,p.1,x,p.2⟩ (lY (regs l) x p.1) (lY (regs l) (x-1) p.1))∧s.length≤40000+200*k) r ⟨by simp,by omega⟩
    (fun k x s hx hI=>by
      have hk:=bA hx
      have hd:decide ((k:Int)<(xs.length:Int))=true:=by simp [hk]
      obtain ⟨L,g1,g2,g3⟩:=rowV x (hL.X.within x (List.mem_of_getElem? hx))
      have hrl:((sU (vS (regs l) x)).map fun p=>mkE ⟨x,p.1,x,p.2⟩ (lY (regs l) x p.1) (lY (regs l) (x-1) p.1)).length≤200:=by rw [List.length_map,← g2];omega
      have hsl:=hI.2
      unfold Eo
      simp only [hd,if_true,aP hx,Option.bind_some,g1,aZ k (by omega)]
      rw [pY (by unfold LIM;omega)]
      refine ⟨_,rfl, ?_,by rw [List.length_append];omega⟩
      rw [oJ hx,List.flatMap_append,hI.1]
      simp) (fun s _=>by simp [Eo])
  rw [List.take_length] at t2
  have e:r'=FY (regs l) xs ys:=by rw [t2,q2];rfl
  refine ⟨xs,ys,hL, ?_,by rw [← e];omega⟩
  unfold Gf
  rw [JD n8 r12 hv]
  simp only [Option.bind_some,x1,y1]
  rw [show ((0:Int),([]:List EdgeT))=(((0:Nat):Int),[]) from rfl,q1]
  simp only [Option.bind_some]
  rw [show ((0:Int),r)=(((0:Nat):Int),r) from rfl,t1,e]
  rfl
end
end Go.SM
namespace Go.SM
open Go Go.VI
end Go.SM
namespace Go.SM
open Go Go.VI Go.Cells
noncomputable def Lu (R:List (List Rect)) (xs ys:List Int):List Ln:=
  ys.flatMap (fun y=>(sU (hS R y)).map fun p=>⟨⟨p.1,y,p.2,y⟩,nm (lY R p.1 (y-1)),nm (lY R p.1 y)⟩)++xs.flatMap fun x=>(sU (vS R x)).map fun p=>⟨⟨x,p.1,x,p.2⟩,nm (lY R (x-1) p.1),nm (lY R x p.1)⟩
section
variable {R:List (List Rect)} {xs ys:List Int} (h:Lay R xs ys) (hk:∀ t ∈ R,t.length≤1000) (lx:xs.length≤1000) (ly:ys.length≤1000)
include h
theorem UF {i j:Nat} {x y:Int} (hx:xs[i]?=some x) (hi:i+1<xs.length) (hy:ys[j]?=some y):cellV R xs ys (i+1) (j+1)=nm (lY R x y)∧cellV R xs ys (i+1) j=nm (lY R x (y-1)):=by
  obtain ⟨_,_,_,o1,o2,_⟩:=Zd h
  have hjl:=bA hy
  have neg:∀ {x y:Int},Ar R x y=none→nm (lY R x y)=-1:=fun {x y} e=>by rw [wM e];rfl
  constructor
  · unfold cellV
    by_cases hj:j+1<ys.length
    · rw [if_pos ⟨by omega,by omega,hi,hj⟩]
      simp only [Nat.add_sub_cancel,Dn hx,Dn hy,GN]
    · rw [if_neg (by omega),neg (o2 y (by rw [show ys.length-1=j by omega];exact hy) x y (Int.le_refl y))]
  · unfold cellV
    by_cases hj:0<j
    · rw [if_pos ⟨by omega,hj,hi,hjl⟩]
      obtain ⟨y0,hy0⟩:∃ y0,ys[j-1]?=some y0:=⟨_,List.getElem?_eq_getElem (by omega)⟩
      obtain ⟨h1,h2⟩:=Cc (OT h) hy0 (by rw [show j-1+1=j by omega];exact hy)
      simp only [Nat.add_sub_cancel,Dn hx,Dn hy0]
      rw [← GN]
      have:=congrFun (h2 (y-1) (by omega) (by omega)) x
      unfold lY
      rw [this]
    · obtain rfl:j=0:=by omega
      rw [if_neg (by omega),neg (o1 y hy x (y-1) (by omega))]
theorem QJ {i j:Nat} {x y:Int} (hx:xs[i]?=some x) (hy:ys[j]?=some y) (hj:j+1<ys.length):cellV R xs ys (i+1) (j+1)=nm (lY R x y)∧cellV R xs ys i (j+1)=nm (lY R (x-1) y):=by
  obtain ⟨o1,o2,_⟩:=Zd h
  have hil:=bA hx
  have neg:∀ {x y:Int},Ar R x y=none→nm (lY R x y)=-1:=fun {x y} e=>by rw [wM e];rfl
  constructor
  · unfold cellV
    by_cases hi:i+1<xs.length
    · rw [if_pos ⟨by omega,by omega,hi,hj⟩]
      simp only [Nat.add_sub_cancel,Dn hx,Dn hy,GN]
    · rw [if_neg (by omega),neg (o2 x (by rw [show xs.length-1=i by omega];exact hx) x y (Int.le_refl x))]
  · unfold cellV
    by_cases hi:0<i
    · rw [if_pos ⟨hi,by omega,hil,hj⟩]
      obtain ⟨x0,hx0⟩:∃ x0,xs[i-1]?=some x0:=⟨_,List.getElem?_eq_getElem (by omega)⟩
      obtain ⟨h1,h2⟩:=Cc (OQ h) hx0 (by rw [show i-1+1=i by omega];exact hx)
      simp only [Nat.add_sub_cancel,Dn hy,Dn hx0]
      rw [← GN]
      have:=congrFun (h2 (x-1) (by omega) (by omega)) y
      unfold lY
      rw [this]
    · obtain rfl:i=0:=by omega
      rw [if_neg (by omega),neg (o1 x hx (x-1) y (by omega))]
include lx ly
theorem ZP {j:Nat} {y:Int} (hy:ys[j]?=some y) (s:List Ln) {out0:List Ln} (h0:out0.length≤5000000) (hout:∀ q ∈ out0,q.At.Y2<y) :
    aK (iR (xs,ys) (Kv R xs ys) ((j:Int),s)) (0,out0)=some (out0++(sU (hS R y)).map fun p=>⟨⟨p.1,y,p.2,y⟩,nm (lY R p.1 (y-1)),nm (lY R p.1 y)⟩)∧(sU (hS R y)).length≤xs.length:=by
  have hjl:=bA hy
  obtain ⟨L,g1,g2,g3⟩:=WZ (O3 h y) (ln:=fun a b=>⟨a,y,b,y⟩) (body:=iR (xs,ys) (Kv R xs ys) ((j:Int),s)) (fun k x x' out hx hx'=>by
      have hkl:=bA hx'
      obtain ⟨c1,c2⟩:=UF h hx hkl hy
      have d:decide (((k+1:Nat):Int)<(xs.length:Int))=true:=by simp;omega
      have g0:=Qr (R:=R) xs ys (k+1) (by omega)
      have r1:=Kw (R:=R) xs ys (k+1) j (by omega)
      have r2:=Kw (R:=R) xs ys (k+1) (j+1) (by omega)
      unfold iR
      simp only [aZ k (by omega),aZ j (by omega),d,if_true,aP hx,aP hy,aP hx',aP g0,aP r1,aP r2,Option.bind_some,c1,c2]) (fun k out hk1 hk2=>by
      have d:decide (aM (k:Int) 1<(xs.length:Int))=false:=by rw [aZ k (by omega)];simp;omega
      unfold iR
      simp only [d,Bool.false_eq_true,if_false]) (fun a b e e'=>by unfold cS;simp) (fun a e e'=>rfl) h0 (fun q hq x x' _ hc=>by have:=hout q hq;have:=hc.2.1;simp only at this;omega)
  have e:sU (hS R y)=L:=Vz g2
  rw [e];exact ⟨g1,g3⟩
theorem ZQ {i:Nat} {x:Int} (hx:xs[i]?=some x) (s:List Ln) {out0:List Ln} (h0:out0.length≤5000000) (hout:∀ q ∈ out0,(q.At.X2<x)∨(q.At.Y1=q.At.Y2∧q.At.X1<q.At.X2)) :
    aK (iU (xs,ys) (Kv R xs ys) ((i:Int),s)) (0,out0)=some (out0++(sU (vS R x)).map fun p=>⟨⟨x,p.1,x,p.2⟩,nm (lY R (x-1) p.1),nm (lY R x p.1)⟩)∧(sU (vS R x)).length≤ys.length:=by
  have hil:=bA hx
  obtain ⟨L,g1,g2,g3⟩:=WZ (O4 h x) (ln:=fun a b=>⟨x,a,x,b⟩) (body:=iU (xs,ys) (Kv R xs ys) ((i:Int),s)) (fun k y y' out hy hy'=>by
      have hkl:=bA hy'
      obtain ⟨c1,c2⟩:=QJ h hx hy hkl
      have d:decide (((k+1:Nat):Int)<(ys.length:Int))=true:=by simp;omega
      have g0:=Qr (R:=R) xs ys i (by omega)
      have g0':=Qr (R:=R) xs ys (i+1) (by omega)
      have r1:=Kw (R:=R) xs ys i (k+1) (by omega)
      have r2:=Kw (R:=R) xs ys (i+1) (k+1) (by omega)
      unfold iU
      simp only [aZ k (by omega),aZ i (by omega),d,if_true,aP hx,aP hy,aP hy',aP g0,aP g0',aP r1,aP r2,Option.bind_some,c1,c2]) (fun k out hk1 hk2=>by
      have d:decide (aM (k:Int) 1<(ys.length:Int))=false:=by rw [aZ k (by omega)];simp;omega
      unfold iU
      simp only [d,Bool.false_eq_true,if_false]) (fun a b e e'=>by unfold cS;simp) (fun a e e'=>rfl) h0 (fun q hq y y' hyy hc=>by
      obtain ⟨c1,c2,c3⟩:=hc
      simp only at c1 c2 c3
      have:=hout q hq
      omega)
  have e:sU (vS R x)=L:=Vz g2
  rw [e];exact ⟨g1,g3⟩
theorem CZ:∃ r,aK (iT (xs,ys) (Kv R xs ys)) (0,[])=some r∧aK (iW (xs,ys) (Kv R xs ys)) (0,r)=some (Lu R xs ys)∧(Lu R xs ys).length≤2000000:=by
  have isr:∀ {s:Int→Int} {p:Int×Int},p ∈ sU s→p.1<p.2:=fun {s p} hp=>by
    unfold sU at hp
    split at hp
    · rename_i hx
      exact (((Classical.choose_spec hx).2 p.1 p.2).1 hp).1
    · cases hp
  obtain ⟨r,q1,q2,q3,q4⟩:=vZ ys (fun k (s:List Ln)=>((k:Int),s)) (iT (xs,ys) (Kv R xs ys)) (fun s=>s) (fun k s=>s=(ys.take k).flatMap (fun y=>(sU (hS R y)).map fun p=>⟨⟨p.1,y,p.2,y⟩,nm (lY R p.1 (y-1)),nm (lY R p.1 y)⟩)∧s.length≤1000*k∧∀ q ∈ s,q.At.Y1=q.At.Y2∧q.At.X1<q.At.X2∧q.At.Y2 ∈ ys.take k) [] ⟨rfl,by simp,fun q hq=>by cases hq⟩
    (fun k y s hy hI=>by
      have hk:=bA hy
      have hd:decide ((k:Int)<(ys.length:Int))=true:=by simp [hk]
      obtain ⟨i1,i2,i3⟩:=hI
      obtain ⟨g1,g2⟩:=ZP h lx ly hy s (out0:=s) (by omega) (fun q hq=>by
        obtain ⟨_,_,hm⟩:=i3 q hq
        obtain ⟨n,hn⟩:=List.mem_iff_getElem?.1 hm
        have hnl:=bA hn
        rw [List.length_take] at hnl
        rw [List.getElem?_take,if_pos (by omega)] at hn
        exact Un h.Y.asc (show n<k by omega) hn hy)
      unfold iT
      simp only [hd,if_true,g1,Option.bind_some,aZ k (by omega)]
      refine ⟨_,rfl, ?_,by simp;omega,fun q hq=>?_⟩
      · rw [oJ hy,List.flatMap_append,i1]
        simp
      · rw [oJ hy]
        rcases List.mem_append.1 hq with hq | hq
        · obtain ⟨a,b,c⟩:=i3 q hq
          exact ⟨a,b,List.mem_append_left _ c⟩
        · obtain ⟨p,hp,rfl⟩:=List.mem_map.1 hq
          exact ⟨rfl,isr hp,List.mem_append_right _ (by simp)⟩) (fun s _=>by simp [iT])
  rw [List.take_length] at q2 q4
  obtain ⟨r',t1,t2,t3,t4⟩:=vZ xs (fun k (s:List Ln)=>((k:Int),s)) (iW (xs,ys) (Kv R xs ys)) (fun s=>s) (fun k s=>s=r++(xs.take k).flatMap (fun x=>(sU (vS R x)).map fun p=>⟨⟨x,p.1,x,p.2⟩,nm (lY R (x-1) p.1),nm (lY R x p.1)⟩)∧s.length≤1000000+1000*k∧∀ q ∈ s,q.At.X2 ∈ xs.take k∨(q.At.Y1=q.At.Y2∧q.At.X1<q.At.X2)) r ⟨by simp,by omega,fun q hq=>.inr ⟨(q4 q hq).1,(q4 q hq).2.1⟩⟩
    (fun k x s hx hI=>by
      have hk:=bA hx
      have hd:decide ((k:Int)<(xs.length:Int))=true:=by simp [hk]
      obtain ⟨i1,i2,i3⟩:=hI
      obtain ⟨g1,g2⟩:=ZQ h lx ly hx s (out0:=s) (by omega) (fun q hq=>by
        rcases i3 q hq with hm | hm
        · left
          obtain ⟨n,hn⟩:=List.mem_iff_getElem?.1 hm
          have hnl:=bA hn
          rw [List.length_take] at hnl
          rw [List.getElem?_take,if_pos (by omega)] at hn
          exact Un h.X.asc (show n<k by omega) hn hx
        · exact .inr hm)
      unfold iW
      simp only [hd,if_true,g1,Option.bind_some,aZ k (by omega)]
      refine ⟨_,rfl, ?_,by simp;omega,fun q hq=>?_⟩
      · rw [oJ hx,List.flatMap_append,i1]
        simp
      · rw [oJ hx]
        rcases List.mem_append.1 hq with hq | hq
        · exact (i3 q hq).imp (fun c=>List.mem_append_left _ c) id
        · obtain ⟨p,hp,rfl⟩:=List.mem_map.1 hq
          exact .inl (List.mem_append_right _ (by simp))) (fun s _=>by simp [iW])
  rw [List.take_length] at t2
  have e:r'=Lu R xs ys:=by rw [t2,q2];rfl
  exact ⟨r,by rw [show ((0:Int),([]:List Ln))=(((0:Nat):Int),[]) from rfl,q1],by rw [show ((0:Int),r)=(((0:Nat):Int),r) from rfl,t1,e],by rw [← e];omega⟩
end
theorem LH {R:List (List Rect)} {xs ys:List Int} (h:Lay R xs ys) (hk:∀ t ∈ R,t.length≤1000):kM R=some (Lu R xs ys)∧(Lu R xs ys).length≤2000000:=by
  have hm:=h.m
  have hn:=h.n
  have hfl:∀ k,(R.take k).flatten.length≤R.flatten.length:=fun k=>by
    conv=>rhs;rw [← List.take_append_drop k R,List.flatten_append,List.length_append]
    omega
  obtain ⟨r,q1,q2⟩:=vZ R (fun k (s:List Rect)=>((k:Int),s)) (lN R) (fun s=>s) (fun k s=>s=(R.take k).flatten) [] (by simp)
    (fun k t s ht hI=>by
      have h1:=bA ht
      have hd:decide ((k:Int)<(R.length:Int))=true:=by simp [h1]
      have:=hfl k
      have:=hk t (List.mem_of_getElem? ht)
      unfold lN
      simp only [hd,if_true,aP ht,Option.bind_some,aZ k (by omega)]
      subst hI
      rw [pY (by unfold LIM;omega)]
      refine ⟨_,rfl, ?_⟩
      rw [oJ ht,List.flatten_append];simp) (fun s _=>by simp [lN])
  rw [List.take_length] at q2
  obtain ⟨xs1,ys1,g1,g2,g3⟩:=XW h.v hn
  obtain rfl:=Xy h.x g2
  obtain rfl:=Xy h.y g3
  obtain ⟨r',b1,b2,b3⟩:=CZ h h.X.len h.Y.len
  refine ⟨?_,b3⟩
  unfold kM
  rw [show ((0:Int),([]:List Rect))=(((0:Nat):Int),[]) from rfl,q1,q2]
  simp only [Option.bind_some,g1,RB h.v hm hk h.X.len h.Y.len,b1,b2]
theorem QO (s:Segment) {a b:Option Int} (ha:SmO a) (hb:SmO b) (hne:a≠b):(if nH (nm b) (nm a)<0 then (⟨s,fA (nm b) (nm a),nH (nm b) (nm a)⟩:EdgeT) else ⟨s,nH (nm b) (nm a),fA (nm b) (nm a)⟩)=mkE s a b:=by
  have h1:mkE s a b=if nm a<0∨(nm b ≥ 0∧nm b<nm a) then ⟨s,nm b,nm a⟩ else ⟨s,nm a,nm b⟩:=rfl
  have hne':nm a≠nm b:=fun q=>hne ((GM ha hb).1 q)
  have bd:∀ {o:Option Int},SmO o→-1≤nm o:=fun {o} ho=>by
    cases o with
    | none=>simp [nm]
    | some i=>have:=ho i rfl;simp only [nm];omega
  have ba:=bd ha
  have bb:=bd hb
  rw [h1,Eu,Vj]
  generalize nm a=p at *
  generalize nm b=q at *
  by_cases c1:p<0
  · rw [if_pos (by omega),if_pos (.inl c1),show max q p=q by omega,show min q p=p by omega]
  · by_cases c2:q<0
    · rw [if_pos (by omega),if_neg (by omega),show max q p=p by omega,show min q p=q by omega]
    · rw [if_neg (by omega)]
      by_cases c3:q<p
      · rw [if_pos (.inr ⟨by omega,c3⟩),show max q p=p by omega,show min q p=q by omega]
      · rw [if_neg (by omega),show max q p=q by omega,show min q p=p by omega]
section
variable {l:LayoutT} (n8:l.Pieces.length≤8) (r12:∀ x ∈ l.Pieces,x.Rects.length≤12) (hv:∀ x ∈ l.Pieces,CX x.Rects)
include n8 r12 hv
theorem RZ {xs ys:List Int} (hL:Lay (regs l) xs ys):dY l=some (FY (regs l) xs ys):=by
  obtain ⟨r,q1,q2⟩:=vZ l.Pieces (fun k (s:List (List Rect))=>((k:Int),s)) (nS l) (fun s=>s) (fun k s=>s=(l.Pieces.take k).map fun x=>x.Rects) [] (by simp)
    (fun k x s hx hI=>by
      have h1:=bA hx
      have hd:decide ((k:Int)<(l.Pieces.length:Int))=true:=by simp [h1]
      unfold nS
      simp only [hd,if_true,aP hx,Option.bind_some,aZ k (by omega)]
      subst hI
      rw [pY (by simp [LIM];omega)]
      refine ⟨_,rfl, ?_⟩
      rw [oJ hx,List.map_append];rfl) (fun s _=>by simp [nS])
  rw [List.take_length] at q2
  obtain ⟨b1,b2⟩:=LH hL (L8 r12)
  -- from lines to edges
  let f:Ln→EdgeT:=fun x=>if nH x.Low x.High<0 then ⟨x.At,fA x.Low x.High,nH x.Low x.High⟩ else ⟨x.At,nH x.Low x.High,fA x.Low x.High⟩
  have hmap:(Lu (regs l) xs ys).map f=FY (regs l) xs ys:=by
    have key:∀ {s:Int→Int} {A B:Int→Option Int} (ln:Int→Int→Segment) (hs:s=fun z=>cod (A z) (B z)) (ha:∀ z,SmO (A z)) (hb:∀ z,SmO (B z)),((sU s).map fun p=>(⟨ln p.1 p.2,nm (B p.1),nm (A p.1)⟩:Ln)).map f=(sU s).map fun p=>mkE (ln p.1 p.2) (A p.1) (B p.1):=fun {s A B} ln hs ha hb=>by
      rw [List.map_map]
      refine List.map_congr_left fun p hp=>?_
      have hr:s p.1≠0:=by
        unfold sU at hp
        split at hp
        · rename_i hx
          exact (((Classical.choose_spec hx).2 p.1 p.2).1 hp).2.1
        · cases hp
      have hne:A p.1≠B p.1:=fun q=>hr (by rw [hs];simp only;rw [(JA (ha _) (hb _)).2 q])
      exact QO _ (ha _) (hb _) hne
    unfold Lu FY
    rw [List.map_append,List.map_flatMap,List.map_flatMap]
    congr 1
    · congr 1;funext y
      exact key (fun a b=>⟨a,y,b,y⟩) (A:=fun z=>lY (regs l) z y) (B:=fun z=>lY (regs l) z (y-1)) rfl (fun z=>Jf hL.m _ _) (fun z=>Jf hL.m _ _)
    · congr 1;funext x
      exact key (fun a b=>⟨x,a,x,b⟩) (A:=fun z=>lY (regs l) x z) (B:=fun z=>lY (regs l) (x-1) z) rfl (fun z=>Jf hL.m _ _) (fun z=>Jf hL.m _ _)
  obtain ⟨r',t1,t2⟩:=vZ (Lu (regs l) xs ys) (fun k (s:List EdgeT)=>((k:Int),s)) (nT (Lu (regs l) xs ys)) (fun s=>s) (fun k s=>s=((Lu (regs l) xs ys).take k).map f) [] (by simp)
    (fun k x s hx hI=>by
      have h1:=bA hx
      have hd:decide ((k:Int)<((Lu (regs l) xs ys).length:Int))=true:=by rw [decide_eq_true_eq];omega
      unfold nT
      simp only [hd,if_true,aP hx,Option.bind_some,nR,aZ k (by omega)]
      subst hI
      have hl:(((Lu (regs l) xs ys).take k).map f).length≤2000000:=by rw [List.length_map,List.length_take];omega
      rw [pY (by simp only [List.length_cons,List.length_nil,LIM];omega),pY (by simp only [List.length_cons,List.length_nil,LIM];omega)]
      simp only [Option.bind_some]
      refine ⟨((Lu (regs l) xs ys).take k).map f++[f x], ?_,by rw [oJ hx,List.map_append];rfl⟩
      show _=some (Sum.inl (((k+1:Nat):Int),_++[if nH x.Low x.High<0 then _ else _]))
      by_cases hc:nH x.Low x.High<0
      · simp only [hc,decide_true,if_true]
      · simp only [hc,decide_false,Bool.false_eq_true,if_false]) (fun s _=>by simp [nT])
  rw [List.take_length,hmap] at t2
  unfold dY
  rw [show ((0:Int),([]:List (List Rect)))=(((0:Nat):Int),[]) from rfl,q1,q2]
  show (kM (regs l)).bind _=_
  simp only [b1,Option.bind_some]
  rw [show ((0:Int),([]:List EdgeT))=(((0:Nat):Int),[]) from rfl,t1,t2]
  rfl
end
theorem LV.hv {l:LayoutT} (h:LV l):∀ x ∈ l.Pieces,CX x.Rects:=fun x hx r hr=>(h.off x hx r hr).1.1
theorem R5 {l:LayoutT} (h:yV l):∀ x ∈ l.Pieces,Sm x:=fun x hx=>by
  obtain ⟨_,_,_,_,r1,r2,r3⟩:=h.2.2 x hx
  exact ⟨⟨r1.1,fun r hr=>r1.2 r hr⟩,⟨r2.1,fun r hr=>r2.2 r hr⟩,⟨r3.1,fun r hr=>r3.2 r hr⟩⟩
theorem LK (l:LayoutT) (h:yV l):∃ es b,vE l=some b∧dH l=some b∧wE l=some (es,b)∧Bi l=some (es,b)∧es.length≤200000∧(b≠0→es=[])∧(b=0→LV l∧Gf l=some es∧dY l=some es∧∃ xs ys,Lay (regs l) xs ys∧es=FY (regs l) xs ys):=by
  obtain ⟨b,b1,b2,b3⟩:=FJ l (R5 h)
  unfold wE Bi
  rw [b1,b2]
  simp only [Option.bind_some]
  by_cases hb:b=0
  · subst hb
    have hl:=b3 rfl
    obtain ⟨xs,ys,h1,h2,h3⟩:=UM hl.n hl.r12 hl.hv
    have h4:=RZ hl.n hl.r12 hl.hv h1
    refine ⟨FY (regs l) xs ys,0,rfl,rfl, ?_, ?_,h3,fun q=>absurd rfl q,fun _=>⟨hl,h2,h4,xs,ys,h1,rfl⟩⟩
    · simp [h2]
    · simp [h4]
  · have hb':(b != 0)=true:=by rw [bne_iff_ne];exact hb
    exact ⟨[],b,rfl,rfl,by simp [hb'],by simp [hb'],by simp,fun _=>rfl,fun q=>absurd q hb⟩
end Go.SM
namespace Go.SM
open Go Go.VI
noncomputable def EF (a:cut_State):Option (Unit):=
  some ()
noncomputable def cK (l:LayoutT) (items:(List ItemT)) (r2:(List EdgeT)×Int):(Int×(List (List Bool))×(List Bool)×(List Bool)×(List Int)×(List Bool))→Option ((Int×(List (List Bool))×(List Bool)×(List Bool)×(List Int)×(List Bool)) ⊕ ((Int×Int) ⊕ ((List (List Bool))×(List Bool)×(List Bool)×(List Int)×(List Bool)))):=fun s59 =>
  if (decide (s59.1<(items.length:Int))) then ((idx items s59.1).bind fun x79=>(Jn l r2.1 (cut_State.mk s59.2.2.1 s59.2.1 s59.2.2.2.1 s59.2.2.2.2.1 s59.2.2.2.2.2) x79).bind fun r81=>if (r81.2 != 0) then (some (.inr (.inl (s59.1,r81.2)))) else ((EF r81.1).bind fun r83=>some (.inl ((aM s59.1 1),r81.1.Holes,r81.1.Cut,r81.1.Done,r81.1.Joints,r81.1.Fallen)))) else (some (.inr (.inr ((s59.2.1,s59.2.2.1,s59.2.2.2.1,s59.2.2.2.2.1,s59.2.2.2.2.2)))))
noncomputable def yY (l:LayoutT) (items:(List ItemT)):Option (cut_State×Int×Int×(List (List Bool))):=
  (wE l).bind fun r2=>if (r2.2 != 0) then (some ((cut_State.mk [] [] [] [] []),0,r2.2,[])) else (if (decide ((items.length:Int)>128)) then (some ((cut_State.mk [] [] [] [] []),0,4,[])) else ((Bv l (r2.1.length:Int)).bind fun r4=>(aK (cK l items r2) (0,r4.Holes,r4.Cut,r4.Done,r4.Joints,r4.Fallen)).bind fun x84=>match x84 with | .inl j85=>some ((cut_State.mk [] [] [] [] []),j85.1,j85.2,[]) | .inr j86=>some ((cut_State.mk j86.2.1 j86.1 j86.2.2.1 j86.2.2.2.1 j86.2.2.2.2),0,0,j86.1)))
noncomputable def Ux (l:LayoutT) (items:(List ItemT)):Option (cut_State×Int×Int×(List (List Bool))):=
  (yY l items).bind fun r2=>some ((cut_State.mk r2.1.Cut r2.1.Holes r2.1.Done r2.1.Joints r2.1.Fallen),r2.2.1,r2.2.2.1,r2.1.Holes)
noncomputable def bI (l:LayoutT) (items:(List ItemT)) (r2:(List EdgeT)):(Int×(List Bool)×(List (List Bool))×(List Bool)×(List Int)×(List Bool)×(List sheetmetalref07_State))→Option ((Int×(List Bool)×(List (List Bool))×(List Bool)×(List Int)×(List Bool)×(List sheetmetalref07_State)) ⊕ ((Int×Int) ⊕ (List sheetmetalref07_State))):=fun s123 =>
  if (decide (s123.1<(items.length:Int))) then ((idx items s123.1).bind fun x170=>(dZ l r2 (sheetmetalref07_State.mk s123.2.1 s123.2.2.1 s123.2.2.2.1 s123.2.2.2.2.1 s123.2.2.2.2.2.1) x170).bind fun r171=>if (r171 != 0) then (some (.inr (.inl (s123.1,r171)))) else ((idx items s123.1).bind fun x176=>(gF r2 (sheetmetalref07_State.mk s123.2.1 s123.2.2.1 s123.2.2.2.1 s123.2.2.2.2.1 s123.2.2.2.2.2.1) x176).bind fun r177=>(app s123.2.2.2.2.2.2 [r177]).bind fun l179=>some (.inl ((aM s123.1 1),r177.Cut,r177.Holes,r177.Done,r177.Joints,r177.Fallen,l179)))) else (some (.inr (.inr s123.2.2.2.2.2.2)))
noncomputable def gK (l:LayoutT) (items:(List ItemT)):Option ((List sheetmetalref07_State)×Int×Int):=
  (dY l).bind fun r2=>(jR l).bind fun r4=>(aK (bI l items r2) (0,r4.Cut,r4.Holes,r4.Done,r4.Joints,r4.Fallen,[])).bind fun x180=>match x180 with | .inl j181=>some ([],j181.1,j181.2) | .inr j182=>some (j182,0,0)
noncomputable def oQ (l:LayoutT) (items:(List ItemT)):Option (sheetmetalref07_State×Int×Int×(List Bool)×(List (List Bool))×(List Bool)×(List Int)×(List Bool)):=
  (dH l).bind fun r2=>if (r2 != 0) then (some ((sheetmetalref07_State.mk [] [] [] [] []),0,r2,[],[],[],[],[])) else (if (decide ((items.length:Int)>128)) then (some ((sheetmetalref07_State.mk [] [] [] [] []),0,4,[],[],[],[],[])) else (if ((items.length:Int)==0) then ((jR l).bind fun r6=>some (r6,0,0,r6.Cut,r6.Holes,r6.Done,r6.Joints,r6.Fallen)) else ((gK l items).bind fun r8=>if (r8.2.2 != 0) then (some ((sheetmetalref07_State.mk [] [] [] [] []),r8.2.1,r8.2.2,[],[],[],[],[])) else ((idx r8.1 (aJ (r8.1.length:Int) 1)).bind fun x10=>some (x10,0,0,x10.Cut,x10.Holes,x10.Done,x10.Joints,x10.Fallen)))))
noncomputable def Ac (r2:cut_State×Int×Int×(List (List Bool))):Int→Option (Int ⊕ (Unit ⊕ Unit)):=fun s45 =>
  if (decide (s45<(r2.1.Holes.length:Int))) then ((idx r2.1.Holes s45).bind fun x59=>(dW x59 false).bind fun r61=>if r61 then (some (.inr (.inl ()))) else (some (.inl (aM s45 1)))) else (some (.inr (.inr (()))))
noncomputable def Qs (l:LayoutT) (items:(List ItemT)):Option (Int):=
  (Ux l items).bind fun r2=>if (r2.2.2.1 != 0) then (some r2.2.2.1) else ((dW r2.1.Done false).bind fun r6=>if r6 then (some 12) else ((aK (Ac r2) 0).bind fun x62=>match x62 with | .inl j63=>some 12 | .inr j64=>some 0))
noncomputable def jT (r2:sheetmetalref07_State×Int×Int×(List Bool)×(List (List Bool))×(List Bool)×(List Int)×(List Bool)):Int→Option (Int ⊕ (Unit ⊕ Unit)):=fun s45 =>
  if (decide (s45<(r2.1.Holes.length:Int))) then ((idx r2.1.Holes s45).bind fun x60=>(lW x60).bind fun r61=>if (!r61) then (some (.inr (.inl ()))) else (some (.inl (aM s45 1)))) else (some (.inr (.inr (()))))
noncomputable def rD (l:LayoutT) (items:(List ItemT)):Option (Int):=
  (oQ l items).bind fun r2=>if (r2.2.2.1 != 0) then (some r2.2.2.1) else ((lW r2.1.Done).bind fun r6=>if (!r6) then (some 12) else ((aK (jT r2) 0).bind fun x62=>match x62 with | .inl j63=>some 12 | .inr j64=>some 0))
noncomputable def yX (s65:Int×(List Int)):(List Int)→Option (Int×(List Int) ⊕ (List Int)):=fun j88 =>
  some (.inl ((aM s65.1 1),j88))
noncomputable def Tj (st:cut_State) (h0_0:(List Bool)):Int×(List Int)→Option (Int×(List Int) ⊕ (List Int)):=fun s65 =>
  if (decide (s65.1<(st.Fallen.length:Int))) then ((idx st.Fallen s65.1).bind fun x90=>(if x90 then ((idx h0_0 s65.1).bind fun x93=>some (!x93)) else (some false)).bind fun j92=>if j92 then ((app s65.2 [s65.1]).bind fun l95=>yX s65 l95) else (yX s65 s65.2)) else (some (.inr s65.2))
noncomputable def Ph (st:cut_State) (h0_0:(List Bool)) (h2:(List (List Int))):Option ((List (List Int))):=
  (aK (Tj st h0_0) (0,[])).bind fun x96=>(app h2 [x96]).bind fun l98=>some l98
noncomputable def Gt (l:LayoutT) (items:(List ItemT)) (r2:(List EdgeT)×Int):(Int×(List (List Int))×(List Bool)×(List (List Bool))×(List Bool)×(List Int)×(List Bool)×(List Bool))→Option ((Int×(List (List Int))×(List Bool)×(List (List Bool))×(List Bool)×(List Int)×(List Bool)×(List Bool)) ⊕ ((List Bool)×(List (List Bool))×(List Bool)×(List Int)×(List Bool)×(List (List Int))×(List Bool))):=fun s57 =>
  if (decide (s57.1<(items.length:Int))) then ((idx items s57.1).bind fun x77=>(Jn l r2.1 (cut_State.mk s57.2.2.1 s57.2.2.2.1 s57.2.2.2.2.1 s57.2.2.2.2.2.1 s57.2.2.2.2.2.2.1) x77).bind fun r79=>if (r79.2 != 0) then (none) else ((Ph r79.1 s57.2.2.2.2.2.2.2 s57.2.1).bind fun r81=>some (.inl ((aM s57.1 1),r81,r79.1.Cut,r79.1.Holes,r79.1.Done,r79.1.Joints,r79.1.Fallen,r79.1.Fallen)))) else (some (.inr (s57.2.2.1,s57.2.2.2.1,s57.2.2.2.2.1,s57.2.2.2.2.2.1,s57.2.2.2.2.2.2.1,s57.2.1,s57.2.2.2.2.2.2.2)))
noncomputable def zJ (l:LayoutT) (items:(List ItemT)) (h1:(List Bool)) (h3:(List (List Int))):Option (cut_State×Int×Int×(List Bool)×(List (List Bool))×(List Bool)×(List Int)×(List Bool)×(List (List Int))×(List Bool)):=
  (wE l).bind fun r2=>if (r2.2 != 0) then (none) else (if (decide ((items.length:Int)>128)) then (none) else ((Bv l (r2.1.length:Int)).bind fun r4=>(aK (Gt l items r2) (0,h3,r4.Cut,r4.Holes,r4.Done,r4.Joints,r4.Fallen,h1)).bind fun x82=>some ((cut_State.mk x82.1 x82.2.1 x82.2.2.1 x82.2.2.2.1 x82.2.2.2.2.1),0,0,x82.1,x82.2.1,x82.2.2.1,x82.2.2.2.1,x82.2.2.2.2.1,x82.2.2.2.2.2.1,x82.2.2.2.2.2.2)))
noncomputable def Uu (l:LayoutT) (items:(List ItemT)):Option ((List (List Int))×Int):=
  (mk (l.Pieces.length:Int) false).bind fun l2=>(zJ l items l2 []).bind fun r4=>if (r4.2.2.1 != 0) then (none) else (some (r4.2.2.2.2.2.2.2.2.1,0))
noncomputable def uA:Option (Bool):=
  (wE (LayoutT.mk (Sheet.mk (ByteArray.mk #[115]) (ByteArray.mk #[115,116,101,101,108]) 10 0 57600 57600 [] []) [(Piece.mk (ByteArray.mk #[97]) (ByteArray.mk #[115,116,101,101,108]) 10 0 [(Rect.mk 0 0 14400 14400)] [] []),(Piece.mk (ByteArray.mk #[98]) (ByteArray.mk #[115,116,101,101,108]) 10 0 [(Rect.mk 14400 0 14400 14400)] [] [])])).bind fun r2=>(Uu (LayoutT.mk (Sheet.mk (ByteArray.mk #[115]) (ByteArray.mk #[115,116,101,101,108]) 10 0 57600 57600 [] []) [(Piece.mk (ByteArray.mk #[97]) (ByteArray.mk #[115,116,101,101,108]) 10 0 [(Rect.mk 0 0 14400 14400)] [] []),(Piece.mk (ByteArray.mk #[98]) (ByteArray.mk #[115,116,101,101,108]) 10 0 [(Rect.mk 14400 0 14400 14400)] [] [])]) [(ItemT.mk 0 (-1) 0 (Spot.mk 0 0)),(ItemT.mk 1 (-1) 0 (Spot.mk 28800 0))]).bind fun r4=>if (r2.2==0) then (if ((r2.1.length:Int)==7) then (if (r4.2==0) then (if ((r4.1.length:Int)==2) then ((idx r4.1 0).bind fun x9=>(gX x9 [0]).bind fun r10=>if r10 then ((idx r4.1 1).bind fun x11=>(gX x11 [1]).bind fun r12=>some r12) else (none)) else (none)) else (none)) else (none)) else (none)
noncomputable def uT (l:LayoutT) (items:(List ItemT)):Option (Bool):=
  (Ux l items).bind fun r2=>(oQ l items).bind fun r4=>(if (r2.2.2.1==r4.2.2.1) then (if (r2.2.1==r4.2.1) then ((sW (cut_State.mk r2.1.Cut r2.1.Holes r2.1.Done r2.1.Joints r2.1.Fallen) (sheetmetalref07_State.mk r4.1.Cut r4.1.Holes r4.1.Done r4.1.Joints r4.1.Fallen)).bind fun r14=>if r14 then ((Qs l items).bind fun r15=>(rD l items).bind fun r16=>if (r15==r16) then ((uA).bind fun r17=>some r17) else (some false)) else (some false)) else (some false)) else (some false)).bind fun j13=>some j13
end Go.SM
namespace Go.SM
open Go Go.VI
end Go.SM
namespace Go.SM
open Go Go.VI Go.Cells
abbrev RS:=sheetmetalref07_State
def toC (s:RS):cut_State:=⟨s.Cut,s.Holes,s.Done,s.Joints,s.Fallen⟩
def noS:RS:=⟨[],[],[],[],[]⟩
structure SL1 (s:RS):Prop where
  c:s.Cut.length≤1048576
  h:s.Holes.length≤1048576
  hh:∀ t ∈ s.Holes,t.length≤1048576
  d:s.Done.length≤1048576
  j:s.Joints.length≤1048576
  f:s.Fallen.length≤1048576
structure Fit (l:LayoutT) (n:Nat) (s:RS):Prop where
  c:s.Cut.length=n
  h:s.Holes.length=l.Pieces.length
  d:s.Done.length=l.Pieces.length
  j:s.Joints.length=l.Pieces.length
  f:s.Fallen.length=l.Pieces.length
  hh:∀ (k:Nat) t x,s.Holes[k]?=some t→l.Pieces[k]?=some x→t.length=x.Cuts.length
theorem QU {l:LayoutT} (n8:l.Pieces.length≤8) (n:Nat) {s:RS} (hs:SL1 s):∃ b,lF (toC s) l (n:Int)=some b∧eZ l s (n:Int)=some b∧(b=true↔Fit l n s):=by
  have hb:∀ a b:Nat,((a:Int) != (b:Int))=!decide (a=b):=fun a b=>by
    by_cases h:a=b
    · subst h;simp
    · have:¬ (a:Int)=(b:Int):=by omega
      simp [h,this]
  by_cases h1:s.Cut.length=n
  · by_cases h2 : s.Holes.length=l.Pieces.length
    · by_cases h3:s.Done.length=l.Pieces.length
      · by_cases h4:s.Joints.length=l.Pieces.length
        · by_cases h5:s.Fallen.length=l.Pieces.length
          · let q:Nat→Bool:=fun k=>match s.Holes[k]?,l.Pieces[k]? with
              | some t,some x=>!decide (t.length=x.Cuts.length)
              | _,_=>false
            have g1:aK (rU (toC s) l) 0=some (if (List.range l.Pieces.length).any q then .inl () else .inr ()):=by
              refine kL l.Pieces.length (rU (toC s) l) (fun k=>(k:Int)) q _ _ rfl (fun k hk=>?_) ?_
              · have e1:s.Holes[k]?=some (s.Holes[k]'(by omega)):=List.getElem?_eq_getElem (by omega)
                have e2:l.Pieces[k]?=some l.Pieces[k]:=List.getElem?_eq_getElem hk
                have e1':(toC s).Holes[k]?=some (s.Holes[k]'(by omega)):=e1
                unfold rU
                have hd:decide ((k:Int)<(l.Pieces.length:Int))=true:=by simp [hk]
                simp only [hd,if_true,aP e1',aP e2,Option.bind_some,hb,q,e1,e2,aZ k (by omega)]
              · simp [rU]
            have g2:aK (kV l s) 0=some (if (List.range l.Pieces.length).any q then .inl () else .inr ()):=by
              refine kL l.Pieces.length (kV l s) (fun k=>(k:Int)) q _ _ rfl (fun k hk=>?_) ?_
              · have e1:s.Holes[k]?=some (s.Holes[k]'(by omega)):=List.getElem?_eq_getElem (by omega)
                have e2:l.Pieces[k]?=some l.Pieces[k]:=List.getElem?_eq_getElem hk
                unfold kV
                have hd:decide ((k:Int)<(l.Pieces.length:Int))=true:=by simp [hk]
                simp only [hd,if_true,aP e1,aP e2,Option.bind_some,hb,q,e1,e2,aZ k (by omega)]
              · simp [kV]
            refine ⟨!((List.range l.Pieces.length).any q), ?_, ?_, ?_⟩
            · unfold lF
              rw [g1]
              show (Option.bind (if ((s.Cut.length:Int) != (n:Int))=true then _ else _) _)=_
              simp only [toC,hb,h1,h2,h3,h4,h5,decide_true,Bool.not_true,Bool.false_eq_true,if_false,Option.bind_some]
              cases (List.range l.Pieces.length).any q <;> rfl
            · unfold eZ
              rw [g2]
              simp only [hb,h1,h2,h3,h4,h5,decide_true,Bool.not_true,Bool.false_eq_true,if_false,Option.bind_some]
              cases (List.range l.Pieces.length).any q <;> rfl
            · rw [Bool.not_eq_true',List.any_eq_false]
              constructor
              · intro hq
                refine ⟨h1,h2,h3,h4,h5,fun k t x e1 e2=>?_⟩
                have:=hq k (List.mem_range.2 (bA e2))
                simp only [q,e1,e2] at this
                simpa using this
              · intro hf k hk
                have hk':=List.mem_range.1 hk
                have e1:s.Holes[k]?=some (s.Holes[k]'(by omega)):=List.getElem?_eq_getElem (by omega)
                have e2:l.Pieces[k]?=some l.Pieces[k]:=List.getElem?_eq_getElem hk'
                simp only [q,e1,e2,hf.hh k _ _ e1 e2]
                simp
          · refine ⟨false, ?_, ?_,by simp;exact fun hf=>h5 hf.f⟩
            · unfold lF;simp [toC,hb,h1,h2,h3,h4,h5]
            · unfold eZ;simp [hb,h1,h2,h3,h4,h5]
        · refine ⟨false, ?_, ?_,by simp;exact fun hf=>h4 hf.j⟩
          · unfold lF;simp [toC,hb,h1,h2,h3,h4]
          · unfold eZ;simp [hb,h1,h2,h3,h4]
      · refine ⟨false, ?_, ?_,by simp;exact fun hf=>h3 hf.d⟩
        · unfold lF;simp [toC,hb,h1,h2,h3]
        · unfold eZ;simp [hb,h1,h2,h3]
    · refine ⟨false, ?_, ?_,by simp;exact fun hf=>h2 hf.h⟩
      · unfold lF;simp [toC,hb,h1,h2]
      · unfold eZ;simp [hb,h1,h2]
  · refine ⟨false, ?_, ?_,by simp;exact fun hf=>h1 hf.c⟩
    · unfold lF;simp [toC,hb,h1]
    · unfold eZ;simp [hb,h1]
def ofB (e:EdgeT) (p:Int):Bool:=(e.A==p) || (e.B==p)
theorem WI (e:EdgeT) (p:Int):Wu e p=some (ofB e p):=by
  unfold Wu ofB
  cases (e.A==p) <;> simp
def held (es:List EdgeT) (c:List Bool) (p:Int) (i:Nat):Bool:=match es[i]?,c[i]? with
  | some e,some b=>ofB e p&&!b
  | _,_=>false
def Qa (es:List EdgeT) (c:List Bool) (p:Int):Bool:=!((List.range es.length).any (held es c p))
section
variable {es:List EdgeT} (hes:es.length≤1000000) {c:List Bool} (hc:c.length=es.length)
include hes hc
theorem free_eq (p:Int) (H:List (List Bool)) (D:List Bool) (J:List Int) (F:List Bool):uN ⟨c,H,D,J,F⟩ es p=some (Qa es c p):=by
  unfold uN
  have key:aK (rX ⟨c,H,D,J,F⟩ es p) 0=some (if (List.range es.length).any (held es c p) then .inl () else .inr ()):=by
    refine kL es.length (rX ⟨c,H,D,J,F⟩ es p) (fun k=>(k:Int)) (held es c p) _ _ rfl (fun k hk=>?_) ?_
    · have e1:es[k]?=some es[k]:=List.getElem?_eq_getElem hk
      have e2:c[k]?=some (c[k]'(by omega)):=List.getElem?_eq_getElem (by omega)
      unfold rX held
      have hd:decide ((k:Int)<(es.length:Int))=true:=by simp [hk]
      simp only [hd,if_true,aP e1,aP e2,e1,e2,Option.bind_some,WI,aZ k (by omega)]
      cases ofB es[k] p <;> simp
    · simp [rX]
  rw [key]
  unfold Qa
  cases (List.range es.length).any (held es c p) <;> rfl
theorem KC (p:Int) (H:List (List Bool)) (D:List Bool) (J:List Int) (F:List Bool):jQ es ⟨c,H,D,J,F⟩ p=some (Qa es c p):=by
  unfold jQ
  have key:aK (jX es ⟨c,H,D,J,F⟩ p) 0=some (if (List.range es.length).any (held es c p) then .inl () else .inr ()):=by
    refine kL es.length (jX es ⟨c,H,D,J,F⟩ p) (fun k=>(k:Int)) (held es c p) _ _ rfl (fun k hk=>?_) ?_
    · have e1:es[k]?=some es[k]:=List.getElem?_eq_getElem hk
      have e2:c[k]?=some (c[k]'(by omega)):=List.getElem?_eq_getElem (by omega)
      unfold jX held ofB
      have hd:decide ((k:Int)<(es.length:Int))=true:=by simp [hk]
      simp only [hd,if_true,aP e1,aP e2,e1,e2,Option.bind_some,aZ k (by omega)]
      cases (es[k].A==p) <;> cases (es[k].B==p) <;> simp
    · simp [jX]
  rw [key]
  unfold Qa
  cases (List.range es.length).any (held es c p) <;> rfl
end
theorem Gp (t:List Bool) (ht:t.length≤1048576):dW t false=some (!(t.all fun b=>b)):=by
  unfold dW uV
  rw [Xc t (lS t false) (fun b=>!b) (fun k=>.inl (k:Int)) (.inr ()) (fun k b hb=>?s) ?f]
  · cases e:t.findIdx? (fun b=>!b) with
    | none =>
      rw [List.findIdx?_eq_none_iff] at e
      have:(t.all fun b=>b)=true:=List.all_eq_true.2 fun b hb=>by have:=e b hb;simpa using this
      simp [this]
    | some i =>
      have:(t.all fun b=>b)=false:=by
        rw [← Bool.not_eq_true,List.all_eq_true]
        intro q
        obtain ⟨hi,h1,_⟩:=List.findIdx?_eq_some_iff_getElem.1 e
        have:=q _ (List.getElem_mem hi)
        simp [this] at h1
      simp [this]
  case s =>
    have h1:=bA hb
    unfold lS
    simp only [h1,Int.ofNat_lt,decide_true,if_true,aP hb,Option.bind_some,aZ k (by omega)]
    cases b <;> rfl
  case f=>simp [lS]
theorem LP (t:List Bool) (ht:t.length≤1048576):lW t=some (t.all fun b=>b):=by
  unfold lW
  rw [Ea t (pG t) (fun b=>b) (.inl ()) (.inr ()) (fun k b hb=>?s) ?f]
  · cases t.all (fun b=>b) <;> rfl
  case s =>
    have h1:=bA hb
    unfold pG
    simp only [h1,Int.ofNat_lt,decide_true,if_true,aP hb,Option.bind_some,aZ k (by omega)]
    cases b <;> rfl
  case f=>simp [pG]
theorem KI (l:LayoutT) (n8:l.Pieces.length≤8) (r12:∀ x ∈ l.Pieces,x.Rects.length≤12) (x:ItemT):∃ b:Bool,aK (rY l x) 0=some (if b then .inl () else .inr ())∧aK (jV l x.Lead) 0=some (if b then .inl () else .inr ()):=by
  have hin:∀ k:Nat,∃ b:Bool,∀ y,l.Pieces[k]?=some y→nE y.Rects x.Lead=some b∧fC y.Rects x.Lead=some b:=fun k=>by
    cases e:l.Pieces[k]? with
    | none=>exact ⟨false,fun y hy=>by cases hy⟩
    | some y =>
      obtain ⟨b,b1,b2⟩:=Rx y.Rects x.Lead (by have:=r12 y (List.mem_of_getElem? e);omega)
      exact ⟨b,fun z hz=>by injection hz with hz;subst hz;exact ⟨b1,b2⟩⟩
  obtain ⟨q,hq⟩:=Classical.axiomOfChoice hin
  refine ⟨(List.range l.Pieces.length).any q, ?_, ?_⟩
  · refine kL l.Pieces.length (rY l x) (fun k=>(k:Int)) q _ _ rfl (fun k hk=>?_) ?_
    · have e2:l.Pieces[k]?=some l.Pieces[k]:=List.getElem?_eq_getElem hk
      have e3:nE l.Pieces[k].Rects (Spot.mk x.Lead.X x.Lead.Y)=some (q k):=(hq k _ e2).1
      unfold rY
      have hd:decide ((k:Int)<(l.Pieces.length:Int))=true:=by simp [hk]
      simp only [hd,if_true,aP e2,Option.bind_some,e3,aZ k (by omega)]
    · simp [rY]
  · refine kL l.Pieces.length (jV l x.Lead) (fun k=>(k:Int)) q _ _ rfl (fun k hk=>?_) ?_
    · have e2:l.Pieces[k]?=some l.Pieces[k]:=List.getElem?_eq_getElem hk
      unfold jV
      have hd:decide ((k:Int)<(l.Pieces.length:Int))=true:=by simp [hk]
      simp only [hd,if_true,aP e2,Option.bind_some,(hq k _ e2).2,aZ k (by omega)]
    · simp [jV]
def J2 (s:Spot) (g:Segment):Int:=fA (fA (fA (fA 0 (aJ g.X1 s.X)) (aJ s.X g.X2)) (aJ g.Y1 s.Y)) (aJ s.Y g.Y2)
def BP (es:List EdgeT) (c:List Bool) (p:Int) (s:Spot) (i:Nat):Bool:=match es[i]?,c[i]? with
  | some e,some b=>ofB e p&&(!b&&decide (J2 s e.Line≤7200))
  | _,_=>false
theorem MB {es:List EdgeT} (hes:es.length≤1000000) {st:RS} (hc:st.Cut.length=es.length) (x:ItemT):aK (rZ (toC st) es x) 0=some (if (List.range es.length).any (BP es st.Cut x.Piece x.Lead) then .inl () else .inr ())∧aK (jW es st x.Piece x.Lead) 0=some (if (List.range es.length).any (BP es st.Cut x.Piece x.Lead) then .inl () else .inr ()):=by
  constructor
  · refine kL es.length (rZ (toC st) es x) (fun k=>(k:Int)) (BP es st.Cut x.Piece x.Lead) _ _ rfl (fun k hk=>?_) ?_
    · have e1:es[k]?=some es[k]:=List.getElem?_eq_getElem hk
      have e2:st.Cut[k]?=some (st.Cut[k]'(by omega)):=List.getElem?_eq_getElem (by omega)
      have e2':(toC st).Cut[k]?=some (st.Cut[k]'(by omega)):=e2
      have e3:FW (Spot.mk x.Lead.X x.Lead.Y) es[k].Line=some (J2 x.Lead es[k].Line):=rfl
      unfold rZ BP
      have hd:decide ((k:Int)<(es.length:Int))=true:=by simp [hk]
      simp only [hd,if_true,aP e1,aP e2',e1,e2,Option.bind_some,WI,e3,aZ k (by omega)]
      cases ofB es[k] x.Piece <;> cases st.Cut[k]'(by omega) <;> simp
    · simp [rZ]
  · refine kL es.length (jW es st x.Piece x.Lead) (fun k=>(k:Int)) (BP es st.Cut x.Piece x.Lead) _ _ rfl (fun k hk=>?_) ?_
    · have e1:es[k]?=some es[k]:=List.getElem?_eq_getElem hk
      have e2:st.Cut[k]?=some (st.Cut[k]'(by omega)):=List.getElem?_eq_getElem (by omega)
      have e3:tJ x.Lead es[k].Line=some (J2 x.Lead es[k].Line):=rfl
      unfold jW BP ofB
      have hd:decide ((k:Int)<(es.length:Int))=true:=by simp [hk]
      simp only [hd,if_true,aP e1,aP e2,e1,e2,Option.bind_some,e3,aZ k (by omega)]
      cases (es[k].A==x.Piece) <;> cases (es[k].B==x.Piece) <;> cases st.Cut[k]'(by omega) <;> simp
    · simp [jW]
theorem RH {l:LayoutT} (hl:LV l) {es:List EdgeT} (hes:es.length≤1000000) {st:RS} (hc:st.Cut.length=es.length) (x:ItemT) (hx:x.Hole<0):∃ b,wR (toC st) l es x=some b∧rE l es st x.Piece x.Lead=some b ∧
    (b=true→(0≤x.Lead.X∧x.Lead.X≤l.Sheet.Width∧0≤x.Lead.Y∧x.Lead.Y≤l.Sheet.Height)):=by
  have sl:=Tf hl.sh
  obtain ⟨r,r1,r2⟩:=Rx l.Sheet.Clamps x.Lead (by omega)
  have r1':nE l.Sheet.Clamps (Spot.mk x.Lead.X x.Lead.Y)=some r:=r1
  obtain ⟨b,b1,b2⟩:=KI l hl.n hl.r12 x
  obtain ⟨c1,c2⟩:=MB hes hc x
  have h0:decide (x.Hole ≥ 0)=false:=by simp;omega
  unfold wR rE
  simp only [h0,Bool.false_eq_true,if_false,b1,b2,c1,c2,r1',r2,Option.bind_some]
  by_cases h1:x.Lead.X<0
  · exact ⟨false,by simp [h1],by simp [h1],by simp⟩
  by_cases h2:x.Lead.X>l.Sheet.Width
  · refine ⟨false,by simp [h1,h2], ?_,by simp⟩
    by_cases h3:x.Lead.Y<0 <;> simp [h1,h2,h3]
  by_cases h3:x.Lead.Y<0
  · exact ⟨false,by simp [h1,h2,h3],by simp [h1,h3],by simp⟩
  by_cases h4:x.Lead.Y>l.Sheet.Height
  · exact ⟨false,by simp [h1,h2,h3,h4],by simp [h1,h2,h3,h4],by simp⟩
  simp only [h1,h2,h3,h4,decide_false,Bool.false_eq_true,if_false,Option.bind_some]
  cases r with
  | true=>exact ⟨false,by simp,by simp,by simp⟩
  | false =>
    simp only [Bool.false_eq_true,if_false]
    cases b with
    | true=>exact ⟨false,rfl,rfl,by simp⟩
    | false =>
      simp only [Bool.false_eq_true,if_false,Option.bind_some]
      cases (List.range es.length).any (BP es st.Cut x.Piece x.Lead) with
      | true=>exact ⟨true,rfl,rfl,fun _=>by omega⟩
      | false=>exact ⟨false,rfl,rfl,by simp⟩
end Go.SM
namespace Go.SM
open Go Go.VI
end Go.SM
namespace Go.SM
open Go Go.VI Go.Cells
def mark (n:Nat) (q:Nat→Bool) (c:List Bool):List Bool:=(List.range n).map fun i=>q i || c.getD i false
theorem xD (n:Nat) (q:Nat→Bool) (c:List Bool):(mark n q c).length=n:=by simp [mark]
theorem Vr {n:Nat} (q:Nat→Bool) {c:List Bool} {i:Nat} (hi:i<n):(mark n q c)[i]?=some (q i || c.getD i false):=by
  unfold mark;rw [List.getElem?_map,List.getElem?_range hi];rfl
theorem RL {n:Nat} {c:List Bool} (hc:c.length=n):mark n (fun _=>false) c=c:=by
  refine List.ext_getElem? fun i=>?_
  by_cases hi:i<n
  · rw [Vr _ hi,Bool.false_or,List.getD_eq_getElem?_getD,List.getElem?_eq_getElem (by omega)];rfl
  · rw [List.getElem?_eq_none (by rw [xD];omega),List.getElem?_eq_none (by omega)]
theorem RJ {n:Nat} {q:Nat→Bool} {c:List Bool} {k:Nat}:mark n (fun i=>decide (i<k+1)&&q i) c=if q k then (mark n (fun i=>decide (i<k)&&q i) c).set k true else mark n (fun i=>decide (i<k)&&q i) c:=by
  refine List.ext_getElem? fun i=>?_
  by_cases hi:i<n
  · rw [Vr _ hi]
    split
    · rename_i hq
      rw [List.getElem?_set]
      by_cases e:k=i
      · subst e
        rw [if_pos rfl,if_pos (by rw [xD];exact hi)]
        simp [hq]
      · rw [if_neg e,Vr _ hi]
        have:decide (i<k+1)=decide (i<k):=by simp;omega
        rw [this]
    · rename_i hq
      rw [Vr _ hi]
      by_cases e:k=i
      · subst e
        have:q k=false:=by simpa using hq
        simp [this]
      · have:decide (i<k+1)=decide (i<k):=by simp;omega
        rw [this]
  · have h2:∀ l:List Bool,l.length=n→l[i]?=none:=fun l hl=>List.getElem?_eq_none (by omega)
    rw [h2 _ (xD _ _ _)]
    split
    · rw [h2 _ (by rw [List.length_set,xD])]
    · rw [h2 _ (xD _ _ _)]
theorem Rk {n:Nat} (body:Int×List Bool→Option (Int×List Bool ⊕ List Bool)) (q:Nat→Bool) {c:List Bool} (hc:c.length=n) (step:∀ (k:Nat) (c':List Bool),k<n→c'.length=n→body ((k:Int),c')=some (.inl (((k+1:Nat):Int),if q k then c'.set k true else c'))) (fin:∀ c':List Bool,c'.length=n→body ((n:Int),c')=some (.inr c')) :
    aK body (0,c)=some (mark n q c):=by
  have key:=Cf (List.range n) body (fun k=>((k:Int),mark n (fun i=>decide (i<k)&&q i) c)) (mark n q c) (fun k x hx=>?_) ?_
  · have e0:mark n (fun i=>decide (i<0)&&q i) c=c:=by
      rw [show (fun i=>decide (i<0)&&q i)=fun _=>false from funext fun i=>by simp]
      exact RL hc
    rw [e0] at key
    exact key
  · have hk:k<n:=by have:=bA hx;simpa using this
    rw [step k _ hk (xD _ _ _),RJ]
  · rw [List.length_range,fin _ (xD _ _ _)]
    congr 2
    unfold mark
    refine List.map_congr_left fun i hi=>?_
    have:=List.mem_range.1 hi
    simp [this]
theorem UH {s:RS} (h:SL1 s):vP (toC s)=some (toC s)∧tF s=some s:=by
  have h1:=h.c;have h2:=h.d;have h3:=h.j;have h4:=h.f;have h5:=h.h
  have ap:∀ {α:Type} {l:List α},l.length≤1048576→app [] l=some l:=fun {α l} hl=>by rw [pY (by unfold LIM;simp;omega)];rfl
  constructor
  · have key:aK (mV (toC s)) (0,[])=some s.Holes:=by
      have:=Mc s.Holes (fun t=>t) (mV (toC s)) h5 (fun k t acc ht=>?_) (fun acc=>?_)
      · rw [this,List.map_id']
      · have hk:=bA ht
        have ht':(toC s).Holes[k]?=some t:=ht
        unfold mV
        have hd:decide ((k:Int)<((toC s).Holes.length:Int))=true:=by show decide ((k:Int)<(s.Holes.length:Int))=true;simp [hk]
        have e:∀ f:List Bool→Option (Int×List (List Bool) ⊕ List (List Bool)),(app [] t).bind f=f t:=fun f=>by rw [ap (h.hh t (List.mem_of_getElem? ht))];rfl
        simp only [hd,if_true,aP ht',Option.bind_some,aZ k (by omega)]
        exact e _
      · unfold mV
        have:¬ (s.Holes.length:Int)<((toC s).Holes.length:Int):=by show ¬ (s.Holes.length:Int)<(s.Holes.length:Int);omega
        simp [this]
    show (app [] s.Cut).bind (fun r9=>(app [] s.Done).bind fun r10=>(app [] s.Joints).bind fun r11=>(app [] s.Fallen).bind fun r12=>(aK (mV (toC s)) (0,[])).bind fun x114=>some (cut_State.mk r9 x114 r10 r11 r12))=_
    rw [ap h1,ap h2,ap h3,ap h4]
    simp only [Option.bind_some,key]
    rfl
  · have key:aK (kQ s) (0,[])=some s.Holes:=by
      have:=Mc s.Holes (fun t=>t) (kQ s) h5 (fun k t acc ht=>?_) (fun acc=>?_)
      · rw [this,List.map_id']
      · have hk:=bA ht
        unfold kQ
        have hd:decide ((k:Int)<(s.Holes.length:Int))=true:=by simp [hk]
        simp only [hd,if_true,aP ht,Option.bind_some,ap (h.hh t (List.mem_of_getElem? ht)),aZ k (by omega)]
      · simp [kQ]
    unfold tF
    rw [ap h1,ap h2,ap h3,ap h4]
    simp only [Option.bind_some,key]
def JM (es:List EdgeT) (c D:List Bool) (J:List Int) (i:Nat):Bool:=Qa es c (i:Int)&&!(D.getD i false&&decide (J.getD i 0>0))
def fell (n:Nat) (es:List EdgeT) (c:List Bool) (D:List Bool) (J:List Int) (F:List Bool):List Bool:=mark n (JM es c D J) F
def D9 (n:Nat) (es:List EdgeT) (s:RS) (p h:Nat) (t:List Bool):RS:=⟨s.Cut,s.Holes.set p (t.set h true),s.Done,s.Joints,fell n es s.Cut s.Done s.Joints s.Fallen⟩
def DK (es:List EdgeT) (p:Int) (i:Nat):Bool:=match es[i]? with
  | some e=>ofB e p
  | none=>false
def F3 (n:Nat) (es:List EdgeT) (s:RS) (p:Nat) (j:Int):RS:=
  ⟨mark es.length (DK es (p:Int)) s.Cut,s.Holes,s.Done.set p true,s.Joints.set p j,fell n es (mark es.length (DK es (p:Int)) s.Cut) (s.Done.set p true) (s.Joints.set p j) s.Fallen⟩
section
variable {l:LayoutT} (n8:l.Pieces.length≤8) {es:List EdgeT} (hes:es.length≤1000000)
include n8 hes
theorem EM {c:List Bool} (hc:c.length=es.length) (H:List (List Bool)) {D:List Bool} (hD:D.length=l.Pieces.length) {J:List Int} (hJ:J.length=l.Pieces.length) {F:List Bool} (hF:F.length=l.Pieces.length) :
    aK (Bt l es (c,H,D,J)) (0,F)=some (fell l.Pieces.length es c D J F)∧aK (kT es (c,H,D,J)) (0,F)=some (fell l.Pieces.length es c D J F):=by
  have core:∀ k,k<l.Pieces.length→∃ d j,D[k]?=some d∧J[k]?=some j∧D.getD k false=d∧J.getD k 0=j:=fun k hk=>by
    have e1:D[k]?=some (D[k]'(by omega)):=List.getElem?_eq_getElem (by omega)
    have e2:J[k]?=some (J[k]'(by omega)):=List.getElem?_eq_getElem (by omega)
    exact ⟨_,_,e1,e2,Dn e1,Dn e2⟩
  constructor
  · refine Rk (Bt l es (c,H,D,J)) (JM es c D J) hF (fun k c' hk hc'=>?_) (fun c' _=>by simp [Bt])
    obtain ⟨d,j,e1,e2,e3,e4⟩:=core k hk
    have e5:c'[k]?=some (c'[k]'(by omega)):=List.getElem?_eq_getElem (by omega)
    unfold Bt JM
    have hd:decide ((k:Int)<(l.Pieces.length:Int))=true:=by simp [hk]
    simp only [hd,if_true,free_eq hes hc,Option.bind_some,aP e1,aP e2,e3,e4,aP e5,Qv,aZ k (by omega),Int.toNat_natCast]
    cases Qa es c (k:Int) <;> cases d <;> cases decide (j>0) <;> rfl
  · refine Rk (kT es (c,H,D,J)) (JM es c D J) hF (fun k c' hk hc'=>?_) (fun c' hc'=>by simp [kT,hc'])
    obtain ⟨d,j,e1,e2,e3,e4⟩:=core k hk
    have e5:c'[k]?=some (c'[k]'(by omega)):=List.getElem?_eq_getElem (by omega)
    unfold kT JM
    have hd:decide ((k:Int)<(c'.length:Int))=true:=by simp;omega
    simp only [hd,if_true,KC hes hc,Option.bind_some,aP e1,aP e2,e3,e4,aP e5,oG,aZ k (by omega),Int.toNat_natCast]
    cases Qa es c (k:Int) <;> cases d <;> cases decide (j>0) <;> rfl
omit n8 in
theorem UJ {c:List Bool} (hc:c.length=es.length) (x:ItemT) {p:Nat} (hp:x.Piece=p):aK (Fz es x) (0,c)=some (mark es.length (DK es (p:Int)) c)∧aK (kU es x) (0,c)=some (mark es.length (DK es (p:Int)) c):=by
  constructor
  · refine Rk (Fz es x) (DK es (p:Int)) hc (fun k c' hk hc'=>?_) (fun c' _=>by simp [Fz])
    have e1:es[k]?=some es[k]:=List.getElem?_eq_getElem hk
    have e5:c'[k]?=some (c'[k]'(by omega)):=List.getElem?_eq_getElem (by omega)
    unfold Fz DK
    have hd:decide ((k:Int)<(es.length:Int))=true:=by simp [hk]
    simp only [hd,if_true,aP e1,e1,Option.bind_some,WI,hp,aP e5,Qw,aZ k (by omega),Int.toNat_natCast]
    cases ofB es[k] (p:Int) <;> rfl
  · refine Rk (kU es x) (DK es (p:Int)) hc (fun k c' hk hc'=>?_) (fun c' _=>by simp [kU])
    have e1:es[k]?=some es[k]:=List.getElem?_eq_getElem hk
    have e5:c'[k]?=some (c'[k]'(by omega)):=List.getElem?_eq_getElem (by omega)
    unfold kU DK ofB
    have hd:decide ((k:Int)<(es.length:Int))=true:=by simp [hk]
    simp only [hd,if_true,aP e1,e1,Option.bind_some,hp,aP e5,oH,aZ k (by omega),Int.toNat_natCast]
    cases (es[k].A==(p:Int)) <;> cases (es[k].B==(p:Int)) <;> rfl
end
inductive Does (l:LayoutT) (es:List EdgeT) (s:RS) (x:ItemT):RS→Prop
  | hole {p h:Nat} {y:Piece} {t:List Bool} (hp:x.Piece=p) (hh:x.Hole=h) (hj:x.Joints=0) (hy:l.Pieces[p]?=some y) (hf:s.Fallen[p]?=some false) (ht:s.Holes[p]?=some t) (hb:t[h]?=some false):Does l es s x (D9 l.Pieces.length es s p h t)
  | line {p:Nat} {y:Piece} {t:List Bool} (hp:x.Piece=p) (hh:x.Hole=-1) (hj:0≤x.Joints∧x.Joints≤4) (hy:l.Pieces[p]?=some y) (hf:s.Fallen[p]?=some false) (hd:s.Done[p]?=some false) (ht:s.Holes[p]?=some t) (ha:(t.all fun b=>b)=true) (hn:Qa es s.Cut (p:Int)=false):Does l es s x (F3 l.Pieces.length es s p x.Joints)
theorem YM {l:LayoutT} (hl:LV l) {es:List EdgeT} (hes:es.length≤1000000) {s:RS} (hs:SL1 s) (x:ItemT) :
    ∃ e,dZ l es s x=some e∧((e≠0∧Jn l es (toC s) x=some (toC noS,e))∨(e=0∧Fit l es.length s∧∃ s',Does l es s x s'∧Jn l es (toC s) x=some (toC s',0)∧gF es s x=some s')):=by
  obtain ⟨b,f1,f2,f3⟩:=QU hl.n es.length hs
  obtain ⟨k1,k2⟩:=UH hs
  unfold dZ Jn
  rw [f1,f2]
  simp only [Option.bind_some]
  cases b with
  | false=>exact ⟨1,rfl,.inl ⟨by decide,rfl⟩⟩
  | true =>
  have fit:=f3.1 rfl
  simp only [if_true]
  by_cases a1:x.Piece<0
  · exact ⟨1,by simp [a1],.inl ⟨by decide,by simp [a1];rfl⟩⟩
  by_cases a2:x.Piece ≥ (l.Pieces.length:Int)
  · exact ⟨1,by simp [a1,a2],.inl ⟨by decide,by simp [a1,a2];rfl⟩⟩
  obtain ⟨p,hp⟩:∃ p:Nat,x.Piece=p:=⟨x.Piece.toNat,by omega⟩
  have hpl:p<l.Pieces.length:=by omega
  have hy:l.Pieces[p]?=some l.Pieces[p]:=List.getElem?_eq_getElem hpl
  generalize l.Pieces[p]=y at hy
  have b1:¬ ((p:Nat):Int)<0:=by omega
  have b2:¬ ((p:Nat):Int) ≥ (l.Pieces.length:Int):=by omega
  simp only [hp,b1,b2,decide_false,Bool.false_eq_true,if_false,Option.bind_some,aP hy]
  by_cases a3:x.Hole < -1
  · exact ⟨1,by simp [a3],.inl ⟨by decide,by simp [a3];rfl⟩⟩
  by_cases a4:x.Hole ≥ (y.Cuts.length:Int)
  · exact ⟨1,by simp [a3,a4],.inl ⟨by decide,by simp [a3,a4];rfl⟩⟩
  by_cases a5:x.Joints<0
  · exact ⟨1,by simp [a3,a4,a5],.inl ⟨by decide,by simp [a3,a4,a5];rfl⟩⟩
  by_cases a6:x.Joints>4
  · exact ⟨1,by simp [a3,a4,a5,a6],.inl ⟨by decide,by simp [a3,a4,a5,a6];rfl⟩⟩
  have hf:s.Fallen[p]?=some (s.Fallen[p]'(by have:=fit.f;omega)):=List.getElem?_eq_getElem (by have:=fit.f;omega)
  have hh:s.Holes[p]?=some (s.Holes[p]'(by have:=fit.h;omega)):=List.getElem?_eq_getElem (by have:=fit.h;omega)
  have hd:s.Done[p]?=some (s.Done[p]'(by have:=fit.d;omega)):=List.getElem?_eq_getElem (by have:=fit.d;omega)
  have hjn:s.Joints[p]?=some (s.Joints[p]'(by have:=fit.j;omega)):=List.getElem?_eq_getElem (by have:=fit.j;omega)
  generalize s.Fallen[p]'(by have:=fit.f;omega)=fl at hf
  generalize s.Holes[p]'(by have:=fit.h;omega)=t at hh
  generalize s.Done[p]'(by have:=fit.d;omega)=dn at hd
  generalize s.Joints[p]'(by have:=fit.j;omega)=jt at hjn
  have htl:=fit.hh p t y hh hy
  have htm:=hs.hh t (List.mem_of_getElem? hh)
  have hf':(toC s).Fallen[p]?=some fl:=hf
  have hh':(toC s).Holes[p]?=some t:=hh
  have hd':(toC s).Done[p]?=some dn:=hd
  have hjn':(toC s).Joints[p]?=some jt:=hjn
  by_cases a7:x.Hole ≥ 0
  · -- a hole
    by_cases a8:x.Joints=0
    case neg =>
      have:(x.Joints != 0)=true:=by simp [a8]
      exact ⟨1,by simp [a3,a4,a5,a6,a7,this],.inl ⟨by decide,by simp [a3,a4,a5,a6,a7,this];rfl⟩⟩
    obtain ⟨h,hh0⟩:∃ h:Nat,x.Hole=h:=⟨x.Hole.toNat,by omega⟩
    have hhl:h<t.length:=by omega
    have hb:t[h]?=some t[h]:=List.getElem?_eq_getElem hhl
    have hc:y.Cuts[h]?=some (y.Cuts[h]'(by omega)):=List.getElem?_eq_getElem (by omega)
    generalize t[h]=bh at hb
    generalize y.Cuts[h]'(by omega)=cr at hc
    have n7:¬ x.Hole<0:=by omega
    have j0:(x.Joints != 0)=false:=by simp [a8]
    have b3:¬ ((h:Nat):Int) < -1:=by omega
    have b4:¬ ((h:Nat):Int) ≥ (y.Cuts.length:Int):=by omega
    have b7:((h:Nat):Int) ≥ 0:=by omega
    have bn7:¬ ((h:Nat):Int)<0:=by omega
    unfold yO wR
    simp only [b3,b4,a5,a6,b7,bn7,j0,hp,decide_true,decide_false,Bool.false_eq_true,if_false,if_true,Option.bind_some,aP hf,aP hf',aP hh,aP hh',hh0,aP hb,aP hc,aP hy]
    cases fl with
    | true=>exact ⟨12,rfl,.inl ⟨by decide,rfl⟩⟩
    | false =>
    cases bh with
    | true=>exact ⟨12,rfl,.inl ⟨by decide,rfl⟩⟩
    | false =>
    simp only [Bool.false_eq_true,if_false,Option.bind_some,Bool.not_false,Bool.not_true]
    have fin:∀ r:Bool,∃ e,(if r=true then some (14:Int) else some 0)=some e∧((e≠0∧(if r=true then some (cut_State.mk [] [] [] [] [],(14:Int)) else (vP (toC s)).bind fun r34=>(idx r34.Holes (p:Int)).bind fun x214=>(idx x214 (h:Int)).bind fun x215=>Bq l es r34 (r34.Cut,(List.set r34.Holes (Int.toNat (p:Int)) (List.set x214 (Int.toNat (h:Int)) true)),r34.Done,r34.Joints))=some (toC noS,e))∨(e=0∧Fit l es.length s∧∃ s',Does l es s x s'∧(if r=true then some (cut_State.mk [] [] [] [] [],(14:Int)) else (vP (toC s)).bind fun r34=>(idx r34.Holes (p:Int)).bind fun x214=>(idx x214 (h:Int)).bind fun x215=>Bq l es r34 (r34.Cut,(List.set r34.Holes (Int.toNat (p:Int)) (List.set x214 (Int.toNat (h:Int)) true)),r34.Done,r34.Joints))=some (toC s',0)∧gF es s x=some s')):=fun r=>by
      cases r with
      | true=>exact ⟨14,rfl,.inl ⟨by decide,rfl⟩⟩
      | false =>
        obtain ⟨l1,l2⟩:=EM (l:=l) hl.n hes fit.c (s.Holes.set p (t.set h true)) fit.d fit.j fit.f
        refine ⟨0,rfl,.inr ⟨rfl,fit,D9 l.Pieces.length es s p h t,.hole hp hh0 a8 hy hf hh hb, ?_, ?_⟩⟩
        · simp only [Bool.false_eq_true,if_false,k1,Option.bind_some,aP hh',aP hb,Int.toNat_natCast]
          unfold Bq
          show (aK (Bt l es (s.Cut,s.Holes.set p (t.set h true),s.Done,s.Joints)) (0,s.Fallen)).bind _=_
          rw [l1];rfl
        · unfold gF
          rw [k2]
          have d7:decide (x.Hole ≥ 0)=true:=by simp [a7]
          simp only [Option.bind_some,d7,if_true,hp,hh0,aP hh,aP hb,Int.toNat_natCast]
          unfold kS
          rw [l2];rfl
    have conv1:∀ (A B C D':Prop) [Decidable A] [Decidable B] [Decidable C] [Decidable D'],(if decide A then some true else if decide B then some true else if decide C then some true else some (decide D'))=some (decide A || decide B || decide C || decide D'):=fun A B C D' _ _ _ _=>by
      by_cases h1:A <;> by_cases h2:B <;> by_cases h3:C <;> simp [h1,h2,h3]
    rw [conv1]
    have conv2:(if decide (x.Lead.X>cr.X)=true then (if decide (x.Lead.X<aM cr.X cr.W)=true then (if decide (x.Lead.Y>cr.Y)=true then some (decide (x.Lead.Y<aM cr.Y cr.H)) else some false) else some false) else some false)=some (!(decide (x.Lead.X≤cr.X) || decide (x.Lead.X ≥ aM cr.X cr.W) || decide (x.Lead.Y≤cr.Y) || decide (x.Lead.Y ≥ aM cr.Y cr.H))):=by
      by_cases h1:x.Lead.X≤cr.X
      · have:¬ x.Lead.X>cr.X:=by omega
        simp [h1,this]
      · have n1:x.Lead.X>cr.X:=by omega
        by_cases h2:x.Lead.X ≥ aM cr.X cr.W
        · have:¬ x.Lead.X<aM cr.X cr.W:=by omega
          simp [h1,n1,h2,this]
        · have n2:x.Lead.X<aM cr.X cr.W:=by omega
          by_cases h3:x.Lead.Y≤cr.Y
          · have:¬ x.Lead.Y>cr.Y:=by omega
            simp [h1,n1,h2,n2,h3,this]
          · have n3:x.Lead.Y>cr.Y:=by omega
            by_cases h4:x.Lead.Y ≥ aM cr.Y cr.H
            · have:¬ x.Lead.Y<aM cr.Y cr.H:=by omega
              simp [h1,n1,h2,n2,h3,n3,h4,this]
            · have n4:x.Lead.Y<aM cr.Y cr.H:=by omega
              simp [h1,n1,h2,n2,h3,n3,h4,n4]
    rw [conv2]
    simp only [Option.bind_some,Bool.not_not]
    exact fin _
  · -- an outline
    have hm1:x.Hole=-1:=by omega
    have n7:x.Hole<0:=by omega
    obtain ⟨sb,s1,s2⟩:∃ b,Kz y=some b∧mU y=some b:=⟨_,TH y (by have:=hl.r12 y (List.mem_of_getElem? hy);omega),RY y (by have:=hl.r12 y (List.mem_of_getElem? hy);omega)⟩
    obtain ⟨lb,l1,l2,_⟩:=RH hl hes fit.c x n7
    have fr1:=free_eq hes fit.c (p:Int) s.Holes s.Done s.Joints s.Fallen
    have fr2:=KC hes fit.c (p:Int) s.Holes s.Done s.Joints s.Fallen
    have fr1':uN (toC s) es (p:Int)=some (Qa es s.Cut (p:Int)):=fr1
    have fr2':jQ es s (p:Int)=some (Qa es s.Cut (p:Int)):=fr2
    rw [hp] at l2
    unfold yO
    simp only [a3,a4,a5,a6,a7,n7,hp,decide_true,decide_false,Bool.false_eq_true,if_false,if_true,Option.bind_some,aP hf,aP hf',aP hh,aP hh',aP hd,aP hd',Gp t htm,LP t htm,fr1',fr2',s1,s2,l1,l2]
    cases fl with
    | true=>exact ⟨12,rfl,.inl ⟨by decide,rfl⟩⟩
    | false =>
    cases dn with
    | true=>exact ⟨12,rfl,.inl ⟨by decide,rfl⟩⟩
    | false =>
    cases ha:(t.all fun b=>b) with
    | false=>exact ⟨12,rfl,.inl ⟨by decide,rfl⟩⟩
    | true =>
    cases hfr:Qa es s.Cut (p:Int) with
    | true=>exact ⟨12,rfl,.inl ⟨by decide,rfl⟩⟩
    | false =>
    simp only [Bool.false_eq_true,if_false,Option.bind_some,Bool.not_false,Bool.not_true,if_true]
    have hsm:∀ b:Bool,(if (x.Joints==0)=true then some sb else some false)=some b→(b=true→∃ e,(some (15:Int))=some e∧e≠0):=fun b _ _=>⟨15,rfl,by decide⟩
    cases hz:(if (x.Joints==0)=true then some sb else some false:Option Bool) with
    | none=>cases hj0:(x.Joints==0) <;> simp [hj0] at hz
    | some bz =>
    simp only [Option.bind_some]
    cases bz with
    | true=>exact ⟨15,rfl,.inl ⟨by decide,rfl⟩⟩
    | false =>
    simp only [Bool.false_eq_true,if_false]
    cases lb with
    | false=>exact ⟨14,rfl,.inl ⟨by decide,rfl⟩⟩
    | true =>
    simp only [Bool.not_true,Bool.false_eq_true,if_false,k1,Option.bind_some,aP hd',aP hjn',Int.toNat_natCast]
    obtain ⟨c1,c2⟩:=UJ hes fit.c x hp
    have hml:(mark es.length (DK es (p:Int)) s.Cut).length=es.length:=xD _ _ _
    obtain ⟨g1,g2⟩:=EM (l:=l) hl.n hes hml s.Holes (D:=s.Done.set p true) (by rw [List.length_set];exact fit.d) (J:=s.Joints.set p x.Joints) (by rw [List.length_set];exact fit.j) fit.f
    refine ⟨0,rfl,.inr ⟨rfl,fit,F3 l.Pieces.length es s p x.Joints,.line hp hm1 (by omega) hy hf hd hh ha hfr, ?_, ?_⟩⟩
    · show (aK (Fz es x) (0,s.Cut)).bind _=_
      rw [c1]
      simp only [Option.bind_some]
      unfold Bq
      show (aK (Bt l es (mark es.length (DK es (p:Int)) s.Cut,s.Holes,s.Done.set p true,s.Joints.set p x.Joints)) (0,s.Fallen)).bind _=_
      rw [g1];rfl
    · unfold gF
      rw [k2]
      have d7:decide (x.Hole ≥ 0)=false:=by simp;omega
      simp only [Option.bind_some,d7,Bool.false_eq_true,if_false,hp,aP hd,aP hjn,c2,Int.toNat_natCast]
      unfold kS
      rw [g2];rfl
end Go.SM
namespace Go.SM
open Go Go.VI Go.Cells
def st0 (l:LayoutT) (n:Nat):RS:=⟨List.replicate n false,l.Pieces.map fun x=>List.replicate x.Cuts.length false,List.replicate l.Pieces.length false,List.replicate l.Pieces.length 0,List.replicate l.Pieces.length false⟩
theorem Ya {α:Type} (n:Nat) (z:α) (h:n≤1048576):mk (n:Int) z=some (List.replicate n z):=by
  unfold mk
  rw [if_pos ⟨by omega,by simp [LIM];omega⟩,Int.toNat_natCast]
section
variable {l:LayoutT} (n8:l.Pieces.length≤8) (hc:∀ x ∈ l.Pieces,x.Cuts.length≤1048576)
include n8 hc
theorem XR (n:Nat) (hn:n≤200000):Bv l (n:Int)=some (toC (st0 l n)):=by
  have key:aK (Ag l) (0,[])=some (l.Pieces.map fun x=>List.replicate x.Cuts.length false):=by
    refine Mc l.Pieces (fun x=>List.replicate x.Cuts.length false) (Ag l) (by omega) (fun k x acc hx=>?_) (fun acc=>by simp [Ag])
    have hk:=bA hx
    unfold Ag
    have hd:decide ((k:Int)<(l.Pieces.length:Int))=true:=by simp [hk]
    simp only [hd,if_true,aP hx,Option.bind_some,Ya _ false (hc x (List.mem_of_getElem? hx)),aZ k (by omega)]
  unfold Bv
  rw [Ya n false (by omega),Ya _ false (show l.Pieces.length≤1048576 by omega),Ya _ (0:Int) (show l.Pieces.length≤1048576 by omega)]
  simp only [Option.bind_some,key]
  rfl
theorem SB {es:List EdgeT} (he:dY l=some es) (hn:es.length≤200000):jR l=some (st0 l es.length):=by
  have key:aK (jY l) (0,[])=some (l.Pieces.map fun x=>List.replicate x.Cuts.length false):=by
    refine Mc l.Pieces (fun x=>List.replicate x.Cuts.length false) (jY l) (by omega) (fun k x acc hx=>?_) (fun acc=>by simp [jY])
    have hk:=bA hx
    unfold jY
    have hd:decide ((k:Int)<(l.Pieces.length:Int))=true:=by simp [hk]
    simp only [hd,if_true,aP hx,Option.bind_some,Ya _ false (hc x (List.mem_of_getElem? hx)),aZ k (by omega)]
  unfold jR
  rw [he]
  simp only [Option.bind_some]
  rw [Ya es.length false (by omega),Ya _ false (show l.Pieces.length≤1048576 by omega),Ya _ (0:Int) (show l.Pieces.length≤1048576 by omega)]
  simp only [Option.bind_some,key]
  rfl
omit n8 hc in
theorem ZW (n:Nat):Fit l n (st0 l n):=by
  refine ⟨by simp [st0],by simp [st0],by simp [st0],by simp [st0],by simp [st0],fun k t x h1 h2=>?_⟩
  have:(st0 l n).Holes[k]?=some (List.replicate x.Cuts.length false):=by
    show (l.Pieces.map fun x=>List.replicate x.Cuts.length false)[k]?=_
    rw [List.getElem?_map,h2];rfl
  rw [this] at h1
  injection h1 with h1
  rw [← h1,List.length_replicate]
end
theorem Az (a:List Bool) (h:a.length≤1048576):eG a a=some true:=by
  unfold eG
  simp only [bne_self_eq_false,Bool.false_eq_true,if_false]
  rw [Ea a (kE a a) (fun _=>true) (.inl ()) (.inr ()) (fun k x hx=>?s) ?f]
  · simp
  case s =>
    have h1:=bA hx
    unfold kE
    simp [h1,aP hx,aZ k (show (k:Int)<9223372036854775807 by omega)]
  case f=>simp [kE]
theorem DW (a:List Int) (h:a.length≤1048576):gX a a=some true:=by
  unfold gX
  simp only [bne_self_eq_false,Bool.false_eq_true,if_false]
  rw [Ea a (kZ a a) (fun _=>true) (.inl ()) (.inr ()) (fun k x hx=>?s) ?f]
  · simp
  case s =>
    have h1:=bA hx
    unfold kZ
    simp [h1,aP hx,aZ k (show (k:Int)<9223372036854775807 by omega)]
  case f=>simp [kZ]
theorem SF {s:RS} (h:SL1 s):sW (toC s) s=some true:=by
  have h1:=h.c;have h2:=h.d;have h3:=h.j;have h4:=h.f;have h5:=h.h
  have key:aK (kR s s) 0=some (.inr ()):=by
    have:=Ea s.Holes (kR s s) (fun _=>true) (.inl ()) (.inr ()) (fun k x hx=>?_) ?_
    · rw [this];simp
    · have h1:=bA hx
      unfold kR
      simp [h1,aP hx,Az x (h.hh x (List.mem_of_getElem? hx)),aZ k (show (k:Int)<9223372036854775807 by omega)]
    · simp [kR]
  show (tH s s).bind _=_
  unfold tH
  simp [Az _ h1,Az _ h2,Az _ h4,DW _ h3,key]
theorem MS:SL1 noS:=⟨by simp [noS],by simp [noS],fun t ht=>by simp [noS] at ht,by simp [noS],by simp [noS],by simp [noS]⟩
theorem AR {l:LayoutT} {es:List EdgeT} {s s':RS} {x:ItemT} (hd:Does l es s x s') (hf:Fit l es.length s):Fit l es.length s':=by
  cases hd with
  | @hole p h y t hp hh hj hy hfl ht hb =>
    refine ⟨hf.c,by show (s.Holes.set p _).length=_;rw [List.length_set];exact hf.h,hf.d,hf.j,xD _ _ _,fun k u z h1 h2=>?_⟩
    have h1':(s.Holes.set p (t.set h true))[k]?=some u:=h1
    rw [List.getElem?_set] at h1'
    split at h1'
    · rename_i e
      subst e
      split at h1'
      · injection h1' with h1'
        rw [← h1',List.length_set]
        exact hf.hh p t z ht h2
      · cases h1'
    · exact hf.hh k u z h1' h2
  | @line p y t hp hh hj hy hfl hdn ht ha hn =>
    exact ⟨xD _ _ _,hf.h,by show (s.Done.set p true).length=_;rw [List.length_set];exact hf.d,by show (s.Joints.set p x.Joints).length=_;rw [List.length_set];exact hf.j,xD _ _ _,hf.hh⟩
theorem VC {l:LayoutT} (n8:l.Pieces.length≤8) (hc:∀ x ∈ l.Pieces,x.Cuts.length≤1048576) {n:Nat} (hn:n≤200000) {s:RS} (hf:Fit l n s):SL1 s:=by
  have h1:=hf.c;have h2:=hf.d;have h3:=hf.j;have h4:=hf.f;have h5:=hf.h
  refine ⟨by omega,by omega,fun t ht=>?_,by omega,by omega,by omega⟩
  obtain ⟨k,hk⟩:=List.mem_iff_getElem?.1 ht
  have hkl:=bA hk
  have hx:l.Pieces[k]?=some (l.Pieces[k]'(by omega)):=List.getElem?_eq_getElem (by omega)
  rw [hf.hh k t _ hk hx]
  exact hc _ (List.mem_of_getElem? hx)
theorem YK {l:LayoutT} (h:yV l):∀ x ∈ l.Pieces,x.Cuts.length≤1048576:=fun x hx=>by
  obtain ⟨_,_,_,_,_,r2,_⟩:=h.2.2 x hx
  exact r2.1
end Go.SM
namespace Go.SM
open Go Go.VI
theorem RA:uA=some true:=by kernel_rfl
end Go.SM
namespace Go.SM
open Go Go.VI Go.Cells
structure Step (l:LayoutT) (es:List EdgeT) (s:RS) (x:ItemT) (s':RS):Prop where
  d:Does l es s x s'
  c:Jn l es (toC s) x=some (toC s',0)
  r:dZ l es s x=some 0
  f:gF es s x=some s'
structure Stop1 (l:LayoutT) (es:List EdgeT) (s:RS) (x:ItemT) (e:Int):Prop where
  n:e≠0
  r:dZ l es s x=some e
  c:Jn l es (toC s) x=some (toC noS,e)
inductive Steps (l:LayoutT) (es:List EdgeT):RS→List ItemT→List RS→Prop
  | nil (s:RS):Steps l es s [] []
  | cons {s s':RS} {x:ItemT} {xs:List ItemT} {ss:List RS} (h:Step l es s x s') (t:Steps l es s' xs ss):Steps l es s (x::xs) (s'::ss)
def zX:RS→List RS→RS
  | s,[]=>s
  | _,s'::ss=>zX s' ss
def Xx {E:Type} (up:RS→RS→E→E):RS→List RS→E→E
  | _,[],e=>e
  | s,s'::ss,e=>Xx up s' ss (up s s' e)
theorem Steps.len {l:LayoutT} {es:List EdgeT} {s:RS} {xs:List ItemT} {ss:List RS} (h:Steps l es s xs ss):ss.length=xs.length:=by
  induction h with
  | nil=>rfl
  | cons _ _ ih=>simp [ih]
theorem ET:∀ (ss:List RS) (s:RS),ss≠[]→ss[ss.length-1]?=some (zX s ss)
  | [],_,h=>absurd rfl h
  | [a],_,_=>rfl
  | a::b::ss,s,_=>by
    have:=ET (b::ss) a (by simp)
    show (a::b::ss)[ss.length+1]?=_
    rw [List.getElem?_cons_succ]
    exact this
section
variable {l:LayoutT} (hl:LV l) (hc:∀ x ∈ l.Pieces,x.Cuts.length≤1048576) {es:List EdgeT} (hes:es.length≤200000)
include hl hc hes
theorem XU {s:RS} (hf:Fit l es.length s) (x:ItemT):(∃ e,Stop1 l es s x e)∨∃ s',Step l es s x s'∧Fit l es.length s':=by
  obtain ⟨e,r1,r2⟩:=YM hl (show es.length≤1000000 by omega) (VC hl.n hc hes hf) x
  rcases r2 with ⟨he,r2⟩ | ⟨he,_,s',hd,r2,r3⟩
  · exact .inl ⟨e,he,r1,r2⟩
  · subst he
    exact .inr ⟨s',⟨hd,r2,r1,r3⟩,AR hd hf⟩
theorem PP:∀ (xs:List ItemT) (s:RS),Fit l es.length s→(∃ ss,Steps l es s xs ss)∨∃ pre x post ss e,xs=pre++x::post∧Steps l es s pre ss∧Stop1 l es (zX s ss) x e
  | [],s,_=>.inl ⟨[],.nil s⟩
  | x::xs,s,hf=>by
    rcases XU hl hc hes hf x with ⟨e,h⟩ | ⟨s',h,hf'⟩
    · exact .inr ⟨[],x,xs,[],e,rfl,.nil s,h⟩
    · rcases PP xs s' hf' with ⟨ss,h2⟩ | ⟨pre,y,post,ss,e,rfl,h2,h3⟩
      · exact .inl ⟨_,.cons h h2⟩
      · exact .inr ⟨x::pre,y,post,s'::ss,e,rfl,.cons h h2,h3⟩
omit hl hc hes in
theorem TA {s:RS} {xs:List ItemT} {ss:List RS} (h:Steps l es s xs ss):Fit l es.length s→Fit l es.length (zX s ss)∧∀ t ∈ ss,Fit l es.length t:=by
  induction h with
  | nil s=>exact fun hf=>⟨hf,fun t ht=>by cases ht⟩
  | cons h _ ih =>
    intro hf
    have h1:=AR h.d hf
    obtain ⟨a,b⟩:=ih h1
    refine ⟨a,fun t ht=>?_⟩
    cases ht with
    | head=>exact h1
    | tail _ ht=>exact b t ht
end
section
variable {l:LayoutT} {es:List EdgeT} {items:List ItemT} {E S R:Type} (mk:Nat→RS→E→S) (body:S→Option (S ⊕ R)) (up:RS→RS→E→E) (I:Nat→RS→E→Prop)
variable (step:∀ k x s s' e,items[k]?=some x→Step l es s x s'→Fit l es.length s→I k s e→body (mk k s e)=some (.inl (mk (k+1) s' (up s s' e)))∧I (k+1) s' (up s s' e))
include step
theorem NK {xs:List ItemT} {s:RS} {ss:List RS} (h:Steps l es s xs ss):∀ (k:Nat) (e:E) (post:List ItemT),items.drop k=xs++post→Fit l es.length s→I k s e→aK body (mk k s e)=aK body (mk (k+xs.length) (zX s ss) (Xx up s ss e))∧I (k+xs.length) (zX s ss) (Xx up s ss e):=by
  induction h with
  | nil s=>exact fun k e post _ _ hI=>⟨rfl,hI⟩
  | @cons s s' x xs ss h _ ih =>
    intro k e post hd hf hI
    have hx:items[k]?=some x:=by
      have:(items.drop k)[0]?=some x:=by rw [hd];rfl
      rwa [List.getElem?_drop,Nat.add_zero] at this
    obtain ⟨h1,h2⟩:=step k x s s' e hx h hf hI
    have hd':items.drop (k+1)=xs++post:=by
      have:(items.drop k).drop 1=xs++post:=by rw [hd];rfl
      rwa [List.drop_drop] at this
    obtain ⟨g1,g2⟩:=ih (k+1) _ post hd' (AR h.d hf) h2
    have e1:k+(x::xs).length=k+1+xs.length:=by simp;omega
    rw [e1]
    refine ⟨?_,g2⟩
    rw [lK h1,g1];rfl
theorem XB (fin:RS→E→R) (hfin:∀ s e,body (mk items.length s e)=some (.inr (fin s e))) {s:RS} {ss:List RS} (h:Steps l es s items ss) (e:E) (hf:Fit l es.length s) (hI:I 0 s e):aK body (mk 0 s e)=some (fin (zX s ss) (Xx up s ss e)):=by
  obtain ⟨g,_⟩:=NK mk body up I step h 0 e [] (by simp) hf hI
  rw [g,Nat.zero_add]
  exact fF (hfin _ _)
theorem PQ (err:Nat→Int→RS→E→R) (herr:∀ k x s e c,items[k]?=some x→Stop1 l es s x c→I k s e→body (mk k s e)=some (.inr (err k c s e))) {s:RS} {pre post:List ItemT} {x:ItemT} {ss:List RS} {c:Int} (hi:items=pre++x::post) (h:Steps l es s pre ss) (hs:Stop1 l es (zX s ss) x c) (e:E) (hf:Fit l es.length s) (hI:I 0 s e):aK body (mk 0 s e)=some (err pre.length c (zX s ss) (Xx up s ss e)):=by
  obtain ⟨g,g2⟩:=NK mk body up I step h 0 e (x::post) (by simp [hi]) hf hI
  rw [Nat.zero_add] at g g2
  rw [g]
  refine fF (herr _ x _ _ _ ?_ hs g2)
  rw [hi,List.getElem?_append_right (Nat.le_refl _)];simp
end
end Go.SM
namespace Go.SM
open Go Go.VI Go.Cells
structure Ran (l:LayoutT) (items:List ItemT) (es:List EdgeT) (ss:List RS):Prop where
  v:LV l
  c:∀ x ∈ l.Pieces,x.Cuts.length≤1048576
  e1:wE l=some (es,0)
  e2:Gf l=some es
  e3:dY l=some es
  n:es.length≤200000
  g:∃ xs ys,Lay (regs l) xs ys∧es=FY (regs l) xs ys
  k:items.length≤128
  s:Steps l es (st0 l es.length) items ss
  a1:Bv l (es.length:Int)=some (toC (st0 l es.length))
  a2:jR l=some (st0 l es.length)
  vr:dH l=some 0
  t:gK l items=some (ss,0,0)
theorem EO:∀ (ss:List RS) (s:RS) (acc:List RS),Xx (fun _ s' a=>a++[s']) s ss acc=acc++ss
  | [],_,acc=>by simp [Xx]
  | s'::ss,_,acc=>by rw [Xx,EO ss];simp
section
variable {l:LayoutT} {es:List EdgeT} {items:List ItemT} (h128:items.length≤128)
include h128
theorem Xw (k:Nat) (x:ItemT) (s s':RS) (hx:items[k]?=some x) (h:Step l es s x s'):cK l items (es,0) ((k:Int),s.Holes,s.Cut,s.Done,s.Joints,s.Fallen)=some (.inl (((k+1:Nat):Int),s'.Holes,s'.Cut,s'.Done,s'.Joints,s'.Fallen)):=by
  have hk:=bA hx
  unfold cK
  have hd:decide ((k:Int)<(items.length:Int))=true:=by simp [hk]
  have hc:Jn l es ⟨s.Cut,s.Holes,s.Done,s.Joints,s.Fallen⟩ x=some (toC s',0):=h.c
  simp only [hd,if_true,aP hx,Option.bind_some,hc,bne_self_eq_false,Bool.false_eq_true,if_false,aZ k (show (k:Int)<9223372036854775807 by omega)]
  rfl
omit h128 in
theorem JE (k:Nat) (x:ItemT) (s:RS) (c:Int) (hx:items[k]?=some x) (h:Stop1 l es s x c):cK l items (es,0) ((k:Int),s.Holes,s.Cut,s.Done,s.Joints,s.Fallen)=some (.inr (.inl ((k:Int),c))):=by
  have hk:=bA hx
  unfold cK
  have hd:decide ((k:Int)<(items.length:Int))=true:=by simp [hk]
  have hc:Jn l es ⟨s.Cut,s.Holes,s.Done,s.Joints,s.Fallen⟩ x=some (toC noS,c):=h.c
  have hn:(c != 0)=true:=by rw [bne_iff_ne];exact h.n
  simp only [hd,if_true,aP hx,Option.bind_some,hc,hn]
theorem Yh (k:Nat) (x:ItemT) (s s':RS) (acc:List RS) (hacc:acc.length=k) (hx:items[k]?=some x) (h:Step l es s x s'):bI l items es ((k:Int),s.Cut,s.Holes,s.Done,s.Joints,s.Fallen,acc)=some (.inl (((k+1:Nat):Int),s'.Cut,s'.Holes,s'.Done,s'.Joints,s'.Fallen,acc++[s'])):=by
  have hk:=bA hx
  unfold bI
  have hd:decide ((k:Int)<(items.length:Int))=true:=by simp [hk]
  have hr:dZ l es ⟨s.Cut,s.Holes,s.Done,s.Joints,s.Fallen⟩ x=some 0:=h.r
  have hc:gF es ⟨s.Cut,s.Holes,s.Done,s.Joints,s.Fallen⟩ x=some s':=h.f
  have ha:app acc [s']=some (acc++[s']):=pY (by unfold LIM;simp;omega)
  simp only [hd,if_true,aP hx,Option.bind_some,hr,hc,bne_self_eq_false,Bool.false_eq_true,if_false,ha,aZ k (show (k:Int)<9223372036854775807 by omega)]
omit h128 in
theorem LB (k:Nat) (x:ItemT) (s:RS) (acc:List RS) (c:Int) (hx:items[k]?=some x) (h:Stop1 l es s x c):bI l items es ((k:Int),s.Cut,s.Holes,s.Done,s.Joints,s.Fallen,acc)=some (.inr (.inl ((k:Int),c))):=by
  have hk:=bA hx
  unfold bI
  have hd:decide ((k:Int)<(items.length:Int))=true:=by simp [hk]
  have hr:dZ l es ⟨s.Cut,s.Holes,s.Done,s.Joints,s.Fallen⟩ x=some c:=h.r
  have hn:(c != 0)=true:=by rw [bne_iff_ne];exact h.n
  simp only [hd,if_true,aP hx,Option.bind_some,hr,hn]
end
theorem IM (l:LayoutT) (h:yV l) (items:List ItemT):∃ s k e,Ux l items=some (toC s,k,e,s.Holes)∧oQ l items=some (s,k,e,s.Cut,s.Holes,s.Done,s.Joints,s.Fallen)∧SL1 s ∧
    ((e≠0∧s=noS∧((k=0∧((∃ es,wE l=some (es,e))∨∃ es,wE l=some (es,0)∧es.length≤200000∧¬ items.length≤128∧e=4)) ∨
      ∃ es pre x post ss,items.length≤128∧LV l∧wE l=some (es,0)∧es.length≤200000∧Bv l (es.length:Int)=some (toC (st0 l es.length))∧items=pre++x::post∧k=(pre.length:Int)∧Steps l es (st0 l es.length) pre ss∧Stop1 l es (zX (st0 l es.length) ss) x e)) ∨
     (e=0∧k=0∧∃ es ss,Ran l items es ss∧s=zX (st0 l es.length) ss)):=by
  obtain ⟨es,b,v1,v2,e1,e2,e3,e4,e5⟩:=LK l h
  have hc:=YK h
  unfold Ux yY oQ
  rw [e1,v2]
  simp only [Option.bind_some]
  by_cases hb:b=0
  case neg =>
    have hb':(b != 0)=true:=by rw [bne_iff_ne];exact hb
    simp only [hb',if_true,Option.bind_some]
    exact ⟨noS,0,b,rfl,rfl,MS,.inl ⟨hb,rfl,.inl ⟨rfl,.inl ⟨es,rfl⟩⟩⟩⟩
  subst hb
  obtain ⟨hl,g1,g2,g3⟩:=e5 rfl
  simp only [bne_self_eq_false,Bool.false_eq_true,if_false]
  by_cases h128:items.length≤128
  case neg =>
    have:decide ((items.length:Int)>128)=true:=by simp;omega
    simp only [this,if_true,Option.bind_some]
    exact ⟨noS,0,4,rfl,rfl,MS,.inl ⟨by decide,rfl,.inl ⟨rfl,.inr ⟨es,rfl,e3,h128,rfl⟩⟩⟩⟩
  have hd:decide ((items.length:Int)>128)=false:=by simp;omega
  have a1:=XR hl.n hc es.length e3
  have a2:=SB hl.n hc g2 e3
  have hf0:=ZW (l:=l) es.length
  simp only [hd,Bool.false_eq_true,if_false,a1,Option.bind_some]
  have S1:=fun s ss=>XB (l:=l) (es:=es) (items:=items) (fun k (s:RS) (_:Unit)=>((k:Int),s.Holes,s.Cut,s.Done,s.Joints,s.Fallen)) (cK l items (es,0)) (fun _ _ e=>e) (fun _ _ _=>True)
    (fun k x s s' _ hx hs _ _=>⟨Xw h128 k x s s' hx hs,trivial⟩) (fun s _=>.inr (s.Holes,s.Cut,s.Done,s.Joints,s.Fallen)) (fun s _=>by simp [cK]) (s:=s) (ss:=ss)
  have S2:=fun pre x post s ss c=>PQ (l:=l) (es:=es) (items:=items) (fun k (s:RS) (_:Unit)=>((k:Int),s.Holes,s.Cut,s.Done,s.Joints,s.Fallen)) (cK l items (es,0)) (fun _ _ e=>e) (fun _ _ _=>True)
    (fun k x s s' _ hx hs _ _=>⟨Xw h128 k x s s' hx hs,trivial⟩) (fun k c _ _=>.inl ((k:Int),c)) (fun k x s _ c hx hs _=>JE k x s c hx hs) (pre:=pre) (post:=post) (x:=x) (s:=s) (ss:=ss) (c:=c)
  have S3:=fun s ss=>XB (l:=l) (es:=es) (items:=items) (fun k (s:RS) (acc:List RS)=>((k:Int),s.Cut,s.Holes,s.Done,s.Joints,s.Fallen,acc)) (bI l items es) (fun _ s' a=>a++[s']) (fun k _ a=>a.length=k)
    (fun k x s s' acc hx hs _ hI=>⟨Yh h128 k x s s' acc hI hx hs,by simp [hI]⟩) (fun _ acc=>.inr acc) (fun s acc=>by simp [bI]) (s:=s) (ss:=ss)
  have S4:=fun pre x post s ss c=>PQ (l:=l) (es:=es) (items:=items) (fun k (s:RS) (acc:List RS)=>((k:Int),s.Cut,s.Holes,s.Done,s.Joints,s.Fallen,acc)) (bI l items es) (fun _ s' a=>a++[s']) (fun k _ a=>a.length=k)
    (fun k x s s' acc hx hs _ hI=>⟨Yh h128 k x s s' acc hI hx hs,by simp [hI]⟩) (fun k c _ _=>.inl ((k:Int),c)) (fun k x s acc c hx hs _=>LB k x s acc c hx hs) (pre:=pre) (post:=post) (x:=x) (s:=s) (ss:=ss) (c:=c)
  rcases PP hl hc e3 items (st0 l es.length) hf0 with ⟨ss,hs⟩ | ⟨pre,x,post,ss,e,hi,hs,hx⟩
  · -- all run
    have q1:=S1 _ _ hs () hf0 trivial
    have q3:=S3 _ _ hs [] hf0 rfl
    rw [EO,List.nil_append] at q3
    have hst:gK l items=some (ss,0,0):=by
      unfold gK
      rw [g2,a2]
      show (aK (bI l items es) (0,(st0 l es.length).Cut,(st0 l es.length).Holes,(st0 l es.length).Done,(st0 l es.length).Joints,(st0 l es.length).Fallen,[])).bind _=_
      have q3':aK (bI l items es) (0,(st0 l es.length).Cut,(st0 l es.length).Holes,(st0 l es.length).Done,(st0 l es.length).Joints,(st0 l es.length).Fallen,[])=some (.inr ss):=q3
      rw [q3'];rfl
    have hran:Ran l items es ss:=⟨hl,hc,e1,g1,g2,e3,g3,h128,hs,a1,a2,v2,hst⟩
    have hfit:=(TA hs hf0).1
    refine ⟨zX (st0 l es.length) ss,0,0, ?_, ?_,VC hl.n hc e3 hfit,.inr ⟨rfl,rfl,es,ss,hran,rfl⟩⟩
    · have q1':aK (cK l items (es,0)) (0,(toC (st0 l es.length)).Holes,(toC (st0 l es.length)).Cut,(toC (st0 l es.length)).Done,(toC (st0 l es.length)).Joints,(toC (st0 l es.length)).Fallen)=some (.inr ((zX (st0 l es.length) ss).Holes,(zX (st0 l es.length) ss).Cut,(zX (st0 l es.length) ss).Done,(zX (st0 l es.length) ss).Joints,(zX (st0 l es.length) ss).Fallen)):=q1
      rw [q1'];rfl
    · by_cases h0:items=[]
      · subst h0
        cases hs
        simp only [List.length_nil,Int.natCast_zero,beq_self_eq_true,if_true,a2,Option.bind_some]
        rfl
      · have hz:((items.length:Int)==0)=false:=by
          rw [beq_eq_false_iff_ne]
          have:=List.length_pos_iff.2 h0
          omega
        have hss:ss≠[]:=by
          have h1:=hs.len
          have h2:=List.length_pos_iff.2 h0
          intro e
          rw [e,List.length_nil] at h1
          omega
        have hpos:=List.length_pos_iff.2 hss
        have hlen:=hs.len
        simp only [hz,Bool.false_eq_true,if_false,hst,Option.bind_some,bne_self_eq_false]
        have hsub:aJ (ss.length:Int) 1=((ss.length-1:Nat):Int):=by
          rw [aY (a:=(ss.length:Int)) (b:=1) (by omega) (by omega)];omega
        rw [hsub,aP (ET ss (st0 l es.length) hss)]
        rfl
  · -- refused
    have q2:=S2 pre x post _ _ _ hi hs hx () hf0 trivial
    have q4:=S4 pre x post _ _ _ hi hs hx [] hf0 rfl
    refine ⟨noS,pre.length,e, ?_, ?_,MS,.inl ⟨hx.n,rfl,.inr ⟨es,pre,x,post,ss,h128,hl,rfl,e3,a1,hi,rfl,hs,hx⟩⟩⟩
    · have q2':aK (cK l items (es,0)) (0,(toC (st0 l es.length)).Holes,(toC (st0 l es.length)).Cut,(toC (st0 l es.length)).Done,(toC (st0 l es.length)).Joints,(toC (st0 l es.length)).Fallen)=some (.inl ((pre.length:Int),e)):=q2
      rw [q2'];rfl
    · have hz:((items.length:Int)==0)=false:=by
        rw [beq_eq_false_iff_ne,hi];simp;omega
      have hn:(e != 0)=true:=by rw [bne_iff_ne];exact hx.n
      have hst:gK l items=some ([],(pre.length:Int),e):=by
        unfold gK
        rw [g2,a2]
        have q4':aK (bI l items es) (0,(st0 l es.length).Cut,(st0 l es.length).Holes,(st0 l es.length).Done,(st0 l es.length).Joints,(st0 l es.length).Fallen,[])=some (.inl ((pre.length:Int),e)):=q4
        simp only [Option.bind_some]
        rw [q4'];rfl
      simp only [hz,Bool.false_eq_true,if_false,hst,Option.bind_some,hn,if_true]
      rfl
theorem LJ (l:LayoutT) (h:yV l) (items:List ItemT):∃ e,Qs l items=some e∧rD l items=some e∧(e=0→∃ es ss,Ran l items es ss∧((zX (st0 l es.length) ss).Done.all fun b=>b)=true∧((zX (st0 l es.length) ss).Holes.all fun t=>t.all fun b=>b)=true):=by
  obtain ⟨s,k,e,r1,r2,r3,r4⟩:=IM l h items
  unfold Qs rD
  rw [r1,r2]
  simp only [Option.bind_some]
  by_cases he:e=0
  case neg =>
    have he':(e != 0)=true:=by rw [bne_iff_ne];exact he
    simp only [he',if_true]
    exact ⟨e,rfl,rfl,fun h=>absurd h he⟩
  subst he
  have key:∃ es ss,Ran l items es ss∧s=zX (st0 l es.length) ss:=by
    rcases r4 with ⟨h,_⟩ | ⟨_,_,h⟩
    · exact absurd rfl h
    · exact h
  obtain ⟨es,ss,hr,hs⟩:=key
  have c1:=Gp s.Done r3.d
  have c2:=LP s.Done r3.d
  have c1':dW (toC s).Done false=some (!(s.Done.all fun b=>b)):=c1
  simp only [bne_self_eq_false,Bool.false_eq_true,if_false,c1',c2,Option.bind_some]
  cases hd:(s.Done.all fun b=>b) with
  | false=>exact ⟨12,rfl,rfl,fun h=>absurd h (by decide)⟩
  | true =>
    have hl2:=r3.h
    have l1:aK (Ac (toC s,k,0,s.Holes)) 0=some (if s.Holes.all (fun t=>t.all fun b=>b) then .inr () else .inl ()):=by
      refine Ea s.Holes (Ac (toC s,k,0,s.Holes)) (fun t=>t.all fun b=>b) (.inl ()) (.inr ()) (fun j t ht=>?_) ?_
      · have hj:=bA ht
        have ht':(toC s).Holes[j]?=some t:=ht
        unfold Ac
        have hd:decide ((j:Int)<((toC s).Holes.length:Int))=true:=by show decide ((j:Int)<(s.Holes.length:Int))=true;simp [hj]
        simp only [hd,if_true,aP ht',Option.bind_some,Gp t (r3.hh t (List.mem_of_getElem? ht)),aZ j (show (j:Int)<9223372036854775807 by omega)]
        cases (t.all fun b=>b) <;> rfl
      · unfold Ac
        have:decide ((s.Holes.length:Int)<((toC s).Holes.length:Int))=false:=by show decide ((s.Holes.length:Int)<(s.Holes.length:Int))=false;simp
        simp only [this,Bool.false_eq_true,if_false]
    have l2:aK (jT (s,k,0,s.Cut,s.Holes,s.Done,s.Joints,s.Fallen)) 0=some (if s.Holes.all (fun t=>t.all fun b=>b) then .inr () else .inl ()):=by
      refine Ea s.Holes (jT (s,k,0,s.Cut,s.Holes,s.Done,s.Joints,s.Fallen)) (fun t=>t.all fun b=>b) (.inl ()) (.inr ()) (fun j t ht=>?_) ?_
      · have hj:=bA ht
        unfold jT
        have hd:decide ((j:Int)<(s.Holes.length:Int))=true:=by simp [hj]
        simp only [hd,if_true,aP ht,Option.bind_some,LP t (r3.hh t (List.mem_of_getElem? ht)),aZ j (show (j:Int)<9223372036854775807 by omega)]
        cases (t.all fun b=>b) <;> rfl
      · simp [jT]
    simp only [Bool.not_true,Bool.false_eq_true,if_false,l1,l2,Option.bind_some]
    cases hh:s.Holes.all (fun t=>t.all fun b=>b) with
    | false=>exact ⟨12,rfl,rfl,fun h=>absurd h (by decide)⟩
    | true=>exact ⟨0,rfl,rfl,fun _=>⟨es,ss,hr,hs ▸ hd,hs ▸ hh⟩⟩
theorem JZ (l:LayoutT) (items:List ItemT) (h:yV l) (_:RLN 1048576 Zn items):uT l items=some true:=by
  obtain ⟨s,k,e,r1,r2,r3,_⟩:=IM l h items
  obtain ⟨c,c1,c2,_⟩:=LJ l h items
  have sm:sW (cut_State.mk (toC s).Cut (toC s).Holes (toC s).Done (toC s).Joints (toC s).Fallen) (sheetmetalref07_State.mk s.Cut s.Holes s.Done s.Joints s.Fallen)=some true:=SF r3
  unfold uT
  rw [r1,r2]
  simp only [Option.bind_some,beq_self_eq_true,if_true,sm,c1,c2,RA]
end Go.SM
