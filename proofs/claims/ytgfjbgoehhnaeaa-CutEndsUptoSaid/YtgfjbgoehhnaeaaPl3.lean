/- What the functions compute, part 3. -/
import Derived.Test.YtgfjbgoehhnaeaaPl2
import Derived.Test.YtgfjbgoehhnaeaaPl1
set_option linter.unusedVariables false
set_option linter.unusedSimpArgs false
set_option linter.unusedSectionVars false
namespace Go.SM
open Go Go.VI
theorem Pq {s:Sheet} (h:jN s=some 0):s.Clamps.length≤4∧s.Used.length≤48:=by
  obtain ⟨a,ha,_⟩:=Name_same s.Name
  obtain ⟨b,hb,_⟩:=Name_same s.Material
  unfold jN at h
  rw [ha,hb] at h
  cases a with
  | false=>exact absurd (Option.some.inj h) (by decide)
  | true =>
  cases b with
  | false=>exact absurd (Option.some.inj h) (by decide)
  | true =>
  simp only [Option.bind_some,Lu,DU,if_true,Bool.not_true,Bool.false_eq_true,if_false] at h
  generalize decide ((1≤s.Gauge∧s.Gauge≤60)∧0≤s.Grain∧s.Grain≤2)=g1 at h
  generalize decide (1≤s.Width∧s.Width≤1048576)=g2 at h
  generalize decide (1≤s.Height∧s.Height≤1048576)=g3 at h
  by_cases h4:(s.Clamps.length:Int)>4
  · simp only [h4,decide_true,if_true,Option.bind_some] at h
    cases g1 <;> cases g2 <;> cases g3 <;> exact absurd (Option.some.inj h) (by decide)
  by_cases h5:(s.Used.length:Int)>48
  · simp only [h4,h5,decide_false,decide_true,if_true,Bool.false_eq_true,if_false,Option.bind_some] at h
    cases g1 <;> cases g2 <;> cases g3 <;> exact absurd (Option.some.inj h) (by decide)
  omega
theorem QP {α:Type} {l:List α} {k:Nat} (h:k≤l.length):slc l 0 (k:Int)=some (l.take k):=by
  unfold slc;rw [if_pos (by omega)];simp
theorem BS {l:List Rect} {g:Rect→Int}:∀ {a:Int},l.foldl (fun s r=>min s (g r)) a=a∨∃ r ∈ l,l.foldl (fun s r=>min s (g r)) a=g r:=by
  induction l with
  | nil=>intro a;exact .inl rfl
  | cons x l ih =>
    intro a
    simp only [List.foldl_cons]
    rcases ih (a:=min a (g x)) with h | ⟨r,hr,h⟩
    · rw [h]
      by_cases hx:a≤g x
      · left;omega
      · right;exact ⟨x,by simp,by omega⟩
    · exact .inr ⟨r,by simp [hr],h⟩
theorem Ip {α β:Type} (l:List α) (f:α→β) (body:Int×List β→Option ((Int×List β) ⊕ List β)) (hl:l.length≤1048576) (step:∀ (k:Nat) x acc,l[k]?=some x→body ((k:Int),acc)=(app acc [f x]).bind fun l'=>some (.inl (((k+1:Nat):Int),l'))) (fin:∀ acc,body ((l.length:Int),acc)=some (.inr acc)) :
    aD body (0,[])=some (l.map f):=by
  refine xU l body (fun k=>((k:Int),(l.take k).map f)) _ (fun k x hx=>?_) ?_
  · have hk:=(List.getElem?_eq_some_iff.1 hx).1
    rw [step k x _ hx,nA (by unfold LIM;simp;omega)]
    simp only [Option.bind_some]
    rw [List.take_add_one,hx]
    simp
  · rw [fin,List.take_length]
def bkR (x y:Int) (r:Rect):Rect:=if r.X < -4194304∨r.X>4194304∨r.Y < -4194304∨r.Y>4194304 then ⟨r.X,r.Y,0,r.H⟩ else ⟨aH r.X x,aH r.Y y,r.W,r.H⟩
def shR (x y:Int) (r:Rect):Rect:=if r.X > -2147483648∧r.X<2147483648∧r.Y > -2147483648∧r.Y<2147483648 then ⟨aF r.X x,aF r.Y y,r.W,r.H⟩ else r
theorem CX {l:List Rect} (hl:l.length≤1048576) (x y:Int):Ht l x y=some (l.map (bkR x y)):=by
  unfold Ht kQ
  rw [nA (by unfold LIM;simp;omega)]
  simp only [List.nil_append,Option.bind_some]
  have key:aD (Ar x y l) (0,l)=some (l.map (bkR x y)):=by
    refine xU l (Ar x y l) (fun k=>((k:Int),(l.take k).map (bkR x y)++l.drop k)) _ (fun k r hr=>?_) ?_
    · have hk:=(List.getElem?_eq_some_iff.1 hr).1
      have h1:decide ((k:Int)<(l.length:Int))=true:=by simp;omega
      have ht:((l.take k).map (bkR x y)).length=k:=by simp;omega
      have ed:l.drop k=r::l.drop (k+1):=by rw [List.drop_eq_getElem_cons hk];congr 1;exact (List.getElem?_eq_some_iff.1 hr).2
      have g1:∀ z:Rect,((l.take k).map (bkR x y)++z::l.drop (k+1))[k]?=some z:=fun z=>by rw [List.getElem?_append_right (by omega),ht];simp
      have i1:∀ z:Rect,idx ((l.take k).map (bkR x y)++z::l.drop (k+1)) (k:Int)=some z:=fun z=>aJ (g1 z)
      have s1:∀ z z':Rect,List.set ((l.take k).map (bkR x y)++z::l.drop (k+1)) k z'=(l.take k).map (bkR x y)++z'::l.drop (k+1):=fun z z'=>by rw [List.set_append_right _ _ (by omega),ht];simp
      have e:l.take (k+1)=l.take k++[r]:=by rw [List.take_add_one,hr];rfl
      unfold Ar Fh
      simp only [h1,if_true,ed,i1,g1,s1,Option.bind_some,Int.toNat_natCast]
      rw [aL (a:=(k:Int)) (by omega) (by omega),e,List.map_append,List.append_assoc]
      by_cases q1:r.X < -4194304
      · simp [q1,bkR]
      · by_cases q2:r.X>4194304
        · simp [q1,q2,bkR]
        · by_cases q3:r.Y < -4194304
          · simp [q1,q2,q3,bkR]
          · by_cases q4:r.Y>4194304
            · simp [q1,q2,q3,q4,bkR]
            · simp [q1,q2,q3,q4,bkR]
    · simp [Ar]
  rw [key]
  rfl
theorem Zt {l:List Rect} (hl:l.length≤1048576) (x y:Int):lF l x y=some (l.map (shR x y)):=by
  unfold lF
  rw [Ip l (shR x y) (lZ l x y) hl (fun k r acc hx=>?_) (fun acc=>?_)]
  · rfl
  · have hk:=(List.getElem?_eq_some_iff.1 hx).1
    unfold lZ rH
    have h1:decide ((k:Int)<(l.length:Int))=true:=by simp;omega
    simp only [h1,if_true,aJ hx,Option.bind_some]
    rw [aL (a:=(k:Int)) (by omega) (by omega)]
    unfold shR
    by_cases g1:r.X > -2147483648
    · by_cases g2:r.X<2147483648
      · by_cases g3:r.Y > -2147483648
        · by_cases g4:r.Y<2147483648
          · simp [g1,g2,g3,g4]
          · simp [g1,g2,g3,g4]
        · simp [g1,g2,g3]
      · simp [g1,g2]
    · simp [g1]
  · simp [lZ]
theorem H5 {mx my:Int} (hx : -1048576≤mx∧mx≤1048576) (hy : -1048576≤my∧my≤1048576) (r:Rect) (hr:Xn r):bkR mx my r=shR (tJ mx) (tJ my) r∨(¬ vR (bkR mx my r)∧¬ vR (shR (tJ mx) (tJ my) r)):=by
  obtain ⟨⟨a1,a2⟩,⟨b1,b2⟩,_,_⟩:=hr
  unfold bkR shR
  rw [DZ (a:=mx) (by omega) (by omega),DZ (a:=my) (by omega) (by omega)]
  by_cases h:r.X < -4194304∨r.X>4194304∨r.Y < -4194304∨r.Y>4194304
  · right
    rw [if_pos h]
    refine ⟨fun q=>?_,fun q=>?_⟩
    · have:=q.2.2.1;simp at this
    · by_cases g:r.X > -2147483648∧r.X<2147483648∧r.Y > -2147483648∧r.Y<2147483648
      · rw [if_pos g,aL (by omega) (by omega),aL (by omega) (by omega)] at q
        obtain ⟨q1,q2,_⟩:=q
        simp only at q1 q2
        omega
      · rw [if_neg g] at q
        obtain ⟨q1,q2,_⟩:=q
        omega
  · left
    rw [if_neg h,if_pos (by omega),aT (by omega) (by omega),aT (by omega) (by omega),aL (by omega) (by omega),aL (by omega) (by omega)]
    rfl
theorem QY {x:Piece} {a b:Bool} (ha:kL x.Name=some a) (hb:kL x.Material=some b) (h:∃ r ∈ x.Rects++(x.Cuts++x.Forms),¬ vR r) :
    dV x=some (if a&&b then (if (1≤x.Gauge∧x.Gauge≤60)∧0≤x.Grain∧x.Grain≤2 then (if x.Rects.length>12∨x.Cuts.length>12∨x.Forms.length>12 then 4 else 1) else 1) else 2):=by
  unfold dV
  rw [ha,hb]
  cases a with
  | false=>rfl
  | true =>
  cases b with
  | false=>rfl
  | true =>
  simp only [Option.bind_some,Lu,Bool.and_self,if_true,Bool.not_true,Bool.false_eq_true,if_false]
  by_cases h1:(1≤x.Gauge∧x.Gauge≤60)∧0≤x.Grain∧x.Grain≤2
  · simp only [h1,and_self,decide_true,Bool.not_true,Bool.false_eq_true,if_false,if_true]
    by_cases l1:x.Rects.length>12
    · simp [show (x.Rects.length:Int)>12 by omega,l1]
    by_cases l2:x.Cuts.length>12
    · simp [show ¬ (x.Rects.length:Int)>12 by omega,show (x.Cuts.length:Int)>12 by omega,l1,l2]
    by_cases l3:x.Forms.length>12
    · simp [show ¬ (x.Rects.length:Int)>12 by omega,show ¬ (x.Cuts.length:Int)>12 by omega,show (x.Forms.length:Int)>12 by omega,l1,l2,l3]
    have d1:decide ((x.Rects.length:Int)>12)=false:=by simp;omega
    have d2:decide ((x.Cuts.length:Int)>12)=false:=by simp;omega
    have d3:decide ((x.Forms.length:Int)>12)=false:=by simp;omega
    have hc:¬ (x.Rects.length>12∨x.Cuts.length>12∨x.Forms.length>12):=by omega
    simp only [d1,d2,d3,hc,Bool.false_eq_true,if_false,Option.bind_some,valid_eq x.Rects (by omega),valid_eq x.Cuts (by omega),valid_eq x.Forms (by omega)]
    have anyb:∀ l:List Rect,(∃ r ∈ l,¬ vR r)→(l.any fun x=>!decide (vR x))=true:=fun l ⟨r,hr,hv⟩=>List.any_eq_true.2 ⟨r,hr,by simp [hv]⟩
    obtain ⟨r,hr,hv⟩:=h
    have hj:(if ((x.Rects.length:Int)==0)=true then some true else (if (!(x.Rects.any fun x=>!decide (vR x)))=true then (if (!(x.Cuts.any fun x=>!decide (vR x)))=true then some (!(!(x.Forms.any fun x=>!decide (vR x)))) else some true) else some true))=some true:=by
      cases (x.Rects.length:Int)==0 with
      | true=>rfl
      | false =>
        rcases List.mem_append.1 hr with hr | hr
        · rw [anyb _ ⟨r,hr,hv⟩];rfl
        · rcases List.mem_append.1 hr with hr | hr
          · rw [anyb x.Cuts ⟨r,hr,hv⟩];cases (x.Rects.any fun x=>!decide (vR x)) <;> rfl
          · rw [anyb x.Forms ⟨r,hr,hv⟩];cases (x.Rects.any fun x=>!decide (vR x)) <;> cases (x.Cuts.any fun x=>!decide (vR x)) <;> rfl
    rw [hj]
    rfl
  · simp only [h1,decide_false,Bool.not_false,if_true,if_false]
theorem ZN {x:Piece} (h:dV x=some 0):x.Rects.length≤12:=by
  obtain ⟨a,ha,_⟩:=Name_same x.Name
  obtain ⟨b,hb,_⟩:=Name_same x.Material
  unfold dV at h
  rw [ha,hb] at h
  by_cases l1:(x.Rects.length:Int)>12
  · cases a with
    | false=>exact absurd (Option.some.inj h) (by decide)
    | true =>
    cases b with
    | false=>exact absurd (Option.some.inj h) (by decide)
    | true =>
    simp only [Option.bind_some,Lu,if_true,Bool.not_true,Bool.false_eq_true,if_false,l1,decide_true] at h
    generalize decide ((1≤x.Gauge∧x.Gauge≤60)∧0≤x.Grain∧x.Grain≤2)=g1 at h
    cases g1 <;> exact absurd (Option.some.inj h) (by decide)
  · omega
def Sm (x:Piece):Prop:=(x.Rects.length≤1048576∧∀ r ∈ x.Rects,Xn r)∧(x.Cuts.length≤1048576∧∀ r ∈ x.Cuts,Xn r)∧(x.Forms.length≤1048576∧∀ r ∈ x.Forms,Xn r)
theorem BG (x0:Piece) (hl:x0.Rects.length≤1048576) (a b:Int):aD (fA x0) (a,b,0)=some (Rw x0.Rects a,Rx x0.Rects b):=by
  refine xU x0.Rects (fA x0) (fun k=>(Rw (x0.Rects.take k) a,Rx (x0.Rects.take k) b,(k:Int))) _ (fun k r hr=>?_) ?_
  · have hk:=(List.getElem?_eq_some_iff.1 hr).1
    unfold fA
    have h1:decide ((k:Int)<(x0.Rects.length:Int))=true:=by simp;omega
    have e:x0.Rects.take (k+1)=x0.Rects.take k++[r]:=by rw [List.take_add_one,hr];rfl
    simp only [h1,if_true,aJ hr,Option.bind_some,e,Cc]
    rw [aL (a:=(k:Int)) (by omega) (by omega)]
    unfold Rw Rx
    rw [List.foldl_append,List.foldl_append]
    rfl
  · simp [fA]
theorem NY (x0:Piece):mX x0=fA x0:=by
  funext s
  unfold mX fA
  cases idx x0.Rects s.2.2 <;> rfl
theorem KS (x0:Piece) (hl:x0.Rects.length≤1048576) {r:Rect} (hr:x0.Rects[0]?=some r):aD (mX x0) (r.X,r.Y,1)=some (Rw x0.Rects r.X,Rx x0.Rects r.Y):=by
  have i0:idx x0.Rects 0=some r:=aJ (k:=0) hr
  have hk:=(List.getElem?_eq_some_iff.1 hr).1
  have h1:aD (fA x0) (r.X,r.Y,0)=aD (fA x0) (r.X,r.Y,1):=by
    refine jJ ?_
    unfold fA
    have hd:decide ((0:Int)<(x0.Rects.length:Int))=true:=by simp;omega
    simp only [hd,if_true,i0,Option.bind_some,Cc,Int.min_self]
    rfl
  rw [NY,← h1,BG x0 hl]
theorem Qe {x:Piece} (hs:Sm x):∃ e:Int,nX x=some e∧(e=0→x.Rects.length≤12) ∧
    ∀ {S:Type} (k:S),((wE x).bind fun r79=>if (!r79.2.1) then (some (Sum.inr (Sum.inl (1:Int)):S ⊕ (Int ⊕ Unit))) else ((cZ (Piece.mk r79.1.Name r79.1.Material r79.1.Gauge r79.1.Grain r79.1.Rects r79.1.Cuts r79.1.Forms)).bind fun r81=>if (r81 != 0) then (some (.inr (.inl r81))) else (some (.inl k))))=if e=0 then some (.inl k) else some (.inr (.inl e)):=by
  obtain ⟨⟨s1,t1⟩,⟨s2,t2⟩,s3,t3⟩:=hs
  have k1:aD (pV x) 0=some (if (x.Rects.any fun x=>!decide (vR x)) then .inl () else .inr ()):=by
    refine fK x.Rects (pV x) (fun k=>(k:Int)) _ _ _ rfl (fun k y hx=>?_) ?_
    · have hk:=(List.getElem?_eq_some_iff.1 hx).1
      unfold pV
      have h1:decide ((k:Int)<(x.Rects.length:Int))=true:=by simp;omega
      simp only [h1,if_true,aJ hx,Option.bind_some,tF]
      rw [aL (a:=(k:Int)) (by omega) (by omega)]
      rfl
    · simp [pV]
  unfold nX wE
  rw [k1,Dc _ (by omega)]
  cases hv:(x.Rects.any fun x=>!decide (vR x)) with
  | true=>exact ⟨1,rfl,fun h=>absurd h (by decide),fun k=>rfl⟩
  | false =>
  have av:∀ r ∈ x.Rects,vR r:=fun r hr=>by have:=List.any_eq_false.1 hv r hr;simpa using this
  simp only [Bool.false_eq_true,if_false,Option.bind_some,Bool.not_false,Bool.not_true]
  by_cases h0:(x.Rects.length:Int)=0
  · obtain ⟨e,e1,e2⟩:=Po x
    refine ⟨e,by simp [h0,e1],fun _=>by omega,fun k=>?_⟩
    have e2':cZ (Piece.mk x.Name x.Material x.Gauge x.Grain x.Rects x.Cuts x.Forms)=some e:=e2
    simp only [h0,beq_self_eq_true,if_true,Option.bind_some,Bool.not_true,Bool.false_eq_true,if_false,e2']
    by_cases he:e=0
    · simp [he]
    · simp [he]
  · have h0':((x.Rects.length:Int)==0)=false:=by rw [beq_eq_false_iff_ne];exact h0
    have hlt:0<x.Rects.length:=by omega
    have hr:x.Rects[0]?=some (x.Rects[0]'hlt):=by simp [hlt]
    have i0:idx x.Rects 0=some (x.Rects[0]'hlt):=aJ (k:=0) hr
    have hmem:x.Rects[0]'hlt ∈ x.Rects:=List.getElem_mem hlt
    have rb:=KS x s1 hr
    generalize x.Rects[0]'hlt=r0 at hr i0 hmem rb
    have bx : -1048576≤Rw x.Rects r0.X∧Rw x.Rects r0.X≤1048576:=by
      have:∃ y ∈ x.Rects,Rw x.Rects r0.X=y.X:=by
        rcases BS (l:=x.Rects) (g:=fun r=>r.X) (a:=r0.X) with e | ⟨y,hy,e⟩
        · exact ⟨r0,hmem,e⟩
        · exact ⟨y,hy,e⟩
      obtain ⟨y,hy,e⟩:=this
      have:=av y hy;unfold vR at this;omega
    have by' : -1048576≤Rx x.Rects r0.Y∧Rx x.Rects r0.Y≤1048576:=by
      have:∃ y ∈ x.Rects,Rx x.Rects r0.Y=y.Y:=by
        rcases BS (l:=x.Rects) (g:=fun r=>r.Y) (a:=r0.Y) with e | ⟨y,hy,e⟩
        · exact ⟨r0,hmem,e⟩
        · exact ⟨y,hy,e⟩
      obtain ⟨y,hy,e⟩:=this
      have:=av y hy;unfold vR at this;omega
    unfold Bd
    simp only [h0',Bool.false_eq_true,if_false,i0,Option.bind_some,BG x s1,rb,CX s1,CX s2,CX s3,Zt s1,Zt s2,Zt s3,Bool.not_true]
    generalize Rw x.Rects r0.X=mx at bx
    generalize Rx x.Rects r0.Y=my at by'
    have main : ∃ e,dV ⟨x.Name,x.Material,x.Gauge,x.Grain,x.Rects.map (bkR mx my),x.Cuts.map (bkR mx my),x.Forms.map (bkR mx my)⟩=some e∧cZ ⟨x.Name,x.Material,x.Gauge,x.Grain,x.Rects.map (shR (tJ mx) (tJ my)),x.Cuts.map (shR (tJ mx) (tJ my)),x.Forms.map (shR (tJ mx) (tJ my))⟩=some e:=by
      have cmp:=H5 bx by'
      by_cases hall:∀ r ∈ x.Rects++(x.Cuts++x.Forms),bkR mx my r=shR (tJ mx) (tJ my) r
      · have m1:x.Rects.map (bkR mx my)=x.Rects.map (shR (tJ mx) (tJ my)):=List.map_congr_left fun r hr=>hall r (List.mem_append.2 (.inl hr))
        have m2:x.Cuts.map (bkR mx my)=x.Cuts.map (shR (tJ mx) (tJ my)):=List.map_congr_left fun r hr=>hall r (List.mem_append.2 (.inr (List.mem_append.2 (.inl hr))))
        have m3:x.Forms.map (bkR mx my)=x.Forms.map (shR (tJ mx) (tJ my)):=List.map_congr_left fun r hr=>hall r (List.mem_append.2 (.inr (List.mem_append.2 (.inr hr))))
        rw [m1,m2,m3]
        exact Po _
      · have hex:∃ r ∈ x.Rects++(x.Cuts++x.Forms),¬ vR (bkR mx my r)∧¬ vR (shR (tJ mx) (tJ my) r):=by
          apply Classical.byContradiction
          intro hno
          refine hall fun r hr=>?_
          have hR:Xn r:=by
            rcases List.mem_append.1 hr with h | h
            · exact t1 r h
            · rcases List.mem_append.1 h with h | h
              · exact t2 r h
              · exact t3 r h
          rcases cmp r hR with h | h
          · exact h
          · exact absurd ⟨r,hr,h⟩ hno
        obtain ⟨r,hr,v1,v2⟩:=hex
        obtain ⟨a,ha,_⟩:=Name_same x.Name
        obtain ⟨b,hb,_⟩:=Name_same x.Material
        have p1:=QY (x:=⟨x.Name,x.Material,x.Gauge,x.Grain,x.Rects.map (bkR mx my),x.Cuts.map (bkR mx my),x.Forms.map (bkR mx my)⟩) ha hb ⟨bkR mx my r,by show _ ∈ x.Rects.map _++(x.Cuts.map _++x.Forms.map _);rw [← List.map_append,← List.map_append];exact List.mem_map_of_mem hr,v1⟩
        have p2:=QY (x:=⟨x.Name,x.Material,x.Gauge,x.Grain,x.Rects.map (shR (tJ mx) (tJ my)),x.Cuts.map (shR (tJ mx) (tJ my)),x.Forms.map (shR (tJ mx) (tJ my))⟩) ha hb ⟨shR (tJ mx) (tJ my) r,by show _ ∈ x.Rects.map _++(x.Cuts.map _++x.Forms.map _);rw [← List.map_append,← List.map_append];exact List.mem_map_of_mem hr,v2⟩
        simp only [List.length_map] at p1 p2
        obtain ⟨e,e1,e2⟩:=Po ⟨x.Name,x.Material,x.Gauge,x.Grain,x.Rects.map (shR (tJ mx) (tJ my)),x.Cuts.map (shR (tJ mx) (tJ my)),x.Forms.map (shR (tJ mx) (tJ my))⟩
        exact ⟨e,by rw [p1,← p2];exact e1,e2⟩
    obtain ⟨e,e1,e2⟩:=main
    refine ⟨e,by rw [e1];rfl,fun he=>?_,fun k=>?_⟩
    · subst he
      have:=ZN e1
      simpa using this
    · simp only [e2,Option.bind_some]
      by_cases he:e=0
      · simp [he]
      · simp [he]
theorem Zc (r:Rect) {l:List Rect} (hl:l.length≤1000):Dj r l=some (l.any (tC r)):=by
  have key:∃ z,aD (aW l r.X r.Y r.W r.H) 0=some z∧((∃ k:Nat,z=.inl (k:Int))∧l.any (tC r)=true∨z=.inr ()∧l.any (tC r)=false):=by
    have go : ∀ (m k:Nat),k+m=l.length→(∀ y ∈ l.take k,tC r y=false)→∃ z,aD (aW l r.X r.Y r.W r.H) (k:Int)=some z∧((∃ k:Nat,z=.inl (k:Int))∧l.any (tC r)=true∨z=.inr ()∧l.any (tC r)=false):=by
      intro m
      induction m with
      | zero =>
        intro k h hb
        obtain rfl:k=l.length:=by omega
        rw [List.take_length] at hb
        exact ⟨.inr (),dD (by simp [aW]),.inr ⟨rfl,List.any_eq_false.2 fun y hy=>by simp [hb y hy]⟩⟩
      | succ m ih =>
        intro k h hb
        have hx:l[k]?=some (l[k]'(by omega)):=by simp [show k<l.length by omega]
        have hd:decide ((k:Int)<(l.length:Int))=true:=by simp;omega
        have hm:Gf (l[k]'(by omega)) r.X r.Y r.W r.H=some (tC r (l[k]'(by omega))):=by
          unfold Gf
          rw [Xk];rfl
        by_cases ho:tC r (l[k]'(by omega))=true
        · refine ⟨.inl (k:Int),dD ?_,.inl ⟨⟨k,rfl⟩,List.any_eq_true.2 ⟨_,List.mem_of_getElem? hx,ho⟩⟩⟩
          unfold aW
          simp only [hd,if_true,aJ hx,Option.bind_some,hm,ho]
        · have ho':tC r (l[k]'(by omega))=false:=by simpa using ho
          rw [jJ (s':=((k+1:Nat):Int))]
          · refine ih (k+1) (by omega) fun y hy=>?_
            rw [List.take_add_one,hx] at hy
            rcases List.mem_append.1 hy with hy | hy
            · exact hb y hy
            · simp at hy;rw [hy];exact ho'
          · unfold aW
            simp only [hd,if_true,aJ hx,Option.bind_some,hm,ho',Bool.false_eq_true,if_false]
            rw [aL (by omega) (by omega)];rfl
    exact go l.length 0 (by omega) (by simp)
  obtain ⟨z,hz,h⟩:=key
  unfold Dj bV dG
  rw [hz]
  rcases h with ⟨⟨k,rfl⟩,h⟩ | ⟨rfl,h⟩
  · rw [h]
    have:decide ((k:Int) ≥ 0)=true:=by simp
    simp only [Option.bind_some,this]
  · rw [h];rfl
def Zh (s:Sheet) (y:Rect):Bool:=!(decide (uI y ⟨0,0,s.Width,s.Height⟩)) || (s.Clamps.any (tC y) || s.Used.any (tC y))
theorem H8 (l:LayoutT) (x:Piece) (hx:x.Rects.length≤12) (h1:l.Sheet.Clamps.length≤4) (h2:l.Sheet.Used.length≤48):aD (tZ l x) 0=some (if x.Rects.any (Zh l.Sheet) then .inl () else .inr ()):=by
  refine fK x.Rects (tZ l x) (fun k=>(k:Int)) _ _ _ rfl (fun k y hy=>?_) ?_
  · have hk:=(List.getElem?_eq_some_iff.1 hy).1
    unfold tZ Zh
    have hd:decide ((k:Int)<(x.Rects.length:Int))=true:=by simp;omega
    simp only [hd,if_true,aJ hy,Option.bind_some,Td,Zc y (show l.Sheet.Clamps.length≤1000 by omega),Zc y (show l.Sheet.Used.length≤1000 by omega)]
    rw [aL (a:=(k:Int)) (by omega) (by omega)]
    cases decide (uI y ⟨0,0,l.Sheet.Width,l.Sheet.Height⟩) <;> cases l.Sheet.Clamps.any (tC y) <;> cases l.Sheet.Used.any (tC y) <;> rfl
  · simp [tZ]
theorem E8 (l:LayoutT) (x:Piece) (hx:x.Rects.length≤12) (h1:l.Sheet.Clamps.length≤4) (h2:l.Sheet.Used.length≤48):aD (fP l x) 0=some (if x.Rects.any (Zh l.Sheet) then .inl () else .inr ()):=by
  refine fK x.Rects (fP l x) (fun k=>(k:Int)) _ _ _ rfl (fun k y hy=>?_) ?_
  · have hk:=(List.getElem?_eq_some_iff.1 hy).1
    unfold fP Zh
    have hd:decide ((k:Int)<(x.Rects.length:Int))=true:=by simp;omega
    simp only [hd,if_true,aJ hy,Option.bind_some,Tf,Qp y _ (show l.Sheet.Clamps.length≤1000 by omega),Qp y _ (show l.Sheet.Used.length≤1000 by omega)]
    rw [aL (a:=(k:Int)) (by omega) (by omega)]
    cases decide (uI y ⟨0,0,l.Sheet.Width,l.Sheet.Height⟩) <;> cases l.Sheet.Clamps.any (tC y) <;> cases l.Sheet.Used.any (tC y) <;> rfl
  · simp [fP]
theorem ZB (l:LayoutT) (hp:l.Pieces.length≤8) (hx:∀ x ∈ l.Pieces,x.Rects.length≤12) (h1:l.Sheet.Clamps.length≤4) (h2:l.Sheet.Used.length≤48):aD (uA l) 0=some (if l.Pieces.any (fun x=>x.Rects.any (Zh l.Sheet)) then .inl () else .inr ()):=by
  refine fK l.Pieces (uA l) (fun k=>(k:Int)) _ _ _ rfl (fun k y hy=>?_) ?_
  · have hk:=(List.getElem?_eq_some_iff.1 hy).1
    unfold uA
    have hd:decide ((k:Int)<(l.Pieces.length:Int))=true:=by simp;omega
    simp only [hd,if_true,aJ hy,Option.bind_some,H8 l y (hx y (List.mem_of_getElem? hy)) h1 h2]
    rw [aL (a:=(k:Int)) (by omega) (by omega)]
    cases y.Rects.any (Zh l.Sheet) <;> rfl
  · simp [uA]
theorem E9 (l:LayoutT) (hp:l.Pieces.length≤8) (hx:∀ x ∈ l.Pieces,x.Rects.length≤12) (h1:l.Sheet.Clamps.length≤4) (h2:l.Sheet.Used.length≤48):aD (fQ l) 0=some (if l.Pieces.any (fun x=>x.Rects.any (Zh l.Sheet)) then .inl () else .inr ()):=by
  refine fK l.Pieces (fQ l) (fun k=>(k:Int)) _ _ _ rfl (fun k y hy=>?_) ?_
  · have hk:=(List.getElem?_eq_some_iff.1 hy).1
    unfold fQ
    have hd:decide ((k:Int)<(l.Pieces.length:Int))=true:=by simp;omega
    simp only [hd,if_true,aJ hy,Option.bind_some,E8 l y (hx y (List.mem_of_getElem? hy)) h1 h2]
    rw [aL (a:=(k:Int)) (by omega) (by omega)]
    cases y.Rects.any (Zh l.Sheet) <;> rfl
  · simp [fQ]
def DV (x y:Piece):Bool:=x.Rects.any fun r=>y.Rects.any (tC r)
def JW (l:List Piece) (k:Nat):Bool:=match l[k]? with
  | some x=>(l.take k).any (DV x)
  | none=>false
theorem H9 (x y:Piece) (hx:x.Rects.length≤12) (hy:y.Rects.length≤12):aD (uB x y) 0=some (if DV x y then .inl () else .inr ()):=by
  refine fK x.Rects (uB x y) (fun k=>(k:Int)) _ _ _ rfl (fun k r hr=>?_) ?_
  · have hk:=(List.getElem?_eq_some_iff.1 hr).1
    unfold uB
    have hd:decide ((k:Int)<(x.Rects.length:Int))=true:=by simp;omega
    simp only [hd,if_true,aJ hr,Option.bind_some,Zc r (show y.Rects.length≤1000 by omega)]
    rw [aL (a:=(k:Int)) (by omega) (by omega)]
    rfl
  · simp [uB]
theorem ZC (l:LayoutT) (hp:l.Pieces.length≤8) (hx:∀ x ∈ l.Pieces,x.Rects.length≤12):aD (uD l) 0=some (if (List.range l.Pieces.length).any (JW l.Pieces) then .inl () else .inr ()):=by
  refine jP l.Pieces.length (uD l) (fun k=>(k:Int)) _ _ _ rfl (fun k hk=>?_) ?_
  · have he:l.Pieces[k]?=some l.Pieces[k]:=by simp
    have hin:aD (uC l.Pieces[k] (l.Pieces.take k)) 0=some (if (l.Pieces.take k).any (DV l.Pieces[k]) then .inl () else .inr ()):=by
      refine fK (l.Pieces.take k) (uC l.Pieces[k] (l.Pieces.take k)) (fun k=>(k:Int)) _ _ _ rfl (fun j y hy=>?_) ?_
      · have hj:=(List.getElem?_eq_some_iff.1 hy).1
        have hjl:(l.Pieces.take k).length≤8:=by rw [List.length_take];omega
        unfold uC
        have hd:decide ((j:Int)<((l.Pieces.take k).length:Int))=true:=by rw [decide_eq_true_eq];omega
        simp only [hd,if_true,aJ hy,Option.bind_some,H9 _ y (hx _ (List.getElem_mem hk)) (hx y (List.mem_of_mem_take (List.mem_of_getElem? hy)))]
        rw [aL (a:=(j:Int)) (by omega) (by omega)]
        cases DV l.Pieces[k] y <;> rfl
      · simp [uC]
    unfold uD JW
    have hd:decide ((k:Int)<(l.Pieces.length:Int))=true:=by simp;omega
    simp only [hd,if_true,aJ he,he,Option.bind_some,QP (Nat.le_of_lt hk),hin]
    rw [aL (a:=(k:Int)) (by omega) (by omega)]
    cases (l.Pieces.take k).any (DV l.Pieces[k]) <;> rfl
  · simp [uD]
theorem F3 (l:LayoutT) (hp:l.Pieces.length≤8) (hx:∀ x ∈ l.Pieces,x.Rects.length≤12):aD (fV l) 0=some (if (List.range l.Pieces.length).any (JW l.Pieces) then .inl () else .inr ()):=by
  refine jP l.Pieces.length (fV l) (fun k=>(k:Int)) _ _ _ rfl (fun k hk=>?_) ?_
  · have he : l.Pieces[k]?=some l.Pieces[k]:=by simp
    have hlt:(l.Pieces.take k).length=k:=by rw [List.length_take];omega
    have hin:aD (fU l (k:Int)) 0=some (if (l.Pieces.take k).any (DV l.Pieces[k]) then .inl () else .inr ()):=by
      refine fK (l.Pieces.take k) (fU l (k:Int)) (fun k=>(k:Int)) _ _ _ rfl (fun j y hy=>?_) ?_
      · have hj:=(List.getElem?_eq_some_iff.1 hy).1
        rw [hlt] at hj
        have hy':l.Pieces[j]?=some y:=by rw [List.getElem?_take] at hy;simpa [hj] using hy
        have h4:aD (fT l (k:Int) (j:Int)) 0=some (if DV l.Pieces[k] y then .inl () else .inr ()):=by
          refine fK l.Pieces[k].Rects (fT l (k:Int) (j:Int)) (fun k=>(k:Int)) _ _ _ rfl (fun i r hr=>?_) ?_
          · have hi:=(List.getElem?_eq_some_iff.1 hr).1
            have hkl:=hx _ (List.getElem_mem hk)
            have hyl:=hx y (List.mem_of_getElem? hy')
            unfold fT
            have hd:decide ((i:Int)<(l.Pieces[k].Rects.length:Int))=true:=by rw [decide_eq_true_eq];omega
            simp only [hd,if_true,aJ he,aJ hy',aJ hr,Option.bind_some,Qp r _ (show y.Rects.length≤1000 by omega)]
            rw [aL (a:=(i:Int)) (by omega) (by omega)]
            rfl
          · simp [fT,aJ he]
        unfold fU
        have hd:decide ((j:Int)<(k:Int))=true:=by simp;omega
        simp only [hd,if_true,h4,Option.bind_some]
        rw [aL (a:=(j:Int)) (by omega) (by omega)]
        cases DV l.Pieces[k] y <;> rfl
      · rw [hlt];simp [fU]
    unfold fV JW
    have hd:decide ((k:Int)<(l.Pieces.length:Int))=true:=by simp;omega
    simp only [hd,if_true,he,Option.bind_some,hin]
    rw [aL (a:=(k:Int)) (by omega) (by omega)]
    cases (l.Pieces.take k).any (DV l.Pieces[k]) <;> rfl
  · simp [fV]
theorem MO (l:LayoutT) (hp:l.Pieces.length≤8) (hs:∀ x ∈ l.Pieces,Sm x):(∃ c,aD (bL l) 0=some (.inl c)∧aD (bI l) 0=some (.inl c))∨(aD (bL l) 0=some (.inr ())∧aD (bI l) 0=some (.inr ())∧∀ x ∈ l.Pieces,x.Rects.length≤12):=by
  have key:∀ (m k:Nat),k+m=l.Pieces.length→(∀ x ∈ l.Pieces.take k,x.Rects.length≤12)→(∃ c,aD (bL l) (k:Int)=some (.inl c)∧aD (bI l) (k:Int)=some (.inl c))∨(aD (bL l) (k:Int)=some (.inr ())∧aD (bI l) (k:Int)=some (.inr ())∧∀ x ∈ l.Pieces,x.Rects.length≤12):=by
    intro m
    induction m with
    | zero =>
      intro k h hb;obtain rfl:k=l.Pieces.length:=by omega
      rw [List.take_length] at hb
      exact .inr ⟨dD (by simp [bL]),dD (by simp [bI]),hb⟩
    | succ m ih =>
      intro k h hb
      have hx:l.Pieces[k]?=some (l.Pieces[k]'(by omega)):=by simp [show k<l.Pieces.length by omega]
      have hd:decide ((k:Int)<(l.Pieces.length:Int))=true:=by simp;omega
      obtain ⟨e,e1,e2,e3⟩:=Qe (hs _ (List.getElem_mem (show k<l.Pieces.length by omega)))
      have i1:aF (k:Int) 1=((k+1:Nat):Int):=by rw [aL (by omega) (by omega)];rfl
      have b2:bI l (k:Int)=if e=0 then some (.inl ((k+1:Nat):Int)) else some (.inr (.inl e)):=by
        unfold bI
        simp only [hd,if_true,aJ hx,Option.bind_some,i1]
        exact e3 _
      by_cases he:e=0
      · subst he
        rw [if_pos rfl] at b2
        rw [jJ (s':=((k+1:Nat):Int)),jJ b2]
        · refine ih (k+1) (by omega) fun x hxm=>?_
          rw [List.take_add_one,hx] at hxm
          rcases List.mem_append.1 hxm with h | h
          · exact hb x h
          · simp at h;rw [h];exact e2 rfl
        · unfold bL
          simp only [hd,if_true,aJ hx,Option.bind_some,e1,bne_self_eq_false,Bool.false_eq_true,if_false,i1]
      · rw [if_neg he] at b2
        refine .inl ⟨e,dD ?_,dD b2⟩
        have he':(e != 0)=true:=by rw [bne_iff_ne];exact he
        unfold bL
        simp only [hd,if_true,aJ hx,Option.bind_some,e1,he']
  exact key l.Pieces.length 0 (by omega) (by simp)
theorem ET (l:LayoutT) (hs:∀ x ∈ l.Pieces,Sm x):∃ b,tH l=some b∧dW l=some b:=by
  obtain ⟨b,b1,b2⟩:=Xo l.Sheet
  unfold tH dW
  rw [b1,b2]
  simp only [Option.bind_some]
  by_cases hb:b=0
  · subst hb
    have sl:=Pq b1
    simp only [bne_self_eq_false,Bool.false_eq_true,if_false]
    by_cases h8:(l.Pieces.length:Int)>8
    · exact ⟨4,by simp [h8],by simp [h8]⟩
    have hp:l.Pieces.length≤8:=by omega
    simp only [h8,decide_false,Bool.false_eq_true,if_false]
    rcases MO l hp hs with ⟨c,c1,c2⟩ | ⟨c1,c2,c3⟩
    · exact ⟨c,by rw [c1];rfl,by rw [c2];rfl⟩
    · simp only [c1,c2,Option.bind_some,ZB l hp c3 sl.1 sl.2,E9 l hp c3 sl.1 sl.2,ZC l hp c3,F3 l hp c3]
      cases l.Pieces.any (fun x=>x.Rects.any (Zh l.Sheet)) with
      | true=>exact ⟨13,rfl,rfl⟩
      | false =>
      cases (List.range l.Pieces.length).any (JW l.Pieces) with
      | true=>exact ⟨7,rfl,rfl⟩
      | false=>exact ⟨0,rfl,rfl⟩
  · have hb':(b != 0)=true:=by rw [bne_iff_ne];exact hb
    exact ⟨b,by simp [hb'],by simp [hb']⟩
end Go.SM
namespace Go.SM
open Go Go.VI
structure LV (l:LayoutT):Prop where
  n:l.Pieces.length≤8
  sh:jN l.Sheet=some 0
  r12:∀ x ∈ l.Pieces,x.Rects.length≤12
  pe:∀ x ∈ l.Pieces,nX x=some 0
  off:∀ x ∈ l.Pieces,∀ r ∈ x.Rects,uI r ⟨0,0,l.Sheet.Width,l.Sheet.Height⟩∧l.Sheet.Clamps.any (tC r)=false∧l.Sheet.Used.any (tC r)=false
  hit:∀ k,k<l.Pieces.length→JW l.Pieces k=false
theorem A8 (l:LayoutT) (hp:l.Pieces.length≤8) (hs:∀ x ∈ l.Pieces,Sm x) (h:aD (bL l) 0=some (.inr ())):∀ x ∈ l.Pieces,nX x=some 0:=by
  have key:∀ (m k:Nat),k+m=l.Pieces.length→aD (bL l) (k:Int)=some (.inr ())→∀ x ∈ l.Pieces.drop k,nX x=some 0:=by
    intro m
    induction m with
    | zero =>
      intro k h hb;obtain rfl:k=l.Pieces.length:=by omega
      intro x hx;simp at hx
    | succ m ih =>
      intro k h hb
      have hx:l.Pieces[k]?=some (l.Pieces[k]'(by omega)):=by simp [show k<l.Pieces.length by omega]
      have hd:decide ((k:Int)<(l.Pieces.length:Int))=true:=by simp;omega
      obtain ⟨e,e1,_⟩:=Qe (hs _ (List.getElem_mem (show k<l.Pieces.length by omega)))
      have i1:aF (k:Int) 1=((k+1:Nat):Int):=by rw [aL (by omega) (by omega)];rfl
      by_cases he:e=0
      · subst he
        rw [jJ (s':=((k+1:Nat):Int))] at hb
        · intro x hxm
          rw [List.drop_eq_getElem_cons (show k<l.Pieces.length by omega)] at hxm
          rcases List.mem_cons.1 hxm with rfl | hxm
          · exact e1
          · exact ih (k+1) (by omega) hb x hxm
        · unfold bL
          simp only [hd,if_true,aJ hx,Option.bind_some,e1,bne_self_eq_false,Bool.false_eq_true,if_false,i1]
      · have he':(e != 0)=true:=by rw [bne_iff_ne];exact he
        rw [dD (r:=.inl e)] at hb
        · cases hb
        · unfold bL
          simp only [hd,if_true,aJ hx,Option.bind_some,e1,he']
  exact key l.Pieces.length 0 (by omega) h
theorem CV (l:LayoutT) (hs:∀ x ∈ l.Pieces,Sm x):∃ b,tH l=some b∧dW l=some b∧(b=0→LV l):=by
  obtain ⟨b,b1,b2⟩:=ET l hs
  refine ⟨b,b1,b2,fun hb0=>?_⟩
  subst hb0
  obtain ⟨c,c1,_⟩:=Xo l.Sheet
  unfold tH at b1
  rw [c1] at b1
  simp only [Option.bind_some] at b1
  by_cases hc:c=0
  · subst hc
    have sl:=Pq c1
    simp only [bne_self_eq_false,Bool.false_eq_true,if_false] at b1
    by_cases h8:(l.Pieces.length:Int)>8
    · simp [h8] at b1
    have hp:l.Pieces.length≤8:=by omega
    simp only [h8,decide_false,Bool.false_eq_true,if_false] at b1
    rcases MO l hp hs with ⟨d,d1,_⟩ | ⟨d1,_,d3⟩
    · exfalso
      rw [d1] at b1
      simp only [Option.bind_some] at b1
      -- the error of a piece is not 0
      have hne:∀ (m k:Nat),k+m=l.Pieces.length→aD (bL l) (k:Int)=some (.inl d)→d≠0:=by
        intro m
        induction m with
        | zero =>
          intro k h hb;obtain rfl:k=l.Pieces.length:=by omega
          rw [dD (r:=.inr ()) (by simp [bL])] at hb
          cases hb
        | succ m ih =>
          intro k h hb
          have hx:l.Pieces[k]?=some (l.Pieces[k]'(by omega)):=by simp [show k<l.Pieces.length by omega]
          have hd:decide ((k:Int)<(l.Pieces.length:Int))=true:=by simp;omega
          obtain ⟨e,e1,_⟩:=Qe (hs _ (List.getElem_mem (show k<l.Pieces.length by omega)))
          have i1:aF (k:Int) 1=((k+1:Nat):Int):=by rw [aL (by omega) (by omega)];rfl
          by_cases he:e=0
          · subst he
            rw [jJ (s':=((k+1:Nat):Int))] at hb
            · exact ih (k+1) (by omega) hb
            · unfold bL
              simp only [hd,if_true,aJ hx,Option.bind_some,e1,bne_self_eq_false,Bool.false_eq_true,if_false,i1]
          · have he':(e != 0)=true:=by rw [bne_iff_ne];exact he
            rw [dD (r:=.inl e)] at hb
            · injection hb with hb;injection hb with hb;rw [← hb];exact he
            · unfold bL
              simp only [hd,if_true,aJ hx,Option.bind_some,e1,he']
      exact hne l.Pieces.length 0 (by omega) d1 (Option.some.inj b1)
    · simp only [d1,Option.bind_some,ZB l hp d3 sl.1 sl.2,ZC l hp d3] at b1
      cases h3:l.Pieces.any (fun x=>x.Rects.any (Zh l.Sheet)) with
      | true=>rw [h3] at b1;exact absurd (Option.some.inj b1) (by decide)
      | false =>
      cases h6:(List.range l.Pieces.length).any (JW l.Pieces) with
      | true=>rw [h3,h6] at b1;exact absurd (Option.some.inj b1) (by decide)
      | false =>
        refine ⟨hp,c1,d3,A8 l hp hs d1,fun x hx r hr=>?_,fun k hk=>?_⟩
        · have q1:=List.any_eq_false.1 h3 x hx
          rw [Bool.not_eq_true,List.any_eq_false] at q1
          have q2:=q1 r hr
          unfold Zh at q2
          simp only [Bool.or_eq_true,not_or,Bool.not_eq_true',Bool.not_eq_false,Bool.not_eq_true,decide_eq_true_eq] at q2
          exact q2
        · have:=List.any_eq_false.1 h6 k (List.mem_range.2 hk)
          simpa using this
  · have hb':(c != 0)=true:=by rw [bne_iff_ne];exact hc
    simp only [hb',if_true] at b1
    exact absurd (Option.some.inj b1) hc
end Go.SM
namespace Go.SM
open Go Go.VI Go.Cells
def regs (l:LayoutT):List (List Rect):=l.Pieces.map fun x=>x.Rects
noncomputable def Yj (R:List (List Rect)) (xs ys:List Int):List EdgeT:=
  ys.flatMap (fun y=>(oG (hS R y)).map fun p=>mkE ⟨p.1,y,p.2,y⟩ (jM R p.1 y) (jM R p.1 (y-1)))++xs.flatMap fun x=>(oG (vS R x)).map fun p=>mkE ⟨x,p.1,x,p.2⟩ (jM R x p.1) (jM R (x-1) p.1)
section
variable {l:LayoutT} (n8:l.Pieces.length≤8) (r12:∀ x ∈ l.Pieces,x.Rects.length≤12) (hv:∀ x ∈ l.Pieces,AC x.Rects)
include n8 r12 hv
theorem ZY:AC (regs l).flatten:=fun r hr=>by
  obtain ⟨t,ht,hr⟩:=List.mem_flatten.1 hr
  obtain ⟨x,hx,rfl⟩:=List.mem_map.1 ht
  exact hv x hx r hr
omit hv in
theorem JU:(regs l).flatten.length≤96:=by
  have:∀ p:List Piece,(∀ x ∈ p,x.Rects.length≤12)→(p.map fun x=>x.Rects).flatten.length≤12*p.length:=by
    intro p
    induction p with
    | nil=>intro _;simp
    | cons x p ih =>
      intro h
      have h1:=ih fun y hy=>h y (List.mem_cons_of_mem _ hy)
      have h2:=h x List.mem_cons_self
      simp only [List.map_cons,List.flatten_cons,List.length_append,List.length_cons]
      omega
  have:=this l.Pieces r12
  unfold regs;omega
omit r12 hv in
theorem D9:(regs l).length≤900:=by unfold regs;rw [List.length_map];omega
omit n8 hv in
theorem D8:∀ t ∈ regs l,t.length≤1000:=fun t ht=>by
  obtain ⟨x,hx,rfl⟩:=List.mem_map.1 ht
  have:=r12 x hx;omega
theorem C9 {xs ys:List Int} (gx:Bf xs (xsL (regs l).flatten)) (gy:Bf ys (ysL (regs l).flatten)):Lay (regs l) xs ys:=
  ⟨gx,gy,ZY n8 r12 hv,by have:=JU n8 r12;omega,D9 n8⟩
theorem at_eq (x y:Int):Du l x y=some (jM (regs l) x y):=by
  unfold Du
  have h2:=Ud l.Pieces (Nl l x y) (fun p=>cov p.Rects x y) (fun k=>.inl (some (k:Int))) (.inr ()) (fun k p hp=>?s) ?f
  · rw [h2]
    unfold jM Oo xR regs
    rw [List.findIdx?_map]
    show _=some ((l.Pieces.findIdx? fun p=>cov p.Rects x y).map fun i=>(i:Int))
    cases l.Pieces.findIdx? (fun p=>cov p.Rects x y) <;> rfl
  case s =>
    have h1:=aP hp
    have hpm:=List.mem_of_getElem? hp
    have hl:=r12 p hpm
    have h3:aD (Hr x y p) 0=some (if p.Rects.any (fun r=>inC r x y) then .inl () else .inr ()):=by
      refine Za p.Rects (Hr x y p) (fun r=>inC r x y) (.inr ()) (.inl ()) (fun k r hr=>?_) ?_
      · have h1:=aP hr
        obtain ⟨e1,e2⟩:=EP (hv p hpm r (List.mem_of_getElem? hr))
        unfold Hr
        simp only [h1,Int.ofNat_lt,decide_true,if_true,aJ hr,Option.bind_some,e1,e2]
        have hb':(if decide (r.X≤x) then (if decide (x<r.X+r.W) then (if decide (r.Y≤y) then some (decide (y<r.Y+r.H)) else some false) else some false) else some false)=some (inC r x y):=by
          unfold inC
          cases decide (r.X≤x) <;> cases decide (x<r.X+r.W) <;> cases decide (r.Y≤y) <;> simp
        rw [hb',Option.bind_some,aS k (by omega)]
      · simp [Hr]
    unfold Nl
    simp only [h1,Int.ofNat_lt,decide_true,if_true,aJ hp,Option.bind_some,h3,aS k (by omega)]
    show _=if (p.Rects.any fun r=>inC r x y)=true then _ else _
    cases p.Rects.any (fun r=>inC r x y) <;> rfl
  case f=>simp [Nl]
theorem FN:aD (yA l) (0,[],[])=some (xsL (regs l).flatten,ysL (regs l).flatten):=by
  have hfl:∀ k,k≤l.Pieces.length→(xsL ((l.Pieces.take k).map fun x=>x.Rects).flatten).length≤200∧(ysL ((l.Pieces.take k).map fun x=>x.Rects).flatten).length≤200:=fun k hk=>by
    have:=JU (l:=⟨l.Sheet,l.Pieces.take k⟩) (by simp only [List.length_take];omega) (fun x hx=>r12 x (List.mem_of_mem_take hx))
    unfold regs at this
    simp only at this
    rw [Ta,Tc];omega
  obtain ⟨r,q1,q2⟩:=uF l.Pieces (fun k (s:List Int×List Int)=>((k:Int),s.1,s.2)) (yA l) (fun s=>(s.1,s.2)) (fun k s=>s=(xsL ((l.Pieces.take k).map fun x=>x.Rects).flatten,ysL ((l.Pieces.take k).map fun x=>x.Rects).flatten)) ([],[]) (by simp [xsL,ysL])
    (fun k p s hp hI=>by
      have h1:=aP hp
      have hd:decide ((k:Int)<(l.Pieces.length:Int))=true:=by simp [h1]
      have hpm:=List.mem_of_getElem? hp
      have hl:=r12 p hpm
      have hf:=hfl k (by omega)
      subst hI
      obtain ⟨r,t1,t2⟩:=uF p.Rects (fun k (s:List Int×List Int)=>((k:Int),s.1,s.2)) (Bt p) (fun s=>(s.1,s.2)) (fun j s=>s=(xsL ((l.Pieces.take k).map fun x=>x.Rects).flatten++xsL (p.Rects.take j),ysL ((l.Pieces.take k).map fun x=>x.Rects).flatten++ysL (p.Rects.take j))) (xsL ((l.Pieces.take k).map fun x=>x.Rects).flatten,ysL ((l.Pieces.take k).map fun x=>x.Rects).flatten) (by simp [xsL,ysL])
        (fun j r s hr hI=>by
          have h2:=aP hr
          have hd:decide ((j:Int)<(p.Rects.length:Int))=true:=by simp [h2]
          obtain ⟨e1,e2⟩:=EP (hv p hpm r (List.mem_of_getElem? hr))
          subst hI
          unfold Bt
          simp only [hd,if_true,aJ hr,Option.bind_some,e1,e2]
          have l1:(xsL (p.Rects.take j)).length≤200:=by rw [Ta,List.length_take];omega
          have l2:(ysL (p.Rects.take j)).length≤200:=by rw [Tc,List.length_take];omega
          rw [nA (by simp only [List.length_append,List.length_cons,List.length_nil,LIM];omega),nA (by simp only [List.length_append,List.length_cons,List.length_nil,LIM];omega)]
          simp only [Option.bind_some,aS j (by omega)]
          refine ⟨(xsL ((l.Pieces.take k).map fun x=>x.Rects).flatten++xsL (p.Rects.take (j+1)),ysL ((l.Pieces.take k).map fun x=>x.Rects).flatten++ysL (p.Rects.take (j+1))), ?_,rfl⟩
          rw [mZ hr,Qm,Qn]
          simp [xsL,ysL]) (fun s _=>by simp [Bt])
      rw [List.take_length] at t2
      unfold yA
      simp only [hd,if_true,aJ hp,Option.bind_some,aS k (by omega)]
      rw [show ((0:Int),xsL ((l.Pieces.take k).map fun x=>x.Rects).flatten,ysL ((l.Pieces.take k).map fun x=>x.Rects).flatten)=(((0:Nat):Int),xsL ((l.Pieces.take k).map fun x=>x.Rects).flatten,ysL ((l.Pieces.take k).map fun x=>x.Rects).flatten) from rfl,t1,t2]
      refine ⟨(xsL ((l.Pieces.take (k+1)).map fun x=>x.Rects).flatten,ysL ((l.Pieces.take (k+1)).map fun x=>x.Rects).flatten), ?_,rfl⟩
      rw [mZ hp,List.map_append,List.flatten_append,Qm,Qn]
      simp) (fun s _=>by simp [yA])
  rw [List.take_length] at q2
  rw [show ((0:Int),([]:List Int),([]:List Int))=(((0:Nat):Int),(([],[]):List Int×List Int).1,(([],[]):List Int×List Int).2) from rfl,q1,q2]
  rfl
theorem SN:∃ xs ys,Lay (regs l) xs ys∧Di l=some (Yj (regs l) xs ys)∧(Yj (regs l) xs ys).length≤200000:=by
  have hn:=JU n8 r12
  obtain ⟨xs,x1,x2,x3⟩:=VR (l:=xsL (regs l).flatten) (by rw [Ta];omega)
  obtain ⟨ys,y1,y2,y3⟩:=VR (l:=ysL (regs l).flatten) (by rw [Tc];omega)
  have hL:=C9 n8 r12 hv ⟨x2,x3⟩ ⟨y2,y3⟩
  have lx:xs.length≤200:=by have:=xO x2 fun x m=>(x3 x).1 m;rw [Ta] at this;omega
  have ly:ys.length≤200:=by have:=xO y2 fun x m=>(y3 x).1 m;rw [Tc] at this;omega
  have rowH:∀ y,(-1048576≤y∧y≤1048576)→∃ L,eX xs l.Sheet.Name l.Sheet.Material l.Sheet.Gauge l.Sheet.Grain l.Sheet.Width l.Sheet.Height l.Sheet.Clamps l.Sheet.Used l.Pieces y y=some ((oG (hS (regs l) y)).map fun p=>mkE ⟨p.1,y,p.2,y⟩ (jM (regs l) p.1 y) (jM (regs l) p.1 (y-1)))∧L=oG (hS (regs l) y)∧L.length≤xs.length:=fun y hy=>by
    have hA:=G7 hL y
    obtain ⟨L,g1,g2,g3⟩:=YT hA (side:=fun i=>Fp i l.Sheet.Name l.Sheet.Material l.Sheet.Gauge l.Sheet.Grain l.Sheet.Width l.Sheet.Height l.Sheet.Clamps l.Sheet.Used l.Pieces y) (fun i x hx _=>by
      show (Du l x y).bind (fun r5=>(Du l x (aH y 1)).bind fun r6=>some (r5,r6))=_
      rw [aT (by omega) (by omega),at_eq n8 r12 hv,at_eq n8 r12 hv];rfl) (line:=fun a b=>Fq a b y) (ln:=fun a b=>⟨a,y,b,y⟩) (fun a b=>rfl)
    have e:oG (hS (regs l) y)=L:=Su g2
    exact ⟨L,by rw [NT,g1,e],e.symm,g3⟩
  have rowV:∀ x,(-1048576≤x∧x≤1048576)→∃ L,eY ys l.Sheet.Name l.Sheet.Material l.Sheet.Gauge l.Sheet.Grain l.Sheet.Width l.Sheet.Height l.Sheet.Clamps l.Sheet.Used l.Pieces x x=some ((oG (vS (regs l) x)).map fun p=>mkE ⟨x,p.1,x,p.2⟩ (jM (regs l) x p.1) (jM (regs l) (x-1) p.1))∧L=oG (vS (regs l) x)∧L.length≤ys.length:=fun x hx=>by
    have hA:=G8 hL x
    obtain ⟨L,g1,g2,g3⟩:=YT hA (side:=fun i=>Fv i l.Sheet.Name l.Sheet.Material l.Sheet.Gauge l.Sheet.Grain l.Sheet.Width l.Sheet.Height l.Sheet.Clamps l.Sheet.Used l.Pieces x) (fun i y hy _=>by
      show (Du l x y).bind (fun r5=>(Du l (aH x 1) y).bind fun r6=>some (r5,r6))=_
      rw [aT (by omega) (by omega),at_eq n8 r12 hv,at_eq n8 r12 hv];rfl) (line:=fun a b=>Fz a b x) (ln:=fun a b=>⟨x,a,x,b⟩) (fun a b=>rfl)
    have e:oG (vS (regs l) x)=L:=Su g2
    exact ⟨L,by rw [NU,g1,e],e.symm,g3⟩
  obtain ⟨r,q1,q2,q3⟩:=uF ys (fun k (s:List EdgeT)=>((k:Int),s)) (Bv l xs ys) (fun s=>s) (fun k s=>s=(ys.take k).flatMap (fun y=>(oG (hS (regs l) y)).map fun p=>mkE ⟨p.1,y,p.2,y⟩ (jM (regs l) p.1 y) (jM (regs l) p.1 (y-1)))∧s.length≤200*k) [] ⟨rfl,by simp⟩
    (fun k y s hy hI=>by
      have hk:=aP hy
      have hd:decide ((k:Int)<(ys.length:Int))=true:=by simp [hk]
      obtain ⟨L,g1,g2,g3⟩:=rowH y (hL.Y.within y (List.mem_of_getElem? hy))
      have hrl:((oG (hS (regs l) y)).map fun p=>mkE ⟨p.1,y,p.2,y⟩ (jM (regs l) p.1 y) (jM (regs l) p.1 (y-1))).length≤200:=by rw [List.length_map,← g2];omega
      have hsl:=hI.2
      unfold Bv
      simp only [hd,if_true,aJ hy,Option.bind_some,g1,aS k (by omega)]
      rw [nA (by unfold LIM;omega)]
      refine ⟨_,rfl, ?_,by rw [List.length_append];omega⟩
      rw [mZ hy,List.flatMap_append,hI.1]
      simp) (fun s _=>by simp [Bv])
  rw [List.take_length] at q2
  obtain ⟨r',t1,t2,t3⟩:=uF xs (fun k (s:List EdgeT)=>((k:Int),s)) (Bw l xs ys) (fun s=>s) (fun k s=>s=r++(xs.take k).flatMap (fun x=>(oG (vS (regs l) x)).map fun p=>mkE ⟨x,p.1,x,p.2⟩ (jM (regs l) x p.1) (jM (regs l) (x-1) p.1))∧s.length≤40000+200*k) r ⟨by simp,by omega⟩
    (fun k x s hx hI=>by
      have hk:=aP hx
      have hd:decide ((k:Int)<(xs.length:Int))=true:=by simp [hk]
      obtain ⟨L,g1,g2,g3⟩:=rowV x (hL.X.within x (List.mem_of_getElem? hx))
      have hrl:((oG (vS (regs l) x)).map fun p=>mkE ⟨x,p.1,x,p.2⟩ (jM (regs l) x p.1) (jM (regs l) (x-1) p.1)).length≤200:=by rw [List.length_map,← g2];omega
      have hsl:=hI.2
      unfold Bw
      simp only [hd,if_true,aJ hx,Option.bind_some,g1,aS k (by omega)]
      rw [nA (by unfold LIM;omega)]
      refine ⟨_,rfl, ?_,by rw [List.length_append];omega⟩
      rw [mZ hx,List.flatMap_append,hI.1]
      simp) (fun s _=>by simp [Bw])
  rw [List.take_length] at t2
  have e:r'=Yj (regs l) xs ys:=by rw [t2,q2];rfl
  refine ⟨xs,ys,hL, ?_,by rw [← e];omega⟩
  unfold Di
  rw [FN n8 r12 hv]
  simp only [Option.bind_some,x1,y1]
  rw [show ((0:Int),([]:List EdgeT))=(((0:Nat):Int),[]) from rfl,q1]
  simp only [Option.bind_some]
  rw [show ((0:Int),r)=(((0:Nat):Int),r) from rfl,t1,e]
  rfl
end
end Go.SM
namespace Go.SM
open Go Go.VI Go.Cells
noncomputable def Il (R:List (List Rect)) (xs ys:List Int):List Ln:=
  ys.flatMap (fun y=>(oG (hS R y)).map fun p=>⟨⟨p.1,y,p.2,y⟩,nm (jM R p.1 (y-1)),nm (jM R p.1 y)⟩)++xs.flatMap fun x=>(oG (vS R x)).map fun p=>⟨⟨x,p.1,x,p.2⟩,nm (jM R (x-1) p.1),nm (jM R x p.1)⟩
section
variable {R:List (List Rect)} {xs ys:List Int} (h:Lay R xs ys) (hk:∀ t ∈ R,t.length≤1000) (lx:xs.length≤1000) (ly:ys.length≤1000)
include h
theorem RZ {i j:Nat} {x y:Int} (hx:xs[i]?=some x) (hi:i+1<xs.length) (hy:ys[j]?=some y):cellV R xs ys (i+1) (j+1)=nm (jM R x y)∧cellV R xs ys (i+1) j=nm (jM R x (y-1)):=by
  obtain ⟨_,_,_,o1,o2,_⟩:=Xb h
  have hjl:=aP hy
  have neg:∀ {x y:Int},xR R x y=none→nm (jM R x y)=-1:=fun {x y} e=>by rw [uP e];rfl
  constructor
  · unfold cellV
    by_cases hj:j+1<ys.length
    · rw [if_pos ⟨by omega,by omega,hi,hj⟩]
      simp only [Nat.add_sub_cancel,mP hx,mP hy,EE]
    · rw [if_neg (by omega),neg (o2 y (by rw [show ys.length-1=j by omega];exact hy) x y (Int.le_refl y))]
  · unfold cellV
    by_cases hj:0<j
    · rw [if_pos ⟨by omega,hj,hi,hjl⟩]
      obtain ⟨y0,hy0⟩:∃ y0,ys[j-1]?=some y0:=⟨_,List.getElem?_eq_getElem (by omega)⟩
      obtain ⟨h1,h2⟩:=zK (MQ h) hy0 (by rw [show j-1+1=j by omega];exact hy)
      simp only [Nat.add_sub_cancel,mP hx,mP hy0]
      rw [← EE]
      have:=congrFun (h2 (y-1) (by omega) (by omega)) x
      unfold jM
      rw [this]
    · obtain rfl:j=0:=by omega
      rw [if_neg (by omega),neg (o1 y hy x (y-1) (by omega))]
theorem OE {i j:Nat} {x y:Int} (hx:xs[i]?=some x) (hy:ys[j]?=some y) (hj:j+1<ys.length):cellV R xs ys (i+1) (j+1)=nm (jM R x y)∧cellV R xs ys i (j+1)=nm (jM R (x-1) y):=by
  obtain ⟨o1,o2,_⟩:=Xb h
  have hil:=aP hx
  have neg:∀ {x y:Int},xR R x y=none→nm (jM R x y)=-1:=fun {x y} e=>by rw [uP e];rfl
  constructor
  · unfold cellV
    by_cases hi:i+1<xs.length
    · rw [if_pos ⟨by omega,by omega,hi,hj⟩]
      simp only [Nat.add_sub_cancel,mP hx,mP hy,EE]
    · rw [if_neg (by omega),neg (o2 x (by rw [show xs.length-1=i by omega];exact hx) x y (Int.le_refl x))]
  · unfold cellV
    by_cases hi:0<i
    · rw [if_pos ⟨hi,by omega,hil,hj⟩]
      obtain ⟨x0,hx0⟩:∃ x0,xs[i-1]?=some x0:=⟨_,List.getElem?_eq_getElem (by omega)⟩
      obtain ⟨h1,h2⟩:=zK (MP h) hx0 (by rw [show i-1+1=i by omega];exact hx)
      simp only [Nat.add_sub_cancel,mP hy,mP hx0]
      rw [← EE]
      have:=congrFun (h2 (x-1) (by omega) (by omega)) y
      unfold jM
      rw [this]
    · obtain rfl:i=0:=by omega
      rw [if_neg (by omega),neg (o1 x hx (x-1) y (by omega))]
include lx ly
theorem YE {j:Nat} {y:Int} (hy:ys[j]?=some y) (s:List Ln) {out0:List Ln} (h0:out0.length≤5000000) (hout:∀ q ∈ out0,q.At.Y2<y) :
    aD (gQ (xs,ys) (Hf R xs ys) ((j:Int),s)) (0,out0)=some (out0++(oG (hS R y)).map fun p=>⟨⟨p.1,y,p.2,y⟩,nm (jM R p.1 (y-1)),nm (jM R p.1 y)⟩)∧(oG (hS R y)).length≤xs.length:=by
  have hjl:=aP hy
  obtain ⟨L,g1,g2,g3⟩:=VJ (G7 h y) (ln:=fun a b=>⟨a,y,b,y⟩) (body:=gQ (xs,ys) (Hf R xs ys) ((j:Int),s)) (fun k x x' out hx hx'=>by
      have hkl:=aP hx'
      obtain ⟨c1,c2⟩:=RZ h hx hkl hy
      have d:decide (((k+1:Nat):Int)<(xs.length:Int))=true:=by simp;omega
      have g0:=Nj (R:=R) xs ys (k+1) (by omega)
      have r1:=Hg (R:=R) xs ys (k+1) j (by omega)
      have r2:=Hg (R:=R) xs ys (k+1) (j+1) (by omega)
      unfold gQ
      simp only [aS k (by omega),aS j (by omega),d,if_true,aJ hx,aJ hy,aJ hx',aJ g0,aJ r1,aJ r2,Option.bind_some,c1,c2]) (fun k out hk1 hk2=>by
      have d:decide (aF (k:Int) 1<(xs.length:Int))=false:=by rw [aS k (by omega)];simp;omega
      unfold gQ
      simp only [d,Bool.false_eq_true,if_false]) (fun a b e e'=>by unfold cS;simp) (fun a e e'=>rfl) h0 (fun q hq x x' _ hc=>by have:=hout q hq;have:=hc.2.1;simp only at this;omega)
  have e:oG (hS R y)=L:=Su g2
  rw [e];exact ⟨g1,g3⟩
theorem YF {i:Nat} {x:Int} (hx:xs[i]?=some x) (s:List Ln) {out0:List Ln} (h0:out0.length≤5000000) (hout:∀ q ∈ out0,(q.At.X2<x)∨(q.At.Y1=q.At.Y2∧q.At.X1<q.At.X2)) :
    aD (gV (xs,ys) (Hf R xs ys) ((i:Int),s)) (0,out0)=some (out0++(oG (vS R x)).map fun p=>⟨⟨x,p.1,x,p.2⟩,nm (jM R (x-1) p.1),nm (jM R x p.1)⟩)∧(oG (vS R x)).length≤ys.length:=by
  have hil:=aP hx
  obtain ⟨L,g1,g2,g3⟩:=VJ (G8 h x) (ln:=fun a b=>⟨x,a,x,b⟩) (body:=gV (xs,ys) (Hf R xs ys) ((i:Int),s)) (fun k y y' out hy hy'=>by
      have hkl:=aP hy'
      obtain ⟨c1,c2⟩:=OE h hx hy hkl
      have d:decide (((k+1:Nat):Int)<(ys.length:Int))=true:=by simp;omega
      have g0:=Nj (R:=R) xs ys i (by omega)
      have g0':=Nj (R:=R) xs ys (i+1) (by omega)
      have r1:=Hg (R:=R) xs ys i (k+1) (by omega)
      have r2:=Hg (R:=R) xs ys (i+1) (k+1) (by omega)
      unfold gV
      simp only [aS k (by omega),aS i (by omega),d,if_true,aJ hx,aJ hy,aJ hy',aJ g0,aJ g0',aJ r1,aJ r2,Option.bind_some,c1,c2]) (fun k out hk1 hk2=>by
      have d:decide (aF (k:Int) 1<(ys.length:Int))=false:=by rw [aS k (by omega)];simp;omega
      unfold gV
      simp only [d,Bool.false_eq_true,if_false]) (fun a b e e'=>by unfold cS;simp) (fun a e e'=>rfl) h0 (fun q hq y y' hyy hc=>by
      obtain ⟨c1,c2,c3⟩:=hc
      simp only at c1 c2 c3
      have:=hout q hq
      omega)
  have e:oG (vS R x)=L:=Su g2
  rw [e];exact ⟨g1,g3⟩
theorem AL:∃ r,aD (gU (xs,ys) (Hf R xs ys)) (0,[])=some r∧aD (gW (xs,ys) (Hf R xs ys)) (0,r)=some (Il R xs ys)∧(Il R xs ys).length≤2000000:=by
  have isr:∀ {s:Int→Int} {p:Int×Int},p ∈ oG s→p.1<p.2:=fun {s p} hp=>by
    unfold oG at hp
    split at hp
    · rename_i hx
      exact (((Classical.choose_spec hx).2 p.1 p.2).1 hp).1
    · cases hp
  obtain ⟨r,q1,q2,q3,q4⟩:=uF ys (fun k (s:List Ln)=>((k:Int),s)) (gU (xs,ys) (Hf R xs ys)) (fun s=>s) (fun k s=>s=(ys.take k).flatMap (fun y=>(oG (hS R y)).map fun p=>⟨⟨p.1,y,p.2,y⟩,nm (jM R p.1 (y-1)),nm (jM R p.1 y)⟩)∧s.length≤1000*k∧∀ q ∈ s,q.At.Y1=q.At.Y2∧q.At.X1<q.At.X2∧q.At.Y2 ∈ ys.take k) [] ⟨rfl,by simp,fun q hq=>by cases hq⟩
    (fun k y s hy hI=>by
      have hk:=aP hy
      have hd:decide ((k:Int)<(ys.length:Int))=true:=by simp [hk]
      obtain ⟨i1,i2,i3⟩:=hI
      obtain ⟨g1,g2⟩:=YE h lx ly hy s (out0:=s) (by omega) (fun q hq=>by
        obtain ⟨_,_,hm⟩:=i3 q hq
        obtain ⟨n,hn⟩:=List.mem_iff_getElem?.1 hm
        have hnl:=aP hn
        rw [List.length_take] at hnl
        rw [List.getElem?_take,if_pos (by omega)] at hn
        exact Qq h.Y.asc (show n<k by omega) hn hy)
      unfold gU
      simp only [hd,if_true,g1,Option.bind_some,aS k (by omega)]
      refine ⟨_,rfl, ?_,by simp;omega,fun q hq=>?_⟩
      · rw [mZ hy,List.flatMap_append,i1]
        simp
      · rw [mZ hy]
        rcases List.mem_append.1 hq with hq | hq
        · obtain ⟨a,b,c⟩:=i3 q hq
          exact ⟨a,b,List.mem_append_left _ c⟩
        · obtain ⟨p,hp,rfl⟩:=List.mem_map.1 hq
          exact ⟨rfl,isr hp,List.mem_append_right _ (by simp)⟩) (fun s _=>by simp [gU])
  rw [List.take_length] at q2 q4
  obtain ⟨r',t1,t2,t3,t4⟩:=uF xs (fun k (s:List Ln)=>((k:Int),s)) (gW (xs,ys) (Hf R xs ys)) (fun s=>s) (fun k s=>s=r++(xs.take k).flatMap (fun x=>(oG (vS R x)).map fun p=>⟨⟨x,p.1,x,p.2⟩,nm (jM R (x-1) p.1),nm (jM R x p.1)⟩)∧s.length≤1000000+1000*k∧∀ q ∈ s,q.At.X2 ∈ xs.take k∨(q.At.Y1=q.At.Y2∧q.At.X1<q.At.X2)) r ⟨by simp,by omega,fun q hq=>.inr ⟨(q4 q hq).1,(q4 q hq).2.1⟩⟩
    (fun k x s hx hI=>by
      have hk:=aP hx
      have hd:decide ((k:Int)<(xs.length:Int))=true:=by simp [hk]
      obtain ⟨i1,i2,i3⟩:=hI
      obtain ⟨g1,g2⟩:=YF h lx ly hx s (out0:=s) (by omega) (fun q hq=>by
        rcases i3 q hq with hm | hm
        · left
          obtain ⟨n,hn⟩:=List.mem_iff_getElem?.1 hm
          have hnl:=aP hn
          rw [List.length_take] at hnl
          rw [List.getElem?_take,if_pos (by omega)] at hn
          exact Qq h.X.asc (show n<k by omega) hn hx
        · exact .inr hm)
      unfold gW
      simp only [hd,if_true,g1,Option.bind_some,aS k (by omega)]
      refine ⟨_,rfl, ?_,by simp;omega,fun q hq=>?_⟩
      · rw [mZ hx,List.flatMap_append,i1]
        simp
      · rw [mZ hx]
        rcases List.mem_append.1 hq with hq | hq
        · exact (i3 q hq).imp (fun c=>List.mem_append_left _ c) id
        · obtain ⟨p,hp,rfl⟩:=List.mem_map.1 hq
          exact .inl (List.mem_append_right _ (by simp))) (fun s _=>by simp [gW])
  rw [List.take_length] at t2
  have e:r'=Il R xs ys:=by rw [t2,q2];rfl
  exact ⟨r,by rw [show ((0:Int),([]:List Ln))=(((0:Nat):Int),[]) from rfl,q1],by rw [show ((0:Int),r)=(((0:Nat):Int),r) from rfl,t1,e],by rw [← e];omega⟩
end
theorem JC {R:List (List Rect)} {xs ys:List Int} (h:Lay R xs ys) (hk:∀ t ∈ R,t.length≤1000):mV R=some (Il R xs ys)∧(Il R xs ys).length≤2000000:=by
  have hm:=h.m
  have hn:=h.n
  have hfl:∀ k,(R.take k).flatten.length≤R.flatten.length:=fun k=>by
    conv=>rhs;rw [← List.take_append_drop k R,List.flatten_append,List.length_append]
    omega
  obtain ⟨r,q1,q2⟩:=uF R (fun k (s:List Rect)=>((k:Int),s)) (kM R) (fun s=>s) (fun k s=>s=(R.take k).flatten) [] (by simp)
    (fun k t s ht hI=>by
      have h1:=aP ht
      have hd:decide ((k:Int)<(R.length:Int))=true:=by simp [h1]
      have:=hfl k
      have:=hk t (List.mem_of_getElem? ht)
      unfold kM
      simp only [hd,if_true,aJ ht,Option.bind_some,aS k (by omega)]
      subst hI
      rw [nA (by unfold LIM;omega)]
      refine ⟨_,rfl, ?_⟩
      rw [mZ ht,List.flatten_append];simp) (fun s _=>by simp [kM])
  rw [List.take_length] at q2
  obtain ⟨xs1,ys1,g1,g2,g3⟩:=WE h.v hn
  obtain rfl:=Vi h.x g2
  obtain rfl:=Vi h.y g3
  obtain ⟨r',b1,b2,b3⟩:=AL h h.X.len h.Y.len
  refine ⟨?_,b3⟩
  unfold mV
  rw [show ((0:Int),([]:List Rect))=(((0:Nat):Int),[]) from rfl,q1,q2]
  simp only [Option.bind_some,g1,PM h.v hm hk h.X.len h.Y.len,b1,b2]
theorem OQ (s:Segment) {a b:Option Int} (ha:SmO a) (hb:SmO b) (hne:a≠b):(if nG (nm b) (nm a)<0 then (⟨s,iU (nm b) (nm a),nG (nm b) (nm a)⟩:EdgeT) else ⟨s,nG (nm b) (nm a),iU (nm b) (nm a)⟩)=mkE s a b:=by
  have h1:mkE s a b=if nm a<0∨(nm b ≥ 0∧nm b<nm a) then ⟨s,nm b,nm a⟩ else ⟨s,nm a,nm b⟩:=rfl
  have hne':nm a≠nm b:=fun q=>hne ((ED ha hb).1 q)
  have bd:∀ {o:Option Int},SmO o→-1≤nm o:=fun {o} ho=>by
    cases o with
    | none=>simp [nm]
    | some i=>have:=ho i rfl;simp only [nm];omega
  have ba:=bd ha
  have bb:=bd hb
  rw [h1,Cc,Rq]
  generalize nm a=p at *
  generalize nm b=q at *
  by_cases c1:p<0
  · rw [if_pos (by omega),if_pos (.inl c1),show max q p=q by omega,show min q p=p by omega]
  · by_cases c2:q<0
    · rw [if_pos (by omega),if_neg (by omega),show max q p=p by omega,show min q p=q by omega]
    · rw [if_neg (by omega)]
      by_cases c3:q<p
      · rw [if_pos (.inr ⟨by omega,c3⟩),show max q p=p by omega,show min q p=q by omega]
      · rw [if_neg (by omega),show max q p=q by omega,show min q p=p by omega]
section
variable {l:LayoutT} (n8:l.Pieces.length≤8) (r12:∀ x ∈ l.Pieces,x.Rects.length≤12) (hv:∀ x ∈ l.Pieces,AC x.Rects)
include n8 r12 hv
theorem QD {xs ys:List Int} (hL:Lay (regs l) xs ys):eG l=some (Yj (regs l) xs ys):=by
  obtain ⟨r,q1,q2⟩:=uF l.Pieces (fun k (s:List (List Rect))=>((k:Int),s)) (mE l) (fun s=>s) (fun k s=>s=(l.Pieces.take k).map fun x=>x.Rects) [] (by simp)
    (fun k x s hx hI=>by
      have h1:=aP hx
      have hd:decide ((k:Int)<(l.Pieces.length:Int))=true:=by simp [h1]
      unfold mE
      simp only [hd,if_true,aJ hx,Option.bind_some,aS k (by omega)]
      subst hI
      rw [nA (by simp [LIM];omega)]
      refine ⟨_,rfl, ?_⟩
      rw [mZ hx,List.map_append];rfl) (fun s _=>by simp [mE])
  rw [List.take_length] at q2
  obtain ⟨b1,b2⟩:=JC hL (D8 r12)
  -- from lines to edges
  let f:Ln→EdgeT:=fun x=>if nG x.Low x.High<0 then ⟨x.At,iU x.Low x.High,nG x.Low x.High⟩ else ⟨x.At,nG x.Low x.High,iU x.Low x.High⟩
  have hmap:(Il (regs l) xs ys).map f=Yj (regs l) xs ys:=by
    have key:∀ {s:Int→Int} {A B:Int→Option Int} (ln:Int→Int→Segment) (hs:s=fun z=>cod (A z) (B z)) (ha:∀ z,SmO (A z)) (hb:∀ z,SmO (B z)),((oG s).map fun p=>(⟨ln p.1 p.2,nm (B p.1),nm (A p.1)⟩:Ln)).map f=(oG s).map fun p=>mkE (ln p.1 p.2) (A p.1) (B p.1):=fun {s A B} ln hs ha hb=>by
      rw [List.map_map]
      refine List.map_congr_left fun p hp=>?_
      have hr:s p.1≠0:=by
        unfold oG at hp
        split at hp
        · rename_i hx
          exact (((Classical.choose_spec hx).2 p.1 p.2).1 hp).2.1
        · cases hp
      have hne:A p.1≠B p.1:=fun q=>hr (by rw [hs];simp only;rw [(Xw (ha _) (hb _)).2 q])
      exact OQ _ (ha _) (hb _) hne
    unfold Il Yj
    rw [List.map_append,List.map_flatMap,List.map_flatMap]
    congr 1
    · congr 1;funext y
      exact key (fun a b=>⟨a,y,b,y⟩) (A:=fun z=>jM (regs l) z y) (B:=fun z=>jM (regs l) z (y-1)) rfl (fun z=>xN hL.m _ _) (fun z=>xN hL.m _ _)
    · congr 1;funext x
      exact key (fun a b=>⟨x,a,x,b⟩) (A:=fun z=>jM (regs l) x z) (B:=fun z=>jM (regs l) (x-1) z) rfl (fun z=>xN hL.m _ _) (fun z=>xN hL.m _ _)
  obtain ⟨r',t1,t2⟩:=uF (Il (regs l) xs ys) (fun k (s:List EdgeT)=>((k:Int),s)) (mF (Il (regs l) xs ys)) (fun s=>s) (fun k s=>s=((Il (regs l) xs ys).take k).map f) [] (by simp)
    (fun k x s hx hI=>by
      have h1:=aP hx
      have hd:decide ((k:Int)<((Il (regs l) xs ys).length:Int))=true:=by rw [decide_eq_true_eq];omega
      unfold mF
      simp only [hd,if_true,aJ hx,Option.bind_some,rP,aS k (by omega)]
      subst hI
      have hl:(((Il (regs l) xs ys).take k).map f).length≤2000000:=by rw [List.length_map,List.length_take];omega
      rw [nA (by simp only [List.length_cons,List.length_nil,LIM];omega),nA (by simp only [List.length_cons,List.length_nil,LIM];omega)]
      simp only [Option.bind_some]
      refine ⟨((Il (regs l) xs ys).take k).map f++[f x], ?_,by rw [mZ hx,List.map_append];rfl⟩
      show _=some (Sum.inl (((k+1:Nat):Int),_++[if nG x.Low x.High<0 then _ else _]))
      by_cases hc:nG x.Low x.High<0
      · simp only [hc,decide_true,if_true]
      · simp only [hc,decide_false,Bool.false_eq_true,if_false]) (fun s _=>by simp [mF])
  rw [List.take_length,hmap] at t2
  unfold eG
  rw [show ((0:Int),([]:List (List Rect)))=(((0:Nat):Int),[]) from rfl,q1,q2]
  show (mV (regs l)).bind _=_
  simp only [b1,Option.bind_some]
  rw [show ((0:Int),([]:List EdgeT))=(((0:Nat):Int),[]) from rfl,t1,t2]
  rfl
end
theorem LV.hv {l:LayoutT} (h:LV l):∀ x ∈ l.Pieces,AC x.Rects:=fun x hx r hr=>(h.off x hx r hr).1.1
theorem J7 {l:LayoutT} (h:uW l):∀ x ∈ l.Pieces,Sm x:=fun x hx=>by
  obtain ⟨_,_,_,_,r1,r2,r3⟩:=h.2.2 x hx
  exact ⟨⟨r1.1,fun r hr=>r1.2 r hr⟩,⟨r2.1,fun r hr=>r2.2 r hr⟩,⟨r3.1,fun r hr=>r3.2 r hr⟩⟩
theorem JE (l:LayoutT) (h:uW l):∃ es b,tH l=some b∧dW l=some b∧sH l=some (es,b)∧yS l=some (es,b)∧es.length≤200000∧(b≠0→es=[])∧(b=0→LV l∧Di l=some es∧eG l=some es∧∃ xs ys,Lay (regs l) xs ys∧es=Yj (regs l) xs ys):=by
  obtain ⟨b,b1,b2,b3⟩:=CV l (J7 h)
  unfold sH yS
  rw [b1,b2]
  simp only [Option.bind_some]
  by_cases hb:b=0
  · subst hb
    have hl:=b3 rfl
    obtain ⟨xs,ys,h1,h2,h3⟩:=SN hl.n hl.r12 hl.hv
    have h4:=QD hl.n hl.r12 hl.hv h1
    refine ⟨Yj (regs l) xs ys,0,rfl,rfl, ?_, ?_,h3,fun q=>absurd rfl q,fun _=>⟨hl,h2,h4,xs,ys,h1,rfl⟩⟩
    · simp [h2]
    · simp [h4]
  · have hb':(b != 0)=true:=by rw [bne_iff_ne];exact hb
    exact ⟨[],b,rfl,rfl,by simp [hb'],by simp [hb'],by simp,fun _=>rfl,fun q=>absurd q hb⟩
end Go.SM
namespace Go.SM
open Go Go.VI Go.Cells
abbrev RS:=sheetmetalref07_State
def toC (s:RS):cut_State:=⟨s.Cut,s.Holes,s.Done,s.Joints,s.Fallen⟩
def noS:RS:=⟨[],[],[],[],[]⟩
structure SL1 (s:RS):Prop where
  c:s.Cut.length≤1048576
  h:s.Holes.length≤1048576
  hh:∀ t ∈ s.Holes,t.length≤1048576
  d:s.Done.length≤1048576
  j:s.Joints.length≤1048576
  f:s.Fallen.length≤1048576
structure Fit (l:LayoutT) (n:Nat) (s:RS):Prop where
  c:s.Cut.length=n
  h:s.Holes.length=l.Pieces.length
  d:s.Done.length=l.Pieces.length
  j:s.Joints.length=l.Pieces.length
  f:s.Fallen.length=l.Pieces.length
  hh:∀ (k:Nat) t x,s.Holes[k]?=some t→l.Pieces[k]?=some x→t.length=x.Cuts.length
theorem PE {l:LayoutT} (n8:l.Pieces.length≤8) (n:Nat) {s:RS} (hs:SL1 s):∃ b,kE (toC s) l (n:Int)=some b∧fE l s (n:Int)=some b∧(b=true↔Fit l n s):=by
  have hb:∀ a b:Nat,((a:Int) != (b:Int))=!decide (a=b):=fun a b=>by
    by_cases h:a=b
    · subst h;simp
    · have:¬ (a:Int)=(b:Int):=by omega
      simp [h,this]
  by_cases h1:s.Cut.length=n
  · by_cases h2 : s.Holes.length=l.Pieces.length
    · by_cases h3:s.Done.length=l.Pieces.length
      · by_cases h4:s.Joints.length=l.Pieces.length
        · by_cases h5:s.Fallen.length=l.Pieces.length
          · let q:Nat→Bool:=fun k=>match s.Holes[k]?,l.Pieces[k]? with
              | some t,some x=>!decide (t.length=x.Cuts.length)
              | _,_=>false
            have g1:aD (pM (toC s) l) 0=some (if (List.range l.Pieces.length).any q then .inl () else .inr ()):=by
              refine jP l.Pieces.length (pM (toC s) l) (fun k=>(k:Int)) q _ _ rfl (fun k hk=>?_) ?_
              · have e1:s.Holes[k]?=some (s.Holes[k]'(by omega)):=List.getElem?_eq_getElem (by omega)
                have e2:l.Pieces[k]?=some l.Pieces[k]:=List.getElem?_eq_getElem hk
                have e1':(toC s).Holes[k]?=some (s.Holes[k]'(by omega)):=e1
                unfold pM
                have hd:decide ((k:Int)<(l.Pieces.length:Int))=true:=by simp [hk]
                simp only [hd,if_true,aJ e1',aJ e2,Option.bind_some,hb,q,e1,e2,aS k (by omega)]
              · simp [pM]
            have g2:aD (jV l s) 0=some (if (List.range l.Pieces.length).any q then .inl () else .inr ()):=by
              refine jP l.Pieces.length (jV l s) (fun k=>(k:Int)) q _ _ rfl (fun k hk=>?_) ?_
              · have e1:s.Holes[k]?=some (s.Holes[k]'(by omega)):=List.getElem?_eq_getElem (by omega)
                have e2:l.Pieces[k]?=some l.Pieces[k]:=List.getElem?_eq_getElem hk
                unfold jV
                have hd:decide ((k:Int)<(l.Pieces.length:Int))=true:=by simp [hk]
                simp only [hd,if_true,aJ e1,aJ e2,Option.bind_some,hb,q,e1,e2,aS k (by omega)]
              · simp [jV]
            refine ⟨!((List.range l.Pieces.length).any q), ?_, ?_, ?_⟩
            · unfold kE
              rw [g1]
              show (Option.bind (if ((s.Cut.length:Int) != (n:Int))=true then _ else _) _)=_
              simp only [toC,hb,h1,h2,h3,h4,h5,decide_true,Bool.not_true,Bool.false_eq_true,if_false,Option.bind_some]
              cases (List.range l.Pieces.length).any q <;> rfl
            · unfold fE
              rw [g2]
              simp only [hb,h1,h2,h3,h4,h5,decide_true,Bool.not_true,Bool.false_eq_true,if_false,Option.bind_some]
              cases (List.range l.Pieces.length).any q <;> rfl
            · rw [Bool.not_eq_true',List.any_eq_false]
              constructor
              · intro hq
                refine ⟨h1,h2,h3,h4,h5,fun k t x e1 e2=>?_⟩
                have:=hq k (List.mem_range.2 (aP e2))
                simp only [q,e1,e2] at this
                simpa using this
              · intro hf k hk
                have hk':=List.mem_range.1 hk
                have e1:s.Holes[k]?=some (s.Holes[k]'(by omega)):=List.getElem?_eq_getElem (by omega)
                have e2:l.Pieces[k]?=some l.Pieces[k]:=List.getElem?_eq_getElem hk'
                simp only [q,e1,e2,hf.hh k _ _ e1 e2]
                simp
          · refine ⟨false, ?_, ?_,by simp;exact fun hf=>h5 hf.f⟩
            · unfold kE;simp [toC,hb,h1,h2,h3,h4,h5]
            · unfold fE;simp [hb,h1,h2,h3,h4,h5]
        · refine ⟨false, ?_, ?_,by simp;exact fun hf=>h4 hf.j⟩
          · unfold kE;simp [toC,hb,h1,h2,h3,h4]
          · unfold fE;simp [hb,h1,h2,h3,h4]
      · refine ⟨false, ?_, ?_,by simp;exact fun hf=>h3 hf.d⟩
        · unfold kE;simp [toC,hb,h1,h2,h3]
        · unfold fE;simp [hb,h1,h2,h3]
    · refine ⟨false, ?_, ?_,by simp;exact fun hf=>h2 hf.h⟩
      · unfold kE;simp [toC,hb,h1,h2]
      · unfold fE;simp [hb,h1,h2]
  · refine ⟨false, ?_, ?_,by simp;exact fun hf=>h1 hf.c⟩
    · unfold kE;simp [toC,hb,h1]
    · unfold fE;simp [hb,h1]
def ofB (e:EdgeT) (p:Int):Bool:=(e.A==p) || (e.B==p)
theorem UQ (e:EdgeT) (p:Int):Tt e p=some (ofB e p):=by
  unfold Tt ofB
  cases (e.A==p) <;> simp
def held (es:List EdgeT) (c:List Bool) (p:Int) (i:Nat):Bool:=match es[i]?,c[i]? with
  | some e,some b=>ofB e p&&!b
  | _,_=>false
def Dx (es:List EdgeT) (c:List Bool) (p:Int):Bool:=!((List.range es.length).any (held es c p))
section
variable {es:List EdgeT} (hes:es.length≤1000000) {c:List Bool} (hc:c.length=es.length)
include hes hc
theorem free_eq (p:Int) (H:List (List Bool)) (D:List Bool) (J:List Int) (F:List Bool):sJ ⟨c,H,D,J,F⟩ es p=some (Dx es c p):=by
  unfold sJ
  have key:aD (pO ⟨c,H,D,J,F⟩ es p) 0=some (if (List.range es.length).any (held es c p) then .inl () else .inr ()):=by
    refine jP es.length (pO ⟨c,H,D,J,F⟩ es p) (fun k=>(k:Int)) (held es c p) _ _ rfl (fun k hk=>?_) ?_
    · have e1:es[k]?=some es[k]:=List.getElem?_eq_getElem hk
      have e2:c[k]?=some (c[k]'(by omega)):=List.getElem?_eq_getElem (by omega)
      unfold pO held
      have hd:decide ((k:Int)<(es.length:Int))=true:=by simp [hk]
      simp only [hd,if_true,aJ e1,aJ e2,e1,e2,Option.bind_some,UQ,aS k (by omega)]
      cases ofB es[k] p <;> simp
    · simp [pO]
  rw [key]
  unfold Dx
  cases (List.range es.length).any (held es c p) <;> rfl
theorem GV (p:Int) (H:List (List Bool)) (D:List Bool) (J:List Int) (F:List Bool):lG es ⟨c,H,D,J,F⟩ p=some (Dx es c p):=by
  unfold lG
  have key:aD (jD es ⟨c,H,D,J,F⟩ p) 0=some (if (List.range es.length).any (held es c p) then .inl () else .inr ()):=by
    refine jP es.length (jD es ⟨c,H,D,J,F⟩ p) (fun k=>(k:Int)) (held es c p) _ _ rfl (fun k hk=>?_) ?_
    · have e1:es[k]?=some es[k]:=List.getElem?_eq_getElem hk
      have e2:c[k]?=some (c[k]'(by omega)):=List.getElem?_eq_getElem (by omega)
      unfold jD held ofB
      have hd:decide ((k:Int)<(es.length:Int))=true:=by simp [hk]
      simp only [hd,if_true,aJ e1,aJ e2,e1,e2,Option.bind_some,aS k (by omega)]
      cases (es[k].A==p) <;> cases (es[k].B==p) <;> simp
    · simp [jD]
  rw [key]
  unfold Dx
  cases (List.range es.length).any (held es c p) <;> rfl
end
theorem Dr (t:List Bool) (ht:t.length≤1048576):cO t false=some (!(t.all fun b=>b)):=by
  unfold cO sV
  rw [Ud t (kR t false) (fun b=>!b) (fun k=>.inl (k:Int)) (.inr ()) (fun k b hb=>?s) ?f]
  · cases e:t.findIdx? (fun b=>!b) with
    | none =>
      rw [List.findIdx?_eq_none_iff] at e
      have:(t.all fun b=>b)=true:=List.all_eq_true.2 fun b hb=>by have:=e b hb;simpa using this
      simp [this]
    | some i =>
      have:(t.all fun b=>b)=false:=by
        rw [← Bool.not_eq_true,List.all_eq_true]
        intro q
        obtain ⟨hi,h1,_⟩:=List.findIdx?_eq_some_iff_getElem.1 e
        have:=q _ (List.getElem_mem hi)
        simp [this] at h1
      simp [this]
  case s =>
    have h1:=aP hb
    unfold kR
    simp only [h1,Int.ofNat_lt,decide_true,if_true,aJ hb,Option.bind_some,aS k (by omega)]
    cases b <;> rfl
  case f=>simp [kR]
theorem JG (t:List Bool) (ht:t.length≤1048576):nH t=some (t.all fun b=>b):=by
  unfold nH
  rw [Io t (nK t) (fun b=>b) (.inl ()) (.inr ()) (fun k b hb=>?s) ?f]
  · cases t.all (fun b=>b) <;> rfl
  case s =>
    have h1:=aP hb
    unfold nK
    simp only [h1,Int.ofNat_lt,decide_true,if_true,aJ hb,Option.bind_some,aS k (by omega)]
    cases b <;> rfl
  case f=>simp [nK]
theorem HZ (l:LayoutT) (n8:l.Pieces.length≤8) (r12:∀ x ∈ l.Pieces,x.Rects.length≤12) (x:ItemT):∃ b:Bool,aD (pQ l x) 0=some (if b then .inl () else .inr ())∧aD (jB l x.Lead) 0=some (if b then .inl () else .inr ()):=by
  have hin:∀ k:Nat,∃ b:Bool,∀ y,l.Pieces[k]?=some y→lW y.Rects x.Lead=some b∧fM y.Rects x.Lead=some b:=fun k=>by
    cases e:l.Pieces[k]? with
    | none=>exact ⟨false,fun y hy=>by cases hy⟩
    | some y =>
      obtain ⟨b,b1,b2⟩:=Om y.Rects x.Lead (by have:=r12 y (List.mem_of_getElem? e);omega)
      exact ⟨b,fun z hz=>by injection hz with hz;subst hz;exact ⟨b1,b2⟩⟩
  obtain ⟨q,hq⟩:=Classical.axiomOfChoice hin
  refine ⟨(List.range l.Pieces.length).any q, ?_, ?_⟩
  · refine jP l.Pieces.length (pQ l x) (fun k=>(k:Int)) q _ _ rfl (fun k hk=>?_) ?_
    · have e2:l.Pieces[k]?=some l.Pieces[k]:=List.getElem?_eq_getElem hk
      have e3:lW l.Pieces[k].Rects (Spot.mk x.Lead.X x.Lead.Y)=some (q k):=(hq k _ e2).1
      unfold pQ
      have hd:decide ((k:Int)<(l.Pieces.length:Int))=true:=by simp [hk]
      simp only [hd,if_true,aJ e2,Option.bind_some,e3,aS k (by omega)]
    · simp [pQ]
  · refine jP l.Pieces.length (jB l x.Lead) (fun k=>(k:Int)) q _ _ rfl (fun k hk=>?_) ?_
    · have e2:l.Pieces[k]?=some l.Pieces[k]:=List.getElem?_eq_getElem hk
      unfold jB
      have hd:decide ((k:Int)<(l.Pieces.length:Int))=true:=by simp [hk]
      simp only [hd,if_true,aJ e2,Option.bind_some,(hq k _ e2).2,aS k (by omega)]
    · simp [jB]
def ZZ (s:Spot) (g:Segment):Int:=iU (iU (iU (iU 0 (aH g.X1 s.X)) (aH s.X g.X2)) (aH g.Y1 s.Y)) (aH s.Y g.Y2)
def Ze (es:List EdgeT) (c:List Bool) (p:Int) (s:Spot) (i:Nat):Bool:=match es[i]?,c[i]? with
  | some e,some b=>ofB e p&&(!b&&decide (ZZ s e.Line≤7200))
  | _,_=>false
theorem JO {es:List EdgeT} (hes:es.length≤1000000) {st:RS} (hc:st.Cut.length=es.length) (x:ItemT):aD (pR (toC st) es x) 0=some (if (List.range es.length).any (Ze es st.Cut x.Piece x.Lead) then .inl () else .inr ())∧aD (jC es st x.Piece x.Lead) 0=some (if (List.range es.length).any (Ze es st.Cut x.Piece x.Lead) then .inl () else .inr ()):=by
  constructor
  · refine jP es.length (pR (toC st) es x) (fun k=>(k:Int)) (Ze es st.Cut x.Piece x.Lead) _ _ rfl (fun k hk=>?_) ?_
    · have e1:es[k]?=some es[k]:=List.getElem?_eq_getElem hk
      have e2:st.Cut[k]?=some (st.Cut[k]'(by omega)):=List.getElem?_eq_getElem (by omega)
      have e2':(toC st).Cut[k]?=some (st.Cut[k]'(by omega)):=e2
      have e3:DR (Spot.mk x.Lead.X x.Lead.Y) es[k].Line=some (ZZ x.Lead es[k].Line):=rfl
      unfold pR Ze
      have hd:decide ((k:Int)<(es.length:Int))=true:=by simp [hk]
      simp only [hd,if_true,aJ e1,aJ e2',e1,e2,Option.bind_some,UQ,e3,aS k (by omega)]
      cases ofB es[k] x.Piece <;> cases st.Cut[k]'(by omega) <;> simp
    · simp [pR]
  · refine jP es.length (jC es st x.Piece x.Lead) (fun k=>(k:Int)) (Ze es st.Cut x.Piece x.Lead) _ _ rfl (fun k hk=>?_) ?_
    · have e1:es[k]?=some es[k]:=List.getElem?_eq_getElem hk
      have e2:st.Cut[k]?=some (st.Cut[k]'(by omega)):=List.getElem?_eq_getElem (by omega)
      have e3:wD x.Lead es[k].Line=some (ZZ x.Lead es[k].Line):=rfl
      unfold jC Ze ofB
      have hd:decide ((k:Int)<(es.length:Int))=true:=by simp [hk]
      simp only [hd,if_true,aJ e1,aJ e2,e1,e2,Option.bind_some,e3,aS k (by omega)]
      cases (es[k].A==x.Piece) <;> cases (es[k].B==x.Piece) <;> cases st.Cut[k]'(by omega) <;> simp
    · simp [jC]
theorem PP {l:LayoutT} (hl:LV l) {es:List EdgeT} (hes:es.length≤1000000) {st:RS} (hc:st.Cut.length=es.length) (x:ItemT) (hx:x.Hole<0):∃ b,uX (toC st) l es x=some b∧uM l es st x.Piece x.Lead=some b ∧
    (b=true→(0≤x.Lead.X∧x.Lead.X≤l.Sheet.Width∧0≤x.Lead.Y∧x.Lead.Y≤l.Sheet.Height)):=by
  have sl:=Pq hl.sh
  obtain ⟨r,r1,r2⟩:=Om l.Sheet.Clamps x.Lead (by omega)
  have r1':lW l.Sheet.Clamps (Spot.mk x.Lead.X x.Lead.Y)=some r:=r1
  obtain ⟨b,b1,b2⟩:=HZ l hl.n hl.r12 x
  obtain ⟨c1,c2⟩:=JO hes hc x
  have h0:decide (x.Hole ≥ 0)=false:=by simp;omega
  unfold uX uM
  simp only [h0,Bool.false_eq_true,if_false,b1,b2,c1,c2,r1',r2,Option.bind_some]
  by_cases h1:x.Lead.X<0
  · exact ⟨false,by simp [h1],by simp [h1],by simp⟩
  by_cases h2:x.Lead.X>l.Sheet.Width
  · refine ⟨false,by simp [h1,h2], ?_,by simp⟩
    by_cases h3:x.Lead.Y<0 <;> simp [h1,h2,h3]
  by_cases h3:x.Lead.Y<0
  · exact ⟨false,by simp [h1,h2,h3],by simp [h1,h3],by simp⟩
  by_cases h4:x.Lead.Y>l.Sheet.Height
  · exact ⟨false,by simp [h1,h2,h3,h4],by simp [h1,h2,h3,h4],by simp⟩
  simp only [h1,h2,h3,h4,decide_false,Bool.false_eq_true,if_false,Option.bind_some]
  cases r with
  | true=>exact ⟨false,by simp,by simp,by simp⟩
  | false =>
    simp only [Bool.false_eq_true,if_false]
    cases b with
    | true=>exact ⟨false,rfl,rfl,by simp⟩
    | false =>
      simp only [Bool.false_eq_true,if_false,Option.bind_some]
      cases (List.range es.length).any (Ze es st.Cut x.Piece x.Lead) with
      | true=>exact ⟨true,rfl,rfl,fun _=>by omega⟩
      | false=>exact ⟨false,rfl,rfl,by simp⟩
end Go.SM
namespace Go.SM
open Go Go.VI Go.Cells
def mark (n:Nat) (q:Nat→Bool) (c:List Bool):List Bool:=(List.range n).map fun i=>q i || c.getD i false
theorem vN (n:Nat) (q:Nat→Bool) (c:List Bool):(mark n q c).length=n:=by simp [mark]
theorem Lr {n:Nat} (q:Nat→Bool) {c:List Bool} {i:Nat} (hi:i<n):(mark n q c)[i]?=some (q i || c.getD i false):=by
  unfold mark;rw [List.getElem?_map,List.getElem?_range hi];rfl
theorem PT {n:Nat} {c:List Bool} (hc:c.length=n):mark n (fun _=>false) c=c:=by
  refine List.ext_getElem? fun i=>?_
  by_cases hi:i<n
  · rw [Lr _ hi,Bool.false_or,List.getD_eq_getElem?_getD,List.getElem?_eq_getElem (by omega)];rfl
  · rw [List.getElem?_eq_none (by rw [vN];omega),List.getElem?_eq_none (by omega)]
theorem PS {n:Nat} {q:Nat→Bool} {c:List Bool} {k:Nat}:mark n (fun i=>decide (i<k+1)&&q i) c=if q k then (mark n (fun i=>decide (i<k)&&q i) c).set k true else mark n (fun i=>decide (i<k)&&q i) c:=by
  refine List.ext_getElem? fun i=>?_
  by_cases hi:i<n
  · rw [Lr _ hi]
    split
    · rename_i hq
      rw [List.getElem?_set]
      by_cases e:k=i
      · subst e
        rw [if_pos rfl,if_pos (by rw [vN];exact hi)]
        simp [hq]
      · rw [if_neg e,Lr _ hi]
        have:decide (i<k+1)=decide (i<k):=by simp;omega
        rw [this]
    · rename_i hq
      rw [Lr _ hi]
      by_cases e:k=i
      · subst e
        have:q k=false:=by simpa using hq
        simp [this]
      · have:decide (i<k+1)=decide (i<k):=by simp;omega
        rw [this]
  · have h2:∀ l:List Bool,l.length=n→l[i]?=none:=fun l hl=>List.getElem?_eq_none (by omega)
    rw [h2 _ (vN _ _ _)]
    split
    · rw [h2 _ (by rw [List.length_set,vN])]
    · rw [h2 _ (vN _ _ _)]
theorem Oc {n:Nat} (body:Int×List Bool→Option (Int×List Bool ⊕ List Bool)) (q:Nat→Bool) {c:List Bool} (hc:c.length=n) (step:∀ (k:Nat) (c':List Bool),k<n→c'.length=n→body ((k:Int),c')=some (.inl (((k+1:Nat):Int),if q k then c'.set k true else c'))) (fin:∀ c':List Bool,c'.length=n→body ((n:Int),c')=some (.inr c')) :
    aD body (0,c)=some (mark n q c):=by
  have key:=xU (List.range n) body (fun k=>((k:Int),mark n (fun i=>decide (i<k)&&q i) c)) (mark n q c) (fun k x hx=>?_) ?_
  · have e0:mark n (fun i=>decide (i<0)&&q i) c=c:=by
      rw [show (fun i=>decide (i<0)&&q i)=fun _=>false from funext fun i=>by simp]
      exact PT hc
    rw [e0] at key
    exact key
  · have hk:k<n:=by have:=aP hx;simpa using this
    rw [step k _ hk (vN _ _ _),PS]
  · rw [List.length_range,fin _ (vN _ _ _)]
    congr 2
    unfold mark
    refine List.map_congr_left fun i hi=>?_
    have:=List.mem_range.1 hi
    simp [this]
theorem SB {s:RS} (h:SL1 s):tY (toC s)=some (toC s)∧vZ s=some s:=by
  have h1:=h.c;have h2:=h.d;have h3:=h.j;have h4:=h.f;have h5:=h.h
  have ap:∀ {α:Type} {l:List α},l.length≤1048576→app [] l=some l:=fun {α l} hl=>by rw [nA (by unfold LIM;simp;omega)];rfl
  constructor
  · have key:aD (lK (toC s)) (0,[])=some s.Holes:=by
      have:=Ip s.Holes (fun t=>t) (lK (toC s)) h5 (fun k t acc ht=>?_) (fun acc=>?_)
      · rw [this,List.map_id']
      · have hk:=aP ht
        have ht':(toC s).Holes[k]?=some t:=ht
        unfold lK
        have hd:decide ((k:Int)<((toC s).Holes.length:Int))=true:=by show decide ((k:Int)<(s.Holes.length:Int))=true;simp [hk]
        have e:∀ f:List Bool→Option (Int×List (List Bool) ⊕ List (List Bool)),(app [] t).bind f=f t:=fun f=>by rw [ap (h.hh t (List.mem_of_getElem? ht))];rfl
        simp only [hd,if_true,aJ ht',Option.bind_some,aS k (by omega)]
        exact e _
      · unfold lK
        have:¬ (s.Holes.length:Int)<((toC s).Holes.length:Int):=by show ¬ (s.Holes.length:Int)<(s.Holes.length:Int);omega
        simp [this]
    show (app [] s.Cut).bind (fun r9=>(app [] s.Done).bind fun r10=>(app [] s.Joints).bind fun r11=>(app [] s.Fallen).bind fun r12=>(aD (lK (toC s)) (0,[])).bind fun x114=>some (cut_State.mk r9 x114 r10 r11 r12))=_
    rw [ap h1,ap h2,ap h3,ap h4]
    simp only [Option.bind_some,key]
    rfl
  · have key:aD (jS s) (0,[])=some s.Holes:=by
      have:=Ip s.Holes (fun t=>t) (jS s) h5 (fun k t acc ht=>?_) (fun acc=>?_)
      · rw [this,List.map_id']
      · have hk:=aP ht
        unfold jS
        have hd:decide ((k:Int)<(s.Holes.length:Int))=true:=by simp [hk]
        simp only [hd,if_true,aJ ht,Option.bind_some,ap (h.hh t (List.mem_of_getElem? ht)),aS k (by omega)]
      · simp [jS]
    unfold vZ
    rw [ap h1,ap h2,ap h3,ap h4]
    simp only [Option.bind_some,key]
def Vg (es:List EdgeT) (c D:List Bool) (J:List Int) (i:Nat):Bool:=Dx es c (i:Int)&&!(D.getD i false&&decide (J.getD i 0>0))
def fell (n:Nat) (es:List EdgeT) (c:List Bool) (D:List Bool) (J:List Int) (F:List Bool):List Bool:=mark n (Vg es c D J) F
def YZ (n:Nat) (es:List EdgeT) (s:RS) (p h:Nat) (t:List Bool):RS:=⟨s.Cut,s.Holes.set p (t.set h true),s.Done,s.Joints,fell n es s.Cut s.Done s.Joints s.Fallen⟩
def Vw (es:List EdgeT) (p:Int) (i:Nat):Bool:=match es[i]? with
  | some e=>ofB e p
  | none=>false
def ZE (n:Nat) (es:List EdgeT) (s:RS) (p:Nat) (j:Int):RS:=
  ⟨mark es.length (Vw es (p:Int)) s.Cut,s.Holes,s.Done.set p true,s.Joints.set p j,fell n es (mark es.length (Vw es (p:Int)) s.Cut) (s.Done.set p true) (s.Joints.set p j) s.Fallen⟩
section
variable {l:LayoutT} (n8:l.Pieces.length≤8) {es:List EdgeT} (hes:es.length≤1000000)
include n8 hes
theorem BO {c:List Bool} (hc:c.length=es.length) (H:List (List Bool)) {D:List Bool} (hD:D.length=l.Pieces.length) {J:List Int} (hJ:J.length=l.Pieces.length) {F:List Bool} (hF:F.length=l.Pieces.length) :
    aD (yX l es (c,H,D,J)) (0,F)=some (fell l.Pieces.length es c D J F)∧aD (jT es (c,H,D,J)) (0,F)=some (fell l.Pieces.length es c D J F):=by
  have core:∀ k,k<l.Pieces.length→∃ d j,D[k]?=some d∧J[k]?=some j∧D.getD k false=d∧J.getD k 0=j:=fun k hk=>by
    have e1:D[k]?=some (D[k]'(by omega)):=List.getElem?_eq_getElem (by omega)
    have e2:J[k]?=some (J[k]'(by omega)):=List.getElem?_eq_getElem (by omega)
    exact ⟨_,_,e1,e2,mP e1,mP e2⟩
  constructor
  · refine Oc (yX l es (c,H,D,J)) (Vg es c D J) hF (fun k c' hk hc'=>?_) (fun c' _=>by simp [yX])
    obtain ⟨d,j,e1,e2,e3,e4⟩:=core k hk
    have e5:c'[k]?=some (c'[k]'(by omega)):=List.getElem?_eq_getElem (by omega)
    unfold yX Vg
    have hd:decide ((k:Int)<(l.Pieces.length:Int))=true:=by simp [hk]
    simp only [hd,if_true,free_eq hes hc,Option.bind_some,aJ e1,aJ e2,e3,e4,aJ e5,Np,aS k (by omega),Int.toNat_natCast]
    cases Dx es c (k:Int) <;> cases d <;> cases decide (j>0) <;> rfl
  · refine Oc (jT es (c,H,D,J)) (Vg es c D J) hF (fun k c' hk hc'=>?_) (fun c' hc'=>by simp [jT,hc'])
    obtain ⟨d,j,e1,e2,e3,e4⟩:=core k hk
    have e5:c'[k]?=some (c'[k]'(by omega)):=List.getElem?_eq_getElem (by omega)
    unfold jT Vg
    have hd:decide ((k:Int)<(c'.length:Int))=true:=by simp;omega
    simp only [hd,if_true,GV hes hc,Option.bind_some,aJ e1,aJ e2,e3,e4,aJ e5,sQ,aS k (by omega),Int.toNat_natCast]
    cases Dx es c (k:Int) <;> cases d <;> cases decide (j>0) <;> rfl
omit n8 in
theorem SG {c:List Bool} (hc:c.length=es.length) (x:ItemT) {p:Nat} (hp:x.Piece=p):aD (Dh es x) (0,c)=some (mark es.length (Vw es (p:Int)) c)∧aD (jU es x) (0,c)=some (mark es.length (Vw es (p:Int)) c):=by
  constructor
  · refine Oc (Dh es x) (Vw es (p:Int)) hc (fun k c' hk hc'=>?_) (fun c' _=>by simp [Dh])
    have e1:es[k]?=some es[k]:=List.getElem?_eq_getElem hk
    have e5:c'[k]?=some (c'[k]'(by omega)):=List.getElem?_eq_getElem (by omega)
    unfold Dh Vw
    have hd:decide ((k:Int)<(es.length:Int))=true:=by simp [hk]
    simp only [hd,if_true,aJ e1,e1,Option.bind_some,UQ,hp,aJ e5,Nq,aS k (by omega),Int.toNat_natCast]
    cases ofB es[k] (p:Int) <;> rfl
  · refine Oc (jU es x) (Vw es (p:Int)) hc (fun k c' hk hc'=>?_) (fun c' _=>by simp [jU])
    have e1:es[k]?=some es[k]:=List.getElem?_eq_getElem hk
    have e5:c'[k]?=some (c'[k]'(by omega)):=List.getElem?_eq_getElem (by omega)
    unfold jU Vw ofB
    have hd:decide ((k:Int)<(es.length:Int))=true:=by simp [hk]
    simp only [hd,if_true,aJ e1,e1,Option.bind_some,hp,aJ e5,sS,aS k (by omega),Int.toNat_natCast]
    cases (es[k].A==(p:Int)) <;> cases (es[k].B==(p:Int)) <;> rfl
end
inductive Does (l:LayoutT) (es:List EdgeT) (s:RS) (x:ItemT):RS→Prop
  | hole {p h:Nat} {y:Piece} {t:List Bool} (hp:x.Piece=p) (hh:x.Hole=h) (hj:x.Joints=0) (hy:l.Pieces[p]?=some y) (hf:s.Fallen[p]?=some false) (ht:s.Holes[p]?=some t) (hb:t[h]?=some false):Does l es s x (YZ l.Pieces.length es s p h t)
  | line {p:Nat} {y:Piece} {t:List Bool} (hp:x.Piece=p) (hh:x.Hole=-1) (hj:0≤x.Joints∧x.Joints≤4) (hy:l.Pieces[p]?=some y) (hf:s.Fallen[p]?=some false) (hd:s.Done[p]?=some false) (ht:s.Holes[p]?=some t) (ha:(t.all fun b=>b)=true) (hn:Dx es s.Cut (p:Int)=false):Does l es s x (ZE l.Pieces.length es s p x.Joints)
theorem WW {l:LayoutT} (hl:LV l) {es:List EdgeT} (hes:es.length≤1000000) {s:RS} (hs:SL1 s) (x:ItemT) :
    ∃ e,eT l es s x=some e∧((e≠0∧Dv l es (toC s) x=some (toC noS,e))∨(e=0∧Fit l es.length s∧∃ s',Does l es s x s'∧Dv l es (toC s) x=some (toC s',0)∧gX es s x=some s')):=by
  obtain ⟨b,f1,f2,f3⟩:=PE hl.n es.length hs
  obtain ⟨k1,k2⟩:=SB hs
  unfold eT Dv
  rw [f1,f2]
  simp only [Option.bind_some]
  cases b with
  | false=>exact ⟨1,rfl,.inl ⟨by decide,rfl⟩⟩
  | true =>
  have fit:=f3.1 rfl
  simp only [if_true]
  by_cases a1:x.Piece<0
  · exact ⟨1,by simp [a1],.inl ⟨by decide,by simp [a1];rfl⟩⟩
  by_cases a2:x.Piece ≥ (l.Pieces.length:Int)
  · exact ⟨1,by simp [a1,a2],.inl ⟨by decide,by simp [a1,a2];rfl⟩⟩
  obtain ⟨p,hp⟩:∃ p:Nat,x.Piece=p:=⟨x.Piece.toNat,by omega⟩
  have hpl:p<l.Pieces.length:=by omega
  have hy:l.Pieces[p]?=some l.Pieces[p]:=List.getElem?_eq_getElem hpl
  generalize l.Pieces[p]=y at hy
  have b1:¬ ((p:Nat):Int)<0:=by omega
  have b2:¬ ((p:Nat):Int) ≥ (l.Pieces.length:Int):=by omega
  simp only [hp,b1,b2,decide_false,Bool.false_eq_true,if_false,Option.bind_some,aJ hy]
  by_cases a3:x.Hole < -1
  · exact ⟨1,by simp [a3],.inl ⟨by decide,by simp [a3];rfl⟩⟩
  by_cases a4:x.Hole ≥ (y.Cuts.length:Int)
  · exact ⟨1,by simp [a3,a4],.inl ⟨by decide,by simp [a3,a4];rfl⟩⟩
  by_cases a5:x.Joints<0
  · exact ⟨1,by simp [a3,a4,a5],.inl ⟨by decide,by simp [a3,a4,a5];rfl⟩⟩
  by_cases a6:x.Joints>4
  · exact ⟨1,by simp [a3,a4,a5,a6],.inl ⟨by decide,by simp [a3,a4,a5,a6];rfl⟩⟩
  have hf:s.Fallen[p]?=some (s.Fallen[p]'(by have:=fit.f;omega)):=List.getElem?_eq_getElem (by have:=fit.f;omega)
  have hh:s.Holes[p]?=some (s.Holes[p]'(by have:=fit.h;omega)):=List.getElem?_eq_getElem (by have:=fit.h;omega)
  have hd:s.Done[p]?=some (s.Done[p]'(by have:=fit.d;omega)):=List.getElem?_eq_getElem (by have:=fit.d;omega)
  have hjn:s.Joints[p]?=some (s.Joints[p]'(by have:=fit.j;omega)):=List.getElem?_eq_getElem (by have:=fit.j;omega)
  generalize s.Fallen[p]'(by have:=fit.f;omega)=fl at hf
  generalize s.Holes[p]'(by have:=fit.h;omega)=t at hh
  generalize s.Done[p]'(by have:=fit.d;omega)=dn at hd
  generalize s.Joints[p]'(by have:=fit.j;omega)=jt at hjn
  have htl:=fit.hh p t y hh hy
  have htm:=hs.hh t (List.mem_of_getElem? hh)
  have hf':(toC s).Fallen[p]?=some fl:=hf
  have hh':(toC s).Holes[p]?=some t:=hh
  have hd':(toC s).Done[p]?=some dn:=hd
  have hjn':(toC s).Joints[p]?=some jt:=hjn
  by_cases a7:x.Hole ≥ 0
  · -- a hole
    by_cases a8:x.Joints=0
    case neg =>
      have:(x.Joints != 0)=true:=by simp [a8]
      exact ⟨1,by simp [a3,a4,a5,a6,a7,this],.inl ⟨by decide,by simp [a3,a4,a5,a6,a7,this];rfl⟩⟩
    obtain ⟨h,hh0⟩:∃ h:Nat,x.Hole=h:=⟨x.Hole.toNat,by omega⟩
    have hhl:h<t.length:=by omega
    have hb:t[h]?=some t[h]:=List.getElem?_eq_getElem hhl
    have hc:y.Cuts[h]?=some (y.Cuts[h]'(by omega)):=List.getElem?_eq_getElem (by omega)
    generalize t[h]=bh at hb
    generalize y.Cuts[h]'(by omega)=cr at hc
    have n7:¬ x.Hole<0:=by omega
    have j0:(x.Joints != 0)=false:=by simp [a8]
    have b3:¬ ((h:Nat):Int) < -1:=by omega
    have b4:¬ ((h:Nat):Int) ≥ (y.Cuts.length:Int):=by omega
    have b7:((h:Nat):Int) ≥ 0:=by omega
    have bn7:¬ ((h:Nat):Int)<0:=by omega
    unfold xH uX
    simp only [b3,b4,a5,a6,b7,bn7,j0,hp,decide_true,decide_false,Bool.false_eq_true,if_false,if_true,Option.bind_some,aJ hf,aJ hf',aJ hh,aJ hh',hh0,aJ hb,aJ hc,aJ hy]
    cases fl with
    | true=>exact ⟨12,rfl,.inl ⟨by decide,rfl⟩⟩
    | false =>
    cases bh with
    | true=>exact ⟨12,rfl,.inl ⟨by decide,rfl⟩⟩
    | false =>
    simp only [Bool.false_eq_true,if_false,Option.bind_some,Bool.not_false,Bool.not_true]
    have fin:∀ r:Bool,∃ e,(if r=true then some (14:Int) else some 0)=some e∧((e≠0∧(if r=true then some (cut_State.mk [] [] [] [] [],(14:Int)) else (tY (toC s)).bind fun r34=>(idx r34.Holes (p:Int)).bind fun x214=>(idx x214 (h:Int)).bind fun x215=>yV l es r34 (r34.Cut,(List.set r34.Holes (Int.toNat (p:Int)) (List.set x214 (Int.toNat (h:Int)) true)),r34.Done,r34.Joints))=some (toC noS,e))∨(e=0∧Fit l es.length s∧∃ s',Does l es s x s'∧(if r=true then some (cut_State.mk [] [] [] [] [],(14:Int)) else (tY (toC s)).bind fun r34=>(idx r34.Holes (p:Int)).bind fun x214=>(idx x214 (h:Int)).bind fun x215=>yV l es r34 (r34.Cut,(List.set r34.Holes (Int.toNat (p:Int)) (List.set x214 (Int.toNat (h:Int)) true)),r34.Done,r34.Joints))=some (toC s',0)∧gX es s x=some s')):=fun r=>by
      cases r with
      | true=>exact ⟨14,rfl,.inl ⟨by decide,rfl⟩⟩
      | false =>
        obtain ⟨l1,l2⟩:=BO (l:=l) hl.n hes fit.c (s.Holes.set p (t.set h true)) fit.d fit.j fit.f
        refine ⟨0,rfl,.inr ⟨rfl,fit,YZ l.Pieces.length es s p h t,.hole hp hh0 a8 hy hf hh hb, ?_, ?_⟩⟩
        · simp only [Bool.false_eq_true,if_false,k1,Option.bind_some,aJ hh',aJ hb,Int.toNat_natCast]
          unfold yV
          show (aD (yX l es (s.Cut,s.Holes.set p (t.set h true),s.Done,s.Joints)) (0,s.Fallen)).bind _=_
          rw [l1];rfl
        · unfold gX
          rw [k2]
          have d7:decide (x.Hole ≥ 0)=true:=by simp [a7]
          simp only [Option.bind_some,d7,if_true,hp,hh0,aJ hh,aJ hb,Int.toNat_natCast]
          unfold mY
          rw [l2];rfl
    have conv1:∀ (A B C D':Prop) [Decidable A] [Decidable B] [Decidable C] [Decidable D'],(if decide A then some true else if decide B then some true else if decide C then some true else some (decide D'))=some (decide A || decide B || decide C || decide D'):=fun A B C D' _ _ _ _=>by
      by_cases h1:A <;> by_cases h2:B <;> by_cases h3:C <;> simp [h1,h2,h3]
    rw [conv1]
    have conv2:(if decide (x.Lead.X>cr.X)=true then (if decide (x.Lead.X<aF cr.X cr.W)=true then (if decide (x.Lead.Y>cr.Y)=true then some (decide (x.Lead.Y<aF cr.Y cr.H)) else some false) else some false) else some false)=some (!(decide (x.Lead.X≤cr.X) || decide (x.Lead.X ≥ aF cr.X cr.W) || decide (x.Lead.Y≤cr.Y) || decide (x.Lead.Y ≥ aF cr.Y cr.H))):=by
      by_cases h1:x.Lead.X≤cr.X
      · have:¬ x.Lead.X>cr.X:=by omega
        simp [h1,this]
      · have n1:x.Lead.X>cr.X:=by omega
        by_cases h2:x.Lead.X ≥ aF cr.X cr.W
        · have:¬ x.Lead.X<aF cr.X cr.W:=by omega
          simp [h1,n1,h2,this]
        · have n2:x.Lead.X<aF cr.X cr.W:=by omega
          by_cases h3:x.Lead.Y≤cr.Y
          · have:¬ x.Lead.Y>cr.Y:=by omega
            simp [h1,n1,h2,n2,h3,this]
          · have n3:x.Lead.Y>cr.Y:=by omega
            by_cases h4:x.Lead.Y ≥ aF cr.Y cr.H
            · have:¬ x.Lead.Y<aF cr.Y cr.H:=by omega
              simp [h1,n1,h2,n2,h3,n3,h4,this]
            · have n4:x.Lead.Y<aF cr.Y cr.H:=by omega
              simp [h1,n1,h2,n2,h3,n3,h4,n4]
    rw [conv2]
    simp only [Option.bind_some,Bool.not_not]
    exact fin _
  · -- an outline
    have hm1:x.Hole=-1:=by omega
    have n7:x.Hole<0:=by omega
    obtain ⟨sb,s1,s2⟩:∃ b,Hq y=some b∧oQ y=some b:=⟨_,QX y (by have:=hl.r12 y (List.mem_of_getElem? hy);omega),QC y (by have:=hl.r12 y (List.mem_of_getElem? hy);omega)⟩
    obtain ⟨lb,l1,l2,_⟩:=PP hl hes fit.c x n7
    have fr1:=free_eq hes fit.c (p:Int) s.Holes s.Done s.Joints s.Fallen
    have fr2:=GV hes fit.c (p:Int) s.Holes s.Done s.Joints s.Fallen
    have fr1':sJ (toC s) es (p:Int)=some (Dx es s.Cut (p:Int)):=fr1
    have fr2':lG es s (p:Int)=some (Dx es s.Cut (p:Int)):=fr2
    rw [hp] at l2
    unfold xH
    simp only [a3,a4,a5,a6,a7,n7,hp,decide_true,decide_false,Bool.false_eq_true,if_false,if_true,Option.bind_some,aJ hf,aJ hf',aJ hh,aJ hh',aJ hd,aJ hd',Dr t htm,JG t htm,fr1',fr2',s1,s2,l1,l2]
    cases fl with
    | true=>exact ⟨12,rfl,.inl ⟨by decide,rfl⟩⟩
    | false =>
    cases dn with
    | true=>exact ⟨12,rfl,.inl ⟨by decide,rfl⟩⟩
    | false =>
    cases ha:(t.all fun b=>b) with
    | false=>exact ⟨12,rfl,.inl ⟨by decide,rfl⟩⟩
    | true =>
    cases hfr:Dx es s.Cut (p:Int) with
    | true=>exact ⟨12,rfl,.inl ⟨by decide,rfl⟩⟩
    | false =>
    simp only [Bool.false_eq_true,if_false,Option.bind_some,Bool.not_false,Bool.not_true,if_true]
    have hsm:∀ b:Bool,(if (x.Joints==0)=true then some sb else some false)=some b→(b=true→∃ e,(some (15:Int))=some e∧e≠0):=fun b _ _=>⟨15,rfl,by decide⟩
    cases hz:(if (x.Joints==0)=true then some sb else some false:Option Bool) with
    | none=>cases hj0:(x.Joints==0) <;> simp [hj0] at hz
    | some bz =>
    simp only [Option.bind_some]
    cases bz with
    | true=>exact ⟨15,rfl,.inl ⟨by decide,rfl⟩⟩
    | false =>
    simp only [Bool.false_eq_true,if_false]
    cases lb with
    | false=>exact ⟨14,rfl,.inl ⟨by decide,rfl⟩⟩
    | true =>
    simp only [Bool.not_true,Bool.false_eq_true,if_false,k1,Option.bind_some,aJ hd',aJ hjn',Int.toNat_natCast]
    obtain ⟨c1,c2⟩:=SG hes fit.c x hp
    have hml:(mark es.length (Vw es (p:Int)) s.Cut).length=es.length:=vN _ _ _
    obtain ⟨g1,g2⟩:=BO (l:=l) hl.n hes hml s.Holes (D:=s.Done.set p true) (by rw [List.length_set];exact fit.d) (J:=s.Joints.set p x.Joints) (by rw [List.length_set];exact fit.j) fit.f
    refine ⟨0,rfl,.inr ⟨rfl,fit,ZE l.Pieces.length es s p x.Joints,.line hp hm1 (by omega) hy hf hd hh ha hfr, ?_, ?_⟩⟩
    · show (aD (Dh es x) (0,s.Cut)).bind _=_
      rw [c1]
      simp only [Option.bind_some]
      unfold yV
      show (aD (yX l es (mark es.length (Vw es (p:Int)) s.Cut,s.Holes,s.Done.set p true,s.Joints.set p x.Joints)) (0,s.Fallen)).bind _=_
      rw [g1];rfl
    · unfold gX
      rw [k2]
      have d7:decide (x.Hole ≥ 0)=false:=by simp;omega
      simp only [Option.bind_some,d7,Bool.false_eq_true,if_false,hp,aJ hd,aJ hjn,c2,Int.toNat_natCast]
      unfold mY
      rw [g2];rfl
end Go.SM
namespace Go.SM
open Go Go.VI Go.Cells
def st0 (l:LayoutT) (n:Nat):RS:=⟨List.replicate n false,l.Pieces.map fun x=>List.replicate x.Cuts.length false,List.replicate l.Pieces.length false,List.replicate l.Pieces.length 0,List.replicate l.Pieces.length false⟩
theorem Ox {α:Type} (n:Nat) (z:α) (h:n≤1048576):mk (n:Int) z=some (List.replicate n z):=by
  unfold mk
  rw [if_pos ⟨by omega,by simp [LIM];omega⟩,Int.toNat_natCast]
section
variable {l:LayoutT} (n8:l.Pieces.length≤8) (hc:∀ x ∈ l.Pieces,x.Cuts.length≤1048576)
include n8 hc
theorem WA (n:Nat) (hn:n≤200000):yY l (n:Int)=some (toC (st0 l n)):=by
  have key:aD (yB l) (0,[])=some (l.Pieces.map fun x=>List.replicate x.Cuts.length false):=by
    refine Ip l.Pieces (fun x=>List.replicate x.Cuts.length false) (yB l) (by omega) (fun k x acc hx=>?_) (fun acc=>by simp [yB])
    have hk:=aP hx
    unfold yB
    have hd:decide ((k:Int)<(l.Pieces.length:Int))=true:=by simp [hk]
    simp only [hd,if_true,aJ hx,Option.bind_some,Ox _ false (hc x (List.mem_of_getElem? hx)),aS k (by omega)]
  unfold yY
  rw [Ox n false (by omega),Ox _ false (show l.Pieces.length≤1048576 by omega),Ox _ (0:Int) (show l.Pieces.length≤1048576 by omega)]
  simp only [Option.bind_some,key]
  rfl
theorem QF {es:List EdgeT} (he:eG l=some es) (hn:es.length≤200000):lH l=some (st0 l es.length):=by
  have key:aD (jE l) (0,[])=some (l.Pieces.map fun x=>List.replicate x.Cuts.length false):=by
    refine Ip l.Pieces (fun x=>List.replicate x.Cuts.length false) (jE l) (by omega) (fun k x acc hx=>?_) (fun acc=>by simp [jE])
    have hk:=aP hx
    unfold jE
    have hd:decide ((k:Int)<(l.Pieces.length:Int))=true:=by simp [hk]
    simp only [hd,if_true,aJ hx,Option.bind_some,Ox _ false (hc x (List.mem_of_getElem? hx)),aS k (by omega)]
  unfold lH
  rw [he]
  simp only [Option.bind_some]
  rw [Ox es.length false (by omega),Ox _ false (show l.Pieces.length≤1048576 by omega),Ox _ (0:Int) (show l.Pieces.length≤1048576 by omega)]
  simp only [Option.bind_some,key]
  rfl
omit n8 hc in
theorem Oi (n:Nat):Fit l n (st0 l n):=by
  refine ⟨by simp [st0],by simp [st0],by simp [st0],by simp [st0],by simp [st0],fun k t x h1 h2=>?_⟩
  have:(st0 l n).Holes[k]?=some (List.replicate x.Cuts.length false):=by
    show (l.Pieces.map fun x=>List.replicate x.Cuts.length false)[k]?=_
    rw [List.getElem?_map,h2];rfl
  rw [this] at h1
  injection h1 with h1
  rw [← h1,List.length_replicate]
end
theorem KH:SL1 noS:=⟨by simp [noS],by simp [noS],fun t ht=>by simp [noS] at ht,by simp [noS],by simp [noS],by simp [noS]⟩
theorem Hy {l:LayoutT} {es:List EdgeT} {s s':RS} {x:ItemT} (hd:Does l es s x s') (hf:Fit l es.length s):Fit l es.length s':=by
  cases hd with
  | @hole p h y t hp hh hj hy hfl ht hb =>
    refine ⟨hf.c,by show (s.Holes.set p _).length=_;rw [List.length_set];exact hf.h,hf.d,hf.j,vN _ _ _,fun k u z h1 h2=>?_⟩
    have h1':(s.Holes.set p (t.set h true))[k]?=some u:=h1
    rw [List.getElem?_set] at h1'
    split at h1'
    · rename_i e
      subst e
      split at h1'
      · injection h1' with h1'
        rw [← h1',List.length_set]
        exact hf.hh p t z ht h2
      · cases h1'
    · exact hf.hh k u z h1' h2
  | @line p y t hp hh hj hy hfl hdn ht ha hn =>
    exact ⟨vN _ _ _,hf.h,by show (s.Done.set p true).length=_;rw [List.length_set];exact hf.d,by show (s.Joints.set p x.Joints).length=_;rw [List.length_set];exact hf.j,vN _ _ _,hf.hh⟩
theorem TF {l:LayoutT} (n8:l.Pieces.length≤8) (hc:∀ x ∈ l.Pieces,x.Cuts.length≤1048576) {n:Nat} (hn:n≤200000) {s:RS} (hf:Fit l n s):SL1 s:=by
  have h1:=hf.c;have h2:=hf.d;have h3:=hf.j;have h4:=hf.f;have h5:=hf.h
  refine ⟨by omega,by omega,fun t ht=>?_,by omega,by omega,by omega⟩
  obtain ⟨k,hk⟩:=List.mem_iff_getElem?.1 ht
  have hkl:=aP hk
  have hx:l.Pieces[k]?=some (l.Pieces[k]'(by omega)):=List.getElem?_eq_getElem (by omega)
  rw [hf.hh k t _ hk hx]
  exact hc _ (List.mem_of_getElem? hx)
theorem WU {l:LayoutT} (h:uW l):∀ x ∈ l.Pieces,x.Cuts.length≤1048576:=fun x hx=>by
  obtain ⟨_,_,_,_,_,r2,_⟩:=h.2.2 x hx
  exact r2.1
end Go.SM
namespace Go.SM
open Go Go.VI Go.Cells
structure Step (l:LayoutT) (es:List EdgeT) (s:RS) (x:ItemT) (s':RS):Prop where
  d:Does l es s x s'
  c:Dv l es (toC s) x=some (toC s',0)
  r:eT l es s x=some 0
  f:gX es s x=some s'
structure Stop1 (l:LayoutT) (es:List EdgeT) (s:RS) (x:ItemT) (e:Int):Prop where
  n:e≠0
  r:eT l es s x=some e
  c:Dv l es (toC s) x=some (toC noS,e)
inductive Steps (l:LayoutT) (es:List EdgeT):RS→List ItemT→List RS→Prop
  | nil (s:RS):Steps l es s [] []
  | cons {s s':RS} {x:ItemT} {xs:List ItemT} {ss:List RS} (h:Step l es s x s') (t:Steps l es s' xs ss):Steps l es s (x::xs) (s'::ss)
def oD:RS→List RS→RS
  | s,[]=>s
  | _,s'::ss=>oD s' ss
def Kq {E:Type} (up:RS→RS→E→E):RS→List RS→E→E
  | _,[],e=>e
  | s,s'::ss,e=>Kq up s' ss (up s s' e)
theorem Steps.len {l:LayoutT} {es:List EdgeT} {s:RS} {xs:List ItemT} {ss:List RS} (h:Steps l es s xs ss):ss.length=xs.length:=by
  induction h with
  | nil=>rfl
  | cons _ _ ih=>simp [ih]
theorem CB:∀ (ss:List RS) (s:RS),ss≠[]→ss[ss.length-1]?=some (oD s ss)
  | [],_,h=>absurd rfl h
  | [a],_,_=>rfl
  | a::b::ss,s,_=>by
    have:=CB (b::ss) a (by simp)
    show (a::b::ss)[ss.length+1]?=_
    rw [List.getElem?_cons_succ]
    exact this
section
variable {l:LayoutT} (hl:LV l) (hc:∀ x ∈ l.Pieces,x.Cuts.length≤1048576) {es:List EdgeT} (hes:es.length≤200000)
include hl hc hes
theorem WC {s:RS} (hf:Fit l es.length s) (x:ItemT):(∃ e,Stop1 l es s x e)∨∃ s',Step l es s x s'∧Fit l es.length s':=by
  obtain ⟨e,r1,r2⟩:=WW hl (show es.length≤1000000 by omega) (TF hl.n hc hes hf) x
  rcases r2 with ⟨he,r2⟩ | ⟨he,_,s',hd,r2,r3⟩
  · exact .inl ⟨e,he,r1,r2⟩
  · subst he
    exact .inr ⟨s',⟨hd,r2,r1,r3⟩,Hy hd hf⟩
theorem NH:∀ (xs:List ItemT) (s:RS),Fit l es.length s→(∃ ss,Steps l es s xs ss)∨∃ pre x post ss e,xs=pre++x::post∧Steps l es s pre ss∧Stop1 l es (oD s ss) x e
  | [],s,_=>.inl ⟨[],.nil s⟩
  | x::xs,s,hf=>by
    rcases WC hl hc hes hf x with ⟨e,h⟩ | ⟨s',h,hf'⟩
    · exact .inr ⟨[],x,xs,[],e,rfl,.nil s,h⟩
    · rcases NH xs s' hf' with ⟨ss,h2⟩ | ⟨pre,y,post,ss,e,rfl,h2,h3⟩
      · exact .inl ⟨_,.cons h h2⟩
      · exact .inr ⟨x::pre,y,post,s'::ss,e,rfl,.cons h h2,h3⟩
omit hl hc hes in
theorem Uy {s:RS} {xs:List ItemT} {ss:List RS} (h:Steps l es s xs ss):Fit l es.length s→Fit l es.length (oD s ss)∧∀ t ∈ ss,Fit l es.length t:=by
  induction h with
  | nil s=>exact fun hf=>⟨hf,fun t ht=>by cases ht⟩
  | cons h _ ih =>
    intro hf
    have h1:=Hy h.d hf
    obtain ⟨a,b⟩:=ih h1
    refine ⟨a,fun t ht=>?_⟩
    cases ht with
    | head=>exact h1
    | tail _ ht=>exact b t ht
end
section
variable {l:LayoutT} {es:List EdgeT} {items:List ItemT} {E S R:Type} (mk:Nat→RS→E→S) (body:S→Option (S ⊕ R)) (up:RS→RS→E→E) (I:Nat→RS→E→Prop)
variable (step:∀ k x s s' e,items[k]?=some x→Step l es s x s'→Fit l es.length s→I k s e→body (mk k s e)=some (.inl (mk (k+1) s' (up s s' e)))∧I (k+1) s' (up s s' e))
include step
theorem LA {xs:List ItemT} {s:RS} {ss:List RS} (h:Steps l es s xs ss):∀ (k:Nat) (e:E) (post:List ItemT),items.drop k=xs++post→Fit l es.length s→I k s e→aD body (mk k s e)=aD body (mk (k+xs.length) (oD s ss) (Kq up s ss e))∧I (k+xs.length) (oD s ss) (Kq up s ss e):=by
  induction h with
  | nil s=>exact fun k e post _ _ hI=>⟨rfl,hI⟩
  | @cons s s' x xs ss h _ ih =>
    intro k e post hd hf hI
    have hx:items[k]?=some x:=by
      have:(items.drop k)[0]?=some x:=by rw [hd];rfl
      rwa [List.getElem?_drop,Nat.add_zero] at this
    obtain ⟨h1,h2⟩:=step k x s s' e hx h hf hI
    have hd':items.drop (k+1)=xs++post:=by
      have:(items.drop k).drop 1=xs++post:=by rw [hd];rfl
      rwa [List.drop_drop] at this
    obtain ⟨g1,g2⟩:=ih (k+1) _ post hd' (Hy h.d hf) h2
    have e1:k+(x::xs).length=k+1+xs.length:=by simp;omega
    rw [e1]
    refine ⟨?_,g2⟩
    rw [jJ h1,g1];rfl
theorem LB (fin:RS→E→R) (hfin:∀ s e,body (mk items.length s e)=some (.inr (fin s e))) {s:RS} {ss:List RS} (h:Steps l es s items ss) (e:E) (hf:Fit l es.length s) (hI:I 0 s e):aD body (mk 0 s e)=some (fin (oD s ss) (Kq up s ss e)):=by
  obtain ⟨g,_⟩:=LA mk body up I step h 0 e [] (by simp) hf hI
  rw [g,Nat.zero_add]
  exact dD (hfin _ _)
theorem NI (err:Nat→Int→RS→E→R) (herr:∀ k x s e c,items[k]?=some x→Stop1 l es s x c→I k s e→body (mk k s e)=some (.inr (err k c s e))) {s:RS} {pre post:List ItemT} {x:ItemT} {ss:List RS} {c:Int} (hi:items=pre++x::post) (h:Steps l es s pre ss) (hs:Stop1 l es (oD s ss) x c) (e:E) (hf:Fit l es.length s) (hI:I 0 s e):aD body (mk 0 s e)=some (err pre.length c (oD s ss) (Kq up s ss e)):=by
  obtain ⟨g,g2⟩:=LA mk body up I step h 0 e (x::post) (by simp [hi]) hf hI
  rw [Nat.zero_add] at g g2
  rw [g]
  refine dD (herr _ x _ _ _ ?_ hs g2)
  rw [hi,List.getElem?_append_right (Nat.le_refl _)];simp
end
end Go.SM
namespace Go.SM
open Go Go.VI Go.Cells
structure Ran (l:LayoutT) (items:List ItemT) (es:List EdgeT) (ss:List RS):Prop where
  v:LV l
  c:∀ x ∈ l.Pieces,x.Cuts.length≤1048576
  e1:sH l=some (es,0)
  e2:Di l=some es
  e3:eG l=some es
  n:es.length≤200000
  g:∃ xs ys,Lay (regs l) xs ys∧es=Yj (regs l) xs ys
  k:items.length≤128
  s:Steps l es (st0 l es.length) items ss
  a1:yY l (es.length:Int)=some (toC (st0 l es.length))
  a2:lH l=some (st0 l es.length)
  vr:dW l=some 0
  t:iG l items=some (ss,0,0)
theorem BR:∀ (ss:List RS) (s:RS) (acc:List RS),Kq (fun _ s' a=>a++[s']) s ss acc=acc++ss
  | [],_,acc=>by simp [Kq]
  | s'::ss,_,acc=>by rw [Kq,BR ss];simp
section
variable {l:LayoutT} {es:List EdgeT} {items:List ItemT} (h128:items.length≤128)
include h128
theorem Vf (k:Nat) (x:ItemT) (s s':RS) (hx:items[k]?=some x) (h:Step l es s x s'):bN l items (es,0) ((k:Int),s.Holes,s.Cut,s.Done,s.Joints,s.Fallen)=some (.inl (((k+1:Nat):Int),s'.Holes,s'.Cut,s'.Done,s'.Joints,s'.Fallen)):=by
  have hk:=aP hx
  unfold bN
  have hd:decide ((k:Int)<(items.length:Int))=true:=by simp [hk]
  have hc:Dv l es ⟨s.Cut,s.Holes,s.Done,s.Joints,s.Fallen⟩ x=some (toC s',0):=h.c
  simp only [hd,if_true,aJ hx,Option.bind_some,hc,bne_self_eq_false,Bool.false_eq_true,if_false,aS k (show (k:Int)<9223372036854775807 by omega)]
  rfl
omit h128 in
theorem FO (k:Nat) (x:ItemT) (s:RS) (c:Int) (hx:items[k]?=some x) (h:Stop1 l es s x c):bN l items (es,0) ((k:Int),s.Holes,s.Cut,s.Done,s.Joints,s.Fallen)=some (.inr (.inl ((k:Int),c))):=by
  have hk:=aP hx
  unfold bN
  have hd:decide ((k:Int)<(items.length:Int))=true:=by simp [hk]
  have hc:Dv l es ⟨s.Cut,s.Holes,s.Done,s.Joints,s.Fallen⟩ x=some (toC noS,c):=h.c
  have hn:(c != 0)=true:=by rw [bne_iff_ne];exact h.n
  simp only [hd,if_true,aJ hx,Option.bind_some,hc,hn]
theorem Vr (k:Nat) (x:ItemT) (s s':RS) (acc:List RS) (hacc:acc.length=k) (hx:items[k]?=some x) (h:Step l es s x s'):bC l items es ((k:Int),s.Cut,s.Holes,s.Done,s.Joints,s.Fallen,acc)=some (.inl (((k+1:Nat):Int),s'.Cut,s'.Holes,s'.Done,s'.Joints,s'.Fallen,acc++[s'])):=by
  have hk:=aP hx
  unfold bC
  have hd:decide ((k:Int)<(items.length:Int))=true:=by simp [hk]
  have hr:eT l es ⟨s.Cut,s.Holes,s.Done,s.Joints,s.Fallen⟩ x=some 0:=h.r
  have hc:gX es ⟨s.Cut,s.Holes,s.Done,s.Joints,s.Fallen⟩ x=some s':=h.f
  have ha:app acc [s']=some (acc++[s']):=nA (by unfold LIM;simp;omega)
  simp only [hd,if_true,aJ hx,Option.bind_some,hr,hc,bne_self_eq_false,Bool.false_eq_true,if_false,ha,aS k (show (k:Int)<9223372036854775807 by omega)]
omit h128 in
theorem IX (k:Nat) (x:ItemT) (s:RS) (acc:List RS) (c:Int) (hx:items[k]?=some x) (h:Stop1 l es s x c):bC l items es ((k:Int),s.Cut,s.Holes,s.Done,s.Joints,s.Fallen,acc)=some (.inr (.inl ((k:Int),c))):=by
  have hk:=aP hx
  unfold bC
  have hd:decide ((k:Int)<(items.length:Int))=true:=by simp [hk]
  have hr:eT l es ⟨s.Cut,s.Holes,s.Done,s.Joints,s.Fallen⟩ x=some c:=h.r
  have hn:(c != 0)=true:=by rw [bne_iff_ne];exact h.n
  simp only [hd,if_true,aJ hx,Option.bind_some,hr,hn]
end
theorem EX (l:LayoutT) (h:uW l) (items:List ItemT):∃ s k e,Qy l items=some (toC s,k,e,s.Holes)∧wO l items=some (s,k,e,s.Cut,s.Holes,s.Done,s.Joints,s.Fallen)∧SL1 s ∧
    ((e≠0∧s=noS∧((k=0∧((∃ es,sH l=some (es,e))∨∃ es,sH l=some (es,0)∧es.length≤200000∧¬ items.length≤128∧e=4)) ∨
      ∃ es pre x post ss,items.length≤128∧LV l∧sH l=some (es,0)∧es.length≤200000∧yY l (es.length:Int)=some (toC (st0 l es.length))∧items=pre++x::post∧k=(pre.length:Int)∧Steps l es (st0 l es.length) pre ss∧Stop1 l es (oD (st0 l es.length) ss) x e)) ∨
     (e=0∧k=0∧∃ es ss,Ran l items es ss∧s=oD (st0 l es.length) ss)):=by
  obtain ⟨es,b,v1,v2,e1,e2,e3,e4,e5⟩:=JE l h
  have hc:=WU h
  unfold Qy xP wO
  rw [e1,v2]
  simp only [Option.bind_some]
  by_cases hb:b=0
  case neg =>
    have hb':(b != 0)=true:=by rw [bne_iff_ne];exact hb
    simp only [hb',if_true,Option.bind_some]
    exact ⟨noS,0,b,rfl,rfl,KH,.inl ⟨hb,rfl,.inl ⟨rfl,.inl ⟨es,rfl⟩⟩⟩⟩
  subst hb
  obtain ⟨hl,g1,g2,g3⟩:=e5 rfl
  simp only [bne_self_eq_false,Bool.false_eq_true,if_false]
  by_cases h128:items.length≤128
  case neg =>
    have:decide ((items.length:Int)>128)=true:=by simp;omega
    simp only [this,if_true,Option.bind_some]
    exact ⟨noS,0,4,rfl,rfl,KH,.inl ⟨by decide,rfl,.inl ⟨rfl,.inr ⟨es,rfl,e3,h128,rfl⟩⟩⟩⟩
  have hd:decide ((items.length:Int)>128)=false:=by simp;omega
  have a1:=WA hl.n hc es.length e3
  have a2:=QF hl.n hc g2 e3
  have hf0:=Oi (l:=l) es.length
  simp only [hd,Bool.false_eq_true,if_false,a1,Option.bind_some]
  have S1:=fun s ss=>LB (l:=l) (es:=es) (items:=items) (fun k (s:RS) (_:Unit)=>((k:Int),s.Holes,s.Cut,s.Done,s.Joints,s.Fallen)) (bN l items (es,0)) (fun _ _ e=>e) (fun _ _ _=>True)
    (fun k x s s' _ hx hs _ _=>⟨Vf h128 k x s s' hx hs,trivial⟩) (fun s _=>.inr (s.Holes,s.Cut,s.Done,s.Joints,s.Fallen)) (fun s _=>by simp [bN]) (s:=s) (ss:=ss)
  have S2:=fun pre x post s ss c=>NI (l:=l) (es:=es) (items:=items) (fun k (s:RS) (_:Unit)=>((k:Int),s.Holes,s.Cut,s.Done,s.Joints,s.Fallen)) (bN l items (es,0)) (fun _ _ e=>e) (fun _ _ _=>True)
    (fun k x s s' _ hx hs _ _=>⟨Vf h128 k x s s' hx hs,trivial⟩) (fun k c _ _=>.inl ((k:Int),c)) (fun k x s _ c hx hs _=>FO k x s c hx hs) (pre:=pre) (post:=post) (x:=x) (s:=s) (ss:=ss) (c:=c)
  have S3:=fun s ss=>LB (l:=l) (es:=es) (items:=items) (fun k (s:RS) (acc:List RS)=>((k:Int),s.Cut,s.Holes,s.Done,s.Joints,s.Fallen,acc)) (bC l items es) (fun _ s' a=>a++[s']) (fun k _ a=>a.length=k)
    (fun k x s s' acc hx hs _ hI=>⟨Vr h128 k x s s' acc hI hx hs,by simp [hI]⟩) (fun _ acc=>.inr acc) (fun s acc=>by simp [bC]) (s:=s) (ss:=ss)
  have S4:=fun pre x post s ss c=>NI (l:=l) (es:=es) (items:=items) (fun k (s:RS) (acc:List RS)=>((k:Int),s.Cut,s.Holes,s.Done,s.Joints,s.Fallen,acc)) (bC l items es) (fun _ s' a=>a++[s']) (fun k _ a=>a.length=k)
    (fun k x s s' acc hx hs _ hI=>⟨Vr h128 k x s s' acc hI hx hs,by simp [hI]⟩) (fun k c _ _=>.inl ((k:Int),c)) (fun k x s acc c hx hs _=>IX k x s acc c hx hs) (pre:=pre) (post:=post) (x:=x) (s:=s) (ss:=ss) (c:=c)
  rcases NH hl hc e3 items (st0 l es.length) hf0 with ⟨ss,hs⟩ | ⟨pre,x,post,ss,e,hi,hs,hx⟩
  · -- all run
    have q1:=S1 _ _ hs () hf0 trivial
    have q3:=S3 _ _ hs [] hf0 rfl
    rw [BR,List.nil_append] at q3
    have hst:iG l items=some (ss,0,0):=by
      unfold iG
      rw [g2,a2]
      show (aD (bC l items es) (0,(st0 l es.length).Cut,(st0 l es.length).Holes,(st0 l es.length).Done,(st0 l es.length).Joints,(st0 l es.length).Fallen,[])).bind _=_
      have q3':aD (bC l items es) (0,(st0 l es.length).Cut,(st0 l es.length).Holes,(st0 l es.length).Done,(st0 l es.length).Joints,(st0 l es.length).Fallen,[])=some (.inr ss):=q3
      rw [q3'];rfl
    have hran:Ran l items es ss:=⟨hl,hc,e1,g1,g2,e3,g3,h128,hs,a1,a2,v2,hst⟩
    have hfit:=(Uy hs hf0).1
    refine ⟨oD (st0 l es.length) ss,0,0, ?_, ?_,TF hl.n hc e3 hfit,.inr ⟨rfl,rfl,es,ss,hran,rfl⟩⟩
    · have q1':aD (bN l items (es,0)) (0,(toC (st0 l es.length)).Holes,(toC (st0 l es.length)).Cut,(toC (st0 l es.length)).Done,(toC (st0 l es.length)).Joints,(toC (st0 l es.length)).Fallen)=some (.inr ((oD (st0 l es.length) ss).Holes,(oD (st0 l es.length) ss).Cut,(oD (st0 l es.length) ss).Done,(oD (st0 l es.length) ss).Joints,(oD (st0 l es.length) ss).Fallen)):=q1
      rw [q1'];rfl
    · by_cases h0:items=[]
      · subst h0
        cases hs
        simp only [List.length_nil,Int.natCast_zero,beq_self_eq_true,if_true,a2,Option.bind_some]
        rfl
      · have hz:((items.length:Int)==0)=false:=by
          rw [beq_eq_false_iff_ne]
          have:=List.length_pos_iff.2 h0
          omega
        have hss:ss≠[]:=by
          have h1:=hs.len
          have h2:=List.length_pos_iff.2 h0
          intro e
          rw [e,List.length_nil] at h1
          omega
        have hpos:=List.length_pos_iff.2 hss
        have hlen:=hs.len
        simp only [hz,Bool.false_eq_true,if_false,hst,Option.bind_some,bne_self_eq_false]
        have hsub:aH (ss.length:Int) 1=((ss.length-1:Nat):Int):=by
          rw [aT (a:=(ss.length:Int)) (b:=1) (by omega) (by omega)];omega
        rw [hsub,aJ (CB ss (st0 l es.length) hss)]
        rfl
  · -- refused
    have q2:=S2 pre x post _ _ _ hi hs hx () hf0 trivial
    have q4:=S4 pre x post _ _ _ hi hs hx [] hf0 rfl
    refine ⟨noS,pre.length,e, ?_, ?_,KH,.inl ⟨hx.n,rfl,.inr ⟨es,pre,x,post,ss,h128,hl,rfl,e3,a1,hi,rfl,hs,hx⟩⟩⟩
    · have q2':aD (bN l items (es,0)) (0,(toC (st0 l es.length)).Holes,(toC (st0 l es.length)).Cut,(toC (st0 l es.length)).Done,(toC (st0 l es.length)).Joints,(toC (st0 l es.length)).Fallen)=some (.inl ((pre.length:Int),e)):=q2
      rw [q2'];rfl
    · have hz:((items.length:Int)==0)=false:=by
        rw [beq_eq_false_iff_ne,hi];simp;omega
      have hn:(e != 0)=true:=by rw [bne_iff_ne];exact hx.n
      have hst:iG l items=some ([],(pre.length:Int),e):=by
        unfold iG
        rw [g2,a2]
        have q4':aD (bC l items es) (0,(st0 l es.length).Cut,(st0 l es.length).Holes,(st0 l es.length).Done,(st0 l es.length).Joints,(st0 l es.length).Fallen,[])=some (.inl ((pre.length:Int),e)):=q4
        simp only [Option.bind_some]
        rw [q4'];rfl
      simp only [hz,Bool.false_eq_true,if_false,hst,Option.bind_some,hn,if_true]
      rfl
theorem JD (l:LayoutT) (h:uW l) (items:List ItemT):∃ e,Nk l items=some e∧yR l items=some e∧(e=0→∃ es ss,Ran l items es ss∧((oD (st0 l es.length) ss).Done.all fun b=>b)=true∧((oD (st0 l es.length) ss).Holes.all fun t=>t.all fun b=>b)=true):=by
  obtain ⟨s,k,e,r1,r2,r3,r4⟩:=EX l h items
  unfold Nk yR
  rw [r1,r2]
  simp only [Option.bind_some]
  by_cases he:e=0
  case neg =>
    have he':(e != 0)=true:=by rw [bne_iff_ne];exact he
    simp only [he',if_true]
    exact ⟨e,rfl,rfl,fun h=>absurd h he⟩
  subst he
  have key:∃ es ss,Ran l items es ss∧s=oD (st0 l es.length) ss:=by
    rcases r4 with ⟨h,_⟩ | ⟨_,_,h⟩
    · exact absurd rfl h
    · exact h
  obtain ⟨es,ss,hr,hs⟩:=key
  have c1:=Dr s.Done r3.d
  have c2:=JG s.Done r3.d
  have c1':cO (toC s).Done false=some (!(s.Done.all fun b=>b)):=c1
  simp only [bne_self_eq_false,Bool.false_eq_true,if_false,c1',c2,Option.bind_some]
  cases hd:(s.Done.all fun b=>b) with
  | false=>exact ⟨12,rfl,rfl,fun h=>absurd h (by decide)⟩
  | true =>
    have hl2:=r3.h
    have l1:aD (xX (toC s,k,0,s.Holes)) 0=some (if s.Holes.all (fun t=>t.all fun b=>b) then .inr () else .inl ()):=by
      refine Io s.Holes (xX (toC s,k,0,s.Holes)) (fun t=>t.all fun b=>b) (.inl ()) (.inr ()) (fun j t ht=>?_) ?_
      · have hj:=aP ht
        have ht':(toC s).Holes[j]?=some t:=ht
        unfold xX
        have hd:decide ((j:Int)<((toC s).Holes.length:Int))=true:=by show decide ((j:Int)<(s.Holes.length:Int))=true;simp [hj]
        simp only [hd,if_true,aJ ht',Option.bind_some,Dr t (r3.hh t (List.mem_of_getElem? ht)),aS j (show (j:Int)<9223372036854775807 by omega)]
        cases (t.all fun b=>b) <;> rfl
      · unfold xX
        have:decide ((s.Holes.length:Int)<((toC s).Holes.length:Int))=false:=by show decide ((s.Holes.length:Int)<(s.Holes.length:Int))=false;simp
        simp only [this,Bool.false_eq_true,if_false]
    have l2:aD (iZ (s,k,0,s.Cut,s.Holes,s.Done,s.Joints,s.Fallen)) 0=some (if s.Holes.all (fun t=>t.all fun b=>b) then .inr () else .inl ()):=by
      refine Io s.Holes (iZ (s,k,0,s.Cut,s.Holes,s.Done,s.Joints,s.Fallen)) (fun t=>t.all fun b=>b) (.inl ()) (.inr ()) (fun j t ht=>?_) ?_
      · have hj:=aP ht
        unfold iZ
        have hd:decide ((j:Int)<(s.Holes.length:Int))=true:=by simp [hj]
        simp only [hd,if_true,aJ ht,Option.bind_some,JG t (r3.hh t (List.mem_of_getElem? ht)),aS j (show (j:Int)<9223372036854775807 by omega)]
        cases (t.all fun b=>b) <;> rfl
      · simp [iZ]
    simp only [Bool.not_true,Bool.false_eq_true,if_false,l1,l2,Option.bind_some]
    cases hh:s.Holes.all (fun t=>t.all fun b=>b) with
    | false=>exact ⟨12,rfl,rfl,fun h=>absurd h (by decide)⟩
    | true=>exact ⟨0,rfl,rfl,fun _=>⟨es,ss,hr,hs ▸ hd,hs ▸ hh⟩⟩
end Go.SM
namespace Go.SM
open Go Go.VI Go.Cells
def Tz (n:Nat) (q:Nat→Bool):List Int:=((List.range n).filter q).map fun i:Nat=>(i:Int)
theorem BQ (n:Nat) (q:Nat→Bool):Tz (n+1) q=if q n then Tz n q++[(n:Int)] else Tz n q:=by
  unfold Tz
  rw [List.range_succ,List.filter_append,List.map_append]
  cases h:q n <;> simp [h]
theorem FZ (n:Nat) (q:Nat→Bool):(Tz n q).length≤n:=by
  unfold Tz
  rw [List.length_map]
  have:=List.length_filter_le q (List.range n)
  rwa [List.length_range] at this
theorem PR {n:Nat} (body:Int×List Int→Option (Int×List Int ⊕ List Int)) (q:Nat→Bool) (step:∀ (k:Nat) (acc:List Int),k<n→acc.length≤k→body ((k:Int),acc)=some (.inl (((k+1:Nat):Int),if q k then acc++[(k:Int)] else acc))) (fin:∀ acc,body ((n:Int),acc)=some (.inr acc)):aD body (0,[])=some (Tz n q):=by
  have key:=xU (List.range n) body (fun k=>((k:Int),Tz k q)) (Tz n q) (fun k x hx=>?_) ?_
  · exact key
  · have hk:k<n:=by have:=aP hx;simpa using this
    rw [step k _ hk (FZ _ _),BQ]
  · rw [List.length_range,fin]
theorem Xa {R:List (List Rect)} {x y i:Int} (h:jM R x y=some i):0≤i∧i<(R.length:Int):=by
  unfold jM Oo at h
  cases hl:xR R x y with
  | none=>rw [hl] at h;cases h
  | some k =>
    rw [hl] at h
    have h:(k:Int)=i:=Option.some.inj h
    unfold xR at hl
    obtain ⟨hi,_⟩:=List.findIdx?_eq_some_iff_getElem.1 hl
    omega
theorem pick (c:Prop) [Decidable c] (s:Segment) (q p:Int):(if c then (⟨s,q,p⟩:EdgeT) else ⟨s,p,q⟩).A=p∨(if c then (⟨s,q,p⟩:EdgeT) else ⟨s,p,q⟩).B=p:=by
  by_cases h:c
  · rw [if_pos h];exact .inr rfl
  · rw [if_neg h];exact .inl rfl
theorem XR {s:Segment} {a b:Option Int} {n:Nat} (ha:∀ i,a=some i→0≤i∧i<(n:Int)) (hb:∀ i,b=some i→0≤i∧i<(n:Int)) (hne:a≠b):∃ p:Nat,p<n∧ofB (mkE s a b) (p:Int)=true:=by
  have key:∀ i:Int,(0≤i∧i<(n:Int))→((mkE s a b).A=i∨(mkE s a b).B=i)→∃ p:Nat,p<n∧ofB (mkE s a b) (p:Int)=true:=fun i hi h=>by
    refine ⟨i.toNat,by omega, ?_⟩
    have e:((i.toNat:Nat):Int)=i:=by omega
    unfold ofB
    rw [e,Bool.or_eq_true,beq_iff_eq,beq_iff_eq]
    exact h
  cases a with
  | some i =>
    refine key i (ha i rfl) ?_
    unfold mkE
    exact pick _ s _ i
  | none =>
    cases b with
    | none=>exact absurd rfl hne
    | some j =>
      refine key j (hb j rfl) ?_
      unfold mkE
      simp only
      rw [if_pos (.inl (by omega))]
      exact .inl rfl
theorem SK {R:List (List Rect)} {xs ys:List Int} (hL:Lay R xs ys):∀ e ∈ Yj R xs ys,∃ p:Nat,p<R.length∧ofB e (p:Int)=true:=by
  have key:∀ {s:Int→Int} {A B:Int→Option Int} (ln:Int→Int→Segment) (_:s=fun z=>cod (A z) (B z)) (_:∀ z,SmO (A z)) (_:∀ z,SmO (B z)) (_:∀ z i,A z=some i→0≤i∧i<(R.length:Int)) (_:∀ z i,B z=some i→0≤i∧i<(R.length:Int)),∀ e ∈ (oG s).map (fun p=>mkE (ln p.1 p.2) (A p.1) (B p.1)),∃ p:Nat,p<R.length∧ofB e (p:Int)=true:=fun {s A B} ln hs ha hb hA hB e he=>by
    obtain ⟨p,hp,rfl⟩:=List.mem_map.1 he
    have hr:s p.1≠0:=by
      unfold oG at hp
      split at hp
      · rename_i hx
        exact (((Classical.choose_spec hx).2 p.1 p.2).1 hp).2.1
      · cases hp
    have hne:A p.1≠B p.1:=fun q=>hr (by rw [hs];simp only;rw [(Xw (ha _) (hb _)).2 q])
    exact XR (hA _) (hB _) hne
  intro e he
  unfold Yj at he
  rw [List.mem_append,List.mem_flatMap,List.mem_flatMap] at he
  rcases he with ⟨y,_,h⟩ | ⟨x,_,h⟩
  · exact key (fun a b=>⟨a,y,b,y⟩) (A:=fun z=>jM R z y) (B:=fun z=>jM R z (y-1)) rfl (fun z=>xN hL.m _ _) (fun z=>xN hL.m _ _) (fun z i h=>Xa h) (fun z i h=>Xa h) e h
  · exact key (fun a b=>⟨x,a,x,b⟩) (A:=fun z=>jM R x z) (B:=fun z=>jM R (x-1) z) rfl (fun z=>xN hL.m _ _) (fun z=>xN hL.m _ _) (fun z i h=>Xa h) (fun z i h=>Xa h) e h
end Go.SM
namespace Go.SM
open Go Go.VI Go.Cells
def Lt (n:Nat) (s s':RS):List Int:=Tz n fun i=>s'.Fallen.getD i false&&!s.Fallen.getD i false
theorem PD {n:Nat} (hn:n≤8) {s s':RS} (h1:s.Fallen.length=n) (h2:s'.Fallen.length=n) (acc:List (List Int)) (ha:acc.length≤200):Bq (toC s') s.Fallen acc=some (acc++[Lt n s s']):=by
  have key:aD (xG (toC s') s.Fallen) (0,[])=some (Lt n s s'):=by
    refine PR _ _ (fun k a hk ha=>?_) (fun a=>?_)
    · have e1:(toC s').Fallen[k]?=some (s'.Fallen[k]'(by omega)):=List.getElem?_eq_getElem (by show k<s'.Fallen.length;omega)
      have e2:s.Fallen[k]?=some (s.Fallen[k]'(by omega)):=List.getElem?_eq_getElem (by omega)
      have e3:s'.Fallen[k]?=some (s'.Fallen[k]'(by omega)):=e1
      unfold xG
      have hd:decide ((k:Int)<((toC s').Fallen.length:Int))=true:=by show decide ((k:Int)<(s'.Fallen.length:Int))=true;simp;omega
      have hap:app a [(k:Int)]=some (a++[(k:Int)]):=nA (by unfold LIM;simp;omega)
      simp only [hd,if_true,aJ e1,aJ e2,Option.bind_some,xE,hap,aS k (show (k:Int)<9223372036854775807 by omega),mP e3,mP e2]
      cases s'.Fallen[k]'(by omega) <;> cases s.Fallen[k]'(by omega) <;> rfl
    · unfold xG
      have:decide ((n:Int)<((toC s').Fallen.length:Int))=false:=by show decide ((n:Int)<(s'.Fallen.length:Int))=false;simp;omega
      simp only [this,Bool.false_eq_true,if_false]
  unfold Bq
  rw [key]
  have hap:app acc [Lt n s s']=some (acc++[Lt n s s']):=nA (by unfold LIM;simp;omega)
  simp only [Option.bind_some,hap]
section
variable {l:LayoutT} (n8:l.Pieces.length≤8) {es:List EdgeT} {items:List ItemT} (h128:items.length≤128)
include n8 h128
theorem FK (k:Nat) (x:ItemT) (s s':RS) (acc:List (List Int)) (ha:acc.length=k) (hx:items[k]?=some x) (h:Step l es s x s') (hf:Fit l es.length s):gB l items (es,0) ((k:Int),acc,s.Cut,s.Holes,s.Done,s.Joints,s.Fallen,s.Fallen)=some (.inl (((k+1:Nat):Int),acc++[Lt l.Pieces.length s s'],s'.Cut,s'.Holes,s'.Done,s'.Joints,s'.Fallen,s'.Fallen)):=by
  have hk:=aP hx
  unfold gB
  have hd:decide ((k:Int)<(items.length:Int))=true:=by simp [hk]
  have hc:Dv l es ⟨s.Cut,s.Holes,s.Done,s.Joints,s.Fallen⟩ x=some (toC s',0):=h.c
  have hq:=PD n8 hf.f (Hy h.d hf).f acc (by omega)
  simp only [hd,if_true,aJ hx,Option.bind_some,hc,bne_self_eq_false,Bool.false_eq_true,if_false,hq,aS k (show (k:Int)<9223372036854775807 by omega)]
  rfl
end
def L9 (r:Rect):Int:=lL 2 (aF r.W r.H)
def J9 (x:Piece) (h:Nat):Int:=match x.Cuts[h]? with
  | some r=>L9 r
  | none=>0
def hM (l:LayoutT) (H:List (List Bool)) (p:Nat):Int:=match l.Pieces[p]? with
  | some x=>YM (fun h=>if (H.getD p []).getD h false then J9 x h else 0) x.Cuts.length
  | none=>0
theorem Ic {α:Type} (n i:Nat) (z:α):(List.replicate n z).getD i z=z:=by
  rw [List.getD_eq_getElem?_getD,List.getElem?_replicate]
  split <;> rfl
theorem Av {α:Type} (L:List α) (i j:Nat) (v z:α) (hi:i<L.length):(L.set i v).getD j z=if j=i then v else L.getD j z:=by
  rw [List.getD_eq_getElem?_getD,List.getElem?_set]
  by_cases e:i=j
  · subst e;simp [hi]
  · rw [if_neg e,if_neg fun h=>e h.symm,List.getD_eq_getElem?_getD]
theorem Ue {n:Nat} (q:Nat→Bool) (c:List Bool) {i:Nat} (hi:i<n):(mark n q c).getD i false=(q i || c.getD i false):=mP (Lr q hi)
def Wn (es:List EdgeT) (s:RS):Prop:=∀ p:Nat,s.Done.getD p false=true→∀ i e,es[i]?=some e→ofB e (p:Int)=true→s.Cut.getD i false=true
theorem OO {l:LayoutT} {es:List EdgeT} {s s':RS} {x:ItemT} (hd:Does l es s x s') (hi:Wn es s):Wn es s':=by
  cases hd with
  | @hole p h y t hp hh hj hy hfl ht hb=>exact hi
  | @line p y t hp hh hj hy hfl hdn ht ha hn =>
    intro q hq i e he ho
    have hil:=aP he
    show (mark es.length (Vw es (p:Int)) s.Cut).getD i false=true
    rw [Ue _ _ hil,Bool.or_eq_true]
    have hq':(s.Done.set p true).getD q false=true:=hq
    rw [Av _ _ _ _ _ (aP hdn)] at hq'
    by_cases e1:q=p
    · subst e1
      left;unfold Vw;rw [he];exact ho
    · rw [if_neg e1] at hq'
      exact .inr (hi q hq' i e he ho)
theorem LJ {l:LayoutT} {es:List EdgeT} {s:RS} {xs:List ItemT} {ss:List RS} (h:Steps l es s xs ss):Wn es s→Wn es (oD s ss):=by
  induction h with
  | nil s=>exact fun h=>h
  | cons h _ ih=>exact fun hi=>ih (OO h.d hi)
theorem Xp {t:List Bool} (h:(t.all fun b=>b)=true) {i:Nat} (hi:i<t.length):t.getD i false=true:=by
  rw [List.getD_eq_getElem?_getD,List.getElem?_eq_getElem hi]
  exact (List.all_eq_true.1 h) _ (List.getElem_mem hi)
end Go.SM
namespace Go.SM
open Go Go.VI
end Go.SM
namespace Go.SM
open Go Go.VI Go.Cells
theorem Uf {n:Nat} (q:Nat→Bool) {c:List Bool} (hc:c.length=n) (i:Nat) (h:c.getD i false=true):(mark n q c).getD i false=true:=by
  have hi:i<n:=by
    by_cases hi:i<n
    · exact hi
    · rw [List.getD_eq_getElem?_getD,List.getElem?_eq_none (by omega)] at h;cases h
  rw [Ue q c hi,h,Bool.or_true]
theorem OM {l:LayoutT} {es:List EdgeT} {s s':RS} {x:ItemT} (hd:Does l es s x s') (hf:Fit l es.length s):(∀ i,s.Cut.getD i false=true→s'.Cut.getD i false=true)∧(∀ i,s.Done.getD i false=true→s'.Done.getD i false=true)∧∀ i,s.Fallen.getD i false=true→s'.Fallen.getD i false=true:=by
  cases hd with
  | @hole p h y t hp hh hj hy hfl ht hb=>exact ⟨fun i h=>h,fun i h=>h,fun i h=>Uf _ hf.f i h⟩
  | @line p y t hp hh hj hy hfl hdn ht ha hn =>
    refine ⟨fun i h=>Uf _ hf.c i h,fun i h=>?_,fun i h=>Uf _ hf.f i h⟩
    show (s.Done.set p true).getD i false=true
    rw [Av _ _ _ _ _ (aP hdn)]
    by_cases e:i=p
    · rw [if_pos e]
    · rw [if_neg e];exact h
section
variable {l:LayoutT} {es:List EdgeT} {items:List ItemT} (h128:items.length≤128) (he:sH l=some (es,0)) (hl:LV l) (hc:∀ x ∈ l.Pieces,x.Cuts.length≤1048576) (hn:es.length≤200000) (st:cut_State) (kk e:Int) (H:List (List Bool))
include h128 he hl hc hn
end
end Go.SM
namespace Go.SM
open Go Go.VI
theorem BZ:lY=some true:=by kernel_rfl
end Go.SM
namespace Go.SM
open Go Go.VI Go.Cells
theorem NP {l:LayoutT} {items:List ItemT} {es:List EdgeT} {ss:List RS} (h:uW l) (hr:Ran l items es ss):Ho l items=some (Kq (fun s s' a=>a++[Lt l.Pieces.length s s']) (st0 l es.length) ss [],0):=by
  have hp:l.Pieces.length≤1048576:=h.2.1
  have hm:=Ox l.Pieces.length false hp
  have hk:=hr.k
  have hd:decide ((items.length:Int)>128)=false:=by simp;omega
  have q:=LB (l:=l) (es:=es) (items:=items) (fun k (s:RS) (acc:List (List Int))=>((k:Int),acc,s.Cut,s.Holes,s.Done,s.Joints,s.Fallen,s.Fallen)) (gB l items (es,0)) (fun s s' a=>a++[Lt l.Pieces.length s s']) (fun k _ a=>a.length=k)
    (fun k x s s' acc hx hs hf hI=>⟨FK hr.v.n hr.k k x s s' acc hI hx hs hf,by simp [hI]⟩) (fun s acc=>.inr (s.Cut,s.Holes,s.Done,s.Joints,s.Fallen,acc,s.Fallen)) (fun s acc=>by simp [gB]) hr.s [] (Oi es.length) rfl
  have q':aD (gB l items (es,0)) (0,[],(toC (st0 l es.length)).Cut,(toC (st0 l es.length)).Holes,(toC (st0 l es.length)).Done,(toC (st0 l es.length)).Joints,(toC (st0 l es.length)).Fallen,List.replicate l.Pieces.length false)=_:=q
  unfold Ho vG
  rw [hm,hr.e1]
  simp only [Option.bind_some,bne_self_eq_false,Bool.false_eq_true,if_false,hd,hr.a1,q']
def Bg (n:Nat):RS→List RS→List (List Int)
  | _,[]=>[]
  | s,s'::ss=>Lt n s s'::Bg n s' ss
theorem Vh {n:Nat}:∀ (ss:List RS) (s:RS) (acc:List (List Int)),Kq (fun s s' a=>a++[Lt n s s']) s ss acc=acc++Bg n s ss
  | [],_,acc=>by simp [Kq,Bg]
  | s'::ss,s,acc=>by rw [Kq,Vh ss];simp [Bg]
theorem Yk {n:Nat}:∀ (ss:List RS) (s:RS),(Bg n s ss).length=ss.length
  | [],_=>rfl
  | s'::ss,s=>by simp [Bg,Yk ss]
def Tq (n:Nat) (q:Nat→Bool):List Int:=(List.range n).map fun i=>if q i then 1 else 0
theorem Kz (n:Nat) (q:Nat→Bool):(Tq n q).length=n:=by simp [Tq]
theorem Hm {n:Nat} (q:Nat→Bool) {i:Nat} (hi:i<n):(Tq n q)[i]?=some (if q i then 1 else 0):=by
  unfold Tq;rw [List.getElem?_map,List.getElem?_range hi];rfl
theorem SC {n:Nat} {q q':Nat→Bool} {m:Nat} (hm:m<n) (h1:q' m=true) (h2:∀ i,i≠m→q' i=q i):(Tq n q).set m 1=Tq n q':=by
  refine List.ext_getElem? fun i=>?_
  rw [List.getElem?_set]
  by_cases e:m=i
  · subst e
    rw [if_pos rfl,if_pos (by rw [Kz];exact hm),Hm _ hm,h1];rfl
  · rw [if_neg e]
    by_cases hi:i<n
    · rw [Hm _ hi,Hm _ hi,h2 i fun h=>e h.symm]
    · rw [List.getElem?_eq_none (by rw [Kz];omega),List.getElem?_eq_none (by rw [Kz];omega)]
def bump (c:List Int) (i:Int):List Int:=c.set i.toNat (aF (c.getD i.toNat 0) 1)
theorem BH {n:Nat} {q f:Nat→Bool} (hq:∀ i,q i=true→f i=false):∀ m,m≤n→(Tz m q).foldl bump (Tq n f)=Tq n fun i=>(decide (i<m)&&q i) || f i
  | 0,_=>by
    rw [show (fun i=>(decide (i<0)&&q i) || f i)=f from funext fun i=>by simp];rfl
  | m+1,h=>by
    have ih:=BH (n:=n) hq m (by omega)
    rw [BQ]
    by_cases hm:q m=true
    · rw [if_pos hm,List.foldl_append,ih]
      show ((Tq n _).set ((m:Int).toNat) _)=_
      have e:(Tq n fun i=>(decide (i<m)&&q i) || f i).getD m 0=0:=by
        rw [mP (Hm _ (show m<n by omega))]
        simp [hq m hm]
      rw [Int.toNat_natCast,e,show aF 0 1=1 from aL (by omega) (by omega)]
      refine SC (m:=m) (show m<n by omega) (by simp [hm]) fun i hi=>?_
      have:decide (i<m+1)=decide (i<m):=by simp;omega
      rw [this]
    · rw [if_neg hm,ih]
      congr 1
      funext i
      by_cases e:i=m
      · subst e
        have:q i=false:=by simpa using hm
        simp [this]
      · have:decide (i<m+1)=decide (i<m):=by simp;omega
        rw [this]
def cntF (n:Nat) (s:RS):List Int:=Tq n fun i=>s.Fallen.getD i false
theorem SE {n:Nat} {s s':RS} (h1:s.Fallen.length=n) (h2:s'.Fallen.length=n) (hmono:∀ i,s.Fallen.getD i false=true→s'.Fallen.getD i false=true):(Lt n s s').foldl bump (cntF n s)=cntF n s':=by
  unfold Lt cntF
  rw [BH (fun i h=>by
    have h2:=(Bool.and_eq_true _ _).mp h |>.2
    simpa using h2) n (Nat.le_refl n)]
  unfold Tq
  refine List.map_congr_left fun i hi=>?_
  have hi':=List.mem_range.1 hi
  have hm:=hmono i
  show (if ((decide (i<n)&&(s'.Fallen.getD i false&&!s.Fallen.getD i false)) || s.Fallen.getD i false)=true then (1:Int) else 0)=if s'.Fallen.getD i false=true then 1 else 0
  generalize s.Fallen.getD i false=f at hm ⊢
  generalize s'.Fallen.getD i false=f' at hm ⊢
  cases f with
  | true=>rw [hm rfl];simp
  | false=>cases f' <;> simp [hi']
theorem TE {n:Nat} {q:Nat→Bool} {i:Int} (h:i ∈ Tz n q):0≤i∧i<(n:Int):=by
  unfold Tz at h
  obtain ⟨k,hk,rfl⟩:=List.mem_map.1 h
  have:=List.mem_range.1 (List.mem_filter.1 hk).1
  omega
theorem JQ {n:Nat} (hn:n≤8) {s s':RS} (h1:s.Fallen.length=n) (h2:s'.Fallen.length=n) (hmono:∀ i,s.Fallen.getD i false=true→s'.Fallen.getD i false=true) {F:List (List Int)} (z:Int) {k:Nat} (hF:F[k]?=some (Lt n s s')) (c0:List Int) :
    aD (gK (F,z) ((k:Int),c0)) (0,cntF n s)=some (.inr (cntF n s')):=by
  have hl:(Lt n s s').length≤n:=FZ _ _
  obtain ⟨q,_⟩:=UH (Lt n s s') bump (fun j c=>((j:Int),c)) (gK (F,z) ((k:Int),c0)) (fun c=>.inr c) (fun _ c=>c.length=n) (cntF n s) (Kz _ _)
    (fun j x c hx hc=>by
      have hj:=aP hx
      obtain ⟨x0,x1⟩:=TE (List.mem_of_getElem? hx)
      obtain ⟨m,hm⟩:∃ m:Nat,x=(m:Int):=⟨x.toNat,by omega⟩
      subst hm
      have hc1:c[m]?=some (c[m]'(by omega)):=List.getElem?_eq_getElem (by omega)
      unfold gK
      have hd:decide ((j:Int)<((Lt n s s').length:Int))=true:=by simp [hj]
      have d1:decide ((m:Int)<0)=false:=by rw [decide_eq_false_iff_not];omega
      have d2:decide ((m:Int) ≥ (c.length:Int))=false:=by rw [decide_eq_false_iff_not];omega
      simp only [aJ hF,Option.bind_some,hd,if_true,aJ hx,d1,Bool.false_eq_true,if_false,d2,aJ hc1,aS j (show (j:Int)<9223372036854775807 by omega)]
      refine ⟨?_,by unfold bump;rw [List.length_set];exact hc⟩
      unfold bump
      rw [Int.toNat_natCast,mP hc1])
    (fun c _=>by
      unfold gK
      simp only [aJ hF,Option.bind_some,Int.lt_irrefl,decide_false,Bool.false_eq_true,if_false])
  rw [SE h1 h2 hmono] at q
  exact q
theorem OT {l:LayoutT} (n8:l.Pieces.length≤8) {es:List EdgeT} {items:List ItemT} (h128:items.length≤128) {F:List (List Int)} (z:Int) {xs:List ItemT} {s:RS} {ss:List RS} (h:Steps l es s xs ss):∀ k:Nat,items.drop k=xs→F.drop k=Bg l.Pieces.length s ss→Fit l es.length s →
    aD (gL items (F,z)) ((k:Int),cntF l.Pieces.length s)=some (.inr (cntF l.Pieces.length (oD s ss))):=by
  induction h with
  | nil s =>
    intro k hd _ _
    have hk:items.length≤k:=by
      have:=congrArg List.length hd
      simp at this;omega
    refine dD ?_
    unfold gL
    have:decide ((k:Int)<(items.length:Int))=false:=by simp;omega
    simp only [this,Bool.false_eq_true,if_false]
    rfl
  | @cons s s' x xs ss h _ ih =>
    intro k hd hd2 hf
    have hx:items[k]?=some x:=by
      have:(items.drop k)[0]?=some x:=by rw [hd];rfl
      rwa [List.getElem?_drop,Nat.add_zero] at this
    have hF:F[k]?=some (Lt l.Pieces.length s s'):=by
      have:(F.drop k)[0]?=some (Lt l.Pieces.length s s'):=by rw [hd2];rfl
      rwa [List.getElem?_drop,Nat.add_zero] at this
    have hd':items.drop (k+1)=xs:=by
      have:(items.drop k).drop 1=xs:=by rw [hd];rfl
      rwa [List.drop_drop] at this
    have hd2':F.drop (k+1)=Bg l.Pieces.length s' ss:=by
      have:(F.drop k).drop 1=Bg l.Pieces.length s' ss:=by rw [hd2];rfl
      rwa [List.drop_drop] at this
    have hk:=aP hx
    have hf':=Hy h.d hf
    have hp:∃ p:Nat,x.Piece=p∧p<l.Pieces.length∧s.Fallen[p]?=some false:=by
      cases h.d with
      | @hole p h y t hp hh hj hy hfl ht hb=>exact ⟨p,hp,aP hy,hfl⟩
      | @line p y t hp hh hj hy hfl hdn ht ha hn=>exact ⟨p,hp,aP hy,hfl⟩
    obtain ⟨p,hp,hpl,hfl⟩:=hp
    have hc:(cntF l.Pieces.length s)[p]?=some 0:=by
      unfold cntF;rw [Hm _ hpl,mP hfl];rfl
    have q:=JQ n8 hf.f hf'.f (OM h.d hf).2.2 z hF (cntF l.Pieces.length s)
    rw [jJ (s':=(((k+1:Nat):Int),cntF l.Pieces.length s'))]
    · exact ih (k+1) hd' hd2' hf'
    · unfold gL
      have hd:decide ((k:Int)<(items.length:Int))=true:=by simp [hk]
      simp only [hd,if_true,aJ hx,Option.bind_some,hp,aJ hc,Int.lt_irrefl,gt_iff_lt,decide_false,Bool.false_eq_true,if_false,q,aS k (show (k:Int)<9223372036854775807 by omega)]
structure EInv (n:Nat) (s:RS):Prop where
  j:∀ i,i<n→0≤s.Joints.getD i 0
  a:∀ i,i<n→s.Done.getD i false=true→s.Fallen.getD i false=true→s.Joints.getD i 0=0
def Full (n:Nat) (es:List EdgeT) (s:RS):Prop:=∀ i,i<n→Dx es s.Cut (i:Int)=true→¬ (s.Done.getD i false=true∧s.Joints.getD i 0>0)→s.Fallen.getD i false=true
theorem FX {n:Nat} {es:List EdgeT} {c D:List Bool} {J:List Int} {F:List Bool} {i:Nat} (hi:i<n):(fell n es c D J F).getD i false=(Vg es c D J i || F.getD i false):=Ue _ _ hi
theorem BP {n:Nat} {es:List EdgeT} {c D:List Bool} {J:List Int} {F:List Bool} (H:List (List Bool)):Full n es ⟨c,H,D,J,fell n es c D J F⟩:=fun i hi hfr hn=>by
  show (fell n es c D J F).getD i false=true
  rw [FX hi]
  unfold Vg
  have hfr':Dx es c (i:Int)=true:=hfr
  have hn':¬ (D.getD i false=true∧J.getD i 0>0):=hn
  rw [hfr']
  cases hd:D.getD i false with
  | false=>simp
  | true =>
    have h3:decide (J.getD i 0>0)=false:=by
      rw [decide_eq_false_iff_not];exact fun h=>hn' ⟨hd,h⟩
    rw [h3];simp
theorem OL {l:LayoutT} {es:List EdgeT} {s s':RS} {x:ItemT} (hd:Does l es s x s'):Full l.Pieces.length es s':=by
  cases hd with
  | @hole p h y t hp hh hj hy hfl ht hb=>exact BP _
  | @line p y t hp hh hj hy hfl hdn ht ha hn=>exact BP _
theorem OJ {l:LayoutT} {es:List EdgeT} {s s':RS} {x:ItemT} (hd:Does l es s x s') (hf:Fit l es.length s) (hi:EInv l.Pieces.length s):EInv l.Pieces.length s':=by
  have core:∀ (c:List Bool) (D:List Bool) (J:List Int),(∀ i,i<l.Pieces.length→0≤J.getD i 0)→(∀ i,i<l.Pieces.length→D.getD i false=true→s.Fallen.getD i false=true→J.getD i 0=0)→∀ i,i<l.Pieces.length→D.getD i false=true→(fell l.Pieces.length es c D J s.Fallen).getD i false=true→J.getD i 0=0:=fun c D J hj ha i hil hd hF=>by
    rw [FX hil,Bool.or_eq_true] at hF
    rcases hF with hF | hF
    · unfold Vg at hF
      rw [hd,Bool.true_and,Bool.and_eq_true] at hF
      have h2:decide (J.getD i 0>0)=false:=by simpa using hF.2
      have h3:¬ J.getD i 0>0:=by simpa using h2
      have:=hj i hil
      omega
    · exact ha i hil hd hF
  cases hd with
  | @hole p h y t hp hh hj hy hfl ht hb=>exact ⟨hi.j,core _ _ _ hi.j hi.a⟩
  | @line p y t hp hh hj hy hfl hdn ht ha hn =>
    have hpj:p<s.Joints.length:=by rw [hf.j];exact aP hy
    have hpd:=aP hdn
    have j':∀ i,i<l.Pieces.length→0≤(s.Joints.set p x.Joints).getD i 0:=fun i hil=>by
      rw [Av _ _ _ _ _ hpj]
      split
      · exact hj.1
      · exact hi.j i hil
    refine ⟨j',core _ _ _ j' fun i hil hd hF=>?_⟩
    by_cases e:i=p
    · subst e
      rw [mP hfl] at hF;cases hF
    · have hd':(s.Done.set p true).getD i false=true:=hd
      rw [Av _ _ _ _ _ hpd,if_neg e] at hd'
      show (s.Joints.set p x.Joints).getD i 0=0
      rw [Av _ _ _ _ _ hpj,if_neg e]
      exact hi.a i hil hd' hF
theorem LK {l:LayoutT} {es:List EdgeT} {s:RS} {xs:List ItemT} {ss:List RS} (h:Steps l es s xs ss):Fit l es.length s→EInv l.Pieces.length s→EInv l.Pieces.length (oD s ss)∧(ss≠[]→Full l.Pieces.length es (oD s ss)):=by
  induction h with
  | nil s=>exact fun _ hi=>⟨hi,fun h=>absurd rfl h⟩
  | @cons s s' x xs ss h t ih =>
    intro hf hi
    obtain ⟨a,b⟩:=ih (Hy h.d hf) (OJ h.d hf hi)
    refine ⟨a,fun _=>?_⟩
    cases ss with
    | nil=>exact OL h.d
    | cons s2 ss=>exact b (by simp)
theorem TH {es:List EdgeT} {c:List Bool} (h:∀ i,i<es.length→c.getD i false=true) (p:Int):Dx es c p=true:=by
  unfold Dx
  rw [Bool.not_eq_true',List.any_eq_false]
  intro i hi
  have hil:=List.mem_range.1 hi
  unfold held
  rw [List.getElem?_eq_getElem hil]
  have h1:=h i hil
  rw [List.getD_eq_getElem?_getD] at h1
  cases hc:c[i]? with
  | none=>simp
  | some b=>rw [hc] at h1;simp at h1;simp [h1]
theorem WZ {l:LayoutT} {items:List ItemT} {es:List EdgeT} {ss:List RS} (hr:Ran l items es ss) (hd:((oD (st0 l es.length) ss).Done.all fun b=>b)=true):∀ i,i<es.length→(oD (st0 l es.length) ss).Cut.getD i false=true:=by
  have hf:=(Uy hr.s (Oi es.length)).1
  have hc:=LJ hr.s (fun p hp=>by
    rw [show (st0 l es.length).Done=List.replicate l.Pieces.length false from rfl,Ic] at hp
    exact absurd hp (by decide))
  generalize oD (st0 l es.length) ss=s at hd hf hc
  obtain ⟨xs,ys,hL,hes⟩:=hr.g
  intro k hk
  have hk':es[k]?=some es[k]:=List.getElem?_eq_getElem hk
  obtain ⟨p,hp,ho⟩:=SK hL es[k] (by rw [← hes];exact List.getElem_mem hk)
  have hpl:p<s.Done.length:=by rw [hf.d];simpa [regs] using hp
  exact hc p (Xp hd hpl) k _ hk' ho
theorem GR (l:LayoutT) (items:List ItemT) (h:uW l) (_:RLN 1048576 Xl items):sP l items=some true:=by
  obtain ⟨e,c1,_,c3⟩:=JD l h items
  unfold sP
  rw [c1]
  simp only [Option.bind_some]
  by_cases he:e=0
  case neg =>
    have he':(e != 0)=true:=by rw [bne_iff_ne];exact he
    simp only [he',if_true,BZ,Option.bind_some]
  subst he
  obtain ⟨es,ss,hr,hd,hh⟩:=c3 rfl
  obtain ⟨s,k,e,r1,_,_,r4⟩:=EX l h items
  have key:e=0∧s=oD (st0 l es.length) ss:=by
    rcases r4 with ⟨he,_,⟨_,⟨es',h1⟩ | ⟨es',_,_,h1,_⟩⟩ | ⟨es',pre,x,post,ss',h1,_,h2,_,_,h5,h6,h7,h8⟩⟩ | ⟨he,hk,es',ss',hr',hs⟩
    · have:=hr.e1;rw [h1] at this;injection this with this;injection this with _ this;exact absurd this he
    · exact absurd hr.k h1
    · exfalso
      have e2:=hr.e1;rw [h2] at e2;injection e2 with e2;injection e2 with e2 _
      subst e2
      -- the same items,run to their end and stopped before it
      have clash:∀ (xs pre:List ItemT) (post:List ItemT) (s:RS) (ss ss':List RS),Steps l es' s xs ss→xs=pre++x::post→Steps l es' s pre ss'→Stop1 l es' (oD s ss') x e→False:=by
        intro xs pre
        induction pre generalizing xs with
        | nil =>
          intro post s ss ss' a b c d
          cases c
          subst b
          cases a with
          | cons a1 _=>have:=a1.r;rw [show oD s []=s from rfl] at d;rw [d.r] at this;injection this with this;exact d.n this
        | cons y pre ih =>
          intro post s ss ss' a b c d
          subst b
          cases c with
          | cons c1 c2 =>
            cases a with
            | cons a1 a2 =>
              have e3:=a1.f;rw [c1.f] at e3;injection e3 with e3
              subst e3
              exact ih _ post _ _ _ a2 rfl c2 d
      exact clash items pre post _ ss ss' hr.s h5 h7 h8
    · refine ⟨he, ?_⟩
      have e2:=hr.e1;rw [hr'.e1] at e2;injection e2 with e2;injection e2 with e2 _
      subst e2
      have t1:=hr.t;rw [hr'.t] at t1;injection t1 with t1;injection t1 with t1 _
      rw [hs,t1]
  obtain ⟨he,hs⟩:=key
  subst he
  have hfit:=(Uy hr.s (Oi es.length)).1
  have hF:=NP h hr
  have hlen:=hr.s.len
  have hk128:=hr.k
  have hcut:=WZ hr hd
  have h0:EInv l.Pieces.length (st0 l es.length):=by
    refine ⟨fun i _=>?_,fun i _ hi=>?_⟩
    · rw [show (st0 l es.length).Joints=List.replicate l.Pieces.length 0 from rfl,Ic];omega
    · rw [show (st0 l es.length).Done=List.replicate l.Pieces.length false from rfl,Ic] at hi;cases hi
  obtain ⟨inv,full⟩:=LK hr.s (Oi es.length) h0
  have q:=OT hr.v.n hr.k (F:=Bg l.Pieces.length (st0 l es.length) ss) 0 hr.s 0 (by simp) (by simp) (Oi es.length)
  rw [Vh,List.nil_append] at hF
  have hn8:=hr.v.n
  have hz:mk (l.Pieces.length:Int) (0:Int)=some (cntF l.Pieces.length (st0 l es.length)):=by
    rw [Ox _ _ (by omega)]
    congr 1
    unfold cntF Tq
    rw [show (st0 l es.length).Fallen=List.replicate l.Pieces.length false from rfl]
    refine List.ext_getElem? fun i=>?_
    rw [List.getElem?_map,List.getElem?_replicate]
    by_cases hi:i<l.Pieces.length
    · rw [List.getElem?_range hi,if_pos hi]
      simp only [Option.map_some,Ic,Bool.false_eq_true,if_false]
    · rw [if_neg hi,List.getElem?_eq_none (by simp;omega)];rfl
  have hnil:ss=[]→l.Pieces.length=0:=fun hss=>by
    subst hss
    have h1:((st0 l es.length).Done.all fun b=>b)=true:=hd
    by_cases hp:l.Pieces.length=0
    · exact hp
    · exfalso
      have:=Xp h1 (i:=0) (by show 0<(List.replicate l.Pieces.length false).length;simp;omega)
      rw [show (st0 l es.length).Done=List.replicate l.Pieces.length false from rfl,Ic] at this
      cases this
  subst hs
  generalize oD (st0 l es.length) ss=s at *
  have hfall:∀ i,i<l.Pieces.length→∃ f j,s.Fallen[i]?=some f∧s.Joints[i]?=some j∧(f==(j==0))=true:=fun i hi=>by
    have e1:s.Fallen[i]?=some (s.Fallen[i]'(by have:=hfit.f;omega)):=List.getElem?_eq_getElem (by have:=hfit.f;omega)
    have e2:s.Joints[i]?=some (s.Joints[i]'(by have:=hfit.j;omega)):=List.getElem?_eq_getElem (by have:=hfit.j;omega)
    refine ⟨_,_,e1,e2, ?_⟩
    have hdi:=Xp hd (i:=i) (by rw [hfit.d];exact hi)
    have ia:=inv.a i hi hdi
    have ij:=inv.j i hi
    have fu:=full (fun hss=>by have:=hnil hss;omega) i hi (TH hcut _)
    rw [mP e1] at ia fu
    rw [mP e2] at ia ij fu
    rw [hdi] at fu
    generalize s.Fallen[i]'(by have:=hfit.f;omega)=f at *
    generalize s.Joints[i]'(by have:=hfit.j;omega)=j at *
    cases f with
    | true=>rw [ia rfl];rfl
    | false =>
      have:¬ j=0:=fun hj=>by
        have:=fu fun ⟨_,h⟩=>by omega
        cases this
      simp [this]
  have last:aD (gP (toC s,k,0,s.Holes) (cntF l.Pieces.length s)) 0=some (.inr ()):=by
    have:=Io (cntF l.Pieces.length s) (gP (toC s,k,0,s.Holes) (cntF l.Pieces.length s)) (fun _=>true) (.inl ()) (.inr ()) (fun i x hx=>?_) ?_
    · rw [this];simp
    · have hi:=aP hx
      have hin:i<l.Pieces.length:=by rwa [show (cntF l.Pieces.length s).length=l.Pieces.length from Kz _ _] at hi
      obtain ⟨f,j,e1,e2,e3⟩:=hfall i hin
      have e1':(toC s).Fallen[i]?=some f:=e1
      have e2':(toC s).Joints[i]?=some j:=e2
      have hx':x=if f then 1 else 0:=by
        unfold cntF at hx
        rw [Hm _ hin,mP e1] at hx
        exact (Option.some.inj hx).symm
      unfold gP
      have hdd:decide ((i:Int)<((cntF l.Pieces.length s).length:Int))=true:=by simp [hi]
      simp only [hdd,if_true,aJ e1',aJ e2',aJ hx,Option.bind_some,e3,aS i (show (i:Int)<9223372036854775807 by omega),hx']
      cases f <;> rfl
    · simp [gP]
  rw [r1,hF]
  have b1:(((Bg l.Pieces.length (st0 l es.length) ss).length:Int) != (items.length:Int))=false:=by rw [Yk,hlen];simp
  have b2:(((toC s).Fallen.length:Int) != (l.Pieces.length:Int))=false:=by show ((s.Fallen.length:Int) != _)=false;rw [hfit.f];simp
  have b3:(((toC s).Joints.length:Int) != (l.Pieces.length:Int))=false:=by show ((s.Joints.length:Int) != _)=false;rw [hfit.j];simp
  have q':aD (gL items (Bg l.Pieces.length (st0 l es.length) ss,0)) (0,cntF l.Pieces.length (st0 l es.length))=some (.inr (cntF l.Pieces.length s)):=q
  simp only [Option.bind_some,bne_self_eq_false,Bool.false_eq_true,if_false,b1,b2,b3,hz,q',last,BZ]
end Go.SM
