/- What the functions compute, part 3. -/
import Derived.Test.YtgfjbgoehhnaeaaPl2
import Derived.Test.YtgfjbgoehhnaeaaPl1
set_option linter.unusedVariables false
set_option linter.unusedSimpArgs false
set_option linter.unusedSectionVars false
namespace Go.SM
open Go Go.VI
theorem Pi {s:Sheet} (h:jN s=some 0):s.Clamps.length≤4∧s.Used.length≤48:=by
  obtain ⟨a,ha,_⟩:=Name_same s.Name
  obtain ⟨b,hb,_⟩:=Name_same s.Material
  unfold jN at h
  rw [ha,hb] at h
  cases a with
  | false=>exact absurd (Option.some.inj h) (by decide)
  | true =>
  cases b with
  | false=>exact absurd (Option.some.inj h) (by decide)
  | true =>
  simp only [Option.bind_some,Ls,DK,if_true,Bool.not_true,Bool.false_eq_true,if_false] at h
  generalize decide ((1≤s.Gauge∧s.Gauge≤60)∧0≤s.Grain∧s.Grain≤2)=g1 at h
  generalize decide (1≤s.Width∧s.Width≤1048576)=g2 at h
  generalize decide (1≤s.Height∧s.Height≤1048576)=g3 at h
  by_cases h4:(s.Clamps.length:Int)>4
  · simp only [h4,decide_true,if_true,Option.bind_some] at h
    cases g1 <;> cases g2 <;> cases g3 <;> exact absurd (Option.some.inj h) (by decide)
  by_cases h5:(s.Used.length:Int)>48
  · simp only [h4,h5,decide_false,decide_true,if_true,Bool.false_eq_true,if_false,Option.bind_some] at h
    cases g1 <;> cases g2 <;> cases g3 <;> exact absurd (Option.some.inj h) (by decide)
  omega
theorem QC {α:Type} {l:List α} {k:Nat} (h:k≤l.length):slc l 0 (k:Int)=some (l.take k):=by
  unfold slc;rw [if_pos (by omega)];simp
theorem BM {l:List Rect} {g:Rect→Int}:∀ {a:Int},l.foldl (fun s r=>min s (g r)) a=a∨∃ r ∈ l,l.foldl (fun s r=>min s (g r)) a=g r:=by
  induction l with
  | nil=>intro a;exact .inl rfl
  | cons x l ih =>
    intro a
    simp only [List.foldl_cons]
    rcases ih (a:=min a (g x)) with h | ⟨r,hr,h⟩
    · rw [h]
      by_cases hx:a≤g x
      · left;omega
      · right;exact ⟨x,by simp,by omega⟩
    · exact .inr ⟨r,by simp [hr],h⟩
theorem Ik {α β:Type} (l:List α) (f:α→β) (body:Int×List β→Option ((Int×List β) ⊕ List β)) (hl:l.length≤1048576) (step:∀ (k:Nat) x acc,l[k]?=some x→body ((k:Int),acc)=(app acc [f x]).bind fun l'=>some (.inl (((k+1:Nat):Int),l'))) (fin:∀ acc,body ((l.length:Int),acc)=some (.inr acc)) :
    aD body (0,[])=some (l.map f):=by
  refine Ab l body (fun k=>((k:Int),(l.take k).map f)) _ (fun k x hx=>?_) ?_
  · have hk:=(List.getElem?_eq_some_iff.1 hx).1
    rw [step k x _ hx,nZ (by unfold LIM;simp;omega)]
    simp only [Option.bind_some]
    rw [List.take_add_one,hx]
    simp
  · rw [fin,List.take_length]
def bkR (x y:Int) (r:Rect):Rect:=if r.X < -4194304∨r.X>4194304∨r.Y < -4194304∨r.Y>4194304 then ⟨r.X,r.Y,0,r.H⟩ else ⟨aH r.X x,aH r.Y y,r.W,r.H⟩
def shR (x y:Int) (r:Rect):Rect:=if r.X > -2147483648∧r.X<2147483648∧r.Y > -2147483648∧r.Y<2147483648 then ⟨aF r.X x,aF r.Y y,r.W,r.H⟩ else r
theorem CP {l:List Rect} (hl:l.length≤1048576) (x y:Int):Hu l x y=some (l.map (bkR x y)):=by
  unfold Hu kS
  rw [nZ (by unfold LIM;simp;omega)]
  simp only [List.nil_append,Option.bind_some]
  have key:aD (Ba x y l) (0,l)=some (l.map (bkR x y)):=by
    refine Ab l (Ba x y l) (fun k=>((k:Int),(l.take k).map (bkR x y)++l.drop k)) _ (fun k r hr=>?_) ?_
    · have hk:=(List.getElem?_eq_some_iff.1 hr).1
      have h1:decide ((k:Int)<(l.length:Int))=true:=by simp;omega
      have ht:((l.take k).map (bkR x y)).length=k:=by simp;omega
      have ed:l.drop k=r::l.drop (k+1):=by rw [List.drop_eq_getElem_cons hk];congr 1;exact (List.getElem?_eq_some_iff.1 hr).2
      have g1:∀ z:Rect,((l.take k).map (bkR x y)++z::l.drop (k+1))[k]?=some z:=fun z=>by rw [List.getElem?_append_right (by omega),ht];simp
      have i1:∀ z:Rect,idx ((l.take k).map (bkR x y)++z::l.drop (k+1)) (k:Int)=some z:=fun z=>aJ (g1 z)
      have s1:∀ z z':Rect,List.set ((l.take k).map (bkR x y)++z::l.drop (k+1)) k z'=(l.take k).map (bkR x y)++z'::l.drop (k+1):=fun z z'=>by rw [List.set_append_right _ _ (by omega),ht];simp
      have e:l.take (k+1)=l.take k++[r]:=by rw [List.take_add_one,hr];rfl
      unfold Ba Fp
      simp only [h1,if_true,ed,i1,g1,s1,Option.bind_some,Int.toNat_natCast]
      rw [aL (a:=(k:Int)) (by omega) (by omega),e,List.map_append,List.append_assoc]
      by_cases q1:r.X < -4194304
      · simp [q1,bkR]
      · by_cases q2:r.X>4194304
        · simp [q1,q2,bkR]
        · by_cases q3:r.Y < -4194304
          · simp [q1,q2,q3,bkR]
          · by_cases q4:r.Y>4194304
            · simp [q1,q2,q3,q4,bkR]
            · simp [q1,q2,q3,q4,bkR]
    · simp [Ba]
  rw [key]
  rfl
theorem Zm {l:List Rect} (hl:l.length≤1048576) (x y:Int):lL l x y=some (l.map (shR x y)):=by
  unfold lL
  rw [Ik l (shR x y) (mJ l x y) hl (fun k r acc hx=>?_) (fun acc=>?_)]
  · rfl
  · have hk:=(List.getElem?_eq_some_iff.1 hx).1
    unfold mJ rX
    have h1:decide ((k:Int)<(l.length:Int))=true:=by simp;omega
    simp only [h1,if_true,aJ hx,Option.bind_some]
    rw [aL (a:=(k:Int)) (by omega) (by omega)]
    unfold shR
    by_cases g1:r.X > -2147483648
    · by_cases g2:r.X<2147483648
      · by_cases g3:r.Y > -2147483648
        · by_cases g4:r.Y<2147483648
          · simp [g1,g2,g3,g4]
          · simp [g1,g2,g3,g4]
        · simp [g1,g2,g3]
      · simp [g1,g2]
    · simp [g1]
  · simp [mJ]
theorem C9 {mx my:Int} (hx : -1048576≤mx∧mx≤1048576) (hy : -1048576≤my∧my≤1048576) (r:Rect) (hr:Xm r):bkR mx my r=shR (tT mx) (tT my) r∨(¬ vR (bkR mx my r)∧¬ vR (shR (tT mx) (tT my) r)):=by
  obtain ⟨⟨a1,a2⟩,⟨b1,b2⟩,_,_⟩:=hr
  unfold bkR shR
  rw [DU (a:=mx) (by omega) (by omega),DU (a:=my) (by omega) (by omega)]
  by_cases h:r.X < -4194304∨r.X>4194304∨r.Y < -4194304∨r.Y>4194304
  · right
    rw [if_pos h]
    refine ⟨fun q=>?_,fun q=>?_⟩
    · have:=q.2.2.1;simp at this
    · by_cases g:r.X > -2147483648∧r.X<2147483648∧r.Y > -2147483648∧r.Y<2147483648
      · rw [if_pos g,aL (by omega) (by omega),aL (by omega) (by omega)] at q
        obtain ⟨q1,q2,_⟩:=q
        simp only at q1 q2
        omega
      · rw [if_neg g] at q
        obtain ⟨q1,q2,_⟩:=q
        omega
  · left
    rw [if_neg h,if_pos (by omega),aR (by omega) (by omega),aR (by omega) (by omega),aL (by omega) (by omega),aL (by omega) (by omega)]
    rfl
theorem QN {x:Piece} {a b:Bool} (ha:kP x.Name=some a) (hb:kP x.Material=some b) (h:∃ r ∈ x.Rects++(x.Cuts++x.Forms),¬ vR r) :
    dY x=some (if a&&b then (if (1≤x.Gauge∧x.Gauge≤60)∧0≤x.Grain∧x.Grain≤2 then (if x.Rects.length>12∨x.Cuts.length>12∨x.Forms.length>12 then 4 else 1) else 1) else 2):=by
  unfold dY
  rw [ha,hb]
  cases a with
  | false=>rfl
  | true =>
  cases b with
  | false=>rfl
  | true =>
  simp only [Option.bind_some,Ls,Bool.and_self,if_true,Bool.not_true,Bool.false_eq_true,if_false]
  by_cases h1:(1≤x.Gauge∧x.Gauge≤60)∧0≤x.Grain∧x.Grain≤2
  · simp only [h1,and_self,decide_true,Bool.not_true,Bool.false_eq_true,if_false,if_true]
    by_cases l1:x.Rects.length>12
    · simp [show (x.Rects.length:Int)>12 by omega,l1]
    by_cases l2:x.Cuts.length>12
    · simp [show ¬ (x.Rects.length:Int)>12 by omega,show (x.Cuts.length:Int)>12 by omega,l1,l2]
    by_cases l3:x.Forms.length>12
    · simp [show ¬ (x.Rects.length:Int)>12 by omega,show ¬ (x.Cuts.length:Int)>12 by omega,show (x.Forms.length:Int)>12 by omega,l1,l2,l3]
    have d1:decide ((x.Rects.length:Int)>12)=false:=by simp;omega
    have d2:decide ((x.Cuts.length:Int)>12)=false:=by simp;omega
    have d3:decide ((x.Forms.length:Int)>12)=false:=by simp;omega
    have hc:¬ (x.Rects.length>12∨x.Cuts.length>12∨x.Forms.length>12):=by omega
    simp only [d1,d2,d3,hc,Bool.false_eq_true,if_false,Option.bind_some,valid_eq x.Rects (by omega),valid_eq x.Cuts (by omega),valid_eq x.Forms (by omega)]
    have anyb:∀ l:List Rect,(∃ r ∈ l,¬ vR r)→(l.any fun x=>!decide (vR x))=true:=fun l ⟨r,hr,hv⟩=>List.any_eq_true.2 ⟨r,hr,by simp [hv]⟩
    obtain ⟨r,hr,hv⟩:=h
    have hj:(if ((x.Rects.length:Int)==0)=true then some true else (if (!(x.Rects.any fun x=>!decide (vR x)))=true then (if (!(x.Cuts.any fun x=>!decide (vR x)))=true then some (!(!(x.Forms.any fun x=>!decide (vR x)))) else some true) else some true))=some true:=by
      cases (x.Rects.length:Int)==0 with
      | true=>rfl
      | false =>
        rcases List.mem_append.1 hr with hr | hr
        · rw [anyb _ ⟨r,hr,hv⟩];rfl
        · rcases List.mem_append.1 hr with hr | hr
          · rw [anyb x.Cuts ⟨r,hr,hv⟩];cases (x.Rects.any fun x=>!decide (vR x)) <;> rfl
          · rw [anyb x.Forms ⟨r,hr,hv⟩];cases (x.Rects.any fun x=>!decide (vR x)) <;> cases (x.Cuts.any fun x=>!decide (vR x)) <;> rfl
    rw [hj]
    rfl
  · simp only [h1,decide_false,Bool.not_false,if_true,if_false]
theorem YQ {x:Piece} (h:dY x=some 0):x.Rects.length≤12:=by
  obtain ⟨a,ha,_⟩:=Name_same x.Name
  obtain ⟨b,hb,_⟩:=Name_same x.Material
  unfold dY at h
  rw [ha,hb] at h
  by_cases l1:(x.Rects.length:Int)>12
  · cases a with
    | false=>exact absurd (Option.some.inj h) (by decide)
    | true =>
    cases b with
    | false=>exact absurd (Option.some.inj h) (by decide)
    | true =>
    simp only [Option.bind_some,Ls,if_true,Bool.not_true,Bool.false_eq_true,if_false,l1,decide_true] at h
    generalize decide ((1≤x.Gauge∧x.Gauge≤60)∧0≤x.Grain∧x.Grain≤2)=g1 at h
    cases g1 <;> exact absurd (Option.some.inj h) (by decide)
  · omega
def Sm (x:Piece):Prop:=(x.Rects.length≤1048576∧∀ r ∈ x.Rects,Xm r)∧(x.Cuts.length≤1048576∧∀ r ∈ x.Cuts,Xm r)∧(x.Forms.length≤1048576∧∀ r ∈ x.Forms,Xm r)
theorem BD (x0:Piece) (hl:x0.Rects.length≤1048576) (a b:Int):aD (fD x0) (a,b,0)=some (Ru x0.Rects a,Rw x0.Rects b):=by
  refine Ab x0.Rects (fD x0) (fun k=>(Ru (x0.Rects.take k) a,Rw (x0.Rects.take k) b,(k:Int))) _ (fun k r hr=>?_) ?_
  · have hk:=(List.getElem?_eq_some_iff.1 hr).1
    unfold fD
    have h1:decide ((k:Int)<(x0.Rects.length:Int))=true:=by simp;omega
    have e:x0.Rects.take (k+1)=x0.Rects.take k++[r]:=by rw [List.take_add_one,hr];rfl
    simp only [h1,if_true,aJ hr,Option.bind_some,e,Cm]
    rw [aL (a:=(k:Int)) (by omega) (by omega)]
    unfold Ru Rw
    rw [List.foldl_append,List.foldl_append]
    rfl
  · simp [fD]
theorem NM (x0:Piece):nC x0=fD x0:=by
  funext s
  unfold nC fD
  cases idx x0.Rects s.2.2 <;> rfl
theorem KJ (x0:Piece) (hl:x0.Rects.length≤1048576) {r:Rect} (hr:x0.Rects[0]?=some r):aD (nC x0) (r.X,r.Y,1)=some (Ru x0.Rects r.X,Rw x0.Rects r.Y):=by
  have i0:idx x0.Rects 0=some r:=aJ (k:=0) hr
  have hk:=(List.getElem?_eq_some_iff.1 hr).1
  have h1:aD (fD x0) (r.X,r.Y,0)=aD (fD x0) (r.X,r.Y,1):=by
    refine kL ?_
    unfold fD
    have hd:decide ((0:Int)<(x0.Rects.length:Int))=true:=by simp;omega
    simp only [hd,if_true,i0,Option.bind_some,Cm,Int.min_self]
    rfl
  rw [NM,← h1,BD x0 hl]
theorem Qc {x:Piece} (hs:Sm x):∃ e:Int,oC x=some e∧(e=0→x.Rects.length≤12) ∧
    ∀ {S:Type} (k:S),((wJ x).bind fun r79=>if (!r79.2.1) then (some (Sum.inr (Sum.inl (1:Int)):S ⊕ (Int ⊕ Unit))) else ((dB (Piece.mk r79.1.Name r79.1.Material r79.1.Gauge r79.1.Grain r79.1.Rects r79.1.Cuts r79.1.Forms)).bind fun r81=>if (r81 != 0) then (some (.inr (.inl r81))) else (some (.inl k))))=if e=0 then some (.inl k) else some (.inr (.inl e)):=by
  obtain ⟨⟨s1,t1⟩,⟨s2,t2⟩,s3,t3⟩:=hs
  have k1:aD (pY x) 0=some (if (x.Rects.any fun x=>!decide (vR x)) then .inl () else .inr ()):=by
    refine fQ x.Rects (pY x) (fun k=>(k:Int)) _ _ _ rfl (fun k y hx=>?_) ?_
    · have hk:=(List.getElem?_eq_some_iff.1 hx).1
      unfold pY
      have h1:decide ((k:Int)<(x.Rects.length:Int))=true:=by simp;omega
      simp only [h1,if_true,aJ hx,Option.bind_some,tO]
      rw [aL (a:=(k:Int)) (by omega) (by omega)]
      rfl
    · simp [pY]
  unfold oC wJ
  rw [k1,Dj _ (by omega)]
  cases hv:(x.Rects.any fun x=>!decide (vR x)) with
  | true=>exact ⟨1,rfl,fun h=>absurd h (by decide),fun k=>rfl⟩
  | false =>
  have av:∀ r ∈ x.Rects,vR r:=fun r hr=>by have:=List.any_eq_false.1 hv r hr;simpa using this
  simp only [Bool.false_eq_true,if_false,Option.bind_some,Bool.not_false,Bool.not_true]
  by_cases h0:(x.Rects.length:Int)=0
  · obtain ⟨e,e1,e2⟩:=Ph x
    refine ⟨e,by simp [h0,e1],fun _=>by omega,fun k=>?_⟩
    have e2':dB (Piece.mk x.Name x.Material x.Gauge x.Grain x.Rects x.Cuts x.Forms)=some e:=e2
    simp only [h0,beq_self_eq_true,if_true,Option.bind_some,Bool.not_true,Bool.false_eq_true,if_false,e2']
    by_cases he:e=0
    · simp [he]
    · simp [he]
  · have h0':((x.Rects.length:Int)==0)=false:=by rw [beq_eq_false_iff_ne];exact h0
    have hlt:0<x.Rects.length:=by omega
    have hr:x.Rects[0]?=some (x.Rects[0]'hlt):=by simp [hlt]
    have i0:idx x.Rects 0=some (x.Rects[0]'hlt):=aJ (k:=0) hr
    have hmem:x.Rects[0]'hlt ∈ x.Rects:=List.getElem_mem hlt
    have rb:=KJ x s1 hr
    generalize x.Rects[0]'hlt=r0 at hr i0 hmem rb
    have bx : -1048576≤Ru x.Rects r0.X∧Ru x.Rects r0.X≤1048576:=by
      have:∃ y ∈ x.Rects,Ru x.Rects r0.X=y.X:=by
        rcases BM (l:=x.Rects) (g:=fun r=>r.X) (a:=r0.X) with e | ⟨y,hy,e⟩
        · exact ⟨r0,hmem,e⟩
        · exact ⟨y,hy,e⟩
      obtain ⟨y,hy,e⟩:=this
      have:=av y hy;unfold vR at this;omega
    have by' : -1048576≤Rw x.Rects r0.Y∧Rw x.Rects r0.Y≤1048576:=by
      have:∃ y ∈ x.Rects,Rw x.Rects r0.Y=y.Y:=by
        rcases BM (l:=x.Rects) (g:=fun r=>r.Y) (a:=r0.Y) with e | ⟨y,hy,e⟩
        · exact ⟨r0,hmem,e⟩
        · exact ⟨y,hy,e⟩
      obtain ⟨y,hy,e⟩:=this
      have:=av y hy;unfold vR at this;omega
    unfold Bh
    simp only [h0',Bool.false_eq_true,if_false,i0,Option.bind_some,BD x s1,rb,CP s1,CP s2,CP s3,Zm s1,Zm s2,Zm s3,Bool.not_true]
    generalize Ru x.Rects r0.X=mx at bx
    generalize Rw x.Rects r0.Y=my at by'
    have main : ∃ e,dY ⟨x.Name,x.Material,x.Gauge,x.Grain,x.Rects.map (bkR mx my),x.Cuts.map (bkR mx my),x.Forms.map (bkR mx my)⟩=some e∧dB ⟨x.Name,x.Material,x.Gauge,x.Grain,x.Rects.map (shR (tT mx) (tT my)),x.Cuts.map (shR (tT mx) (tT my)),x.Forms.map (shR (tT mx) (tT my))⟩=some e:=by
      have cmp:=C9 bx by'
      by_cases hall:∀ r ∈ x.Rects++(x.Cuts++x.Forms),bkR mx my r=shR (tT mx) (tT my) r
      · have m1:x.Rects.map (bkR mx my)=x.Rects.map (shR (tT mx) (tT my)):=List.map_congr_left fun r hr=>hall r (List.mem_append.2 (.inl hr))
        have m2:x.Cuts.map (bkR mx my)=x.Cuts.map (shR (tT mx) (tT my)):=List.map_congr_left fun r hr=>hall r (List.mem_append.2 (.inr (List.mem_append.2 (.inl hr))))
        have m3:x.Forms.map (bkR mx my)=x.Forms.map (shR (tT mx) (tT my)):=List.map_congr_left fun r hr=>hall r (List.mem_append.2 (.inr (List.mem_append.2 (.inr hr))))
        rw [m1,m2,m3]
        exact Ph _
      · have hex:∃ r ∈ x.Rects++(x.Cuts++x.Forms),¬ vR (bkR mx my r)∧¬ vR (shR (tT mx) (tT my) r):=by
          apply Classical.byContradiction
          intro hno
          refine hall fun r hr=>?_
          have hR:Xm r:=by
            rcases List.mem_append.1 hr with h | h
            · exact t1 r h
            · rcases List.mem_append.1 h with h | h
              · exact t2 r h
              · exact t3 r h
          rcases cmp r hR with h | h
          · exact h
          · exact absurd ⟨r,hr,h⟩ hno
        obtain ⟨r,hr,v1,v2⟩:=hex
        obtain ⟨a,ha,_⟩:=Name_same x.Name
        obtain ⟨b,hb,_⟩:=Name_same x.Material
        have p1:=QN (x:=⟨x.Name,x.Material,x.Gauge,x.Grain,x.Rects.map (bkR mx my),x.Cuts.map (bkR mx my),x.Forms.map (bkR mx my)⟩) ha hb ⟨bkR mx my r,by show _ ∈ x.Rects.map _++(x.Cuts.map _++x.Forms.map _);rw [← List.map_append,← List.map_append];exact List.mem_map_of_mem hr,v1⟩
        have p2:=QN (x:=⟨x.Name,x.Material,x.Gauge,x.Grain,x.Rects.map (shR (tT mx) (tT my)),x.Cuts.map (shR (tT mx) (tT my)),x.Forms.map (shR (tT mx) (tT my))⟩) ha hb ⟨shR (tT mx) (tT my) r,by show _ ∈ x.Rects.map _++(x.Cuts.map _++x.Forms.map _);rw [← List.map_append,← List.map_append];exact List.mem_map_of_mem hr,v2⟩
        simp only [List.length_map] at p1 p2
        obtain ⟨e,e1,e2⟩:=Ph ⟨x.Name,x.Material,x.Gauge,x.Grain,x.Rects.map (shR (tT mx) (tT my)),x.Cuts.map (shR (tT mx) (tT my)),x.Forms.map (shR (tT mx) (tT my))⟩
        exact ⟨e,by rw [p1,← p2];exact e1,e2⟩
    obtain ⟨e,e1,e2⟩:=main
    refine ⟨e,by rw [e1];rfl,fun he=>?_,fun k=>?_⟩
    · subst he
      have:=YQ e1
      simpa using this
    · simp only [e2,Option.bind_some]
      by_cases he:e=0
      · simp [he]
      · simp [he]
theorem Yw (r:Rect) {l:List Rect} (hl:l.length≤1000):Dp r l=some (l.any (tL r)):=by
  have key:∃ z,aD (aW l r.X r.Y r.W r.H) 0=some z∧((∃ k:Nat,z=.inl (k:Int))∧l.any (tL r)=true∨z=.inr ()∧l.any (tL r)=false):=by
    have go : ∀ (m k:Nat),k+m=l.length→(∀ y ∈ l.take k,tL r y=false)→∃ z,aD (aW l r.X r.Y r.W r.H) (k:Int)=some z∧((∃ k:Nat,z=.inl (k:Int))∧l.any (tL r)=true∨z=.inr ()∧l.any (tL r)=false):=by
      intro m
      induction m with
      | zero =>
        intro k h hb
        obtain rfl:k=l.length:=by omega
        rw [List.take_length] at hb
        exact ⟨.inr (),eF (by simp [aW]),.inr ⟨rfl,List.any_eq_false.2 fun y hy=>by simp [hb y hy]⟩⟩
      | succ m ih =>
        intro k h hb
        have hx:l[k]?=some (l[k]'(by omega)):=by simp [show k<l.length by omega]
        have hd:decide ((k:Int)<(l.length:Int))=true:=by simp;omega
        have hm:Gh (l[k]'(by omega)) r.X r.Y r.W r.H=some (tL r (l[k]'(by omega))):=by
          unfold Gh
          rw [Xj];rfl
        by_cases ho:tL r (l[k]'(by omega))=true
        · refine ⟨.inl (k:Int),eF ?_,.inl ⟨⟨k,rfl⟩,List.any_eq_true.2 ⟨_,List.mem_of_getElem? hx,ho⟩⟩⟩
          unfold aW
          simp only [hd,if_true,aJ hx,Option.bind_some,hm,ho]
        · have ho':tL r (l[k]'(by omega))=false:=by simpa using ho
          rw [kL (s':=((k+1:Nat):Int))]
          · refine ih (k+1) (by omega) fun y hy=>?_
            rw [List.take_add_one,hx] at hy
            rcases List.mem_append.1 hy with hy | hy
            · exact hb y hy
            · simp at hy;rw [hy];exact ho'
          · unfold aW
            simp only [hd,if_true,aJ hx,Option.bind_some,hm,ho',Bool.false_eq_true,if_false]
            rw [aL (by omega) (by omega)];rfl
    exact go l.length 0 (by omega) (by simp)
  obtain ⟨z,hz,h⟩:=key
  unfold Dp bX dJ
  rw [hz]
  rcases h with ⟨⟨k,rfl⟩,h⟩ | ⟨rfl,h⟩
  · rw [h]
    have:decide ((k:Int) ≥ 0)=true:=by simp
    simp only [Option.bind_some,this]
  · rw [h];rfl
def Zb (s:Sheet) (y:Rect):Bool:=!(decide (uN y ⟨0,0,s.Width,s.Height⟩)) || (s.Clamps.any (tL y) || s.Used.any (tL y))
theorem D7 (l:LayoutT) (x:Piece) (hx:x.Rects.length≤12) (h1:l.Sheet.Clamps.length≤4) (h2:l.Sheet.Used.length≤48):aD (uE l x) 0=some (if x.Rects.any (Zb l.Sheet) then .inl () else .inr ()):=by
  refine fQ x.Rects (uE l x) (fun k=>(k:Int)) _ _ _ rfl (fun k y hy=>?_) ?_
  · have hk:=(List.getElem?_eq_some_iff.1 hy).1
    unfold uE Zb
    have hd:decide ((k:Int)<(x.Rects.length:Int))=true:=by simp;omega
    simp only [hd,if_true,aJ hy,Option.bind_some,Tf,Yw y (show l.Sheet.Clamps.length≤1000 by omega),Yw y (show l.Sheet.Used.length≤1000 by omega)]
    rw [aL (a:=(k:Int)) (by omega) (by omega)]
    cases decide (uN y ⟨0,0,l.Sheet.Width,l.Sheet.Height⟩) <;> cases l.Sheet.Clamps.any (tL y) <;> cases l.Sheet.Used.any (tL y) <;> rfl
  · simp [uE]
theorem ZP (l:LayoutT) (x:Piece) (hx:x.Rects.length≤12) (h1:l.Sheet.Clamps.length≤4) (h2:l.Sheet.Used.length≤48):aD (fV l x) 0=some (if x.Rects.any (Zb l.Sheet) then .inl () else .inr ()):=by
  refine fQ x.Rects (fV l x) (fun k=>(k:Int)) _ _ _ rfl (fun k y hy=>?_) ?_
  · have hk:=(List.getElem?_eq_some_iff.1 hy).1
    unfold fV Zb
    have hd:decide ((k:Int)<(x.Rects.length:Int))=true:=by simp;omega
    simp only [hd,if_true,aJ hy,Option.bind_some,Ti,Qm y _ (show l.Sheet.Clamps.length≤1000 by omega),Qm y _ (show l.Sheet.Used.length≤1000 by omega)]
    rw [aL (a:=(k:Int)) (by omega) (by omega)]
    cases decide (uN y ⟨0,0,l.Sheet.Width,l.Sheet.Height⟩) <;> cases l.Sheet.Clamps.any (tL y) <;> cases l.Sheet.Used.any (tL y) <;> rfl
  · simp [fV]
theorem YE (l:LayoutT) (hp:l.Pieces.length≤8) (hx:∀ x ∈ l.Pieces,x.Rects.length≤12) (h1:l.Sheet.Clamps.length≤4) (h2:l.Sheet.Used.length≤48):aD (uF l) 0=some (if l.Pieces.any (fun x=>x.Rects.any (Zb l.Sheet)) then .inl () else .inr ()):=by
  refine fQ l.Pieces (uF l) (fun k=>(k:Int)) _ _ _ rfl (fun k y hy=>?_) ?_
  · have hk:=(List.getElem?_eq_some_iff.1 hy).1
    unfold uF
    have hd:decide ((k:Int)<(l.Pieces.length:Int))=true:=by simp;omega
    simp only [hd,if_true,aJ hy,Option.bind_some,D7 l y (hx y (List.mem_of_getElem? hy)) h1 h2]
    rw [aL (a:=(k:Int)) (by omega) (by omega)]
    cases y.Rects.any (Zb l.Sheet) <;> rfl
  · simp [uF]
theorem ZQ (l:LayoutT) (hp:l.Pieces.length≤8) (hx:∀ x ∈ l.Pieces,x.Rects.length≤12) (h1:l.Sheet.Clamps.length≤4) (h2:l.Sheet.Used.length≤48):aD (fZ l) 0=some (if l.Pieces.any (fun x=>x.Rects.any (Zb l.Sheet)) then .inl () else .inr ()):=by
  refine fQ l.Pieces (fZ l) (fun k=>(k:Int)) _ _ _ rfl (fun k y hy=>?_) ?_
  · have hk:=(List.getElem?_eq_some_iff.1 hy).1
    unfold fZ
    have hd:decide ((k:Int)<(l.Pieces.length:Int))=true:=by simp;omega
    simp only [hd,if_true,aJ hy,Option.bind_some,ZP l y (hx y (List.mem_of_getElem? hy)) h1 h2]
    rw [aL (a:=(k:Int)) (by omega) (by omega)]
    cases y.Rects.any (Zb l.Sheet) <;> rfl
  · simp [fZ]
def DL (x y:Piece):Bool:=x.Rects.any fun r=>y.Rects.any (tL r)
def JO (l:List Piece) (k:Nat):Bool:=match l[k]? with
  | some x=>(l.take k).any (DL x)
  | none=>false
theorem D8 (x y:Piece) (hx:x.Rects.length≤12) (hy:y.Rects.length≤12):aD (uG x y) 0=some (if DL x y then .inl () else .inr ()):=by
  refine fQ x.Rects (uG x y) (fun k=>(k:Int)) _ _ _ rfl (fun k r hr=>?_) ?_
  · have hk:=(List.getElem?_eq_some_iff.1 hr).1
    unfold uG
    have hd:decide ((k:Int)<(x.Rects.length:Int))=true:=by simp;omega
    simp only [hd,if_true,aJ hr,Option.bind_some,Yw r (show y.Rects.length≤1000 by omega)]
    rw [aL (a:=(k:Int)) (by omega) (by omega)]
    rfl
  · simp [uG]
theorem YF (l:LayoutT) (hp:l.Pieces.length≤8) (hx:∀ x ∈ l.Pieces,x.Rects.length≤12):aD (uI l) 0=some (if (List.range l.Pieces.length).any (JO l.Pieces) then .inl () else .inr ()):=by
  refine jP l.Pieces.length (uI l) (fun k=>(k:Int)) _ _ _ rfl (fun k hk=>?_) ?_
  · have he:l.Pieces[k]?=some l.Pieces[k]:=by simp
    have hin:aD (uH l.Pieces[k] (l.Pieces.take k)) 0=some (if (l.Pieces.take k).any (DL l.Pieces[k]) then .inl () else .inr ()):=by
      refine fQ (l.Pieces.take k) (uH l.Pieces[k] (l.Pieces.take k)) (fun k=>(k:Int)) _ _ _ rfl (fun j y hy=>?_) ?_
      · have hj:=(List.getElem?_eq_some_iff.1 hy).1
        have hjl:(l.Pieces.take k).length≤8:=by rw [List.length_take];omega
        unfold uH
        have hd:decide ((j:Int)<((l.Pieces.take k).length:Int))=true:=by rw [decide_eq_true_eq];omega
        simp only [hd,if_true,aJ hy,Option.bind_some,D8 _ y (hx _ (List.getElem_mem hk)) (hx y (List.mem_of_mem_take (List.mem_of_getElem? hy)))]
        rw [aL (a:=(j:Int)) (by omega) (by omega)]
        cases DL l.Pieces[k] y <;> rfl
      · simp [uH]
    unfold uI JO
    have hd:decide ((k:Int)<(l.Pieces.length:Int))=true:=by simp;omega
    simp only [hd,if_true,aJ he,he,Option.bind_some,QC (Nat.le_of_lt hk),hin]
    rw [aL (a:=(k:Int)) (by omega) (by omega)]
    cases (l.Pieces.take k).any (DL l.Pieces[k]) <;> rfl
  · simp [uI]
theorem ZR (l:LayoutT) (hp:l.Pieces.length≤8) (hx:∀ x ∈ l.Pieces,x.Rects.length≤12):aD (gF l) 0=some (if (List.range l.Pieces.length).any (JO l.Pieces) then .inl () else .inr ()):=by
  refine jP l.Pieces.length (gF l) (fun k=>(k:Int)) _ _ _ rfl (fun k hk=>?_) ?_
  · have he : l.Pieces[k]?=some l.Pieces[k]:=by simp
    have hlt:(l.Pieces.take k).length=k:=by rw [List.length_take];omega
    have hin:aD (gD l (k:Int)) 0=some (if (l.Pieces.take k).any (DL l.Pieces[k]) then .inl () else .inr ()):=by
      refine fQ (l.Pieces.take k) (gD l (k:Int)) (fun k=>(k:Int)) _ _ _ rfl (fun j y hy=>?_) ?_
      · have hj:=(List.getElem?_eq_some_iff.1 hy).1
        rw [hlt] at hj
        have hy':l.Pieces[j]?=some y:=by rw [List.getElem?_take] at hy;simpa [hj] using hy
        have h4:aD (gB l (k:Int) (j:Int)) 0=some (if DL l.Pieces[k] y then .inl () else .inr ()):=by
          refine fQ l.Pieces[k].Rects (gB l (k:Int) (j:Int)) (fun k=>(k:Int)) _ _ _ rfl (fun i r hr=>?_) ?_
          · have hi:=(List.getElem?_eq_some_iff.1 hr).1
            have hkl:=hx _ (List.getElem_mem hk)
            have hyl:=hx y (List.mem_of_getElem? hy')
            unfold gB
            have hd:decide ((i:Int)<(l.Pieces[k].Rects.length:Int))=true:=by rw [decide_eq_true_eq];omega
            simp only [hd,if_true,aJ he,aJ hy',aJ hr,Option.bind_some,Qm r _ (show y.Rects.length≤1000 by omega)]
            rw [aL (a:=(i:Int)) (by omega) (by omega)]
            rfl
          · simp [gB,aJ he]
        unfold gD
        have hd:decide ((j:Int)<(k:Int))=true:=by simp;omega
        simp only [hd,if_true,h4,Option.bind_some]
        rw [aL (a:=(j:Int)) (by omega) (by omega)]
        cases DL l.Pieces[k] y <;> rfl
      · rw [hlt];simp [gD]
    unfold gF JO
    have hd:decide ((k:Int)<(l.Pieces.length:Int))=true:=by simp;omega
    simp only [hd,if_true,he,Option.bind_some,hin]
    rw [aL (a:=(k:Int)) (by omega) (by omega)]
    cases (l.Pieces.take k).any (DL l.Pieces[k]) <;> rfl
  · simp [gF]
theorem MF (l:LayoutT) (hp:l.Pieces.length≤8) (hs:∀ x ∈ l.Pieces,Sm x):(∃ c,aD (bN l) 0=some (.inl c)∧aD (bK l) 0=some (.inl c))∨(aD (bN l) 0=some (.inr ())∧aD (bK l) 0=some (.inr ())∧∀ x ∈ l.Pieces,x.Rects.length≤12):=by
  have key:∀ (m k:Nat),k+m=l.Pieces.length→(∀ x ∈ l.Pieces.take k,x.Rects.length≤12)→(∃ c,aD (bN l) (k:Int)=some (.inl c)∧aD (bK l) (k:Int)=some (.inl c))∨(aD (bN l) (k:Int)=some (.inr ())∧aD (bK l) (k:Int)=some (.inr ())∧∀ x ∈ l.Pieces,x.Rects.length≤12):=by
    intro m
    induction m with
    | zero =>
      intro k h hb;obtain rfl:k=l.Pieces.length:=by omega
      rw [List.take_length] at hb
      exact .inr ⟨eF (by simp [bN]),eF (by simp [bK]),hb⟩
    | succ m ih =>
      intro k h hb
      have hx:l.Pieces[k]?=some (l.Pieces[k]'(by omega)):=by simp [show k<l.Pieces.length by omega]
      have hd:decide ((k:Int)<(l.Pieces.length:Int))=true:=by simp;omega
      obtain ⟨e,e1,e2,e3⟩:=Qc (hs _ (List.getElem_mem (show k<l.Pieces.length by omega)))
      have i1:aF (k:Int) 1=((k+1:Nat):Int):=by rw [aL (by omega) (by omega)];rfl
      have b2:bK l (k:Int)=if e=0 then some (.inl ((k+1:Nat):Int)) else some (.inr (.inl e)):=by
        unfold bK
        simp only [hd,if_true,aJ hx,Option.bind_some,i1]
        exact e3 _
      by_cases he:e=0
      · subst he
        rw [if_pos rfl] at b2
        rw [kL (s':=((k+1:Nat):Int)),kL b2]
        · refine ih (k+1) (by omega) fun x hxm=>?_
          rw [List.take_add_one,hx] at hxm
          rcases List.mem_append.1 hxm with h | h
          · exact hb x h
          · simp at h;rw [h];exact e2 rfl
        · unfold bN
          simp only [hd,if_true,aJ hx,Option.bind_some,e1,bne_self_eq_false,Bool.false_eq_true,if_false,i1]
      · rw [if_neg he] at b2
        refine .inl ⟨e,eF ?_,eF b2⟩
        have he':(e != 0)=true:=by rw [bne_iff_ne];exact he
        unfold bN
        simp only [hd,if_true,aJ hx,Option.bind_some,e1,he']
  exact key l.Pieces.length 0 (by omega) (by simp)
theorem EQ (l:LayoutT) (hs:∀ x ∈ l.Pieces,Sm x):∃ b,tQ l=some b∧dZ l=some b:=by
  obtain ⟨b,b1,b2⟩:=Xn l.Sheet
  unfold tQ dZ
  rw [b1,b2]
  simp only [Option.bind_some]
  by_cases hb:b=0
  · subst hb
    have sl:=Pi b1
    simp only [bne_self_eq_false,Bool.false_eq_true,if_false]
    by_cases h8:(l.Pieces.length:Int)>8
    · exact ⟨4,by simp [h8],by simp [h8]⟩
    have hp:l.Pieces.length≤8:=by omega
    simp only [h8,decide_false,Bool.false_eq_true,if_false]
    rcases MF l hp hs with ⟨c,c1,c2⟩ | ⟨c1,c2,c3⟩
    · exact ⟨c,by rw [c1];rfl,by rw [c2];rfl⟩
    · simp only [c1,c2,Option.bind_some,YE l hp c3 sl.1 sl.2,ZQ l hp c3 sl.1 sl.2,YF l hp c3,ZR l hp c3]
      cases l.Pieces.any (fun x=>x.Rects.any (Zb l.Sheet)) with
      | true=>exact ⟨13,rfl,rfl⟩
      | false =>
      cases (List.range l.Pieces.length).any (JO l.Pieces) with
      | true=>exact ⟨7,rfl,rfl⟩
      | false=>exact ⟨0,rfl,rfl⟩
  · have hb':(b != 0)=true:=by rw [bne_iff_ne];exact hb
    exact ⟨b,by simp [hb'],by simp [hb']⟩
end Go.SM
namespace Go.SM
open Go Go.VI
structure LV (l:LayoutT):Prop where
  n:l.Pieces.length≤8
  sh:jN l.Sheet=some 0
  r12:∀ x ∈ l.Pieces,x.Rects.length≤12
  pe:∀ x ∈ l.Pieces,oC x=some 0
  off:∀ x ∈ l.Pieces,∀ r ∈ x.Rects,uN r ⟨0,0,l.Sheet.Width,l.Sheet.Height⟩∧l.Sheet.Clamps.any (tL r)=false∧l.Sheet.Used.any (tL r)=false
  hit:∀ k,k<l.Pieces.length→JO l.Pieces k=false
theorem ZF (l:LayoutT) (hp:l.Pieces.length≤8) (hs:∀ x ∈ l.Pieces,Sm x) (h:aD (bN l) 0=some (.inr ())):∀ x ∈ l.Pieces,oC x=some 0:=by
  have key:∀ (m k:Nat),k+m=l.Pieces.length→aD (bN l) (k:Int)=some (.inr ())→∀ x ∈ l.Pieces.drop k,oC x=some 0:=by
    intro m
    induction m with
    | zero =>
      intro k h hb;obtain rfl:k=l.Pieces.length:=by omega
      intro x hx;simp at hx
    | succ m ih =>
      intro k h hb
      have hx:l.Pieces[k]?=some (l.Pieces[k]'(by omega)):=by simp [show k<l.Pieces.length by omega]
      have hd:decide ((k:Int)<(l.Pieces.length:Int))=true:=by simp;omega
      obtain ⟨e,e1,_⟩:=Qc (hs _ (List.getElem_mem (show k<l.Pieces.length by omega)))
      have i1:aF (k:Int) 1=((k+1:Nat):Int):=by rw [aL (by omega) (by omega)];rfl
      by_cases he:e=0
      · subst he
        rw [kL (s':=((k+1:Nat):Int))] at hb
        · intro x hxm
          rw [List.drop_eq_getElem_cons (show k<l.Pieces.length by omega)] at hxm
          rcases List.mem_cons.1 hxm with rfl | hxm
          · exact e1
          · exact ih (k+1) (by omega) hb x hxm
        · unfold bN
          simp only [hd,if_true,aJ hx,Option.bind_some,e1,bne_self_eq_false,Bool.false_eq_true,if_false,i1]
      · have he':(e != 0)=true:=by rw [bne_iff_ne];exact he
        rw [eF (r:=.inl e)] at hb
        · cases hb
        · unfold bN
          simp only [hd,if_true,aJ hx,Option.bind_some,e1,he']
  exact key l.Pieces.length 0 (by omega) h
theorem CL (l:LayoutT) (hs:∀ x ∈ l.Pieces,Sm x):∃ b,tQ l=some b∧dZ l=some b∧(b=0→LV l):=by
  obtain ⟨b,b1,b2⟩:=EQ l hs
  refine ⟨b,b1,b2,fun hb0=>?_⟩
  subst hb0
  obtain ⟨c,c1,_⟩:=Xn l.Sheet
  unfold tQ at b1
  rw [c1] at b1
  simp only [Option.bind_some] at b1
  by_cases hc:c=0
  · subst hc
    have sl:=Pi c1
    simp only [bne_self_eq_false,Bool.false_eq_true,if_false] at b1
    by_cases h8:(l.Pieces.length:Int)>8
    · simp [h8] at b1
    have hp:l.Pieces.length≤8:=by omega
    simp only [h8,decide_false,Bool.false_eq_true,if_false] at b1
    rcases MF l hp hs with ⟨d,d1,_⟩ | ⟨d1,_,d3⟩
    · exfalso
      rw [d1] at b1
      simp only [Option.bind_some] at b1
      -- the error of a piece is not 0
      have hne:∀ (m k:Nat),k+m=l.Pieces.length→aD (bN l) (k:Int)=some (.inl d)→d≠0:=by
        intro m
        induction m with
        | zero =>
          intro k h hb;obtain rfl:k=l.Pieces.length:=by omega
          rw [eF (r:=.inr ()) (by simp [bN])] at hb
          cases hb
        | succ m ih =>
          intro k h hb
          have hx:l.Pieces[k]?=some (l.Pieces[k]'(by omega)):=by simp [show k<l.Pieces.length by omega]
          have hd:decide ((k:Int)<(l.Pieces.length:Int))=true:=by simp;omega
          obtain ⟨e,e1,_⟩:=Qc (hs _ (List.getElem_mem (show k<l.Pieces.length by omega)))
          have i1:aF (k:Int) 1=((k+1:Nat):Int):=by rw [aL (by omega) (by omega)];rfl
          by_cases he:e=0
          · subst he
            rw [kL (s':=((k+1:Nat):Int))] at hb
            · exact ih (k+1) (by omega) hb
            · unfold bN
              simp only [hd,if_true,aJ hx,Option.bind_some,e1,bne_self_eq_false,Bool.false_eq_true,if_false,i1]
          · have he':(e != 0)=true:=by rw [bne_iff_ne];exact he
            rw [eF (r:=.inl e)] at hb
            · injection hb with hb;injection hb with hb;rw [← hb];exact he
            · unfold bN
              simp only [hd,if_true,aJ hx,Option.bind_some,e1,he']
      exact hne l.Pieces.length 0 (by omega) d1 (Option.some.inj b1)
    · simp only [d1,Option.bind_some,YE l hp d3 sl.1 sl.2,YF l hp d3] at b1
      cases h3:l.Pieces.any (fun x=>x.Rects.any (Zb l.Sheet)) with
      | true=>rw [h3] at b1;exact absurd (Option.some.inj b1) (by decide)
      | false =>
      cases h6:(List.range l.Pieces.length).any (JO l.Pieces) with
      | true=>rw [h3,h6] at b1;exact absurd (Option.some.inj b1) (by decide)
      | false =>
        refine ⟨hp,c1,d3,ZF l hp hs d1,fun x hx r hr=>?_,fun k hk=>?_⟩
        · have q1:=List.any_eq_false.1 h3 x hx
          rw [Bool.not_eq_true,List.any_eq_false] at q1
          have q2:=q1 r hr
          unfold Zb at q2
          simp only [Bool.or_eq_true,not_or,Bool.not_eq_true',Bool.not_eq_false,Bool.not_eq_true,decide_eq_true_eq] at q2
          exact q2
        · have:=List.any_eq_false.1 h6 k (List.mem_range.2 hk)
          simpa using this
  · have hb':(c != 0)=true:=by rw [bne_iff_ne];exact hc
    simp only [hb',if_true] at b1
    exact absurd (Option.some.inj b1) hc
end Go.SM
namespace Go.SM
open Go Go.VI Go.Cells
def regs (l:LayoutT):List (List Rect):=l.Pieces.map fun x=>x.Rects
noncomputable def DI (R:List (List Rect)) (xs ys:List Int):List EdgeT:=
  ys.flatMap (fun y=>(qY (hS R y)).map fun p=>mkE ⟨p.1,y,p.2,y⟩ (kY R p.1 y) (kY R p.1 (y-1)))++xs.flatMap fun x=>(qY (vS R x)).map fun p=>mkE ⟨x,p.1,x,p.2⟩ (kY R x p.1) (kY R (x-1) p.1)
section
variable {l:LayoutT} (n8:l.Pieces.length≤8) (r12:∀ x ∈ l.Pieces,x.Rects.length≤12) (hv:∀ x ∈ l.Pieces,Zy x.Rects)
include n8 r12 hv
theorem ZB:Zy (regs l).flatten:=fun r hr=>by
  obtain ⟨t,ht,hr⟩:=List.mem_flatten.1 hr
  obtain ⟨x,hx,rfl⟩:=List.mem_map.1 ht
  exact hv x hx r hr
omit hv in
theorem JM:(regs l).flatten.length≤96:=by
  have:∀ p:List Piece,(∀ x ∈ p,x.Rects.length≤12)→(p.map fun x=>x.Rects).flatten.length≤12*p.length:=by
    intro p
    induction p with
    | nil=>intro _;simp
    | cons x p ih =>
      intro h
      have h1:=ih fun y hy=>h y (List.mem_cons_of_mem _ hy)
      have h2:=h x List.mem_cons_self
      simp only [List.map_cons,List.flatten_cons,List.length_append,List.length_cons]
      omega
  have:=this l.Pieces r12
  unfold regs;omega
omit r12 hv in
theorem ZN:(regs l).length≤900:=by unfold regs;rw [List.length_map];omega
omit n8 hv in
theorem ZM:∀ t ∈ regs l,t.length≤1000:=fun t ht=>by
  obtain ⟨x,hx,rfl⟩:=List.mem_map.1 ht
  have:=r12 x hx;omega
theorem ZI {xs ys:List Int} (gx:Bl xs (xsL (regs l).flatten)) (gy:Bl ys (ysL (regs l).flatten)):Lay (regs l) xs ys:=
  ⟨gx,gy,ZB n8 r12 hv,by have:=JM n8 r12;omega,ZN n8⟩
theorem at_eq (x y:Int):Dx l x y=some (kY (regs l) x y):=by
  unfold Dx
  have h2:=Uf l.Pieces (Ni l x y) (fun p=>cov p.Rects x y) (fun k=>.inl (some (k:Int))) (.inr ()) (fun k p hp=>?s) ?f
  · rw [h2]
    unfold kY Qr yN regs
    rw [List.findIdx?_map]
    show _=some ((l.Pieces.findIdx? fun p=>cov p.Rects x y).map fun i=>(i:Int))
    cases l.Pieces.findIdx? (fun p=>cov p.Rects x y) <;> rfl
  case s =>
    have h1:=aV hp
    have hpm:=List.mem_of_getElem? hp
    have hl:=r12 p hpm
    have h3:aD (Ht x y p) 0=some (if p.Rects.any (fun r=>inC r x y) then .inl () else .inr ()):=by
      refine Yu p.Rects (Ht x y p) (fun r=>inC r x y) (.inr ()) (.inl ()) (fun k r hr=>?_) ?_
      · have h1:=aV hr
        obtain ⟨e1,e2⟩:=EM (hv p hpm r (List.mem_of_getElem? hr))
        unfold Ht
        simp only [h1,Int.ofNat_lt,decide_true,if_true,aJ hr,Option.bind_some,e1,e2]
        have hb':(if decide (r.X≤x) then (if decide (x<r.X+r.W) then (if decide (r.Y≤y) then some (decide (y<r.Y+r.H)) else some false) else some false) else some false)=some (inC r x y):=by
          unfold inC
          cases decide (r.X≤x) <;> cases decide (x<r.X+r.W) <;> cases decide (r.Y≤y) <;> simp
        rw [hb',Option.bind_some,aT k (by omega)]
      · simp [Ht]
    unfold Ni
    simp only [h1,Int.ofNat_lt,decide_true,if_true,aJ hp,Option.bind_some,h3,aT k (by omega)]
    show _=if (p.Rects.any fun r=>inC r x y)=true then _ else _
    cases p.Rects.any (fun r=>inC r x y) <;> rfl
  case f=>simp [Ni]
theorem FJ:aD (yC l) (0,[],[])=some (xsL (regs l).flatten,ysL (regs l).flatten):=by
  have hfl:∀ k,k≤l.Pieces.length→(xsL ((l.Pieces.take k).map fun x=>x.Rects).flatten).length≤200∧(ysL ((l.Pieces.take k).map fun x=>x.Rects).flatten).length≤200:=fun k hk=>by
    have:=JM (l:=⟨l.Sheet,l.Pieces.take k⟩) (by simp only [List.length_take];omega) (fun x hx=>r12 x (List.mem_of_mem_take hx))
    unfold regs at this
    simp only at this
    rw [Tc,Td];omega
  obtain ⟨r,q1,q2⟩:=uK l.Pieces (fun k (s:List Int×List Int)=>((k:Int),s.1,s.2)) (yC l) (fun s=>(s.1,s.2)) (fun k s=>s=(xsL ((l.Pieces.take k).map fun x=>x.Rects).flatten,ysL ((l.Pieces.take k).map fun x=>x.Rects).flatten)) ([],[]) (by simp [xsL,ysL])
    (fun k p s hp hI=>by
      have h1:=aV hp
      have hd:decide ((k:Int)<(l.Pieces.length:Int))=true:=by simp [h1]
      have hpm:=List.mem_of_getElem? hp
      have hl:=r12 p hpm
      have hf:=hfl k (by omega)
      subst hI
      obtain ⟨r,t1,t2⟩:=uK p.Rects (fun k (s:List Int×List Int)=>((k:Int),s.1,s.2)) (Cb p) (fun s=>(s.1,s.2)) (fun j s=>s=(xsL ((l.Pieces.take k).map fun x=>x.Rects).flatten++xsL (p.Rects.take j),ysL ((l.Pieces.take k).map fun x=>x.Rects).flatten++ysL (p.Rects.take j))) (xsL ((l.Pieces.take k).map fun x=>x.Rects).flatten,ysL ((l.Pieces.take k).map fun x=>x.Rects).flatten) (by simp [xsL,ysL])
        (fun j r s hr hI=>by
          have h2:=aV hr
          have hd:decide ((j:Int)<(p.Rects.length:Int))=true:=by simp [h2]
          obtain ⟨e1,e2⟩:=EM (hv p hpm r (List.mem_of_getElem? hr))
          subst hI
          unfold Cb
          simp only [hd,if_true,aJ hr,Option.bind_some,e1,e2]
          have l1:(xsL (p.Rects.take j)).length≤200:=by rw [Tc,List.length_take];omega
          have l2:(ysL (p.Rects.take j)).length≤200:=by rw [Td,List.length_take];omega
          rw [nZ (by simp only [List.length_append,List.length_cons,List.length_nil,LIM];omega),nZ (by simp only [List.length_append,List.length_cons,List.length_nil,LIM];omega)]
          simp only [Option.bind_some,aT j (by omega)]
          refine ⟨(xsL ((l.Pieces.take k).map fun x=>x.Rects).flatten++xsL (p.Rects.take (j+1)),ysL ((l.Pieces.take k).map fun x=>x.Rects).flatten++ysL (p.Rects.take (j+1))), ?_,rfl⟩
          rw [nE hr,Qj,Qk]
          simp [xsL,ysL]) (fun s _=>by simp [Cb])
      rw [List.take_length] at t2
      unfold yC
      simp only [hd,if_true,aJ hp,Option.bind_some,aT k (by omega)]
      rw [show ((0:Int),xsL ((l.Pieces.take k).map fun x=>x.Rects).flatten,ysL ((l.Pieces.take k).map fun x=>x.Rects).flatten)=(((0:Nat):Int),xsL ((l.Pieces.take k).map fun x=>x.Rects).flatten,ysL ((l.Pieces.take k).map fun x=>x.Rects).flatten) from rfl,t1,t2]
      refine ⟨(xsL ((l.Pieces.take (k+1)).map fun x=>x.Rects).flatten,ysL ((l.Pieces.take (k+1)).map fun x=>x.Rects).flatten), ?_,rfl⟩
      rw [nE hp,List.map_append,List.flatten_append,Qj,Qk]
      simp) (fun s _=>by simp [yC])
  rw [List.take_length] at q2
  rw [show ((0:Int),([]:List Int),([]:List Int))=(((0:Nat):Int),(([],[]):List Int×List Int).1,(([],[]):List Int×List Int).2) from rfl,q1,q2]
  rfl
theorem RQ:∃ xs ys,Lay (regs l) xs ys∧Dn l=some (DI (regs l) xs ys)∧(DI (regs l) xs ys).length≤200000:=by
  have hn:=JM n8 r12
  obtain ⟨xs,x1,x2,x3⟩:=UX (l:=xsL (regs l).flatten) (by rw [Tc];omega)
  obtain ⟨ys,y1,y2,y3⟩:=UX (l:=ysL (regs l).flatten) (by rw [Td];omega)
  have hL:=ZI n8 r12 hv ⟨x2,x3⟩ ⟨y2,y3⟩
  have lx:xs.length≤200:=by have:=xP x2 fun x m=>(x3 x).1 m;rw [Tc] at this;omega
  have ly:ys.length≤200:=by have:=xP y2 fun x m=>(y3 x).1 m;rw [Td] at this;omega
  have rowH:∀ y,(-1048576≤y∧y≤1048576)→∃ L,fA xs l.Sheet.Name l.Sheet.Material l.Sheet.Gauge l.Sheet.Grain l.Sheet.Width l.Sheet.Height l.Sheet.Clamps l.Sheet.Used l.Pieces y y=some ((qY (hS (regs l) y)).map fun p=>mkE ⟨p.1,y,p.2,y⟩ (kY (regs l) p.1 y) (kY (regs l) p.1 (y-1)))∧L=qY (hS (regs l) y)∧L.length≤xs.length:=fun y hy=>by
    have hA:=A8 hL y
    obtain ⟨L,g1,g2,g3⟩:=XW hA (side:=fun i=>Fv i l.Sheet.Name l.Sheet.Material l.Sheet.Gauge l.Sheet.Grain l.Sheet.Width l.Sheet.Height l.Sheet.Clamps l.Sheet.Used l.Pieces y) (fun i x hx _=>by
      show (Dx l x y).bind (fun r5=>(Dx l x (aH y 1)).bind fun r6=>some (r5,r6))=_
      rw [aR (by omega) (by omega),at_eq n8 r12 hv,at_eq n8 r12 hv];rfl) (line:=fun a b=>Fz a b y) (ln:=fun a b=>⟨a,y,b,y⟩) (fun a b=>rfl)
    have e:qY (hS (regs l) y)=L:=Sr g2
    exact ⟨L,by rw [NI,g1,e],e.symm,g3⟩
  have rowV:∀ x,(-1048576≤x∧x≤1048576)→∃ L,fB ys l.Sheet.Name l.Sheet.Material l.Sheet.Gauge l.Sheet.Grain l.Sheet.Width l.Sheet.Height l.Sheet.Clamps l.Sheet.Used l.Pieces x x=some ((qY (vS (regs l) x)).map fun p=>mkE ⟨x,p.1,x,p.2⟩ (kY (regs l) x p.1) (kY (regs l) (x-1) p.1))∧L=qY (vS (regs l) x)∧L.length≤ys.length:=fun x hx=>by
    have hA:=A9 hL x
    obtain ⟨L,g1,g2,g3⟩:=XW hA (side:=fun i=>Gf i l.Sheet.Name l.Sheet.Material l.Sheet.Gauge l.Sheet.Grain l.Sheet.Width l.Sheet.Height l.Sheet.Clamps l.Sheet.Used l.Pieces x) (fun i y hy _=>by
      show (Dx l x y).bind (fun r5=>(Dx l (aH x 1) y).bind fun r6=>some (r5,r6))=_
      rw [aR (by omega) (by omega),at_eq n8 r12 hv,at_eq n8 r12 hv];rfl) (line:=fun a b=>Gg a b x) (ln:=fun a b=>⟨x,a,x,b⟩) (fun a b=>rfl)
    have e:qY (vS (regs l) x)=L:=Sr g2
    exact ⟨L,by rw [NJ,g1,e],e.symm,g3⟩
  obtain ⟨r,q1,q2,q3⟩:=uK ys (fun k (s:List EdgeT)=>((k:Int),s)) (Cc l xs ys) (fun s=>s) (fun k s=>s=(ys.take k).flatMap (fun y=>(qY (hS (regs l) y)).map fun p=>mkE ⟨p.1,y,p.2,y⟩ (kY (regs l) p.1 y) (kY (regs l) p.1 (y-1)))∧s.length≤200*k) [] ⟨rfl,by simp⟩
    (fun k y s hy hI=>by
      have hk:=aV hy
      have hd:decide ((k:Int)<(ys.length:Int))=true:=by simp [hk]
      obtain ⟨L,g1,g2,g3⟩:=rowH y (hL.Y.within y (List.mem_of_getElem? hy))
      have hrl:((qY (hS (regs l) y)).map fun p=>mkE ⟨p.1,y,p.2,y⟩ (kY (regs l) p.1 y) (kY (regs l) p.1 (y-1))).length≤200:=by rw [List.length_map,← g2];omega
      have hsl:=hI.2
      unfold Cc
      simp only [hd,if_true,aJ hy,Option.bind_some,g1,aT k (by omega)]
      rw [nZ (by unfold LIM;omega)]
      refine ⟨_,rfl, ?_,by rw [List.length_append];omega⟩
      rw [nE hy,List.flatMap_append,hI.1]
      simp) (fun s _=>by simp [Cc])
  rw [List.take_length] at q2
  obtain ⟨r',t1,t2,t3⟩:=uK xs (fun k (s:List EdgeT)=>((k:Int),s)) (Ce l xs ys) (fun s=>s) (fun k s=>s=r++(xs.take k).flatMap (fun x=>(qY (vS (regs l) x)).map fun p=>mkE ⟨x,p.1,x,p.2⟩ (kY (regs l) x p.1) (kY (regs l) (x-1) p.1))∧s.length≤40000+200*k) r ⟨by simp,by omega⟩
    (fun k x s hx hI=>by
      have hk:=aV hx
      have hd:decide ((k:Int)<(xs.length:Int))=true:=by simp [hk]
      obtain ⟨L,g1,g2,g3⟩:=rowV x (hL.X.within x (List.mem_of_getElem? hx))
      have hrl:((qY (vS (regs l) x)).map fun p=>mkE ⟨x,p.1,x,p.2⟩ (kY (regs l) x p.1) (kY (regs l) (x-1) p.1)).length≤200:=by rw [List.length_map,← g2];omega
      have hsl:=hI.2
      unfold Ce
      simp only [hd,if_true,aJ hx,Option.bind_some,g1,aT k (by omega)]
      rw [nZ (by unfold LIM;omega)]
      refine ⟨_,rfl, ?_,by rw [List.length_append];omega⟩
      rw [nE hx,List.flatMap_append,hI.1]
      simp) (fun s _=>by simp [Ce])
  rw [List.take_length] at t2
  have e:r'=DI (regs l) xs ys:=by rw [t2,q2];rfl
  refine ⟨xs,ys,hL, ?_,by rw [← e];omega⟩
  unfold Dn
  rw [FJ n8 r12 hv]
  simp only [Option.bind_some,x1,y1]
  rw [show ((0:Int),([]:List EdgeT))=(((0:Nat):Int),[]) from rfl,q1]
  simp only [Option.bind_some]
  rw [show ((0:Int),r)=(((0:Nat):Int),r) from rfl,t1,e]
  rfl
end
end Go.SM
namespace Go.SM
open Go Go.VI Go.Cells
noncomputable def Ij (R:List (List Rect)) (xs ys:List Int):List Ln:=
  ys.flatMap (fun y=>(qY (hS R y)).map fun p=>⟨⟨p.1,y,p.2,y⟩,nm (kY R p.1 (y-1)),nm (kY R p.1 y)⟩)++xs.flatMap fun x=>(qY (vS R x)).map fun p=>⟨⟨x,p.1,x,p.2⟩,nm (kY R (x-1) p.1),nm (kY R x p.1)⟩
section
variable {R:List (List Rect)} {xs ys:List Int} (h:Lay R xs ys) (hk:∀ t ∈ R,t.length≤1000) (lx:xs.length≤1000) (ly:ys.length≤1000)
include h
theorem RH {i j:Nat} {x y:Int} (hx:xs[i]?=some x) (hi:i+1<xs.length) (hy:ys[j]?=some y):cellV R xs ys (i+1) (j+1)=nm (kY R x y)∧cellV R xs ys (i+1) j=nm (kY R x (y-1)):=by
  obtain ⟨_,_,_,o1,o2,_⟩:=Wz h
  have hjl:=aV hy
  have neg:∀ {x y:Int},yN R x y=none→nm (kY R x y)=-1:=fun {x y} e=>by rw [uU e];rfl
  constructor
  · unfold cellV
    by_cases hj:j+1<ys.length
    · rw [if_pos ⟨by omega,by omega,hi,hj⟩]
      simp only [Nat.add_sub_cancel,wK hx,wK hy,EA]
    · rw [if_neg (by omega),neg (o2 y (by rw [show ys.length-1=j by omega];exact hy) x y (Int.le_refl y))]
  · unfold cellV
    by_cases hj:0<j
    · rw [if_pos ⟨by omega,hj,hi,hjl⟩]
      obtain ⟨y0,hy0⟩:∃ y0,ys[j-1]?=some y0:=⟨_,List.getElem?_eq_getElem (by omega)⟩
      obtain ⟨h1,h2⟩:=zY (MH h) hy0 (by rw [show j-1+1=j by omega];exact hy)
      simp only [Nat.add_sub_cancel,wK hx,wK hy0]
      rw [← EA]
      have:=congrFun (h2 (y-1) (by omega) (by omega)) x
      unfold kY
      rw [this]
    · obtain rfl:j=0:=by omega
      rw [if_neg (by omega),neg (o1 y hy x (y-1) (by omega))]
theorem NT {i j:Nat} {x y:Int} (hx:xs[i]?=some x) (hy:ys[j]?=some y) (hj:j+1<ys.length):cellV R xs ys (i+1) (j+1)=nm (kY R x y)∧cellV R xs ys i (j+1)=nm (kY R (x-1) y):=by
  obtain ⟨o1,o2,_⟩:=Wz h
  have hil:=aV hx
  have neg:∀ {x y:Int},yN R x y=none→nm (kY R x y)=-1:=fun {x y} e=>by rw [uU e];rfl
  constructor
  · unfold cellV
    by_cases hi:i+1<xs.length
    · rw [if_pos ⟨by omega,by omega,hi,hj⟩]
      simp only [Nat.add_sub_cancel,wK hx,wK hy,EA]
    · rw [if_neg (by omega),neg (o2 x (by rw [show xs.length-1=i by omega];exact hx) x y (Int.le_refl x))]
  · unfold cellV
    by_cases hi:0<i
    · rw [if_pos ⟨hi,by omega,hil,hj⟩]
      obtain ⟨x0,hx0⟩:∃ x0,xs[i-1]?=some x0:=⟨_,List.getElem?_eq_getElem (by omega)⟩
      obtain ⟨h1,h2⟩:=zY (MG h) hx0 (by rw [show i-1+1=i by omega];exact hx)
      simp only [Nat.add_sub_cancel,wK hy,wK hx0]
      rw [← EA]
      have:=congrFun (h2 (x-1) (by omega) (by omega)) y
      unfold kY
      rw [this]
    · obtain rfl:i=0:=by omega
      rw [if_neg (by omega),neg (o1 x hx (x-1) y (by omega))]
include lx ly
theorem XG {j:Nat} {y:Int} (hy:ys[j]?=some y) (s:List Ln) {out0:List Ln} (h0:out0.length≤5000000) (hout:∀ q ∈ out0,q.At.Y2<y) :
    aD (gV (xs,ys) (Hm R xs ys) ((j:Int),s)) (0,out0)=some (out0++(qY (hS R y)).map fun p=>⟨⟨p.1,y,p.2,y⟩,nm (kY R p.1 (y-1)),nm (kY R p.1 y)⟩)∧(qY (hS R y)).length≤xs.length:=by
  have hjl:=aV hy
  obtain ⟨L,g1,g2,g3⟩:=UO (A8 h y) (ln:=fun a b=>⟨a,y,b,y⟩) (body:=gV (xs,ys) (Hm R xs ys) ((j:Int),s)) (fun k x x' out hx hx'=>by
      have hkl:=aV hx'
      obtain ⟨c1,c2⟩:=RH h hx hkl hy
      have d:decide (((k+1:Nat):Int)<(xs.length:Int))=true:=by simp;omega
      have g0:=Nh (R:=R) xs ys (k+1) (by omega)
      have r1:=Ho (R:=R) xs ys (k+1) j (by omega)
      have r2:=Ho (R:=R) xs ys (k+1) (j+1) (by omega)
      unfold gV
      simp only [aT k (by omega),aT j (by omega),d,if_true,aJ hx,aJ hy,aJ hx',aJ g0,aJ r1,aJ r2,Option.bind_some,c1,c2]) (fun k out hk1 hk2=>by
      have d:decide (aF (k:Int) 1<(xs.length:Int))=false:=by rw [aT k (by omega)];simp;omega
      unfold gV
      simp only [d,Bool.false_eq_true,if_false]) (fun a b e e'=>by unfold cS;simp) (fun a e e'=>rfl) h0 (fun q hq x x' _ hc=>by have:=hout q hq;have:=hc.2.1;simp only at this;omega)
  have e:qY (hS R y)=L:=Sr g2
  rw [e];exact ⟨g1,g3⟩
theorem XH {i:Nat} {x:Int} (hx:xs[i]?=some x) (s:List Ln) {out0:List Ln} (h0:out0.length≤5000000) (hout:∀ q ∈ out0,(q.At.X2<x)∨(q.At.Y1=q.At.Y2∧q.At.X1<q.At.X2)) :
    aD (gX (xs,ys) (Hm R xs ys) ((i:Int),s)) (0,out0)=some (out0++(qY (vS R x)).map fun p=>⟨⟨x,p.1,x,p.2⟩,nm (kY R (x-1) p.1),nm (kY R x p.1)⟩)∧(qY (vS R x)).length≤ys.length:=by
  have hil:=aV hx
  obtain ⟨L,g1,g2,g3⟩:=UO (A9 h x) (ln:=fun a b=>⟨x,a,x,b⟩) (body:=gX (xs,ys) (Hm R xs ys) ((i:Int),s)) (fun k y y' out hy hy'=>by
      have hkl:=aV hy'
      obtain ⟨c1,c2⟩:=NT h hx hy hkl
      have d:decide (((k+1:Nat):Int)<(ys.length:Int))=true:=by simp;omega
      have g0:=Nh (R:=R) xs ys i (by omega)
      have g0':=Nh (R:=R) xs ys (i+1) (by omega)
      have r1:=Ho (R:=R) xs ys i (k+1) (by omega)
      have r2:=Ho (R:=R) xs ys (i+1) (k+1) (by omega)
      unfold gX
      simp only [aT k (by omega),aT i (by omega),d,if_true,aJ hx,aJ hy,aJ hy',aJ g0,aJ g0',aJ r1,aJ r2,Option.bind_some,c1,c2]) (fun k out hk1 hk2=>by
      have d:decide (aF (k:Int) 1<(ys.length:Int))=false:=by rw [aT k (by omega)];simp;omega
      unfold gX
      simp only [d,Bool.false_eq_true,if_false]) (fun a b e e'=>by unfold cS;simp) (fun a e e'=>rfl) h0 (fun q hq y y' hyy hc=>by
      obtain ⟨c1,c2,c3⟩:=hc
      simp only at c1 c2 c3
      have:=hout q hq
      omega)
  have e:qY (vS R x)=L:=Sr g2
  rw [e];exact ⟨g1,g3⟩
theorem AA:∃ r,aD (gW (xs,ys) (Hm R xs ys)) (0,[])=some r∧aD (gY (xs,ys) (Hm R xs ys)) (0,r)=some (Ij R xs ys)∧(Ij R xs ys).length≤2000000:=by
  have isr:∀ {s:Int→Int} {p:Int×Int},p ∈ qY s→p.1<p.2:=fun {s p} hp=>by
    unfold qY at hp
    split at hp
    · rename_i hx
      exact (((Classical.choose_spec hx).2 p.1 p.2).1 hp).1
    · cases hp
  obtain ⟨r,q1,q2,q3,q4⟩:=uK ys (fun k (s:List Ln)=>((k:Int),s)) (gW (xs,ys) (Hm R xs ys)) (fun s=>s) (fun k s=>s=(ys.take k).flatMap (fun y=>(qY (hS R y)).map fun p=>⟨⟨p.1,y,p.2,y⟩,nm (kY R p.1 (y-1)),nm (kY R p.1 y)⟩)∧s.length≤1000*k∧∀ q ∈ s,q.At.Y1=q.At.Y2∧q.At.X1<q.At.X2∧q.At.Y2 ∈ ys.take k) [] ⟨rfl,by simp,fun q hq=>by cases hq⟩
    (fun k y s hy hI=>by
      have hk:=aV hy
      have hd:decide ((k:Int)<(ys.length:Int))=true:=by simp [hk]
      obtain ⟨i1,i2,i3⟩:=hI
      obtain ⟨g1,g2⟩:=XG h lx ly hy s (out0:=s) (by omega) (fun q hq=>by
        obtain ⟨_,_,hm⟩:=i3 q hq
        obtain ⟨n,hn⟩:=List.mem_iff_getElem?.1 hm
        have hnl:=aV hn
        rw [List.length_take] at hnl
        rw [List.getElem?_take,if_pos (by omega)] at hn
        exact Qn h.Y.asc (show n<k by omega) hn hy)
      unfold gW
      simp only [hd,if_true,g1,Option.bind_some,aT k (by omega)]
      refine ⟨_,rfl, ?_,by simp;omega,fun q hq=>?_⟩
      · rw [nE hy,List.flatMap_append,i1]
        simp
      · rw [nE hy]
        rcases List.mem_append.1 hq with hq | hq
        · obtain ⟨a,b,c⟩:=i3 q hq
          exact ⟨a,b,List.mem_append_left _ c⟩
        · obtain ⟨p,hp,rfl⟩:=List.mem_map.1 hq
          exact ⟨rfl,isr hp,List.mem_append_right _ (by simp)⟩) (fun s _=>by simp [gW])
  rw [List.take_length] at q2 q4
  obtain ⟨r',t1,t2,t3,t4⟩:=uK xs (fun k (s:List Ln)=>((k:Int),s)) (gY (xs,ys) (Hm R xs ys)) (fun s=>s) (fun k s=>s=r++(xs.take k).flatMap (fun x=>(qY (vS R x)).map fun p=>⟨⟨x,p.1,x,p.2⟩,nm (kY R (x-1) p.1),nm (kY R x p.1)⟩)∧s.length≤1000000+1000*k∧∀ q ∈ s,q.At.X2 ∈ xs.take k∨(q.At.Y1=q.At.Y2∧q.At.X1<q.At.X2)) r ⟨by simp,by omega,fun q hq=>.inr ⟨(q4 q hq).1,(q4 q hq).2.1⟩⟩
    (fun k x s hx hI=>by
      have hk:=aV hx
      have hd:decide ((k:Int)<(xs.length:Int))=true:=by simp [hk]
      obtain ⟨i1,i2,i3⟩:=hI
      obtain ⟨g1,g2⟩:=XH h lx ly hx s (out0:=s) (by omega) (fun q hq=>by
        rcases i3 q hq with hm | hm
        · left
          obtain ⟨n,hn⟩:=List.mem_iff_getElem?.1 hm
          have hnl:=aV hn
          rw [List.length_take] at hnl
          rw [List.getElem?_take,if_pos (by omega)] at hn
          exact Qn h.X.asc (show n<k by omega) hn hx
        · exact .inr hm)
      unfold gY
      simp only [hd,if_true,g1,Option.bind_some,aT k (by omega)]
      refine ⟨_,rfl, ?_,by simp;omega,fun q hq=>?_⟩
      · rw [nE hx,List.flatMap_append,i1]
        simp
      · rw [nE hx]
        rcases List.mem_append.1 hq with hq | hq
        · exact (i3 q hq).imp (fun c=>List.mem_append_left _ c) id
        · obtain ⟨p,hp,rfl⟩:=List.mem_map.1 hq
          exact .inl (List.mem_append_right _ (by simp))) (fun s _=>by simp [gY])
  rw [List.take_length] at t2
  have e:r'=Ij R xs ys:=by rw [t2,q2];rfl
  exact ⟨r,by rw [show ((0:Int),([]:List Ln))=(((0:Nat):Int),[]) from rfl,q1],by rw [show ((0:Int),r)=(((0:Nat):Int),r) from rfl,t1,e],by rw [← e];omega⟩
end
theorem IX {R:List (List Rect)} {xs ys:List Int} (h:Lay R xs ys) (hk:∀ t ∈ R,t.length≤1000):mZ R=some (Ij R xs ys)∧(Ij R xs ys).length≤2000000:=by
  have hm:=h.m
  have hn:=h.n
  have hfl:∀ k,(R.take k).flatten.length≤R.flatten.length:=fun k=>by
    conv=>rhs;rw [← List.take_append_drop k R,List.flatten_append,List.length_append]
    omega
  obtain ⟨r,q1,q2⟩:=uK R (fun k (s:List Rect)=>((k:Int),s)) (kQ R) (fun s=>s) (fun k s=>s=(R.take k).flatten) [] (by simp)
    (fun k t s ht hI=>by
      have h1:=aV ht
      have hd:decide ((k:Int)<(R.length:Int))=true:=by simp [h1]
      have:=hfl k
      have:=hk t (List.mem_of_getElem? ht)
      unfold kQ
      simp only [hd,if_true,aJ ht,Option.bind_some,aT k (by omega)]
      subst hI
      rw [nZ (by unfold LIM;omega)]
      refine ⟨_,rfl, ?_⟩
      rw [nE ht,List.flatten_append];simp) (fun s _=>by simp [kQ])
  rw [List.take_length] at q2
  obtain ⟨xs1,ys1,g1,g2,g3⟩:=VJ h.v hn
  obtain rfl:=Vh h.x g2
  obtain rfl:=Vh h.y g3
  obtain ⟨r',b1,b2,b3⟩:=AA h h.X.len h.Y.len
  refine ⟨?_,b3⟩
  unfold mZ
  rw [show ((0:Int),([]:List Rect))=(((0:Nat):Int),[]) from rfl,q1,q2]
  simp only [Option.bind_some,g1,OT h.v hm hk h.X.len h.Y.len,b1,b2]
theorem OB (s:Segment) {a b:Option Int} (ha:SmO a) (hb:SmO b) (hne:a≠b):(if nJ (nm b) (nm a)<0 then (⟨s,iU (nm b) (nm a),nJ (nm b) (nm a)⟩:EdgeT) else ⟨s,nJ (nm b) (nm a),iU (nm b) (nm a)⟩)=mkE s a b:=by
  have h1:mkE s a b=if nm a<0∨(nm b ≥ 0∧nm b<nm a) then ⟨s,nm b,nm a⟩ else ⟨s,nm a,nm b⟩:=rfl
  have hne':nm a≠nm b:=fun q=>hne ((DZ ha hb).1 q)
  have bd:∀ {o:Option Int},SmO o→-1≤nm o:=fun {o} ho=>by
    cases o with
    | none=>simp [nm]
    | some i=>have:=ho i rfl;simp only [nm];omega
  have ba:=bd ha
  have bb:=bd hb
  rw [h1,Cm,Rn]
  generalize nm a=p at *
  generalize nm b=q at *
  by_cases c1:p<0
  · rw [if_pos (by omega),if_pos (.inl c1),show max q p=q by omega,show min q p=p by omega]
  · by_cases c2:q<0
    · rw [if_pos (by omega),if_neg (by omega),show max q p=p by omega,show min q p=q by omega]
    · rw [if_neg (by omega)]
      by_cases c3:q<p
      · rw [if_pos (.inr ⟨by omega,c3⟩),show max q p=p by omega,show min q p=q by omega]
      · rw [if_neg (by omega),show max q p=q by omega,show min q p=p by omega]
section
variable {l:LayoutT} (n8:l.Pieces.length≤8) (r12:∀ x ∈ l.Pieces,x.Rects.length≤12) (hv:∀ x ∈ l.Pieces,Zy x.Rects)
include n8 r12 hv
theorem PN {xs ys:List Int} (hL:Lay (regs l) xs ys):eP l=some (DI (regs l) xs ys):=by
  obtain ⟨r,q1,q2⟩:=uK l.Pieces (fun k (s:List (List Rect))=>((k:Int),s)) (mM l) (fun s=>s) (fun k s=>s=(l.Pieces.take k).map fun x=>x.Rects) [] (by simp)
    (fun k x s hx hI=>by
      have h1:=aV hx
      have hd:decide ((k:Int)<(l.Pieces.length:Int))=true:=by simp [h1]
      unfold mM
      simp only [hd,if_true,aJ hx,Option.bind_some,aT k (by omega)]
      subst hI
      rw [nZ (by simp [LIM];omega)]
      refine ⟨_,rfl, ?_⟩
      rw [nE hx,List.map_append];rfl) (fun s _=>by simp [mM])
  rw [List.take_length] at q2
  obtain ⟨b1,b2⟩:=IX hL (ZM r12)
  -- from lines to edges
  let f:Ln→EdgeT:=fun x=>if nJ x.Low x.High<0 then ⟨x.At,iU x.Low x.High,nJ x.Low x.High⟩ else ⟨x.At,nJ x.Low x.High,iU x.Low x.High⟩
  have hmap:(Ij (regs l) xs ys).map f=DI (regs l) xs ys:=by
    have key:∀ {s:Int→Int} {A B:Int→Option Int} (ln:Int→Int→Segment) (hs:s=fun z=>cod (A z) (B z)) (ha:∀ z,SmO (A z)) (hb:∀ z,SmO (B z)),((qY s).map fun p=>(⟨ln p.1 p.2,nm (B p.1),nm (A p.1)⟩:Ln)).map f=(qY s).map fun p=>mkE (ln p.1 p.2) (A p.1) (B p.1):=fun {s A B} ln hs ha hb=>by
      rw [List.map_map]
      refine List.map_congr_left fun p hp=>?_
      have hr:s p.1≠0:=by
        unfold qY at hp
        split at hp
        · rename_i hx
          exact (((Classical.choose_spec hx).2 p.1 p.2).1 hp).2.1
        · cases hp
      have hne:A p.1≠B p.1:=fun q=>hr (by rw [hs];simp only;rw [(FE (ha _) (hb _)).2 q])
      exact OB _ (ha _) (hb _) hne
    unfold Ij DI
    rw [List.map_append,List.map_flatMap,List.map_flatMap]
    congr 1
    · congr 1;funext y
      exact key (fun a b=>⟨a,y,b,y⟩) (A:=fun z=>kY (regs l) z y) (B:=fun z=>kY (regs l) z (y-1)) rfl (fun z=>Gl hL.m _ _) (fun z=>Gl hL.m _ _)
    · congr 1;funext x
      exact key (fun a b=>⟨x,a,x,b⟩) (A:=fun z=>kY (regs l) x z) (B:=fun z=>kY (regs l) (x-1) z) rfl (fun z=>Gl hL.m _ _) (fun z=>Gl hL.m _ _)
  obtain ⟨r',t1,t2⟩:=uK (Ij (regs l) xs ys) (fun k (s:List EdgeT)=>((k:Int),s)) (mO (Ij (regs l) xs ys)) (fun s=>s) (fun k s=>s=((Ij (regs l) xs ys).take k).map f) [] (by simp)
    (fun k x s hx hI=>by
      have h1:=aV hx
      have hd:decide ((k:Int)<((Ij (regs l) xs ys).length:Int))=true:=by rw [decide_eq_true_eq];omega
      unfold mO
      simp only [hd,if_true,aJ hx,Option.bind_some,sF,aT k (by omega)]
      subst hI
      have hl:(((Ij (regs l) xs ys).take k).map f).length≤2000000:=by rw [List.length_map,List.length_take];omega
      rw [nZ (by simp only [List.length_cons,List.length_nil,LIM];omega),nZ (by simp only [List.length_cons,List.length_nil,LIM];omega)]
      simp only [Option.bind_some]
      refine ⟨((Ij (regs l) xs ys).take k).map f++[f x], ?_,by rw [nE hx,List.map_append];rfl⟩
      show _=some (Sum.inl (((k+1:Nat):Int),_++[if nJ x.Low x.High<0 then _ else _]))
      by_cases hc:nJ x.Low x.High<0
      · simp only [hc,decide_true,if_true]
      · simp only [hc,decide_false,Bool.false_eq_true,if_false]) (fun s _=>by simp [mO])
  rw [List.take_length,hmap] at t2
  unfold eP
  rw [show ((0:Int),([]:List (List Rect)))=(((0:Nat):Int),[]) from rfl,q1,q2]
  show (mZ (regs l)).bind _=_
  simp only [b1,Option.bind_some]
  rw [show ((0:Int),([]:List EdgeT))=(((0:Nat):Int),[]) from rfl,t1,t2]
  rfl
end
theorem LV.hv {l:LayoutT} (h:LV l):∀ x ∈ l.Pieces,Zy x.Rects:=fun x hx r hr=>(h.off x hx r hr).1.1
theorem G6 {l:LayoutT} (h:yZ l):∀ x ∈ l.Pieces,Sm x:=fun x hx=>by
  obtain ⟨_,_,_,_,r1,r2,r3⟩:=h.2.2 x hx
  exact ⟨⟨r1.1,fun r hr=>r1.2 r hr⟩,⟨r2.1,fun r hr=>r2.2 r hr⟩,⟨r3.1,fun r hr=>r3.2 r hr⟩⟩
theorem Xi (l:LayoutT) (h:yZ l):∃ es b,tQ l=some b∧dZ l=some b∧mV l=some (es,b)∧yV l=some (es,b)∧es.length≤200000∧(b≠0→es=[])∧(b=0→LV l∧Dn l=some es∧eP l=some es∧∃ xs ys,Lay (regs l) xs ys∧es=DI (regs l) xs ys):=by
  obtain ⟨b,b1,b2,b3⟩:=CL l (G6 h)
  unfold mV yV
  rw [b1,b2]
  simp only [Option.bind_some]
  by_cases hb:b=0
  · subst hb
    have hl:=b3 rfl
    obtain ⟨xs,ys,h1,h2,h3⟩:=RQ hl.n hl.r12 hl.hv
    have h4:=PN hl.n hl.r12 hl.hv h1
    refine ⟨DI (regs l) xs ys,0,rfl,rfl, ?_, ?_,h3,fun q=>absurd rfl q,fun _=>⟨hl,h2,h4,xs,ys,h1,rfl⟩⟩
    · simp [h2]
    · simp [h4]
  · have hb':(b != 0)=true:=by rw [bne_iff_ne];exact hb
    exact ⟨[],b,rfl,rfl,by simp [hb'],by simp [hb'],by simp,fun _=>rfl,fun q=>absurd q hb⟩
end Go.SM
namespace Go.SM
open Go Go.VI Go.Cells
abbrev RS:=sheetmetalref07_State
def toC (s:RS):cut_State:=⟨s.Cut,s.Holes,s.Done,s.Joints,s.Fallen⟩
def noS:RS:=⟨[],[],[],[],[]⟩
structure SL1 (s:RS):Prop where
  c:s.Cut.length≤1048576
  h:s.Holes.length≤1048576
  hh:∀ t ∈ s.Holes,t.length≤1048576
  d:s.Done.length≤1048576
  j:s.Joints.length≤1048576
  f:s.Fallen.length≤1048576
structure Fit (l:LayoutT) (n:Nat) (s:RS):Prop where
  c:s.Cut.length=n
  h:s.Holes.length=l.Pieces.length
  d:s.Done.length=l.Pieces.length
  j:s.Joints.length=l.Pieces.length
  f:s.Fallen.length=l.Pieces.length
  hh:∀ (k:Nat) t x,s.Holes[k]?=some t→l.Pieces[k]?=some x→t.length=x.Cuts.length
theorem OJ {l:LayoutT} (n8:l.Pieces.length≤8) (n:Nat) {s:RS} (hs:SL1 s):∃ b,kG (toC s) l (n:Int)=some b∧fH l s (n:Int)=some b∧(b=true↔Fit l n s):=by
  have hb:∀ a b:Nat,((a:Int) != (b:Int))=!decide (a=b):=fun a b=>by
    by_cases h:a=b
    · subst h;simp
    · have:¬ (a:Int)=(b:Int):=by omega
      simp [h,this]
  by_cases h1:s.Cut.length=n
  · by_cases h2 : s.Holes.length=l.Pieces.length
    · by_cases h3:s.Done.length=l.Pieces.length
      · by_cases h4:s.Joints.length=l.Pieces.length
        · by_cases h5:s.Fallen.length=l.Pieces.length
          · let q:Nat→Bool:=fun k=>match s.Holes[k]?,l.Pieces[k]? with
              | some t,some x=>!decide (t.length=x.Cuts.length)
              | _,_=>false
            have g1:aD (pR (toC s) l) 0=some (if (List.range l.Pieces.length).any q then .inl () else .inr ()):=by
              refine jP l.Pieces.length (pR (toC s) l) (fun k=>(k:Int)) q _ _ rfl (fun k hk=>?_) ?_
              · have e1:s.Holes[k]?=some (s.Holes[k]'(by omega)):=List.getElem?_eq_getElem (by omega)
                have e2:l.Pieces[k]?=some l.Pieces[k]:=List.getElem?_eq_getElem hk
                have e1':(toC s).Holes[k]?=some (s.Holes[k]'(by omega)):=e1
                unfold pR
                have hd:decide ((k:Int)<(l.Pieces.length:Int))=true:=by simp [hk]
                simp only [hd,if_true,aJ e1',aJ e2,Option.bind_some,hb,q,e1,e2,aT k (by omega)]
              · simp [pR]
            have g2:aD (jW l s) 0=some (if (List.range l.Pieces.length).any q then .inl () else .inr ()):=by
              refine jP l.Pieces.length (jW l s) (fun k=>(k:Int)) q _ _ rfl (fun k hk=>?_) ?_
              · have e1:s.Holes[k]?=some (s.Holes[k]'(by omega)):=List.getElem?_eq_getElem (by omega)
                have e2:l.Pieces[k]?=some l.Pieces[k]:=List.getElem?_eq_getElem hk
                unfold jW
                have hd:decide ((k:Int)<(l.Pieces.length:Int))=true:=by simp [hk]
                simp only [hd,if_true,aJ e1,aJ e2,Option.bind_some,hb,q,e1,e2,aT k (by omega)]
              · simp [jW]
            refine ⟨!((List.range l.Pieces.length).any q), ?_, ?_, ?_⟩
            · unfold kG
              rw [g1]
              show (Option.bind (if ((s.Cut.length:Int) != (n:Int))=true then _ else _) _)=_
              simp only [toC,hb,h1,h2,h3,h4,h5,decide_true,Bool.not_true,Bool.false_eq_true,if_false,Option.bind_some]
              cases (List.range l.Pieces.length).any q <;> rfl
            · unfold fH
              rw [g2]
              simp only [hb,h1,h2,h3,h4,h5,decide_true,Bool.not_true,Bool.false_eq_true,if_false,Option.bind_some]
              cases (List.range l.Pieces.length).any q <;> rfl
            · rw [Bool.not_eq_true',List.any_eq_false]
              constructor
              · intro hq
                refine ⟨h1,h2,h3,h4,h5,fun k t x e1 e2=>?_⟩
                have:=hq k (List.mem_range.2 (aV e2))
                simp only [q,e1,e2] at this
                simpa using this
              · intro hf k hk
                have hk':=List.mem_range.1 hk
                have e1:s.Holes[k]?=some (s.Holes[k]'(by omega)):=List.getElem?_eq_getElem (by omega)
                have e2:l.Pieces[k]?=some l.Pieces[k]:=List.getElem?_eq_getElem hk'
                simp only [q,e1,e2,hf.hh k _ _ e1 e2]
                simp
          · refine ⟨false, ?_, ?_,by simp;exact fun hf=>h5 hf.f⟩
            · unfold kG;simp [toC,hb,h1,h2,h3,h4,h5]
            · unfold fH;simp [hb,h1,h2,h3,h4,h5]
        · refine ⟨false, ?_, ?_,by simp;exact fun hf=>h4 hf.j⟩
          · unfold kG;simp [toC,hb,h1,h2,h3,h4]
          · unfold fH;simp [hb,h1,h2,h3,h4]
      · refine ⟨false, ?_, ?_,by simp;exact fun hf=>h3 hf.d⟩
        · unfold kG;simp [toC,hb,h1,h2,h3]
        · unfold fH;simp [hb,h1,h2,h3]
    · refine ⟨false, ?_, ?_,by simp;exact fun hf=>h2 hf.h⟩
      · unfold kG;simp [toC,hb,h1,h2]
      · unfold fH;simp [hb,h1,h2]
  · refine ⟨false, ?_, ?_,by simp;exact fun hf=>h1 hf.c⟩
    · unfold kG;simp [toC,hb,h1]
    · unfold fH;simp [hb,h1]
def ofB (e:EdgeT) (p:Int):Bool:=(e.A==p) || (e.B==p)
theorem TW (e:EdgeT) (p:Int):Tz e p=some (ofB e p):=by
  unfold Tz ofB
  cases (e.A==p) <;> simp
def held (es:List EdgeT) (c:List Bool) (p:Int) (i:Nat):Bool:=match es[i]?,c[i]? with
  | some e,some b=>ofB e p&&!b
  | _,_=>false
def Lc (es:List EdgeT) (c:List Bool) (p:Int):Bool:=!((List.range es.length).any (held es c p))
section
variable {es:List EdgeT} (hes:es.length≤1000000) {c:List Bool} (hc:c.length=es.length)
include hes hc
theorem free_eq (p:Int) (H:List (List Bool)) (D:List Bool) (J:List Int) (F:List Bool):sQ ⟨c,H,D,J,F⟩ es p=some (Lc es c p):=by
  unfold sQ
  have key:aD (pU ⟨c,H,D,J,F⟩ es p) 0=some (if (List.range es.length).any (held es c p) then .inl () else .inr ()):=by
    refine jP es.length (pU ⟨c,H,D,J,F⟩ es p) (fun k=>(k:Int)) (held es c p) _ _ rfl (fun k hk=>?_) ?_
    · have e1:es[k]?=some es[k]:=List.getElem?_eq_getElem hk
      have e2:c[k]?=some (c[k]'(by omega)):=List.getElem?_eq_getElem (by omega)
      unfold pU held
      have hd:decide ((k:Int)<(es.length:Int))=true:=by simp [hk]
      simp only [hd,if_true,aJ e1,aJ e2,e1,e2,Option.bind_some,TW,aT k (by omega)]
      cases ofB es[k] p <;> simp
    · simp [pU]
  rw [key]
  unfold Lc
  cases (List.range es.length).any (held es c p) <;> rfl
theorem GK (p:Int) (H:List (List Bool)) (D:List Bool) (J:List Int) (F:List Bool):lM es ⟨c,H,D,J,F⟩ p=some (Lc es c p):=by
  unfold lM
  have key:aD (jD es ⟨c,H,D,J,F⟩ p) 0=some (if (List.range es.length).any (held es c p) then .inl () else .inr ()):=by
    refine jP es.length (jD es ⟨c,H,D,J,F⟩ p) (fun k=>(k:Int)) (held es c p) _ _ rfl (fun k hk=>?_) ?_
    · have e1:es[k]?=some es[k]:=List.getElem?_eq_getElem hk
      have e2:c[k]?=some (c[k]'(by omega)):=List.getElem?_eq_getElem (by omega)
      unfold jD held ofB
      have hd:decide ((k:Int)<(es.length:Int))=true:=by simp [hk]
      simp only [hd,if_true,aJ e1,aJ e2,e1,e2,Option.bind_some,aT k (by omega)]
      cases (es[k].A==p) <;> cases (es[k].B==p) <;> simp
    · simp [jD]
  rw [key]
  unfold Lc
  cases (List.range es.length).any (held es c p) <;> rfl
end
theorem Xv (t:List Bool) (ht:t.length≤1048576):kT t false=some (!(t.all fun b=>b)):=by
  unfold kT tH
  rw [Uf t (kU t false) (fun b=>!b) (fun k=>.inl (k:Int)) (.inr ()) (fun k b hb=>?s) ?f]
  · cases e:t.findIdx? (fun b=>!b) with
    | none =>
      rw [List.findIdx?_eq_none_iff] at e
      have:(t.all fun b=>b)=true:=List.all_eq_true.2 fun b hb=>by have:=e b hb;simpa using this
      simp [this]
    | some i =>
      have:(t.all fun b=>b)=false:=by
        rw [← Bool.not_eq_true,List.all_eq_true]
        intro q
        obtain ⟨hi,h1,_⟩:=List.findIdx?_eq_some_iff_getElem.1 e
        have:=q _ (List.getElem_mem hi)
        simp [this] at h1
      simp [this]
  case s =>
    have h1:=aV hb
    unfold kU
    simp only [h1,Int.ofNat_lt,decide_true,if_true,aJ hb,Option.bind_some,aT k (by omega)]
    cases b <;> rfl
  case f=>simp [kU]
theorem YR (t:List Bool) (ht:t.length≤1048576):wT t=some (t.all fun b=>b):=by
  unfold wT
  rw [Ej t (nO t) (fun b=>b) (.inl ()) (.inr ()) (fun k b hb=>?s) ?f]
  · cases t.all (fun b=>b) <;> rfl
  case s =>
    have h1:=aV hb
    unfold nO
    simp only [h1,Int.ofNat_lt,decide_true,if_true,aJ hb,Option.bind_some,aT k (by omega)]
    cases b <;> rfl
  case f=>simp [nO]
theorem GV (l:LayoutT) (n8:l.Pieces.length≤8) (r12:∀ x ∈ l.Pieces,x.Rects.length≤12) (x:ItemT):∃ b:Bool,aD (pV l x) 0=some (if b then .inl () else .inr ())∧aD (jB l x.Lead) 0=some (if b then .inl () else .inr ()):=by
  have hin:∀ k:Nat,∃ b:Bool,∀ y,l.Pieces[k]?=some y→mF y.Rects x.Lead=some b∧fU y.Rects x.Lead=some b:=fun k=>by
    cases e:l.Pieces[k]? with
    | none=>exact ⟨false,fun y hy=>by cases hy⟩
    | some y =>
      obtain ⟨b,b1,b2⟩:=Oi y.Rects x.Lead (by have:=r12 y (List.mem_of_getElem? e);omega)
      exact ⟨b,fun z hz=>by injection hz with hz;subst hz;exact ⟨b1,b2⟩⟩
  obtain ⟨q,hq⟩:=Classical.axiomOfChoice hin
  refine ⟨(List.range l.Pieces.length).any q, ?_, ?_⟩
  · refine jP l.Pieces.length (pV l x) (fun k=>(k:Int)) q _ _ rfl (fun k hk=>?_) ?_
    · have e2:l.Pieces[k]?=some l.Pieces[k]:=List.getElem?_eq_getElem hk
      have e3:mF l.Pieces[k].Rects (Spot.mk x.Lead.X x.Lead.Y)=some (q k):=(hq k _ e2).1
      unfold pV
      have hd:decide ((k:Int)<(l.Pieces.length:Int))=true:=by simp [hk]
      simp only [hd,if_true,aJ e2,Option.bind_some,e3,aT k (by omega)]
    · simp [pV]
  · refine jP l.Pieces.length (jB l x.Lead) (fun k=>(k:Int)) q _ _ rfl (fun k hk=>?_) ?_
    · have e2:l.Pieces[k]?=some l.Pieces[k]:=List.getElem?_eq_getElem hk
      unfold jB
      have hd:decide ((k:Int)<(l.Pieces.length:Int))=true:=by simp [hk]
      simp only [hd,if_true,aJ e2,Option.bind_some,(hq k _ e2).2,aT k (by omega)]
    · simp [jB]
def ZC (s:Spot) (g:Segment):Int:=iU (iU (iU (iU 0 (aH g.X1 s.X)) (aH s.X g.X2)) (aH g.Y1 s.Y)) (aH s.Y g.Y2)
def Yy (es:List EdgeT) (c:List Bool) (p:Int) (s:Spot) (i:Nat):Bool:=match es[i]?,c[i]? with
  | some e,some b=>ofB e p&&(!b&&decide (ZC s e.Line≤7200))
  | _,_=>false
theorem JG {es:List EdgeT} (hes:es.length≤1000000) {st:RS} (hc:st.Cut.length=es.length) (x:ItemT):aD (pW (toC st) es x) 0=some (if (List.range es.length).any (Yy es st.Cut x.Piece x.Lead) then .inl () else .inr ())∧aD (jC es st x.Piece x.Lead) 0=some (if (List.range es.length).any (Yy es st.Cut x.Piece x.Lead) then .inl () else .inr ()):=by
  constructor
  · refine jP es.length (pW (toC st) es x) (fun k=>(k:Int)) (Yy es st.Cut x.Piece x.Lead) _ _ rfl (fun k hk=>?_) ?_
    · have e1:es[k]?=some es[k]:=List.getElem?_eq_getElem hk
      have e2:st.Cut[k]?=some (st.Cut[k]'(by omega)):=List.getElem?_eq_getElem (by omega)
      have e2':(toC st).Cut[k]?=some (st.Cut[k]'(by omega)):=e2
      have e3:DC (Spot.mk x.Lead.X x.Lead.Y) es[k].Line=some (ZC x.Lead es[k].Line):=rfl
      unfold pW Yy
      have hd:decide ((k:Int)<(es.length:Int))=true:=by simp [hk]
      simp only [hd,if_true,aJ e1,aJ e2',e1,e2,Option.bind_some,TW,e3,aT k (by omega)]
      cases ofB es[k] x.Piece <;> cases st.Cut[k]'(by omega) <;> simp
    · simp [pW]
  · refine jP es.length (jC es st x.Piece x.Lead) (fun k=>(k:Int)) (Yy es st.Cut x.Piece x.Lead) _ _ rfl (fun k hk=>?_) ?_
    · have e1:es[k]?=some es[k]:=List.getElem?_eq_getElem hk
      have e2:st.Cut[k]?=some (st.Cut[k]'(by omega)):=List.getElem?_eq_getElem (by omega)
      have e3:wH x.Lead es[k].Line=some (ZC x.Lead es[k].Line):=rfl
      unfold jC Yy ofB
      have hd:decide ((k:Int)<(es.length:Int))=true:=by simp [hk]
      simp only [hd,if_true,aJ e1,aJ e2,e1,e2,Option.bind_some,e3,aT k (by omega)]
      cases (es[k].A==x.Piece) <;> cases (es[k].B==x.Piece) <;> cases st.Cut[k]'(by omega) <;> simp
    · simp [jC]
theorem OW {l:LayoutT} (hl:LV l) {es:List EdgeT} (hes:es.length≤1000000) {st:RS} (hc:st.Cut.length=es.length) (x:ItemT) (hx:x.Hole<0):∃ b,vD (toC st) l es x=some b∧uR l es st x.Piece x.Lead=some b ∧
    (b=true→(0≤x.Lead.X∧x.Lead.X≤l.Sheet.Width∧0≤x.Lead.Y∧x.Lead.Y≤l.Sheet.Height)):=by
  have sl:=Pi hl.sh
  obtain ⟨r,r1,r2⟩:=Oi l.Sheet.Clamps x.Lead (by omega)
  have r1':mF l.Sheet.Clamps (Spot.mk x.Lead.X x.Lead.Y)=some r:=r1
  obtain ⟨b,b1,b2⟩:=GV l hl.n hl.r12 x
  obtain ⟨c1,c2⟩:=JG hes hc x
  have h0:decide (x.Hole ≥ 0)=false:=by simp;omega
  unfold vD uR
  simp only [h0,Bool.false_eq_true,if_false,b1,b2,c1,c2,r1',r2,Option.bind_some]
  by_cases h1:x.Lead.X<0
  · exact ⟨false,by simp [h1],by simp [h1],by simp⟩
  by_cases h2:x.Lead.X>l.Sheet.Width
  · refine ⟨false,by simp [h1,h2], ?_,by simp⟩
    by_cases h3:x.Lead.Y<0 <;> simp [h1,h2,h3]
  by_cases h3:x.Lead.Y<0
  · exact ⟨false,by simp [h1,h2,h3],by simp [h1,h3],by simp⟩
  by_cases h4:x.Lead.Y>l.Sheet.Height
  · exact ⟨false,by simp [h1,h2,h3,h4],by simp [h1,h2,h3,h4],by simp⟩
  simp only [h1,h2,h3,h4,decide_false,Bool.false_eq_true,if_false,Option.bind_some]
  cases r with
  | true=>exact ⟨false,by simp,by simp,by simp⟩
  | false =>
    simp only [Bool.false_eq_true,if_false]
    cases b with
    | true=>exact ⟨false,rfl,rfl,by simp⟩
    | false =>
      simp only [Bool.false_eq_true,if_false,Option.bind_some]
      cases (List.range es.length).any (Yy es st.Cut x.Piece x.Lead) with
      | true=>exact ⟨true,rfl,rfl,fun _=>by omega⟩
      | false=>exact ⟨false,rfl,rfl,by simp⟩
end Go.SM
namespace Go.SM
open Go Go.VI Go.Cells
def mark (n:Nat) (q:Nat→Bool) (c:List Bool):List Bool:=(List.range n).map fun i=>q i || c.getD i false
theorem vQ (n:Nat) (q:Nat→Bool) (c:List Bool):(mark n q c).length=n:=by simp [mark]
theorem Lp {n:Nat} (q:Nat→Bool) {c:List Bool} {i:Nat} (hi:i<n):(mark n q c)[i]?=some (q i || c.getD i false):=by
  unfold mark;rw [List.getElem?_map,List.getElem?_range hi];rfl
theorem PD {n:Nat} {c:List Bool} (hc:c.length=n):mark n (fun _=>false) c=c:=by
  refine List.ext_getElem? fun i=>?_
  by_cases hi:i<n
  · rw [Lp _ hi,Bool.false_or,List.getD_eq_getElem?_getD,List.getElem?_eq_getElem (by omega)];rfl
  · rw [List.getElem?_eq_none (by rw [vQ];omega),List.getElem?_eq_none (by omega)]
theorem OZ {n:Nat} {q:Nat→Bool} {c:List Bool} {k:Nat}:mark n (fun i=>decide (i<k+1)&&q i) c=if q k then (mark n (fun i=>decide (i<k)&&q i) c).set k true else mark n (fun i=>decide (i<k)&&q i) c:=by
  refine List.ext_getElem? fun i=>?_
  by_cases hi:i<n
  · rw [Lp _ hi]
    split
    · rename_i hq
      rw [List.getElem?_set]
      by_cases e:k=i
      · subst e
        rw [if_pos rfl,if_pos (by rw [vQ];exact hi)]
        simp [hq]
      · rw [if_neg e,Lp _ hi]
        have:decide (i<k+1)=decide (i<k):=by simp;omega
        rw [this]
    · rename_i hq
      rw [Lp _ hi]
      by_cases e:k=i
      · subst e
        have:q k=false:=by simpa using hq
        simp [this]
      · have:decide (i<k+1)=decide (i<k):=by simp;omega
        rw [this]
  · have h2:∀ l:List Bool,l.length=n→l[i]?=none:=fun l hl=>List.getElem?_eq_none (by omega)
    rw [h2 _ (vQ _ _ _)]
    split
    · rw [h2 _ (by rw [List.length_set,vQ])]
    · rw [h2 _ (vQ _ _ _)]
theorem Oa {n:Nat} (body:Int×List Bool→Option (Int×List Bool ⊕ List Bool)) (q:Nat→Bool) {c:List Bool} (hc:c.length=n) (step:∀ (k:Nat) (c':List Bool),k<n→c'.length=n→body ((k:Int),c')=some (.inl (((k+1:Nat):Int),if q k then c'.set k true else c'))) (fin:∀ c':List Bool,c'.length=n→body ((n:Int),c')=some (.inr c')) :
    aD body (0,c)=some (mark n q c):=by
  have key:=Ab (List.range n) body (fun k=>((k:Int),mark n (fun i=>decide (i<k)&&q i) c)) (mark n q c) (fun k x hx=>?_) ?_
  · have e0:mark n (fun i=>decide (i<0)&&q i) c=c:=by
      rw [show (fun i=>decide (i<0)&&q i)=fun _=>false from funext fun i=>by simp]
      exact PD hc
    rw [e0] at key
    exact key
  · have hk:k<n:=by have:=aV hx;simpa using this
    rw [step k _ hk (vQ _ _ _),OZ]
  · rw [List.length_range,fin _ (vQ _ _ _)]
    congr 2
    unfold mark
    refine List.map_congr_left fun i hi=>?_
    have:=List.mem_range.1 hi
    simp [this]
theorem RJ {s:RS} (h:SL1 s):uD (toC s)=some (toC s)∧wF s=some s:=by
  have h1:=h.c;have h2:=h.d;have h3:=h.j;have h4:=h.f;have h5:=h.h
  have ap:∀ {α:Type} {l:List α},l.length≤1048576→app [] l=some l:=fun {α l} hl=>by rw [nZ (by unfold LIM;simp;omega)];rfl
  constructor
  · have key:aD (lT (toC s)) (0,[])=some s.Holes:=by
      have:=Ik s.Holes (fun t=>t) (lT (toC s)) h5 (fun k t acc ht=>?_) (fun acc=>?_)
      · rw [this,List.map_id']
      · have hk:=aV ht
        have ht':(toC s).Holes[k]?=some t:=ht
        unfold lT
        have hd:decide ((k:Int)<((toC s).Holes.length:Int))=true:=by show decide ((k:Int)<(s.Holes.length:Int))=true;simp [hk]
        have e:∀ f:List Bool→Option (Int×List (List Bool) ⊕ List (List Bool)),(app [] t).bind f=f t:=fun f=>by rw [ap (h.hh t (List.mem_of_getElem? ht))];rfl
        simp only [hd,if_true,aJ ht',Option.bind_some,aT k (by omega)]
        exact e _
      · unfold lT
        have:¬ (s.Holes.length:Int)<((toC s).Holes.length:Int):=by show ¬ (s.Holes.length:Int)<(s.Holes.length:Int);omega
        simp [this]
    show (app [] s.Cut).bind (fun r9=>(app [] s.Done).bind fun r10=>(app [] s.Joints).bind fun r11=>(app [] s.Fallen).bind fun r12=>(aD (lT (toC s)) (0,[])).bind fun x114=>some (cut_State.mk r9 x114 r10 r11 r12))=_
    rw [ap h1,ap h2,ap h3,ap h4]
    simp only [Option.bind_some,key]
    rfl
  · have key:aD (jS s) (0,[])=some s.Holes:=by
      have:=Ik s.Holes (fun t=>t) (jS s) h5 (fun k t acc ht=>?_) (fun acc=>?_)
      · rw [this,List.map_id']
      · have hk:=aV ht
        unfold jS
        have hd:decide ((k:Int)<(s.Holes.length:Int))=true:=by simp [hk]
        simp only [hd,if_true,aJ ht,Option.bind_some,ap (h.hh t (List.mem_of_getElem? ht)),aT k (by omega)]
      · simp [jS]
    unfold wF
    rw [ap h1,ap h2,ap h3,ap h4]
    simp only [Option.bind_some,key]
def FT (es:List EdgeT) (c D:List Bool) (J:List Int) (i:Nat):Bool:=Lc es c (i:Int)&&!(D.getD i false&&decide (J.getD i 0>0))
def fell (n:Nat) (es:List EdgeT) (c:List Bool) (D:List Bool) (J:List Int) (F:List Bool):List Bool:=mark n (FT es c D J) F
def YC (n:Nat) (es:List EdgeT) (s:RS) (p h:Nat) (t:List Bool):RS:=⟨s.Cut,s.Holes.set p (t.set h true),s.Done,s.Joints,fell n es s.Cut s.Done s.Joints s.Fallen⟩
def AO (es:List EdgeT) (p:Int) (i:Nat):Bool:=match es[i]? with
  | some e=>ofB e p
  | none=>false
def YG (n:Nat) (es:List EdgeT) (s:RS) (p:Nat) (j:Int):RS:=
  ⟨mark es.length (AO es (p:Int)) s.Cut,s.Holes,s.Done.set p true,s.Joints.set p j,fell n es (mark es.length (AO es (p:Int)) s.Cut) (s.Done.set p true) (s.Joints.set p j) s.Fallen⟩
section
variable {l:LayoutT} (n8:l.Pieces.length≤8) {es:List EdgeT} (hes:es.length≤1000000)
include n8 hes
theorem BK {c:List Bool} (hc:c.length=es.length) (H:List (List Bool)) {D:List Bool} (hD:D.length=l.Pieces.length) {J:List Int} (hJ:J.length=l.Pieces.length) {F:List Bool} (hF:F.length=l.Pieces.length) :
    aD (zK l es (c,H,D,J)) (0,F)=some (fell l.Pieces.length es c D J F)∧aD (jU es (c,H,D,J)) (0,F)=some (fell l.Pieces.length es c D J F):=by
  have core:∀ k,k<l.Pieces.length→∃ d j,D[k]?=some d∧J[k]?=some j∧D.getD k false=d∧J.getD k 0=j:=fun k hk=>by
    have e1:D[k]?=some (D[k]'(by omega)):=List.getElem?_eq_getElem (by omega)
    have e2:J[k]?=some (J[k]'(by omega)):=List.getElem?_eq_getElem (by omega)
    exact ⟨_,_,e1,e2,wK e1,wK e2⟩
  constructor
  · refine Oa (zK l es (c,H,D,J)) (FT es c D J) hF (fun k c' hk hc'=>?_) (fun c' _=>by simp [zK])
    obtain ⟨d,j,e1,e2,e3,e4⟩:=core k hk
    have e5:c'[k]?=some (c'[k]'(by omega)):=List.getElem?_eq_getElem (by omega)
    unfold zK FT
    have hd:decide ((k:Int)<(l.Pieces.length:Int))=true:=by simp [hk]
    simp only [hd,if_true,free_eq hes hc,Option.bind_some,aJ e1,aJ e2,e3,e4,aJ e5,Nk,aT k (by omega),Int.toNat_natCast]
    cases Lc es c (k:Int) <;> cases d <;> cases decide (j>0) <;> rfl
  · refine Oa (jU es (c,H,D,J)) (FT es c D J) hF (fun k c' hk hc'=>?_) (fun c' hc'=>by simp [jU,hc'])
    obtain ⟨d,j,e1,e2,e3,e4⟩:=core k hk
    have e5:c'[k]?=some (c'[k]'(by omega)):=List.getElem?_eq_getElem (by omega)
    unfold jU FT
    have hd:decide ((k:Int)<(c'.length:Int))=true:=by simp;omega
    simp only [hd,if_true,GK hes hc,Option.bind_some,aJ e1,aJ e2,e3,e4,aJ e5,sZ,aT k (by omega),Int.toNat_natCast]
    cases Lc es c (k:Int) <;> cases d <;> cases decide (j>0) <;> rfl
omit n8 in
theorem RN {c:List Bool} (hc:c.length=es.length) (x:ItemT) {p:Nat} (hp:x.Piece=p):aD (Dm es x) (0,c)=some (mark es.length (AO es (p:Int)) c)∧aD (jV es x) (0,c)=some (mark es.length (AO es (p:Int)) c):=by
  constructor
  · refine Oa (Dm es x) (AO es (p:Int)) hc (fun k c' hk hc'=>?_) (fun c' _=>by simp [Dm])
    have e1:es[k]?=some es[k]:=List.getElem?_eq_getElem hk
    have e5:c'[k]?=some (c'[k]'(by omega)):=List.getElem?_eq_getElem (by omega)
    unfold Dm AO
    have hd:decide ((k:Int)<(es.length:Int))=true:=by simp [hk]
    simp only [hd,if_true,aJ e1,e1,Option.bind_some,TW,hp,aJ e5,Nl,aT k (by omega),Int.toNat_natCast]
    cases ofB es[k] (p:Int) <;> rfl
  · refine Oa (jV es x) (AO es (p:Int)) hc (fun k c' hk hc'=>?_) (fun c' _=>by simp [jV])
    have e1:es[k]?=some es[k]:=List.getElem?_eq_getElem hk
    have e5:c'[k]?=some (c'[k]'(by omega)):=List.getElem?_eq_getElem (by omega)
    unfold jV AO ofB
    have hd:decide ((k:Int)<(es.length:Int))=true:=by simp [hk]
    simp only [hd,if_true,aJ e1,e1,Option.bind_some,hp,aJ e5,tC,aT k (by omega),Int.toNat_natCast]
    cases (es[k].A==(p:Int)) <;> cases (es[k].B==(p:Int)) <;> rfl
end
inductive Does (l:LayoutT) (es:List EdgeT) (s:RS) (x:ItemT):RS→Prop
  | hole {p h:Nat} {y:Piece} {t:List Bool} (hp:x.Piece=p) (hh:x.Hole=h) (hj:x.Joints=0) (hy:l.Pieces[p]?=some y) (hf:s.Fallen[p]?=some false) (ht:s.Holes[p]?=some t) (hb:t[h]?=some false):Does l es s x (YC l.Pieces.length es s p h t)
  | line {p:Nat} {y:Piece} {t:List Bool} (hp:x.Piece=p) (hh:x.Hole=-1) (hj:0≤x.Joints∧x.Joints≤4) (hy:l.Pieces[p]?=some y) (hf:s.Fallen[p]?=some false) (hd:s.Done[p]?=some false) (ht:s.Holes[p]?=some t) (ha:(t.all fun b=>b)=true) (hn:Lc es s.Cut (p:Int)=false):Does l es s x (YG l.Pieces.length es s p x.Joints)
theorem WA {l:LayoutT} (hl:LV l) {es:List EdgeT} (hes:es.length≤1000000) {s:RS} (hs:SL1 s) (x:ItemT) :
    ∃ e,eY l es s x=some e∧((e≠0∧zI l es (toC s) x=some (toC noS,e))∨(e=0∧Fit l es.length s∧∃ s',Does l es s x s'∧zI l es (toC s) x=some (toC s',0)∧gZ es s x=some s')):=by
  obtain ⟨b,f1,f2,f3⟩:=OJ hl.n es.length hs
  obtain ⟨k1,k2⟩:=RJ hs
  unfold eY zI
  rw [f1,f2]
  simp only [Option.bind_some]
  cases b with
  | false=>exact ⟨1,rfl,.inl ⟨by decide,rfl⟩⟩
  | true =>
  have fit:=f3.1 rfl
  simp only [if_true]
  by_cases a1:x.Piece<0
  · exact ⟨1,by simp [a1],.inl ⟨by decide,by simp [a1];rfl⟩⟩
  by_cases a2:x.Piece ≥ (l.Pieces.length:Int)
  · exact ⟨1,by simp [a1,a2],.inl ⟨by decide,by simp [a1,a2];rfl⟩⟩
  obtain ⟨p,hp⟩:∃ p:Nat,x.Piece=p:=⟨x.Piece.toNat,by omega⟩
  have hpl:p<l.Pieces.length:=by omega
  have hy:l.Pieces[p]?=some l.Pieces[p]:=List.getElem?_eq_getElem hpl
  generalize l.Pieces[p]=y at hy
  have b1:¬ ((p:Nat):Int)<0:=by omega
  have b2:¬ ((p:Nat):Int) ≥ (l.Pieces.length:Int):=by omega
  simp only [hp,b1,b2,decide_false,Bool.false_eq_true,if_false,Option.bind_some,aJ hy]
  by_cases a3:x.Hole < -1
  · exact ⟨1,by simp [a3],.inl ⟨by decide,by simp [a3];rfl⟩⟩
  by_cases a4:x.Hole ≥ (y.Cuts.length:Int)
  · exact ⟨1,by simp [a3,a4],.inl ⟨by decide,by simp [a3,a4];rfl⟩⟩
  by_cases a5:x.Joints<0
  · exact ⟨1,by simp [a3,a4,a5],.inl ⟨by decide,by simp [a3,a4,a5];rfl⟩⟩
  by_cases a6:x.Joints>4
  · exact ⟨1,by simp [a3,a4,a5,a6],.inl ⟨by decide,by simp [a3,a4,a5,a6];rfl⟩⟩
  have hf:s.Fallen[p]?=some (s.Fallen[p]'(by have:=fit.f;omega)):=List.getElem?_eq_getElem (by have:=fit.f;omega)
  have hh:s.Holes[p]?=some (s.Holes[p]'(by have:=fit.h;omega)):=List.getElem?_eq_getElem (by have:=fit.h;omega)
  have hd:s.Done[p]?=some (s.Done[p]'(by have:=fit.d;omega)):=List.getElem?_eq_getElem (by have:=fit.d;omega)
  have hjn:s.Joints[p]?=some (s.Joints[p]'(by have:=fit.j;omega)):=List.getElem?_eq_getElem (by have:=fit.j;omega)
  generalize s.Fallen[p]'(by have:=fit.f;omega)=fl at hf
  generalize s.Holes[p]'(by have:=fit.h;omega)=t at hh
  generalize s.Done[p]'(by have:=fit.d;omega)=dn at hd
  generalize s.Joints[p]'(by have:=fit.j;omega)=jt at hjn
  have htl:=fit.hh p t y hh hy
  have htm:=hs.hh t (List.mem_of_getElem? hh)
  have hf':(toC s).Fallen[p]?=some fl:=hf
  have hh':(toC s).Holes[p]?=some t:=hh
  have hd':(toC s).Done[p]?=some dn:=hd
  have hjn':(toC s).Joints[p]?=some jt:=hjn
  by_cases a7:x.Hole ≥ 0
  · -- a hole
    by_cases a8:x.Joints=0
    case neg =>
      have:(x.Joints != 0)=true:=by simp [a8]
      exact ⟨1,by simp [a3,a4,a5,a6,a7,this],.inl ⟨by decide,by simp [a3,a4,a5,a6,a7,this];rfl⟩⟩
    obtain ⟨h,hh0⟩:∃ h:Nat,x.Hole=h:=⟨x.Hole.toNat,by omega⟩
    have hhl:h<t.length:=by omega
    have hb:t[h]?=some t[h]:=List.getElem?_eq_getElem hhl
    have hc:y.Cuts[h]?=some (y.Cuts[h]'(by omega)):=List.getElem?_eq_getElem (by omega)
    generalize t[h]=bh at hb
    generalize y.Cuts[h]'(by omega)=cr at hc
    have n7:¬ x.Hole<0:=by omega
    have j0:(x.Joints != 0)=false:=by simp [a8]
    have b3:¬ ((h:Nat):Int) < -1:=by omega
    have b4:¬ ((h:Nat):Int) ≥ (y.Cuts.length:Int):=by omega
    have b7:((h:Nat):Int) ≥ 0:=by omega
    have bn7:¬ ((h:Nat):Int)<0:=by omega
    unfold xJ vD
    simp only [b3,b4,a5,a6,b7,bn7,j0,hp,decide_true,decide_false,Bool.false_eq_true,if_false,if_true,Option.bind_some,aJ hf,aJ hf',aJ hh,aJ hh',hh0,aJ hb,aJ hc,aJ hy]
    cases fl with
    | true=>exact ⟨12,rfl,.inl ⟨by decide,rfl⟩⟩
    | false =>
    cases bh with
    | true=>exact ⟨12,rfl,.inl ⟨by decide,rfl⟩⟩
    | false =>
    simp only [Bool.false_eq_true,if_false,Option.bind_some,Bool.not_false,Bool.not_true]
    have fin:∀ r:Bool,∃ e,(if r=true then some (14:Int) else some 0)=some e∧((e≠0∧(if r=true then some (cut_State.mk [] [] [] [] [],(14:Int)) else (uD (toC s)).bind fun r34=>(idx r34.Holes (p:Int)).bind fun x214=>(idx x214 (h:Int)).bind fun x215=>zJ l es r34 (r34.Cut,(List.set r34.Holes (Int.toNat (p:Int)) (List.set x214 (Int.toNat (h:Int)) true)),r34.Done,r34.Joints))=some (toC noS,e))∨(e=0∧Fit l es.length s∧∃ s',Does l es s x s'∧(if r=true then some (cut_State.mk [] [] [] [] [],(14:Int)) else (uD (toC s)).bind fun r34=>(idx r34.Holes (p:Int)).bind fun x214=>(idx x214 (h:Int)).bind fun x215=>zJ l es r34 (r34.Cut,(List.set r34.Holes (Int.toNat (p:Int)) (List.set x214 (Int.toNat (h:Int)) true)),r34.Done,r34.Joints))=some (toC s',0)∧gZ es s x=some s')):=fun r=>by
      cases r with
      | true=>exact ⟨14,rfl,.inl ⟨by decide,rfl⟩⟩
      | false =>
        obtain ⟨l1,l2⟩:=BK (l:=l) hl.n hes fit.c (s.Holes.set p (t.set h true)) fit.d fit.j fit.f
        refine ⟨0,rfl,.inr ⟨rfl,fit,YC l.Pieces.length es s p h t,.hole hp hh0 a8 hy hf hh hb, ?_, ?_⟩⟩
        · simp only [Bool.false_eq_true,if_false,k1,Option.bind_some,aJ hh',aJ hb,Int.toNat_natCast]
          unfold zJ
          show (aD (zK l es (s.Cut,s.Holes.set p (t.set h true),s.Done,s.Joints)) (0,s.Fallen)).bind _=_
          rw [l1];rfl
        · unfold gZ
          rw [k2]
          have d7:decide (x.Hole ≥ 0)=true:=by simp [a7]
          simp only [Option.bind_some,d7,if_true,hp,hh0,aJ hh,aJ hb,Int.toNat_natCast]
          unfold nD
          rw [l2];rfl
    have conv1:∀ (A B C D':Prop) [Decidable A] [Decidable B] [Decidable C] [Decidable D'],(if decide A then some true else if decide B then some true else if decide C then some true else some (decide D'))=some (decide A || decide B || decide C || decide D'):=fun A B C D' _ _ _ _=>by
      by_cases h1:A <;> by_cases h2:B <;> by_cases h3:C <;> simp [h1,h2,h3]
    rw [conv1]
    have conv2:(if decide (x.Lead.X>cr.X)=true then (if decide (x.Lead.X<aF cr.X cr.W)=true then (if decide (x.Lead.Y>cr.Y)=true then some (decide (x.Lead.Y<aF cr.Y cr.H)) else some false) else some false) else some false)=some (!(decide (x.Lead.X≤cr.X) || decide (x.Lead.X ≥ aF cr.X cr.W) || decide (x.Lead.Y≤cr.Y) || decide (x.Lead.Y ≥ aF cr.Y cr.H))):=by
      by_cases h1:x.Lead.X≤cr.X
      · have:¬ x.Lead.X>cr.X:=by omega
        simp [h1,this]
      · have n1:x.Lead.X>cr.X:=by omega
        by_cases h2:x.Lead.X ≥ aF cr.X cr.W
        · have:¬ x.Lead.X<aF cr.X cr.W:=by omega
          simp [h1,n1,h2,this]
        · have n2:x.Lead.X<aF cr.X cr.W:=by omega
          by_cases h3:x.Lead.Y≤cr.Y
          · have:¬ x.Lead.Y>cr.Y:=by omega
            simp [h1,n1,h2,n2,h3,this]
          · have n3:x.Lead.Y>cr.Y:=by omega
            by_cases h4:x.Lead.Y ≥ aF cr.Y cr.H
            · have:¬ x.Lead.Y<aF cr.Y cr.H:=by omega
              simp [h1,n1,h2,n2,h3,n3,h4,this]
            · have n4:x.Lead.Y<aF cr.Y cr.H:=by omega
              simp [h1,n1,h2,n2,h3,n3,h4,n4]
    rw [conv2]
    simp only [Option.bind_some,Bool.not_not]
    exact fin _
  · -- an outline
    have hm1:x.Hole=-1:=by omega
    have n7:x.Hole<0:=by omega
    obtain ⟨sb,s1,s2⟩:∃ b,Hr y=some b∧oU y=some b:=⟨_,QM y (by have:=hl.r12 y (List.mem_of_getElem? hy);omega),PM y (by have:=hl.r12 y (List.mem_of_getElem? hy);omega)⟩
    obtain ⟨lb,l1,l2,_⟩:=OW hl hes fit.c x n7
    have fr1:=free_eq hes fit.c (p:Int) s.Holes s.Done s.Joints s.Fallen
    have fr2:=GK hes fit.c (p:Int) s.Holes s.Done s.Joints s.Fallen
    have fr1':sQ (toC s) es (p:Int)=some (Lc es s.Cut (p:Int)):=fr1
    have fr2':lM es s (p:Int)=some (Lc es s.Cut (p:Int)):=fr2
    rw [hp] at l2
    unfold xJ
    simp only [a3,a4,a5,a6,a7,n7,hp,decide_true,decide_false,Bool.false_eq_true,if_false,if_true,Option.bind_some,aJ hf,aJ hf',aJ hh,aJ hh',aJ hd,aJ hd',Xv t htm,YR t htm,fr1',fr2',s1,s2,l1,l2]
    cases fl with
    | true=>exact ⟨12,rfl,.inl ⟨by decide,rfl⟩⟩
    | false =>
    cases dn with
    | true=>exact ⟨12,rfl,.inl ⟨by decide,rfl⟩⟩
    | false =>
    cases ha:(t.all fun b=>b) with
    | false=>exact ⟨12,rfl,.inl ⟨by decide,rfl⟩⟩
    | true =>
    cases hfr:Lc es s.Cut (p:Int) with
    | true=>exact ⟨12,rfl,.inl ⟨by decide,rfl⟩⟩
    | false =>
    simp only [Bool.false_eq_true,if_false,Option.bind_some,Bool.not_false,Bool.not_true,if_true]
    have hsm:∀ b:Bool,(if (x.Joints==0)=true then some sb else some false)=some b→(b=true→∃ e,(some (15:Int))=some e∧e≠0):=fun b _ _=>⟨15,rfl,by decide⟩
    cases hz:(if (x.Joints==0)=true then some sb else some false:Option Bool) with
    | none=>cases hj0:(x.Joints==0) <;> simp [hj0] at hz
    | some bz =>
    simp only [Option.bind_some]
    cases bz with
    | true=>exact ⟨15,rfl,.inl ⟨by decide,rfl⟩⟩
    | false =>
    simp only [Bool.false_eq_true,if_false]
    cases lb with
    | false=>exact ⟨14,rfl,.inl ⟨by decide,rfl⟩⟩
    | true =>
    simp only [Bool.not_true,Bool.false_eq_true,if_false,k1,Option.bind_some,aJ hd',aJ hjn',Int.toNat_natCast]
    obtain ⟨c1,c2⟩:=RN hes fit.c x hp
    have hml:(mark es.length (AO es (p:Int)) s.Cut).length=es.length:=vQ _ _ _
    obtain ⟨g1,g2⟩:=BK (l:=l) hl.n hes hml s.Holes (D:=s.Done.set p true) (by rw [List.length_set];exact fit.d) (J:=s.Joints.set p x.Joints) (by rw [List.length_set];exact fit.j) fit.f
    refine ⟨0,rfl,.inr ⟨rfl,fit,YG l.Pieces.length es s p x.Joints,.line hp hm1 (by omega) hy hf hd hh ha hfr, ?_, ?_⟩⟩
    · show (aD (Dm es x) (0,s.Cut)).bind _=_
      rw [c1]
      simp only [Option.bind_some]
      unfold zJ
      show (aD (zK l es (mark es.length (AO es (p:Int)) s.Cut,s.Holes,s.Done.set p true,s.Joints.set p x.Joints)) (0,s.Fallen)).bind _=_
      rw [g1];rfl
    · unfold gZ
      rw [k2]
      have d7:decide (x.Hole ≥ 0)=false:=by simp;omega
      simp only [Option.bind_some,d7,Bool.false_eq_true,if_false,hp,aJ hd,aJ hjn,c2,Int.toNat_natCast]
      unfold nD
      rw [g2];rfl
end Go.SM
namespace Go.SM
open Go Go.VI Go.Cells
def st0 (l:LayoutT) (n:Nat):RS:=⟨List.replicate n false,l.Pieces.map fun x=>List.replicate x.Cuts.length false,List.replicate l.Pieces.length false,List.replicate l.Pieces.length 0,List.replicate l.Pieces.length false⟩
theorem Vj {α:Type} (n:Nat) (z:α) (h:n≤1048576):mk (n:Int) z=some (List.replicate n z):=by
  unfold mk
  rw [if_pos ⟨by omega,by simp [LIM];omega⟩,Int.toNat_natCast]
section
variable {l:LayoutT} (n8:l.Pieces.length≤8) (hc:∀ x ∈ l.Pieces,x.Cuts.length≤1048576)
include n8 hc
theorem IP (n:Nat) (hn:n≤200000):xV l (n:Int)=some (toC (st0 l n)):=by
  have key:aD (yD l) (0,[])=some (l.Pieces.map fun x=>List.replicate x.Cuts.length false):=by
    refine Ik l.Pieces (fun x=>List.replicate x.Cuts.length false) (yD l) (by omega) (fun k x acc hx=>?_) (fun acc=>by simp [yD])
    have hk:=aV hx
    unfold yD
    have hd:decide ((k:Int)<(l.Pieces.length:Int))=true:=by simp [hk]
    simp only [hd,if_true,aJ hx,Option.bind_some,Vj _ false (hc x (List.mem_of_getElem? hx)),aT k (by omega)]
  unfold xV
  rw [Vj n false (by omega),Vj _ false (show l.Pieces.length≤1048576 by omega),Vj _ (0:Int) (show l.Pieces.length≤1048576 by omega)]
  simp only [Option.bind_some,key]
  rfl
theorem PP {es:List EdgeT} (he:eP l=some es) (hn:es.length≤200000):lN l=some (st0 l es.length):=by
  have key:aD (jE l) (0,[])=some (l.Pieces.map fun x=>List.replicate x.Cuts.length false):=by
    refine Ik l.Pieces (fun x=>List.replicate x.Cuts.length false) (jE l) (by omega) (fun k x acc hx=>?_) (fun acc=>by simp [jE])
    have hk:=aV hx
    unfold jE
    have hd:decide ((k:Int)<(l.Pieces.length:Int))=true:=by simp [hk]
    simp only [hd,if_true,aJ hx,Option.bind_some,Vj _ false (hc x (List.mem_of_getElem? hx)),aT k (by omega)]
  unfold lN
  rw [he]
  simp only [Option.bind_some]
  rw [Vj es.length false (by omega),Vj _ false (show l.Pieces.length≤1048576 by omega),Vj _ (0:Int) (show l.Pieces.length≤1048576 by omega)]
  simp only [Option.bind_some,key]
  rfl
omit n8 hc in
theorem NA (n:Nat):Fit l n (st0 l n):=by
  refine ⟨by simp [st0],by simp [st0],by simp [st0],by simp [st0],by simp [st0],fun k t x h1 h2=>?_⟩
  have:(st0 l n).Holes[k]?=some (List.replicate x.Cuts.length false):=by
    show (l.Pieces.map fun x=>List.replicate x.Cuts.length false)[k]?=_
    rw [List.getElem?_map,h2];rfl
  rw [this] at h1
  injection h1 with h1
  rw [← h1,List.length_replicate]
end
theorem yP (a:List Bool) (h:a.length≤1048576):dH a a=some true:=by
  unfold dH
  simp only [bne_self_eq_false,Bool.false_eq_true,if_false]
  rw [Ej a (jJ a a) (fun _=>true) (.inl ()) (.inr ()) (fun k x hx=>?s) ?f]
  · simp
  case s =>
    have h1:=aV hx
    unfold jJ
    simp [h1,aJ hx,aT k (show (k:Int)<9223372036854775807 by omega)]
  case f=>simp [jJ]
theorem AY (a:List Int) (h:a.length≤1048576):fT a a=some true:=by
  unfold fT
  simp only [bne_self_eq_false,Bool.false_eq_true,if_false]
  rw [Ej a (jZ a a) (fun _=>true) (.inl ()) (.inr ()) (fun k x hx=>?s) ?f]
  · simp
  case s =>
    have h1:=aV hx
    unfold jZ
    simp [h1,aJ hx,aT k (show (k:Int)<9223372036854775807 by omega)]
  case f=>simp [jZ]
theorem PS {s:RS} (h:SL1 s):qZ (toC s) s=some true:=by
  have h1:=h.c;have h2:=h.d;have h3:=h.j;have h4:=h.f;have h5:=h.h
  have key:aD (jT s s) 0=some (.inr ()):=by
    have:=Ej s.Holes (jT s s) (fun _=>true) (.inl ()) (.inr ()) (fun k x hx=>?_) ?_
    · rw [this];simp
    · have h1:=aV hx
      unfold jT
      simp [h1,aJ hx,yP x (h.hh x (List.mem_of_getElem? hx)),aT k (show (k:Int)<9223372036854775807 by omega)]
    · simp [jT]
  show (rA s s).bind _=_
  unfold rA
  simp [yP _ h1,yP _ h2,yP _ h4,AY _ h3,key]
theorem JZ:SL1 noS:=⟨by simp [noS],by simp [noS],fun t ht=>by simp [noS] at ht,by simp [noS],by simp [noS],by simp [noS]⟩
theorem Rf {l:LayoutT} {es:List EdgeT} {s s':RS} {x:ItemT} (hd:Does l es s x s') (hf:Fit l es.length s):Fit l es.length s':=by
  cases hd with
  | @hole p h y t hp hh hj hy hfl ht hb =>
    refine ⟨hf.c,by show (s.Holes.set p _).length=_;rw [List.length_set];exact hf.h,hf.d,hf.j,vQ _ _ _,fun k u z h1 h2=>?_⟩
    have h1':(s.Holes.set p (t.set h true))[k]?=some u:=h1
    rw [List.getElem?_set] at h1'
    split at h1'
    · rename_i e
      subst e
      split at h1'
      · injection h1' with h1'
        rw [← h1',List.length_set]
        exact hf.hh p t z ht h2
      · cases h1'
    · exact hf.hh k u z h1' h2
  | @line p y t hp hh hj hy hfl hdn ht ha hn =>
    exact ⟨vQ _ _ _,hf.h,by show (s.Done.set p true).length=_;rw [List.length_set];exact hf.d,by show (s.Joints.set p x.Joints).length=_;rw [List.length_set];exact hf.j,vQ _ _ _,hf.hh⟩
theorem JL {l:LayoutT} (n8:l.Pieces.length≤8) (hc:∀ x ∈ l.Pieces,x.Cuts.length≤1048576) {n:Nat} (hn:n≤200000) {s:RS} (hf:Fit l n s):SL1 s:=by
  have h1:=hf.c;have h2:=hf.d;have h3:=hf.j;have h4:=hf.f;have h5:=hf.h
  refine ⟨by omega,by omega,fun t ht=>?_,by omega,by omega,by omega⟩
  obtain ⟨k,hk⟩:=List.mem_iff_getElem?.1 ht
  have hkl:=aV hk
  have hx:l.Pieces[k]?=some (l.Pieces[k]'(by omega)):=List.getElem?_eq_getElem (by omega)
  rw [hf.hh k t _ hk hx]
  exact hc _ (List.mem_of_getElem? hx)
theorem LP {l:LayoutT} (h:yZ l):∀ x ∈ l.Pieces,x.Cuts.length≤1048576:=fun x hx=>by
  obtain ⟨_,_,_,_,_,r2,_⟩:=h.2.2 x hx
  exact r2.1
end Go.SM
namespace Go.SM
open Go Go.VI Go.Cells
structure Step (l:LayoutT) (es:List EdgeT) (s:RS) (x:ItemT) (s':RS):Prop where
  d:Does l es s x s'
  c:zI l es (toC s) x=some (toC s',0)
  r:eY l es s x=some 0
  f:gZ es s x=some s'
structure Stop1 (l:LayoutT) (es:List EdgeT) (s:RS) (x:ItemT) (e:Int):Prop where
  n:e≠0
  r:eY l es s x=some e
  c:zI l es (toC s) x=some (toC noS,e)
inductive Steps (l:LayoutT) (es:List EdgeT):RS→List ItemT→List RS→Prop
  | nil (s:RS):Steps l es s [] []
  | cons {s s':RS} {x:ItemT} {xs:List ItemT} {ss:List RS} (h:Step l es s x s') (t:Steps l es s' xs ss):Steps l es s (x::xs) (s'::ss)
def wO:RS→List RS→RS
  | s,[]=>s
  | _,s'::ss=>wO s' ss
def Vg {E:Type} (up:RS→RS→E→E):RS→List RS→E→E
  | _,[],e=>e
  | s,s'::ss,e=>Vg up s' ss (up s s' e)
theorem Steps.len {l:LayoutT} {es:List EdgeT} {s:RS} {xs:List ItemT} {ss:List RS} (h:Steps l es s xs ss):ss.length=xs.length:=by
  induction h with
  | nil=>rfl
  | cons _ _ ih=>simp [ih]
theorem BQ:∀ (ss:List RS) (s:RS),ss≠[]→ss[ss.length-1]?=some (wO s ss)
  | [],_,h=>absurd rfl h
  | [a],_,_=>rfl
  | a::b::ss,s,_=>by
    have:=BQ (b::ss) a (by simp)
    show (a::b::ss)[ss.length+1]?=_
    rw [List.getElem?_cons_succ]
    exact this
section
variable {l:LayoutT} (hl:LV l) (hc:∀ x ∈ l.Pieces,x.Cuts.length≤1048576) {es:List EdgeT} (hes:es.length≤200000)
include hl hc hes
theorem VH {s:RS} (hf:Fit l es.length s) (x:ItemT):(∃ e,Stop1 l es s x e)∨∃ s',Step l es s x s'∧Fit l es.length s':=by
  obtain ⟨e,r1,r2⟩:=WA hl (show es.length≤1000000 by omega) (JL hl.n hc hes hf) x
  rcases r2 with ⟨he,r2⟩ | ⟨he,_,s',hd,r2,r3⟩
  · exact .inl ⟨e,he,r1,r2⟩
  · subst he
    exact .inr ⟨s',⟨hd,r2,r1,r3⟩,Rf hd hf⟩
theorem MX:∀ (xs:List ItemT) (s:RS),Fit l es.length s→(∃ ss,Steps l es s xs ss)∨∃ pre x post ss e,xs=pre++x::post∧Steps l es s pre ss∧Stop1 l es (wO s ss) x e
  | [],s,_=>.inl ⟨[],.nil s⟩
  | x::xs,s,hf=>by
    rcases VH hl hc hes hf x with ⟨e,h⟩ | ⟨s',h,hf'⟩
    · exact .inr ⟨[],x,xs,[],e,rfl,.nil s,h⟩
    · rcases MX xs s' hf' with ⟨ss,h2⟩ | ⟨pre,y,post,ss,e,rfl,h2,h3⟩
      · exact .inl ⟨_,.cons h h2⟩
      · exact .inr ⟨x::pre,y,post,s'::ss,e,rfl,.cons h h2,h3⟩
omit hl hc hes in
theorem QF {s:RS} {xs:List ItemT} {ss:List RS} (h:Steps l es s xs ss):Fit l es.length s→Fit l es.length (wO s ss)∧∀ t ∈ ss,Fit l es.length t:=by
  induction h with
  | nil s=>exact fun hf=>⟨hf,fun t ht=>by cases ht⟩
  | cons h _ ih =>
    intro hf
    have h1:=Rf h.d hf
    obtain ⟨a,b⟩:=ih h1
    refine ⟨a,fun t ht=>?_⟩
    cases ht with
    | head=>exact h1
    | tail _ ht=>exact b t ht
end
section
variable {l:LayoutT} {es:List EdgeT} {items:List ItemT} {E S R:Type} (mk:Nat→RS→E→S) (body:S→Option (S ⊕ R)) (up:RS→RS→E→E) (I:Nat→RS→E→Prop)
variable (step:∀ k x s s' e,items[k]?=some x→Step l es s x s'→Fit l es.length s→I k s e→body (mk k s e)=some (.inl (mk (k+1) s' (up s s' e)))∧I (k+1) s' (up s s' e))
include step
theorem KR {xs:List ItemT} {s:RS} {ss:List RS} (h:Steps l es s xs ss):∀ (k:Nat) (e:E) (post:List ItemT),items.drop k=xs++post→Fit l es.length s→I k s e→aD body (mk k s e)=aD body (mk (k+xs.length) (wO s ss) (Vg up s ss e))∧I (k+xs.length) (wO s ss) (Vg up s ss e):=by
  induction h with
  | nil s=>exact fun k e post _ _ hI=>⟨rfl,hI⟩
  | @cons s s' x xs ss h _ ih =>
    intro k e post hd hf hI
    have hx:items[k]?=some x:=by
      have:(items.drop k)[0]?=some x:=by rw [hd];rfl
      rwa [List.getElem?_drop,Nat.add_zero] at this
    obtain ⟨h1,h2⟩:=step k x s s' e hx h hf hI
    have hd':items.drop (k+1)=xs++post:=by
      have:(items.drop k).drop 1=xs++post:=by rw [hd];rfl
      rwa [List.drop_drop] at this
    obtain ⟨g1,g2⟩:=ih (k+1) _ post hd' (Rf h.d hf) h2
    have e1:k+(x::xs).length=k+1+xs.length:=by simp;omega
    rw [e1]
    refine ⟨?_,g2⟩
    rw [kL h1,g1];rfl
theorem KS (fin:RS→E→R) (hfin:∀ s e,body (mk items.length s e)=some (.inr (fin s e))) {s:RS} {ss:List RS} (h:Steps l es s items ss) (e:E) (hf:Fit l es.length s) (hI:I 0 s e):aD body (mk 0 s e)=some (fin (wO s ss) (Vg up s ss e)):=by
  obtain ⟨g,_⟩:=KR mk body up I step h 0 e [] (by simp) hf hI
  rw [g,Nat.zero_add]
  exact eF (hfin _ _)
theorem EF (err:Nat→Int→RS→E→R) (herr:∀ k x s e c,items[k]?=some x→Stop1 l es s x c→I k s e→body (mk k s e)=some (.inr (err k c s e))) {s:RS} {pre post:List ItemT} {x:ItemT} {ss:List RS} {c:Int} (hi:items=pre++x::post) (h:Steps l es s pre ss) (hs:Stop1 l es (wO s ss) x c) (e:E) (hf:Fit l es.length s) (hI:I 0 s e):aD body (mk 0 s e)=some (err pre.length c (wO s ss) (Vg up s ss e)):=by
  obtain ⟨g,g2⟩:=KR mk body up I step h 0 e (x::post) (by simp [hi]) hf hI
  rw [Nat.zero_add] at g g2
  rw [g]
  refine eF (herr _ x _ _ _ ?_ hs g2)
  rw [hi,List.getElem?_append_right (Nat.le_refl _)];simp
end
end Go.SM
namespace Go.SM
open Go Go.VI Go.Cells
structure Ran (l:LayoutT) (items:List ItemT) (es:List EdgeT) (ss:List RS):Prop where
  v:LV l
  c:∀ x ∈ l.Pieces,x.Cuts.length≤1048576
  e1:mV l=some (es,0)
  e2:Dn l=some es
  e3:eP l=some es
  n:es.length≤200000
  g:∃ xs ys,Lay (regs l) xs ys∧es=DI (regs l) xs ys
  k:items.length≤128
  s:Steps l es (st0 l es.length) items ss
  a1:xV l (es.length:Int)=some (toC (st0 l es.length))
  a2:lN l=some (st0 l es.length)
  vr:dZ l=some 0
  t:iG l items=some (ss,0,0)
theorem BL:∀ (ss:List RS) (s:RS) (acc:List RS),Vg (fun _ s' a=>a++[s']) s ss acc=acc++ss
  | [],_,acc=>by simp [Vg]
  | s'::ss,_,acc=>by rw [Vg,BL ss];simp
section
variable {l:LayoutT} {es:List EdgeT} {items:List ItemT} (h128:items.length≤128)
include h128
theorem Vf (k:Nat) (x:ItemT) (s s':RS) (hx:items[k]?=some x) (h:Step l es s x s'):bP l items (es,0) ((k:Int),s.Holes,s.Cut,s.Done,s.Joints,s.Fallen)=some (.inl (((k+1:Nat):Int),s'.Holes,s'.Cut,s'.Done,s'.Joints,s'.Fallen)):=by
  have hk:=aV hx
  unfold bP
  have hd:decide ((k:Int)<(items.length:Int))=true:=by simp [hk]
  have hc:zI l es ⟨s.Cut,s.Holes,s.Done,s.Joints,s.Fallen⟩ x=some (toC s',0):=h.c
  simp only [hd,if_true,aJ hx,Option.bind_some,hc,bne_self_eq_false,Bool.false_eq_true,if_false,aT k (show (k:Int)<9223372036854775807 by omega)]
  rfl
omit h128 in
theorem FK (k:Nat) (x:ItemT) (s:RS) (c:Int) (hx:items[k]?=some x) (h:Stop1 l es s x c):bP l items (es,0) ((k:Int),s.Holes,s.Cut,s.Done,s.Joints,s.Fallen)=some (.inr (.inl ((k:Int),c))):=by
  have hk:=aV hx
  unfold bP
  have hd:decide ((k:Int)<(items.length:Int))=true:=by simp [hk]
  have hc:zI l es ⟨s.Cut,s.Holes,s.Done,s.Joints,s.Fallen⟩ x=some (toC noS,c):=h.c
  have hn:(c != 0)=true:=by rw [bne_iff_ne];exact h.n
  simp only [hd,if_true,aJ hx,Option.bind_some,hc,hn]
theorem Vq (k:Nat) (x:ItemT) (s s':RS) (acc:List RS) (hacc:acc.length=k) (hx:items[k]?=some x) (h:Step l es s x s'):bD l items es ((k:Int),s.Cut,s.Holes,s.Done,s.Joints,s.Fallen,acc)=some (.inl (((k+1:Nat):Int),s'.Cut,s'.Holes,s'.Done,s'.Joints,s'.Fallen,acc++[s'])):=by
  have hk:=aV hx
  unfold bD
  have hd:decide ((k:Int)<(items.length:Int))=true:=by simp [hk]
  have hr:eY l es ⟨s.Cut,s.Holes,s.Done,s.Joints,s.Fallen⟩ x=some 0:=h.r
  have hc:gZ es ⟨s.Cut,s.Holes,s.Done,s.Joints,s.Fallen⟩ x=some s':=h.f
  have ha:app acc [s']=some (acc++[s']):=nZ (by unfold LIM;simp;omega)
  simp only [hd,if_true,aJ hx,Option.bind_some,hr,hc,bne_self_eq_false,Bool.false_eq_true,if_false,ha,aT k (show (k:Int)<9223372036854775807 by omega)]
omit h128 in
theorem IQ (k:Nat) (x:ItemT) (s:RS) (acc:List RS) (c:Int) (hx:items[k]?=some x) (h:Stop1 l es s x c):bD l items es ((k:Int),s.Cut,s.Holes,s.Done,s.Joints,s.Fallen,acc)=some (.inr (.inl ((k:Int),c))):=by
  have hk:=aV hx
  unfold bD
  have hd:decide ((k:Int)<(items.length:Int))=true:=by simp [hk]
  have hr:eY l es ⟨s.Cut,s.Holes,s.Done,s.Joints,s.Fallen⟩ x=some c:=h.r
  have hn:(c != 0)=true:=by rw [bne_iff_ne];exact h.n
  simp only [hd,if_true,aJ hx,Option.bind_some,hr,hn]
end
theorem QL (l:LayoutT) (h:yZ l) (items:List ItemT):∃ s k e,Wp l items=some (toC s,k,e,s.Holes)∧Bz l items=some (s,k,e,s.Cut,s.Holes,s.Done,s.Joints,s.Fallen)∧SL1 s ∧
    ((e≠0∧s=noS∧((k=0∧((∃ es,mV l=some (es,e))∨∃ es,mV l=some (es,0)∧es.length≤200000∧¬ items.length≤128∧e=4)) ∨
      ∃ es pre x post ss,items.length≤128∧LV l∧mV l=some (es,0)∧es.length≤200000∧xV l (es.length:Int)=some (toC (st0 l es.length))∧items=pre++x::post∧k=(pre.length:Int)∧Steps l es (st0 l es.length) pre ss∧Stop1 l es (wO (st0 l es.length) ss) x e)) ∨
     (e=0∧k=0∧∃ es ss,Ran l items es ss∧s=wO (st0 l es.length) ss)):=by
  obtain ⟨es,b,v1,v2,e1,e2,e3,e4,e5⟩:=Xi l h
  have hc:=LP h
  unfold Wp xR Bz
  rw [e1,v2]
  simp only [Option.bind_some]
  by_cases hb:b=0
  case neg =>
    have hb':(b != 0)=true:=by rw [bne_iff_ne];exact hb
    simp only [hb',if_true,Option.bind_some]
    exact ⟨noS,0,b,rfl,rfl,JZ,.inl ⟨hb,rfl,.inl ⟨rfl,.inl ⟨es,rfl⟩⟩⟩⟩
  subst hb
  obtain ⟨hl,g1,g2,g3⟩:=e5 rfl
  simp only [bne_self_eq_false,Bool.false_eq_true,if_false]
  by_cases h128:items.length≤128
  case neg =>
    have:decide ((items.length:Int)>128)=true:=by simp;omega
    simp only [this,if_true,Option.bind_some]
    exact ⟨noS,0,4,rfl,rfl,JZ,.inl ⟨by decide,rfl,.inl ⟨rfl,.inr ⟨es,rfl,e3,h128,rfl⟩⟩⟩⟩
  have hd:decide ((items.length:Int)>128)=false:=by simp;omega
  have a1:=IP hl.n hc es.length e3
  have a2:=PP hl.n hc g2 e3
  have hf0:=NA (l:=l) es.length
  simp only [hd,Bool.false_eq_true,if_false,a1,Option.bind_some]
  have S1:=fun s ss=>KS (l:=l) (es:=es) (items:=items) (fun k (s:RS) (_:Unit)=>((k:Int),s.Holes,s.Cut,s.Done,s.Joints,s.Fallen)) (bP l items (es,0)) (fun _ _ e=>e) (fun _ _ _=>True)
    (fun k x s s' _ hx hs _ _=>⟨Vf h128 k x s s' hx hs,trivial⟩) (fun s _=>.inr (s.Holes,s.Cut,s.Done,s.Joints,s.Fallen)) (fun s _=>by simp [bP]) (s:=s) (ss:=ss)
  have S2:=fun pre x post s ss c=>EF (l:=l) (es:=es) (items:=items) (fun k (s:RS) (_:Unit)=>((k:Int),s.Holes,s.Cut,s.Done,s.Joints,s.Fallen)) (bP l items (es,0)) (fun _ _ e=>e) (fun _ _ _=>True)
    (fun k x s s' _ hx hs _ _=>⟨Vf h128 k x s s' hx hs,trivial⟩) (fun k c _ _=>.inl ((k:Int),c)) (fun k x s _ c hx hs _=>FK k x s c hx hs) (pre:=pre) (post:=post) (x:=x) (s:=s) (ss:=ss) (c:=c)
  have S3:=fun s ss=>KS (l:=l) (es:=es) (items:=items) (fun k (s:RS) (acc:List RS)=>((k:Int),s.Cut,s.Holes,s.Done,s.Joints,s.Fallen,acc)) (bD l items es) (fun _ s' a=>a++[s']) (fun k _ a=>a.length=k)
    (fun k x s s' acc hx hs _ hI=>⟨Vq h128 k x s s' acc hI hx hs,by simp [hI]⟩) (fun _ acc=>.inr acc) (fun s acc=>by simp [bD]) (s:=s) (ss:=ss)
  have S4:=fun pre x post s ss c=>EF (l:=l) (es:=es) (items:=items) (fun k (s:RS) (acc:List RS)=>((k:Int),s.Cut,s.Holes,s.Done,s.Joints,s.Fallen,acc)) (bD l items es) (fun _ s' a=>a++[s']) (fun k _ a=>a.length=k)
    (fun k x s s' acc hx hs _ hI=>⟨Vq h128 k x s s' acc hI hx hs,by simp [hI]⟩) (fun k c _ _=>.inl ((k:Int),c)) (fun k x s acc c hx hs _=>IQ k x s acc c hx hs) (pre:=pre) (post:=post) (x:=x) (s:=s) (ss:=ss) (c:=c)
  rcases MX hl hc e3 items (st0 l es.length) hf0 with ⟨ss,hs⟩ | ⟨pre,x,post,ss,e,hi,hs,hx⟩
  · -- all run
    have q1:=S1 _ _ hs () hf0 trivial
    have q3:=S3 _ _ hs [] hf0 rfl
    rw [BL,List.nil_append] at q3
    have hst:iG l items=some (ss,0,0):=by
      unfold iG
      rw [g2,a2]
      show (aD (bD l items es) (0,(st0 l es.length).Cut,(st0 l es.length).Holes,(st0 l es.length).Done,(st0 l es.length).Joints,(st0 l es.length).Fallen,[])).bind _=_
      have q3':aD (bD l items es) (0,(st0 l es.length).Cut,(st0 l es.length).Holes,(st0 l es.length).Done,(st0 l es.length).Joints,(st0 l es.length).Fallen,[])=some (.inr ss):=q3
      rw [q3'];rfl
    have hran:Ran l items es ss:=⟨hl,hc,e1,g1,g2,e3,g3,h128,hs,a1,a2,v2,hst⟩
    have hfit:=(QF hs hf0).1
    refine ⟨wO (st0 l es.length) ss,0,0, ?_, ?_,JL hl.n hc e3 hfit,.inr ⟨rfl,rfl,es,ss,hran,rfl⟩⟩
    · have q1':aD (bP l items (es,0)) (0,(toC (st0 l es.length)).Holes,(toC (st0 l es.length)).Cut,(toC (st0 l es.length)).Done,(toC (st0 l es.length)).Joints,(toC (st0 l es.length)).Fallen)=some (.inr ((wO (st0 l es.length) ss).Holes,(wO (st0 l es.length) ss).Cut,(wO (st0 l es.length) ss).Done,(wO (st0 l es.length) ss).Joints,(wO (st0 l es.length) ss).Fallen)):=q1
      rw [q1'];rfl
    · by_cases h0:items=[]
      · subst h0
        cases hs
        simp only [List.length_nil,Int.natCast_zero,beq_self_eq_true,if_true,a2,Option.bind_some]
        rfl
      · have hz:((items.length:Int)==0)=false:=by
          rw [beq_eq_false_iff_ne]
          have:=List.length_pos_iff.2 h0
          omega
        have hss:ss≠[]:=by
          have h1:=hs.len
          have h2:=List.length_pos_iff.2 h0
          intro e
          rw [e,List.length_nil] at h1
          omega
        have hpos:=List.length_pos_iff.2 hss
        have hlen:=hs.len
        simp only [hz,Bool.false_eq_true,if_false,hst,Option.bind_some,bne_self_eq_false]
        have hsub:aH (ss.length:Int) 1=((ss.length-1:Nat):Int):=by
          rw [aR (a:=(ss.length:Int)) (b:=1) (by omega) (by omega)];omega
        rw [hsub,aJ (BQ ss (st0 l es.length) hss)]
        rfl
  · -- refused
    have q2:=S2 pre x post _ _ _ hi hs hx () hf0 trivial
    have q4:=S4 pre x post _ _ _ hi hs hx [] hf0 rfl
    refine ⟨noS,pre.length,e, ?_, ?_,JZ,.inl ⟨hx.n,rfl,.inr ⟨es,pre,x,post,ss,h128,hl,rfl,e3,a1,hi,rfl,hs,hx⟩⟩⟩
    · have q2':aD (bP l items (es,0)) (0,(toC (st0 l es.length)).Holes,(toC (st0 l es.length)).Cut,(toC (st0 l es.length)).Done,(toC (st0 l es.length)).Joints,(toC (st0 l es.length)).Fallen)=some (.inl ((pre.length:Int),e)):=q2
      rw [q2'];rfl
    · have hz:((items.length:Int)==0)=false:=by
        rw [beq_eq_false_iff_ne,hi];simp;omega
      have hn:(e != 0)=true:=by rw [bne_iff_ne];exact hx.n
      have hst:iG l items=some ([],(pre.length:Int),e):=by
        unfold iG
        rw [g2,a2]
        have q4':aD (bD l items es) (0,(st0 l es.length).Cut,(st0 l es.length).Holes,(st0 l es.length).Done,(st0 l es.length).Joints,(st0 l es.length).Fallen,[])=some (.inl ((pre.length:Int),e)):=q4
        simp only [Option.bind_some]
        rw [q4'];rfl
      simp only [hz,Bool.false_eq_true,if_false,hst,Option.bind_some,hn,if_true]
      rfl
end Go.SM
namespace Go.SM
open Go Go.VI Go.Cells
theorem pick (c:Prop) [Decidable c] (s:Segment) (q p:Int):(if c then (⟨s,q,p⟩:EdgeT) else ⟨s,p,q⟩).A=p∨(if c then (⟨s,q,p⟩:EdgeT) else ⟨s,p,q⟩).B=p:=by
  by_cases h:c
  · rw [if_pos h];exact .inr rfl
  · rw [if_neg h];exact .inl rfl
end Go.SM
namespace Go.SM
open Go Go.VI Go.Cells
section
variable {l:LayoutT} (n8:l.Pieces.length≤8) {es:List EdgeT} {items:List ItemT} (h128:items.length≤128)
include n8 h128
end
def H6 (r:Rect):Int:=lU 2 (aF r.W r.H)
def G8 (x:Piece) (h:Nat):Int:=match x.Cuts[h]? with
  | some r=>H6 r
  | none=>0
def hM (l:LayoutT) (H:List (List Bool)) (p:Nat):Int:=match l.Pieces[p]? with
  | some x=>XO (fun h=>if (H.getD p []).getD h false then G8 x h else 0) x.Cuts.length
  | none=>0
theorem Rk {α:Type} (L:List α) (i j:Nat) (v z:α) (hi:i<L.length):(L.set i v).getD j z=if j=i then v else L.getD j z:=by
  rw [List.getD_eq_getElem?_getD,List.getElem?_set]
  by_cases e:i=j
  · subst e;simp [hi]
  · rw [if_neg e,if_neg fun h=>e h.symm,List.getD_eq_getElem?_getD]
theorem OY {n:Nat} (q:Nat→Bool) (c:List Bool) {i:Nat} (hi:i<n):(mark n q c).getD i false=(q i || c.getD i false):=wK (Lp q hi)
end Go.SM
namespace Go.SM
open Go Go.VI
theorem Nw:iY=some true:=by kernel_rfl
end Go.SM
namespace Go.SM
open Go Go.VI Go.Cells
theorem Yi {a b:List Bool} (hl:a.length=b.length) (ha:a.length≤1048576) (h:∀ i,a.getD i false=true→b.getD i false=true):dA a b=some true:=by
  unfold dA
  have h0:((a.length:Int) != (b.length:Int))=false:=by simp [hl]
  simp only [h0,Bool.false_eq_true,if_false]
  rw [Ej a (mH a b) (fun _=>true) (.inl ()) (.inr ()) (fun k x hx=>?s) ?f]
  · simp
  case s =>
    have h1:=aV hx
    have hb:b[k]?=some (b[k]'(by omega)):=List.getElem?_eq_getElem (by omega)
    have hm:=h k
    rw [wK hx,wK hb] at hm
    unfold mH
    have hd:decide ((k:Int)<(a.length:Int))=true:=by simp [h1]
    simp only [hd,if_true,aJ hx,aJ hb,Option.bind_some,aT k (show (k:Int)<9223372036854775807 by omega)]
    cases x with
    | false=>rfl
    | true=>rw [hm rfl];rfl
  case f=>simp [mH]
theorem Ug {n:Nat} (q:Nat→Bool) {c:List Bool} (hc:c.length=n) (i:Nat) (h:c.getD i false=true):(mark n q c).getD i false=true:=by
  have hi:i<n:=by
    by_cases hi:i<n
    · exact hi
    · rw [List.getD_eq_getElem?_getD,List.getElem?_eq_none (by omega)] at h;cases h
  rw [OY q c hi,h,Bool.or_true]
theorem NZ {l:LayoutT} {es:List EdgeT} {s s':RS} {x:ItemT} (hd:Does l es s x s') (hf:Fit l es.length s):(∀ i,s.Cut.getD i false=true→s'.Cut.getD i false=true)∧(∀ i,s.Done.getD i false=true→s'.Done.getD i false=true)∧∀ i,s.Fallen.getD i false=true→s'.Fallen.getD i false=true:=by
  cases hd with
  | @hole p h y t hp hh hj hy hfl ht hb=>exact ⟨fun i h=>h,fun i h=>h,fun i h=>Ug _ hf.f i h⟩
  | @line p y t hp hh hj hy hfl hdn ht ha hn =>
    refine ⟨fun i h=>Ug _ hf.c i h,fun i h=>?_,fun i h=>Ug _ hf.f i h⟩
    show (s.Done.set p true).getD i false=true
    rw [Rk _ _ _ _ _ (aV hdn)]
    by_cases e:i=p
    · rw [if_pos e]
    · rw [if_neg e];exact h
section
variable {l:LayoutT} {es:List EdgeT} {items:List ItemT} (h128:items.length≤128) (he:mV l=some (es,0)) (hl:LV l) (hc:∀ x ∈ l.Pieces,x.Cuts.length≤1048576) (hn:es.length≤200000) (st:cut_State) (kk e:Int) (H:List (List Bool))
include h128 he hl hc hn
theorem Zr (k:Nat) (x:ItemT) (s s':RS) (hx:items[k]?=some x) (h:Step l es s x s') (hf:Fit l es.length s):bE l items (st,kk,e,H) ((k:Int),s.Holes,s.Cut,s.Done,s.Joints,s.Fallen)=some (.inl (((k+1:Nat):Int),s'.Holes,s'.Cut,s'.Done,s'.Joints,s'.Fallen)):=by
  have hk:=aV hx
  have hf':=Rf h.d hf
  have sl:=JL hl.n hc hn hf
  obtain ⟨m1,m2,m3⟩:=NZ h.d hf
  have g1:dA s.Cut (toC s').Cut=some true:=Yi (by show s.Cut.length=s'.Cut.length;rw [hf.c,hf'.c]) sl.c m1
  have g2:dA s.Done (toC s').Done=some true:=Yi (by show s.Done.length=s'.Done.length;rw [hf.d,hf'.d]) sl.d m2
  have g3:dA s.Fallen (toC s').Fallen=some true:=Yi (by show s.Fallen.length=s'.Fallen.length;rw [hf.f,hf'.f]) sl.f m3
  have hdo:Tt l ⟨s.Cut,s.Holes,s.Done,s.Joints,s.Fallen⟩ x=some (toC s',0,s'.Holes):=by
    unfold Tt
    have hc:zI l es ⟨s.Cut,s.Holes,s.Done,s.Joints,s.Fallen⟩ x=some (toC s',0):=h.c
    rw [he]
    simp only [Option.bind_some,bne_self_eq_false,Bool.false_eq_true,if_false,hc]
    rfl
  unfold bE
  have hd:decide ((k:Int)<(items.length:Int))=true:=by simp [hk]
  simp only [hd,if_true,aJ hx,Option.bind_some,hdo,bne_self_eq_false,Bool.false_eq_true,if_false,g1,g2,g3,Bool.not_true,aT k (show (k:Int)<9223372036854775807 by omega)]
  rfl
omit h128 hl hc hn in
theorem KZ (k:Nat) (x:ItemT) (s:RS) (c:Int) (hx:items[k]?=some x) (h:Stop1 l es s x c):bE l items (st,kk,e,H) ((k:Int),s.Holes,s.Cut,s.Done,s.Joints,s.Fallen)=some (.inr (.inl (e==c&&kk==(k:Int)))):=by
  have hk:=aV hx
  have hdo:Tt l ⟨s.Cut,s.Holes,s.Done,s.Joints,s.Fallen⟩ x=some (toC noS,c,[]):=by
    unfold Tt
    have hc:zI l es ⟨s.Cut,s.Holes,s.Done,s.Joints,s.Fallen⟩ x=some (toC noS,c):=h.c
    rw [he]
    simp only [Option.bind_some,bne_self_eq_false,Bool.false_eq_true,if_false,hc]
    rfl
  have hn:(c != 0)=true:=by rw [bne_iff_ne];exact h.n
  unfold bE
  have hd:decide ((k:Int)<(items.length:Int))=true:=by simp [hk]
  simp only [hd,if_true,aJ hx,Option.bind_some,hdo,hn,Nw]
  cases (e==c) <;> cases (kk==(k:Int)) <;> rfl
end
theorem DX (l:LayoutT) (items:List ItemT) (h:yZ l) (_:RLN 1048576 Xk items):rP l items=some true:=by
  obtain ⟨s,k,e,r1,r2,r3,r4⟩:=QL l h items
  obtain ⟨es,b,v1,v2,e1,e2,e3,e4,e5⟩:=Xi l h
  have hc:=LP h
  unfold rP Tu
  rw [r1,e1]
  simp only [Option.bind_some]
  by_cases hb:b=0
  case neg =>
    have hb':(b != 0)=true:=by rw [bne_iff_ne];exact hb
    have key:e≠0∧k=0:=by
      rcases r4 with ⟨he,_,⟨hk,_⟩ | ⟨es',pre,x,post,ss,h1,hl,h2,_⟩⟩ | ⟨he,hk,es',ss,hr,hs⟩
      · exact ⟨he,hk⟩
      · rw [e1] at h2;injection h2 with h2;injection h2 with _ h2;exact absurd h2 hb
      · have h2:=hr.e1;rw [e1] at h2;injection h2 with h2;injection h2 with _ h2;exact absurd h2 hb
    have he':(e != 0)=true:=by rw [bne_iff_ne];exact key.1
    simp only [hb',if_true,Option.bind_some,he',key.2,beq_self_eq_true,Nw]
  subst hb
  obtain ⟨hl,g1,g2,g3⟩:=e5 rfl
  have hf0:=NA (l:=l) es.length
  simp only [bne_self_eq_false,Bool.false_eq_true,if_false,IP hl.n hc es.length e3,Option.bind_some]
  by_cases h128:items.length≤128
  case neg =>
    have hd:decide ((items.length:Int)>128)=true:=by simp;omega
    have key:e≠0∧k=0:=by
      rcases r4 with ⟨he,_,⟨hk,_⟩ | ⟨es',pre,x,post,ss,h1,_⟩⟩ | ⟨he,hk,es',ss,hr,hs⟩
      · exact ⟨he,hk⟩
      · exact absurd h1 h128
      · exact absurd hr.k h128
    have he':(e != 0)=true:=by rw [bne_iff_ne];exact key.1
    simp only [hd,if_true,he',key.2,beq_self_eq_true,Option.bind_some,Nw]
  have hd:decide ((items.length:Int)>128)=false:=by simp;omega
  simp only [hd,Bool.false_eq_true,if_false]
  have eqs:∀ es' c,mV l=some (es',c)→es'=es:=fun es' c h=>by rw [e1] at h;injection h with h;injection h with h _;exact h.symm
  rcases r4 with ⟨he,_,⟨hk,⟨es',h1⟩ | ⟨es',_,_,h1,_⟩⟩ | ⟨es',pre,x,post,ss,h1,_,h2,_,_,h5,h6,h7,h8⟩⟩ | ⟨he,hk,es',ss,hr,hs⟩
  · rw [e1] at h1;injection h1 with h1;injection h1 with _ h1;exact absurd h1.symm he
  · exact absurd h128 h1
  · obtain rfl:=eqs _ _ h2
    subst h6
    have q:=EF (l:=l) (es:=es') (items:=items) (fun k (s:RS) (_:Unit)=>((k:Int),s.Holes,s.Cut,s.Done,s.Joints,s.Fallen)) (bE l items (toC s,(pre.length:Int),e,s.Holes)) (fun _ _ e=>e) (fun _ _ _=>True)
      (fun k x s s' _ hx hs hf _=>⟨Zr h128 e1 hl hc e3 _ _ _ _ k x s s' hx hs hf,trivial⟩) (fun k c _ _=>.inl (e==c&&(pre.length:Int)==(k:Int))) (fun k x s _ c hx hs _=>KZ e1 _ _ _ _ k x s c hx hs) h5 h7 h8 () hf0 trivial
    have q':aD (bE l items (toC s,(pre.length:Int),e,s.Holes)) (0,(toC (st0 l es'.length)).Holes,(toC (st0 l es'.length)).Cut,(toC (st0 l es'.length)).Done,(toC (st0 l es'.length)).Joints,(toC (st0 l es'.length)).Fallen)=_:=q
    rw [q']
    simp
  · obtain rfl:=eqs _ _ hr.e1
    subst he hk hs
    have q:=KS (l:=l) (es:=es') (items:=items) (fun k (s:RS) (_:Unit)=>((k:Int),s.Holes,s.Cut,s.Done,s.Joints,s.Fallen)) (bE l items (toC (wO (st0 l es'.length) ss),0,0,(wO (st0 l es'.length) ss).Holes)) (fun _ _ e=>e) (fun _ _ _=>True)
      (fun k x s s' _ hx hs hf _=>⟨Zr h128 e1 hl hc e3 _ _ _ _ k x s s' hx hs hf,trivial⟩) (fun s _=>.inr (s.Holes,s.Cut,s.Done,s.Joints,s.Fallen)) (fun s _=>by simp [bE]) hr.s () hf0 trivial
    have q':aD (bE l items (toC (wO (st0 l es'.length) ss),0,0,(wO (st0 l es'.length) ss).Holes)) (0,(toC (st0 l es'.length)).Holes,(toC (st0 l es'.length)).Cut,(toC (st0 l es'.length)).Done,(toC (st0 l es'.length)).Joints,(toC (st0 l es'.length)).Fallen)=_:=q
    rw [q']
    generalize wO (st0 l es'.length) ss=s at r3
    have sm:qZ (cut_State.mk (toC s).Cut (toC s).Holes (toC s).Done (toC s).Joints (toC s).Fallen) (sheetmetalref07_State.mk s.Cut s.Holes s.Done s.Joints s.Fallen)=some true:=PS r3
    simp only [Option.bind_some,beq_self_eq_true,if_true,sm,Nw]
end Go.SM
