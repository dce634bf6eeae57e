/- Layouts: both say the same of each. The law CutValidates, on the models. -/
import Derived.Test.YtgfjbgoehhnaeaaGreatCzPiece
import Derived.Test.YtgfjbgoehhnaeaaGreatCzK
set_option linter.unusedVariables false
set_option linter.unusedSimpArgs false
set_option linter.unusedSectionVars false
namespace Go.SM
open Go Go.VI
theorem Si {s:Sheet} (h:jY s=some 0):s.Clamps.length≤4∧s.Used.length≤48:=by
  obtain ⟨a,ha,_⟩:=Name_same s.Name
  obtain ⟨b,hb,_⟩:=Name_same s.Material
  unfold jY at h
  rw [ha,hb] at h
  cases a with
  | false=>exact absurd (Option.some.inj h) (by decide)
  | true =>
  cases b with
  | false=>exact absurd (Option.some.inj h) (by decide)
  | true =>
  simp only [Option.bind_some,Pz,FC,if_true,Bool.not_true,Bool.false_eq_true,if_false] at h
  generalize decide ((1≤s.Gauge∧s.Gauge≤60)∧0≤s.Grain∧s.Grain≤2)=g1 at h
  generalize decide (1≤s.Width∧s.Width≤1048576)=g2 at h
  generalize decide (1≤s.Height∧s.Height≤1048576)=g3 at h
  by_cases h4:(s.Clamps.length:Int)>4
  · simp only [h4,decide_true,if_true,Option.bind_some] at h
    cases g1 <;> cases g2 <;> cases g3 <;> exact absurd (Option.some.inj h) (by decide)
  by_cases h5:(s.Used.length:Int)>48
  · simp only [h4,h5,decide_false,decide_true,if_true,Bool.false_eq_true,if_false,Option.bind_some] at h
    cases g1 <;> cases g2 <;> cases g3 <;> exact absurd (Option.some.inj h) (by decide)
  omega
theorem RL {α:Type} {l:List α} {k:Nat} (h:k≤l.length):slc l 0 (k:Int)=some (l.take k):=by
  unfold slc;rw [if_pos (by omega)];simp
theorem DW {l:List Rect} {g:Rect→Int}:∀ {a:Int},l.foldl (fun s r=>min s (g r)) a=a∨∃ r ∈ l,l.foldl (fun s r=>min s (g r)) a=g r:=by
  induction l with
  | nil=>intro a;exact .inl rfl
  | cons x l ih =>
    intro a
    simp only [List.foldl_cons]
    rcases ih (a:=min a (g x)) with h | ⟨r,hr,h⟩
    · rw [h]
      by_cases hx:a≤g x
      · left;omega
      · right;exact ⟨x,by simp,by omega⟩
    · exact .inr ⟨r,by simp [hr],h⟩
theorem Le {α β:Type} (l:List α) (f:α→β) (body:Int×List β→Option ((Int×List β) ⊕ List β)) (hl:l.length≤1048576) (step:∀ (k:Nat) x acc,l[k]?=some x→body ((k:Int),acc)=(app acc [f x]).bind fun l'=>some (.inl (((k+1:Nat):Int),l'))) (fin:∀ acc,body ((l.length:Int),acc)=some (.inr acc)) :
    aM body (0,[])=some (l.map f):=by
  refine Bn l body (fun k=>((k:Int),(l.take k).map f)) _ (fun k x hx=>?_) ?_
  · have hk:=(List.getElem?_eq_some_iff.1 hx).1
    rw [step k x _ hx,qY (by unfold LIM;simp;omega)]
    simp only [Option.bind_some]
    rw [List.take_add_one,hx]
    simp
  · rw [fin,List.take_length]
def bkR (x y:Int) (r:Rect):Rect:=if r.X < -4194304∨r.X>4194304∨r.Y < -4194304∨r.Y>4194304 then ⟨r.X,r.Y,0,r.H⟩ else ⟨aJ r.X x,aJ r.Y y,r.W,r.H⟩
def shR (x y:Int) (r:Rect):Rect:=if r.X > -2147483648∧r.X<2147483648∧r.Y > -2147483648∧r.Y<2147483648 then ⟨aL r.X x,aL r.Y y,r.W,r.H⟩ else r
theorem EP {l:List Rect} (hl:l.length≤1048576) (x y:Int):Jw l x y=some (l.map (bkR x y)):=by
  unfold Jw lN
  rw [qY (by unfold LIM;simp;omega)]
  simp only [List.nil_append,Option.bind_some]
  have key:aM (Dm x y l) (0,l)=some (l.map (bkR x y)):=by
    refine Bn l (Dm x y l) (fun k=>((k:Int),(l.take k).map (bkR x y)++l.drop k)) _ (fun k r hr=>?_) ?_
    · have hk:=(List.getElem?_eq_some_iff.1 hr).1
      have h1:decide ((k:Int)<(l.length:Int))=true:=by simp;omega
      have ht:((l.take k).map (bkR x y)).length=k:=by simp;omega
      have ed:l.drop k=r::l.drop (k+1):=by rw [List.drop_eq_getElem_cons hk];congr 1;exact (List.getElem?_eq_some_iff.1 hr).2
      have g1:∀ z:Rect,((l.take k).map (bkR x y)++z::l.drop (k+1))[k]?=some z:=fun z=>by rw [List.getElem?_append_right (by omega),ht];simp
      have i1:∀ z:Rect,idx ((l.take k).map (bkR x y)++z::l.drop (k+1)) (k:Int)=some z:=fun z=>aP (g1 z)
      have s1:∀ z z':Rect,List.set ((l.take k).map (bkR x y)++z::l.drop (k+1)) k z'=(l.take k).map (bkR x y)++z'::l.drop (k+1):=fun z z'=>by rw [List.set_append_right _ _ (by omega),ht];simp
      have e:l.take (k+1)=l.take k++[r]:=by rw [List.take_add_one,hr];rfl
      unfold Dm Ia
      simp only [h1,if_true,ed,i1,g1,s1,Option.bind_some,Int.toNat_natCast]
      rw [aS (a:=(k:Int)) (by omega) (by omega),e,List.map_append,List.append_assoc]
      by_cases q1:r.X < -4194304
      · simp [q1,bkR]
      · by_cases q2:r.X>4194304
        · simp [q1,q2,bkR]
        · by_cases q3:r.Y < -4194304
          · simp [q1,q2,q3,bkR]
          · by_cases q4:r.Y>4194304
            · simp [q1,q2,q3,q4,bkR]
            · simp [q1,q2,q3,q4,bkR]
    · simp [Dm]
  rw [key]
  rfl
theorem BQ {l:List Rect} (hl:l.length≤1048576) (x y:Int):jJ l x y=some (l.map (shR x y)):=by
  unfold jJ
  rw [Le l (shR x y) (nG l x y) hl (fun k r acc hx=>?_) (fun acc=>?_)]
  · rfl
  · have hk:=(List.getElem?_eq_some_iff.1 hx).1
    unfold nG nE
    have h1:decide ((k:Int)<(l.length:Int))=true:=by simp;omega
    simp only [h1,if_true,aP hx,Option.bind_some]
    rw [aS (a:=(k:Int)) (by omega) (by omega)]
    unfold shR
    by_cases g1:r.X > -2147483648
    · by_cases g2:r.X<2147483648
      · by_cases g3:r.Y > -2147483648
        · by_cases g4:r.Y<2147483648
          · simp [g1,g2,g3,g4]
          · simp [g1,g2,g3,g4]
        · simp [g1,g2,g3]
      · simp [g1,g2]
    · simp [g1]
  · simp [nG]
theorem I9 {mx my:Int} (hx : -1048576≤mx∧mx≤1048576) (hy : -1048576≤my∧my≤1048576) (r:Rect) (hr:Za r):bkR mx my r=shR (uW mx) (uW my) r∨(¬ vR (bkR mx my r)∧¬ vR (shR (uW mx) (uW my) r)):=by
  obtain ⟨⟨a1,a2⟩,⟨b1,b2⟩,_,_⟩:=hr
  unfold bkR shR
  rw [FJ (a:=mx) (by omega) (by omega),FJ (a:=my) (by omega) (by omega)]
  by_cases h:r.X < -4194304∨r.X>4194304∨r.Y < -4194304∨r.Y>4194304
  · right
    rw [if_pos h]
    refine ⟨fun q=>?_,fun q=>?_⟩
    · have:=q.2.2.1;simp at this
    · by_cases g:r.X > -2147483648∧r.X<2147483648∧r.Y > -2147483648∧r.Y<2147483648
      · rw [if_pos g,aS (by omega) (by omega),aS (by omega) (by omega)] at q
        obtain ⟨q1,q2,_⟩:=q
        simp only at q1 q2
        omega
      · rw [if_neg g] at q
        obtain ⟨q1,q2,_⟩:=q
        omega
  · left
    rw [if_neg h,if_pos (by omega),aY (by omega) (by omega),aY (by omega) (by omega),aS (by omega) (by omega),aS (by omega) (by omega)]
    rfl
theorem SB {x:Piece} {a b:Bool} (ha:lC x.Name=some a) (hb:lC x.Material=some b) (h:∃ r ∈ x.Rects++(x.Cuts++x.Forms),¬ vR r) :
    eX x=some (if a&&b then (if (1≤x.Gauge∧x.Gauge≤60)∧0≤x.Grain∧x.Grain≤2 then (if x.Rects.length>12∨x.Cuts.length>12∨x.Forms.length>12 then 4 else 1) else 1) else 2):=by
  unfold eX
  rw [ha,hb]
  cases a with
  | false=>rfl
  | true =>
  cases b with
  | false=>rfl
  | true =>
  simp only [Option.bind_some,Pz,Bool.and_self,if_true,Bool.not_true,Bool.false_eq_true,if_false]
  by_cases h1:(1≤x.Gauge∧x.Gauge≤60)∧0≤x.Grain∧x.Grain≤2
  · simp only [h1,and_self,decide_true,Bool.not_true,Bool.false_eq_true,if_false,if_true]
    by_cases l1:x.Rects.length>12
    · simp [show (x.Rects.length:Int)>12 by omega,l1]
    by_cases l2:x.Cuts.length>12
    · simp [show ¬ (x.Rects.length:Int)>12 by omega,show (x.Cuts.length:Int)>12 by omega,l1,l2]
    by_cases l3:x.Forms.length>12
    · simp [show ¬ (x.Rects.length:Int)>12 by omega,show ¬ (x.Cuts.length:Int)>12 by omega,show (x.Forms.length:Int)>12 by omega,l1,l2,l3]
    have d1:decide ((x.Rects.length:Int)>12)=false:=by simp;omega
    have d2:decide ((x.Cuts.length:Int)>12)=false:=by simp;omega
    have d3:decide ((x.Forms.length:Int)>12)=false:=by simp;omega
    have hc:¬ (x.Rects.length>12∨x.Cuts.length>12∨x.Forms.length>12):=by omega
    simp only [d1,d2,d3,hc,Bool.false_eq_true,if_false,Option.bind_some,valid_eq x.Rects (by omega),valid_eq x.Cuts (by omega),valid_eq x.Forms (by omega)]
    have anyb:∀ l:List Rect,(∃ r ∈ l,¬ vR r)→(l.any fun x=>!decide (vR x))=true:=fun l ⟨r,hr,hv⟩=>List.any_eq_true.2 ⟨r,hr,by simp [hv]⟩
    obtain ⟨r,hr,hv⟩:=h
    have hj:(if ((x.Rects.length:Int)==0)=true then some true else (if (!(x.Rects.any fun x=>!decide (vR x)))=true then (if (!(x.Cuts.any fun x=>!decide (vR x)))=true then some (!(!(x.Forms.any fun x=>!decide (vR x)))) else some true) else some true))=some true:=by
      cases (x.Rects.length:Int)==0 with
      | true=>rfl
      | false =>
        rcases List.mem_append.1 hr with hr | hr
        · rw [anyb _ ⟨r,hr,hv⟩];rfl
        · rcases List.mem_append.1 hr with hr | hr
          · rw [anyb x.Cuts ⟨r,hr,hv⟩];cases (x.Rects.any fun x=>!decide (vR x)) <;> rfl
          · rw [anyb x.Forms ⟨r,hr,hv⟩];cases (x.Rects.any fun x=>!decide (vR x)) <;> cases (x.Cuts.any fun x=>!decide (vR x)) <;> rfl
    rw [hj]
    rfl
  · simp only [h1,decide_false,Bool.not_false,if_true,if_false]
theorem ZU {x:Piece} (h:eX x=some 0):x.Rects.length≤12:=by
  obtain ⟨a,ha,_⟩:=Name_same x.Name
  obtain ⟨b,hb,_⟩:=Name_same x.Material
  unfold eX at h
  rw [ha,hb] at h
  by_cases l1:(x.Rects.length:Int)>12
  · cases a with
    | false=>exact absurd (Option.some.inj h) (by decide)
    | true =>
    cases b with
    | false=>exact absurd (Option.some.inj h) (by decide)
    | true =>
    simp only [Option.bind_some,Pz,if_true,Bool.not_true,Bool.false_eq_true,if_false,l1,decide_true] at h
    generalize decide ((1≤x.Gauge∧x.Gauge≤60)∧0≤x.Grain∧x.Grain≤2)=g1 at h
    cases g1 <;> exact absurd (Option.some.inj h) (by decide)
  · omega
def Sm (x:Piece):Prop:=(x.Rects.length≤1048576∧∀ r ∈ x.Rects,Za r)∧(x.Cuts.length≤1048576∧∀ r ∈ x.Cuts,Za r)∧(x.Forms.length≤1048576∧∀ r ∈ x.Forms,Za r)
theorem DI (x0:Piece) (hl:x0.Rects.length≤1048576) (a b:Int):aM (fO x0) (a,b,0)=some (Va x0.Rects a,Vb x0.Rects b):=by
  refine Bn x0.Rects (fO x0) (fun k=>(Va (x0.Rects.take k) a,Vb (x0.Rects.take k) b,(k:Int))) _ (fun k r hr=>?_) ?_
  · have hk:=(List.getElem?_eq_some_iff.1 hr).1
    unfold fO
    have h1:decide ((k:Int)<(x0.Rects.length:Int))=true:=by simp;omega
    have e:x0.Rects.take (k+1)=x0.Rects.take k++[r]:=by rw [List.take_add_one,hr];rfl
    simp only [h1,if_true,aP hr,Option.bind_some,e,Ei]
    rw [aS (a:=(k:Int)) (by omega) (by omega)]
    unfold Va Vb
    rw [List.foldl_append,List.foldl_append]
    rfl
  · simp [fO]
theorem PE (x0:Piece):nU x0=fO x0:=by
  funext s
  unfold nU fO
  cases idx x0.Rects s.2.2 <;> rfl
theorem MF (x0:Piece) (hl:x0.Rects.length≤1048576) {r:Rect} (hr:x0.Rects[0]?=some r):aM (nU x0) (r.X,r.Y,1)=some (Va x0.Rects r.X,Vb x0.Rects r.Y):=by
  have i0:idx x0.Rects 0=some r:=aP (k:=0) hr
  have hk:=(List.getElem?_eq_some_iff.1 hr).1
  have h1:aM (fO x0) (r.X,r.Y,0)=aM (fO x0) (r.X,r.Y,1):=by
    refine lQ ?_
    unfold fO
    have hd:decide ((0:Int)<(x0.Rects.length:Int))=true:=by simp;omega
    simp only [hd,if_true,i0,Option.bind_some,Ei,Int.min_self]
    rfl
  rw [PE,← h1,DI x0 hl]
theorem Tj {x:Piece} (hs:Sm x):∃ e:Int,pO x=some e∧(e=0→x.Rects.length≤12) ∧
    ∀ {S:Type} (k:S),((sS x).bind fun r79=>if (!r79.2.1) then (some (Sum.inr (Sum.inl (1:Int)):S ⊕ (Int ⊕ Unit))) else ((bW (Piece.mk r79.1.Name r79.1.Material r79.1.Gauge r79.1.Grain r79.1.Rects r79.1.Cuts r79.1.Forms)).bind fun r81=>if (r81 != 0) then (some (.inr (.inl r81))) else (some (.inl k))))=if e=0 then some (.inl k) else some (.inr (.inl e)):=by
  obtain ⟨⟨s1,t1⟩,⟨s2,t2⟩,s3,t3⟩:=hs
  have k1:aM (rP x) 0=some (if (x.Rects.any fun x=>!decide (vR x)) then .inl () else .inr ()):=by
    refine gI x.Rects (rP x) (fun k=>(k:Int)) _ _ _ rfl (fun k y hx=>?_) ?_
    · have hk:=(List.getElem?_eq_some_iff.1 hx).1
      unfold rP
      have h1:decide ((k:Int)<(x.Rects.length:Int))=true:=by simp;omega
      simp only [h1,if_true,aP hx,Option.bind_some,uU]
      rw [aS (a:=(k:Int)) (by omega) (by omega)]
      rfl
    · simp [rP]
  unfold pO sS
  rw [k1,Fa _ (by omega)]
  cases hv:(x.Rects.any fun x=>!decide (vR x)) with
  | true=>exact ⟨1,rfl,fun h=>absurd h (by decide),fun k=>rfl⟩
  | false =>
  have av:∀ r ∈ x.Rects,vR r:=fun r hr=>by have:=List.any_eq_false.1 hv r hr;simpa using this
  simp only [Bool.false_eq_true,if_false,Option.bind_some,Bool.not_false,Bool.not_true]
  by_cases h0:(x.Rects.length:Int)=0
  · obtain ⟨e,e1,e2⟩:=Sd x
    refine ⟨e,by simp [h0,e1],fun _=>by omega,fun k=>?_⟩
    have e2':bW (Piece.mk x.Name x.Material x.Gauge x.Grain x.Rects x.Cuts x.Forms)=some e:=e2
    simp only [h0,beq_self_eq_true,if_true,Option.bind_some,Bool.not_true,Bool.false_eq_true,if_false,e2']
    by_cases he:e=0
    · simp [he]
    · simp [he]
  · have h0':((x.Rects.length:Int)==0)=false:=by rw [beq_eq_false_iff_ne];exact h0
    have hlt:0<x.Rects.length:=by omega
    have hr:x.Rects[0]?=some (x.Rects[0]'hlt):=by simp [hlt]
    have i0:idx x.Rects 0=some (x.Rects[0]'hlt):=aP (k:=0) hr
    have hmem:x.Rects[0]'hlt ∈ x.Rects:=List.getElem_mem hlt
    have rb:=MF x s1 hr
    generalize x.Rects[0]'hlt=r0 at hr i0 hmem rb
    have bx : -1048576≤Va x.Rects r0.X∧Va x.Rects r0.X≤1048576:=by
      have:∃ y ∈ x.Rects,Va x.Rects r0.X=y.X:=by
        rcases DW (l:=x.Rects) (g:=fun r=>r.X) (a:=r0.X) with e | ⟨y,hy,e⟩
        · exact ⟨r0,hmem,e⟩
        · exact ⟨y,hy,e⟩
      obtain ⟨y,hy,e⟩:=this
      have:=av y hy;unfold vR at this;omega
    have by' : -1048576≤Vb x.Rects r0.Y∧Vb x.Rects r0.Y≤1048576:=by
      have:∃ y ∈ x.Rects,Vb x.Rects r0.Y=y.Y:=by
        rcases DW (l:=x.Rects) (g:=fun r=>r.Y) (a:=r0.Y) with e | ⟨y,hy,e⟩
        · exact ⟨r0,hmem,e⟩
        · exact ⟨y,hy,e⟩
      obtain ⟨y,hy,e⟩:=this
      have:=av y hy;unfold vR at this;omega
    unfold xE
    simp only [h0',Bool.false_eq_true,if_false,i0,Option.bind_some,DI x s1,rb,EP s1,EP s2,EP s3,BQ s1,BQ s2,BQ s3,Bool.not_true]
    generalize Va x.Rects r0.X=mx at bx
    generalize Vb x.Rects r0.Y=my at by'
    have main : ∃ e,eX ⟨x.Name,x.Material,x.Gauge,x.Grain,x.Rects.map (bkR mx my),x.Cuts.map (bkR mx my),x.Forms.map (bkR mx my)⟩=some e∧bW ⟨x.Name,x.Material,x.Gauge,x.Grain,x.Rects.map (shR (uW mx) (uW my)),x.Cuts.map (shR (uW mx) (uW my)),x.Forms.map (shR (uW mx) (uW my))⟩=some e:=by
      have cmp:=I9 bx by'
      by_cases hall:∀ r ∈ x.Rects++(x.Cuts++x.Forms),bkR mx my r=shR (uW mx) (uW my) r
      · have m1:x.Rects.map (bkR mx my)=x.Rects.map (shR (uW mx) (uW my)):=List.map_congr_left fun r hr=>hall r (List.mem_append.2 (.inl hr))
        have m2:x.Cuts.map (bkR mx my)=x.Cuts.map (shR (uW mx) (uW my)):=List.map_congr_left fun r hr=>hall r (List.mem_append.2 (.inr (List.mem_append.2 (.inl hr))))
        have m3:x.Forms.map (bkR mx my)=x.Forms.map (shR (uW mx) (uW my)):=List.map_congr_left fun r hr=>hall r (List.mem_append.2 (.inr (List.mem_append.2 (.inr hr))))
        rw [m1,m2,m3]
        exact Sd _
      · have hex:∃ r ∈ x.Rects++(x.Cuts++x.Forms),¬ vR (bkR mx my r)∧¬ vR (shR (uW mx) (uW my) r):=by
          apply Classical.byContradiction
          intro hno
          refine hall fun r hr=>?_
          have hR:Za r:=by
            rcases List.mem_append.1 hr with h | h
            · exact t1 r h
            · rcases List.mem_append.1 h with h | h
              · exact t2 r h
              · exact t3 r h
          rcases cmp r hR with h | h
          · exact h
          · exact absurd ⟨r,hr,h⟩ hno
        obtain ⟨r,hr,v1,v2⟩:=hex
        obtain ⟨a,ha,_⟩:=Name_same x.Name
        obtain ⟨b,hb,_⟩:=Name_same x.Material
        have p1:=SB (x:=⟨x.Name,x.Material,x.Gauge,x.Grain,x.Rects.map (bkR mx my),x.Cuts.map (bkR mx my),x.Forms.map (bkR mx my)⟩) ha hb ⟨bkR mx my r,by show _ ∈ x.Rects.map _++(x.Cuts.map _++x.Forms.map _);rw [← List.map_append,← List.map_append];exact List.mem_map_of_mem hr,v1⟩
        have p2:=SB (x:=⟨x.Name,x.Material,x.Gauge,x.Grain,x.Rects.map (shR (uW mx) (uW my)),x.Cuts.map (shR (uW mx) (uW my)),x.Forms.map (shR (uW mx) (uW my))⟩) ha hb ⟨shR (uW mx) (uW my) r,by show _ ∈ x.Rects.map _++(x.Cuts.map _++x.Forms.map _);rw [← List.map_append,← List.map_append];exact List.mem_map_of_mem hr,v2⟩
        simp only [List.length_map] at p1 p2
        obtain ⟨e,e1,e2⟩:=Sd ⟨x.Name,x.Material,x.Gauge,x.Grain,x.Rects.map (shR (uW mx) (uW my)),x.Cuts.map (shR (uW mx) (uW my)),x.Forms.map (shR (uW mx) (uW my))⟩
        exact ⟨e,by rw [p1,← p2];exact e1,e2⟩
    obtain ⟨e,e1,e2⟩:=main
    refine ⟨e,by rw [e1];rfl,fun he=>?_,fun k=>?_⟩
    · subst he
      have:=ZU e1
      simpa using this
    · simp only [e2,Option.bind_some]
      by_cases he:e=0
      · simp [he]
      · simp [he]
theorem BA (r:Rect) {l:List Rect} (hl:l.length≤1000):Fe r l=some (l.any (uS r)):=by
  have key:∃ z,aM (bA l r.X r.Y r.W r.H) 0=some z∧((∃ k:Nat,z=.inl (k:Int))∧l.any (uS r)=true∨z=.inr ()∧l.any (uS r)=false):=by
    have go : ∀ (m k:Nat),k+m=l.length→(∀ y ∈ l.take k,uS r y=false)→∃ z,aM (bA l r.X r.Y r.W r.H) (k:Int)=some z∧((∃ k:Nat,z=.inl (k:Int))∧l.any (uS r)=true∨z=.inr ()∧l.any (uS r)=false):=by
      intro m
      induction m with
      | zero =>
        intro k h hb
        obtain rfl:k=l.length:=by omega
        rw [List.take_length] at hb
        exact ⟨.inr (),fU (by simp [bA]),.inr ⟨rfl,List.any_eq_false.2 fun y hy=>by simp [hb y hy]⟩⟩
      | succ m ih =>
        intro k h hb
        have hx:l[k]?=some (l[k]'(by omega)):=by simp [show k<l.length by omega]
        have hd:decide ((k:Int)<(l.length:Int))=true:=by simp;omega
        have hm:Ii (l[k]'(by omega)) r.X r.Y r.W r.H=some (uS r (l[k]'(by omega))):=by
          unfold Ii
          rw [Yy];rfl
        by_cases ho:uS r (l[k]'(by omega))=true
        · refine ⟨.inl (k:Int),fU ?_,.inl ⟨⟨k,rfl⟩,List.any_eq_true.2 ⟨_,List.mem_of_getElem? hx,ho⟩⟩⟩
          unfold bA
          simp only [hd,if_true,aP hx,Option.bind_some,hm,ho]
        · have ho':uS r (l[k]'(by omega))=false:=by simpa using ho
          rw [lQ (s':=((k+1:Nat):Int))]
          · refine ih (k+1) (by omega) fun y hy=>?_
            rw [List.take_add_one,hx] at hy
            rcases List.mem_append.1 hy with hy | hy
            · exact hb y hy
            · simp at hy;rw [hy];exact ho'
          · unfold bA
            simp only [hd,if_true,aP hx,Option.bind_some,hm,ho',Bool.false_eq_true,if_false]
            rw [aS (by omega) (by omega)];rfl
    exact go l.length 0 (by omega) (by simp)
  obtain ⟨z,hz,h⟩:=key
  unfold Fe dH eB
  rw [hz]
  rcases h with ⟨⟨k,rfl⟩,h⟩ | ⟨rfl,h⟩
  · rw [h]
    have:decide ((k:Int) ≥ 0)=true:=by simp
    simp only [Option.bind_some,this]
  · rw [h];rfl
def BF (s:Sheet) (y:Rect):Bool:=!(decide (vV y ⟨0,0,s.Width,s.Height⟩)) || (s.Clamps.any (uS y) || s.Used.any (uS y))
theorem J4 (l:LayoutT) (x:Piece) (hx:x.Rects.length≤12) (h1:l.Sheet.Clamps.length≤4) (h2:l.Sheet.Used.length≤48):aM (vH l x) 0=some (if x.Rects.any (BF l.Sheet) then .inl () else .inr ()):=by
  refine gI x.Rects (vH l x) (fun k=>(k:Int)) _ _ _ rfl (fun k y hy=>?_) ?_
  · have hk:=(List.getElem?_eq_some_iff.1 hy).1
    unfold vH BF
    have hd:decide ((k:Int)<(x.Rects.length:Int))=true:=by simp;omega
    simp only [hd,if_true,aP hy,Option.bind_some,Vt,BA y (show l.Sheet.Clamps.length≤1000 by omega),BA y (show l.Sheet.Used.length≤1000 by omega)]
    rw [aS (a:=(k:Int)) (by omega) (by omega)]
    cases decide (vV y ⟨0,0,l.Sheet.Width,l.Sheet.Height⟩) <;> cases l.Sheet.Clamps.any (uS y) <;> cases l.Sheet.Used.any (uS y) <;> rfl
  · simp [vH]
theorem G6 (l:LayoutT) (x:Piece) (hx:x.Rects.length≤12) (h1:l.Sheet.Clamps.length≤4) (h2:l.Sheet.Used.length≤48):aM (gU l x) 0=some (if x.Rects.any (BF l.Sheet) then .inl () else .inr ()):=by
  refine gI x.Rects (gU l x) (fun k=>(k:Int)) _ _ _ rfl (fun k y hy=>?_) ?_
  · have hk:=(List.getElem?_eq_some_iff.1 hy).1
    unfold gU BF
    have hd:decide ((k:Int)<(x.Rects.length:Int))=true:=by simp;omega
    simp only [hd,if_true,aP hy,Option.bind_some,Vu,Ub y _ (show l.Sheet.Clamps.length≤1000 by omega),Ub y _ (show l.Sheet.Used.length≤1000 by omega)]
    rw [aS (a:=(k:Int)) (by omega) (by omega)]
    cases decide (vV y ⟨0,0,l.Sheet.Width,l.Sheet.Height⟩) <;> cases l.Sheet.Clamps.any (uS y) <;> cases l.Sheet.Used.any (uS y) <;> rfl
  · simp [gU]
theorem ZG (l:LayoutT) (hp:l.Pieces.length≤8) (hx:∀ x ∈ l.Pieces,x.Rects.length≤12) (h1:l.Sheet.Clamps.length≤4) (h2:l.Sheet.Used.length≤48):aM (vJ l) 0=some (if l.Pieces.any (fun x=>x.Rects.any (BF l.Sheet)) then .inl () else .inr ()):=by
  refine gI l.Pieces (vJ l) (fun k=>(k:Int)) _ _ _ rfl (fun k y hy=>?_) ?_
  · have hk:=(List.getElem?_eq_some_iff.1 hy).1
    unfold vJ
    have hd:decide ((k:Int)<(l.Pieces.length:Int))=true:=by simp;omega
    simp only [hd,if_true,aP hy,Option.bind_some,J4 l y (hx y (List.mem_of_getElem? hy)) h1 h2]
    rw [aS (a:=(k:Int)) (by omega) (by omega)]
    cases y.Rects.any (BF l.Sheet) <;> rfl
  · simp [vJ]
theorem G7 (l:LayoutT) (hp:l.Pieces.length≤8) (hx:∀ x ∈ l.Pieces,x.Rects.length≤12) (h1:l.Sheet.Clamps.length≤4) (h2:l.Sheet.Used.length≤48):aM (gV l) 0=some (if l.Pieces.any (fun x=>x.Rects.any (BF l.Sheet)) then .inl () else .inr ()):=by
  refine gI l.Pieces (gV l) (fun k=>(k:Int)) _ _ _ rfl (fun k y hy=>?_) ?_
  · have hk:=(List.getElem?_eq_some_iff.1 hy).1
    unfold gV
    have hd:decide ((k:Int)<(l.Pieces.length:Int))=true:=by simp;omega
    simp only [hd,if_true,aP hy,Option.bind_some,G6 l y (hx y (List.mem_of_getElem? hy)) h1 h2]
    rw [aS (a:=(k:Int)) (by omega) (by omega)]
    cases y.Rects.any (BF l.Sheet) <;> rfl
  · simp [gV]
def FD (x y:Piece):Bool:=x.Rects.any fun r=>y.Rects.any (uS r)
def KZ (l:List Piece) (k:Nat):Bool:=match l[k]? with
  | some x=>(l.take k).any (FD x)
  | none=>false
theorem J5 (x y:Piece) (hx:x.Rects.length≤12) (hy:y.Rects.length≤12):aM (vL x y) 0=some (if FD x y then .inl () else .inr ()):=by
  refine gI x.Rects (vL x y) (fun k=>(k:Int)) _ _ _ rfl (fun k r hr=>?_) ?_
  · have hk:=(List.getElem?_eq_some_iff.1 hr).1
    unfold vL
    have hd:decide ((k:Int)<(x.Rects.length:Int))=true:=by simp;omega
    simp only [hd,if_true,aP hr,Option.bind_some,BA r (show y.Rects.length≤1000 by omega)]
    rw [aS (a:=(k:Int)) (by omega) (by omega)]
    rfl
  · simp [vL]
theorem ZH (l:LayoutT) (hp:l.Pieces.length≤8) (hx:∀ x ∈ l.Pieces,x.Rects.length≤12):aM (vN l) 0=some (if (List.range l.Pieces.length).any (KZ l.Pieces) then .inl () else .inr ()):=by
  refine kD l.Pieces.length (vN l) (fun k=>(k:Int)) _ _ _ rfl (fun k hk=>?_) ?_
  · have he:l.Pieces[k]?=some l.Pieces[k]:=by simp
    have hin:aM (vM l.Pieces[k] (l.Pieces.take k)) 0=some (if (l.Pieces.take k).any (FD l.Pieces[k]) then .inl () else .inr ()):=by
      refine gI (l.Pieces.take k) (vM l.Pieces[k] (l.Pieces.take k)) (fun k=>(k:Int)) _ _ _ rfl (fun j y hy=>?_) ?_
      · have hj:=(List.getElem?_eq_some_iff.1 hy).1
        have hjl:(l.Pieces.take k).length≤8:=by rw [List.length_take];omega
        unfold vM
        have hd:decide ((j:Int)<((l.Pieces.take k).length:Int))=true:=by rw [decide_eq_true_eq];omega
        simp only [hd,if_true,aP hy,Option.bind_some,J5 _ y (hx _ (List.getElem_mem hk)) (hx y (List.mem_of_mem_take (List.mem_of_getElem? hy)))]
        rw [aS (a:=(j:Int)) (by omega) (by omega)]
        cases FD l.Pieces[k] y <;> rfl
      · simp [vM]
    unfold vN KZ
    have hd:decide ((k:Int)<(l.Pieces.length:Int))=true:=by simp;omega
    simp only [hd,if_true,aP he,he,Option.bind_some,RL (Nat.le_of_lt hk),hin]
    rw [aS (a:=(k:Int)) (by omega) (by omega)]
    cases (l.Pieces.take k).any (FD l.Pieces[k]) <;> rfl
  · simp [vN]
theorem G8 (l:LayoutT) (hp:l.Pieces.length≤8) (hx:∀ x ∈ l.Pieces,x.Rects.length≤12):aM (gY l) 0=some (if (List.range l.Pieces.length).any (KZ l.Pieces) then .inl () else .inr ()):=by
  refine kD l.Pieces.length (gY l) (fun k=>(k:Int)) _ _ _ rfl (fun k hk=>?_) ?_
  · have he : l.Pieces[k]?=some l.Pieces[k]:=by simp
    have hlt:(l.Pieces.take k).length=k:=by rw [List.length_take];omega
    have hin:aM (gX l (k:Int)) 0=some (if (l.Pieces.take k).any (FD l.Pieces[k]) then .inl () else .inr ()):=by
      refine gI (l.Pieces.take k) (gX l (k:Int)) (fun k=>(k:Int)) _ _ _ rfl (fun j y hy=>?_) ?_
      · have hj:=(List.getElem?_eq_some_iff.1 hy).1
        rw [hlt] at hj
        have hy':l.Pieces[j]?=some y:=by rw [List.getElem?_take] at hy;simpa [hj] using hy
        have h4:aM (gW l (k:Int) (j:Int)) 0=some (if FD l.Pieces[k] y then .inl () else .inr ()):=by
          refine gI l.Pieces[k].Rects (gW l (k:Int) (j:Int)) (fun k=>(k:Int)) _ _ _ rfl (fun i r hr=>?_) ?_
          · have hi:=(List.getElem?_eq_some_iff.1 hr).1
            have hkl:=hx _ (List.getElem_mem hk)
            have hyl:=hx y (List.mem_of_getElem? hy')
            unfold gW
            have hd:decide ((i:Int)<(l.Pieces[k].Rects.length:Int))=true:=by rw [decide_eq_true_eq];omega
            simp only [hd,if_true,aP he,aP hy',aP hr,Option.bind_some,Ub r _ (show y.Rects.length≤1000 by omega)]
            rw [aS (a:=(i:Int)) (by omega) (by omega)]
            rfl
          · simp [gW,aP he]
        unfold gX
        have hd:decide ((j:Int)<(k:Int))=true:=by simp;omega
        simp only [hd,if_true,h4,Option.bind_some]
        rw [aS (a:=(j:Int)) (by omega) (by omega)]
        cases FD l.Pieces[k] y <;> rfl
      · rw [hlt];simp [gX]
    unfold gY KZ
    have hd:decide ((k:Int)<(l.Pieces.length:Int))=true:=by simp;omega
    simp only [hd,if_true,he,Option.bind_some,hin]
    rw [aS (a:=(k:Int)) (by omega) (by omega)]
    cases (l.Pieces.take k).any (FD l.Pieces[k]) <;> rfl
  · simp [gY]
theorem NQ (l:LayoutT) (hp:l.Pieces.length≤8) (hs:∀ x ∈ l.Pieces,Sm x):(∃ c,aM (bV l) 0=some (.inl c)∧aM (bR l) 0=some (.inl c))∨(aM (bV l) 0=some (.inr ())∧aM (bR l) 0=some (.inr ())∧∀ x ∈ l.Pieces,x.Rects.length≤12):=by
  have key:∀ (m k:Nat),k+m=l.Pieces.length→(∀ x ∈ l.Pieces.take k,x.Rects.length≤12)→(∃ c,aM (bV l) (k:Int)=some (.inl c)∧aM (bR l) (k:Int)=some (.inl c))∨(aM (bV l) (k:Int)=some (.inr ())∧aM (bR l) (k:Int)=some (.inr ())∧∀ x ∈ l.Pieces,x.Rects.length≤12):=by
    intro m
    induction m with
    | zero =>
      intro k h hb;obtain rfl:k=l.Pieces.length:=by omega
      rw [List.take_length] at hb
      exact .inr ⟨fU (by simp [bV]),fU (by simp [bR]),hb⟩
    | succ m ih =>
      intro k h hb
      have hx:l.Pieces[k]?=some (l.Pieces[k]'(by omega)):=by simp [show k<l.Pieces.length by omega]
      have hd:decide ((k:Int)<(l.Pieces.length:Int))=true:=by simp;omega
      obtain ⟨e,e1,e2,e3⟩:=Tj (hs _ (List.getElem_mem (show k<l.Pieces.length by omega)))
      have i1:aL (k:Int) 1=((k+1:Nat):Int):=by rw [aS (by omega) (by omega)];rfl
      have b2:bR l (k:Int)=if e=0 then some (.inl ((k+1:Nat):Int)) else some (.inr (.inl e)):=by
        unfold bR
        simp only [hd,if_true,aP hx,Option.bind_some,i1]
        exact e3 _
      by_cases he:e=0
      · subst he
        rw [if_pos rfl] at b2
        rw [lQ (s':=((k+1:Nat):Int)),lQ b2]
        · refine ih (k+1) (by omega) fun x hxm=>?_
          rw [List.take_add_one,hx] at hxm
          rcases List.mem_append.1 hxm with h | h
          · exact hb x h
          · simp at h;rw [h];exact e2 rfl
        · unfold bV
          simp only [hd,if_true,aP hx,Option.bind_some,e1,bne_self_eq_false,Bool.false_eq_true,if_false,i1]
      · rw [if_neg he] at b2
        refine .inl ⟨e,fU ?_,fU b2⟩
        have he':(e != 0)=true:=by rw [bne_iff_ne];exact he
        unfold bV
        simp only [hd,if_true,aP hx,Option.bind_some,e1,he']
  exact key l.Pieces.length 0 (by omega) (by simp)
theorem GK (l:LayoutT) (hs:∀ x ∈ l.Pieces,Sm x):∃ b,uV l=some b∧dG l=some b:=by
  obtain ⟨b,b1,b2⟩:=Zb l.Sheet
  unfold uV dG
  rw [b1,b2]
  simp only [Option.bind_some]
  by_cases hb:b=0
  · subst hb
    have sl:=Si b1
    simp only [bne_self_eq_false,Bool.false_eq_true,if_false]
    by_cases h8:(l.Pieces.length:Int)>8
    · exact ⟨4,by simp [h8],by simp [h8]⟩
    have hp:l.Pieces.length≤8:=by omega
    simp only [h8,decide_false,Bool.false_eq_true,if_false]
    rcases NQ l hp hs with ⟨c,c1,c2⟩ | ⟨c1,c2,c3⟩
    · exact ⟨c,by rw [c1];rfl,by rw [c2];rfl⟩
    · simp only [c1,c2,Option.bind_some,ZG l hp c3 sl.1 sl.2,G7 l hp c3 sl.1 sl.2,ZH l hp c3,G8 l hp c3]
      cases l.Pieces.any (fun x=>x.Rects.any (BF l.Sheet)) with
      | true=>exact ⟨13,rfl,rfl⟩
      | false =>
      cases (List.range l.Pieces.length).any (KZ l.Pieces) with
      | true=>exact ⟨7,rfl,rfl⟩
      | false=>exact ⟨0,rfl,rfl⟩
  · have hb':(b != 0)=true:=by rw [bne_iff_ne];exact hb
    exact ⟨b,by simp [hb'],by simp [hb']⟩
end Go.SM
