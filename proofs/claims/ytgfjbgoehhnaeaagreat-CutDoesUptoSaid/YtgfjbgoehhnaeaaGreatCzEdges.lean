/- The edges of a layout: both find the same. The law CutEdges, on the models. -/
import Derived.Test.YtgfjbgoehhnaeaaGreatCzEdge1
import Derived.Test.YtgfjbgoehhnaeaaGreatCzKG
set_option linter.unusedVariables false
set_option linter.unusedSimpArgs false
set_option linter.unusedSectionVars false
namespace Go.SM
open Go Go.VI Go.Cells
noncomputable def Lc (R:List (List Rect)) (xs ys:List Int):List Ln:=
  ys.flatMap (fun y=>(sJ (hS R y)).map fun p=>⟨⟨p.1,y,p.2,y⟩,nm (lM R p.1 (y-1)),nm (lM R p.1 y)⟩)++xs.flatMap fun x=>(sJ (vS R x)).map fun p=>⟨⟨x,p.1,x,p.2⟩,nm (lM R (x-1) p.1),nm (lM R x p.1)⟩
section
variable {R:List (List Rect)} {xs ys:List Int} (h:Lay R xs ys) (hk:∀ t ∈ R,t.length≤1000) (lx:xs.length≤1000) (ly:ys.length≤1000)
include h
theorem TD {i j:Nat} {x y:Int} (hx:xs[i]?=some x) (hi:i+1<xs.length) (hy:ys[j]?=some y):cellV R xs ys (i+1) (j+1)=nm (lM R x y)∧cellV R xs ys (i+1) j=nm (lM R x (y-1)):=by
  obtain ⟨_,_,_,o1,o2,_⟩:=Yo h
  have hjl:=bC hy
  have neg:∀ {x y:Int},Ad R x y=none→nm (lM R x y)=-1:=fun {x y} e=>by rw [vZ e];rfl
  constructor
  · unfold cellV
    by_cases hj:j+1<ys.length
    · rw [if_pos ⟨by omega,by omega,hi,hj⟩]
      simp only [Nat.add_sub_cancel,Da hx,Da hy,FO]
    · rw [if_neg (by omega),neg (o2 y (by rw [show ys.length-1=j by omega];exact hy) x y (Int.le_refl y))]
  · unfold cellV
    by_cases hj:0<j
    · rw [if_pos ⟨by omega,hj,hi,hjl⟩]
      obtain ⟨y0,hy0⟩:∃ y0,ys[j-1]?=some y0:=⟨_,List.getElem?_eq_getElem (by omega)⟩
      obtain ⟨h1,h2⟩:=Bj (NS h) hy0 (by rw [show j-1+1=j by omega];exact hy)
      simp only [Nat.add_sub_cancel,Da hx,Da hy0]
      rw [← FO]
      have:=congrFun (h2 (y-1) (by omega) (by omega)) x
      unfold lM
      rw [this]
    · obtain rfl:j=0:=by omega
      rw [if_neg (by omega),neg (o1 y hy x (y-1) (by omega))]
theorem PL {i j:Nat} {x y:Int} (hx:xs[i]?=some x) (hy:ys[j]?=some y) (hj:j+1<ys.length):cellV R xs ys (i+1) (j+1)=nm (lM R x y)∧cellV R xs ys i (j+1)=nm (lM R (x-1) y):=by
  obtain ⟨o1,o2,_⟩:=Yo h
  have hil:=bC hx
  have neg:∀ {x y:Int},Ad R x y=none→nm (lM R x y)=-1:=fun {x y} e=>by rw [vZ e];rfl
  constructor
  · unfold cellV
    by_cases hi:i+1<xs.length
    · rw [if_pos ⟨by omega,by omega,hi,hj⟩]
      simp only [Nat.add_sub_cancel,Da hx,Da hy,FO]
    · rw [if_neg (by omega),neg (o2 x (by rw [show xs.length-1=i by omega];exact hx) x y (Int.le_refl x))]
  · unfold cellV
    by_cases hi:0<i
    · rw [if_pos ⟨hi,by omega,hil,hj⟩]
      obtain ⟨x0,hx0⟩:∃ x0,xs[i-1]?=some x0:=⟨_,List.getElem?_eq_getElem (by omega)⟩
      obtain ⟨h1,h2⟩:=Bj (NR h) hx0 (by rw [show i-1+1=i by omega];exact hx)
      simp only [Nat.add_sub_cancel,Da hy,Da hx0]
      rw [← FO]
      have:=congrFun (h2 (x-1) (by omega) (by omega)) y
      unfold lM
      rw [this]
    · obtain rfl:i=0:=by omega
      rw [if_neg (by omega),neg (o1 x hx (x-1) y (by omega))]
include lx ly
theorem YK {j:Nat} {y:Int} (hy:ys[j]?=some y) (s:List Ln) {out0:List Ln} (h0:out0.length≤5000000) (hout:∀ q ∈ out0,q.At.Y2<y) :
    aM (iL (xs,ys) (Jr R xs ys) ((j:Int),s)) (0,out0)=some (out0++(sJ (hS R y)).map fun p=>⟨⟨p.1,y,p.2,y⟩,nm (lM R p.1 (y-1)),nm (lM R p.1 y)⟩)∧(sJ (hS R y)).length≤xs.length:=by
  have hjl:=bC hy
  obtain ⟨L,g1,g2,g3⟩:=VW (I6 h y) (ln:=fun a b=>⟨a,y,b,y⟩) (body:=iL (xs,ys) (Jr R xs ys) ((j:Int),s)) (fun k x x' out hx hx'=>by
      have hkl:=bC hx'
      obtain ⟨c1,c2⟩:=TD h hx hkl hy
      have d:decide (((k+1:Nat):Int)<(xs.length:Int))=true:=by simp;omega
      have g0:=Qg (R:=R) xs ys (k+1) (by omega)
      have r1:=Js (R:=R) xs ys (k+1) j (by omega)
      have r2:=Js (R:=R) xs ys (k+1) (j+1) (by omega)
      unfold iL
      simp only [aZ k (by omega),aZ j (by omega),d,if_true,aP hx,aP hy,aP hx',aP g0,aP r1,aP r2,Option.bind_some,c1,c2]) (fun k out hk1 hk2=>by
      have d:decide (aL (k:Int) 1<(xs.length:Int))=false:=by rw [aZ k (by omega)];simp;omega
      unfold iL
      simp only [d,Bool.false_eq_true,if_false]) (fun a b e e'=>by unfold cS;simp) (fun a e e'=>rfl) h0 (fun q hq x x' _ hc=>by have:=hout q hq;have:=hc.2.1;simp only at this;omega)
  have e:sJ (hS R y)=L:=Vn g2
  rw [e];exact ⟨g1,g3⟩
theorem YL {i:Nat} {x:Int} (hx:xs[i]?=some x) (s:List Ln) {out0:List Ln} (h0:out0.length≤5000000) (hout:∀ q ∈ out0,(q.At.X2<x)∨(q.At.Y1=q.At.Y2∧q.At.X1<q.At.X2)) :
    aM (iN (xs,ys) (Jr R xs ys) ((i:Int),s)) (0,out0)=some (out0++(sJ (vS R x)).map fun p=>⟨⟨x,p.1,x,p.2⟩,nm (lM R (x-1) p.1),nm (lM R x p.1)⟩)∧(sJ (vS R x)).length≤ys.length:=by
  have hil:=bC hx
  obtain ⟨L,g1,g2,g3⟩:=VW (I7 h x) (ln:=fun a b=>⟨x,a,x,b⟩) (body:=iN (xs,ys) (Jr R xs ys) ((i:Int),s)) (fun k y y' out hy hy'=>by
      have hkl:=bC hy'
      obtain ⟨c1,c2⟩:=PL h hx hy hkl
      have d:decide (((k+1:Nat):Int)<(ys.length:Int))=true:=by simp;omega
      have g0:=Qg (R:=R) xs ys i (by omega)
      have g0':=Qg (R:=R) xs ys (i+1) (by omega)
      have r1:=Js (R:=R) xs ys i (k+1) (by omega)
      have r2:=Js (R:=R) xs ys (i+1) (k+1) (by omega)
      unfold iN
      simp only [aZ k (by omega),aZ i (by omega),d,if_true,aP hx,aP hy,aP hy',aP g0,aP g0',aP r1,aP r2,Option.bind_some,c1,c2]) (fun k out hk1 hk2=>by
      have d:decide (aL (k:Int) 1<(ys.length:Int))=false:=by rw [aZ k (by omega)];simp;omega
      unfold iN
      simp only [d,Bool.false_eq_true,if_false]) (fun a b e e'=>by unfold cS;simp) (fun a e e'=>rfl) h0 (fun q hq y y' hyy hc=>by
      obtain ⟨c1,c2,c3⟩:=hc
      simp only at c1 c2 c3
      have:=hout q hq
      omega)
  have e:sJ (vS R x)=L:=Vn g2
  rw [e];exact ⟨g1,g3⟩
theorem CG:∃ r,aM (iM (xs,ys) (Jr R xs ys)) (0,[])=some r∧aM (iO (xs,ys) (Jr R xs ys)) (0,r)=some (Lc R xs ys)∧(Lc R xs ys).length≤2000000:=by
  have isr:∀ {s:Int→Int} {p:Int×Int},p ∈ sJ s→p.1<p.2:=fun {s p} hp=>by
    unfold sJ at hp
    split at hp
    · rename_i hx
      exact (((Classical.choose_spec hx).2 p.1 p.2).1 hp).1
    · cases hp
  obtain ⟨r,q1,q2,q3,q4⟩:=vP ys (fun k (s:List Ln)=>((k:Int),s)) (iM (xs,ys) (Jr R xs ys)) (fun s=>s) (fun k s=>s=(ys.take k).flatMap (fun y=>(sJ (hS R y)).map fun p=>⟨⟨p.1,y,p.2,y⟩,nm (lM R p.1 (y-1)),nm (lM R p.1 y)⟩)∧s.length≤1000*k∧∀ q ∈ s,q.At.Y1=q.At.Y2∧q.At.X1<q.At.X2∧q.At.Y2 ∈ ys.take k) [] ⟨rfl,by simp,fun q hq=>by cases hq⟩
    (fun k y s hy hI=>by
      have hk:=bC hy
      have hd:decide ((k:Int)<(ys.length:Int))=true:=by simp [hk]
      obtain ⟨i1,i2,i3⟩:=hI
      obtain ⟨g1,g2⟩:=YK h lx ly hy s (out0:=s) (by omega) (fun q hq=>by
        obtain ⟨_,_,hm⟩:=i3 q hq
        obtain ⟨n,hn⟩:=List.mem_iff_getElem?.1 hm
        have hnl:=bC hn
        rw [List.length_take] at hnl
        rw [List.getElem?_take,if_pos (by omega)] at hn
        exact Uc h.Y.asc (show n<k by omega) hn hy)
      unfold iM
      simp only [hd,if_true,g1,Option.bind_some,aZ k (by omega)]
      refine ⟨_,rfl, ?_,by simp;omega,fun q hq=>?_⟩
      · rw [nY hy,List.flatMap_append,i1]
        simp
      · rw [nY hy]
        rcases List.mem_append.1 hq with hq | hq
        · obtain ⟨a,b,c⟩:=i3 q hq
          exact ⟨a,b,List.mem_append_left _ c⟩
        · obtain ⟨p,hp,rfl⟩:=List.mem_map.1 hq
          exact ⟨rfl,isr hp,List.mem_append_right _ (by simp)⟩) (fun s _=>by simp [iM])
  rw [List.take_length] at q2 q4
  obtain ⟨r',t1,t2,t3,t4⟩:=vP xs (fun k (s:List Ln)=>((k:Int),s)) (iO (xs,ys) (Jr R xs ys)) (fun s=>s) (fun k s=>s=r++(xs.take k).flatMap (fun x=>(sJ (vS R x)).map fun p=>⟨⟨x,p.1,x,p.2⟩,nm (lM R (x-1) p.1),nm (lM R x p.1)⟩)∧s.length≤1000000+1000*k∧∀ q ∈ s,q.At.X2 ∈ xs.take k∨(q.At.Y1=q.At.Y2∧q.At.X1<q.At.X2)) r ⟨by simp,by omega,fun q hq=>.inr ⟨(q4 q hq).1,(q4 q hq).2.1⟩⟩
    (fun k x s hx hI=>by
      have hk:=bC hx
      have hd:decide ((k:Int)<(xs.length:Int))=true:=by simp [hk]
      obtain ⟨i1,i2,i3⟩:=hI
      obtain ⟨g1,g2⟩:=YL h lx ly hx s (out0:=s) (by omega) (fun q hq=>by
        rcases i3 q hq with hm | hm
        · left
          obtain ⟨n,hn⟩:=List.mem_iff_getElem?.1 hm
          have hnl:=bC hn
          rw [List.length_take] at hnl
          rw [List.getElem?_take,if_pos (by omega)] at hn
          exact Uc h.X.asc (show n<k by omega) hn hx
        · exact .inr hm)
      unfold iO
      simp only [hd,if_true,g1,Option.bind_some,aZ k (by omega)]
      refine ⟨_,rfl, ?_,by simp;omega,fun q hq=>?_⟩
      · rw [nY hx,List.flatMap_append,i1]
        simp
      · rw [nY hx]
        rcases List.mem_append.1 hq with hq | hq
        · exact (i3 q hq).imp (fun c=>List.mem_append_left _ c) id
        · obtain ⟨p,hp,rfl⟩:=List.mem_map.1 hq
          exact .inl (List.mem_append_right _ (by simp))) (fun s _=>by simp [iO])
  rw [List.take_length] at t2
  have e:r'=Lc R xs ys:=by rw [t2,q2];rfl
  exact ⟨r,by rw [show ((0:Int),([]:List Ln))=(((0:Nat):Int),[]) from rfl,q1],by rw [show ((0:Int),r)=(((0:Nat):Int),r) from rfl,t1,e],by rw [← e];omega⟩
end
theorem KJ {R:List (List Rect)} {xs ys:List Int} (h:Lay R xs ys) (hk:∀ t ∈ R,t.length≤1000):kE R=some (Lc R xs ys)∧(Lc R xs ys).length≤2000000:=by
  have hm:=h.m
  have hn:=h.n
  have hfl:∀ k,(R.take k).flatten.length≤R.flatten.length:=fun k=>by
    conv=>rhs;rw [← List.take_append_drop k R,List.flatten_append,List.length_append]
    omega
  obtain ⟨r,q1,q2⟩:=vP R (fun k (s:List Rect)=>((k:Int),s)) (lD R) (fun s=>s) (fun k s=>s=(R.take k).flatten) [] (by simp)
    (fun k t s ht hI=>by
      have h1:=bC ht
      have hd:decide ((k:Int)<(R.length:Int))=true:=by simp [h1]
      have:=hfl k
      have:=hk t (List.mem_of_getElem? ht)
      unfold lD
      simp only [hd,if_true,aP ht,Option.bind_some,aZ k (by omega)]
      subst hI
      rw [qY (by unfold LIM;omega)]
      refine ⟨_,rfl, ?_⟩
      rw [nY ht,List.flatten_append];simp) (fun s _=>by simp [lD])
  rw [List.take_length] at q2
  obtain ⟨xs1,ys1,g1,g2,g3⟩:=WR h.v hn
  obtain rfl:=Xj h.x g2
  obtain rfl:=Xj h.y g3
  obtain ⟨r',b1,b2,b3⟩:=CG h h.X.len h.Y.len
  refine ⟨?_,b3⟩
  unfold kE
  rw [show ((0:Int),([]:List Rect))=(((0:Nat):Int),[]) from rfl,q1,q2]
  simp only [Option.bind_some,g1,QH h.v hm hk h.X.len h.Y.len,b1,b2]
theorem PR (s:Segment) {a b:Option Int} (ha:SmO a) (hb:SmO b) (hne:a≠b):(if mY (nm b) (nm a)<0 then (⟨s,eU (nm b) (nm a),mY (nm b) (nm a)⟩:EdgeT) else ⟨s,mY (nm b) (nm a),eU (nm b) (nm a)⟩)=mkE s a b:=by
  have h1:mkE s a b=if nm a<0∨(nm b ≥ 0∧nm b<nm a) then ⟨s,nm b,nm a⟩ else ⟨s,nm a,nm b⟩:=rfl
  have hne':nm a≠nm b:=fun q=>hne ((FN ha hb).1 q)
  have bd:∀ {o:Option Int},SmO o→-1≤nm o:=fun {o} ho=>by
    cases o with
    | none=>simp [nm]
    | some i=>have:=ho i rfl;simp only [nm];omega
  have ba:=bd ha
  have bb:=bd hb
  rw [h1,Ei,Uw]
  generalize nm a=p at *
  generalize nm b=q at *
  by_cases c1:p<0
  · rw [if_pos (by omega),if_pos (.inl c1),show max q p=q by omega,show min q p=p by omega]
  · by_cases c2:q<0
    · rw [if_pos (by omega),if_neg (by omega),show max q p=p by omega,show min q p=q by omega]
    · rw [if_neg (by omega)]
      by_cases c3:q<p
      · rw [if_pos (.inr ⟨by omega,c3⟩),show max q p=p by omega,show min q p=q by omega]
      · rw [if_neg (by omega),show max q p=q by omega,show min q p=p by omega]
section
variable {l:LayoutT} (n8:l.Pieces.length≤8) (r12:∀ x ∈ l.Pieces,x.Rects.length≤12) (hv:∀ x ∈ l.Pieces,CE x.Rects)
include n8 r12 hv
theorem QV {xs ys:List Int} (hL:Lay (regs l) xs ys):fE l=some (IK (regs l) xs ys):=by
  obtain ⟨r,q1,q2⟩:=vP l.Pieces (fun k (s:List (List Rect))=>((k:Int),s)) (nL l) (fun s=>s) (fun k s=>s=(l.Pieces.take k).map fun x=>x.Rects) [] (by simp)
    (fun k x s hx hI=>by
      have h1:=bC hx
      have hd:decide ((k:Int)<(l.Pieces.length:Int))=true:=by simp [h1]
      unfold nL
      simp only [hd,if_true,aP hx,Option.bind_some,aZ k (by omega)]
      subst hI
      rw [qY (by simp [LIM];omega)]
      refine ⟨_,rfl, ?_⟩
      rw [nY hx,List.map_append];rfl) (fun s _=>by simp [nL])
  rw [List.take_length] at q2
  obtain ⟨b1,b2⟩:=KJ hL (F8 r12)
  -- from lines to edges
  let f:Ln→EdgeT:=fun x=>if mY x.Low x.High<0 then ⟨x.At,eU x.Low x.High,mY x.Low x.High⟩ else ⟨x.At,mY x.Low x.High,eU x.Low x.High⟩
  have hmap:(Lc (regs l) xs ys).map f=IK (regs l) xs ys:=by
    have key:∀ {s:Int→Int} {A B:Int→Option Int} (ln:Int→Int→Segment) (hs:s=fun z=>cod (A z) (B z)) (ha:∀ z,SmO (A z)) (hb:∀ z,SmO (B z)),((sJ s).map fun p=>(⟨ln p.1 p.2,nm (B p.1),nm (A p.1)⟩:Ln)).map f=(sJ s).map fun p=>mkE (ln p.1 p.2) (A p.1) (B p.1):=fun {s A B} ln hs ha hb=>by
      rw [List.map_map]
      refine List.map_congr_left fun p hp=>?_
      have hr:s p.1≠0:=by
        unfold sJ at hp
        split at hp
        · rename_i hx
          exact (((Classical.choose_spec hx).2 p.1 p.2).1 hp).2.1
        · cases hp
      have hne:A p.1≠B p.1:=fun q=>hr (by rw [hs];simp only;rw [(HZ (ha _) (hb _)).2 q])
      exact PR _ (ha _) (hb _) hne
    unfold Lc IK
    rw [List.map_append,List.map_flatMap,List.map_flatMap]
    congr 1
    · congr 1;funext y
      exact key (fun a b=>⟨a,y,b,y⟩) (A:=fun z=>lM (regs l) z y) (B:=fun z=>lM (regs l) z (y-1)) rfl (fun z=>Io hL.m _ _) (fun z=>Io hL.m _ _)
    · congr 1;funext x
      exact key (fun a b=>⟨x,a,x,b⟩) (A:=fun z=>lM (regs l) x z) (B:=fun z=>lM (regs l) (x-1) z) rfl (fun z=>Io hL.m _ _) (fun z=>Io hL.m _ _)
  obtain ⟨r',t1,t2⟩:=vP (Lc (regs l) xs ys) (fun k (s:List EdgeT)=>((k:Int),s)) (nM (Lc (regs l) xs ys)) (fun s=>s) (fun k s=>s=((Lc (regs l) xs ys).take k).map f) [] (by simp)
    (fun k x s hx hI=>by
      have h1:=bC hx
      have hd:decide ((k:Int)<((Lc (regs l) xs ys).length:Int))=true:=by rw [decide_eq_true_eq];omega
      unfold nM
      simp only [hd,if_true,aP hx,Option.bind_some,nK,aZ k (by omega)]
      subst hI
      have hl:(((Lc (regs l) xs ys).take k).map f).length≤2000000:=by rw [List.length_map,List.length_take];omega
      rw [qY (by simp only [List.length_cons,List.length_nil,LIM];omega),qY (by simp only [List.length_cons,List.length_nil,LIM];omega)]
      simp only [Option.bind_some]
      refine ⟨((Lc (regs l) xs ys).take k).map f++[f x], ?_,by rw [nY hx,List.map_append];rfl⟩
      show _=some (Sum.inl (((k+1:Nat):Int),_++[if mY x.Low x.High<0 then _ else _]))
      by_cases hc:mY x.Low x.High<0
      · simp only [hc,decide_true,if_true]
      · simp only [hc,decide_false,Bool.false_eq_true,if_false]) (fun s _=>by simp [nM])
  rw [List.take_length,hmap] at t2
  unfold fE
  rw [show ((0:Int),([]:List (List Rect)))=(((0:Nat):Int),[]) from rfl,q1,q2]
  show (kE (regs l)).bind _=_
  simp only [b1,Option.bind_some]
  rw [show ((0:Int),([]:List EdgeT))=(((0:Nat):Int),[]) from rfl,t1,t2]
  rfl
end
theorem LV.hv {l:LayoutT} (h:LV l):∀ x ∈ l.Pieces,CE x.Rects:=fun x hx r hr=>(h.off x hx r hr).1.1
theorem N9 {l:LayoutT} (h:Az l):∀ x ∈ l.Pieces,Sm x:=fun x hx=>by
  obtain ⟨_,_,_,_,r1,r2,r3⟩:=h.2.2 x hx
  exact ⟨⟨r1.1,fun r hr=>r1.2 r hr⟩,⟨r2.1,fun r hr=>r2.2 r hr⟩,⟨r3.1,fun r hr=>r3.2 r hr⟩⟩
theorem Yx (l:LayoutT) (h:Az l):∃ es b,uV l=some b∧dG l=some b∧Bd l=some (es,b)∧Au l=some (es,b)∧es.length≤200000∧(b≠0→es=[])∧(b=0→LV l∧Jz l=some es∧fE l=some es∧∃ xs ys,Lay (regs l) xs ys∧es=IK (regs l) xs ys):=by
  obtain ⟨b,b1,b2,b3⟩:=EN l (N9 h)
  unfold Bd Au
  rw [b1,b2]
  simp only [Option.bind_some]
  by_cases hb:b=0
  · subst hb
    have hl:=b3 rfl
    obtain ⟨xs,ys,h1,h2,h3⟩:=TM hl.n hl.r12 hl.hv
    have h4:=QV hl.n hl.r12 hl.hv h1
    refine ⟨IK (regs l) xs ys,0,rfl,rfl, ?_, ?_,h3,fun q=>absurd rfl q,fun _=>⟨hl,h2,h4,xs,ys,h1,rfl⟩⟩
    · simp [h2]
    · simp [h4]
  · have hb':(b != 0)=true:=by rw [bne_iff_ne];exact hb
    exact ⟨[],b,rfl,rfl,by simp [hb'],by simp [hb'],by simp,fun _=>rfl,fun q=>absurd q hb⟩
end Go.SM
