/- The edges of a layout: both find the same. -/
import Derived.Test.YtgfjbgoehhnaeaaGreatCzIns
import Derived.Test.YtgfjbgoehhnaeaaGreatCzLayF
set_option linter.unusedVariables false
set_option linter.unusedSimpArgs false
set_option linter.unusedSectionVars false
namespace Go.SM
open Go Go.VI Go.Cells
def regs (l:LayoutT):List (List Rect):=l.Pieces.map fun x=>x.Rects
noncomputable def IK (R:List (List Rect)) (xs ys:List Int):List EdgeT:=
  ys.flatMap (fun y=>(sJ (hS R y)).map fun p=>mkE ⟨p.1,y,p.2,y⟩ (lM R p.1 y) (lM R p.1 (y-1)))++xs.flatMap fun x=>(sJ (vS R x)).map fun p=>mkE ⟨x,p.1,x,p.2⟩ (lM R x p.1) (lM R (x-1) p.1)
section
variable {l:LayoutT} (n8:l.Pieces.length≤8) (r12:∀ x ∈ l.Pieces,x.Rects.length≤12) (hv:∀ x ∈ l.Pieces,CE x.Rects)
include n8 r12 hv
theorem D8:CE (regs l).flatten:=fun r hr=>by
  obtain ⟨t,ht,hr⟩:=List.mem_flatten.1 hr
  obtain ⟨x,hx,rfl⟩:=List.mem_map.1 ht
  exact hv x hx r hr
omit hv in
theorem KX:(regs l).flatten.length≤96:=by
  have:∀ p:List Piece,(∀ x ∈ p,x.Rects.length≤12)→(p.map fun x=>x.Rects).flatten.length≤12*p.length:=by
    intro p
    induction p with
    | nil=>intro _;simp
    | cons x p ih =>
      intro h
      have h1:=ih fun y hy=>h y (List.mem_cons_of_mem _ hy)
      have h2:=h x List.mem_cons_self
      simp only [List.map_cons,List.flatten_cons,List.length_append,List.length_cons]
      omega
  have:=this l.Pieces r12
  unfold regs;omega
omit r12 hv in
theorem F9:(regs l).length≤900:=by unfold regs;rw [List.length_map];omega
omit n8 hv in
theorem F8:∀ t ∈ regs l,t.length≤1000:=fun t ht=>by
  obtain ⟨x,hx,rfl⟩:=List.mem_map.1 ht
  have:=r12 x hx;omega
theorem F4 {xs ys:List Int} (gx:Dt xs (xsL (regs l).flatten)) (gy:Dt ys (ysL (regs l).flatten)):Lay (regs l) xs ys:=
  ⟨gx,gy,D8 n8 r12 hv,by have:=KX n8 r12;omega,F9 n8⟩
theorem at_eq (x y:Int):Fv l x y=some (lM (regs l) x y):=by
  unfold Fv
  have h2:=Wp l.Pieces (Qi l x y) (fun p=>cov p.Rects x y) (fun k=>.inl (some (k:Int))) (.inr ()) (fun k p hp=>?s) ?f
  · rw [h2]
    unfold lM Uf Ad regs
    rw [List.findIdx?_map]
    show _=some ((l.Pieces.findIdx? fun p=>cov p.Rects x y).map fun i=>(i:Int))
    cases l.Pieces.findIdx? (fun p=>cov p.Rects x y) <;> rfl
  case s =>
    have h1:=bC hp
    have hpm:=List.mem_of_getElem? hp
    have hl:=r12 p hpm
    have h3:aM (Jv x y p) 0=some (if p.Rects.any (fun r=>inC r x y) then .inl () else .inr ()):=by
      refine AY p.Rects (Jv x y p) (fun r=>inC r x y) (.inr ()) (.inl ()) (fun k r hr=>?_) ?_
      · have h1:=bC hr
        obtain ⟨e1,e2⟩:=GD (hv p hpm r (List.mem_of_getElem? hr))
        unfold Jv
        simp only [h1,Int.ofNat_lt,decide_true,if_true,aP hr,Option.bind_some,e1,e2]
        have hb':(if decide (r.X≤x) then (if decide (x<r.X+r.W) then (if decide (r.Y≤y) then some (decide (y<r.Y+r.H)) else some false) else some false) else some false)=some (inC r x y):=by
          unfold inC
          cases decide (r.X≤x) <;> cases decide (x<r.X+r.W) <;> cases decide (r.Y≤y) <;> simp
        rw [hb',Option.bind_some,aZ k (by omega)]
      · simp [Jv]
    unfold Qi
    simp only [h1,Int.ofNat_lt,decide_true,if_true,aP hp,Option.bind_some,h3,aZ k (by omega)]
    show _=if (p.Rects.any fun r=>inC r x y)=true then _ else _
    cases p.Rects.any (fun r=>inC r x y) <;> rfl
  case f=>simp [Qi]
theorem IC:aM (zR l) (0,[],[])=some (xsL (regs l).flatten,ysL (regs l).flatten):=by
  have hfl:∀ k,k≤l.Pieces.length→(xsL ((l.Pieces.take k).map fun x=>x.Rects).flatten).length≤200∧(ysL ((l.Pieces.take k).map fun x=>x.Rects).flatten).length≤200:=fun k hk=>by
    have:=KX (l:=⟨l.Sheet,l.Pieces.take k⟩) (by simp only [List.length_take];omega) (fun x hx=>r12 x (List.mem_of_mem_take hx))
    unfold regs at this
    simp only at this
    rw [Vr,Vs];omega
  obtain ⟨r,q1,q2⟩:=vP l.Pieces (fun k (s:List Int×List Int)=>((k:Int),s.1,s.2)) (zR l) (fun s=>(s.1,s.2)) (fun k s=>s=(xsL ((l.Pieces.take k).map fun x=>x.Rects).flatten,ysL ((l.Pieces.take k).map fun x=>x.Rects).flatten)) ([],[]) (by simp [xsL,ysL])
    (fun k p s hp hI=>by
      have h1:=bC hp
      have hd:decide ((k:Int)<(l.Pieces.length:Int))=true:=by simp [h1]
      have hpm:=List.mem_of_getElem? hp
      have hl:=r12 p hpm
      have hf:=hfl k (by omega)
      subst hI
      obtain ⟨r,t1,t2⟩:=vP p.Rects (fun k (s:List Int×List Int)=>((k:Int),s.1,s.2)) (Ec p) (fun s=>(s.1,s.2)) (fun j s=>s=(xsL ((l.Pieces.take k).map fun x=>x.Rects).flatten++xsL (p.Rects.take j),ysL ((l.Pieces.take k).map fun x=>x.Rects).flatten++ysL (p.Rects.take j))) (xsL ((l.Pieces.take k).map fun x=>x.Rects).flatten,ysL ((l.Pieces.take k).map fun x=>x.Rects).flatten) (by simp [xsL,ysL])
        (fun j r s hr hI=>by
          have h2:=bC hr
          have hd:decide ((j:Int)<(p.Rects.length:Int))=true:=by simp [h2]
          obtain ⟨e1,e2⟩:=GD (hv p hpm r (List.mem_of_getElem? hr))
          subst hI
          unfold Ec
          simp only [hd,if_true,aP hr,Option.bind_some,e1,e2]
          have l1:(xsL (p.Rects.take j)).length≤200:=by rw [Vr,List.length_take];omega
          have l2:(ysL (p.Rects.take j)).length≤200:=by rw [Vs,List.length_take];omega
          rw [qY (by simp only [List.length_append,List.length_cons,List.length_nil,LIM];omega),qY (by simp only [List.length_append,List.length_cons,List.length_nil,LIM];omega)]
          simp only [Option.bind_some,aZ j (by omega)]
          refine ⟨(xsL ((l.Pieces.take k).map fun x=>x.Rects).flatten++xsL (p.Rects.take (j+1)),ysL ((l.Pieces.take k).map fun x=>x.Rects).flatten++ysL (p.Rects.take (j+1))), ?_,rfl⟩
          rw [nY hr,Tv,Tz]
          simp [xsL,ysL]) (fun s _=>by simp [Ec])
      rw [List.take_length] at t2
      unfold zR
      simp only [hd,if_true,aP hp,Option.bind_some,aZ k (by omega)]
      rw [show ((0:Int),xsL ((l.Pieces.take k).map fun x=>x.Rects).flatten,ysL ((l.Pieces.take k).map fun x=>x.Rects).flatten)=(((0:Nat):Int),xsL ((l.Pieces.take k).map fun x=>x.Rects).flatten,ysL ((l.Pieces.take k).map fun x=>x.Rects).flatten) from rfl,t1,t2]
      refine ⟨(xsL ((l.Pieces.take (k+1)).map fun x=>x.Rects).flatten,ysL ((l.Pieces.take (k+1)).map fun x=>x.Rects).flatten), ?_,rfl⟩
      rw [nY hp,List.map_append,List.flatten_append,Tv,Tz]
      simp) (fun s _=>by simp [zR])
  rw [List.take_length] at q2
  rw [show ((0:Int),([]:List Int),([]:List Int))=(((0:Nat):Int),(([],[]):List Int×List Int).1,(([],[]):List Int×List Int).2) from rfl,q1,q2]
  rfl
theorem TM:∃ xs ys,Lay (regs l) xs ys∧Jz l=some (IK (regs l) xs ys)∧(IK (regs l) xs ys).length≤200000:=by
  have hn:=KX n8 r12
  obtain ⟨xs,x1,x2,x3⟩:=WF (l:=xsL (regs l).flatten) (by rw [Vr];omega)
  obtain ⟨ys,y1,y2,y3⟩:=WF (l:=ysL (regs l).flatten) (by rw [Vs];omega)
  have hL:=F4 n8 r12 hv ⟨x2,x3⟩ ⟨y2,y3⟩
  have lx:xs.length≤200:=by have:=yM x2 fun x m=>(x3 x).1 m;rw [Vr] at this;omega
  have ly:ys.length≤200:=by have:=yM y2 fun x m=>(y3 x).1 m;rw [Vs] at this;omega
  have rowH:∀ y,(-1048576≤y∧y≤1048576)→∃ L,fJ xs l.Sheet.Name l.Sheet.Material l.Sheet.Gauge l.Sheet.Grain l.Sheet.Width l.Sheet.Height l.Sheet.Clamps l.Sheet.Used l.Pieces y y=some ((sJ (hS (regs l) y)).map fun p=>mkE ⟨p.1,y,p.2,y⟩ (lM (regs l) p.1 y) (lM (regs l) p.1 (y-1)))∧L=sJ (hS (regs l) y)∧L.length≤xs.length:=fun y hy=>by
    have hA:=I6 hL y
    obtain ⟨L,g1,g2,g3⟩:=YY hA (side:=fun i=>Ic i l.Sheet.Name l.Sheet.Material l.Sheet.Gauge l.Sheet.Grain l.Sheet.Width l.Sheet.Height l.Sheet.Clamps l.Sheet.Used l.Pieces y) (fun i x hx _=>by
      show (Fv l x y).bind (fun r5=>(Fv l x (aJ y 1)).bind fun r6=>some (r5,r6))=_
      rw [aY (by omega) (by omega),at_eq n8 r12 hv,at_eq n8 r12 hv];rfl) (line:=fun a b=>Ie a b y) (ln:=fun a b=>⟨a,y,b,y⟩) (fun a b=>rfl)
    have e:sJ (hS (regs l) y)=L:=Vn g2
    exact ⟨L,by rw [OW,g1,e],e.symm,g3⟩
  have rowV:∀ x,(-1048576≤x∧x≤1048576)→∃ L,fK ys l.Sheet.Name l.Sheet.Material l.Sheet.Gauge l.Sheet.Grain l.Sheet.Width l.Sheet.Height l.Sheet.Clamps l.Sheet.Used l.Pieces x x=some ((sJ (vS (regs l) x)).map fun p=>mkE ⟨x,p.1,x,p.2⟩ (lM (regs l) x p.1) (lM (regs l) (x-1) p.1))∧L=sJ (vS (regs l) x)∧L.length≤ys.length:=fun x hx=>by
    have hA:=I7 hL x
    obtain ⟨L,g1,g2,g3⟩:=YY hA (side:=fun i=>Ig i l.Sheet.Name l.Sheet.Material l.Sheet.Gauge l.Sheet.Grain l.Sheet.Width l.Sheet.Height l.Sheet.Clamps l.Sheet.Used l.Pieces x) (fun i y hy _=>by
      show (Fv l x y).bind (fun r5=>(Fv l (aJ x 1) y).bind fun r6=>some (r5,r6))=_
      rw [aY (by omega) (by omega),at_eq n8 r12 hv,at_eq n8 r12 hv];rfl) (line:=fun a b=>Ih a b x) (ln:=fun a b=>⟨x,a,x,b⟩) (fun a b=>rfl)
    have e:sJ (vS (regs l) x)=L:=Vn g2
    exact ⟨L,by rw [OX,g1,e],e.symm,g3⟩
  obtain ⟨r,q1,q2,q3⟩:=vP ys (fun k (s:List EdgeT)=>((k:Int),s)) (Ed l xs ys) (fun s=>s) (fun k s=>s=(ys.take k).flatMap (fun y=>(sJ (hS (regs l) y)).map fun p=>mkE ⟨p.1,y,p.2,y⟩ (lM (regs l) p.1 y) (lM (regs l) p.1 (y-1)))∧s.length≤200*k) [] ⟨rfl,by simp⟩
    (fun k y s hy hI=>by
      have hk:=bC hy
      have hd:decide ((k:Int)<(ys.length:Int))=true:=by simp [hk]
      obtain ⟨L,g1,g2,g3⟩:=rowH y (hL.Y.within y (List.mem_of_getElem? hy))
      have hrl:((sJ (hS (regs l) y)).map fun p=>mkE ⟨p.1,y,p.2,y⟩ (lM (regs l) p.1 y) (lM (regs l) p.1 (y-1))).length≤200:=by rw [List.length_map,← g2];omega
      have hsl:=hI.2
      unfold Ed
      simp only [hd,if_true,aP hy,Option.bind_some,g1,aZ k (by omega)]
      rw [qY (by unfold LIM;omega)]
      refine ⟨_,rfl, ?_,by rw [List.length_append];omega⟩
      rw [nY hy,List.flatMap_append,hI.1]
      simp) (fun s _=>by simp [Ed])
  rw [List.take_length] at q2
  obtain ⟨r',t1,t2,t3⟩:=vP xs (fun k (s:List EdgeT)=>((k:Int),s)) (Ee l xs ys) (fun s=>s) (fun k s=>s=r++(xs.take k).flatMap (fun x=>(sJ (vS (regs l) x)).map fun p=>mkE ⟨x,p.1,x,p.2⟩ (lM (regs l) x p.1) (lM (regs l) (x-1) p.1))∧s.length≤40000+200*k) r ⟨by simp,by omega⟩
    (fun k x s hx hI=>by
      have hk:=bC hx
      have hd:decide ((k:Int)<(xs.length:Int))=true:=by simp [hk]
      obtain ⟨L,g1,g2,g3⟩:=rowV x (hL.X.within x (List.mem_of_getElem? hx))
      have hrl:((sJ (vS (regs l) x)).map fun p=>mkE ⟨x,p.1,x,p.2⟩ (lM (regs l) x p.1) (lM (regs l) (x-1) p.1)).length≤200:=by rw [List.length_map,← g2];omega
      have hsl:=hI.2
      unfold Ee
      simp only [hd,if_true,aP hx,Option.bind_some,g1,aZ k (by omega)]
      rw [qY (by unfold LIM;omega)]
      refine ⟨_,rfl, ?_,by rw [List.length_append];omega⟩
      rw [nY hx,List.flatMap_append,hI.1]
      simp) (fun s _=>by simp [Ee])
  rw [List.take_length] at t2
  have e:r'=IK (regs l) xs ys:=by rw [t2,q2];rfl
  refine ⟨xs,ys,hL, ?_,by rw [← e];omega⟩
  unfold Jz
  rw [IC n8 r12 hv]
  simp only [Option.bind_some,x1,y1]
  rw [show ((0:Int),([]:List EdgeT))=(((0:Nat):Int),[]) from rfl,q1]
  simp only [Option.bind_some]
  rw [show ((0:Int),r)=(((0:Nat):Int),r) from rfl,t1,e]
  rfl
end
end Go.SM
