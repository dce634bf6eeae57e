/- The edges of a layout: both find the same. -/
import Derived.Test.YtgfjbgoehhnaeaaGreatCzIns
import Derived.Test.YtgfjbgoehhnaeaaGreatCzLayF
set_option linter.unusedVariables false
set_option linter.unusedSimpArgs false
set_option linter.unusedSectionVars false
namespace Go.SM
open Go Go.VI Go.Cells
def regs (l : LayoutT) : List (List Rect):=l.Pieces.map fun x=>x.Rects
noncomputable def edgG (R : List (List Rect)) (xs ys : List Int) : List EdgeT:=
  ys.flatMap (fun y=>(runsL (hS R y)).map fun p=>mkE ⟨p.1,y,p.2,y⟩ (labO R p.1 y) (labO R p.1 (y - 1)))++xs.flatMap fun x=>(runsL (vS R x)).map fun p=>mkE ⟨x,p.1,x,p.2⟩ (labO R x p.1) (labO R (x - 1) p.1)
section
variable {l : LayoutT} (n8 : l.Pieces.length≤8) (r12 : ∀ x ∈ l.Pieces,x.Rects.length≤12) (hv : ∀ x ∈ l.Pieces,AllV x.Rects)
include n8 r12 hv
theorem flat_v : AllV (regs l).flatten:=fun r hr=>by
  obtain ⟨t,ht,hr⟩:=List.mem_flatten.1 hr
  obtain ⟨x,hx,rfl⟩:=List.mem_map.1 ht
  exact hv x hx r hr
omit hv in
theorem flat_n : (regs l).flatten.length≤96:=by
  have : ∀ p : List Piece,(∀ x ∈ p,x.Rects.length≤12)→(p.map fun x=>x.Rects).flatten.length≤12 * p.length:=by
    intro p
    induction p with
    | nil=>intro _; simp
    | cons x p ih =>
      intro h
      have h1:=ih fun y hy=>h y (List.mem_cons_of_mem _ hy)
      have h2:=h x List.mem_cons_self
      simp only [List.map_cons,List.flatten_cons,List.length_append,List.length_cons]
      omega
  have:=this l.Pieces r12
  unfold regs; omega
omit r12 hv in
theorem regs_m : (regs l).length≤900:=by unfold regs; rw [List.length_map]; omega
omit n8 hv in
theorem regs_k : ∀ t ∈ regs l,t.length≤1000:=fun t ht=>by
  obtain ⟨x,hx,rfl⟩:=List.mem_map.1 ht
  have:=r12 x hx; omega
theorem lay_of {xs ys : List Int} (gx : IsGrid xs (xsL (regs l).flatten)) (gy : IsGrid ys (ysL (regs l).flatten)) : Lay (regs l) xs ys:=
  ⟨gx,gy,flat_v n8 r12 hv,by have:=flat_n n8 r12; omega,regs_m n8⟩
theorem at_eq (x y : Int) : cut_at l x y=some (labO (regs l) x y):=by
  unfold cut_at
  have h2:=loop_find l.Pieces (cut_at_l2 l x y) (fun p=>cov p.Rects x y) (fun k=>.inl (some (k : Int))) (.inr ()) (fun k p hp=>?s) ?f
  · rw [h2]
    unfold labO castO labN regs
    rw [List.findIdx?_map]
    show _=some ((l.Pieces.findIdx? fun p=>cov p.Rects x y).map fun i=>(i : Int))
    cases l.Pieces.findIdx? (fun p=>cov p.Rects x y) <;> rfl
  case s =>
    have h1:=lt_of_get hp
    have hpm:=List.mem_of_getElem? hp
    have hl:=r12 p hpm
    have h3 : loopT (cut_at_l1 x y p) 0=some (if p.Rects.any (fun r=>inC r x y) then .inl () else .inr ()):=by
      refine loop_any p.Rects (cut_at_l1 x y p) (fun r=>inC r x y) (.inr ()) (.inl ()) (fun k r hr=>?_) ?_
      · have h1:=lt_of_get hr
        obtain ⟨e1,e2⟩:=vR_add (hv p hpm r (List.mem_of_getElem? hr))
        unfold cut_at_l1
        simp only [h1,Int.ofNat_lt,decide_true,if_true,idx_of hr,Option.bind_some,e1,e2]
        have hb' : (if decide (r.X≤x) then (if decide (x < r.X+r.W) then (if decide (r.Y≤y) then some (decide (y < r.Y+r.H)) else some false) else some false) else some false)=some (inC r x y):=by
          unfold inC
          cases decide (r.X≤x) <;> cases decide (x < r.X+r.W) <;> cases decide (r.Y≤y) <;> simp
        rw [hb',Option.bind_some,succ_cast k (by omega)]
      · simp [cut_at_l1]
    unfold cut_at_l2
    simp only [h1,Int.ofNat_lt,decide_true,if_true,idx_of hp,Option.bind_some,h3,succ_cast k (by omega)]
    show _=if (p.Rects.any fun r=>inC r x y)=true then _ else _
    cases p.Rects.any (fun r=>inC r x y) <;> rfl
  case f=>simp [cut_at_l2]
theorem coords_loop : loopT (cut_edges_l2 l) (0,[],[])=some (xsL (regs l).flatten,ysL (regs l).flatten):=by
  have hfl : ∀ k,k≤l.Pieces.length→(xsL ((l.Pieces.take k).map fun x=>x.Rects).flatten).length≤200∧(ysL ((l.Pieces.take k).map fun x=>x.Rects).flatten).length≤200:=fun k hk=>by
    have:=flat_n (l:=⟨l.Sheet,l.Pieces.take k⟩) (by simp only [List.length_take]; omega) (fun x hx=>r12 x (List.mem_of_mem_take hx))
    unfold regs at this
    simp only at this
    rw [xsL_len,ysL_len]; omega
  obtain ⟨r,q1,q2⟩:=loop_rel l.Pieces (fun k (s : List Int×List Int)=>((k : Int),s.1,s.2)) (cut_edges_l2 l) (fun s=>(s.1,s.2)) (fun k s=>s=(xsL ((l.Pieces.take k).map fun x=>x.Rects).flatten,ysL ((l.Pieces.take k).map fun x=>x.Rects).flatten)) ([],[]) (by simp [xsL,ysL])
    (fun k p s hp hI=>by
      have h1:=lt_of_get hp
      have hd : decide ((k : Int) < (l.Pieces.length : Int))=true:=by simp [h1]
      have hpm:=List.mem_of_getElem? hp
      have hl:=r12 p hpm
      have hf:=hfl k (by omega)
      subst hI
      obtain ⟨r,t1,t2⟩:=loop_rel p.Rects (fun k (s : List Int×List Int)=>((k : Int),s.1,s.2)) (cut_edges_l1 p) (fun s=>(s.1,s.2)) (fun j s=>s=(xsL ((l.Pieces.take k).map fun x=>x.Rects).flatten++xsL (p.Rects.take j),ysL ((l.Pieces.take k).map fun x=>x.Rects).flatten++ysL (p.Rects.take j))) (xsL ((l.Pieces.take k).map fun x=>x.Rects).flatten,ysL ((l.Pieces.take k).map fun x=>x.Rects).flatten) (by simp [xsL,ysL])
        (fun j r s hr hI=>by
          have h2:=lt_of_get hr
          have hd : decide ((j : Int) < (p.Rects.length : Int))=true:=by simp [h2]
          obtain ⟨e1,e2⟩:=vR_add (hv p hpm r (List.mem_of_getElem? hr))
          subst hI
          unfold cut_edges_l1
          simp only [hd,if_true,idx_of hr,Option.bind_some,e1,e2]
          have l1 : (xsL (p.Rects.take j)).length≤200:=by rw [xsL_len,List.length_take]; omega
          have l2 : (ysL (p.Rects.take j)).length≤200:=by rw [ysL_len,List.length_take]; omega
          rw [app_eq (by simp only [List.length_append,List.length_cons,List.length_nil,LIM]; omega),app_eq (by simp only [List.length_append,List.length_cons,List.length_nil,LIM]; omega)]
          simp only [Option.bind_some,succ_cast j (by omega)]
          refine ⟨(xsL ((l.Pieces.take k).map fun x=>x.Rects).flatten++xsL (p.Rects.take (j+1)),ysL ((l.Pieces.take k).map fun x=>x.Rects).flatten++ysL (p.Rects.take (j+1))), ?_,rfl⟩
          rw [take_snoc hr,xsL_append,ysL_append]
          simp [xsL,ysL]) (fun s _=>by simp [cut_edges_l1])
      rw [List.take_length] at t2
      unfold cut_edges_l2
      simp only [hd,if_true,idx_of hp,Option.bind_some,succ_cast k (by omega)]
      rw [show ((0 : Int),xsL ((l.Pieces.take k).map fun x=>x.Rects).flatten,ysL ((l.Pieces.take k).map fun x=>x.Rects).flatten)=(((0 : Nat) : Int),xsL ((l.Pieces.take k).map fun x=>x.Rects).flatten,ysL ((l.Pieces.take k).map fun x=>x.Rects).flatten) from rfl,t1,t2]
      refine ⟨(xsL ((l.Pieces.take (k+1)).map fun x=>x.Rects).flatten,ysL ((l.Pieces.take (k+1)).map fun x=>x.Rects).flatten), ?_,rfl⟩
      rw [take_snoc hp,List.map_append,List.flatten_append,xsL_append,ysL_append]
      simp) (fun s _=>by simp [cut_edges_l2])
  rw [List.take_length] at q2
  rw [show ((0 : Int),([] : List Int),([] : List Int))=(((0 : Nat) : Int),(([],[]) : List Int×List Int).1,(([],[]) : List Int×List Int).2) from rfl,q1,q2]
  rfl
theorem edges_ok : ∃ xs ys,Lay (regs l) xs ys∧cut_edges l=some (edgG (regs l) xs ys)∧(edgG (regs l) xs ys).length≤200000:=by
  have hn:=flat_n n8 r12
  obtain ⟨xs,x1,x2,x3⟩:=set_ok (l:=xsL (regs l).flatten) (by rw [xsL_len]; omega)
  obtain ⟨ys,y1,y2,y3⟩:=set_ok (l:=ysL (regs l).flatten) (by rw [ysL_len]; omega)
  have hL:=lay_of n8 r12 hv ⟨x2,x3⟩ ⟨y2,y3⟩
  have lx : xs.length≤200:=by have:=pairwise_le_len x2 fun x m=>(x3 x).1 m; rw [xsL_len] at this; omega
  have ly : ys.length≤200:=by have:=pairwise_le_len y2 fun x m=>(y3 x).1 m; rw [ysL_len] at this; omega
  have rowH : ∀ y,(-1048576≤y∧y≤1048576)→∃ L,cut_along__cut_edges_1__cut_edges_2 xs l.Sheet.Name l.Sheet.Material l.Sheet.Gauge l.Sheet.Grain l.Sheet.Width l.Sheet.Height l.Sheet.Clamps l.Sheet.Used l.Pieces y y=some ((runsL (hS (regs l) y)).map fun p=>mkE ⟨p.1,y,p.2,y⟩ (labO (regs l) p.1 y) (labO (regs l) p.1 (y - 1)))∧L=runsL (hS (regs l) y)∧L.length≤xs.length:=fun y hy=>by
    have hA:=al_h hL y
    obtain ⟨L,g1,g2,g3⟩:=al_ok hA (side:=fun i=>cut_edges_1 i l.Sheet.Name l.Sheet.Material l.Sheet.Gauge l.Sheet.Grain l.Sheet.Width l.Sheet.Height l.Sheet.Clamps l.Sheet.Used l.Pieces y) (fun i x hx _=>by
      show (cut_at l x y).bind (fun r5=>(cut_at l x (isub y 1)).bind fun r6=>some (r5,r6))=_
      rw [isub_eq (by omega) (by omega),at_eq n8 r12 hv,at_eq n8 r12 hv]; rfl) (line:=fun a b=>cut_edges_2 a b y) (ln:=fun a b=>⟨a,y,b,y⟩) (fun a b=>rfl)
    have e : runsL (hS (regs l) y)=L:=runsL_eq g2
    exact ⟨L,by rw [alongH_eq,g1,e],e.symm,g3⟩
  have rowV : ∀ x,(-1048576≤x∧x≤1048576)→∃ L,cut_along__cut_edges_3__cut_edges_4 ys l.Sheet.Name l.Sheet.Material l.Sheet.Gauge l.Sheet.Grain l.Sheet.Width l.Sheet.Height l.Sheet.Clamps l.Sheet.Used l.Pieces x x=some ((runsL (vS (regs l) x)).map fun p=>mkE ⟨x,p.1,x,p.2⟩ (labO (regs l) x p.1) (labO (regs l) (x - 1) p.1))∧L=runsL (vS (regs l) x)∧L.length≤ys.length:=fun x hx=>by
    have hA:=al_v hL x
    obtain ⟨L,g1,g2,g3⟩:=al_ok hA (side:=fun i=>cut_edges_3 i l.Sheet.Name l.Sheet.Material l.Sheet.Gauge l.Sheet.Grain l.Sheet.Width l.Sheet.Height l.Sheet.Clamps l.Sheet.Used l.Pieces x) (fun i y hy _=>by
      show (cut_at l x y).bind (fun r5=>(cut_at l (isub x 1) y).bind fun r6=>some (r5,r6))=_
      rw [isub_eq (by omega) (by omega),at_eq n8 r12 hv,at_eq n8 r12 hv]; rfl) (line:=fun a b=>cut_edges_4 a b x) (ln:=fun a b=>⟨x,a,x,b⟩) (fun a b=>rfl)
    have e : runsL (vS (regs l) x)=L:=runsL_eq g2
    exact ⟨L,by rw [alongV_eq,g1,e],e.symm,g3⟩
  obtain ⟨r,q1,q2,q3⟩:=loop_rel ys (fun k (s : List EdgeT)=>((k : Int),s)) (cut_edges_l3 l xs ys) (fun s=>s) (fun k s=>s=(ys.take k).flatMap (fun y=>(runsL (hS (regs l) y)).map fun p=>mkE ⟨p.1,y,p.2,y⟩ (labO (regs l) p.1 y) (labO (regs l) p.1 (y - 1)))∧s.length≤200 * k) [] ⟨rfl,by simp⟩
    (fun k y s hy hI=>by
      have hk:=lt_of_get hy
      have hd : decide ((k : Int) < (ys.length : Int))=true:=by simp [hk]
      obtain ⟨L,g1,g2,g3⟩:=rowH y (hL.Y.within y (List.mem_of_getElem? hy))
      have hrl : ((runsL (hS (regs l) y)).map fun p=>mkE ⟨p.1,y,p.2,y⟩ (labO (regs l) p.1 y) (labO (regs l) p.1 (y - 1))).length≤200:=by rw [List.length_map,← g2]; omega
      have hsl:=hI.2
      unfold cut_edges_l3
      simp only [hd,if_true,idx_of hy,Option.bind_some,g1,succ_cast k (by omega)]
      rw [app_eq (by unfold LIM; omega)]
      refine ⟨_,rfl, ?_,by rw [List.length_append]; omega⟩
      rw [take_snoc hy,List.flatMap_append,hI.1]
      simp) (fun s _=>by simp [cut_edges_l3])
  rw [List.take_length] at q2
  obtain ⟨r',t1,t2,t3⟩:=loop_rel xs (fun k (s : List EdgeT)=>((k : Int),s)) (cut_edges_l4 l xs ys) (fun s=>s) (fun k s=>s=r++(xs.take k).flatMap (fun x=>(runsL (vS (regs l) x)).map fun p=>mkE ⟨x,p.1,x,p.2⟩ (labO (regs l) x p.1) (labO (regs l) (x - 1) p.1))∧s.length≤40000+200 * k) r ⟨by simp,by omega⟩
    (fun k x s hx hI=>by
      have hk:=lt_of_get hx
      have hd : decide ((k : Int) < (xs.length : Int))=true:=by simp [hk]
      obtain ⟨L,g1,g2,g3⟩:=rowV x (hL.X.within x (List.mem_of_getElem? hx))
      have hrl : ((runsL (vS (regs l) x)).map fun p=>mkE ⟨x,p.1,x,p.2⟩ (labO (regs l) x p.1) (labO (regs l) (x - 1) p.1)).length≤200:=by rw [List.length_map,← g2]; omega
      have hsl:=hI.2
      unfold cut_edges_l4
      simp only [hd,if_true,idx_of hx,Option.bind_some,g1,succ_cast k (by omega)]
      rw [app_eq (by unfold LIM; omega)]
      refine ⟨_,rfl, ?_,by rw [List.length_append]; omega⟩
      rw [take_snoc hx,List.flatMap_append,hI.1]
      simp) (fun s _=>by simp [cut_edges_l4])
  rw [List.take_length] at t2
  have e : r'=edgG (regs l) xs ys:=by rw [t2,q2]; rfl
  refine ⟨xs,ys,hL, ?_,by rw [← e]; omega⟩
  unfold cut_edges
  rw [coords_loop n8 r12 hv]
  simp only [Option.bind_some,x1,y1]
  rw [show ((0 : Int),([] : List EdgeT))=(((0 : Nat) : Int),[]) from rfl,q1]
  simp only [Option.bind_some]
  rw [show ((0 : Int),r)=(((0 : Nat) : Int),r) from rfl,t1,e]
  rfl
end
end Go.SM
