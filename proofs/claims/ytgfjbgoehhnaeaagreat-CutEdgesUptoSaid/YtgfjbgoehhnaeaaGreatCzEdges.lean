/- The edges of a layout: both find the same. The law CutEdges, on the models. -/
import Derived.Test.YtgfjbgoehhnaeaaGreatCzEdge1
import Derived.Test.YtgfjbgoehhnaeaaGreatCzKG
set_option linter.unusedVariables false
set_option linter.unusedSimpArgs false
set_option linter.unusedSectionVars false
namespace Go.SM
open Go Go.VI Go.Cells
noncomputable def lineG (R : List (List Rect)) (xs ys : List Int) : List Ln:=
  ys.flatMap (fun y=>(runsL (hS R y)).map fun p=>⟨⟨p.1,y,p.2,y⟩,nm (labO R p.1 (y - 1)),nm (labO R p.1 y)⟩)++xs.flatMap fun x=>(runsL (vS R x)).map fun p=>⟨⟨x,p.1,x,p.2⟩,nm (labO R (x - 1) p.1),nm (labO R x p.1)⟩
section
variable {R : List (List Rect)} {xs ys : List Int} (h : Lay R xs ys) (hk : ∀ t ∈ R,t.length≤1000) (lx : xs.length≤1000) (ly : ys.length≤1000)
include h
theorem cell_lab {i j : Nat} {x y : Int} (hx : xs[i]?=some x) (hi : i+1 < xs.length) (hy : ys[j]?=some y) : cellV R xs ys (i+1) (j+1)=nm (labO R x y)∧cellV R xs ys (i+1) j=nm (labO R x (y - 1)):=by
  obtain ⟨_,_,_,o1,o2,_⟩:=lab_out h
  have hjl:=lt_of_get hy
  have neg : ∀ {x y : Int},labN R x y=none→nm (labO R x y)=-1:=fun {x y} e=>by rw [labO_of e]; rfl
  constructor
  · unfold cellV
    by_cases hj : j+1 < ys.length
    · rw [if_pos ⟨by omega,by omega,hi,hj⟩]
      simp only [Nat.add_sub_cancel,getD_of hx,getD_of hy,nm_lab]
    · rw [if_neg (by omega),neg (o2 y (by rw [show ys.length - 1=j by omega]; exact hy) x y (Int.le_refl y))]
  · unfold cellV
    by_cases hj : 0 < j
    · rw [if_pos ⟨by omega,hj,hi,hjl⟩]
      obtain ⟨y0,hy0⟩ : ∃ y0,ys[j - 1]?=some y0:=⟨_,List.getElem?_eq_getElem (by omega)⟩
      obtain ⟨h1,h2⟩:=gsteps_get (lab_sty h) hy0 (by rw [show j - 1+1=j by omega]; exact hy)
      simp only [Nat.add_sub_cancel,getD_of hx,getD_of hy0]
      rw [← nm_lab]
      have:=congrFun (h2 (y - 1) (by omega) (by omega)) x
      unfold labO
      rw [this]
    · obtain rfl : j=0:=by omega
      rw [if_neg (by omega),neg (o1 y hy x (y - 1) (by omega))]
theorem cell_labV {i j : Nat} {x y : Int} (hx : xs[i]?=some x) (hy : ys[j]?=some y) (hj : j+1 < ys.length) : cellV R xs ys (i+1) (j+1)=nm (labO R x y)∧cellV R xs ys i (j+1)=nm (labO R (x - 1) y):=by
  obtain ⟨o1,o2,_⟩:=lab_out h
  have hil:=lt_of_get hx
  have neg : ∀ {x y : Int},labN R x y=none→nm (labO R x y)=-1:=fun {x y} e=>by rw [labO_of e]; rfl
  constructor
  · unfold cellV
    by_cases hi : i+1 < xs.length
    · rw [if_pos ⟨by omega,by omega,hi,hj⟩]
      simp only [Nat.add_sub_cancel,getD_of hx,getD_of hy,nm_lab]
    · rw [if_neg (by omega),neg (o2 x (by rw [show xs.length - 1=i by omega]; exact hx) x y (Int.le_refl x))]
  · unfold cellV
    by_cases hi : 0 < i
    · rw [if_pos ⟨hi,by omega,hil,hj⟩]
      obtain ⟨x0,hx0⟩ : ∃ x0,xs[i - 1]?=some x0:=⟨_,List.getElem?_eq_getElem (by omega)⟩
      obtain ⟨h1,h2⟩:=gsteps_get (lab_stx h) hx0 (by rw [show i - 1+1=i by omega]; exact hx)
      simp only [Nat.add_sub_cancel,getD_of hy,getD_of hx0]
      rw [← nm_lab]
      have:=congrFun (h2 (x - 1) (by omega) (by omega)) y
      unfold labO
      rw [this]
    · obtain rfl : i=0:=by omega
      rw [if_neg (by omega),neg (o1 x hx (x - 1) y (by omega))]
include lx ly
theorem rowH_ok {j : Nat} {y : Int} (hy : ys[j]?=some y) (s : List Ln) {out0 : List Ln} (h0 : out0.length≤5000000) (hout : ∀ q ∈ out0,q.At.Y2 < y) :
    loopT (sheetmetalref06_Borders_l2 (xs,ys) (cellM R xs ys) ((j : Int),s)) (0,out0)=some (out0++(runsL (hS R y)).map fun p=>⟨⟨p.1,y,p.2,y⟩,nm (labO R p.1 (y - 1)),nm (labO R p.1 y)⟩)∧(runsL (hS R y)).length≤xs.length:=by
  have hjl:=lt_of_get hy
  obtain ⟨L,g1,g2,g3⟩:=row_ok (al_h h y) (ln:=fun a b=>⟨a,y,b,y⟩) (body:=sheetmetalref06_Borders_l2 (xs,ys) (cellM R xs ys) ((j : Int),s)) (fun k x x' out hx hx'=>by
      have hkl:=lt_of_get hx'
      obtain ⟨c1,c2⟩:=cell_lab h hx hkl hy
      have d : decide (((k+1 : Nat) : Int) < (xs.length : Int))=true:=by simp; omega
      have g0:=cellM_get (R:=R) xs ys (k+1) (by omega)
      have r1:=cellR_get (R:=R) xs ys (k+1) j (by omega)
      have r2:=cellR_get (R:=R) xs ys (k+1) (j+1) (by omega)
      unfold sheetmetalref06_Borders_l2
      simp only [succ_cast k (by omega),succ_cast j (by omega),d,if_true,idx_of hx,idx_of hy,idx_of hx',idx_of g0,idx_of r1,idx_of r2,Option.bind_some,c1,c2]) (fun k out hk1 hk2=>by
      have d : decide (iadd (k : Int) 1 < (xs.length : Int))=false:=by rw [succ_cast k (by omega)]; simp; omega
      unfold sheetmetalref06_Borders_l2
      simp only [d,Bool.false_eq_true,if_false]) (fun a b e e'=>by unfold cS; simp) (fun a e e'=>rfl) h0 (fun q hq x x' _ hc=>by have:=hout q hq; have:=hc.2.1; simp only at this; omega)
  have e : runsL (hS R y)=L:=runsL_eq g2
  rw [e]; exact ⟨g1,g3⟩
theorem rowV_ok {i : Nat} {x : Int} (hx : xs[i]?=some x) (s : List Ln) {out0 : List Ln} (h0 : out0.length≤5000000) (hout : ∀ q ∈ out0,(q.At.X2 < x)∨(q.At.Y1=q.At.Y2∧q.At.X1 < q.At.X2)) :
    loopT (sheetmetalref06_Borders_l4 (xs,ys) (cellM R xs ys) ((i : Int),s)) (0,out0)=some (out0++(runsL (vS R x)).map fun p=>⟨⟨x,p.1,x,p.2⟩,nm (labO R (x - 1) p.1),nm (labO R x p.1)⟩)∧(runsL (vS R x)).length≤ys.length:=by
  have hil:=lt_of_get hx
  obtain ⟨L,g1,g2,g3⟩:=row_ok (al_v h x) (ln:=fun a b=>⟨x,a,x,b⟩) (body:=sheetmetalref06_Borders_l4 (xs,ys) (cellM R xs ys) ((i : Int),s)) (fun k y y' out hy hy'=>by
      have hkl:=lt_of_get hy'
      obtain ⟨c1,c2⟩:=cell_labV h hx hy hkl
      have d : decide (((k+1 : Nat) : Int) < (ys.length : Int))=true:=by simp; omega
      have g0:=cellM_get (R:=R) xs ys i (by omega)
      have g0':=cellM_get (R:=R) xs ys (i+1) (by omega)
      have r1:=cellR_get (R:=R) xs ys i (k+1) (by omega)
      have r2:=cellR_get (R:=R) xs ys (i+1) (k+1) (by omega)
      unfold sheetmetalref06_Borders_l4
      simp only [succ_cast k (by omega),succ_cast i (by omega),d,if_true,idx_of hx,idx_of hy,idx_of hy',idx_of g0,idx_of g0',idx_of r1,idx_of r2,Option.bind_some,c1,c2]) (fun k out hk1 hk2=>by
      have d : decide (iadd (k : Int) 1 < (ys.length : Int))=false:=by rw [succ_cast k (by omega)]; simp; omega
      unfold sheetmetalref06_Borders_l4
      simp only [d,Bool.false_eq_true,if_false]) (fun a b e e'=>by unfold cS; simp) (fun a e e'=>rfl) h0 (fun q hq y y' hyy hc=>by
      obtain ⟨c1,c2,c3⟩:=hc
      simp only at c1 c2 c3
      have:=hout q hq
      omega)
  have e : runsL (vS R x)=L:=runsL_eq g2
  rw [e]; exact ⟨g1,g3⟩
theorem borders_loops : ∃ r,loopT (sheetmetalref06_Borders_l3 (xs,ys) (cellM R xs ys)) (0,[])=some r∧loopT (sheetmetalref06_Borders_l5 (xs,ys) (cellM R xs ys)) (0,r)=some (lineG R xs ys)∧(lineG R xs ys).length≤2000000:=by
  have isr : ∀ {s : Int→Int} {p : Int×Int},p ∈ runsL s→p.1 < p.2:=fun {s p} hp=>by
    unfold runsL at hp
    split at hp
    · rename_i hx
      exact (((Classical.choose_spec hx).2 p.1 p.2).1 hp).1
    · cases hp
  obtain ⟨r,q1,q2,q3,q4⟩:=loop_rel ys (fun k (s : List Ln)=>((k : Int),s)) (sheetmetalref06_Borders_l3 (xs,ys) (cellM R xs ys)) (fun s=>s) (fun k s=>s=(ys.take k).flatMap (fun y=>(runsL (hS R y)).map fun p=>⟨⟨p.1,y,p.2,y⟩,nm (labO R p.1 (y - 1)),nm (labO R p.1 y)⟩)∧s.length≤1000 * k∧∀ q ∈ s,q.At.Y1=q.At.Y2∧q.At.X1 < q.At.X2∧q.At.Y2 ∈ ys.take k) [] ⟨rfl,by simp,fun q hq=>by cases hq⟩
    (fun k y s hy hI=>by
      have hk:=lt_of_get hy
      have hd : decide ((k : Int) < (ys.length : Int))=true:=by simp [hk]
      obtain ⟨i1,i2,i3⟩:=hI
      obtain ⟨g1,g2⟩:=rowH_ok h lx ly hy s (out0:=s) (by omega) (fun q hq=>by
        obtain ⟨_,_,hm⟩:=i3 q hq
        obtain ⟨n,hn⟩:=List.mem_iff_getElem?.1 hm
        have hnl:=lt_of_get hn
        rw [List.length_take] at hnl
        rw [List.getElem?_take,if_pos (by omega)] at hn
        exact asc_get h.Y.asc (show n < k by omega) hn hy)
      unfold sheetmetalref06_Borders_l3
      simp only [hd,if_true,g1,Option.bind_some,succ_cast k (by omega)]
      refine ⟨_,rfl, ?_,by simp; omega,fun q hq=>?_⟩
      · rw [take_snoc hy,List.flatMap_append,i1]
        simp
      · rw [take_snoc hy]
        rcases List.mem_append.1 hq with hq | hq
        · obtain ⟨a,b,c⟩:=i3 q hq
          exact ⟨a,b,List.mem_append_left _ c⟩
        · obtain ⟨p,hp,rfl⟩:=List.mem_map.1 hq
          exact ⟨rfl,isr hp,List.mem_append_right _ (by simp)⟩) (fun s _=>by simp [sheetmetalref06_Borders_l3])
  rw [List.take_length] at q2 q4
  obtain ⟨r',t1,t2,t3,t4⟩:=loop_rel xs (fun k (s : List Ln)=>((k : Int),s)) (sheetmetalref06_Borders_l5 (xs,ys) (cellM R xs ys)) (fun s=>s) (fun k s=>s=r++(xs.take k).flatMap (fun x=>(runsL (vS R x)).map fun p=>⟨⟨x,p.1,x,p.2⟩,nm (labO R (x - 1) p.1),nm (labO R x p.1)⟩)∧s.length≤1000000+1000 * k∧∀ q ∈ s,q.At.X2 ∈ xs.take k∨(q.At.Y1=q.At.Y2∧q.At.X1 < q.At.X2)) r ⟨by simp,by omega,fun q hq=>.inr ⟨(q4 q hq).1,(q4 q hq).2.1⟩⟩
    (fun k x s hx hI=>by
      have hk:=lt_of_get hx
      have hd : decide ((k : Int) < (xs.length : Int))=true:=by simp [hk]
      obtain ⟨i1,i2,i3⟩:=hI
      obtain ⟨g1,g2⟩:=rowV_ok h lx ly hx s (out0:=s) (by omega) (fun q hq=>by
        rcases i3 q hq with hm | hm
        · left
          obtain ⟨n,hn⟩:=List.mem_iff_getElem?.1 hm
          have hnl:=lt_of_get hn
          rw [List.length_take] at hnl
          rw [List.getElem?_take,if_pos (by omega)] at hn
          exact asc_get h.X.asc (show n < k by omega) hn hx
        · exact .inr hm)
      unfold sheetmetalref06_Borders_l5
      simp only [hd,if_true,g1,Option.bind_some,succ_cast k (by omega)]
      refine ⟨_,rfl, ?_,by simp; omega,fun q hq=>?_⟩
      · rw [take_snoc hx,List.flatMap_append,i1]
        simp
      · rw [take_snoc hx]
        rcases List.mem_append.1 hq with hq | hq
        · exact (i3 q hq).imp (fun c=>List.mem_append_left _ c) id
        · obtain ⟨p,hp,rfl⟩:=List.mem_map.1 hq
          exact .inl (List.mem_append_right _ (by simp))) (fun s _=>by simp [sheetmetalref06_Borders_l5])
  rw [List.take_length] at t2
  have e : r'=lineG R xs ys:=by rw [t2,q2]; rfl
  exact ⟨r,by rw [show ((0 : Int),([] : List Ln))=(((0 : Nat) : Int),[]) from rfl,q1],by rw [show ((0 : Int),r)=(((0 : Nat) : Int),r) from rfl,t1,e],by rw [← e]; omega⟩
end
theorem Borders_ok {R : List (List Rect)} {xs ys : List Int} (h : Lay R xs ys) (hk : ∀ t ∈ R,t.length≤1000) : sheetmetalref06_Borders R=some (lineG R xs ys)∧(lineG R xs ys).length≤2000000:=by
  have hm:=h.m
  have hn:=h.n
  have hfl : ∀ k,(R.take k).flatten.length≤R.flatten.length:=fun k=>by
    conv=>rhs; rw [← List.take_append_drop k R,List.flatten_append,List.length_append]
    omega
  obtain ⟨r,q1,q2⟩:=loop_rel R (fun k (s : List Rect)=>((k : Int),s)) (sheetmetalref06_Borders_l1 R) (fun s=>s) (fun k s=>s=(R.take k).flatten) [] (by simp)
    (fun k t s ht hI=>by
      have h1:=lt_of_get ht
      have hd : decide ((k : Int) < (R.length : Int))=true:=by simp [h1]
      have:=hfl k
      have:=hk t (List.mem_of_getElem? ht)
      unfold sheetmetalref06_Borders_l1
      simp only [hd,if_true,idx_of ht,Option.bind_some,succ_cast k (by omega)]
      subst hI
      rw [app_eq (by unfold LIM; omega)]
      refine ⟨_,rfl, ?_⟩
      rw [take_snoc ht,List.flatten_append]; simp) (fun s _=>by simp [sheetmetalref06_Borders_l1])
  rw [List.take_length] at q2
  obtain ⟨xs1,ys1,g1,g2,g3⟩:=Grid_ok h.v hn
  obtain rfl:=grid_unique h.x g2
  obtain rfl:=grid_unique h.y g3
  obtain ⟨r',b1,b2,b3⟩:=borders_loops h h.X.len h.Y.len
  refine ⟨?_,b3⟩
  unfold sheetmetalref06_Borders
  rw [show ((0 : Int),([] : List Rect))=(((0 : Nat) : Int),[]) from rfl,q1,q2]
  simp only [Option.bind_some,g1,labels_eq h.v hm hk h.X.len h.Y.len,b1,b2]
theorem edge_line (s : Segment) {a b : Option Int} (ha : SmO a) (hb : SmO b) (hne : a≠b) : (if imin (nm b) (nm a) < 0 then (⟨s,imax (nm b) (nm a),imin (nm b) (nm a)⟩ : EdgeT) else ⟨s,imin (nm b) (nm a),imax (nm b) (nm a)⟩)=mkE s a b:=by
  have h1 : mkE s a b=if nm a < 0∨(nm b ≥ 0∧nm b < nm a) then ⟨s,nm b,nm a⟩ else ⟨s,nm a,nm b⟩:=rfl
  have hne' : nm a≠nm b:=fun q=>hne ((nm_inj ha hb).1 q)
  have bd : ∀ {o : Option Int},SmO o→-1≤nm o:=fun {o} ho=>by
    cases o with
    | none=>simp [nm]
    | some i=>have:=ho i rfl; simp only [nm]; omega
  have ba:=bd ha
  have bb:=bd hb
  rw [h1,imin_eq,imax_eq]
  generalize nm a=p at *
  generalize nm b=q at *
  by_cases c1 : p < 0
  · rw [if_pos (by omega),if_pos (.inl c1),show max q p=q by omega,show min q p=p by omega]
  · by_cases c2 : q < 0
    · rw [if_pos (by omega),if_neg (by omega),show max q p=p by omega,show min q p=q by omega]
    · rw [if_neg (by omega)]
      by_cases c3 : q < p
      · rw [if_pos (.inr ⟨by omega,c3⟩),show max q p=p by omega,show min q p=q by omega]
      · rw [if_neg (by omega),show max q p=q by omega,show min q p=p by omega]
section
variable {l : LayoutT} (n8 : l.Pieces.length≤8) (r12 : ∀ x ∈ l.Pieces,x.Rects.length≤12) (hv : ∀ x ∈ l.Pieces,AllV x.Rects)
include n8 r12 hv
theorem redges_ok {xs ys : List Int} (hL : Lay (regs l) xs ys) : sheetmetalref07_edges l=some (edgG (regs l) xs ys):=by
  obtain ⟨r,q1,q2⟩:=loop_rel l.Pieces (fun k (s : List (List Rect))=>((k : Int),s)) (sheetmetalref07_edges_l1 l) (fun s=>s) (fun k s=>s=(l.Pieces.take k).map fun x=>x.Rects) [] (by simp)
    (fun k x s hx hI=>by
      have h1:=lt_of_get hx
      have hd : decide ((k : Int) < (l.Pieces.length : Int))=true:=by simp [h1]
      unfold sheetmetalref07_edges_l1
      simp only [hd,if_true,idx_of hx,Option.bind_some,succ_cast k (by omega)]
      subst hI
      rw [app_eq (by simp [LIM]; omega)]
      refine ⟨_,rfl, ?_⟩
      rw [take_snoc hx,List.map_append]; rfl) (fun s _=>by simp [sheetmetalref07_edges_l1])
  rw [List.take_length] at q2
  obtain ⟨b1,b2⟩:=Borders_ok hL (regs_k r12)
  -- from lines to edges
  let f : Ln→EdgeT:=fun x=>if imin x.Low x.High < 0 then ⟨x.At,imax x.Low x.High,imin x.Low x.High⟩ else ⟨x.At,imin x.Low x.High,imax x.Low x.High⟩
  have hmap : (lineG (regs l) xs ys).map f=edgG (regs l) xs ys:=by
    have key : ∀ {s : Int→Int} {A B : Int→Option Int} (ln : Int→Int→Segment) (hs : s=fun z=>cod (A z) (B z)) (ha : ∀ z,SmO (A z)) (hb : ∀ z,SmO (B z)),((runsL s).map fun p=>(⟨ln p.1 p.2,nm (B p.1),nm (A p.1)⟩ : Ln)).map f=(runsL s).map fun p=>mkE (ln p.1 p.2) (A p.1) (B p.1):=fun {s A B} ln hs ha hb=>by
      rw [List.map_map]
      refine List.map_congr_left fun p hp=>?_
      have hr : s p.1≠0:=by
        unfold runsL at hp
        split at hp
        · rename_i hx
          exact (((Classical.choose_spec hx).2 p.1 p.2).1 hp).2.1
        · cases hp
      have hne : A p.1≠B p.1:=fun q=>hr (by rw [hs]; simp only; rw [(cod_zero (ha _) (hb _)).2 q])
      exact edge_line _ (ha _) (hb _) hne
    unfold lineG edgG
    rw [List.map_append,List.map_flatMap,List.map_flatMap]
    congr 1
    · congr 1; funext y
      exact key (fun a b=>⟨a,y,b,y⟩) (A:=fun z=>labO (regs l) z y) (B:=fun z=>labO (regs l) z (y - 1)) rfl (fun z=>labO_sm hL.m _ _) (fun z=>labO_sm hL.m _ _)
    · congr 1; funext x
      exact key (fun a b=>⟨x,a,x,b⟩) (A:=fun z=>labO (regs l) x z) (B:=fun z=>labO (regs l) (x - 1) z) rfl (fun z=>labO_sm hL.m _ _) (fun z=>labO_sm hL.m _ _)
  obtain ⟨r',t1,t2⟩:=loop_rel (lineG (regs l) xs ys) (fun k (s : List EdgeT)=>((k : Int),s)) (sheetmetalref07_edges_l3 (lineG (regs l) xs ys)) (fun s=>s) (fun k s=>s=((lineG (regs l) xs ys).take k).map f) [] (by simp)
    (fun k x s hx hI=>by
      have h1:=lt_of_get hx
      have hd : decide ((k : Int) < ((lineG (regs l) xs ys).length : Int))=true:=by rw [decide_eq_true_eq]; omega
      unfold sheetmetalref07_edges_l3
      simp only [hd,if_true,idx_of hx,Option.bind_some,sheetmetalref07_edges_k2,succ_cast k (by omega)]
      subst hI
      have hl : (((lineG (regs l) xs ys).take k).map f).length≤2000000:=by rw [List.length_map,List.length_take]; omega
      rw [app_eq (by simp only [List.length_cons,List.length_nil,LIM]; omega),app_eq (by simp only [List.length_cons,List.length_nil,LIM]; omega)]
      simp only [Option.bind_some]
      refine ⟨((lineG (regs l) xs ys).take k).map f++[f x], ?_,by rw [take_snoc hx,List.map_append]; rfl⟩
      show _=some (Sum.inl (((k+1 : Nat) : Int),_++[if imin x.Low x.High < 0 then _ else _]))
      by_cases hc : imin x.Low x.High < 0
      · simp only [hc,decide_true,if_true]
      · simp only [hc,decide_false,Bool.false_eq_true,if_false]) (fun s _=>by simp [sheetmetalref07_edges_l3])
  rw [List.take_length,hmap] at t2
  unfold sheetmetalref07_edges
  rw [show ((0 : Int),([] : List (List Rect)))=(((0 : Nat) : Int),[]) from rfl,q1,q2]
  show (sheetmetalref06_Borders (regs l)).bind _=_
  simp only [b1,Option.bind_some]
  rw [show ((0 : Int),([] : List EdgeT))=(((0 : Nat) : Int),[]) from rfl,t1,t2]
  rfl
end
theorem sameEdges_self {a : List EdgeT} (ha : a.length≤10000000) : sheetmetalref07_SameEdges a a=some true:=by
  unfold sheetmetalref07_SameEdges
  simp only [bne_self_eq_false,Bool.false_eq_true,if_false]
  rw [loop_all a (sheetmetalref07_SameEdges_l1 a a) (fun _=>true) (.inl ()) (.inr ()) (fun k x hx=>?s) ?f]
  · simp
  case s =>
    have h1:=lt_of_get hx
    unfold sheetmetalref07_SameEdges_l1
    simp [h1,idx_of hx,succ_cast k (show (k : Int) < 9223372036854775807 by omega)]
  case f=>simp [sheetmetalref07_SameEdges_l1]
theorem LV.hv {l : LayoutT} (h : LV l) : ∀ x ∈ l.Pieces,AllV x.Rects:=fun x hx r hr=>(h.off x hx r hr).1.1
theorem sm_of {l : LayoutT} (h : RN_LayoutT l) : ∀ x ∈ l.Pieces,Sm x:=fun x hx=>by
  obtain ⟨_,_,_,_,r1,r2,r3⟩:=h.2.2 x hx
  exact ⟨⟨r1.1,fun r hr=>r1.2 r hr⟩,⟨r2.1,fun r hr=>r2.2 r hr⟩,⟨r3.1,fun r hr=>r3.2 r hr⟩⟩
theorem Edges_same (l : LayoutT) (h : RN_LayoutT l) : ∃ es b,cut_Validate l=some b∧sheetmetalref07_Validate l=some b∧cut_Edges l=some (es,b)∧sheetmetalref07_Edges l=some (es,b)∧es.length≤200000∧(b≠0→es=[])∧(b=0→LV l∧cut_edges l=some es∧sheetmetalref07_edges l=some es∧∃ xs ys,Lay (regs l) xs ys∧es=edgG (regs l) xs ys):=by
  obtain ⟨b,b1,b2,b3⟩:=Layout_facts l (sm_of h)
  unfold cut_Edges sheetmetalref07_Edges
  rw [b1,b2]
  simp only [Option.bind_some]
  by_cases hb : b=0
  · subst hb
    have hl:=b3 rfl
    obtain ⟨xs,ys,h1,h2,h3⟩:=edges_ok hl.n hl.r12 hl.hv
    have h4:=redges_ok hl.n hl.r12 hl.hv h1
    refine ⟨edgG (regs l) xs ys,0,rfl,rfl, ?_, ?_,h3,fun q=>absurd rfl q,fun _=>⟨hl,h2,h4,xs,ys,h1,rfl⟩⟩
    · simp [h2]
    · simp [h4]
  · have hb' : (b != 0)=true:=by rw [bne_iff_ne]; exact hb
    exact ⟨[],b,rfl,rfl,by simp [hb'],by simp [hb'],by simp,fun _=>rfl,fun q=>absurd q hb⟩
theorem law_CutEdges (l : LayoutT) (h : RN_LayoutT l) : sheetmetallaw07_CutEdges l=some true:=by
  obtain ⟨es,b,_,_,e1,e2,e3,_⟩:=Edges_same l h
  unfold sheetmetallaw07_CutEdges
  rw [e1,e2]
  simp [sameEdges_self (show es.length≤10000000 by omega),known_okG]
end Go.SM
