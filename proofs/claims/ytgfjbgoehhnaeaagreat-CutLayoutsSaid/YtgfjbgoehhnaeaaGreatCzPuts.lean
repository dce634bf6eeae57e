/- Pieces that are turned and moved: both say the same of each. The law NestPuts, on the models. -/
import Derived.Test.YtgfjbgoehhnaeaaGreatCzPuts0
set_option linter.unusedVariables false
set_option linter.unusedSimpArgs false
set_option linter.unusedSectionVars false
namespace Go.SM
open Go Go.VI
theorem loop_map {α β : Type} (l : List α) (f : α→β) (body : Int×List β→Option ((Int×List β) ⊕ List β)) (hl : l.length≤1000) (step : ∀ (k : Nat) x acc,l[k]?=some x→body ((k : Int),acc)=(app acc [f x]).bind fun l'=>some (.inl (((k+1 : Nat) : Int),l'))) (fin : ∀ acc,body ((l.length : Int),acc)=some (.inr acc)) :
    loopT body (0,[])=some (l.map f):=by
  refine loop_fold l body (fun k=>((k : Int),(l.take k).map f)) _ (fun k x hx=>?_) ?_
  · have hk:=(List.getElem?_eq_some_iff.1 hx).1
    rw [step k x _ hx,app_eq (by unfold LIM; simp; omega)]
    simp only [Option.bind_some]
    rw [List.take_add_one,hx]
    simp
  · rw [fin,List.take_length]
def qR (r : Rect) : Rect:=⟨-(r.Y+r.H),r.X,r.H,r.W⟩
theorem qR_v {r : Rect} (h : vR r) : vR (qR r):=by unfold vR at h ⊢; simp only [qR]; omega
theorem qR_b {a b : Int} {r : Rect} (h : inB a b r) : inB (-(b+1048576)) a (qR r):=by unfold inB at h ⊢; simp only [qR]; omega
def Good (a b : Int) (l : List Rect) : Prop:=l.length≤12∧∀ r ∈ l,vR r∧inB a b r
theorem Good.q {a b : Int} {l : List Rect} (h : Good a b l) : Good (-(b+1048576)) a (l.map qR):=by
  refine ⟨by rw [List.length_map]; exact h.1,fun r hr=>?_⟩
  obtain ⟨x,hx,rfl⟩:=List.mem_map.1 hr
  exact ⟨qR_v (h.2 x hx).1,qR_b (h.2 x hx).2⟩
theorem q1_eq {r : Rect} (h : vR r) : flat_quarter_1 r=some (qR r):=by
  unfold vR at h
  unfold flat_quarter_1 qR
  rw [ineg_eq (by omega) (by omega),isub_eq (by omega) (by omega)]
  congr 2
  omega
theorem mapped_q {a b : Int} {l : List Rect} (h : Good a b l) : flat_mapped_1 l=some (l.map qR):=by
  unfold flat_mapped_1
  rw [loop_map l qR (flat_mapped_1_l1 l) (by have:=h.1; omega) (fun k x acc hx=>?_) (fun acc=>?_)]
  · rfl
  · have hk:=(List.getElem?_eq_some_iff.1 hx).1
    have:=h.1
    unfold flat_mapped_1_l1
    have h1 : decide ((k : Int) < (l.length : Int))=true:=by simp; omega
    simp only [h1,if_true,idx_of hx,Option.bind_some,q1_eq (h.2 x (List.mem_of_getElem? hx)).1]
    rw [iadd_eq (a:=(k : Int)) (by omega) (by omega)]
    rfl
  · simp [flat_mapped_1_l1]
theorem rquarter_eq {a b : Int} {l : List Rect} (h : Good a b l) : sheetmetalref06_quarter l=some (l.map qR):=by
  unfold sheetmetalref06_quarter
  rw [loop_map l qR (sheetmetalref06_quarter_l1 l) (by have:=h.1; omega) (fun k x acc hx=>?_) (fun acc=>?_)]
  · rfl
  · have hk:=(List.getElem?_eq_some_iff.1 hx).1
    have:=h.1
    have hv:=(h.2 x (List.mem_of_getElem? hx)).1
    unfold vR at hv
    unfold sheetmetalref06_quarter_l1
    have h1 : decide ((k : Int) < (l.length : Int))=true:=by simp; omega
    simp only [h1,if_true,idx_of hx,Option.bind_some]
    rw [iadd_eq (a:=(k : Int)) (by omega) (by omega),iadd_eq (by omega) (by omega),ineg_eq (by omega) (by omega)]
    rfl
  · simp [sheetmetalref06_quarter_l1]
theorem bends0 (f : Flat) (h : f.Bends=[]) : loopT (flat_mapped__flat_quarter_1__flat_quarter_2_l1 f) (0,[])=some []:=by
  refine loop_out ?_
  unfold flat_mapped__flat_quarter_1__flat_quarter_2_l1
  rw [h]; rfl
theorem quarter_eq {a b : Int} {R C F : List Rect} (h1 : Good a b R) (h2 : Good a b C) (h3 : Good a b F) : flat_quarter ⟨R,C,F,[]⟩=some ⟨R.map qR,C.map qR,F.map qR,[]⟩:=by
  unfold flat_quarter flat_mapped__flat_quarter_1__flat_quarter_2
  rw [bends0 _ rfl,mapped_q h1,mapped_q h2,mapped_q h3]
  rfl
def tq : Nat→List Rect→List Rect
  | 0,l=>l
  | n+1,l=>(tq n l).map qR
def ta : Nat→Int×Int→Int×Int
  | 0,p=>p
  | n+1,p=>(-((ta n p).2+1048576),(ta n p).1)
theorem Good.tq {l : List Rect} (h : Good 0 0 l) : ∀ n,Good (ta n (0,0)).1 (ta n (0,0)).2 (SM.tq n l)
  | 0=>h
  | n+1=>(Good.tq h n).q
theorem turn_loop {R C F : List Rect} (h1 : Good 0 0 R) (h2 : Good 0 0 C) (h3 : Good 0 0 F) (n : Nat) (hn : n≤3) : loopT (flat_Quarter_l1 (n : Int)) (0,R,C,F,[])=some (tq n R,tq n C,tq n F,[]):=by
  have:=loop_fold (List.range n) (flat_Quarter_l1 (n : Int)) (fun k=>((k : Int),tq k R,tq k C,tq k F,[])) (tq n R,tq n C,tq n F,[]) (fun k x hx=>?_) ?_
  · exact this
  · have hk:=(List.getElem?_eq_some_iff.1 hx).1
    rw [List.length_range] at hk
    unfold flat_Quarter_l1
    have h1' : decide ((k : Int) < (n : Int))=true:=by simp; omega
    simp only [h1',if_true,quarter_eq (h1.tq k) (h2.tq k) (h3.tq k),Option.bind_some]
    rw [iadd_eq (a:=(k : Int)) (by omega) (by omega)]
    rfl
  · simp [flat_Quarter_l1]
theorem rturn_loop {R C F : List Rect} (h1 : Good 0 0 R) (h2 : Good 0 0 C) (h3 : Good 0 0 F) (n : Nat) (hn : n≤3) : loopT (sheetmetalref06_Turned_l1 (n : Int)) (0,R,C,F)=some (tq n R,tq n C,tq n F):=by
  have:=loop_fold (List.range n) (sheetmetalref06_Turned_l1 (n : Int)) (fun k=>((k : Int),tq k R,tq k C,tq k F)) (tq n R,tq n C,tq n F) (fun k x hx=>?_) ?_
  · exact this
  · have hk:=(List.getElem?_eq_some_iff.1 hx).1
    rw [List.length_range] at hk
    unfold sheetmetalref06_Turned_l1
    have h1' : decide ((k : Int) < (n : Int))=true:=by simp; omega
    simp only [h1',if_true,rquarter_eq (h1.tq k),rquarter_eq (h2.tq k),rquarter_eq (h3.tq k),Option.bind_some]
    rw [iadd_eq (a:=(k : Int)) (by omega) (by omega)]
    rfl
  · simp [sheetmetalref06_Turned_l1]
theorem tq_length (n : Nat) (l : List Rect) : (tq n l).length=l.length:=by
  induction n with
  | zero=>rfl
  | succ n ih=>rw [tq,List.length_map,ih]
def mvR (x y : Int) (r : Rect) : Rect:=⟨iadd r.X x,iadd r.Y y,r.W,r.H⟩
theorem isub_ineg (a b : Int) (ha : -4194304≤a∧a≤4194304) (hb : -4194304≤b∧b≤4194304) : iadd a (ineg b)=isub a b:=by
  rw [ineg_eq (by omega) (by omega),iadd_eq (by omega) (by omega),isub_eq (by omega) (by omega)]; omega
theorem shift_eqG {a b : Int} {l : List Rect} (h : Good a b l) (x y : Int) : sheetmetalref06_Shift l x y=some (l.map (mvR x y)):=by
  unfold sheetmetalref06_Shift
  rw [loop_map l (mvR x y) (sheetmetalref06_Shift_l2 l x y) (by have:=h.1; omega) (fun k r acc hx=>?_) (fun acc=>?_)]
  · rfl
  · have hk:=(List.getElem?_eq_some_iff.1 hx).1
    have:=h.1
    have hv:=(h.2 r (List.mem_of_getElem? hx)).1
    unfold vR at hv
    unfold sheetmetalref06_Shift_l2 sheetmetalref06_Shift_k1
    have h1 : decide ((k : Int) < (l.length : Int))=true:=by simp; omega
    have g1 : decide (r.X > -2147483648)=true:=by simp; omega
    have g2 : decide (r.X < 2147483648)=true:=by simp; omega
    have g3 : decide (r.Y > -2147483648)=true:=by simp; omega
    have g4 : decide (r.Y < 2147483648)=true:=by simp; omega
    simp only [h1,if_true,idx_of hx,Option.bind_some,g1,g2,g3,g4]
    rw [iadd_eq (a:=(k : Int)) (by omega) (by omega)]
    rfl
  · simp [sheetmetalref06_Shift_l2]
theorem mv0 {a b : Int} {l : List Rect} (h : Good a b l) : l.map (mvR 0 0)=l:=by
  conv=>rhs; rw [← List.map_id l]
  refine List.map_congr_left fun r hr=>?_
  have hv:=(h.2 r hr).1
  unfold vR at hv
  unfold mvR
  rw [iadd_eq (by omega) (by omega),iadd_eq (by omega) (by omega),Int.add_zero,Int.add_zero]
  rfl
theorem settled_map {a b : Int} {l : List Rect} (h : Good a b l) (mx my w ht : Int) (hx : -1048576≤mx∧mx≤1048576) (hy : -1048576≤my∧my≤1048576) : flat_mapped_1' l mx my w ht=some (l.map (mvR (ineg mx) (ineg my))):=by
  unfold flat_mapped_1'
  rw [loop_map l (mvR (ineg mx) (ineg my)) (flat_mapped_1'_l1 l mx my w ht) (by have:=h.1; omega) (fun k r acc hr=>?_) (fun acc=>?_)]
  · rfl
  · have hk:=(List.getElem?_eq_some_iff.1 hr).1
    have:=h.1
    have hv:=(h.2 r (List.mem_of_getElem? hr)).1
    unfold vR at hv
    unfold flat_mapped_1'_l1 flat_settled_1
    have h1 : decide ((k : Int) < (l.length : Int))=true:=by simp; omega
    simp only [h1,if_true,idx_of hr,Option.bind_some,mvR]
    rw [iadd_eq (a:=(k : Int)) (by omega) (by omega),isub_ineg _ _ (by omega) (by omega),isub_ineg _ _ (by omega) (by omega)]
    rfl
  · simp [flat_mapped_1'_l1]
theorem good_back {a b mx my : Int} {l : List Rect} (h : Good a b l) (hx : a≤mx∧mx≤a+1048576) (hy : b≤my∧my≤b+1048576) (qx : -1048576≤mx∧mx≤1048576) (qy : -1048576≤my∧my≤1048576) : Good (a - mx) (b - my) (l.map (mvR (ineg mx) (ineg my))):=by
  refine ⟨by rw [List.length_map]; exact h.1,fun r hr=>?_⟩
  obtain ⟨x,hxm,rfl⟩:=List.mem_map.1 hr
  obtain ⟨p1,p2⟩:=h.2 x hxm
  have hv:=p1
  unfold vR at hv
  unfold mvR
  rw [isub_ineg _ _ (by omega) (by omega),isub_ineg _ _ (by omega) (by omega),isub_eq (by omega) (by omega),isub_eq (by omega) (by omega)]
  unfold inB at p2 ⊢
  unfold vR
  simp only
  omega
theorem bounds_eq {l : List Rect} (hl : l.length≤12) {r : Rect} {t : List Rect} (hc : l=r::t) : ∃ w h p q u v,flat_bounds l=some (⟨lowX l r.X,lowY l r.Y,w,h⟩,p,q,u,v):=by
  have i0 : idx l 0=some r:=by rw [hc]; rfl
  have hlt : l.length=t.length+1:=by rw [hc]; rfl
  have e1 : slc l 1 (l.length : Int)=some t:=by
    unfold slc
    rw [if_pos (by omega)]
    have : (l.length : Int).toNat=l.length:=by omega
    rw [this,List.take_length,hc]; rfl
  let F : Int×Int×Int×Int→Rect→Int×Int×Int×Int:=fun s x=>(imin s.1 x.X,imin s.2.1 x.Y,isub (imax (iadd s.1 s.2.2.1) (iadd x.X x.W)) (imin s.1 x.X),isub (imax (iadd s.2.1 s.2.2.2) (iadd x.Y x.H)) (imin s.2.1 x.Y))
  have key : loopT (flat_bounds_l1 t) (0,r.X,r.Y,r.W,r.H)=some (t.foldl F (r.X,r.Y,r.W,r.H)):=by
    refine loop_fold t (flat_bounds_l1 t) (fun k=>((k : Int),(t.take k).foldl F (r.X,r.Y,r.W,r.H))) _ (fun k x hx=>?_) ?_
    · have hk:=(List.getElem?_eq_some_iff.1 hx).1
      unfold flat_bounds_l1
      have h1 : decide ((k : Int) < (t.length : Int))=true:=by simp; omega
      have e : t.take (k+1)=t.take k++[x]:=by rw [List.take_add_one,hx]; rfl
      simp only [h1,if_true,idx_of hx,Option.bind_some,e]
      rw [iadd_eq (a:=(k : Int)) (by omega) (by omega),List.foldl_append]
      rfl
    · simp [flat_bounds_l1]
  have hX : ∀ (t : List Rect) (s : Int×Int×Int×Int),(t.foldl F s).1=t.foldl (fun s r=>min s r.X) s.1∧(t.foldl F s).2.1=t.foldl (fun s r=>min s r.Y) s.2.1:=by
    intro t
    induction t with
    | nil=>intro s; exact ⟨rfl,rfl⟩
    | cons x t ih =>
      intro s
      simp only [List.foldl_cons]
      obtain ⟨a,b⟩:=ih (F s x)
      rw [a,b]
      have q1 : (F s x).1=min s.1 x.X:=imin_eq _ _
      have q2 : (F s x).2.1=min s.2.1 x.Y:=imin_eq _ _
      rw [q1,q2]
      exact ⟨rfl,rfl⟩
  obtain ⟨a,b⟩:=hX t (r.X,r.Y,r.W,r.H)
  refine ⟨(t.foldl F (r.X,r.Y,r.W,r.H)).2.2.1,(t.foldl F (r.X,r.Y,r.W,r.H)).2.2.2,(t.foldl F (r.X,r.Y,r.W,r.H)).1,(t.foldl F (r.X,r.Y,r.W,r.H)).2.1,(t.foldl F (r.X,r.Y,r.W,r.H)).2.2.1,(t.foldl F (r.X,r.Y,r.W,r.H)).2.2.2, ?_⟩
  unfold flat_bounds
  rw [i0]
  simp only [Option.bind_some,e1,key]
  have c1 : lowX l r.X=(t.foldl F (r.X,r.Y,r.W,r.H)).1:=by rw [a,hc]; unfold lowX; simp only [List.foldl_cons,Int.min_self]
  have c2 : lowY l r.Y=(t.foldl F (r.X,r.Y,r.W,r.H)).2.1:=by rw [b,hc]; unfold lowY; simp only [List.foldl_cons,Int.min_self]
  rw [c1,c2]
theorem low_in {a b : Int} {l : List Rect} (h : Good a b l) {r : Rect} {t : List Rect} (hc : l=r::t) : (a≤lowX l r.X∧lowX l r.X≤a+1048576∧-1048576≤lowX l r.X∧lowX l r.X≤1048576)∧(b≤lowY l r.Y∧lowY l r.Y≤b+1048576∧-1048576≤lowY l r.Y∧lowY l r.Y≤1048576):=by
  have hr : r ∈ l:=by rw [hc]; simp
  constructor
  · obtain ⟨x,hx,e⟩ : ∃ x ∈ l,lowX l r.X=x.X:=by
      rcases foldl_mem (l:=l) (g:=fun r=>r.X) (a:=r.X) with e | ⟨x,hx,e⟩
      · exact ⟨r,hr,e⟩
      · exact ⟨x,hx,e⟩
    have p:=h.2 x hx
    unfold vR inB at p
    omega
  · obtain ⟨x,hx,e⟩ : ∃ x ∈ l,lowY l r.Y=x.Y:=by
      rcases foldl_mem (l:=l) (g:=fun r=>r.Y) (a:=r.Y) with e | ⟨x,hx,e⟩
      · exact ⟨r,hr,e⟩
      · exact ⟨x,hx,e⟩
    have p:=h.2 x hx
    unfold vR inB at p
    omega
theorem chk1 {a b : Int} {l : List Rect} (h : Good a b l) : loopT (flat_check_l1 l) 0=some (.inr ()):=by
  have:=loop_anyS l (flat_check_l1 l) (fun k=>(k : Int)) (fun x=>!decide (vR x)) (.inr ()) (.inl ()) rfl (fun k x hx=>?_) ?_
  · refine this.trans ?_
    have : l.any (fun x=>!decide (vR x))=false:=by
      rw [List.any_eq_false]; intro x hx; simp [(h.2 x hx).1]
    rw [this]; rfl
  · have hk:=(List.getElem?_eq_some_iff.1 hx).1
    have:=h.1
    unfold flat_check_l1
    have h1 : decide ((k : Int) < (l.length : Int))=true:=by simp; omega
    simp only [h1,if_true,idx_of hx,Option.bind_some,ValidRect_eq]
    rw [iadd_eq (a:=(k : Int)) (by omega) (by omega)]
    rfl
  · simp [flat_check_l1]
theorem check_ok {a b : Int} {R C F : List Rect} (h1 : Good a b R) (h2 : Good a b C) (h3 : Good a b F) (h0 : 0 < R.length) : flat_check ⟨R,C,F,[]⟩=some 0:=by
  unfold flat_check
  have e0 : ((R.length : Int)==0)=false:=by rw [beq_eq_false_iff_ne]; omega
  have key : loopT (flat_check_l2 ⟨R,C,F,[]⟩) 0=some (.inr ()):=by
    have:=loop_anyS [R,C,F] (flat_check_l2 ⟨R,C,F,[]⟩) (fun k=>(k : Int)) (fun _=>false) (.inr ()) (.inl ()) rfl (fun k x hx=>?_) ?_
    · refine this.trans ?_; simp
    · have hk:=(List.getElem?_eq_some_iff.1 hx).1
      have hm : x=R∨x=C∨x=F:=by have:=List.mem_of_getElem? hx; simpa using this
      have hg : Good a b x:=by rcases hm with rfl | rfl | rfl <;> assumption
      have h4 : decide ((k : Int) < (([R,C,F] : List (List Rect)).length : Int))=true:=by rw [decide_eq_true_eq]; exact Int.ofNat_lt.2 hk
      have h5 : decide ((x.length : Int) > 48)=false:=by have:=hg.1; simp; omega
      have hk' : k < 3:=hk
      unfold flat_check_l2
      simp only [h4,if_true,idx_of hx,Option.bind_some,h5,Bool.false_eq_true,if_false,chk1 hg]
      rw [iadd_eq (a:=(k : Int)) (by omega) (by omega)]
      rfl
    · simp [flat_check_l2]
  have b0 : loopT (flat_check_l3 ⟨R,C,F,[]⟩) 0=some (.inr ()):=loop_out (by simp [flat_check_l3])
  simp only [e0,Bool.false_eq_true,if_false,key,b0,Option.bind_some]
theorem bends1 (f : Flat) (h : f.Bends=[]) (a b c d : Int) : loopT (flat_mapped__flat_settled_1__flat_settled_2_l1 f a b c d) (0,[])=some []:=by
  refine loop_out ?_
  unfold flat_mapped__flat_settled_1__flat_settled_2_l1
  rw [h]; rfl
theorem settled_eq {a b : Int} {R C F : List Rect} (h1 : Good a b R) (h2 : Good a b C) (h3 : Good a b F) {r : Rect} {t : List Rect} (hc : R=r::t) :
    flat_settled ⟨R,C,F,[]⟩=some (⟨R.map (mvR (ineg (lowX R r.X)) (ineg (lowY R r.Y))),C.map (mvR (ineg (lowX R r.X)) (ineg (lowY R r.Y))),F.map (mvR (ineg (lowX R r.X)) (ineg (lowY R r.Y))),[]⟩,0):=by
  obtain ⟨w,h,p,q,u,v,e⟩:=bounds_eq h1.1 hc
  obtain ⟨⟨lx1,lx2,lx3,lx4⟩,ly1,ly2,ly3,ly4⟩:=low_in h1 hc
  unfold flat_settled
  rw [e]
  simp only [Option.bind_some]
  unfold flat_mapped__flat_settled_1__flat_settled_2
  rw [bends1 _ rfl,settled_map h1 _ _ _ _ ⟨lx3,lx4⟩ ⟨ly3,ly4⟩,settled_map h2 _ _ _ _ ⟨lx3,lx4⟩ ⟨ly3,ly4⟩,settled_map h3 _ _ _ _ ⟨lx3,lx4⟩ ⟨ly3,ly4⟩]
  simp only [Option.bind_some]
  rw [check_ok (good_back h1 ⟨lx1,lx2⟩ ⟨ly1,ly2⟩ ⟨lx3,lx4⟩ ⟨ly3,ly4⟩) (good_back h2 ⟨lx1,lx2⟩ ⟨ly1,ly2⟩ ⟨lx3,lx4⟩ ⟨ly3,ly4⟩) (good_back h3 ⟨lx1,lx2⟩ ⟨ly1,ly2⟩ ⟨lx3,lx4⟩ ⟨ly3,ly4⟩) (by rw [List.length_map,hc]; simp)]
  rfl
theorem moved_eq {l : List Rect} (hl : l.length≤12) (x y : Int) : nest_moved l x y=some (l.map (mvR x y)):=by
  unfold nest_moved
  have hmk : mk (l.length : Int) (Rect.mk 0 0 0 0)=some (List.replicate l.length ⟨0,0,0,0⟩):=by
    unfold mk; rw [if_pos (by unfold LIM; omega)]; simp
  have hc : cpy (List.replicate l.length (Rect.mk 0 0 0 0)) 0 (List.take (min l.length (List.replicate l.length (Rect.mk 0 0 0 0)).length) l)=l:=by
    unfold cpy; simp
  rw [hmk]
  simp only [Option.bind_some,hc]
  have key : loopT (nest_moved_l1 l x y (List.replicate l.length ⟨0,0,0,0⟩)) (0,l)=some (l.map (mvR x y)):=by
    refine loop_fold l (nest_moved_l1 l x y (List.replicate l.length ⟨0,0,0,0⟩)) (fun k=>((k : Int),(l.take k).map (mvR x y)++l.drop k)) _ (fun k r hr=>?_) ?_
    · have hk:=(List.getElem?_eq_some_iff.1 hr).1
      unfold nest_moved_l1
      rw [hc]
      have h1 : decide ((k : Int) < (l.length : Int))=true:=by simp; omega
      have ht : ((l.take k).map (mvR x y)).length=k:=by simp; omega
      have ed : l.drop k=r::l.drop (k+1):=by rw [List.drop_eq_getElem_cons hk]; congr 1; exact (List.getElem?_eq_some_iff.1 hr).2
      have i1 : ∀ z : Rect,idx ((l.take k).map (mvR x y)++z::l.drop (k+1)) (k : Int)=some z:=fun z=>idx_of (by rw [List.getElem?_append_right (by omega),ht]; simp)
      have s1 : ∀ z z' : Rect,List.set ((l.take k).map (mvR x y)++z::l.drop (k+1)) k z'=(l.take k).map (mvR x y)++z'::l.drop (k+1):=fun z z'=>by rw [List.set_append_right _ _ (by omega),ht]; simp
      simp only [h1,if_true,ed,i1,s1,Option.bind_some,Int.toNat_natCast]
      rw [iadd_eq (a:=(k : Int)) (by omega) (by omega)]
      have e : l.take (k+1)=l.take k++[r]:=by rw [List.take_add_one,hr]; rfl
      rw [e,List.map_append,List.append_assoc]
      rfl
    · unfold nest_moved_l1
      rw [hc]
      simp
  rw [key]
  rfl
theorem Turned_eq {x : Piece} (h : VP x) (n : Nat) (hn : n≤3) {r : Rect} {t : List Rect} (hc : tq n x.Rects=r::t) : sheetmetalref06_Turned x (n : Int)=some (⟨x.Name,x.Material,x.Gauge,x.Grain,(tq n x.Rects).map (mvR (ineg (lowX (tq n x.Rects) r.X)) (ineg (lowY (tq n x.Rects) r.Y))),(tq n x.Cuts).map (mvR (ineg (lowX (tq n x.Rects) r.X)) (ineg (lowY (tq n x.Rects) r.Y))),(tq n x.Forms).map (mvR (ineg (lowX (tq n x.Rects) r.X)) (ineg (lowY (tq n x.Rects) r.Y)))⟩,x.Name,x.Material,x.Gauge,x.Grain):=by
  have g1 : Good 0 0 x.Rects:=⟨h.n1,h.v1⟩
  have g2 : Good 0 0 x.Cuts:=⟨h.n2,h.v2⟩
  have g3 : Good 0 0 x.Forms:=⟨h.n3,h.v3⟩
  have hl : (tq n x.Rects).length≤1000:=by rw [tq_length]; have:=h.n1; omega
  unfold sheetmetalref06_Turned sheetmetalref06_Move
  simp only [shift_eqG g1,shift_eqG g2,shift_eqG g3,mv0 g1,mv0 g2,mv0 g3,Option.bind_some,rturn_loop g1 g2 g3 n hn]
  have le:=least_eq ⟨x.Name,x.Material,x.Gauge,x.Grain,tq n x.Rects,[],[]⟩ (show (tq n x.Rects).length≤1000 from hl) (r:=r) (show (tq n x.Rects)[0]?=some r by rw [hc]; rfl)
  have le' : sheetmetalref06_least (tq n x.Rects)=some (lowX (tq n x.Rects) r.X,lowY (tq n x.Rects) r.Y):=le
  simp only [le',Option.bind_some,shift_eqG (g1.tq n),shift_eqG (g2.tq n),shift_eqG (g3.tq n)]
theorem Quarter_eq {x : Piece} (h : VP x) (n : Nat) (hn : n≤3) {r : Rect} {t : List Rect} (hc : tq n x.Rects=r::t) : flat_Quarter ⟨x.Rects,x.Cuts,x.Forms,[]⟩ (n : Int)=some (⟨(tq n x.Rects).map (mvR (ineg (lowX (tq n x.Rects) r.X)) (ineg (lowY (tq n x.Rects) r.Y))),(tq n x.Cuts).map (mvR (ineg (lowX (tq n x.Rects) r.X)) (ineg (lowY (tq n x.Rects) r.Y))),(tq n x.Forms).map (mvR (ineg (lowX (tq n x.Rects) r.X)) (ineg (lowY (tq n x.Rects) r.Y))),[]⟩,0):=by
  have g1 : Good 0 0 x.Rects:=⟨h.n1,h.v1⟩
  have g2 : Good 0 0 x.Cuts:=⟨h.n2,h.v2⟩
  have g3 : Good 0 0 x.Forms:=⟨h.n3,h.v3⟩
  unfold flat_Quarter
  have t1 : decide ((n : Int) < 0)=false:=by simp
  have t2 : decide ((n : Int) > 3)=false:=by simp; omega
  have t3 : loopT (flat_Quarter_l2 ⟨x.Rects,x.Cuts,x.Forms,[]⟩) ()=some ():=loop_out (by simp [flat_Quarter_l2])
  simp only [check_ok g1 g2 g3 h.n0,Option.bind_some,bne_self_eq_false,Bool.false_eq_true,if_false,t1,t2,turn_loop g1 g2 g3 n hn,t3,settled_eq (g1.tq n) (g2.tq n) (g3.tq n) hc]
theorem same_rects (l : List Rect) (hl : l.length≤1000) : sheetmetalref06_SameRects l l=some true:=by
  unfold sheetmetalref06_SameRects
  have key : loopT (sheetmetalref06_SameRects_l1 l l) 0=some (.inr ()):=by
    have:=loop_anyS l (sheetmetalref06_SameRects_l1 l l) (fun k=>(k : Int)) (fun _=>false) (.inr ()) (.inl ()) rfl (fun k x hx=>?_) ?_
    · refine this.trans ?_; simp
    · have hk:=(List.getElem?_eq_some_iff.1 hx).1
      unfold sheetmetalref06_SameRects_l1
      have h1 : decide ((k : Int) < (l.length : Int))=true:=by simp; omega
      simp only [h1,if_true,idx_of hx,Option.bind_some,beq_self_eq_true,Bool.and_self,Bool.not_true,Bool.false_eq_true,if_false]
      rw [iadd_eq (a:=(k : Int)) (by omega) (by omega)]
      rfl
    · simp [sheetmetalref06_SameRects_l1]
  rw [key]
  simp
theorem same_piece (p : Piece) (h1 : p.Rects.length≤1000) (h2 : p.Cuts.length≤1000) (h3 : p.Forms.length≤1000) : sheetmetalref06_SamePiece p p=some true:=by
  unfold sheetmetalref06_SamePiece
  simp [same_rects _ h1,same_rects _ h2,same_rects _ h3]
theorem Put_same (x : Piece) (p : Placement) : ∃ q c n m g k,nest_Put x p=some (q,c,n,m,g,k)∧sheetmetalref06_Put x p=some (q,c,n,m,g,k)∧q.Rects.length≤12∧q.Cuts.length≤12∧q.Forms.length≤12∧(c=0→0 < q.Rects.length):=by
  obtain ⟨b,b1,b2,b3⟩:=Piece_facts x
  unfold nest_Put sheetmetalref06_Put
  rw [b1,b2]
  simp only [Option.bind_some]
  by_cases hb : b=0
  · subst hb
    have h:=b3 rfl
    simp only [bne_self_eq_false,Bool.false_eq_true,if_false,from_eq,Option.bind_some,near_eq]
    by_cases q1 : p.Turn < 0
    · simp only [q1,show ¬ (0≤p.Turn∧p.Turn≤3) by omega,decide_false,decide_true,Bool.not_false,if_true,Option.bind_some]
      exact ⟨_,_,_,_,_,_,rfl,rfl,by simp,by simp,by simp,by decide⟩
    by_cases q2 : p.Turn > 3
    · simp only [q1,q2,show ¬ (0≤p.Turn∧p.Turn≤3) by omega,decide_false,decide_true,Bool.not_false,if_true,Option.bind_some,Bool.false_eq_true,if_false]
      exact ⟨_,_,_,_,_,_,rfl,rfl,by simp,by simp,by simp,by decide⟩
    obtain ⟨n,hn⟩ : ∃ n : Nat,p.Turn=n:=⟨p.Turn.toNat,by omega⟩
    have hn3 : n≤3:=by omega
    have w1 : ∀ z : Int,wb 1048576 z=decide (-1048576≤z∧z≤1048576):=fun z=>by
      rw [Bool.eq_iff_iff,wb_iff,decide_eq_true_eq]
    simp only [q1,q2,show (0≤p.Turn∧p.Turn≤3) by omega,and_self,decide_true,decide_false,Bool.not_true,Bool.false_eq_true,if_false,Option.bind_some,w1]
    by_cases q3 : -1048576≤p.X∧p.X≤1048576
    · by_cases q4 : -1048576≤p.Y∧p.Y≤1048576
      · simp only [q3,q4,and_self,decide_true,if_true,Bool.not_true,Option.bind_some,Bool.false_eq_true,if_false]
        have hl : (tq n x.Rects).length=x.Rects.length:=tq_length n _
        obtain ⟨r,t,hc⟩ : ∃ r t,tq n x.Rects=r::t:=by
          cases e : tq n x.Rects with
          | nil=>rw [e] at hl; have:=h.n0; simp at hl; omega
          | cons r t=>exact ⟨r,t,rfl⟩
        have hl2 : (tq n x.Cuts).length=x.Cuts.length:=tq_length n _
        have hl3 : (tq n x.Forms).length=x.Forms.length:=tq_length n _
        have g1 : Good 0 0 x.Rects:=⟨h.n1,h.v1⟩
        have g2 : Good 0 0 x.Cuts:=⟨h.n2,h.v2⟩
        have g3 : Good 0 0 x.Forms:=⟨h.n3,h.v3⟩
        obtain ⟨⟨lx1,lx2,lx3,lx4⟩,ly1,ly2,ly3,ly4⟩:=low_in (g1.tq n) hc
        have k1:=good_back (g1.tq n) ⟨lx1,lx2⟩ ⟨ly1,ly2⟩ ⟨lx3,lx4⟩ ⟨ly3,ly4⟩
        have k2:=good_back (g2.tq n) ⟨lx1,lx2⟩ ⟨ly1,ly2⟩ ⟨lx3,lx4⟩ ⟨ly3,ly4⟩
        have k3:=good_back (g3.tq n) ⟨lx1,lx2⟩ ⟨ly1,ly2⟩ ⟨lx3,lx4⟩ ⟨ly3,ly4⟩
        have hT:=Turned_eq h n hn3 hc
        have hQ:=Quarter_eq h n hn3 hc
        unfold nest_put
        rw [hn,hT,hQ]
        simp only [Option.bind_some,bne_self_eq_false,Bool.false_eq_true,if_false]
        generalize hA : (tq n x.Rects).map (mvR (ineg (lowX (tq n x.Rects) r.X)) (ineg (lowY (tq n x.Rects) r.Y)))=A at k1
        generalize hB : (tq n x.Cuts).map (mvR (ineg (lowX (tq n x.Rects) r.X)) (ineg (lowY (tq n x.Rects) r.Y)))=B at k2
        generalize hC : (tq n x.Forms).map (mvR (ineg (lowX (tq n x.Rects) r.X)) (ineg (lowY (tq n x.Rects) r.Y)))=C at k3
        unfold sheetmetalref06_Move
        have e1:=k1.1
        have e2:=k2.1
        have e3:=k3.1
        simp only [shift_eqG k1,shift_eqG k2,shift_eqG k3,moved_eq k1.1,moved_eq k2.1,moved_eq k3.1,Option.bind_some]
        rw [valid_eq _ (by rw [List.length_map]; omega),valid_eq _ (by rw [List.length_map]; omega),valid_eq _ (by rw [List.length_map]; omega),Rights_eq _ (by rw [List.length_map]; omega),Rights_eq _ (by rw [List.length_map]; omega),Rights_eq _ (by rw [List.length_map]; omega)]
        simp only [Option.bind_some]
        generalize ((A.map (mvR p.X p.Y)).any fun x=>!decide (vR x))=c1
        generalize ((B.map (mvR p.X p.Y)).any fun x=>!decide (vR x))=c2
        generalize ((C.map (mvR p.X p.Y)).any fun x=>!decide (vR x))=c3
        cases c1
        · cases c2
          · cases c3
            · exact ⟨_,_,_,_,_,_,rfl,rfl,by simp; omega,by simp; omega,by simp; omega,fun _=>by rw [List.length_map,← hA,List.length_map,hl]; exact h.n0⟩
            · exact ⟨_,_,_,_,_,_,rfl,rfl,by simp,by simp,by simp,by decide⟩
          · exact ⟨_,_,_,_,_,_,rfl,rfl,by simp,by simp,by simp,by decide⟩
        · exact ⟨_,_,_,_,_,_,rfl,rfl,by simp,by simp,by simp,by decide⟩
      · simp only [q3,q4,and_self,decide_true,decide_false,if_true,Bool.not_false,Option.bind_some]
        exact ⟨_,_,_,_,_,_,rfl,rfl,by simp,by simp,by simp,by decide⟩
    · simp only [q3,decide_false,Bool.false_eq_true,if_false,Option.bind_some,if_true]
      exact ⟨_,_,_,_,_,_,rfl,rfl,by simp,by simp,by simp,by decide⟩
  · have hb' : (b != 0)=true:=by rw [bne_iff_ne]; exact hb
    simp only [hb',if_true]
    exact ⟨_,_,_,_,_,_,rfl,rfl,by simp,by simp,by simp,fun e=>absurd e hb⟩
end Go.SM
