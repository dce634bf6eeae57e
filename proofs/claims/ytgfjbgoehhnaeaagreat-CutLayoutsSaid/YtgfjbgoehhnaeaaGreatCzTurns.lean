/- A piece that is turned twice. The law NestTurns, on the models. -/
import Derived.Test.YtgfjbgoehhnaeaaGreatCzPuts
set_option linter.unusedVariables false
set_option linter.unusedSimpArgs false
set_option linter.unusedSectionVars false
namespace Go.SM
open Go Go.VI
structure Iso (g : Rect→Rect) (l : List Rect) : Prop where
  v : ∀ a ∈ l,vR a→vR (g a)
  ov : ∀ a ∈ l,∀ b ∈ l,overl (g a) (g b)=overl a b
  to : ∀ a ∈ l,∀ b ∈ l,nest_touch (g a) (g b)=nest_touch a b
  de : ∀ a ∈ l,∀ b ∈ l,deepB (g a) (g b)=deepB a b
  ze : ∀ a ∈ l,∀ b ∈ l,zeroD (g a) (g b)=zeroD a b
  th : ∀ a ∈ l,(((g a).W==1) || ((g a).H==1))=((a.W==1) || (a.H==1))
def trR (x y : Int) (r : Rect) : Rect:=⟨r.X+x,r.Y+y,r.W,r.H⟩
theorem touch_eq {a b : Rect} (ha : vR a) (hb : vR b) : nest_touch a b=some (decide ((min (a.X+a.W) (b.X+b.W) - max a.X b.X=0∧min (a.Y+a.H) (b.Y+b.H) - max a.Y b.Y > 0)∨(min (a.Y+a.H) (b.Y+b.H) - max a.Y b.Y=0∧min (a.X+a.W) (b.X+b.W) - max a.X b.X > 0))):=by
  unfold vR at ha hb
  unfold nest_touch
  rw [iadd_eq (by omega) (by omega),iadd_eq (by omega) (by omega),iadd_eq (by omega) (by omega),iadd_eq (by omega) (by omega)]
  simp only [imin_eq,imax_eq]
  rw [isub_eq (by omega) (by omega),isub_eq (by omega) (by omega)]
  generalize min (a.X+a.W) (b.X+b.W) - max a.X b.X=w
  generalize min (a.Y+a.H) (b.Y+b.H) - max a.Y b.Y=h
  by_cases h1 : w=0
  · by_cases h2 : h > 0
    · simp [h1,h2]
    · by_cases h3 : h=0
      · simp [h1,h3]
      · simp [h1,h2,h3]
  · by_cases h3 : h=0
    · simp [h1,h3]
    · simp [h1,h3]
theorem deep_iff {a b : Rect} (ha : vR a) (hb : vR b) : deepB a b=decide (a.X > b.X∧a.Y > b.Y∧a.X+a.W < b.X+b.W∧a.Y+a.H < b.Y+b.H):=by
  unfold vR at ha hb
  unfold deepB
  rw [iadd_eq (by omega) (by omega),iadd_eq (by omega) (by omega),iadd_eq (by omega) (by omega),iadd_eq (by omega) (by omega)]
  by_cases h1 : a.X > b.X <;> by_cases h2 : a.Y > b.Y <;> by_cases h3 : a.X+a.W < b.X+b.W <;> simp [h1,h2,h3]
theorem iso_q {l : List Rect} (h : ∀ r ∈ l,vR r) : Iso qR l:=by
  refine ⟨fun a _ hv=>qR_v hv,fun a ha b hb=>?_,fun a ha b hb=>?_,fun a ha b hb=>?_,fun a ha b hb=>?_,fun a ha=>?_⟩
  · unfold overl
    refine decide_eq_decide.2 ?_
    have p1:=h a ha; have p2:=h b hb; have p3:=qR_v p1; have p4:=qR_v p2
    unfold ovR
    simp only [p1,p2,p3,p4,true_and]
    simp only [qR]
    omega
  · rw [touch_eq (qR_v (h a ha)) (qR_v (h b hb)),touch_eq (h a ha) (h b hb)]
    congr 1
    refine decide_eq_decide.2 ?_
    simp only [qR]
    omega
  · rw [deep_iff (qR_v (h a ha)) (qR_v (h b hb)),deep_iff (h a ha) (h b hb)]
    refine decide_eq_decide.2 ?_
    simp only [qR]
    omega
  · have p1:=h a ha; have p2:=h b hb; have p3:=qR_v p1; have p4:=qR_v p2
    have : distR (qR a) (qR b)=distR a b:=by
      unfold distR
      rw [if_pos ⟨p3,p4⟩,if_pos ⟨p1,p2⟩]
      simp only [qR]
      omega
    unfold zeroD; rw [this]
  · show ((a.H==1) || (a.W==1))=_
    exact Bool.or_comm _ _
theorem iso_t {l : List Rect} (x y : Int) (h : ∀ r ∈ l,vR r∧vR (trR x y r)) : Iso (trR x y) l:=by
  refine ⟨fun a ha _=>(h a ha).2,fun a ha b hb=>?_,fun a ha b hb=>?_,fun a ha b hb=>?_,fun a ha b hb=>?_,fun a ha=>rfl⟩
  · unfold overl
    refine decide_eq_decide.2 ?_
    have p1:=(h a ha).1; have p2:=(h b hb).1; have p3:=(h a ha).2; have p4:=(h b hb).2
    unfold ovR
    simp only [p1,p2,p3,p4,true_and]
    simp only [trR]
    omega
  · rw [touch_eq (h a ha).2 (h b hb).2,touch_eq (h a ha).1 (h b hb).1]
    congr 1
    refine decide_eq_decide.2 ?_
    simp only [trR]
    omega
  · rw [deep_iff (h a ha).2 (h b hb).2,deep_iff (h a ha).1 (h b hb).1]
    refine decide_eq_decide.2 ?_
    simp only [trR]
    omega
  · have : distR (trR x y a) (trR x y b)=distR a b:=by
      unfold distR
      rw [if_pos ⟨(h a ha).2,(h b hb).2⟩,if_pos ⟨(h a ha).1,(h b hb).1⟩]
      simp only [trR]
      omega
    unfold zeroD; rw [this]
theorem pair_map {g : Rect→Rect} {p : Rect→Rect→Bool} {l : List Rect} (h : ∀ a ∈ l,∀ b ∈ l,p (g a) (g b)=p a b) (k : Nat) : pairB p (l.map g) k=pairB p l k:=by
  unfold pairB
  rw [List.getElem?_map]
  cases e : l[k]? with
  | none=>rfl
  | some x =>
    have hx:=List.mem_of_getElem? e
    simp only [Option.map_some]
    rw [← List.map_take,List.any_map,Bool.eq_iff_iff,List.any_eq_true,List.any_eq_true]
    constructor
    · rintro ⟨y,hy,q⟩; exact ⟨y,hy,by rw [← h x hx y (List.mem_of_mem_take hy)]; exact q⟩
    · rintro ⟨y,hy,q⟩; exact ⟨y,hy,by show p (g x) (g y)=true; rw [h x hx y (List.mem_of_mem_take hy)]; exact q⟩
theorem idx_map {α β : Type} (g : α→β) (l : List α) (i : Int) : idx (l.map g) i=(idx l i).map g:=by
  unfold idx
  split
  · rw [List.getElem?_map]
  · rfl
theorem con_map {g : Rect→Rect} {l : List Rect} (h : ∀ a ∈ l,∀ b ∈ l,nest_touch (g a) (g b)=nest_touch a b) : nest_connected (l.map g)=nest_connected l:=by
  have mem : ∀ {i : Int} {x : Rect},idx l i=some x→x ∈ l:=fun {i x} e=>by
    unfold idx at e
    split at e
    · exact List.mem_of_getElem? e
    · cases e
  have b2 : ∀ x : Int,nest_connected_l2 (l.map g) x=nest_connected_l2 l x:=by
    intro x
    funext s
    unfold nest_connected_l2
    rw [List.length_map,idx_map,idx_map]
    cases e1 : idx l x with
    | none=>rfl
    | some u =>
      cases e2 : idx l s.1 with
      | none=>rfl
      | some w =>
        simp only [Option.map_some,Option.bind_some]
        rw [h u (mem e1) w (mem e2)]
  have b3 : nest_connected_l3 (l.map g)=nest_connected_l3 l:=by
    funext s
    unfold nest_connected_l3
    simp only [b2]
  unfold nest_connected
  rw [List.length_map,b3]
structure VG (R C F : List Rect) : Prop where
  n1 : R.length≤12
  n0 : 0 < R.length
  n2 : C.length≤12
  n3 : F.length≤12
  v : ∀ r ∈ R++(C++F),vR r
  ov : ∀ k,k < R.length→pairB overl R k=false
  co : nest_connected R=some true
  ho : ∀ k,k < (C++F).length→∃ x,(C++F)[k]?=some x∧R.any (deepB x)=true∧(k < C.length→((x.W==1) || (x.H==1))=false)
  ze : ∀ k,k < (C++F).length→pairB zeroD (C++F) k=false
theorem VG.map {R C F : List Rect} {g : Rect→Rect} (h : VG R C F) (i : Iso g (R++(C++F))) : VG (R.map g) (C.map g) (F.map g):=by
  have mR : ∀ {a : Rect},a ∈ R→a ∈ R++(C++F):=fun h=>List.mem_append.2 (.inl h)
  have mC : ∀ {a : Rect},a ∈ C++F→a ∈ R++(C++F):=fun h=>List.mem_append.2 (.inr h)
  refine ⟨by rw [List.length_map]; exact h.n1,by rw [List.length_map]; exact h.n0,by rw [List.length_map]; exact h.n2,by rw [List.length_map]; exact h.n3,fun r hr=>?_,fun k hk=>?_, ?_,fun k hk=>?_,fun k hk=>?_⟩
  · rw [← List.map_append,← List.map_append] at hr
    obtain ⟨a,ha,rfl⟩:=List.mem_map.1 hr
    exact i.v a ha (h.v a ha)
  · rw [pair_map (fun a ha b hb=>i.ov a (mR ha) b (mR hb))]
    exact h.ov k (by rw [List.length_map] at hk; exact hk)
  · rw [con_map (fun a ha b hb=>i.to a (mR ha) b (mR hb))]; exact h.co
  · rw [← List.map_append,List.length_map] at hk
    obtain ⟨x,h1,h2,h3⟩:=h.ho k hk
    have hx:=List.mem_of_getElem? h1
    refine ⟨g x,by rw [← List.map_append,List.getElem?_map,h1]; rfl, ?_,fun hc=>?_⟩
    · obtain ⟨r,hr,q⟩:=List.any_eq_true.1 h2
      rw [List.any_eq_true]
      exact ⟨g r,List.mem_map_of_mem hr,by rw [i.de x (mC hx) r (mR hr)]; exact q⟩
    · rw [i.th x (mC hx)]; exact h3 (by rw [List.length_map] at hc; exact hc)
  · rw [← List.map_append] at hk ⊢
    rw [pair_map (fun a ha b hb=>i.ze a (mC ha) b (mC hb))]
    exact h.ze k (by rw [List.length_map] at hk; exact hk)
theorem VG.tq {R C F : List Rect} (h : VG R C F) : ∀ n,VG (tq n R) (SM.tq n C) (SM.tq n F)
  | 0=>h
  | n+1=>(VG.tq h n).map (iso_q (VG.tq h n).v)
theorem valid_of {x : Piece} (hn : part_ValidName x.Name=some true) (hm : part_ValidName x.Material=some true) (hp : (1≤x.Gauge∧x.Gauge≤60)∧0≤x.Grain∧x.Grain≤2) (h : VG x.Rects x.Cuts x.Forms) {r : Rect} (hr : x.Rects[0]?=some r) (lx : lowX x.Rects r.X=0) (ly : lowY x.Rects r.Y=0) : nest_ValidatePiece x=some 0:=by
  have i0 : idx x.Rects 0=some r:=idx_of (k:=0) hr
  have k1:=h.n1; have k2:=h.n2; have k3:=h.n3; have k0:=h.n0
  have d1 : decide ((x.Rects.length : Int) > 12)=false:=by simp; omega
  have d2 : decide ((x.Cuts.length : Int) > 12)=false:=by simp; omega
  have d3 : decide ((x.Forms.length : Int) > 12)=false:=by simp; omega
  have d0 : ((x.Rects.length : Int)==0)=false:=by rw [beq_eq_false_iff_ne]; omega
  have any0 : ∀ l : List Rect,(∀ r ∈ l,vR r)→(l.any fun x=>!decide (vR x))=false:=fun l hl=>by
    rw [List.any_eq_false]; intro y hy; simp [hl y hy]
  have a1:=any0 x.Rects fun r hr=>h.v r (List.mem_append.2 (.inl hr))
  have a2:=any0 x.Cuts fun r hr=>h.v r (List.mem_append.2 (.inr (List.mem_append.2 (.inl hr))))
  have a3:=any0 x.Forms fun r hr=>h.v r (List.mem_append.2 (.inr (List.mem_append.2 (.inr hr))))
  have rng : ∀ (n : Nat) (p : Nat→Bool),(∀ k,k < n→p k=false)→(List.range n).any p=false:=fun n p hp=>by
    rw [List.any_eq_false]; intro k hk; rw [hp k (List.mem_range.1 hk)]; simp
  have r1:=rng _ _ h.ov
  have r2:=rng _ (badHole x (x.Cuts++x.Forms)) fun k hk=>by
    obtain ⟨y,h1,h2,h3⟩:=h.ho k hk
    unfold badHole
    rw [h1]
    simp only [h2,Bool.not_true,Bool.false_or]
    by_cases hc : k < x.Cuts.length
    · rw [h3 hc,Bool.and_false]
    · have : decide ((k : Int) < (x.Cuts.length : Int))=false:=by simp; omega
      rw [this,Bool.false_and]
  have r3:=rng _ _ h.ze
  have ap1 : app [] x.Cuts=some x.Cuts:=by rw [app_eq (by unfold LIM; simp; omega)]; rfl
  have ap2 : app x.Cuts x.Forms=some (x.Cuts++x.Forms):=app_eq (by unfold LIM; omega)
  have k4 : (x.Cuts++x.Forms).length≤1000:=by simp; omega
  unfold nest_ValidatePiece
  simp only [hn,hm,plain_eq,hp,and_self,decide_true,Bool.not_true,Bool.false_eq_true,if_true,if_false,Option.bind_some,d1,d2,d3,d0,valid_eq x.Rects (by omega),valid_eq x.Cuts (by omega),valid_eq x.Forms (by omega),a1,a2,a3,Bool.not_false,i0,low_loop x (by omega),lx,ly,bne_self_eq_false,ov3 x (by omega),r1,h.co]
  unfold nest_inside
  simp only [ap1,ap2,Option.bind_some,hole_loop x _ k4 (show x.Rects.length≤1000 by omega),r2,in3 _ k4,r3,Bool.false_eq_true,if_false]
theorem of_valid {x : Piece} (h : nest_ValidatePiece x=some 0) : part_ValidName x.Name=some true∧part_ValidName x.Material=some true∧((1≤x.Gauge∧x.Gauge≤60)∧0≤x.Grain∧x.Grain≤2)∧VG x.Rects x.Cuts x.Forms:=by
  obtain ⟨a,ha,_⟩:=Name_same x.Name
  obtain ⟨b,hb,_⟩:=Name_same x.Material
  obtain ⟨z,hz,_,hv⟩:=Piece_facts x
  have vp:=hv (Option.some.inj (hz.symm.trans h))
  obtain ⟨cn,c1,_⟩:=connected_same (l:=x.Rects) (by have:=vp.n1; omega) vp.n0
  unfold nest_ValidatePiece at h
  rw [ha,hb] at h
  cases a with
  | false=>exact absurd (Option.some.inj h) (by decide)
  | true =>
  cases b with
  | false=>exact absurd (Option.some.inj h) (by decide)
  | true =>
  have k1:=vp.n1; have k2:=vp.n2; have k3:=vp.n3; have k0:=vp.n0
  have d1 : decide ((x.Rects.length : Int) > 12)=false:=by simp; omega
  have d2 : decide ((x.Cuts.length : Int) > 12)=false:=by simp; omega
  have d3 : decide ((x.Forms.length : Int) > 12)=false:=by simp; omega
  have d0 : ((x.Rects.length : Int)==0)=false:=by rw [beq_eq_false_iff_ne]; omega
  have any0 : ∀ l : List Rect,(∀ r ∈ l,vR r)→(l.any fun x=>!decide (vR x))=false:=fun l hl=>by
    rw [List.any_eq_false]; intro y hy; simp [hl y hy]
  have a1:=any0 x.Rects fun r hr=>(vp.v1 r hr).1
  have a2:=any0 x.Cuts fun r hr=>(vp.v2 r hr).1
  have a3:=any0 x.Forms fun r hr=>(vp.v3 r hr).1
  have hr : x.Rects[0]?=some (x.Rects[0]'k0):=by simp [k0]
  have i0 : idx x.Rects 0=some (x.Rects[0]'k0):=idx_of (k:=0) hr
  have ap1 : app [] x.Cuts=some x.Cuts:=by rw [app_eq (by unfold LIM; simp; omega)]; rfl
  have ap2 : app x.Cuts x.Forms=some (x.Cuts++x.Forms):=app_eq (by unfold LIM; omega)
  have k4 : (x.Cuts++x.Forms).length≤1000:=by simp; omega
  simp only [plain_eq,Option.bind_some,Bool.not_true,if_true,Bool.false_eq_true,if_false,d1,d2,d3,d0,valid_eq x.Rects (by omega),valid_eq x.Cuts (by omega),valid_eq x.Forms (by omega),a1,a2,a3,Bool.not_false,i0,low_loop x (show x.Rects.length≤1000 by omega),ov3 x (show x.Rects.length≤1000 by omega),c1] at h
  unfold nest_inside at h
  simp only [ap1,ap2,Option.bind_some,hole_loop x _ k4 (show x.Rects.length≤1000 by omega),in3 _ k4] at h
  by_cases hp : (1≤x.Gauge∧x.Gauge≤60)∧0≤x.Grain∧x.Grain≤2
  · refine ⟨ha,hb,hp, ?_⟩
    simp only [hp,and_self,decide_true,Bool.not_true,Bool.false_eq_true,if_false] at h
    cases e1 : (lowX x.Rects (x.Rects[0]'k0).X != 0)
    · cases e2 : (lowY x.Rects (x.Rects[0]'k0).Y != 0)
      · cases e3 : (List.range x.Rects.length).any (pairB overl x.Rects)
        · cases cn
          · simp [e1,e2,e3] at h
          · cases e4 : (List.range (x.Cuts++x.Forms).length).any (badHole x (x.Cuts++x.Forms))
            · cases e5 : (List.range (x.Cuts++x.Forms).length).any (pairB zeroD (x.Cuts++x.Forms))
              · have rng : ∀ {n : Nat} {p : Nat→Bool},(List.range n).any p=false→∀ k,k < n→p k=false:=fun {n p} hp k hk=>by
                  have:=List.any_eq_false.1 hp k (List.mem_range.2 hk); simpa using this
                refine ⟨k1,k0,k2,k3,fun r hr=>?_,rng e3,c1,fun k hk=>?_,rng e5⟩
                · rcases List.mem_append.1 hr with hr | hr
                  · exact (vp.v1 r hr).1
                  · rcases List.mem_append.1 hr with hr | hr
                    · exact (vp.v2 r hr).1
                    · exact (vp.v3 r hr).1
                · have q:=rng e4 k hk
                  unfold badHole at q
                  have hx : (x.Cuts++x.Forms)[k]?=some (x.Cuts++x.Forms)[k]:=by simp
                  rw [hx] at q
                  simp only [Bool.or_eq_false_iff] at q
                  refine ⟨_,hx,by have:=q.1; simpa using this,fun hc=>?_⟩
                  have hd : decide ((k : Int) < (x.Cuts.length : Int))=true:=by simp; omega
                  have:=q.2
                  rw [hd,Bool.true_and] at this
                  exact this
              · simp only [e1,e2,e3,e4,e5,Bool.not_true,Bool.false_eq_true,if_false,if_true,Option.bind_some] at h
                exact absurd (Option.some.inj h) (by decide)
            · simp only [e1,e2,e3,e4,Bool.not_true,Bool.false_eq_true,if_false,if_true,Option.bind_some] at h
              exact absurd (Option.some.inj h) (by decide)
        · simp [e1,e2,e3] at h
      · simp [e1,e2] at h
    · simp [e1] at h
  · simp only [hp,decide_false,Bool.not_false,if_true] at h
    exact absurd (Option.some.inj h) (by decide)
def lo (l : List Rect) : Int×Int:=match l with
  | []=>(0,0)
  | r::_=>(lowX l r.X,lowY l r.Y)
def nrm (R l : List Rect) : List Rect:=l.map (trR (-(lo R).1) (-(lo R).2))
theorem foldl_add (g : Rect→Int) (f : Rect→Rect) (d : Int) (hf : ∀ r,g (f r)=g r+d) : ∀ (l : List Rect) (a : Int),(l.map f).foldl (fun s r=>min s (g r)) (a+d)=l.foldl (fun s r=>min s (g r)) a+d
  | [],a=>rfl
  | r::l,a=>by
    simp only [List.map_cons,List.foldl_cons,hf]
    rw [← foldl_add g f d hf l (min a (g r))]
    congr 1
    omega
theorem lo_tr {R : List Rect} (hne : R≠[]) (x y : Int) : lo (R.map (trR x y))=((lo R).1+x,(lo R).2+y):=by
  cases R with
  | nil=>exact absurd rfl hne
  | cons r t =>
    have h1:=foldl_add (fun r=>r.X) (trR x y) x (fun _=>rfl) (r::t) r.X
    have h2:=foldl_add (fun r=>r.Y) (trR x y) y (fun _=>rfl) (r::t) r.Y
    exact Prod.ext h1 h2
theorem lo_nrm {R : List Rect} (hne : R≠[]) : lo (nrm R R)=(0,0):=by
  unfold nrm
  rw [lo_tr hne]
  refine Prod.ext ?_ ?_ <;> simp only <;> omega
theorem tq_ne {l : List Rect} (n : Nat) (h : 0 < l.length) : tq n l≠[]:=by
  intro e
  have:=tq_length n l
  rw [e] at this; simp at this; omega
def trn (n : Nat) (R l : List Rect) : List Rect:=nrm (tq n R) (tq n l)
theorem tr_mv {a b mx my : Int} {l : List Rect} (h : Good a b l) (hx : -1048576≤mx∧mx≤1048576) (hy : -1048576≤my∧my≤1048576) : l.map (mvR (ineg mx) (ineg my))=l.map (trR (-mx) (-my)):=by
  refine List.map_congr_left fun r hr=>?_
  have hv:=(h.2 r hr).1
  unfold vR at hv
  unfold mvR trR
  rw [ineg_eq (by omega) (by omega),ineg_eq (by omega) (by omega),iadd_eq (by omega) (by omega),iadd_eq (by omega) (by omega)]
theorem Put_at0 {x : Piece} (hx : nest_ValidatePiece x=some 0) (n : Nat) (hn : n≤3) : nest_Put x ⟨0,0,0,0,(n : Int)⟩=some (⟨x.Name,x.Material,x.Gauge,x.Grain,trn n x.Rects x.Rects,trn n x.Rects x.Cuts,trn n x.Rects x.Forms⟩,0,x.Name,x.Material,x.Gauge,x.Grain)∧nest_ValidatePiece ⟨x.Name,x.Material,x.Gauge,x.Grain,trn n x.Rects x.Rects,trn n x.Rects x.Cuts,trn n x.Rects x.Forms⟩=some 0:=by
  obtain ⟨z,hz,_,hv⟩:=Piece_facts x
  have h:=hv (Option.some.inj (hz.symm.trans hx))
  obtain ⟨hn1,hn2,hn3,vg⟩:=of_valid hx
  have g1 : Good 0 0 x.Rects:=⟨h.n1,h.v1⟩
  have g2 : Good 0 0 x.Cuts:=⟨h.n2,h.v2⟩
  have g3 : Good 0 0 x.Forms:=⟨h.n3,h.v3⟩
  obtain ⟨r,t,hc⟩ : ∃ r t,tq n x.Rects=r::t:=by
    cases e : tq n x.Rects with
    | nil=>exact absurd e (tq_ne n h.n0)
    | cons r t=>exact ⟨r,t,rfl⟩
  obtain ⟨⟨lx1,lx2,lx3,lx4⟩,ly1,ly2,ly3,ly4⟩:=low_in (g1.tq n) hc
  have k1:=good_back (g1.tq n) ⟨lx1,lx2⟩ ⟨ly1,ly2⟩ ⟨lx3,lx4⟩ ⟨ly3,ly4⟩
  have k2:=good_back (g2.tq n) ⟨lx1,lx2⟩ ⟨ly1,ly2⟩ ⟨lx3,lx4⟩ ⟨ly3,ly4⟩
  have k3:=good_back (g3.tq n) ⟨lx1,lx2⟩ ⟨ly1,ly2⟩ ⟨lx3,lx4⟩ ⟨ly3,ly4⟩
  have hlo : lo (tq n x.Rects)=(lowX (tq n x.Rects) r.X,lowY (tq n x.Rects) r.Y):=by
    rw [show lo (tq n x.Rects)=lo (r::t) by rw [hc],lo,hc]
  have hQ:=Quarter_eq h n hn hc
  rw [tr_mv (g1.tq n) ⟨lx3,lx4⟩ ⟨ly3,ly4⟩,tr_mv (g2.tq n) ⟨lx3,lx4⟩ ⟨ly3,ly4⟩,tr_mv (g3.tq n) ⟨lx3,lx4⟩ ⟨ly3,ly4⟩] at hQ
  rw [tr_mv (g1.tq n) ⟨lx3,lx4⟩ ⟨ly3,ly4⟩] at k1
  rw [tr_mv (g2.tq n) ⟨lx3,lx4⟩ ⟨ly3,ly4⟩] at k2
  rw [tr_mv (g3.tq n) ⟨lx3,lx4⟩ ⟨ly3,ly4⟩] at k3
  have e1 : trn n x.Rects x.Rects=(tq n x.Rects).map (trR (-(lowX (tq n x.Rects) r.X)) (-(lowY (tq n x.Rects) r.Y))):=by unfold trn nrm; rw [hlo]
  have e2 : trn n x.Rects x.Cuts=(tq n x.Cuts).map (trR (-(lowX (tq n x.Rects) r.X)) (-(lowY (tq n x.Rects) r.Y))):=by unfold trn nrm; rw [hlo]
  have e3 : trn n x.Rects x.Forms=(tq n x.Forms).map (trR (-(lowX (tq n x.Rects) r.X)) (-(lowY (tq n x.Rects) r.Y))):=by unfold trn nrm; rw [hlo]
  rw [← e1,← e2,← e3] at hQ
  rw [← e1] at k1
  rw [← e2] at k2
  rw [← e3] at k3
  have any0 : ∀ {a b : Int} {l : List Rect},Good a b l→(l.any fun x=>!decide (vR x))=false:=fun {a b l} hl=>by
    rw [List.any_eq_false]; intro y hy; simp [(hl.2 y hy).1]
  have n1:=k1.1; have n2:=k2.1; have n3:=k3.1
  refine ⟨?_, ?_⟩
  · unfold nest_Put
    simp only [hx,Option.bind_some,bne_self_eq_false,Bool.false_eq_true,if_false,from_eq,show (0≤(n : Int)∧(n : Int)≤3) by omega,show ((-1048576 : Int)≤0∧(0 : Int)≤1048576) by omega,and_self,decide_true,Bool.not_true,if_true]
    unfold nest_put
    simp only [hQ,Option.bind_some,bne_self_eq_false,Bool.false_eq_true,if_false,moved_eq k1.1,moved_eq k2.1,moved_eq k3.1,mv0 k1,mv0 k2,mv0 k3,valid_eq _ (show (trn n x.Rects x.Rects).length≤9223372036854775806 by omega),valid_eq _ (show (trn n x.Rects x.Cuts).length≤9223372036854775806 by omega),valid_eq _ (show (trn n x.Rects x.Forms).length≤9223372036854775806 by omega),any0 k1,any0 k2,any0 k3,Bool.not_false,Bool.not_true,if_true]
  · have hvg : VG (trn n x.Rects x.Rects) (trn n x.Rects x.Cuts) (trn n x.Rects x.Forms):=by
      rw [e1,e2,e3]
      refine (VG.tq vg n).map (iso_t _ _ fun a ha=>⟨(VG.tq vg n).v a ha, ?_⟩)
      rcases List.mem_append.1 ha with ha | ha
      · exact (k1.2 _ (by rw [e1]; exact List.mem_map_of_mem ha)).1
      · rcases List.mem_append.1 ha with ha | ha
        · exact (k2.2 _ (by rw [e2]; exact List.mem_map_of_mem ha)).1
        · exact (k3.2 _ (by rw [e3]; exact List.mem_map_of_mem ha)).1
    have hl0:=lo_nrm (tq_ne n h.n0 : tq n x.Rects≠[])
    have hl0' : lo (trn n x.Rects x.Rects)=(0,0):=hl0
    cases hA : trn n x.Rects x.Rects with
    | nil=>have:=hvg.n0; rw [hA] at this; simp at this
    | cons r' t' =>
      rw [hA] at hl0'
      have q1 : lowX (r'::t') r'.X=0:=congrArg Prod.fst hl0'
      have q2 : lowY (r'::t') r'.Y=0:=congrArg Prod.snd hl0'
      exact valid_of (x:=⟨x.Name,x.Material,x.Gauge,x.Grain,r'::t',trn n x.Rects x.Cuts,trn n x.Rects x.Forms⟩) hn1 hn2 hn3 (by rw [← hA]; exact hvg) (r:=r') rfl q1 q2
theorem Put_bad {x : Piece} {c n m g h q} {p : Placement} (hp : nest_Put x p=some (q,c,n,m,g,h)) (hc : c=0) : nest_ValidatePiece x=some 0∧0≤p.Turn∧p.Turn≤3:=by
  subst hc
  obtain ⟨b,b1,_,_⟩:=Piece_facts x
  unfold nest_Put at hp
  rw [b1] at hp
  by_cases hb : b=0
  · subst hb
    simp only [Option.bind_some,bne_self_eq_false,Bool.false_eq_true,if_false,from_eq] at hp
    by_cases ht : 0≤p.Turn∧p.Turn≤3
    · exact ⟨b1,ht⟩
    · simp [ht] at hp
  · have hb' : (b != 0)=true:=by rw [bne_iff_ne]; exact hb
    simp only [Option.bind_some,hb',if_true] at hp
    have:=congrArg (fun o=>(o.getD (q,0,n,m,g,h)).2.1) hp
    exact absurd this hb
end Go.SM
