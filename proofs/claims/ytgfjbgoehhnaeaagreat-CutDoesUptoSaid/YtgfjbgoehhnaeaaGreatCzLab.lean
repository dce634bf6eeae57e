/- Which piece lies where; what lies on the two sides of a line; its runs. -/
import Derived.Test.YtgfjbgoehhnaeaaGreatCzGrid
set_option linter.unusedVariables false
set_option linter.unusedSimpArgs false
set_option linter.unusedSectionVars false
namespace Go.SM
open Go Go.VI Go.Cells
def Ad (R:List (List Rect)) (x y:Int):Option Nat:=R.findIdx? fun l=>cov l x y
def Uf (o:Option Nat):Option Int:=o.map fun i=>(i:Int)
def lM (R:List (List Rect)) (x y:Int):Option Int:=Uf (Ad R x y)
def LG (R:List (List Rect)) (x y:Int):Int:=match Ad R x y with
  | some i=>(i:Int)
  | none=>-1
theorem E9 (R:List (List Rect)) (x y:Int):LG R x y=match lM R x y with | some i=>i | none=>-1:=by
  unfold LG lM Uf
  cases Ad R x y <;> rfl
theorem XW {R:List (List Rect)} {x y:Int} {i:Nat} (h:Ad R x y=some i):i<R.length:=by
  unfold Ad at h
  exact (List.findIdx?_eq_some_iff_getElem.1 h).1
theorem AX {R:List (List Rect)} {x y x' y':Int} (h:∀ l ∈ R,cov l x y=cov l x' y'):Ad R x y=Ad R x' y':=by
  unfold Ad
  have:∀ R:List (List Rect),(∀ l ∈ R,cov l x y=cov l x' y')→R.findIdx? (fun l=>cov l x y)=R.findIdx? fun l=>cov l x' y':=by
    intro R
    induction R with
    | nil=>intro _;rfl
    | cons l R ih =>
      intro h
      rw [List.findIdx?_cons,List.findIdx?_cons,h l List.mem_cons_self,ih fun k hk=>h k (List.mem_cons_of_mem _ hk)]
  exact this R h
theorem Wp {α R:Type} (l:List α) (body:Int→Option (Int ⊕ R)) (q:α→Bool) (yes:Nat→R) (no:R) (step:∀ (k:Nat) (x:α),l[k]?=some x→body k=if q x then some (.inr (yes k)) else some (.inl ((k+1:Nat):Int))) (fin:body (l.length:Int)=some (.inr no)) :
    aM body 0=some (match l.findIdx? q with | some i=>yes i | none=>no):=by
  have key:∀ (m k:Nat),k+m=l.length→aM body (k:Int)=some (match (l.drop k).findIdx? q with | some i=>yes (k+i) | none=>no):=by
    intro m
    induction m with
    | zero =>
      intro k h;obtain rfl:k=l.length:=by omega
      rw [List.drop_length,fU fin];rfl
    | succ m ih =>
      intro k h
      have hk:k<l.length:=by omega
      have hx:l[k]?=some l[k]:=by simp
      have hs:=step k _ hx
      rw [List.drop_eq_getElem_cons hk,List.findIdx?_cons]
      cases hq:q l[k] with
      | true=>rw [hq] at hs;rw [fU hs];simp
      | false =>
        rw [hq] at hs
        rw [lQ hs,ih (k+1) (by omega)]
        cases (l.drop (k+1)).findIdx? q with
        | none=>rfl
        | some i=>simp;congr 1;omega
  have:=key l.length 0 (by omega)
  simpa using this
structure Lay (R:List (List Rect)) (xs ys:List Int):Prop where
  x:Dt xs (xsL R.flatten)
  y:Dt ys (ysL R.flatten)
  v:CE R.flatten
  n:R.flatten.length≤400
  m:R.length≤900
section
variable {R:List (List Rect)} {xs ys:List Int} (h:Lay R xs ys)
include h
theorem Lay.has {l:List Rect} (hl:l ∈ R):Has xs ys l:=UF h.v h.n h.x h.y fun r hr=>List.mem_flatten.2 ⟨l,hl,hr⟩
theorem Lay.J3:Has xs ys R.flatten:=UF h.v h.n h.x h.y fun r hr=>hr
theorem Lay.X:Lines xs:=h.J3.X
theorem Lay.Y:Lines ys:=h.J3.Y
theorem F3 {x y:Int} {i:Nat} (hc:Ad R x y=some i):(∃ a ∈ xs,a≤x)∧(∃ a ∈ xs,x<a)∧(∃ a ∈ ys,a≤y)∧(∃ a ∈ ys,y<a):=by
  unfold Ad at hc
  obtain ⟨hi,h1,_⟩:=List.findIdx?_eq_some_iff_getElem.1 hc
  exact XC (h.has (List.getElem_mem hi)) h1
theorem NR:Iu (fun x=>Ad R x) xs:=Xe (C:=fun c=>c ∈ xsL R.flatten) (fun x z hxz hC=>funext fun y=>AX fun l hl=>Zc fun r hr=>by
  have hrm:r ∈ R.flatten:=List.mem_flatten.2 ⟨l,hl,hr⟩
  have h1:=hC _ (GG hrm).1
  have h2:=hC _ (GG hrm).2
  show ((decide (r.X≤z)&&decide (z<r.X+r.W))&&_)=((decide (r.X≤x)&&decide (x<r.X+r.W))&&_)
  rw [show decide (r.X≤z)=decide (r.X≤x) from by simp only [h1],show decide (z<r.X+r.W)=decide (x<r.X+r.W) from by
    have:(z<r.X+r.W)=(x<r.X+r.W):=by apply propext;omega
    simp only [this]]) xs h.X.asc fun c hc=>.inr ((h.x.2 c).2 hc)
theorem NS:Iu (fun y=>fun x=>Ad R x y) ys:=Xe (C:=fun c=>c ∈ ysL R.flatten) (fun y z hyz hC=>funext fun x=>AX fun l hl=>Zc fun r hr=>by
  have hrm:r ∈ R.flatten:=List.mem_flatten.2 ⟨l,hl,hr⟩
  have h1:=hC _ (GH hrm).1
  have h2:=hC _ (GH hrm).2
  show (_&&(decide (r.Y≤z)&&decide (z<r.Y+r.H)))=(_&&(decide (r.Y≤y)&&decide (y<r.Y+r.H)))
  rw [show decide (r.Y≤z)=decide (r.Y≤y) from by simp only [h1],show decide (z<r.Y+r.H)=decide (y<r.Y+r.H) from by
    have:(z<r.Y+r.H)=(y<r.Y+r.H):=by apply propext;omega
    simp only [this]]) ys h.Y.asc fun c hc=>.inr ((h.y.2 c).2 hc)
end
def num:Option Int→Int
  | none=>0
  | some i=>i+1
def cod (a b:Option Int):Int:=if a=b then 0 else num a*1000+num b
theorem FP {a b:Option Int} (ha:∀ i,a=some i→0≤i) (hb:∀ i,b=some i→0≤i) (h:num a=num b):a=b:=by
  cases a with
  | none=>cases b with
    | none=>rfl
    | some j=>have:=hb j rfl;simp only [num] at h;omega
  | some i=>cases b with
    | none=>have:=ha i rfl;simp only [num] at h;omega
    | some j=>simp only [num] at h;rw [show i=j by omega]
def SmO (a:Option Int):Prop:=∀ i,a=some i→0≤i∧i<900
theorem Wq {a:Option Int} (h:SmO a):0≤num a∧num a≤900:=by
  cases a with
  | none=>simp [num]
  | some i=>have:=h i rfl;simp only [num];omega
theorem HZ {a b:Option Int} (ha:SmO a) (hb:SmO b):cod a b=0↔a=b:=by
  unfold cod
  constructor
  · intro h
    split at h
    · assumption
    · have:=Wq ha;have:=Wq hb
      exact FP (fun i e=>(ha i e).1) (fun i e=>(hb i e).1) (by omega)
  · intro h;rw [if_pos h]
theorem XB {a b a' b':Option Int} (ha:SmO a) (hb:SmO b) (ha':SmO a') (hb':SmO b') (h0:cod a b≠0) (h:cod a b=cod a' b'):a=a'∧b=b':=by
  have h0':cod a' b'≠0:=by rw [← h];exact h0
  unfold cod at h h0 h0'
  split at h
  · rename_i e;rw [if_pos e] at h0;exact absurd rfl h0
  · split at h
    · rename_i e;rw [if_pos e] at h0';exact absurd rfl h0'
    · have:=Wq ha;have:=Wq hb;have:=Wq ha';have:=Wq hb'
      exact ⟨FP (fun i e=>(ha i e).1) (fun i e=>(ha' i e).1) (by omega),FP (fun i e=>(hb i e).1) (fun i e=>(hb' i e).1) (by omega)⟩
theorem Io {R:List (List Rect)} (hm:R.length≤900) (x y:Int):SmO (lM R x y):=fun i h=>by
  unfold lM Uf at h
  cases e:Ad R x y with
  | none=>rw [e] at h;cases h
  | some j=>rw [e] at h;have:=XW e;simp at h;omega
def hS (R:List (List Rect)) (y:Int) (z:Int):Int:=cod (lM R z y) (lM R z (y-1))
def vS (R:List (List Rect)) (x:Int) (z:Int):Int:=cod (lM R x z) (lM R (x-1) z)
noncomputable def sJ (s:Int→Int):List (Int×Int):=open Classical in if h:∃ L,qU s L then Classical.choose h else []
theorem Vn {s:Int→Int} {L:List (Int×Int)} (h:qU s L):sJ s=L:=by
  unfold sJ
  have hx:∃ L,qU s L:=⟨L,h⟩
  rw [dif_pos hx]
  exact JW (Classical.choose_spec hx) h
theorem Nb {β γ:Type} (f:β→γ) {g:Int→β}:∀ {l:List Int},Iu g l→Iu (fun x=>f (g x)) l
  | [],_=>trivial
  | [_],_=>trivial
  | _::_::_,h=>⟨h.1,fun z a b=>congrArg f (h.2.1 z a b),Nb f h.2.2⟩
theorem Bj {β:Type} {f:Int→β}:∀ {xs:List Int},Iu f xs→∀ {k:Nat} {x x':Int},xs[k]?=some x→xs[k+1]?=some x'→x<x'∧∀ z,x≤z→z<x'→f z=f x
  | [],_,k,x,x',h,_=>by simp at h
  | [_],_,k,x,x',_,h=>by simp at h
  | a::b::t,hs,0,x,x',h,h'=>by
    simp at h h'
    subst h h'
    exact ⟨hs.1,hs.2.1⟩
  | a::b::t,hs,k+1,x,x',h,h'=>by
    simp only [List.getElem?_cons_succ] at h h'
    exact Bj hs.2.2 h h'
structure Al (A B:Int→Option Int) (xs:List Int):Prop where
  st:Iu (fun z=>(A z,B z)) xs
  len:xs.length≤1000
  sa:∀ z,SmO (A z)
  sb:∀ z,SmO (B z)
  low:∀ x0,xs[0]?=some x0→∀ z,z<x0→A z=none∧B z=none
  high:∀ x1,xs[xs.length-1]?=some x1→∀ z,x1≤z→A z=none∧B z=none
  emp:xs=[]→∀ z,A z=none∧B z=none
theorem DF {g:List Int} {a b:Int} (hg:g.Pairwise fun x y=>x<y) (ha:g[0]?=some a) (hb:b ∈ g):a≤b:=by
  obtain ⟨i,hi⟩:=List.mem_iff_getElem?.1 hb
  rcases Nat.eq_zero_or_pos i with q | q
  · subst q;rw [ha] at hi;injection hi with hi;omega
  · have:=Uc hg q ha hi;omega
theorem GX {g:List Int} {a b:Int} (hg:g.Pairwise fun x y=>x<y) (ha:g[g.length-1]?=some a) (hb:b ∈ g):b≤a:=by
  obtain ⟨i,hi⟩:=List.mem_iff_getElem?.1 hb
  have:=bC hi
  by_cases q:i=g.length-1
  · subst q;rw [ha] at hi;injection hi with hi;omega
  · have:=Uc hg (show i<g.length-1 by omega) hi ha;omega
section
variable {R:List (List Rect)} {xs ys:List Int} (h:Lay R xs ys)
include h
theorem Yo:(∀ x0,xs[0]?=some x0→∀ x y,x<x0→Ad R x y=none)∧(∀ x1,xs[xs.length-1]?=some x1→∀ x y,x1≤x→Ad R x y=none)∧(xs=[]→∀ x y,Ad R x y=none) ∧
    (∀ y0,ys[0]?=some y0→∀ x y,y<y0→Ad R x y=none)∧(∀ y1,ys[ys.length-1]?=some y1→∀ x y,y1≤y→Ad R x y=none)∧(ys=[]→∀ x y,Ad R x y=none):=by
  have no:∀ {x y:Int},(∀ i,Ad R x y≠some i)→Ad R x y=none:=fun {x y} hn=>by
    cases e:Ad R x y with
    | none=>rfl
    | some i=>exact absurd e (hn i)
  refine ⟨fun x0 h0 x y hx=>no fun i e=>?_,fun x0 h0 x y hx=>no fun i e=>?_,fun h0 x y=>no fun i e=>?_,fun x0 h0 x y hx=>no fun i e=>?_,fun x0 h0 x y hx=>no fun i e=>?_,fun h0 x y=>no fun i e=>?_⟩ <;> obtain ⟨⟨a,ha,a1⟩,⟨b,hb,b1⟩,⟨c,hc,c1⟩,⟨d,hd,d1⟩⟩:=F3 h e
  · have:=DF h.X.asc h0 ha;omega
  · have:=GX h.X.asc h0 hb;omega
  · rw [h0] at ha;cases ha
  · have:=DF h.Y.asc h0 hc;omega
  · have:=GX h.Y.asc h0 hd;omega
  · rw [h0] at hc;cases hc
omit h in
theorem vZ {x y:Int} (e:Ad R x y=none):lM R x y=none:=by unfold lM Uf;rw [e];rfl
theorem I6 (y:Int):Al (fun z=>lM R z y) (fun z=>lM R z (y-1)) xs:=by
  obtain ⟨o1,o2,o3,_⟩:=Yo h
  exact ⟨Nb (fun f:Int→Option Nat=>(Uf (f y),Uf (f (y-1)))) (g:=fun x=>Ad R x) (NR h),h.X.len,fun z=>Io h.m _ _,fun z=>Io h.m _ _,
    fun x0 h0 z hz=>⟨vZ (o1 x0 h0 z _ hz),vZ (o1 x0 h0 z _ hz)⟩,fun x0 h0 z hz=>⟨vZ (o2 x0 h0 z _ hz),vZ (o2 x0 h0 z _ hz)⟩,fun h0 z=>⟨vZ (o3 h0 z _),vZ (o3 h0 z _)⟩⟩
theorem I7 (x:Int):Al (fun z=>lM R x z) (fun z=>lM R (x-1) z) ys:=by
  obtain ⟨_,_,_,o1,o2,o3⟩:=Yo h
  exact ⟨Nb (fun f:Int→Option Nat=>(Uf (f x),Uf (f (x-1)))) (g:=fun y=>fun x=>Ad R x y) (NS h),h.Y.len,fun z=>Io h.m _ _,fun z=>Io h.m _ _,
    fun x0 h0 z hz=>⟨vZ (o1 x0 h0 _ z hz),vZ (o1 x0 h0 _ z hz)⟩,fun x0 h0 z hz=>⟨vZ (o2 x0 h0 _ z hz),vZ (o2 x0 h0 _ z hz)⟩,fun h0 z=>⟨vZ (o3 h0 _ z),vZ (o3 h0 _ z)⟩⟩
end
section
variable {A B:Int→Option Int} {xs:List Int} (h:Al A B xs)
include h
theorem Al.s0 (z:Int):cod (A z) (B z)=0↔A z=B z:=HZ (h.sa z) (h.sb z)
theorem Al.inj {z w:Int} (h0:cod (A z) (B z)≠0) (e:cod (A z) (B z)=cod (A w) (B w)):A z=A w∧B z=B w:=XB (h.sa z) (h.sb z) (h.sa w) (h.sb w) h0 e
theorem Al.lo:∃ lo,∀ z,z<lo→cod (A z) (B z)=0:=by
  have e0:∀ z,A z=none∧B z=none→cod (A z) (B z)=0:=fun z q=>by rw [q.1,q.2];rfl
  cases hx:xs[0]? with
  | none=>exact ⟨0,fun z _=>e0 z (h.emp (by simpa using hx) z)⟩
  | some x0=>exact ⟨x0,fun z hz=>e0 z (h.low x0 hx z hz)⟩
theorem Al.before {k:Nat} {x e:Int} (hx:xs[k]?=some x) (he:xs[k+1]?=some e):A (e-1)=A x∧B (e-1)=B x:=by
  obtain ⟨h1,h2⟩:=Bj h.st hx he
  have:=h2 (e-1) (by omega) (by omega)
  injection this with q1 q2
  exact ⟨q1,q2⟩
end
end Go.SM
