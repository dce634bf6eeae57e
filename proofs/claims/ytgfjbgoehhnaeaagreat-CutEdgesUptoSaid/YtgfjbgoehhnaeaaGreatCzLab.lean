/- Which piece lies where; what lies on the two sides of a line; its runs. -/
import Derived.Test.YtgfjbgoehhnaeaaGreatCzGrid
set_option linter.unusedVariables false
set_option linter.unusedSimpArgs false
set_option linter.unusedSectionVars false
namespace Go.SM
open Go Go.VI Go.Cells
def labN (R : List (List Rect)) (x y : Int) : Option Nat:=R.findIdx? fun l=>cov l x y
def castO (o : Option Nat) : Option Int:=o.map fun i=>(i : Int)
def labO (R : List (List Rect)) (x y : Int) : Option Int:=castO (labN R x y)
def labI (R : List (List Rect)) (x y : Int) : Int:=match labN R x y with
  | some i=>(i : Int)
  | none=>-1
theorem labI_O (R : List (List Rect)) (x y : Int) : labI R x y=match labO R x y with | some i=>i | none=>-1:=by
  unfold labI labO castO
  cases labN R x y <;> rfl
theorem labN_lt {R : List (List Rect)} {x y : Int} {i : Nat} (h : labN R x y=some i) : i < R.length:=by
  unfold labN at h
  exact (List.findIdx?_eq_some_iff_getElem.1 h).1
theorem labN_congr {R : List (List Rect)} {x y x' y' : Int} (h : ∀ l ∈ R,cov l x y=cov l x' y') : labN R x y=labN R x' y':=by
  unfold labN
  have : ∀ R : List (List Rect),(∀ l ∈ R,cov l x y=cov l x' y')→R.findIdx? (fun l=>cov l x y)=R.findIdx? fun l=>cov l x' y':=by
    intro R
    induction R with
    | nil=>intro _; rfl
    | cons l R ih =>
      intro h
      rw [List.findIdx?_cons,List.findIdx?_cons,h l List.mem_cons_self,ih fun k hk=>h k (List.mem_cons_of_mem _ hk)]
  exact this R h
theorem loop_find {α R : Type} (l : List α) (body : Int→Option (Int ⊕ R)) (q : α→Bool) (yes : Nat→R) (no : R) (step : ∀ (k : Nat) (x : α),l[k]?=some x→body k=if q x then some (.inr (yes k)) else some (.inl ((k+1 : Nat) : Int))) (fin : body (l.length : Int)=some (.inr no)) :
    loopT body 0=some (match l.findIdx? q with | some i=>yes i | none=>no):=by
  have key : ∀ (m k : Nat),k+m=l.length→loopT body (k : Int)=some (match (l.drop k).findIdx? q with | some i=>yes (k+i) | none=>no):=by
    intro m
    induction m with
    | zero =>
      intro k h; obtain rfl : k=l.length:=by omega
      rw [List.drop_length,loop_out fin]; rfl
    | succ m ih =>
      intro k h
      have hk : k < l.length:=by omega
      have hx : l[k]?=some l[k]:=by simp
      have hs:=step k _ hx
      rw [List.drop_eq_getElem_cons hk,List.findIdx?_cons]
      cases hq : q l[k] with
      | true=>rw [hq] at hs; rw [loop_out hs]; simp
      | false =>
        rw [hq] at hs
        rw [loop_in hs,ih (k+1) (by omega)]
        cases (l.drop (k+1)).findIdx? q with
        | none=>rfl
        | some i=>simp; congr 1; omega
  have:=key l.length 0 (by omega)
  simpa using this
structure Lay (R : List (List Rect)) (xs ys : List Int) : Prop where
  x : IsGrid xs (xsL R.flatten)
  y : IsGrid ys (ysL R.flatten)
  v : AllV R.flatten
  n : R.flatten.length≤400
  m : R.length≤900
section
variable {R : List (List Rect)} {xs ys : List Int} (h : Lay R xs ys)
include h
theorem Lay.has {l : List Rect} (hl : l ∈ R) : Has xs ys l:=has_of h.v h.n h.x h.y fun r hr=>List.mem_flatten.2 ⟨l,hl,hr⟩
theorem Lay.hasA : Has xs ys R.flatten:=has_of h.v h.n h.x h.y fun r hr=>hr
theorem Lay.X : Lines xs:=h.hasA.X
theorem Lay.Y : Lines ys:=h.hasA.Y
theorem lab_in {x y : Int} {i : Nat} (hc : labN R x y=some i) : (∃ a ∈ xs,a≤x)∧(∃ a ∈ xs,x < a)∧(∃ a ∈ ys,a≤y)∧(∃ a ∈ ys,y < a):=by
  unfold labN at hc
  obtain ⟨hi,h1,_⟩:=List.findIdx?_eq_some_iff_getElem.1 hc
  exact cov_inG (h.has (List.getElem_mem hi)) h1
theorem lab_stx : GSteps (fun x=>labN R x) xs:=steps_cov (C:=fun c=>c ∈ xsL R.flatten) (fun x z hxz hC=>funext fun y=>labN_congr fun l hl=>any_congr' fun r hr=>by
  have hrm : r ∈ R.flatten:=List.mem_flatten.2 ⟨l,hl,hr⟩
  have h1:=hC _ (xs_mem hrm).1
  have h2:=hC _ (xs_mem hrm).2
  show ((decide (r.X≤z)&&decide (z < r.X+r.W))&&_)=((decide (r.X≤x)&&decide (x < r.X+r.W))&&_)
  rw [show decide (r.X≤z)=decide (r.X≤x) from by simp only [h1],show decide (z < r.X+r.W)=decide (x < r.X+r.W) from by
    have : (z < r.X+r.W)=(x < r.X+r.W):=by apply propext; omega
    simp only [this]]) xs h.X.asc fun c hc=>.inr ((h.x.2 c).2 hc)
theorem lab_sty : GSteps (fun y=>fun x=>labN R x y) ys:=steps_cov (C:=fun c=>c ∈ ysL R.flatten) (fun y z hyz hC=>funext fun x=>labN_congr fun l hl=>any_congr' fun r hr=>by
  have hrm : r ∈ R.flatten:=List.mem_flatten.2 ⟨l,hl,hr⟩
  have h1:=hC _ (ys_mem hrm).1
  have h2:=hC _ (ys_mem hrm).2
  show (_&&(decide (r.Y≤z)&&decide (z < r.Y+r.H)))=(_&&(decide (r.Y≤y)&&decide (y < r.Y+r.H)))
  rw [show decide (r.Y≤z)=decide (r.Y≤y) from by simp only [h1],show decide (z < r.Y+r.H)=decide (y < r.Y+r.H) from by
    have : (z < r.Y+r.H)=(y < r.Y+r.H):=by apply propext; omega
    simp only [this]]) ys h.Y.asc fun c hc=>.inr ((h.y.2 c).2 hc)
end
def num : Option Int→Int
  | none=>0
  | some i=>i+1
def cod (a b : Option Int) : Int:=if a=b then 0 else num a * 1000+num b
theorem num_inj {a b : Option Int} (ha : ∀ i,a=some i→0≤i) (hb : ∀ i,b=some i→0≤i) (h : num a=num b) : a=b:=by
  cases a with
  | none=>cases b with
    | none=>rfl
    | some j=>have:=hb j rfl; simp only [num] at h; omega
  | some i=>cases b with
    | none=>have:=ha i rfl; simp only [num] at h; omega
    | some j=>simp only [num] at h; rw [show i=j by omega]
def SmO (a : Option Int) : Prop:=∀ i,a=some i→0≤i∧i < 900
theorem num_bd {a : Option Int} (h : SmO a) : 0≤num a∧num a≤900:=by
  cases a with
  | none=>simp [num]
  | some i=>have:=h i rfl; simp only [num]; omega
theorem cod_zero {a b : Option Int} (ha : SmO a) (hb : SmO b) : cod a b=0↔a=b:=by
  unfold cod
  constructor
  · intro h
    split at h
    · assumption
    · have:=num_bd ha; have:=num_bd hb
      exact num_inj (fun i e=>(ha i e).1) (fun i e=>(hb i e).1) (by omega)
  · intro h; rw [if_pos h]
theorem cod_inj {a b a' b' : Option Int} (ha : SmO a) (hb : SmO b) (ha' : SmO a') (hb' : SmO b') (h0 : cod a b≠0) (h : cod a b=cod a' b') : a=a'∧b=b':=by
  have h0' : cod a' b'≠0:=by rw [← h]; exact h0
  unfold cod at h h0 h0'
  split at h
  · rename_i e; rw [if_pos e] at h0; exact absurd rfl h0
  · split at h
    · rename_i e; rw [if_pos e] at h0'; exact absurd rfl h0'
    · have:=num_bd ha; have:=num_bd hb; have:=num_bd ha'; have:=num_bd hb'
      exact ⟨num_inj (fun i e=>(ha i e).1) (fun i e=>(ha' i e).1) (by omega),num_inj (fun i e=>(hb i e).1) (fun i e=>(hb' i e).1) (by omega)⟩
theorem labO_sm {R : List (List Rect)} (hm : R.length≤900) (x y : Int) : SmO (labO R x y):=fun i h=>by
  unfold labO castO at h
  cases e : labN R x y with
  | none=>rw [e] at h; cases h
  | some j=>rw [e] at h; have:=labN_lt e; simp at h; omega
def hS (R : List (List Rect)) (y : Int) (z : Int) : Int:=cod (labO R z y) (labO R z (y - 1))
def vS (R : List (List Rect)) (x : Int) (z : Int) : Int:=cod (labO R x z) (labO R (x - 1) z)
noncomputable def runsL (s : Int→Int) : List (Int×Int):=open Classical in if h : ∃ L,RunsOf s L then Classical.choose h else []
theorem runsL_eq {s : Int→Int} {L : List (Int×Int)} (h : RunsOf s L) : runsL s=L:=by
  unfold runsL
  have hx : ∃ L,RunsOf s L:=⟨L,h⟩
  rw [dif_pos hx]
  exact runs_unique (Classical.choose_spec hx) h
theorem steps_map {β γ : Type} (f : β→γ) {g : Int→β} : ∀ {l : List Int},GSteps g l→GSteps (fun x=>f (g x)) l
  | [],_=>trivial
  | [_],_=>trivial
  | _::_::_,h=>⟨h.1,fun z a b=>congrArg f (h.2.1 z a b),steps_map f h.2.2⟩
theorem gsteps_get {β : Type} {f : Int→β} : ∀ {xs : List Int},GSteps f xs→∀ {k : Nat} {x x' : Int},xs[k]?=some x→xs[k+1]?=some x'→x < x'∧∀ z,x≤z→z < x'→f z=f x
  | [],_,k,x,x',h,_=>by simp at h
  | [_],_,k,x,x',_,h=>by simp at h
  | a::b::t,hs,0,x,x',h,h'=>by
    simp at h h'
    subst h h'
    exact ⟨hs.1,hs.2.1⟩
  | a::b::t,hs,k+1,x,x',h,h'=>by
    simp only [List.getElem?_cons_succ] at h h'
    exact gsteps_get hs.2.2 h h'
structure Al (A B : Int→Option Int) (xs : List Int) : Prop where
  st : GSteps (fun z=>(A z,B z)) xs
  len : xs.length≤1000
  sa : ∀ z,SmO (A z)
  sb : ∀ z,SmO (B z)
  low : ∀ x0,xs[0]?=some x0→∀ z,z < x0→A z=none∧B z=none
  high : ∀ x1,xs[xs.length - 1]?=some x1→∀ z,x1≤z→A z=none∧B z=none
  emp : xs=[]→∀ z,A z=none∧B z=none
theorem asc_first {g : List Int} {a b : Int} (hg : g.Pairwise fun x y=>x < y) (ha : g[0]?=some a) (hb : b ∈ g) : a≤b:=by
  obtain ⟨i,hi⟩:=List.mem_iff_getElem?.1 hb
  rcases Nat.eq_zero_or_pos i with q | q
  · subst q; rw [ha] at hi; injection hi with hi; omega
  · have:=asc_get hg q ha hi; omega
theorem asc_last {g : List Int} {a b : Int} (hg : g.Pairwise fun x y=>x < y) (ha : g[g.length - 1]?=some a) (hb : b ∈ g) : b≤a:=by
  obtain ⟨i,hi⟩:=List.mem_iff_getElem?.1 hb
  have:=lt_of_get hi
  by_cases q : i=g.length - 1
  · subst q; rw [ha] at hi; injection hi with hi; omega
  · have:=asc_get hg (show i < g.length - 1 by omega) hi ha; omega
section
variable {R : List (List Rect)} {xs ys : List Int} (h : Lay R xs ys)
include h
theorem lab_out : (∀ x0,xs[0]?=some x0→∀ x y,x < x0→labN R x y=none)∧(∀ x1,xs[xs.length - 1]?=some x1→∀ x y,x1≤x→labN R x y=none)∧(xs=[]→∀ x y,labN R x y=none) ∧
    (∀ y0,ys[0]?=some y0→∀ x y,y < y0→labN R x y=none)∧(∀ y1,ys[ys.length - 1]?=some y1→∀ x y,y1≤y→labN R x y=none)∧(ys=[]→∀ x y,labN R x y=none):=by
  have no : ∀ {x y : Int},(∀ i,labN R x y≠some i)→labN R x y=none:=fun {x y} hn=>by
    cases e : labN R x y with
    | none=>rfl
    | some i=>exact absurd e (hn i)
  refine ⟨fun x0 h0 x y hx=>no fun i e=>?_,fun x0 h0 x y hx=>no fun i e=>?_,fun h0 x y=>no fun i e=>?_,fun x0 h0 x y hx=>no fun i e=>?_,fun x0 h0 x y hx=>no fun i e=>?_,fun h0 x y=>no fun i e=>?_⟩ <;> obtain ⟨⟨a,ha,a1⟩,⟨b,hb,b1⟩,⟨c,hc,c1⟩,⟨d,hd,d1⟩⟩:=lab_in h e
  · have:=asc_first h.X.asc h0 ha; omega
  · have:=asc_last h.X.asc h0 hb; omega
  · rw [h0] at ha; cases ha
  · have:=asc_first h.Y.asc h0 hc; omega
  · have:=asc_last h.Y.asc h0 hd; omega
  · rw [h0] at hc; cases hc
omit h in
theorem labO_of {x y : Int} (e : labN R x y=none) : labO R x y=none:=by unfold labO castO; rw [e]; rfl
theorem al_h (y : Int) : Al (fun z=>labO R z y) (fun z=>labO R z (y - 1)) xs:=by
  obtain ⟨o1,o2,o3,_⟩:=lab_out h
  exact ⟨steps_map (fun f : Int→Option Nat=>(castO (f y),castO (f (y - 1)))) (g:=fun x=>labN R x) (lab_stx h),h.X.len,fun z=>labO_sm h.m _ _,fun z=>labO_sm h.m _ _,
    fun x0 h0 z hz=>⟨labO_of (o1 x0 h0 z _ hz),labO_of (o1 x0 h0 z _ hz)⟩,fun x0 h0 z hz=>⟨labO_of (o2 x0 h0 z _ hz),labO_of (o2 x0 h0 z _ hz)⟩,fun h0 z=>⟨labO_of (o3 h0 z _),labO_of (o3 h0 z _)⟩⟩
theorem al_v (x : Int) : Al (fun z=>labO R x z) (fun z=>labO R (x - 1) z) ys:=by
  obtain ⟨_,_,_,o1,o2,o3⟩:=lab_out h
  exact ⟨steps_map (fun f : Int→Option Nat=>(castO (f x),castO (f (x - 1)))) (g:=fun y=>fun x=>labN R x y) (lab_sty h),h.Y.len,fun z=>labO_sm h.m _ _,fun z=>labO_sm h.m _ _,
    fun x0 h0 z hz=>⟨labO_of (o1 x0 h0 _ z hz),labO_of (o1 x0 h0 _ z hz)⟩,fun x0 h0 z hz=>⟨labO_of (o2 x0 h0 _ z hz),labO_of (o2 x0 h0 _ z hz)⟩,fun h0 z=>⟨labO_of (o3 h0 _ z),labO_of (o3 h0 _ z)⟩⟩
end
section
variable {A B : Int→Option Int} {xs : List Int} (h : Al A B xs)
include h
theorem Al.s0 (z : Int) : cod (A z) (B z)=0↔A z=B z:=cod_zero (h.sa z) (h.sb z)
theorem Al.inj {z w : Int} (h0 : cod (A z) (B z)≠0) (e : cod (A z) (B z)=cod (A w) (B w)) : A z=A w∧B z=B w:=cod_inj (h.sa z) (h.sb z) (h.sa w) (h.sb w) h0 e
theorem Al.lo : ∃ lo,∀ z,z < lo→cod (A z) (B z)=0:=by
  have e0 : ∀ z,A z=none∧B z=none→cod (A z) (B z)=0:=fun z q=>by rw [q.1,q.2]; rfl
  cases hx : xs[0]? with
  | none=>exact ⟨0,fun z _=>e0 z (h.emp (by simpa using hx) z)⟩
  | some x0=>exact ⟨x0,fun z hz=>e0 z (h.low x0 hx z hz)⟩
theorem Al.before {k : Nat} {x e : Int} (hx : xs[k]?=some x) (he : xs[k+1]?=some e) : A (e - 1)=A x∧B (e - 1)=B x:=by
  obtain ⟨h1,h2⟩:=gsteps_get h.st hx he
  have:=h2 (e - 1) (by omega) (by omega)
  injection this with q1 q2
  exact ⟨q1,q2⟩
end
end Go.SM
