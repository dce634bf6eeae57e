/- Grids of rectangles and the areas over their cells. -/
import Derived.Test.YtgfjbgoehhnaeaaGreatCzCell
import Derived.Test.YtgfjbgoehhnaeaaGreatRuns
import Derived.Test.YtgfjbgoehhnaeaaGreatVHC4
set_option linter.unusedVariables false
set_option linter.unusedSimpArgs false
set_option linter.unusedSectionVars false
namespace Go.SM
open Go Go.VI Go.Cells
def xsL (l:List Rect):List Int:=l.flatMap fun r=>[r.X,r.X+r.W]
def ysL (l:List Rect):List Int:=l.flatMap fun r=>[r.Y,r.Y+r.H]
def Dt (g l:List Int):Prop:=g.Pairwise (fun x y=>x<y)∧∀ x,x ∈ g↔x ∈ l
theorem Xj {g g' l:List Int} (h:Dt g l) (h':Dt g' l):g=g':=
  Jn (lt:=fun x y=>x<y) (fun _=>Int.lt_irrefl _) (fun _ _ _=>Int.lt_trans) h.1 h'.1 fun x=>(h.2 x).trans (h'.2 x).symm
theorem Tv (a b:List Rect):xsL (a++b)=xsL a++xsL b:=by simp [xsL]
theorem Tz (a b:List Rect):ysL (a++b)=ysL a++ysL b:=by simp [ysL]
theorem Vr (l:List Rect):(xsL l).length=2*l.length:=by
  induction l with
  | nil=>rfl
  | cons r l ih=>rw [show xsL (r::l)=[r.X,r.X+r.W]++xsL l from rfl,List.length_append,ih];simp;omega
theorem Vs (l:List Rect):(ysL l).length=2*l.length:=by
  induction l with
  | nil=>rfl
  | cons r l ih=>rw [show ysL (r::l)=[r.Y,r.Y+r.H]++ysL l from rfl,List.length_append,ih];simp;omega
theorem GD {r:Rect} (h:vR r):aL r.X r.W=r.X+r.W∧aL r.Y r.H=r.Y+r.H:=by
  unfold vR at h
  exact ⟨aS (by omega) (by omega),aS (by omega) (by omega)⟩
theorem nY {α:Type} {l:List α} {k:Nat} {x:α} (h:l[k]?=some x):l.take (k+1)=l.take k++[x]:=by rw [List.take_add_one,h];rfl
theorem Da {α:Type} {l:List α} {k:Nat} {x d:α} (h:l[k]?=some x):l.getD k d=x:=by rw [List.getD_eq_getElem?_getD,h];rfl
def ps (g:Int→Int) (xs:List Int) (k:Nat):Int:=I1 (fun i=>(xs.getD (i+1) 0-xs.getD i 0)*g (xs.getD i 0)) k
theorem Uc {xs:List Int} (h:xs.Pairwise fun x y=>x<y) {i j:Nat} {x y:Int} (hij:i<j) (hx:xs[i]?=some x) (hy:xs[j]?=some y):x<y:=by
  obtain ⟨a,rfl⟩:=List.getElem?_eq_some_iff.1 hx
  obtain ⟨b,rfl⟩:=List.getElem?_eq_some_iff.1 hy
  exact List.pairwise_iff_getElem.1 h i j a b hij
structure Lines (xs:List Int):Prop where
  asc:xs.Pairwise fun x y=>x<y
  within:∀ x ∈ xs,-1048576≤x∧x≤1048576
  len:xs.length≤1000
theorem Xe {β:Type} {f:Int→β} {C:Int→Prop} (hf:∀ x z,x≤z→(∀ c,C c→(c≤z↔c≤x))→f z=f x):∀ g:List Int,g.Pairwise (fun x y=>x<y)→(∀ c,C c→(∀ x,g.head?=some x→c<x)∨c ∈ g)→Iu f g
  | [],_,_=>trivial
  | [_],_,_=>trivial
  | x::y::t,h,hc=>by
    have hxy:=(List.pairwise_cons.1 h).1 y List.mem_cons_self
    have ht:=(List.pairwise_cons.1 h).2
    refine ⟨hxy,fun z h1 h2=>hf x z h1 fun c hC=>?_,Xe hf (y::t) ht fun c hC=>?_⟩
    · rcases hc c hC with q | q
      · have:=q x rfl;omega
      · rcases List.mem_cons.1 q with rfl | q
        · omega
        · rcases List.mem_cons.1 q with rfl | q
          · omega
          · have:=(List.pairwise_cons.1 ht).1 c q;omega
    · rcases hc c hC with q | q
      · left;intro w hw;simp at hw;subst hw;have:=q x rfl;omega
      · rcases List.mem_cons.1 q with rfl | q
        · left;intro w hw;simp at hw;subst hw;exact hxy
        · exact .inr q
theorem GG {l:List Rect} {r:Rect} (h:r ∈ l):r.X ∈ xsL l∧r.X+r.W ∈ xsL l:=by
  unfold xsL
  exact ⟨List.mem_flatMap.2 ⟨r,h,by simp⟩,List.mem_flatMap.2 ⟨r,h,by simp⟩⟩
theorem GH {l:List Rect} {r:Rect} (h:r ∈ l):r.Y ∈ ysL l∧r.Y+r.H ∈ ysL l:=by
  unfold ysL
  exact ⟨List.mem_flatMap.2 ⟨r,h,by simp⟩,List.mem_flatMap.2 ⟨r,h,by simp⟩⟩
theorem Zc {α:Type} {l:List α} {f g:α→Bool} (h:∀ x ∈ l,f x=g x):l.any f=l.any g:=by
  induction l with
  | nil=>rfl
  | cons x l ih=>simp only [List.any_cons];rw [h x List.mem_cons_self,ih fun y hy=>h y (List.mem_cons_of_mem _ hy)]
structure Has (xs ys:List Int) (l:List Rect):Prop where
  X:Lines xs
  Y:Lines ys
  x:∀ c ∈ xsL l,c ∈ xs
  y:∀ c ∈ ysL l,c ∈ ys
  v:CE l
section
variable {xs ys:List Int} {l:List Rect} (h:Has xs ys l)
include h
theorem XC {x y:Int} (hc:cov l x y=true):(∃ a ∈ xs,a≤x)∧(∃ a ∈ xs,x<a)∧(∃ a ∈ ys,a≤y)∧(∃ a ∈ ys,y<a):=by
  obtain ⟨r,hr,hb⟩:=List.any_eq_true.1 hc
  rw [XU] at hb
  exact ⟨⟨_,h.x _ (GG hr).1,hb.1⟩,⟨_,h.x _ (GG hr).2,hb.2.1⟩,⟨_,h.y _ (GH hr).1,hb.2.2.1⟩,⟨_,h.y _ (GH hr).2,hb.2.2.2⟩⟩
omit h in
theorem ends {x0:Int} {t:List Int} (ha:(x0::t).Pairwise fun x y=>x<y):∀ a ∈ x0::t,x0≤a∧a≤(x0::t).getLast (by simp):=fun a m=>by
  constructor
  · rcases List.mem_cons.1 m with rfl | m
    · exact Int.le_refl _
    · exact Int.le_of_lt ((List.pairwise_cons.1 ha).1 a m)
  · have e:x0::t=(x0::t).dropLast++[(x0::t).getLast (by simp)]:=(List.dropLast_concat_getLast (by simp)).symm
    rw [e,List.pairwise_append] at ha
    rw [e] at m
    rcases List.mem_append.1 m with m | m
    · exact Int.le_of_lt (ha.2.2 a m _ (by simp))
    · simp at m;omega
end
theorem FM {l:List Rect} (hv:CE l):(∀ c ∈ xsL l,-1048576≤c∧c≤1048576)∧∀ c ∈ ysL l,-1048576≤c∧c≤1048576:=by
  constructor
  · intro c hc
    obtain ⟨r,hr,hm⟩:=List.mem_flatMap.1 hc
    have:=hv r hr
    unfold vR at this
    simp at hm
    omega
  · intro c hc
    obtain ⟨r,hr,hm⟩:=List.mem_flatMap.1 hc
    have:=hv r hr
    unfold vR at this
    simp at hm
    omega
theorem EC {α:Type} [BEq α] [LawfulBEq α]:∀ {g l:List α},g.Nodup→(∀ x ∈ g,x ∈ l)→g.length≤l.length
  | [],_,_,_=>by simp
  | x::g,l,hn,h=>by
    rw [List.nodup_cons] at hn
    have:=EC (g:=g) (l:=l.erase x) hn.2 fun y hy=>(List.mem_erase_of_ne (fun e=>hn.1 (by rw [← e];exact hy))).2 (h y (List.mem_cons_of_mem _ hy))
    rw [List.length_erase_of_mem (h x List.mem_cons_self)] at this
    have hp:=List.length_pos_of_mem (h x List.mem_cons_self)
    simp only [List.length_cons];omega
theorem yM {g l:List Int} (hg:g.Pairwise fun x y=>x<y) (h:∀ x ∈ g,x ∈ l):g.length≤l.length:=by
  have hn:g.Nodup:=hg.imp fun q=>by omega
  exact EC hn h
theorem UF {xs ys:List Int} {lines l:List Rect} (hv:CE lines) (hl:lines.length≤400) (hx:Dt xs (xsL lines)) (hy:Dt ys (ysL lines)) (hs:∀ r ∈ l,r ∈ lines):Has xs ys l:=by
  have w:=FM hv
  have lx:=yM hx.1 fun x m=>(hx.2 x).1 m
  have ly:=yM hy.1 fun x m=>(hy.2 x).1 m
  rw [Vr] at lx
  rw [Vs] at ly
  refine ⟨⟨hx.1,fun x m=>w.1 x ((hx.2 x).1 m),by omega⟩,⟨hy.1,fun x m=>w.2 x ((hy.2 x).1 m),by omega⟩,fun c hc=>?_,fun c hc=>?_,fun r hr=>hv r (hs r hr)⟩
  · obtain ⟨r,hr,hm⟩:=List.mem_flatMap.1 hc
    exact (hx.2 c).2 (List.mem_flatMap.2 ⟨r,hs r hr,hm⟩)
  · obtain ⟨r,hr,hm⟩:=List.mem_flatMap.1 hc
    exact (hy.2 c).2 (List.mem_flatMap.2 ⟨r,hs r hr,hm⟩)
end Go.SM
