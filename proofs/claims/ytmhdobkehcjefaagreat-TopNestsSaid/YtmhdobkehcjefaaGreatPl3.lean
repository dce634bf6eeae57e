/- What the functions compute, part 3. -/
import Derived.Test.YtmhdobkehcjefaaGreatPl2
import Derived.Test.YtmhdobkehcjefaaGreatPl1
import Derived.Test.YtmhdobkehcjefaaGreatVHC4
import Derived.Lib.IndexMore
set_option linter.unusedVariables false
set_option linter.unusedSimpArgs false
set_option linter.unusedSectionVars false
namespace Go.SM
open Go Go.VI Go.Cells
def xsL (l:List aE):List Int:=l.flatMap fun r=>[r.X,r.X+r.W]
def ysL (l:List aE):List Int:=l.flatMap fun r=>[r.Y,r.Y+r.H]
def Iy (g l:List Int):Prop:=g.Pairwise (fun x y=>x<y)∧∀ x,x ∈ g↔x ∈ l
theorem Wz (a b:List aE):xsL (a++b)=xsL a++xsL b:=by simp [xsL]
theorem Xa (a b:List aE):ysL (a++b)=ysL a++ysL b:=by simp [ysL]
theorem AF (l:List aE):(xsL l).length=2*l.length:=by
 induction l with
 | nil=>rfl
 | cons r l ih=>rw [show xsL (r::l)=[r.X,r.X+r.W]++xsL l from rfl,List.length_append,ih];simp;omega
theorem AH (l:List aE):(ysL l).length=2*l.length:=by
 induction l with
 | nil=>rfl
 | cons r l ih=>rw [show ysL (r::l)=[r.Y,r.Y+r.H]++ysL l from rfl,List.length_append,ih];simp;omega
theorem Pt {r:aE} (h:vR r):aF r.X r.W=r.X+r.W∧aF r.Y r.H=r.Y+r.H:=by
 unfold vR at h
 exact ⟨aP (by omega) (by omega),aP (by omega) (by omega)⟩
theorem iT {α:Type} {l:List α} {k:Nat} {x:α} (h:l[k]?=some x):l.take (k+1)=l.take k++[x]:=by rw [List.take_add_one,h];rfl
theorem xN {α:Type} {l:List α} {k:Nat} {x d:α} (h:l[k]?=some x):l.getD k d=x:=by rw [List.getD_eq_getElem?_getD,h];rfl
def ps (g:Int→Int) (xs:List Int) (k:Nat):Int:=Hy (fun i=>(xs.getD (i+1) 0-xs.getD i 0)*g (xs.getD i 0)) k
theorem Nu (g:Int→Int):∀ xs:List Int,ps g xs (xs.length-1)=Ah g xs
 | []=>rfl
 | [_]=>rfl
 | x::y::t=>by
   have ih:=Nu g (y::t)
   unfold ps at ih ⊢
   rw [show (x::y::t).length-1=1+((y::t).length-1) from by simp;omega,Wv]
   simp only [Ah]
   rw [← ih]
   congr 1
   ·simp [Hy]
   ·refine Lm fun k _=>?_
    rw [show 1+k=k+1 from by omega]
    simp
theorem Na {xs:List Int} (h:xs.Pairwise fun x y=>x<y) {i j:Nat} {x y:Int} (hij:i<j) (hx:xs[i]?=some x) (hy:xs[j]?=some y):x<y:=by
 obtain ⟨a,rfl⟩:=List.getElem?_eq_some_iff.1 hx
 obtain ⟨b,rfl⟩:=List.getElem?_eq_some_iff.1 hy
 exact List.pairwise_iff_getElem.1 h i j a b hij
theorem Mn {xs:List Int} (h:xs.Pairwise fun x y=>x<y) {g:Int→Int} {c:Int} (hc:0≤c) (hg:∀ x,0≤g x∧g x≤c):∀ k,k<xs.length→0≤ps g xs k∧ps g xs k≤c*(xs.getD k 0-xs.getD 0 0)
 | 0,_=>by simp [ps,Hy]
 | k+1,hk=>by
   obtain ⟨a1,a2⟩:=Mn h hc hg k (by omega)
   obtain ⟨x,hx⟩:∃ x,xs[k]?=some x:=⟨_,List.getElem?_eq_getElem (by omega)⟩
   obtain ⟨y,hy⟩:∃ y,xs[k+1]?=some y:=⟨_,List.getElem?_eq_getElem hk⟩
   have hxy:=Na h (Nat.lt_succ_self k) hx hy
   have e:ps g xs (k+1)=ps g xs k+(y-x)*g x:=by
    show Hy _ (k+1)=_
    simp only [Hy,xN hx,xN hy];rfl
   rw [xN hx] at a2
   rw [e,xN hy]
   obtain ⟨g1,g2⟩:=hg x
   have m1:0≤(y-x)*g x:=Int.mul_nonneg (by omega) g1
   have m2:(y-x)*g x≤(y-x)*c:=Int.mul_le_mul_of_nonneg_left g2 (by omega)
   have m3:c*(y-xs.getD 0 0)=c*(x-xs.getD 0 0)+(y-x)*c:=by grind
   omega
structure Ul (xs:List Int):Prop where
 asc:xs.Pairwise fun x y=>x<y
 within:∀ x ∈ xs,-1048576≤x∧x≤1048576
 len:xs.length≤1000
theorem one_le (b:Bool):0≤one b∧one b≤1:=by cases b <;> decide
theorem Vm {xs:List Int} (h:Ul xs) {g:Int→Int} {c:Int} (hc:0≤c) (hg:∀ x,0≤g x∧g x≤c):0≤Ah g xs∧Ah g xs≤c*2097152:=by
 rw [← Nu]
 rcases Nat.eq_zero_or_pos xs.length with q | q
 ·rw [List.eq_nil_of_length_eq_zero q]
  have:0≤c*2097152:=Int.mul_nonneg hc (by omega)
  simpa [ps,Hy] using this
 ·obtain ⟨b1,b2⟩:=Mn h.asc hc hg (xs.length-1) (by omega)
  obtain ⟨x,hx⟩:∃ x,xs[xs.length-1]?=some x:=⟨_,List.getElem?_eq_getElem (by omega)⟩
  obtain ⟨y,hy⟩:∃ y,xs[0]?=some y:=⟨_,List.getElem?_eq_getElem (by omega)⟩
  rw [xN hx,xN hy] at b2
  have wx:=h.within x (List.mem_of_getElem? hx)
  have wy:=h.within y (List.mem_of_getElem? hy)
  have:c*(x-y)≤c*2097152:=Int.mul_le_mul_of_nonneg_left (by omega) hc
  exact ⟨b1,by omega⟩
theorem Uf (g:Int→Int) {l:List Int} {k:Nat} {x y:Int} (hx:l[k]?=some x) (hy:l[k+1]?=some y):ps g l (k+1)=ps g l k+(y-x)*g x:=by
 show Hy _ (k+1)=_
 simp only [Hy,xN hx,xN hy];rfl
theorem Si {β:Type} {f:Int→β} {C:Int→Prop} (hf:∀ x z,x≤z→(∀ c,C c→(c≤z↔c≤x))→f z=f x):∀ g:List Int,g.Pairwise (fun x y=>x<y)→(∀ c,C c→(∀ x,g.head?=some x→c<x)∨c ∈ g)→Ix f g
 | [],_,_=>trivial
 | [_],_,_=>trivial
 | x::y::t,h,hc=>by
   have hxy:=(List.pairwise_cons.1 h).1 y List.mem_cons_self
   have ht:=(List.pairwise_cons.1 h).2
   refine ⟨hxy,fun z h1 h2=>hf x z h1 fun c hC=>?_,Si hf (y::t) ht fun c hC=>?_⟩
   ·rcases hc c hC with q | q
    ·have:=q x rfl;omega
    ·rcases List.mem_cons.1 q with rfl | q
     ·omega
     ·rcases List.mem_cons.1 q with rfl | q
      ·omega
      ·have:=(List.pairwise_cons.1 ht).1 c q;omega
   ·rcases hc c hC with q | q
    ·left;intro w hw;simp at hw;subst hw;have:=q x rfl;omega
    ·rcases List.mem_cons.1 q with rfl | q
     ·left;intro w hw;simp at hw;subst hw;exact hxy
     ·exact .inr q
theorem AG {l:List aE} {r:aE} (h:r ∈ l):r.X ∈ xsL l∧r.X+r.W ∈ xsL l:=by
 unfold xsL
 exact ⟨List.mem_flatMap.2 ⟨r,h,by simp⟩,List.mem_flatMap.2 ⟨r,h,by simp⟩⟩
theorem Xb {l:List aE} {r:aE} (h:r ∈ l):r.Y ∈ ysL l∧r.Y+r.H ∈ ysL l:=by
 unfold ysL
 exact ⟨List.mem_flatMap.2 ⟨r,h,by simp⟩,List.mem_flatMap.2 ⟨r,h,by simp⟩⟩
theorem Ur {α:Type} {l:List α} {f g:α→Bool} (h:∀ x ∈ l,f x=g x):l.any f=l.any g:=by
 induction l with
 | nil=>rfl
 | cons x l ih=>simp only [List.any_cons];rw [h x List.mem_cons_self,ih fun y hy=>h y (List.mem_cons_of_mem _ hy)]
structure Has (xs ys:List Int) (l:List aE):Prop where
 X:Ul xs
 Y:Ul ys
 x:∀ c ∈ xsL l,c ∈ xs
 y:∀ c ∈ ysL l,c ∈ ys
 v:zJ l
section
variable {xs ys:List Int} {l:List aE} (h:Has xs ys l)
include h
theorem RY:Ix (fun x=>cov l x) xs:=Si (C:=fun c=>c ∈ xsL l) (fun x z hxz hC=>funext fun y=>Ur fun r hr=>by
 have h1:=hC _ (AG hr).1
 have h2:=hC _ (AG hr).2
 show ((decide (r.X≤z)&&decide (z<r.X+r.W))&&_)=((decide (r.X≤x)&&decide (x<r.X+r.W))&&_)
 rw [show decide (r.X≤z)=decide (r.X≤x) from by simp only [h1],show decide (z<r.X+r.W)=decide (x<r.X+r.W) from by
  have:(z<r.X+r.W)=(x<r.X+r.W):=by apply propext;omega
  simp only [this]]) xs h.X.asc fun c hc=>.inr (h.x c hc)
theorem RZ (x:Int):Ix (fun y=>cov l x y) ys:=Si (C:=fun c=>c ∈ ysL l) (fun y z hyz hC=>Ur fun r hr=>by
 have h1:=hC _ (Xb hr).1
 have h2:=hC _ (Xb hr).2
 show (_&&(decide (r.Y≤z)&&decide (z<r.Y+r.H)))=(_&&(decide (r.Y≤y)&&decide (y<r.Y+r.H)))
 rw [show decide (r.Y≤z)=decide (r.Y≤y) from by simp only [h1],show decide (z<r.Y+r.H)=decide (y<r.Y+r.H) from by
  have:(z<r.Y+r.H)=(y<r.Y+r.H):=by apply propext;omega
  simp only [this]]) ys h.Y.asc fun c hc=>.inr (h.y c hc)
theorem QG {x y:Int} (hc:cov l x y=true):(∃ a ∈ xs,a≤x)∧(∃ a ∈ xs,x<a)∧(∃ a ∈ ys,a≤y)∧(∃ a ∈ ys,y<a):=by
 obtain ⟨r,hr,hb⟩:=List.any_eq_true.1 hc
 rw [Cr] at hb
 exact ⟨⟨_,h.x _ (AG hr).1,hb.1⟩,⟨_,h.x _ (AG hr).2,hb.2.1⟩,⟨_,h.y _ (Xb hr).1,hb.2.2.1⟩,⟨_,h.y _ (Xb hr).2,hb.2.2.2⟩⟩
omit h in
theorem ends {x0:Int} {t:List Int} (ha:(x0::t).Pairwise fun x y=>x<y):∀ a ∈ x0::t,x0≤a∧a≤(x0::t).getLast (by simp):=fun a m=>by
 constructor
 ·rcases List.mem_cons.1 m with rfl | m
  ·exact Int.le_refl _
  ·exact Int.le_of_lt ((List.pairwise_cons.1 ha).1 a m)
 ·have e:x0::t=(x0::t).dropLast++[(x0::t).getLast (by simp)]:=(List.dropLast_concat_getLast (by simp)).symm
  rw [e,List.pairwise_append] at ha
  rw [e] at m
  rcases List.mem_append.1 m with m | m
  ·exact Int.le_of_lt (ha.2.2 a m _ (by simp))
  ·simp at m;omega
theorem AU:Ah (fun x=>Ah (fun y=>one (cov l x y)) ys) xs=eB MM (cov l):=by
 have hx:=RY h
 have hy:=RZ h
 have hi:=@QG xs ys l h
 have hX:=h.X
 have hY:=h.Y
 clear h
 cases xs with
 | nil =>
   rw [Ro fun x y=>?_]
   ·rfl
   ·cases hc:cov l x y with
    | false=>rfl
    | true=>obtain ⟨⟨a,ha,_⟩,_⟩:=hi hc;simp at ha
 | cons x0 xs =>
   cases ys with
   | nil =>
     rw [Ro fun x y=>?_]
     ·have e:∀ l:List Int,Ah (fun _=>Ah (fun _=>(0:Int)) []) l=0:=fun l=>by
       have:∀ l:List Int,Ah (fun _=>(0:Int)) l=0:=fun l=>by
        induction l with
        | nil=>rfl
        | cons x t ih=>cases t with
          | nil=>rfl
          | cons y t=>simp only [Ah,ih];simp
       exact this l
      exact e _
     ·cases hc:cov l x y with
      | false=>rfl
      | true=>obtain ⟨_,_,⟨a,ha,_⟩,_⟩:=hi hc;simp at ha
   | cons y0 ys =>
     have ex:=ends hX.asc
     have ey:=ends hY.asc
     have wx0:=hX.within x0 List.mem_cons_self
     have wy0:=hY.within y0 List.mem_cons_self
     have wx1:=hX.within _ (List.getLast_mem (l:=x0::xs) (by simp))
     have wy1:=hY.within _ (List.getLast_mem (l:=y0::ys) (by simp))
     refine (HV hx hy (by unfold MM;omega) (by unfold MM;omega) (by unfold MM;omega) (by unfold MM;omega) (fun x y q=>?_) (fun x y q=>?_)).symm
     ·cases hc:cov l x y with
      | false=>rfl
      | true =>
        obtain ⟨⟨a,ha,a1⟩,⟨b,hb,b1⟩,_⟩:=hi hc
        have:=ex a ha
        have:=ex b hb
        omega
     ·cases hc:cov l x y with
      | false=>rfl
      | true =>
        obtain ⟨_,_,⟨a,ha,a1⟩,⟨b,hb,b1⟩⟩:=hi hc
        have:=ey a ha
        have:=ey b hb
        omega
end
theorem Zn {l:List aE} (hv:zJ l):(∀ c ∈ xsL l,-1048576≤c∧c≤1048576)∧∀ c ∈ ysL l,-1048576≤c∧c≤1048576:=by
 constructor
 ·intro c hc
  obtain ⟨r,hr,hm⟩:=List.mem_flatMap.1 hc
  have:=hv r hr
  unfold vR at this
  simp at hm
  omega
 ·intro c hc
  obtain ⟨r,hr,hm⟩:=List.mem_flatMap.1 hc
  have:=hv r hr
  unfold vR at this
  simp at hm
  omega
theorem Yg {α:Type} [BEq α] [LawfulBEq α]:∀ {g l:List α},g.Nodup→(∀ x ∈ g,x ∈ l)→g.length≤l.length
 | [],_,_,_=>by simp
 | x::g,l,hn,h=>by
   rw [List.nodup_cons] at hn
   have:=Yg (g:=g) (l:=l.erase x) hn.2 fun y hy=>(List.mem_erase_of_ne (fun e=>hn.1 (by rw [← e];exact hy))).2 (h y (List.mem_cons_of_mem _ hy))
   rw [List.length_erase_of_mem (h x List.mem_cons_self)] at this
   have hp:=List.length_pos_of_mem (h x List.mem_cons_self)
   simp only [List.length_cons];omega
theorem Fu {g l:List Int} (hg:g.Pairwise fun x y=>x<y) (h:∀ x ∈ g,x ∈ l):g.length≤l.length:=by
 have hn:g.Nodup:=hg.imp fun q=>by omega
 exact Yg hn h
theorem MF {xs ys:List Int} {lines l:List aE} (hv:zJ lines) (hl:lines.length≤400) (hx:Iy xs (xsL lines)) (hy:Iy ys (ysL lines)) (hs:∀ r ∈ l,r ∈ lines):Has xs ys l:=by
 have w:=Zn hv
 have lx:=Fu hx.1 fun x m=>(hx.2 x).1 m
 have ly:=Fu hy.1 fun x m=>(hy.2 x).1 m
 rw [AF] at lx
 rw [AH] at ly
 refine ⟨⟨hx.1,fun x m=>w.1 x ((hx.2 x).1 m),by omega⟩,⟨hy.1,fun x m=>w.2 x ((hy.2 x).1 m),by omega⟩,fun c hc=>?_,fun c hc=>?_,fun r hr=>hv r (hs r hr)⟩
 ·obtain ⟨r,hr,hm⟩:=List.mem_flatMap.1 hc
  exact (hx.2 c).2 (List.mem_flatMap.2 ⟨r,hs r hr,hm⟩)
 ·obtain ⟨r,hr,hm⟩:=List.mem_flatMap.1 hc
  exact (hy.2 c).2 (List.mem_flatMap.2 ⟨r,hs r hr,hm⟩)
theorem Nl {l:List Int} (h:l.Pairwise fun x y=>x<y) (hl:l.length≤10000) (n:Int) :
  ∃ r,iS n l=some r∧r.Pairwise (fun x y=>x<y)∧(∀ x,x ∈ r↔x ∈ l∨x=n)∧r.length≤l.length+1:=by
 obtain ⟨i',q1,i,rfl,hi,ha,hb⟩:=nW (fun s:Int=>s.toNat)
  (fun s:Int=>∃ k:Nat,s=k∧k≤l.length∧∀ x ∈ l.drop k,n<x)
  (fun r:Int=>∃ k:Nat,r=k∧k≤l.length∧(∀ x ∈ l.drop k,n<x)∧(0<k→∀ y,l[k-1]?=some y→y≤n)) (sW n l) (by
   rintro s ⟨k,rfl,hk,hI⟩
   unfold sW
   by_cases h0:0<k
   ·obtain ⟨x,hx⟩:∃ x,l[k-1]?=some x:=⟨_,List.getElem?_eq_getElem (by omega)⟩
    have e1:aH (k:Int) 1=((k-1:Nat):Int):=by rw [bE (by omega) (by omega)];omega
    have d:decide ((k:Int)>0)=true:=by simp;omega
    simp only [d,if_true,e1,bB hx,Option.bind_some]
    by_cases hg:x>n
    ·left
     refine ⟨((k-1:Nat):Int),by simp [hg],⟨k-1,rfl,by omega,fun y hy=>?_⟩,by omega⟩
     rw [List.drop_eq_getElem_cons (show k-1<l.length by omega),show k-1+1=k by omega] at hy
     rcases List.mem_cons.1 hy with rfl | hy
     ·rw [List.getElem?_eq_getElem (by omega)] at hx;injection hx with hx;rw [hx];exact hg
     ·exact hI y hy
    ·right
     refine ⟨(k:Int),by simp [hg],k,rfl,hk,hI,fun _ y hy=>?_⟩
     rw [hx] at hy;injection hy with hy;omega
   ·right
    have d:decide ((k:Int)>0)=false:=by simp;omega
    exact ⟨(k:Int),by simp only [d,Bool.false_eq_true,if_false,Option.bind_some],k,rfl,hk,hI,fun q=>absurd q h0⟩) (l.length:Int) ⟨l.length,rfl,Nat.le_refl _,by simp⟩
 unfold iS
 rw [q1,Option.bind_some]
 have hj:∃ b:Bool,(if decide ((i:Int)>0) then (idx l (aH (i:Int) 1)).bind (fun x48=>some (x48==n)) else some false)=some b∧(b=true↔0<i∧l[i-1]?=some n):=by
  by_cases h0:0<i
  ·obtain ⟨x,hx⟩:∃ x,l[i-1]?=some x:=⟨_,List.getElem?_eq_getElem (by omega)⟩
   have e1:aH (i:Int) 1=((i-1:Nat):Int):=by rw [bE (by omega) (by omega)];omega
   have d:decide ((i:Int)>0)=true:=by simp;omega
   refine ⟨x==n,by simp only [d,if_true,e1,bB hx,Option.bind_some], ?_⟩
   rw [beq_iff_eq,hx]
   exact ⟨fun q=>⟨h0,by rw [q]⟩,fun q=>Option.some.inj q.2⟩
  ·have d:decide ((i:Int)>0)=false:=by simp;omega
   exact ⟨false,by simp only [d,Bool.false_eq_true,if_false],by simp;omega⟩
 obtain ⟨b,hj1,hj2⟩:=hj
 rw [hj1,Option.bind_some]
 cases b with
 | true =>
   obtain ⟨h0,hn⟩:=hj2.1 rfl
   refine ⟨l,rfl,h,fun x=>⟨.inl,fun q=>q.elim id fun e=>by rw [e];exact List.mem_of_getElem? hn⟩,by omega⟩
 | false =>
   have hnot:¬ (0<i∧l[i-1]?=some n):=fun q=>by have:=hj2.2 q;cases this
   rw [if_neg (by simp),iR (by simp [LIM];omega)]
   have hlen:aH ((l++[0]).length:Int) 1=(l.length:Int):=by rw [List.length_append,List.length_singleton,bE (by omega) (by omega)];omega
   obtain ⟨r,t1,z,rfl⟩:=nW (fun s:Int×List Int=>(s.1-(i:Int)).toNat)
    (fun s:Int×List Int=>∃ j:Nat,s.1=j∧i≤j∧j≤l.length∧∃ z,s.2=l.take j++z::l.drop j)
    (fun r:List Int=>∃ z,r=l.take i++z::l.drop i) (sX (i:Int)) (by
     rintro ⟨s,c⟩ ⟨j,hs,hij,hjl,z,hc⟩
     simp only at hs hc
     subst hs hc
     unfold sX
     by_cases hg:i<j
     ·left
      have d:decide ((j:Int)>(i:Int))=true:=by simp;omega
      have e1:aH (j:Int) 1=((j-1:Nat):Int):=by rw [bE (by omega) (by omega)];omega
      have ht:(l.take j).length=j:=by rw [List.length_take];omega
      have g1:(l.take j++z::l.drop j)[j-1]?=some (l[j-1]'(by omega)):=by
       rw [List.getElem?_append_left (by omega),List.getElem?_take,if_pos (by omega),List.getElem?_eq_getElem (by omega)]
      have g2:(l.take j++z::l.drop j)[j]?=some z:=by rw [List.getElem?_append_right (by omega),ht];simp
      simp only [d,if_true,e1,bB g1,bB g2,Option.bind_some,Int.toNat_natCast]
      refine ⟨_,rfl,⟨j-1,rfl,by omega,by omega,l[j-1]'(by omega), ?_⟩,by simp only;omega⟩
      simp only
      rw [List.set_append_right _ _ (by omega),ht]
      have e2:l.take j=l.take (j-1)++[l[j-1]'(by omega)]:=by
       conv=>lhs;rw [show j=(j-1)+1 by omega]
       rw [List.take_add_one,List.getElem?_eq_getElem (by omega)];rfl
      have e3:l.drop (j-1)=l[j-1]'(by omega)::l.drop j:=by
       rw [List.drop_eq_getElem_cons (show j-1<l.length by omega),show j-1+1=j by omega]
      rw [e2,e3,Nat.sub_self,List.set_cons_zero,List.append_assoc];rfl
     ·right
      have d:decide ((j:Int)>(i:Int))=false:=by simp;omega
      obtain rfl:j=i:=by omega
      exact ⟨l.take j++z::l.drop j,by simp only [d,Bool.false_eq_true,if_false],z,rfl⟩) (aH ((l++[0]).length:Int) 1,l++[0]) ⟨l.length,hlen,hi,Nat.le_refl _,0,by simp⟩
   have ht:(l.take i).length=i:=by rw [List.length_take];omega
   have g2:(l.take i++z::l.drop i)[i]?=some z:=by rw [List.getElem?_append_right (by omega),ht];simp
   have e4:(l.take i++z::l.drop i).set i n=l.take i++n::l.drop i:=by rw [List.set_append_right _ _ (by omega),ht];simp
   simp only [Option.bind_some,t1,bB g2,Int.toNat_natCast,e4]
   have hlow:∀ x ∈ l.take i,x<n:=fun x hx=>by
    rcases Nat.eq_zero_or_pos i with q | q
    ·subst q;simp at hx
    ·obtain ⟨y,hy⟩:∃ y,l[i-1]?=some y:=⟨_,List.getElem?_eq_getElem (by omega)⟩
     have hyn:y<n:=by
      have h1:=hb q y hy
      have h2:y≠n:=fun e=>hnot ⟨q,by rw [hy,e]⟩
      omega
     obtain ⟨k,hk⟩:=List.mem_iff_getElem?.1 hx
     have hkl:=bL hk
     rw [List.getElem?_take,if_pos (by omega)] at hk
     by_cases e:k=i-1
     ·subst e;rw [hy] at hk;injection hk with hk;omega
     ·have:=Na h (show k<i-1 by omega) hk hy;omega
   refine ⟨_,rfl, ?_,fun x=>?_,by rw [List.length_append,List.length_cons,List.length_take,List.length_drop];omega⟩
   ·have hp:=h
    rw [← List.take_append_drop i l,List.pairwise_append] at hp
    rw [List.pairwise_append,List.pairwise_cons]
    refine ⟨hp.1,⟨ha,hp.2.1⟩,fun x hx y hy=>?_⟩
    rcases List.mem_cons.1 hy with rfl | hy
    ·exact hlow x hx
    ·exact hp.2.2 x hx y hy
   ·conv=>rhs;rw [← List.take_append_drop i l]
    simp only [List.mem_append,List.mem_cons]
    grind
theorem PM {l:List aE} (hv:zJ l) (hl:l.length≤400):∃ xs ys,yL l=some (xs,ys)∧Iy xs (xsL l)∧Iy ys (ysL l):=by
 obtain ⟨⟨xs,ys⟩,q1,⟨gx1,gx2⟩,⟨gy1,gy2⟩,lx,ly⟩:=kL l (fun k (s:List Int×List Int)=>((k:Int),s.1,s.2)) (pI l) (fun s=>(s.1,s.2)) (fun k s=>Iy s.1 (xsL (l.take k))∧Iy s.2 (ysL (l.take k))∧s.1.length≤2*k∧s.2.length≤2*k) ([],[])
  ⟨⟨.nil,by simp [xsL]⟩,⟨.nil,by simp [ysL]⟩,by simp,by simp⟩
  (fun k r s hr hI=>by
   obtain ⟨⟨a1,a2⟩,⟨b1,b2⟩,la,lb⟩:=hI
   have h1:=bL hr
   have hd:decide ((k:Int)<(l.length:Int))=true:=by simp [h1]
   obtain ⟨e1,e2⟩:=Pt (hv r (List.mem_of_getElem? hr))
   obtain ⟨c1,i1,p1,m1,n1⟩:=Nl a1 (by omega) r.X
   obtain ⟨c2,i2,p2,m2,n2⟩:=Nl p1 (by omega) (r.X+r.W)
   obtain ⟨c3,i3,p3,m3,n3⟩:=Nl b1 (by omega) r.Y
   obtain ⟨c4,i4,p4,m4,n4⟩:=Nl p3 (by omega) (r.Y+r.H)
   unfold pI
   simp only [hd,if_true,bB hr,Option.bind_some,e1,e2,i1,i2,i3,i4,bJ k (by omega)]
   refine ⟨(c2,c4),rfl,⟨p2,fun x=>?_⟩,⟨p4,fun x=>?_⟩,by simp only;omega,by simp only;omega⟩
   ·rw [m2,m1,a2,iT hr,Wz]
    simp [xsL,or_assoc]
   ·rw [m4,m3,b2,iT hr,Xa]
    simp [ysL,or_assoc]) (fun s _=>by simp [pI])
 rw [List.take_length] at gx2 gy2
 simp only at gx1 gx2 gy1 gy2
 refine ⟨xs,ys, ?_,⟨gx1,gx2⟩,⟨gy1,gy2⟩⟩
 unfold yL
 rw [show ((0:Int),([]:List Int),([]:List Int))=(((0:Nat):Int),(([],[]):List Int×List Int).1,(([],[]):List Int×List Int).2) from rfl,q1]
 rfl
end Go.SM
namespace Go.SM
open Go Go.VI
theorem NB {s sub:List UInt8} {i:Nat} (hne:sub≠[]) (h:Go.Lib.occAt s sub i=true):i+sub.length≤s.length:=by
 rcases Go.Lib.occAt_room h with h' | h'
 ·omega
 ·exact absurd h' hne
theorem Va {s sub:List UInt8} (hne:sub≠[]):Go.Lib.contains s sub=(List.range (s.length+1-sub.length)).any (Go.Lib.occAt s sub):=by
 unfold Go.Lib.contains
 rcases Go.Lib.index_spec s sub with ⟨h1,h2⟩ | ⟨i,h1,h2,h3,h4⟩
 ·rw [h1]
  have:(List.range (s.length+1-sub.length)).any (Go.Lib.occAt s sub)=false:=by
   rw [List.any_eq_false];intro j hj
   rw [h2 j (by have:=List.mem_range.1 hj;omega)];simp
  rw [this];rfl
 ·rw [h1]
  have:(List.range (s.length+1-sub.length)).any (Go.Lib.occAt s sub)=true:=List.any_eq_true.2 ⟨i,List.mem_range.2 (by have:=NB hne h3;omega),h3⟩
  rw [this];simp
theorem Ui {a b:ByteArray} (h:a.size+b.size≤9223372036854775807):Ts a b=some (a++b):=by unfold Ts;rw [if_pos h]
theorem IX (T s1:ByteArray) (hT:T.size<4294967281) (hs:s1.size≤8):wL T s1=some (Go.Lib.contains T.data.toList ((ByteArray.mk #[32]++s1)++ByteArray.mk #[32]).data.toList):=by
 have hsz:((ByteArray.mk #[32]++s1)++ByteArray.mk #[32]).size=s1.size+2:=by
  rw [ByteArray.size_append,ByteArray.size_append];show 1+s1.size+1=_;omega
 have hsub:s1.size+2=((ByteArray.mk #[32]++s1)++ByteArray.mk #[32]).data.toList.length:=by rw [← hsz];rfl
 have hne:((ByteArray.mk #[32]++s1)++ByteArray.mk #[32]).data.toList≠[]:=by
  intro h;rw [h] at hsub;simp at hsub
 have e1:Ts (ByteArray.mk #[32]) s1=some (ByteArray.mk #[32]++s1):=Ui (by show 1+s1.size≤_;omega)
 have e2:Ts (ByteArray.mk #[32]++s1) (ByteArray.mk #[32])=some ((ByteArray.mk #[32]++s1)++ByteArray.mk #[32]):=Ui (by rw [ByteArray.size_append];show 1+s1.size+1≤_;omega)
 generalize (ByteArray.mk #[32]++s1)++ByteArray.mk #[32]=W at hsz hsub hne e2 ⊢
 rw [Va hne]
 have hTl:T.data.toList.length=T.size:=rfl
 have key:aL (iU T s1) 0=some (if (List.range (T.data.toList.length+1-W.data.toList.length)).any (Go.Lib.occAt T.data.toList W.data.toList) then .inl () else .inr ()):=by
  refine rQ _ (iU T s1) (fun k=>(k:Int)) _ _ _ rfl (fun k hk=>?_) ?_
  ·unfold iU
   rw [hTl,← hsub] at hk
   rw [aP (a:=(k:Int)) (by omega) (by omega),aP (b:=2) (by omega) (by omega)]
   have h1:decide ((k:Int)+(s1.size:Int)+2≤(T.size:Int))=true:=by simp;omega
   simp only [h1,if_true]
   have e3:UR T k ((k:Int)+(s1.size:Int)+2)=some (T.extract k (k+W.size)):=by
    unfold UR
    rw [if_pos (by omega)]
    have:((k:Int)+(s1.size:Int)+2).toNat=k+W.size:=by omega
    rw [this];simp
   rw [e3]
   simp only [Option.bind_some,e1,e2]
   rw [Go.Lib.occ_of_piece T W k (by omega),aP (a:=(k:Int)) (by omega) (by omega)]
   cases (T.extract k (k+W.size)).toList==W.toList <;> simp
  ·unfold iU
   rw [hTl,← hsub]
   rw [aP (b:=(s1.size:Int)) (by omega) (by omega),aP (b:=2) (by omega) (by omega)]
   have h1:decide (((T.size+1-(s1.size+2):Nat):Int)+(s1.size:Int)+2≤(T.size:Int))=false:=by simp;omega
   simp only [h1];rfl
 unfold wL
 rw [key]
 cases (List.range (T.data.toList.length+1-W.data.toList.length)).any (Go.Lib.occAt T.data.toList W.data.toList) <;> rfl
def TQ (x:Int):Bool:=decide (¬ (97≤x∧x≤122)∧(x<48∨x>57))
theorem AB {s:ByteArray} {k:Nat} (h:k<s.size):Mu s (k:Int)=some ((s[k].toNat:Nat):Int):=by
 unfold Mu
 rw [if_pos (Int.natCast_nonneg k),Int.toNat_natCast]
 simp [h]
def TR (s:ByteArray):Bool:=(List.range s.size).any fun k=>if h:k<s.size then TQ s[k].toNat else false
theorem JD (s:ByteArray) (hs:s.size≤8):aL (tP s) 0=some (if TR s then .inl () else .inr ()):=by
 refine rQ s.size (tP s) (fun k=>(k:Int)) _ _ _ rfl (fun k hk=>?_) ?_
 ·unfold tP
  have h1:decide ((k:Int)<(s.size:Int))=true:=by simp;omega
  simp only [h1,if_true,AB hk,Option.bind_some,dif_pos hk]
  rw [aP (a:=(k:Int)) (by omega) (by omega)]
  generalize ((s[k].toNat:Nat):Int)=x
  unfold TQ
  by_cases q1:x<97
  ·have:¬ (97≤x∧x≤122):=by omega
   by_cases q2:x<48
   ·simp [q1,q2]
   ·by_cases q3:x>57 <;> simp [q1,q2,q3]
  ·by_cases q4:x>122
   ·have q5:¬ x<48:=by omega
    have q6:x>57:=by omega
    simp [q1,q4,q5,q6]
   ·simp [q1,q4]
 ·simp [tP]
theorem ES (s:ByteArray) (hs:s.size≤8):aL (gT s) 0=some (if TR s then .inl () else .inr ()):=by
 refine rQ s.size (gT s) (fun k=>(k:Int)) _ _ _ rfl (fun k hk=>?_) ?_
 ·unfold gT
  have h1:decide ((k:Int)<(s.size:Int))=true:=by simp;omega
  simp only [h1,if_true,AB hk,Option.bind_some,dif_pos hk]
  rw [aP (a:=(k:Int)) (by omega) (by omega)]
  generalize ((s[k].toNat:Nat):Int)=x
  unfold TQ
  by_cases q1:x ≥ 97
  ·by_cases q4:x≤122
   ·simp [q1,q4]
   ·have q5:¬ x<48:=by omega
    have q6:x>57:=by omega
    simp [q1,q4,q5,q6]
  ·by_cases q2:x<48
   ·simp [q1,q2]
   ·by_cases q3:x>57 <;> simp [q1,q2,q3]
 ·simp [gT]
theorem pE (s:ByteArray):∃ b,iN s=some b∧gM s=some b:=by
 unfold iN gM Da Av
 by_cases h1:(s.size:Int)<1
 ·exact ⟨false,by simp [h1],by simp [show ¬ (s.size:Int) ≥ 1 by omega]⟩
 by_cases h2:(s.size:Int)>8
 ·exact ⟨false,by simp [h1,h2],by simp [show (s.size:Int) ≥ 1 by omega,show ¬ (s.size:Int)≤8 by omega]⟩
 have g1:(s.size:Int) ≥ 1:=by omega
 have g2:(s.size:Int)≤8:=by omega
 have e0:Mu s 0=some ((s[0]'(by omega)).toNat:Int):=AB (k:=0) (by omega)
 generalize ((s[0]'(by omega)).toNat:Int)=x at e0
 by_cases h3:x<97
 ·exact ⟨false,by simp [h1,h2,e0,h3],by simp only [g1,g2,decide_true,if_true,Option.bind_some,e0,h3]⟩
 by_cases h4:x>122
 ·exact ⟨false,by simp [h1,h2,e0,h3,h4],by simp only [g1,g2,decide_true,if_true,Option.bind_some,e0,h3,h4,decide_false,Bool.false_eq_true,if_false]⟩
 simp only [g1,g2,h1,h2,h3,h4,decide_true,decide_false,if_true,Bool.false_eq_true,if_false,Option.bind_some,e0,JD s (by omega),ES s (by omega)]
 cases TR s with
 | true=>exact ⟨false,rfl,rfl⟩
 | false =>
   have e1:Ts (ByteArray.mk #[32]) s=some (ByteArray.mk #[32]++s):=Ui (by show 1+s.size≤_;omega)
   have e2:Ts (ByteArray.mk #[32]++s) (ByteArray.mk #[32])=some ((ByteArray.mk #[32]++s)++ByteArray.mk #[32]):=Ui (by rw [ByteArray.size_append];show 1+s.size+1≤_;omega)
   simp only [Bool.false_eq_true,if_false,e1,e2,Option.bind_some]
   unfold strings_Contains
   rw [IX _ s (by decide +kernel) (by omega),if_pos (by decide +kernel)]
   exact ⟨_,rfl,rfl⟩
theorem xL (n lo hi:Int):mG n lo hi=some (decide (lo≤n∧n≤hi)):=by
 unfold mG
 by_cases h1:lo≤n <;> simp [h1]
theorem Fh (g r:Int):Ho g r=some (decide ((1≤g∧g≤60)∧0≤r∧r≤2)):=by
 unfold Ho
 simp only [xL,Option.bind_some]
 by_cases h1:1≤g∧g≤60
 ·simp [h1]
 ·simp only [h1,decide_false,false_and];rfl
theorem Rj {n m:ByteArray} {a b:Bool} (hn:gM n=some a) (hm:gM m=some b) (g r:Int):sN n m g r=some (if a&&b then (if (1≤g∧g≤60)∧0≤r∧r≤2 then 0 else 1) else 2):=by
 unfold sN
 rw [hn,hm]
 cases a
 ·rfl
 ·cases b
  ·rfl
  ·by_cases h1:g<1
   ·have:¬ ((1≤g∧g≤60)∧0≤r∧r≤2):=by omega
    simp [h1,this]
   ·by_cases h2:g>60
    ·have:¬ ((1≤g∧g≤60)∧0≤r∧r≤2):=by omega
     simp [h1,h2,this]
    ·by_cases h3:r<0
     ·have:¬ ((1≤g∧g≤60)∧0≤r∧r≤2):=by omega
      simp [h1,h2,h3,this]
     ·by_cases h4:r>2
      ·have:¬ ((1≤g∧g≤60)∧0≤r∧r≤2):=by omega
       simp [h1,h2,h3,h4,this]
      ·have:((1≤g∧g≤60)∧0≤r∧r≤2):=by omega
       simp [h1,h2,h3,h4,this]
theorem eV (l:List aE) (hl:l.length≤9223372036854775806):nH l=some (!(l.any fun x=>!decide (vR x))):=by
 have key:aL (At l) 0=some (if (l.any fun x=>!decide (vR x)) then .inl () else .inr ()):=by
  refine dH l (At l) (fun k=>(k:Int)) _ _ _ rfl (fun k x hx=>?_) ?_
  ·have hk:=(List.getElem?_eq_some_iff.1 hx).1
   unfold At
   have h1:decide ((k:Int)<(l.length:Int))=true:=by simp;omega
   simp only [h1,if_true,bB hx,Option.bind_some,iF]
   rw [aP (a:=(k:Int)) (by omega) (by omega)]
   rfl
  ·simp [At]
 unfold nH
 rw [key]
 cases (l.any fun x=>!decide (vR x)) <;> rfl
theorem pF (l:List aE) (hl:l.length≤9223372036854775806):cV l=some (!(l.any fun x=>!decide (vR x))):=by
 have key:aL (iW l) 0=some (if (l.any fun x=>!decide (vR x)) then .inl () else .inr ()):=by
  refine dH l (iW l) (fun k=>(k:Int)) _ _ _ rfl (fun k x hx=>?_) ?_
  ·have hk:=(List.getElem?_eq_some_iff.1 hx).1
   unfold iW
   have h1:decide ((k:Int)<(l.length:Int))=true:=by simp;omega
   simp only [h1,if_true,bB hx,Option.bind_some,Pw]
   rw [aP (a:=(k:Int)) (by omega) (by omega)]
   rfl
  ·simp [iW]
 unfold cV
 rw [key]
 cases (l.any fun x=>!decide (vR x)) <;> rfl
def outs (r:aE) (l:List aE):Bool:=l.any fun x=>!decide (pL x r)
theorem MI (r:aE×Bool) (l:List aE) (hl:l.length≤9223372036854775806):aL (nA r l) 0=some (if outs r.1 l then .inl () else .inr ()):=by
 refine dH l (nA r l) (fun k=>(k:Int)) _ _ _ rfl (fun k x hx=>?_) ?_
 ·have hk:=(List.getElem?_eq_some_iff.1 hx).1
  unfold nA
  have h1:decide ((k:Int)<(l.length:Int))=true:=by simp;omega
  simp only [h1,if_true,bB hx,Option.bind_some,Mw]
  rw [aP (a:=(k:Int)) (by omega) (by omega)]
  rfl
 ·simp [nA]
theorem Kc (s:aZ) (l:List aE) (hl:l.length≤9223372036854775806):lS s l=some (!(outs ⟨0,0,s.bI,s.aY⟩ l)):=by
 have key:aL (iY s l) 0=some (if outs ⟨0,0,s.bI,s.aY⟩ l then .inl () else .inr ()):=by
  refine dH l (iY s l) (fun k=>(k:Int)) _ _ _ rfl (fun k x hx=>?_) ?_
  ·have hk:=(List.getElem?_eq_some_iff.1 hx).1
   unfold iY
   have h1:decide ((k:Int)<(l.length:Int))=true:=by simp;omega
   simp only [h1,if_true,bB hx,Option.bind_some,Xv]
   rw [aP (a:=(k:Int)) (by omega) (by omega)]
   rfl
  ·simp [iY]
 unfold lS
 rw [key]
 cases outs ⟨0,0,s.bI,s.aY⟩ l <;> rfl
theorem Vu (s:aZ) (r:aE×Bool) (h1:s.aT.length≤9223372036854775806) (h2:s.Used.length≤9223372036854775806):aL (nB s r) 0=some (if outs r.1 s.aT || outs r.1 s.Used then .inl () else .inr ()):=by
 have:=dH [s.aT,s.Used] (nB s r) (fun k=>(k:Int)) (fun l=>outs r.1 l) (.inr ()) (.inl ()) rfl (fun k x hx=>?_) ?_
 ·refine this.trans ?_;simp
 ·have hk:=(List.getElem?_eq_some_iff.1 hx).1
  unfold nB
  have hm:x=s.aT∨x=s.Used:=by have:=List.mem_of_getElem? hx;simpa using this
  have hl:x.length≤9223372036854775806:=by rcases hm with rfl | rfl <;> assumption
  have h3:decide ((k:Int)<(([s.aT,s.Used]:List (List aE)).length:Int))=true:=by rw [decide_eq_true_eq];exact Int.ofNat_lt.2 hk
  simp only [h3,if_true,bB hx,Option.bind_some,MI r x hl]
  have hk':k<2:=hk
  rw [aP (a:=(k:Int)) (by omega) (by omega)]
  cases outs r.1 x <;> simp
 ·simp [nB]
theorem Uo (s:aZ):∃ b,bC s=some b∧eO s=some b:=by
 obtain ⟨a,ha,ha'⟩:=pE s.Name
 obtain ⟨b,hb,hb'⟩:=pE s.aW
 unfold bC eO
 rw [ha,hb,Rj ha' hb']
 cases a with
 | false=>exact ⟨2,rfl,rfl⟩
 | true =>
 cases b with
 | false=>exact ⟨2,rfl,rfl⟩
 | true =>
 simp only [Option.bind_some,Fh,xL,Bool.and_self,if_true,Bool.not_true,Bool.false_eq_true,if_false]
 by_cases h1:(1≤s.bQ∧s.bQ≤60)∧0≤s.bM∧s.bM≤2
 ·simp only [h1,and_self,decide_true,if_true,Option.bind_some]
  by_cases h2:1≤s.bI∧s.bI≤1048576
  ·by_cases h3:1≤s.aY∧s.aY≤1048576
   ·have q1:¬ s.bI<1:=by omega
    have q2:¬ s.bI>1048576:=by omega
    have q3:¬ s.aY<1:=by omega
    have q4:¬ s.aY>1048576:=by omega
    simp only [h2,h3,q1,q2,q3,q4,and_self,decide_true,decide_false,if_true,Option.bind_some,Bool.not_true,Bool.false_eq_true,if_false,bne_self_eq_false]
    by_cases h4:(s.aT.length:Int)>4
    ·exact ⟨4,by simp [h4],by simp [h4]⟩
    by_cases h5:(s.Used.length:Int)>48
    ·exact ⟨4,by simp [h5],by simp [h5]⟩
    simp only [h4,h5,decide_false,Bool.false_eq_true,if_false,Option.bind_some,eV s.aT (by omega),eV s.Used (by omega),pF s.aT (by omega),pF s.Used (by omega),Kc s s.aT (by omega),Kc s s.Used (by omega)]
    cases (s.aT.any fun x=>!decide (vR x)) with
    | true=>exact ⟨1,rfl,rfl⟩
    | false =>
    cases (s.Used.any fun x=>!decide (vR x)) with
    | true=>exact ⟨1,rfl,rfl⟩
    | false =>
    have hi:gO s 0=some (⟨0,0,s.bI,s.aY⟩,decide (vR ⟨0,0,s.bI,s.aY⟩)):=by
     unfold gO
     rw [iF]
     have e0:cK 2 0=0:=by rw [tJ (by omega) (by omega)];rfl
     rw [e0,bE (by omega) (by omega),bE (by omega) (by omega),Int.sub_zero,Int.sub_zero]
     rfl
    simp only [hi,Option.bind_some,Vu s _ (show s.aT.length≤_ by omega) (show s.Used.length≤_ by omega),Bool.not_false,if_true,Bool.not_true,Bool.false_eq_true,if_false]
    cases outs ⟨0,0,s.bI,s.aY⟩ s.aT with
    | true=>exact ⟨13,rfl,rfl⟩
    | false =>
    cases outs ⟨0,0,s.bI,s.aY⟩ s.Used with
    | true=>exact ⟨13,rfl,rfl⟩
    | false=>exact ⟨0,rfl,rfl⟩
   ·refine ⟨1,by simp [h2,h3], ?_⟩
    by_cases q3:s.aY<1
    ·simp [q3]
    ·have q4:s.aY>1048576:=by omega
     simp [q3,q4]
  ·refine ⟨1,by simp [h2], ?_⟩
   by_cases q3:s.bI<1
   ·simp [q3]
   ·have q4:s.bI>1048576:=by omega
    simp [q3,q4]
 ·exact ⟨1,by simp only [h1,decide_false];rfl,by simp only [h1,if_false];rfl⟩
theorem Ja (s:bK):∃ b,cN s=some b∧jH s=some b:=by
 refine ⟨decide ((0≤s.Gap∧s.Gap≤14400)∧(0≤s.bF∧s.bF≤14400)), ?_, ?_⟩
 ·unfold cN
  simp only [xL,Option.bind_some]
  by_cases h:0≤s.Gap∧s.Gap≤14400
  ·simp [h]
  ·simp only [h,decide_false,false_and];rfl
 ·unfold jH
  by_cases h1:s.Gap ≥ 0
  ·by_cases h2:s.Gap≤14400
   ·by_cases h3:s.bF ≥ 0
    ·simp [h1,h2,h3]
    ·simp [h1,h2,h3]
   ·simp [h1,h2]
  ·simp [h1]
def cnt (l:List Bool):Nat:=l.countP (·==true)
theorem FM {l:List Bool} {k:Nat} (h:l[k]?=some false):cnt (l.set k true)=cnt l+1:=by
 unfold cnt
 have hk:=(List.getElem?_eq_some_iff.1 h).1
 have hv:=(List.getElem?_eq_some_iff.1 h).2
 rw [List.countP_set hk]
 simp [hv]
theorem QD {l:List Bool} (h:cnt l=l.length):∀ x ∈ l,x=true:=by
 have:=List.countP_eq_length.1 h
 intro x hx;simpa using this x hx
theorem Tb (a b:aE):Aw a b=rZ a b:=rfl
theorem FH (a b:aE):∃ t,rZ a b=some t:=by
 unfold rZ
 split
 ·split
  ·exact ⟨_,rfl⟩
  ·split <;> exact ⟨_,rfl⟩
 ·split <;> exact ⟨_,rfl⟩
theorem ID {l:List aE} (hl:l.length≤1000) {x:Int} {r:aE} (hx:idx l x=some r) {i:Nat} {b0:Bool×Unit} :
  ∀ (m k:Nat) (seen:List Bool) (w0 l0 ext:List Int) (s:Int×List Bool×List Int),k+m=l.length→seen.length=l.length→l0[i]?=some x→s.1=(i:Int)→w0.length+ext.length≤1000000-m→l0.length+ext.length≤1000000-m →
    ∃ seen' ext',aL (gE l x) ((k:Int),seen,w0++ext)=some (seen',w0++ext')∧aL (dW l s) ((k:Int),seen,l0++ext)=some (seen',l0++ext')∧seen'.length=l.length∧cnt seen'+ext.length=cnt seen+ext'.length∧(∀ y ∈ ext',y ∈ ext∨(0≤y∧y<l.length)):=by
 intro m
 induction m with
 | zero =>
   intro k seen w0 l0 ext s hk hs hi hsi h1 h2
   obtain rfl:k=l.length:=by omega
   refine ⟨seen,ext,cM ?_,cM ?_,hs,rfl,fun y hy=>.inl hy⟩
   ·simp [gE]
   ·simp [dW]
 | succ m ih =>
   intro k seen w0 l0 ext s hk hs hi hsi h1 h2
   have hkl:k<l.length:=by omega
   have hy:l[k]?=some l[k]:=by simp
   have hsn:seen[k]?=some seen[k]:=by simp [hs,hkl]
   have hle:i<l0.length:=(List.getElem?_eq_some_iff.1 hi).1
   have hi':∀ e:List Int,(l0++e)[i]?=some x:=fun e=>by rw [List.getElem?_append_left hle];exact hi
   have hd:decide ((k:Int)<(l.length:Int))=true:=by simp;omega
   have e1:aF (k:Int) 1=((k+1:Nat):Int):=by rw [aP (by omega) (by omega)];rfl
   obtain ⟨t,ht⟩:=FH r l[k]
   by_cases hb:seen[k]=true
   ·obtain ⟨seen',ext',p1,p2,p3⟩:=ih (k+1) seen w0 l0 ext s (by omega) hs hi hsi (by omega) (by omega)
    refine ⟨seen',ext', ?_, ?_,p3⟩
    ·rw [eW (s':=(((k+1:Nat):Int),seen,w0++ext))]
     ·exact p1
     ·unfold gE pG
      simp only [hd,if_true,bB hsn,hb,Option.bind_some,Bool.false_eq_true,if_false,e1]
    ·rw [eW (s':=(((k+1:Nat):Int),seen,l0++ext))]
     ·exact p2
     ·unfold dW gU
      simp only [hd,if_true,bB hsn,hb,Option.bind_some,Bool.false_eq_true,if_false,e1]
   ·have hb':seen[k]=false:=by simpa using hb
    cases t with
    | false =>
      obtain ⟨seen',ext',p1,p2,p3⟩:=ih (k+1) seen w0 l0 ext s (by omega) hs hi hsi (by omega) (by omega)
      refine ⟨seen',ext', ?_, ?_,p3⟩
      ·rw [eW (s':=(((k+1:Nat):Int),seen,w0++ext))]
       ·exact p1
       ·unfold gE pG
        simp only [hd,if_true,bB hsn,bB hy,hx,ht,hb',Option.bind_some,Bool.false_eq_true,if_false,e1]
      ·rw [eW (s':=(((k+1:Nat):Int),seen,l0++ext))]
       ·exact p2
       ·unfold dW gU
        simp only [hd,if_true,bB hsn,bB hy,hsi,bB (hi' ext),hx,Tb,ht,hb',Option.bind_some,Bool.false_eq_true,if_false,e1]
    | true =>
      have hset:(seen.set k true).length=l.length:=by rw [List.length_set];exact hs
      obtain ⟨seen',ext',p1,p2,p3,p4,p5⟩:=ih (k+1) (seen.set k true) w0 l0 (ext++[(k:Int)]) s (by omega) hset hi hsi (by simp;omega) (by simp;omega)
      have a1:app (w0++ext) [(k:Int)]=some (w0++(ext++[(k:Int)])):=by rw [iR (by unfold LIM;simp;omega),List.append_assoc]
      have a2:app (l0++ext) [(k:Int)]=some (l0++(ext++[(k:Int)])):=by rw [iR (by unfold LIM;simp;omega),List.append_assoc]
      refine ⟨seen',ext', ?_, ?_,p3, ?_,fun y hy'=>?_⟩
      ·rw [eW (s':=(((k+1:Nat):Int),seen.set k true,w0++(ext++[(k:Int)])))]
       ·exact p1
       ·unfold gE pG
        simp only [hd,if_true,bB hsn,bB hy,hx,ht,hb',Option.bind_some,Bool.false_eq_true,if_false,e1,a1,Int.toNat_natCast]
      ·rw [eW (s':=(((k+1:Nat):Int),seen.set k true,l0++(ext++[(k:Int)])))]
       ·exact p2
       ·unfold dW gU
        simp only [hd,if_true,bB hsn,bB hy,hsi,bB (hi' ext),hx,Tb,ht,hb',Option.bind_some,Bool.false_eq_true,if_false,e1,a2,Int.toNat_natCast]
      ·rw [FM (by rw [hsn,hb'])] at p4
       simp at p4;omega
      ·rcases p5 y hy' with h | h
       ·rcases List.mem_append.1 h with h | h
        ·exact .inl h
        ·right;rw [List.mem_singleton.1 h];omega
       ·exact .inr h
theorem IE {l:List aE} (hl:l.length≤1000):∀ (m i:Nat) (seen:List Bool) (q:List Int),i+m=l.length→i≤q.length→seen.length=l.length→cnt seen=q.length→(∀ y ∈ q,0≤y∧y<l.length) →
  ∃ seen' q',aL (iG l) (seen,q.drop i)=some seen'∧aL (eY l) ((i:Int),seen,q)=some q'∧seen'.length=l.length∧cnt seen'=q'.length:=by
 intro m
 induction m with
 | zero =>
   intro i seen q him hiq hs hc hq
   have hcl:cnt seen≤seen.length:=List.countP_le_length
   obtain rfl:i=q.length:=by omega
   refine ⟨seen,q,cM ?_,cM ?_,hs,hc⟩
   ·simp [iG]
   ·simp [eY]
 | succ m ih =>
   intro i seen q him hiq hs hc hq
   have hcl:cnt seen≤seen.length:=List.countP_le_length
   by_cases hlt:i<q.length
   ·have hx:q[i]?=some q[i]:=by simp
    have hxm:=hq q[i] (List.getElem_mem hlt)
    have ed:q.drop i=q[i]::q.drop (i+1):=List.drop_eq_getElem_cons hlt
    have hr:idx l q[i]=some (l[q[i].toNat]'(by omega)):=by
     unfold idx;rw [if_pos hxm.1];simp [show q[i].toNat<l.length by omega]
    obtain ⟨seen',ext',p1,p2,p3,p4,p5⟩:=ID hl hr (b0:=(true,())) l.length 0 seen (q.drop (i+1)) q [] ((i:Int),seen,q) (by omega) hs hx rfl (by simp;omega) (by simp;omega)
    simp only [List.append_nil,List.length_nil,Nat.add_zero] at p1 p2 p4
    obtain ⟨seen2,q2,r1,r2,r3⟩:=ih (i+1) seen' (q++ext') (by omega) (by simp;omega) p3 (by simp;omega) (fun y hy=>by
     rcases List.mem_append.1 hy with h | h
     ·exact hq y h
     ·rcases p5 y h with h | h
      ·exact absurd h (by simp)
      ·exact h)
    refine ⟨seen2,q2, ?_, ?_,r3⟩
    ·rw [eW (s':=(seen',(q++ext').drop (i+1)))]
     ·exact r1
     ·unfold iG
      have e0:idx (q.drop i) 0=some q[i]:=by rw [ed];rfl
      have e2:List.drop 1 (q.drop i)=q.drop (i+1):=by rw [List.drop_drop]
      have h1:decide (((q.drop i).length:Int)>0)=true:=by rw [ed];simp;omega
      have h2:decide (1≤(q.drop i).length)=true:=by rw [decide_eq_true_eq,List.length_drop];omega
      simp only [h1,if_true,e0,Option.bind_some,h2,e2]
      have p1':aL (gE l q[i]) (0,seen,List.drop (i+1) q)=some (seen',List.drop (i+1) q++ext'):=p1
      rw [p1',List.drop_append_of_le_length (by omega)]
      rfl
    ·rw [eW (s':=(((i+1:Nat):Int),seen',q++ext'))]
     ·exact r2
     ·unfold eY
      have h1:decide ((i:Int)<(q.length:Int))=true:=by simp;omega
      have p2':aL (dW l ((i:Int),seen,q)) (0,seen,q)=some (seen',q++ext'):=p2
      simp only [h1,if_true,p2',Option.bind_some]
      rw [aP (by omega) (by omega)]
      rfl
   ·obtain rfl:i=q.length:=by omega
    refine ⟨seen,q,cM ?_,cM ?_,hs,hc⟩
    ·simp [iG]
    ·simp [eY]
theorem LG (l:List Bool) (hl:l.length≤1000):aL (tM l) 0=some (if l.any (fun x=>!x) then .inl () else .inr ()):=by
 refine dH l (tM l) (fun k=>(k:Int)) _ _ _ rfl (fun k x hx=>?_) ?_
 ·have hk:=(List.getElem?_eq_some_iff.1 hx).1
  unfold tM
  have h1:decide ((k:Int)<(l.length:Int))=true:=by simp;omega
  simp only [h1,if_true,bB hx,Option.bind_some]
  rw [aP (a:=(k:Int)) (by omega) (by omega)]
  rfl
 ·simp [tM]
theorem Gv {l:List aE} (hl:l.length≤1000) (h0:0<l.length):∃ b,oQ l=some b∧sV l=some b:=by
 have hmk:mk (l.length:Int) false=some (List.replicate l.length false):=by
  unfold mk;rw [if_pos (by unfold LIM;omega)];simp
 have hf:(List.replicate l.length false)[0]?=some false:=by simp [h0]
 have hc:cnt ((List.replicate l.length false).set 0 true)=1:=by
  rw [FM hf];unfold cnt;simp [List.countP_replicate]
 obtain ⟨seen',q',p1,p2,p3,p4⟩:=IE hl l.length 0 ((List.replicate l.length false).set 0 true) [0] (by omega) (by simp) (by simp) (by rw [hc];rfl) (by simp;omega)
 unfold oQ sV
 have i0:idx (List.replicate l.length false) 0=some false:=bB (k:=0) hf
 have p1':aL (iG l) ((List.replicate l.length false).set (Int.toNat 0) true,[0])=some seen':=p1
 have p2':aL (eY l) (0,(List.replicate l.length false).set (Int.toNat 0) true,[0])=some q':=p2
 simp only [hmk,Option.bind_some,i0,p1',p2',LG seen' (by omega)]
 refine ⟨_, ?_,rfl⟩
 by_cases ha:seen'.any (fun x=>!x)=true
 ·have:¬ (q'.length:Int)=(l.length:Int):=by
   intro h
   obtain ⟨x,hx,hn⟩:=List.any_eq_true.1 ha
   have:=QD (l:=seen') (by omega) x hx
   subst this;simp at hn
  simp [ha,this]
 ·have:(q'.length:Int)=(l.length:Int):=by
   rw [← p4,← p3]
   congr 1
   unfold cnt
   rw [List.countP_eq_length]
   intro x hx
   by_cases h:x=true
   ·simp [h]
   ·exact absurd (List.any_eq_true.2 ⟨x,hx,by simpa using h⟩) ha
  rw [this]
  simp only [ha,Bool.false_eq_true,if_false,beq_self_eq_true,Option.bind_some]
def xJ (h x:aE):Bool:=if h.X>x.X then (if h.Y>x.Y then (if aF h.X h.W<aF x.X x.W then decide (aF h.Y h.H<aF x.Y x.H) else false) else false) else false
theorem CQ (h:aE) (l:List aE) (hl:l.length≤1000):As h l=some (l.any (xJ h)):=by
 have key:aL (vO h l) 0=some (if l.any (xJ h) then .inl () else .inr ()):=by
  refine dH l (vO h l) (fun k=>(k:Int)) _ _ _ rfl (fun k x hx=>?_) ?_
  ·have hk:=(List.getElem?_eq_some_iff.1 hx).1
   unfold vO
   have h1:decide ((k:Int)<(l.length:Int))=true:=by simp;omega
   simp only [h1,if_true,bB hx,Option.bind_some]
   rw [aP (a:=(k:Int)) (by omega) (by omega)]
   unfold xJ
   by_cases q1:h.X>x.X
   ·by_cases q2:h.Y>x.Y
    ·by_cases q3:aF h.X h.W<aF x.X x.W
     ·by_cases q4:aF h.Y h.H<aF x.Y x.H <;> simp [q1,q2,q3,q4]
     ·simp [q1,q2,q3]
    ·simp [q1,q2]
   ·simp [q1]
  ·simp [vO]
 unfold As
 rw [key]
 cases l.any (xJ h) <;> rfl
theorem QH (h:aE) (l:List aE) (hl:l.length≤1000):yM h l=some (l.any (xJ h)):=by
 have key:aL (kQ h l) 0=some (if l.any (xJ h) then .inl () else .inr ()):=by
  refine dH l (kQ h l) (fun k=>(k:Int)) _ _ _ rfl (fun k x hx=>?_) ?_
  ·have hk:=(List.getElem?_eq_some_iff.1 hx).1
   unfold kQ
   have h1:decide ((k:Int)<(l.length:Int))=true:=by simp;omega
   simp only [h1,if_true,bB hx,Option.bind_some]
   rw [aP (a:=(k:Int)) (by omega) (by omega)]
   unfold xJ
   by_cases q1:h.X>x.X
   ·by_cases q2:h.Y>x.Y
    ·by_cases q3:aF h.X h.W<aF x.X x.W
     ·by_cases q4:aF h.Y h.H<aF x.Y x.H <;> simp [q1,q2,q3,q4]
     ·simp [q1,q2,q3]
    ·simp [q1,q2]
   ·simp [q1]
  ·simp [kQ]
 unfold yM
 rw [key]
 cases l.any (xJ h) <;> rfl
def Bb (x0:aQ) (l:List aE) (k:Nat):Bool:=match l[k]? with
 | some x=>!(x0.aD.any (xJ x)) || (decide ((k:Int)<(x0.bU.length:Int))&&((x.W==1) || (x.H==1)))
 | none=>false
theorem Ni (x0:aQ) (l:List aE) (hl:l.length≤1000) (hr:x0.aD.length≤1000):aL (yB x0 l) 0=some (if (List.range l.length).any (Bb x0 l) then .inl () else .inr ()):=by
 refine rQ l.length (yB x0 l) (fun k=>(k:Int)) _ _ _ rfl (fun k hk=>?_) ?_
 ·have hx:l[k]?=some l[k]:=by simp
  unfold yB Bb
  have h1:decide ((k:Int)<(l.length:Int))=true:=by simp;omega
  simp only [h1,if_true,bB hx,hx,Option.bind_some,CQ _ _ hr]
  rw [aP (a:=(k:Int)) (by omega) (by omega)]
  by_cases q1:(k:Int)<(x0.bU.length:Int)
  ·cases q2:(l[k].W==1)
   ·cases q3:(l[k].H==1)
    ·cases x0.aD.any (xJ l[k]) <;> simp [q1,q2,q3]
    ·cases x0.aD.any (xJ l[k]) <;> simp [q1,q2,q3]
   ·cases x0.aD.any (xJ l[k]) <;> simp [q1,q2]
  ·cases x0.aD.any (xJ l[k]) <;> simp [q1]
 ·simp [yB]
theorem Wq (x0:aQ) (l:List aE) (hl:l.length≤1000) (hr:x0.aD.length≤1000):aL (fH x0 l) 0=some (if (List.range l.length).any (Bb x0 l) then .inl () else .inr ()):=by
 refine rQ l.length (fH x0 l) (fun k=>(k:Int)) _ _ _ rfl (fun k hk=>?_) ?_
 ·have hx:l[k]?=some l[k]:=by simp
  unfold fH Bb
  have h1:decide ((k:Int)<(l.length:Int))=true:=by simp;omega
  simp only [h1,if_true,bB hx,hx,Option.bind_some,QH _ _ hr]
  rw [aP (a:=(k:Int)) (by omega) (by omega)]
  by_cases q1:(k:Int)<(x0.bU.length:Int)
  ·cases q2:(l[k].W==1)
   ·cases q3:(l[k].H==1)
    ·cases x0.aD.any (xJ l[k]) <;> simp [q1,q2,q3]
    ·cases x0.aD.any (xJ l[k]) <;> simp [q1,q2,q3]
   ·cases x0.aD.any (xJ l[k]) <;> simp [q1,q2]
  ·cases x0.aD.any (xJ l[k]) <;> simp [q1]
 ·simp [fH]
def yG (p:aE→aE→Bool) (l:List aE) (k:Nat):Bool:=match l[k]? with
 | some x=>(l.take k).any (p x)
 | none=>false
def Iv (x y:aE):Bool:=Cj x y==0
def eX (x y:aE):Bool:=decide (ovR x y)
theorem Hu {l:List aE} {k:Nat} (h:k≤l.length):slc l 0 (k:Int)=some (l.take k):=by
 unfold slc;rw [if_pos (by omega)];simp
theorem in2 (x:aE) (l:List aE) (hl:l.length≤1000):aL (yC x l) 0=some (if l.any (Iv x) then .inl () else .inr ()):=by
 refine dH l (yC x l) (fun k=>(k:Int)) _ _ _ rfl (fun k y hy=>?_) ?_
 ·have hk:=(List.getElem?_eq_some_iff.1 hy).1
  unfold yC
  have h1:decide ((k:Int)<(l.length:Int))=true:=by simp;omega
  simp only [h1,if_true,bB hy,Option.bind_some,Sk]
  rw [aP (a:=(k:Int)) (by omega) (by omega)]
  rfl
 ·simp [yC]
theorem in3 (l:List aE) (hl:l.length≤1000):aL (yD l) 0=some (if (List.range l.length).any (yG Iv l) then .inl () else .inr ()):=by
 refine rQ l.length (yD l) (fun k=>(k:Int)) _ _ _ rfl (fun k hk=>?_) ?_
 ·have hx:l[k]?=some l[k]:=by simp
  unfold yD yG
  have h1:decide ((k:Int)<(l.length:Int))=true:=by simp;omega
  simp only [h1,if_true,bB hx,hx,Option.bind_some,Hu (Nat.le_of_lt hk),in2 _ (l.take k) (by simp;omega)]
  rw [aP (a:=(k:Int)) (by omega) (by omega)]
  cases (l.take k).any (Iv l[k]) <;> simp
 ·simp [yD]
theorem WC (l:List aE) (hl:l.length≤1000):aL (fJ l) 0=some (if (List.range l.length).any (yG Iv l) then .inl () else .inr ()):=by
 have inner:∀ (k:Nat) (hk:k<l.length),aL (fI l (k:Int)) 0=some (if (l.take k).any (Iv l[k]) then .inl () else .inr ()):=by
  intro k hk
  have hx:l[k]?=some l[k]:=by simp
  refine dH (l.take k) (fI l (k:Int)) (fun k=>(k:Int)) _ _ _ rfl (fun j y hy=>?_) ?_
  ·have hj:=(List.getElem?_eq_some_iff.1 hy).1
   rw [List.length_take] at hj
   have hy':l[j]?=some y:=by rw [List.getElem?_take] at hy;simpa [show j<k by omega] using hy
   unfold fI
   have h1:decide ((j:Int)<(k:Int))=true:=by simp;omega
   simp only [h1,if_true,bB hx,bB hy',Option.bind_some,AI]
   rw [aP (a:=(j:Int)) (by omega) (by omega)]
   rfl
  ·have:(l.take k).length=k:=by simp;omega
   simp [fI,this]
 refine rQ l.length (fJ l) (fun k=>(k:Int)) _ _ _ rfl (fun k hk=>?_) ?_
 ·have hx:l[k]?=some l[k]:=by simp
  unfold fJ yG
  have h1:decide ((k:Int)<(l.length:Int))=true:=by simp;omega
  simp only [h1,if_true,hx,Option.bind_some,inner k hk]
  rw [aP (a:=(k:Int)) (by omega) (by omega)]
  cases (l.take k).any (Iv l[k]) <;> simp
 ·simp [fJ]
theorem ov2 (x:aE) (l:List aE) (hl:l.length≤1000):aL (mY x l) 0=some (if l.any (eX x) then .inl () else .inr ()):=by
 refine dH l (mY x l) (fun k=>(k:Int)) _ _ _ rfl (fun k y hy=>?_) ?_
 ·have hk:=(List.getElem?_eq_some_iff.1 hy).1
  unfold mY
  have h1:decide ((k:Int)<(l.length:Int))=true:=by simp;omega
  simp only [h1,if_true,bB hy,Option.bind_some,Gt]
  rw [aP (a:=(k:Int)) (by omega) (by omega)]
  rfl
 ·simp [mY]
theorem ov3 (x0:aQ) (hl:x0.aD.length≤1000):aL (mZ x0) 0=some (if (List.range x0.aD.length).any (yG eX x0.aD) then .inl () else .inr ()):=by
 refine rQ x0.aD.length (mZ x0) (fun k=>(k:Int)) _ _ _ rfl (fun k hk=>?_) ?_
 ·have hx:x0.aD[k]?=some x0.aD[k]:=by simp
  unfold mZ yG
  have h1:decide ((k:Int)<(x0.aD.length:Int))=true:=by simp;omega
  simp only [h1,if_true,bB hx,hx,Option.bind_some,Hu (Nat.le_of_lt hk),ov2 _ (x0.aD.take k) (by simp;omega)]
  rw [aP (a:=(k:Int)) (by omega) (by omega)]
  cases (x0.aD.take k).any (eX x0.aD[k]) <;> simp
 ·simp [mZ]
theorem Jj (x:aE) (l:List aE) (hl:l.length≤1000):fV x l=some (l.any (eX x)):=by
 have key:aL (jW x l) 0=some (if l.any (eX x) then .inl () else .inr ()):=by
  refine dH l (jW x l) (fun k=>(k:Int)) _ _ _ rfl (fun k y hy=>?_) ?_
  ·have hk:=(List.getElem?_eq_some_iff.1 hy).1
   unfold jW
   have h1:decide ((k:Int)<(l.length:Int))=true:=by simp;omega
   simp only [h1,if_true,bB hy,Option.bind_some,Sm]
   rw [aP (a:=(k:Int)) (by omega) (by omega)]
   rfl
  ·simp [jW]
 unfold fV
 rw [key]
 cases l.any (eX x) <;> rfl
theorem WD (x0:aQ) (hl:x0.aD.length≤1000):aL (fG x0) 0=some (if (List.range x0.aD.length).any (yG eX x0.aD) then .inl () else .inr ()):=by
 refine rQ x0.aD.length (fG x0) (fun k=>(k:Int)) _ _ _ rfl (fun k hk=>?_) ?_
 ·have hx:x0.aD[k]?=some x0.aD[k]:=by simp
  unfold fG yG
  have h1:decide ((k:Int)<(x0.aD.length:Int))=true:=by simp;omega
  simp only [h1,if_true,bB hx,hx,Option.bind_some,Hu (Nat.le_of_lt hk),Jj _ (x0.aD.take k) (by simp;omega)]
  rw [aP (a:=(k:Int)) (by omega) (by omega)]
  rfl
 ·simp [fG]
def nX (l:List aE) (a:Int):Int:=l.foldl (fun s r=>min s r.X) a
def nY (l:List aE) (a:Int):Int:=l.foldl (fun s r=>min s r.Y) a
theorem Mj (x0:aQ) (hl:x0.aD.length≤1000) (a b:Int):aL (dV x0) (a,b,0)=some (nX x0.aD a,nY x0.aD b):=by
 refine xB x0.aD (dV x0) (fun k=>(nX (x0.aD.take k) a,nY (x0.aD.take k) b,(k:Int))) _ (fun k r hr=>?_) ?_
 ·have hk:=(List.getElem?_eq_some_iff.1 hr).1
  unfold dV
  have h1:decide ((k:Int)<(x0.aD.length:Int))=true:=by simp;omega
  have e:x0.aD.take (k+1)=x0.aD.take k++[r]:=by rw [List.take_add_one,hr];rfl
  simp only [h1,if_true,bB hr,Option.bind_some,e,Nj]
  rw [aP (a:=(k:Int)) (by omega) (by omega)]
  unfold nX nY
  rw [List.foldl_append,List.foldl_append]
  rfl
 ·simp [dV]
theorem DW (x0:aQ):uJ x0.aD=dV x0:=by
 funext s
 unfold uJ dV
 cases idx x0.aD s.2.2 <;> rfl
theorem Vx (x0:aQ) (hl:x0.aD.length≤1000) {r:aE} (hr:x0.aD[0]?=some r):nE x0.aD=some (nX x0.aD r.X,nY x0.aD r.Y):=by
 unfold nE
 have i0:idx x0.aD 0=some r:=bB (k:=0) hr
 have hk:=(List.getElem?_eq_some_iff.1 hr).1
 have h1:aL (dV x0) (r.X,r.Y,0)=aL (dV x0) (r.X,r.Y,1):=by
  refine eW ?_
  unfold dV
  have hd:decide ((0:Int)<(x0.aD.length:Int))=true:=by simp;omega
  simp only [hd,if_true,i0,Option.bind_some,Nj,Int.min_self]
  rfl
 rw [i0,DW]
 simp only [Option.bind_some]
 rw [← h1,Mj x0 hl]
 rfl
theorem Um (x:aQ):∃ b,aX x=some b∧eN x=some b:=by
 obtain ⟨a,ha,ha'⟩:=pE x.Name
 obtain ⟨b,hb,hb'⟩:=pE x.aW
 unfold aX eN
 rw [ha,hb,Rj ha' hb']
 cases a with
 | false=>exact ⟨2,rfl,rfl⟩
 | true =>
 cases b with
 | false=>exact ⟨2,rfl,rfl⟩
 | true =>
 simp only [Option.bind_some,Fh,Bool.and_self,if_true,Bool.not_true,Bool.false_eq_true,if_false]
 by_cases h1:(1≤x.bQ∧x.bQ≤60)∧0≤x.bM∧x.bM≤2
 ·simp only [h1,and_self,decide_true,if_true,Option.bind_some,Bool.not_true,Bool.false_eq_true,if_false,bne_self_eq_false]
  by_cases l1:(x.aD.length:Int)>12
  ·exact ⟨4,by simp [l1],by simp [l1]⟩
  by_cases l2:(x.bU.length:Int)>12
  ·exact ⟨4,by simp [l2],by simp [l2]⟩
  by_cases l3:(x.Forms.length:Int)>12
  ·exact ⟨4,by simp [l3],by simp [l3]⟩
  have k1:x.aD.length≤12:=by omega
  have k2:x.bU.length≤12:=by omega
  have k3:x.Forms.length≤12:=by omega
  simp only [l1,l2,l3,decide_false,Bool.false_eq_true,if_false,Option.bind_some]
  by_cases h0:(x.aD.length:Int)=0
  ·exact ⟨1,by simp [h0],by simp [h0]⟩
  have h0':((x.aD.length:Int)==0)=false:=by rw [beq_eq_false_iff_ne];exact h0
  simp only [h0',Bool.false_eq_true,if_false,eV x.aD (by omega),eV x.bU (by omega),eV x.Forms (by omega),pF x.aD (by omega),pF x.bU (by omega),pF x.Forms (by omega),Option.bind_some]
  cases (x.aD.any fun x=>!decide (vR x)) with
  | true=>exact ⟨1,rfl,rfl⟩
  | false =>
  cases (x.bU.any fun x=>!decide (vR x)) with
  | true=>exact ⟨1,rfl,rfl⟩
  | false =>
  cases (x.Forms.any fun x=>!decide (vR x)) with
  | true=>exact ⟨1,rfl,rfl⟩
  | false =>
  have hr:x.aD[0]?=some (x.aD[0]'(by omega)):=by simp [show 0<x.aD.length by omega]
  have i0:idx x.aD 0=some (x.aD[0]'(by omega)):=bB (k:=0) hr
  obtain ⟨cn,c1,c2⟩:=Gv (l:=x.aD) (by omega) (by omega)
  have ap1:app [] x.bU=some x.bU:=by rw [iR (by unfold LIM;simp;omega)];rfl
  have ap2:app x.bU x.Forms=some (x.bU++x.Forms):=iR (by unfold LIM;omega)
  have k4:(x.bU++x.Forms).length≤1000:=by simp;omega
  simp only [Bool.not_false,Bool.not_true,if_true,Bool.false_eq_true,if_false,Option.bind_some,i0,Mj x (by omega),Vx x (by omega) hr,ov3 x (by omega),WD x (by omega),c1,c2]
  generalize x.aD[0]'(by omega)=r0
  by_cases m1:nX x.aD r0.X=0
  ·by_cases m2:nY x.aD r0.Y=0
   ·simp only [m1,m2,bne_self_eq_false,Bool.false_eq_true,if_false,Option.bind_some]
    cases (List.range x.aD.length).any (yG eX x.aD) with
    | true=>exact ⟨7,rfl,rfl⟩
    | false =>
    cases cn with
    | false=>exact ⟨6,rfl,rfl⟩
    | true =>
    simp only [Bool.not_true,Bool.false_eq_true,if_false,Option.bind_some]
    unfold Cb
    simp only [ap1,ap2,Option.bind_some,Ni x _ k4 (show x.aD.length≤1000 by omega),Wq x _ k4 (show x.aD.length≤1000 by omega),in3 _ k4,WC _ k4]
    cases (List.range (x.bU++x.Forms).length).any (Bb x (x.bU++x.Forms)) with
    | true=>exact ⟨13,rfl,rfl⟩
    | false =>
    cases (List.range (x.bU++x.Forms).length).any (yG Iv (x.bU++x.Forms)) with
    | true=>exact ⟨7,rfl,rfl⟩
    | false=>exact ⟨0,rfl,rfl⟩
   ·have m2':(nY x.aD r0.Y != 0)=true:=by rw [bne_iff_ne];exact m2
    simp only [m1,m2',bne_self_eq_false,Bool.false_eq_true,if_false,Option.bind_some,if_true]
    exact ⟨1,rfl,rfl⟩
  ·have m1':(nX x.aD r0.X != 0)=true:=by rw [bne_iff_ne];exact m1
   simp only [m1',Option.bind_some,if_true]
   exact ⟨1,rfl,rfl⟩
 ·exact ⟨1,by simp only [h1,decide_false];rfl,by simp only [h1,if_false];rfl⟩
end Go.SM
namespace Go.SM
open Go Go.VI Go.Cells
theorem Sp {r x:aE} (h:ovR r x):([(aE.mk r.X r.Y (aH (imax r.X x.X) r.X) r.H),(aE.mk (fD (aF r.X r.W) (aF x.X x.W)) r.Y (aH (aF r.X r.W) (fD (aF r.X r.W) (aF x.X x.W))) r.H),(aE.mk (imax r.X x.X) r.Y (aH (fD (aF r.X r.W) (aF x.X x.W)) (imax r.X x.X)) (aH (imax r.Y x.Y) r.Y)),(aE.mk (imax r.X x.X) (fD (aF r.Y r.H) (aF x.Y x.H)) (aH (fD (aF r.X r.W) (aF x.X x.W)) (imax r.X x.X)) (aH (aF r.Y r.H) (fD (aF r.Y r.H) (aF x.Y x.H))))]:List aE)=[zE r x,Cc r x,De r x,It r x]:=by
 obtain ⟨h1,h2,h3,h4,h5,h6⟩:=h
 obtain ⟨a1,a2⟩:=Pt h1
 obtain ⟨b1,b2⟩:=Pt h2
 unfold vR at h1 h2
 rw [a1,a2,b1,b2]
 simp only [Kq,Nj]
 rw [bE (a:=max r.X x.X) (b:=r.X) (by omega) (by omega),bE (a:=r.X+r.W) (b:=min (r.X+r.W) (x.X+x.W)) (by omega) (by omega),bE (a:=min (r.X+r.W) (x.X+x.W)) (b:=max r.X x.X) (by omega) (by omega),bE (a:=max r.Y x.Y) (b:=r.Y) (by omega) (by omega),bE (a:=r.Y+r.H) (b:=min (r.Y+r.H) (x.Y+x.H)) (by omega) (by omega)]
 rfl
theorem AQ {self:aE→List aE→Option Int} {r x:aE} (h:ovR r x) {l:List aE} (hl:l.length≤1000) {k:Nat} (hk:k<l.length) (hself:∀ p,vR p→self p (l.drop (k+1))=some (gN p (l.drop (k+1)))) :
  aL (uE self r l (k:Int) x) (0,0)=some (gN (zE r x) (l.drop (k+1))+gN (Cc r x) (l.drop (k+1))+gN (De r x) (l.drop (k+1))+gN (It r x) (l.drop (k+1))):=by
 have hsl:slc l (aF (k:Int) 1) (l.length:Int)=some (l.drop (k+1)):=by
  rw [bJ k (by omega)]
  unfold slc
  rw [if_pos (by omega)]
  congr 1
  simp
 have step:∀ (i:Nat) (p:aE) (acc:Int),[zE r x,Cc r x,De r x,It r x][i]?=some p→(0≤acc∧acc≤17592186044416)→uE self r l (k:Int) x (acc,(i:Int))=some (.inl (acc+gN p (l.drop (k+1)),((i+1:Nat):Int))):=fun i p acc hp hacc=>by
  have hi:=bL hp
  have hpm:=List.mem_of_getElem? hp
  have b1:=zZ p (l.drop (k+1))
  have b2:=Jm p (l.drop (k+1))
  unfold uE
  rw [Sp h]
  have hd:decide ((i:Int)<(([zE r x,Cc r x,De r x,It r x]:List aE).length:Int))=true:=by rw [decide_eq_true_eq];exact Int.ofNat_lt.2 hi
  simp only [hd,if_true,bB hp,Option.bind_some,Ep]
  have hi4:(i:Int)<9223372036854775807:=by simp at hi;omega
  by_cases hw:p.W>0
  ·by_cases hh:p.H>0
   ·simp only [hw,hh,decide_true,if_true,Option.bind_some,hsl,hself p (UH h p hpm hw hh),aP (a:=acc) (b:=gN p (l.drop (k+1))) (by omega) (by omega),bJ i hi4]
   ·have:=Py (r:=p) (l.drop (k+1)) (fun q=>hh q.2)
    simp only [hw,hh,decide_true,decide_false,if_true,Bool.false_eq_true,if_false,Option.bind_some,this,Int.add_zero,bJ i hi4]
  ·have:=Py (r:=p) (l.drop (k+1)) (fun q=>hw q.1)
   simp only [hw,decide_false,Bool.false_eq_true,if_false,Option.bind_some,this,Int.add_zero,bJ i hi4]
 have n1:=zZ (zE r x) (l.drop (k+1));have m1:=Jm (zE r x) (l.drop (k+1))
 have n2:=zZ (Cc r x) (l.drop (k+1));have m2:=Jm (Cc r x) (l.drop (k+1))
 have n3:=zZ (De r x) (l.drop (k+1));have m3:=Jm (De r x) (l.drop (k+1))
 have s0:=step 0 (zE r x) 0 rfl (by omega)
 have s1:=step 1 (Cc r x) _ rfl (show 0≤0+gN (zE r x) (l.drop (k+1))∧0+gN (zE r x) (l.drop (k+1))≤17592186044416 by omega)
 have s2:=step 2 (De r x) _ rfl (show 0≤0+gN (zE r x) (l.drop (k+1))+gN (Cc r x) (l.drop (k+1))∧0+gN (zE r x) (l.drop (k+1))+gN (Cc r x) (l.drop (k+1))≤17592186044416 by omega)
 have s3:=step 3 (It r x) _ rfl (show 0≤0+gN (zE r x) (l.drop (k+1))+gN (Cc r x) (l.drop (k+1))+gN (De r x) (l.drop (k+1))∧0+gN (zE r x) (l.drop (k+1))+gN (Cc r x) (l.drop (k+1))+gN (De r x) (l.drop (k+1))≤17592186044416 by omega)
 have s0':uE self r l (k:Int) x (0,0)=_:=s0
 rw [eW s0',eW s1,eW s2,eW s3]
 have last:∀ acc:Int,uE self r l (k:Int) x (acc,(((3+1:Nat):Int)))=some (.inr acc):=fun acc=>by
  unfold uE
  rw [Sp h]
  have hd:decide ((((3+1:Nat):Int))<(([zE r x,Cc r x,De r x,It r x]:List aE).length:Int))=false:=rfl
  simp only [hd,Bool.false_eq_true,if_false]
 rw [cM (last _),Int.zero_add]
theorem Uq {self:aE→List aE→Option Int} {r:aE} (hr:vR r) {l:List aE} (hl:l.length≤1000) (hv:zJ l) (hself:∀ k,k<l.length→∀ p,vR p→self p (l.drop (k+1))=some (gN p (l.drop (k+1)))):∀ (m k:Nat),k+m=l.length→∃ o,aL (xC self r l) (k:Int)=some o∧(match o with | .inl j=>j | .inr _=>cK r.W r.H)=gN r (l.drop k)
 | 0,k,hk=>by
   refine ⟨.inr (),cM ?_, ?_⟩
   ·unfold xC
    have:decide ((k:Int)<(l.length:Int))=false:=by rw [decide_eq_false_iff_not];omega
    simp only [this,Bool.false_eq_true,if_false]
   ·rw [List.drop_eq_nil_of_le (by omega),DC hr]
    unfold vR at hr
    have h1:r.W*r.H≤2097152*2097152:=Int.mul_le_mul (by omega) (by omega) (by omega) (by omega)
    have h0:0≤r.W*r.H:=Int.mul_nonneg (by omega) (by omega)
    exact tJ (by omega) (by omega)
 | m+1,k,hk=>by
   have hkl:k<l.length:=by omega
   have hx:l[k]?=some l[k]:=List.getElem?_eq_getElem hkl
   have hxv:=hv _ (List.getElem_mem hkl)
   have hdr:l.drop k=l[k]::l.drop (k+1):=List.drop_eq_getElem_cons hkl
   have hd:decide ((k:Int)<(l.length:Int))=true:=by rw [decide_eq_true_eq];omega
   by_cases ho:ovR r l[k]
   ·refine ⟨.inl (gN r (l.drop k)),cM ?_,rfl⟩
    unfold xC
    have hdo:decide (ovR r l[k])=true:=by rw [decide_eq_true_eq];exact ho
    simp only [hd,if_true,bB hx,Option.bind_some,Gt,hdo,Bool.not_true,Bool.false_eq_true,if_false,AQ ho hl hkl (hself k hkl)]
    rw [hdr,Za ho]
   ·obtain ⟨o,h1,h2⟩:=Uq hr hl hv hself m (k+1) (by omega)
    refine ⟨o, ?_,by rw [hdr,AP hr hxv ho];exact h2⟩
    rw [eW (s':=((k+1:Nat):Int))]
    ·exact h1
    ·unfold xC
     have hdo:decide (ovR r l[k])=false:=by rw [decide_eq_false_iff_not];exact ho
     simp only [hd,if_true,bB hx,Option.bind_some,Gt,hdo,Bool.not_false,bJ k (by omega)]
theorem FJ:∀ (n:Nat) (l:List aE),l.length≤n→l.length≤1000→zJ l→∀ r,vR r→qD (n+1) r l=some (gN r l)
 | n,l,hn,hl,hv,r,hr=>by
   show Bj (qD n) r l=_
   have hself:∀ k,k<l.length→∀ p,vR p→qD n p (l.drop (k+1))=some (gN p (l.drop (k+1))):=fun k hk p hp=>by
    cases n with
    | zero=>omega
    | succ n=>exact FJ n (l.drop (k+1)) (by simp;omega) (by simp;omega) (fun s hs=>hv s (List.mem_of_mem_drop hs)) p hp
   obtain ⟨o,h1,h2⟩:=Uq hr hl hv hself l.length 0 (by omega)
   have h1':aL (xC (qD n) r l) 0=some o:=h1
   unfold Bj
   rw [h1']
   rw [List.drop_zero] at h2
   cases o with
   | inl j=>exact congrArg some h2
   | inr u=>exact congrArg some h2
 termination_by n=>n
theorem KR {l:List aE} (hl:l.length≤900) (hv:zJ l) {r:aE} (hr:vR r):Pk r l=some (gN r l):=FJ 999 l (by omega) (by omega) hv r hr
theorem PT {l:List aE} (hl:l.length≤900) (hv:zJ l):Nt l=some (eB MM (cov l)):=by
 unfold Nt
 have key:=xB l (Cx l) (fun k=>(eB MM (cov (l.take k)),(k:Int))) (eB MM (cov l)) (fun k r hk=>?_) ?_
 ·have e0:eB MM (cov (l.take 0))=0:=by
   exact Kl fun x _ _=>Kl fun y _ _=>rfl
  rw [e0] at key
  have key':aL (Cx l) (0,0)=some (eB MM (cov l)):=key
  rw [key'];rfl
 ·have hkl:=bL hk
  have hsl:slc l 0 (k:Int)=some (l.take k):=Hu (by omega)
  have hal:=KR (l:=l.take k) (by simp;omega) (fun s hs=>hv s (List.mem_of_mem_take hs)) (hv r (List.mem_of_getElem? hk))
  have b1:=zZ r (l.take k);have b2:=Jm r (l.take k)
  have c1:=Ey (M:=MM) (cov (l.take k));have c2:=Ex (cov (l.take k))
  unfold Cx
  have hd:decide ((k:Int)<(l.length:Int))=true:=by rw [decide_eq_true_eq];omega
  simp only [hd,if_true,bB hk,Option.bind_some,hsl,hal,bJ k (show (k:Int)<9223372036854775807 by omega)]
  rw [iT hk,HY,aP (by omega) (by omega)]
 ·unfold Cx
  simp
theorem CW {l:List aE} (hv:zJ l) (hl:l.length≤1000) (x y:Int):wM l x y=some (cov l x y):=by
 unfold wM cov
 rw [MU l (mU l x y) (fun r=>inC r x y) (.inr ()) (.inl ()) (fun k r hr=>?s) ?f]
 ·cases l.any (fun r=>inC r x y) <;> rfl
 case s =>
  have h1:=bL hr
  obtain ⟨e1,e2⟩:=Pt (hv r (List.mem_of_getElem? hr))
  unfold mU
  simp only [h1,Int.ofNat_lt,decide_true,if_true,bB hr,Option.bind_some,e1,e2]
  have hb':(if decide (r.X≤x) then (if decide (x<r.X+r.W) then (if decide (r.Y≤y) then some (decide (y<r.Y+r.H)) else some false) else some false) else some false)=some (inC r x y):=by
   unfold inC
   cases decide (r.X≤x) <;> cases decide (x<r.X+r.W) <;> cases decide (r.Y≤y) <;> simp
  rw [hb',Option.bind_some,bJ k (by omega)]
 case f=>simp [mU]
theorem SV {xs:List Int} (h:Ul xs) {g:Int→Int} {c:Int} (hc:0≤c) (hg:∀ x,0≤g x∧g x≤c) {k:Nat} (hk:k<xs.length):0≤ps g xs k∧ps g xs k≤c*2097152:=by
 obtain ⟨b1,b2⟩:=Mn h.asc hc hg k hk
 obtain ⟨x,hx⟩:∃ x,xs[k]?=some x:=⟨_,List.getElem?_eq_getElem hk⟩
 obtain ⟨y,hy⟩:∃ y,xs[0]?=some y:=⟨_,List.getElem?_eq_getElem (by omega)⟩
 rw [xN hx,xN hy] at b2
 have wx:=h.within x (List.mem_of_getElem? hx)
 have wy:=h.within y (List.mem_of_getElem? hy)
 have:c*(x-y)≤c*2097152:=Int.mul_le_mul_of_nonneg_left (by omega) hc
 exact ⟨b1,by omega⟩
theorem CI {l:List aE} (hv:zJ l) (hl:l.length≤1000) {xs ys:List Int} (hY:Ul ys) {i:Nat} (hi:i≤1000) {x x':Int} (hx:xs[i]?=some x) (hx':xs[i+1]?=some x') (hxx:0≤x'-x∧x'-x≤2097152) (hb:(-1048576≤x∧x≤1048576)∧-1048576≤x'∧x'≤1048576) (z:Int) {acc:Int} (ha:0≤acc∧acc≤17592186044416) :
  aL (kO l (xs,ys) (z,(i:Int))) (acc,0)=some (acc+(x'-x)*Ah (fun y=>one (cov l x y)) ys):=by
 have hone:∀ y,0≤one (cov l x y)∧one (cov l x y)≤1:=fun y=>one_le _
 have hi1:aF (i:Int) 1=((i+1:Nat):Int):=bJ i (by omega)
 have hlen:=hY.len
 have key:=xB (List.range (ys.length-1)) (kO l (xs,ys) (z,(i:Int))) (fun k=>(acc+(x'-x)*ps (fun y=>one (cov l x y)) ys k,(k:Int))) (acc+(x'-x)*Ah (fun y=>one (cov l x y)) ys) (fun k _ hk=>?_) ?_
 ·have e0:acc+(x'-x)*ps (fun y=>one (cov l x y)) ys 0=acc:=by simp [ps,Hy]
  rw [e0] at key
  exact key
 ·have hkn:k<ys.length-1:=by have:=bL hk;simpa using this
  have hy:ys[k]?=some (ys[k]'(by omega)):=List.getElem?_eq_getElem (by omega)
  have hy':ys[k+1]?=some (ys[k+1]'(by omega)):=List.getElem?_eq_getElem (by omega)
  have hyy:=Na hY.asc (Nat.lt_succ_self k) hy hy'
  have wy:=hY.within _ (List.mem_of_getElem? hy)
  have wy':=hY.within _ (List.mem_of_getElem? hy')
  generalize ys[k]'(by omega)=y at hy hyy wy
  generalize ys[k+1]'(by omega)=y' at hy' hyy wy'
  obtain ⟨p1,p2⟩:=SV hY (c:=1) (by omega) hone (k:=k) (by omega)
  have q1:0≤(x'-x)*ps (fun y=>one (cov l x y)) ys k:=Int.mul_nonneg hxx.1 p1
  have q2:(x'-x)*ps (fun y=>one (cov l x y)) ys k≤2097152*2097152:=Int.mul_le_mul hxx.2 (by omega) p1 (by omega)
  have r1:0≤(x'-x)*(y'-y):=Int.mul_nonneg hxx.1 (by omega)
  have r2:(x'-x)*(y'-y)≤2097152*2097152:=Int.mul_le_mul hxx.2 (by omega) (by omega) (by omega)
  have hk1:aF (k:Int) 1=((k+1:Nat):Int):=bJ k (by omega)
  unfold kO
  have hd:decide (((k+1:Nat):Int)<(ys.length:Int))=true:=by rw [decide_eq_true_eq];omega
  simp only [hk1,hd,if_true,hi1,bB hx,bB hx',bB hy,bB hy',Option.bind_some,CW hv hl,vP]
  rw [Uf _ hy hy',Int.mul_add]
  cases hcv:cov l x y with
  | true =>
    rw [show one true=1 from rfl,Int.mul_one]
    rw [bE (a:=x') (b:=x) (by omega) (by omega),bE (a:=y') (b:=y) (by omega) (by omega),tJ (a:=x'-x) (b:=y'-y) (by omega) (by omega),aP (b:=(x'-x)*(y'-y)) (by omega) (by omega)]
    simp only [if_true,Int.add_assoc]
  | false =>
    rw [show one false=0 from rfl,Int.mul_zero,Int.mul_zero,Int.add_zero]
    simp only [Bool.false_eq_true,if_false]
 ·rw [List.length_range,Nu]
  unfold kO
  have:aF ((ys.length-1:Nat):Int) 1=((ys.length-1+1:Nat):Int):=bJ _ (by omega)
  have hd:decide (((ys.length-1+1:Nat):Int)<(ys.length:Int))=false:=by rw [decide_eq_false_iff_not];omega
  simp only [this,hd,Bool.false_eq_true,if_false]
theorem NZ {l:List aE} (hv:zJ l) (hl:l.length≤400):yJ l=some (eB MM (cov l)):=by
 obtain ⟨xs,ys,hg,hx,hy⟩:=PM hv hl
 have hH:Has xs ys l:=MF hv hl hx hy fun r hr=>hr
 have hX:=hH.X
 have hY:=hH.Y
 have hG:∀ x,0≤Ah (fun y=>one (cov l x y)) ys∧Ah (fun y=>one (cov l x y)) ys≤2097152:=fun x=>by
  have:=Vm hY (c:=1) (by omega) (g:=fun y=>one (cov l x y)) fun y=>one_le _
  omega
 unfold yJ
 rw [hg]
 simp only [Option.bind_some]
 have key:=xB (List.range (xs.length-1)) (kP l (xs,ys)) (fun k=>(ps (fun x=>Ah (fun y=>one (cov l x y)) ys) xs k,(k:Int))) (Ah (fun x=>Ah (fun y=>one (cov l x y)) ys) xs) (fun k _ hk=>?_) ?_
 ·have e0:ps (fun x=>Ah (fun y=>one (cov l x y)) ys) xs 0=0:=by simp [ps,Hy]
  rw [e0,AU hH] at key
  have key':aL (kP l (xs,ys)) (0,0)=some (eB MM (cov l)):=key
  rw [key'];rfl
 ·have hkn:k<xs.length-1:=by have:=bL hk;simpa using this
  have hlen:=hX.len
  have h1:xs[k]?=some (xs[k]'(by omega)):=List.getElem?_eq_getElem (by omega)
  have h2:xs[k+1]?=some (xs[k+1]'(by omega)):=List.getElem?_eq_getElem (by omega)
  have hxx:=Na hX.asc (Nat.lt_succ_self k) h1 h2
  have w1:=hX.within _ (List.mem_of_getElem? h1)
  have w2:=hX.within _ (List.mem_of_getElem? h2)
  obtain ⟨p1,p2⟩:=SV hX (c:=2097152) (by omega) hG (k:=k) (by omega)
  have hin:=CI hv (show l.length≤1000 by omega) hY (show k≤1000 by omega) h1 h2 (by omega) ⟨w1,w2⟩ (ps (fun x=>Ah (fun y=>one (cov l x y)) ys) xs k) (acc:=ps (fun x=>Ah (fun y=>one (cov l x y)) ys) xs k) (by omega)
  have hk1:aF (k:Int) 1=((k+1:Nat):Int):=bJ k (by omega)
  unfold kP
  have hd:decide (((k+1:Nat):Int)<(xs.length:Int))=true:=by rw [decide_eq_true_eq];omega
  simp only [hk1,hd,if_true,hin,Option.bind_some]
  rw [Uf _ h1 h2]
 ·rw [List.length_range,Nu]
  have hlen:=hX.len
  unfold kP
  have:aF ((xs.length-1:Nat):Int) 1=((xs.length-1+1:Nat):Int):=bJ _ (by omega)
  have hd:decide (((xs.length-1+1:Nat):Int)<(xs.length:Int))=false:=by rw [decide_eq_false_iff_not];omega
  simp only [this,hd,Bool.false_eq_true,if_false]
end Go.SM
namespace Go.SM
open Go Go.VI
def inB (a b:Int) (r:aE):Prop:=a≤r.X∧r.X+r.W≤a+1048576∧b≤r.Y∧r.Y+r.H≤b+1048576
structure VP (x:aQ):Prop where
 n1:x.aD.length≤12
 n0:0<x.aD.length
 n2:x.bU.length≤12
 n3:x.Forms.length≤12
 v1:∀ r ∈ x.aD,vR r∧inB 0 0 r
 v2:∀ r ∈ x.bU,vR r∧inB 0 0 r
 v3:∀ r ∈ x.Forms,vR r∧inB 0 0 r
theorem Pa {l:List aE} (h:(l.any fun x=>!decide (vR x))=false):∀ r ∈ l,vR r:=by
 intro r hr
 have:=List.any_eq_false.1 h r hr
 simpa using this
theorem Qn {l:List aE} {g:aE→Int}:∀ {a:Int},l.foldl (fun s r=>min s (g r)) a≤a∧∀ r ∈ l,l.foldl (fun s r=>min s (g r)) a≤g r:=by
 induction l with
 | nil=>intro a;exact ⟨Int.le_refl _,fun r hr=>absurd hr (by simp)⟩
 | cons x l ih =>
   intro a
   obtain ⟨h1,h2⟩:=ih (a:=min a (g x))
   refine ⟨by simp only [List.foldl_cons];omega,fun r hr=>?_⟩
   simp only [List.foldl_cons]
   rcases List.mem_cons.1 hr with rfl | hr
   ·omega
   ·exact h2 r hr
theorem Nf {l:List aE} {g:aE→Int}:∀ {a:Int},l.foldl (fun s r=>min s (g r)) a=a∨∃ r ∈ l,l.foldl (fun s r=>min s (g r)) a=g r:=by
 induction l with
 | nil=>intro a;exact .inl rfl
 | cons x l ih =>
   intro a
   simp only [List.foldl_cons]
   rcases ih (a:=min a (g x)) with h | ⟨r,hr,h⟩
   ·rw [h]
    by_cases hx:a≤g x
    ·left;omega
    ·right;exact ⟨x,by simp,by omega⟩
   ·exact .inr ⟨r,by simp [hr],h⟩
theorem WE {x:aQ} {r0:aE} (k1:x.aD.length≤12) (k0:0<x.aD.length) (k2:x.bU.length≤12) (k3:x.Forms.length≤12) (v1:(x.aD.any fun x=>!decide (vR x))=false) (v2:(x.bU.any fun x=>!decide (vR x))=false) (v3:(x.Forms.any fun x=>!decide (vR x))=false)
  (v4:(List.range (x.bU++x.Forms).length).any (Bb x (x.bU++x.Forms))=false) (hr:x.aD[0]?=some r0) (m1:nX x.aD r0.X=0) (m2:nY x.aD r0.Y=0):VP x:=by
 have b1:∀ r ∈ x.aD,inB 0 0 r:=fun r hr=>by
  have q:=Pa v1 r hr
  have h1:=(Qn (l:=x.aD) (g:=fun r=>r.X) (a:=r0.X)).2 r hr
  have h2:=(Qn (l:=x.aD) (g:=fun r=>r.Y) (a:=r0.Y)).2 r hr
  have e1:x.aD.foldl (fun s r=>min s r.X) r0.X=0:=m1
  have e2:x.aD.foldl (fun s r=>min s r.Y) r0.Y=0:=m2
  rw [e1] at h1;rw [e2] at h2
  unfold vR at q;unfold inB;omega
 have b4 : ∀ c ∈ x.bU++x.Forms,vR c→inB 0 0 c:=fun c hc hv=>by
  obtain ⟨k,hk⟩:=List.mem_iff_getElem?.1 hc
  have hkl:=(List.getElem?_eq_some_iff.1 hk).1
  have h:=List.any_eq_false.1 v4 k (List.mem_range.2 hkl)
  unfold Bb at h
  rw [hk] at h
  simp only [Bool.or_eq_true,not_or] at h
  have h':x.aD.any (xJ c)=true:=by simpa using h.1
  obtain ⟨r,hr,hd⟩:=List.any_eq_true.1 h'
  have q:=Pa v1 r hr
  have q2:=b1 r hr
  unfold xJ at hd
  unfold vR at q hv
  rw [aP (by omega) (by omega),aP (by omega) (by omega),aP (by omega) (by omega),aP (by omega) (by omega)] at hd
  unfold inB at q2 ⊢
  by_cases t1:c.X>r.X
  ·by_cases t2:c.Y>r.Y
   ·by_cases t3:c.X+c.W<r.X+r.W
    ·simp only [t1,t2,t3,if_true,decide_eq_true_eq] at hd
     omega
    ·simp [t1,t2,t3] at hd
   ·simp [t1,t2] at hd
  ·simp [t1] at hd
 exact ⟨k1,k0,k2,k3,fun r hr=>⟨Pa v1 r hr,b1 r hr⟩,fun r hr=>⟨Pa v2 r hr,b4 r (List.mem_append.2 (.inl hr)) (Pa v2 r hr)⟩,fun r hr=>⟨Pa v3 r hr,b4 r (List.mem_append.2 (.inr hr)) (Pa v3 r hr)⟩⟩
theorem Bw (x:aQ):∃ b,aX x=some b∧eN x=some b∧(b=0→VP x):=by
 obtain ⟨a,ha,ha'⟩:=pE x.Name
 obtain ⟨b,hb,hb'⟩:=pE x.aW
 unfold aX eN
 rw [ha,hb,Rj ha' hb']
 cases a with
 | false=>exact ⟨2,rfl,rfl,fun h=>absurd h (by decide)⟩
 | true =>
 cases b with
 | false=>exact ⟨2,rfl,rfl,fun h=>absurd h (by decide)⟩
 | true =>
 simp only [Option.bind_some,Fh,Bool.and_self,if_true,Bool.not_true,Bool.false_eq_true,if_false]
 by_cases h1:(1≤x.bQ∧x.bQ≤60)∧0≤x.bM∧x.bM≤2
 ·simp only [h1,and_self,decide_true,if_true,Option.bind_some,Bool.not_true,Bool.false_eq_true,if_false,bne_self_eq_false]
  by_cases l1:(x.aD.length:Int)>12
  ·exact ⟨4,by simp [l1],by simp [l1],fun h=>absurd h (by decide)⟩
  by_cases l2:(x.bU.length:Int)>12
  ·exact ⟨4,by simp [l2],by simp [l2],fun h=>absurd h (by decide)⟩
  by_cases l3:(x.Forms.length:Int)>12
  ·exact ⟨4,by simp [l3],by simp [l3],fun h=>absurd h (by decide)⟩
  have k1:x.aD.length≤12:=by omega
  have k2:x.bU.length≤12:=by omega
  have k3:x.Forms.length≤12:=by omega
  simp only [l1,l2,l3,decide_false,Bool.false_eq_true,if_false,Option.bind_some]
  by_cases h0:(x.aD.length:Int)=0
  ·exact ⟨1,by simp [h0],by simp [h0],fun h=>absurd h (by decide)⟩
  have h0':((x.aD.length:Int)==0)=false:=by rw [beq_eq_false_iff_ne];exact h0
  simp only [h0',Bool.false_eq_true,if_false,eV x.aD (by omega),eV x.bU (by omega),eV x.Forms (by omega),pF x.aD (by omega),pF x.bU (by omega),pF x.Forms (by omega),Option.bind_some]
  cases v1:(x.aD.any fun x=>!decide (vR x)) with
  | true=>exact ⟨1,rfl,rfl,fun h=>absurd h (by decide)⟩
  | false =>
  cases v2:(x.bU.any fun x=>!decide (vR x)) with
  | true=>exact ⟨1,rfl,rfl,fun h=>absurd h (by decide)⟩
  | false =>
  cases v3:(x.Forms.any fun x=>!decide (vR x)) with
  | true=>exact ⟨1,rfl,rfl,fun h=>absurd h (by decide)⟩
  | false =>
  have hr:x.aD[0]?=some (x.aD[0]'(by omega)):=by simp [show 0<x.aD.length by omega]
  have i0:idx x.aD 0=some (x.aD[0]'(by omega)):=bB (k:=0) hr
  obtain ⟨cn,c1,c2⟩:=Gv (l:=x.aD) (by omega) (by omega)
  have ap1:app [] x.bU=some x.bU:=by rw [iR (by unfold LIM;simp;omega)];rfl
  have ap2:app x.bU x.Forms=some (x.bU++x.Forms):=iR (by unfold LIM;omega)
  have k4:(x.bU++x.Forms).length≤1000:=by simp;omega
  simp only [Bool.not_false,Bool.not_true,if_true,Bool.false_eq_true,if_false,Option.bind_some,i0,Mj x (by omega),Vx x (by omega) hr,ov3 x (by omega),WD x (by omega),c1,c2]
  generalize x.aD[0]'(by omega)=r0 at hr i0 ⊢
  by_cases m1:nX x.aD r0.X=0
  ·by_cases m2:nY x.aD r0.Y=0
   ·simp only [m1,m2,bne_self_eq_false,Bool.false_eq_true,if_false,Option.bind_some]
    cases (List.range x.aD.length).any (yG eX x.aD) with
    | true=>exact ⟨7,rfl,rfl,fun h=>absurd h (by decide)⟩
    | false =>
    cases cn with
    | false=>exact ⟨6,rfl,rfl,fun h=>absurd h (by decide)⟩
    | true =>
    simp only [Bool.not_true,Bool.false_eq_true,if_false,Option.bind_some]
    unfold Cb
    simp only [ap1,ap2,Option.bind_some,Ni x _ k4 (show x.aD.length≤1000 by omega),Wq x _ k4 (show x.aD.length≤1000 by omega),in3 _ k4,WC _ k4]
    cases v4:(List.range (x.bU++x.Forms).length).any (Bb x (x.bU++x.Forms)) with
    | true=>exact ⟨13,rfl,rfl,fun h=>absurd h (by decide)⟩
    | false =>
    cases (List.range (x.bU++x.Forms).length).any (yG Iv (x.bU++x.Forms)) with
    | true=>exact ⟨7,rfl,rfl,fun h=>absurd h (by decide)⟩
    | false=>exact ⟨0,rfl,rfl,fun _=>WE k1 (by omega) k2 k3 v1 v2 v3 v4 hr m1 m2⟩
   ·have m2':(nY x.aD r0.Y != 0)=true:=by rw [bne_iff_ne];exact m2
    simp only [m1,m2',bne_self_eq_false,Bool.false_eq_true,if_false,Option.bind_some,if_true]
    exact ⟨1,rfl,rfl,fun h=>absurd h (by decide)⟩
  ·have m1':(nX x.aD r0.X != 0)=true:=by rw [bne_iff_ne];exact m1
   simp only [m1',Option.bind_some,if_true]
   exact ⟨1,rfl,rfl,fun h=>absurd h (by decide)⟩
 ·exact ⟨1,by simp only [h1,decide_false];rfl,by simp only [h1,if_false];rfl,fun h=>absurd h (by decide)⟩
theorem Qt {α β:Type} (l:List α) (f:α→β) (body:Int×List β→Option ((Int×List β) ⊕ List β)) (hl:l.length≤1000) (step:∀ (k:Nat) x acc,l[k]?=some x→body ((k:Int),acc)=(app acc [f x]).bind fun l'=>some (.inl (((k+1:Nat):Int),l'))) (fin:∀ acc,body ((l.length:Int),acc)=some (.inr acc)) :
  aL body (0,[])=some (l.map f):=by
 refine xB l body (fun k=>((k:Int),(l.take k).map f)) _ (fun k x hx=>?_) ?_
 ·have hk:=(List.getElem?_eq_some_iff.1 hx).1
  rw [step k x _ hx,iR (by unfold LIM;simp;omega)]
  simp only [Option.bind_some]
  rw [List.take_add_one,hx]
  simp
 ·rw [fin,List.take_length]
def qR (r:aE):aE:=⟨-(r.Y+r.H),r.X,r.H,r.W⟩
theorem Xt {r:aE} (h:vR r):vR (qR r):=by unfold vR at h ⊢;simp only [qR];omega
theorem WQ {a b:Int} {r:aE} (h:inB a b r):inB (-(b+1048576)) a (qR r):=by unfold inB at h ⊢;simp only [qR];omega
def Good (a b:Int) (l:List aE):Prop:=l.length≤12∧∀ r ∈ l,vR r∧inB a b r
theorem Good.q {a b:Int} {l:List aE} (h:Good a b l):Good (-(b+1048576)) a (l.map qR):=by
 refine ⟨by rw [List.length_map];exact h.1,fun r hr=>?_⟩
 obtain ⟨x,hx,rfl⟩:=List.mem_map.1 hr
 exact ⟨Xt (h.2 x hx).1,WQ (h.2 x hx).2⟩
theorem VQ {r:aE} (h:vR r):Cm r=some (qR r):=by
 unfold vR at h
 unfold Cm qR
 rw [Nk (by omega) (by omega),bE (by omega) (by omega)]
 congr 2
 omega
theorem Wb {a b:Int} {l:List aE} (h:Good a b l):wZ l=some (l.map qR):=by
 unfold wZ
 rw [Qt l qR (yS l) (by have:=h.1;omega) (fun k x acc hx=>?_) (fun acc=>?_)]
 ·rfl
 ·have hk:=(List.getElem?_eq_some_iff.1 hx).1
  have:=h.1
  unfold yS
  have h1:decide ((k:Int)<(l.length:Int))=true:=by simp;omega
  simp only [h1,if_true,bB hx,Option.bind_some,VQ (h.2 x (List.mem_of_getElem? hx)).1]
  rw [aP (a:=(k:Int)) (by omega) (by omega)]
  rfl
 ·simp [yS]
theorem Mr {a b:Int} {l:List aE} (h:Good a b l):kR l=some (l.map qR):=by
 unfold kR
 rw [Qt l qR (lV l) (by have:=h.1;omega) (fun k x acc hx=>?_) (fun acc=>?_)]
 ·rfl
 ·have hk:=(List.getElem?_eq_some_iff.1 hx).1
  have:=h.1
  have hv:=(h.2 x (List.mem_of_getElem? hx)).1
  unfold vR at hv
  unfold lV
  have h1:decide ((k:Int)<(l.length:Int))=true:=by simp;omega
  simp only [h1,if_true,bB hx,Option.bind_some]
  rw [aP (a:=(k:Int)) (by omega) (by omega),aP (by omega) (by omega),Nk (by omega) (by omega)]
  rfl
 ·simp [lV]
theorem TS (f:Flat) (h:f.sU=[]):aL (fM f) (0,[])=some []:=by
 refine cM ?_
 unfold fM
 rw [h];rfl
theorem EN {a b:Int} {R C F:List aE} (h1:Good a b R) (h2:Good a b C) (h3:Good a b F):Gc ⟨R,C,F,[]⟩=some ⟨R.map qR,C.map qR,F.map qR,[]⟩:=by
 unfold Gc gI
 rw [TS _ rfl,Wb h1,Wb h2,Wb h3]
 rfl
def tq:Nat→List aE→List aE
 | 0,l=>l
 | n+1,l=>(tq n l).map qR
def ta:Nat→Int×Int→Int×Int
 | 0,p=>p
 | n+1,p=>(-((ta n p).2+1048576),(ta n p).1)
theorem Good.tq {l:List aE} (h:Good 0 0 l):∀ n,Good (ta n (0,0)).1 (ta n (0,0)).2 (SM.tq n l)
 | 0=>h
 | n+1=>(Good.tq h n).q
theorem KH {R C F:List aE} (h1:Good 0 0 R) (h2:Good 0 0 C) (h3:Good 0 0 F) (n:Nat) (hn:n≤3):aL (wQ (n:Int)) (0,R,C,F,[])=some (tq n R,tq n C,tq n F,[]):=by
 have:=xB (List.range n) (wQ (n:Int)) (fun k=>((k:Int),tq k R,tq k C,tq k F,[])) (tq n R,tq n C,tq n F,[]) (fun k x hx=>?_) ?_
 ·exact this
 ·have hk:=(List.getElem?_eq_some_iff.1 hx).1
  rw [List.length_range] at hk
  unfold wQ
  have h1':decide ((k:Int)<(n:Int))=true:=by simp;omega
  simp only [h1',if_true,EN (h1.tq k) (h2.tq k) (h3.tq k),Option.bind_some]
  rw [aP (a:=(k:Int)) (by omega) (by omega)]
  rfl
 ·simp [wQ]
theorem EW {R C F:List aE} (h1:Good 0 0 R) (h2:Good 0 0 C) (h3:Good 0 0 F) (n:Nat) (hn:n≤3):aL (iX (n:Int)) (0,R,C,F)=some (tq n R,tq n C,tq n F):=by
 have:=xB (List.range n) (iX (n:Int)) (fun k=>((k:Int),tq k R,tq k C,tq k F)) (tq n R,tq n C,tq n F) (fun k x hx=>?_) ?_
 ·exact this
 ·have hk:=(List.getElem?_eq_some_iff.1 hx).1
  rw [List.length_range] at hk
  unfold iX
  have h1':decide ((k:Int)<(n:Int))=true:=by simp;omega
  simp only [h1',if_true,Mr (h1.tq k),Mr (h2.tq k),Mr (h3.tq k),Option.bind_some]
  rw [aP (a:=(k:Int)) (by omega) (by omega)]
  rfl
 ·simp [iX]
theorem Gs (n:Nat) (l:List aE):(tq n l).length=l.length:=by
 induction n with
 | zero=>rfl
 | succ n ih=>rw [tq,List.length_map,ih]
def mvR (x y:Int) (r:aE):aE:=⟨aF r.X x,aF r.Y y,r.W,r.H⟩
theorem Nn (a b:Int) (ha : -4194304≤a∧a≤4194304) (hb : -4194304≤b∧b≤4194304):aF a (rD b)=aH a b:=by
 rw [Nk (by omega) (by omega),aP (by omega) (by omega),bE (by omega) (by omega)];omega
theorem Db {a b:Int} {l:List aE} (h:Good a b l) (x y:Int):nD l x y=some (l.map (mvR x y)):=by
 unfold nD
 rw [Qt l (mvR x y) (oC l x y) (by have:=h.1;omega) (fun k r acc hx=>?_) (fun acc=>?_)]
 ·rfl
 ·have hk:=(List.getElem?_eq_some_iff.1 hx).1
  have:=h.1
  have hv:=(h.2 r (List.mem_of_getElem? hx)).1
  unfold vR at hv
  unfold oC uG
  have h1:decide ((k:Int)<(l.length:Int))=true:=by simp;omega
  have g1:decide (r.X > -2147483648)=true:=by simp;omega
  have g2:decide (r.X<2147483648)=true:=by simp;omega
  have g3:decide (r.Y > -2147483648)=true:=by simp;omega
  have g4:decide (r.Y<2147483648)=true:=by simp;omega
  simp only [h1,if_true,bB hx,Option.bind_some,g1,g2,g3,g4]
  rw [aP (a:=(k:Int)) (by omega) (by omega)]
  rfl
 ·simp [oC]
theorem mv0 {a b:Int} {l:List aE} (h:Good a b l):l.map (mvR 0 0)=l:=by
 conv=>rhs;rw [← List.map_id l]
 refine List.map_congr_left fun r hr=>?_
 have hv:=(h.2 r hr).1
 unfold vR at hv
 unfold mvR
 rw [aP (by omega) (by omega),aP (by omega) (by omega),Int.add_zero,Int.add_zero]
 rfl
theorem Mt {a b:Int} {l:List aE} (h:Good a b l) (mx my w ht:Int) (hx : -1048576≤mx∧mx≤1048576) (hy : -1048576≤my∧my≤1048576):vD l mx my w ht=some (l.map (mvR (rD mx) (rD my))):=by
 unfold vD
 rw [Qt l (mvR (rD mx) (rD my)) (xK l mx my w ht) (by have:=h.1;omega) (fun k r acc hr=>?_) (fun acc=>?_)]
 ·rfl
 ·have hk:=(List.getElem?_eq_some_iff.1 hr).1
  have:=h.1
  have hv:=(h.2 r (List.mem_of_getElem? hr)).1
  unfold vR at hv
  unfold xK Gy
  have h1:decide ((k:Int)<(l.length:Int))=true:=by simp;omega
  simp only [h1,if_true,bB hr,Option.bind_some,mvR]
  rw [aP (a:=(k:Int)) (by omega) (by omega),Nn _ _ (by omega) (by omega),Nn _ _ (by omega) (by omega)]
  rfl
 ·simp [xK]
theorem xA {a b mx my:Int} {l:List aE} (h:Good a b l) (hx:a≤mx∧mx≤a+1048576) (hy:b≤my∧my≤b+1048576) (qx : -1048576≤mx∧mx≤1048576) (qy : -1048576≤my∧my≤1048576):Good (a-mx) (b-my) (l.map (mvR (rD mx) (rD my))):=by
 refine ⟨by rw [List.length_map];exact h.1,fun r hr=>?_⟩
 obtain ⟨x,hxm,rfl⟩:=List.mem_map.1 hr
 obtain ⟨p1,p2⟩:=h.2 x hxm
 have hv:=p1
 unfold vR at hv
 unfold mvR
 rw [Nn _ _ (by omega) (by omega),Nn _ _ (by omega) (by omega),bE (by omega) (by omega),bE (by omega) (by omega)]
 unfold inB at p2 ⊢
 unfold vR
 simp only
 omega
theorem IA {l:List aE} (hl:l.length≤12) {r:aE} {t:List aE} (hc:l=r::t):∃ w h p q u v,Im l=some (⟨nX l r.X,nY l r.Y,w,h⟩,p,q,u,v):=by
 have i0:idx l 0=some r:=by rw [hc];rfl
 have hlt:l.length=t.length+1:=by rw [hc];rfl
 have e1:slc l 1 (l.length:Int)=some t:=by
  unfold slc
  rw [if_pos (by omega)]
  have:(l.length:Int).toNat=l.length:=by omega
  rw [this,List.take_length,hc];rfl
 let F:Int×Int×Int×Int→aE→Int×Int×Int×Int:=fun s x=>(fD s.1 x.X,fD s.2.1 x.Y,aH (imax (aF s.1 s.2.2.1) (aF x.X x.W)) (fD s.1 x.X),aH (imax (aF s.2.1 s.2.2.2) (aF x.Y x.H)) (fD s.2.1 x.Y))
 have key:aL (xW t) (0,r.X,r.Y,r.W,r.H)=some (t.foldl F (r.X,r.Y,r.W,r.H)):=by
  refine xB t (xW t) (fun k=>((k:Int),(t.take k).foldl F (r.X,r.Y,r.W,r.H))) _ (fun k x hx=>?_) ?_
  ·have hk:=(List.getElem?_eq_some_iff.1 hx).1
   unfold xW
   have h1:decide ((k:Int)<(t.length:Int))=true:=by simp;omega
   have e:t.take (k+1)=t.take k++[x]:=by rw [List.take_add_one,hx];rfl
   simp only [h1,if_true,bB hx,Option.bind_some,e]
   rw [aP (a:=(k:Int)) (by omega) (by omega),List.foldl_append]
   rfl
  ·simp [xW]
 have hX:∀ (t:List aE) (s:Int×Int×Int×Int),(t.foldl F s).1=t.foldl (fun s r=>min s r.X) s.1∧(t.foldl F s).2.1=t.foldl (fun s r=>min s r.Y) s.2.1:=by
  intro t
  induction t with
  | nil=>intro s;exact ⟨rfl,rfl⟩
  | cons x t ih =>
    intro s
    simp only [List.foldl_cons]
    obtain ⟨a,b⟩:=ih (F s x)
    rw [a,b]
    have q1:(F s x).1=min s.1 x.X:=Nj _ _
    have q2:(F s x).2.1=min s.2.1 x.Y:=Nj _ _
    rw [q1,q2]
    exact ⟨rfl,rfl⟩
 obtain ⟨a,b⟩:=hX t (r.X,r.Y,r.W,r.H)
 refine ⟨(t.foldl F (r.X,r.Y,r.W,r.H)).2.2.1,(t.foldl F (r.X,r.Y,r.W,r.H)).2.2.2,(t.foldl F (r.X,r.Y,r.W,r.H)).1,(t.foldl F (r.X,r.Y,r.W,r.H)).2.1,(t.foldl F (r.X,r.Y,r.W,r.H)).2.2.1,(t.foldl F (r.X,r.Y,r.W,r.H)).2.2.2, ?_⟩
 unfold Im
 rw [i0]
 simp only [Option.bind_some,e1,key]
 have c1:nX l r.X=(t.foldl F (r.X,r.Y,r.W,r.H)).1:=by rw [a,hc];unfold nX;simp only [List.foldl_cons,Int.min_self]
 have c2:nY l r.Y=(t.foldl F (r.X,r.Y,r.W,r.H)).2.1:=by rw [b,hc];unfold nY;simp only [List.foldl_cons,Int.min_self]
 rw [c1,c2]
theorem Wa {a b:Int} {l:List aE} (h:Good a b l) {r:aE} {t:List aE} (hc:l=r::t):(a≤nX l r.X∧nX l r.X≤a+1048576∧-1048576≤nX l r.X∧nX l r.X≤1048576)∧(b≤nY l r.Y∧nY l r.Y≤b+1048576∧-1048576≤nY l r.Y∧nY l r.Y≤1048576):=by
 have hr:r ∈ l:=by rw [hc];simp
 constructor
 ·obtain ⟨x,hx,e⟩:∃ x ∈ l,nX l r.X=x.X:=by
   rcases Nf (l:=l) (g:=fun r=>r.X) (a:=r.X) with e | ⟨x,hx,e⟩
   ·exact ⟨r,hr,e⟩
   ·exact ⟨x,hx,e⟩
  have p:=h.2 x hx
  unfold vR inB at p
  omega
 ·obtain ⟨x,hx,e⟩:∃ x ∈ l,nY l r.Y=x.Y:=by
   rcases Nf (l:=l) (g:=fun r=>r.Y) (a:=r.Y) with e | ⟨x,hx,e⟩
   ·exact ⟨r,hr,e⟩
   ·exact ⟨x,hx,e⟩
  have p:=h.2 x hx
  unfold vR inB at p
  omega
theorem WI {a b:Int} {l:List aE} (h:Good a b l):aL (Ab l) 0=some (.inr ()):=by
 have:=dH l (Ab l) (fun k=>(k:Int)) (fun x=>!decide (vR x)) (.inr ()) (.inl ()) rfl (fun k x hx=>?_) ?_
 ·refine this.trans ?_
  have:l.any (fun x=>!decide (vR x))=false:=by
   rw [List.any_eq_false];intro x hx;simp [(h.2 x hx).1]
  rw [this];rfl
 ·have hk:=(List.getElem?_eq_some_iff.1 hx).1
  have:=h.1
  unfold Ab
  have h1:decide ((k:Int)<(l.length:Int))=true:=by simp;omega
  simp only [h1,if_true,bB hx,Option.bind_some,iF]
  rw [aP (a:=(k:Int)) (by omega) (by omega)]
  rfl
 ·simp [Ab]
theorem BC {a b:Int} {R C F:List aE} (h1:Good a b R) (h2:Good a b C) (h3:Good a b F) (h0:0<R.length):Gx ⟨R,C,F,[]⟩=some 0:=by
 unfold Gx
 have e0:((R.length:Int)==0)=false:=by rw [beq_eq_false_iff_ne];omega
 have key:aL (Ac ⟨R,C,F,[]⟩) 0=some (.inr ()):=by
  have:=dH [R,C,F] (Ac ⟨R,C,F,[]⟩) (fun k=>(k:Int)) (fun _=>false) (.inr ()) (.inl ()) rfl (fun k x hx=>?_) ?_
  ·refine this.trans ?_;simp
  ·have hk:=(List.getElem?_eq_some_iff.1 hx).1
   have hm:x=R∨x=C∨x=F:=by have:=List.mem_of_getElem? hx;simpa using this
   have hg:Good a b x:=by rcases hm with rfl | rfl | rfl <;> assumption
   have h4:decide ((k:Int)<(([R,C,F]:List (List aE)).length:Int))=true:=by rw [decide_eq_true_eq];exact Int.ofNat_lt.2 hk
   have h5:decide ((x.length:Int)>48)=false:=by have:=hg.1;simp;omega
   have hk':k<3:=hk
   unfold Ac
   simp only [h4,if_true,bB hx,Option.bind_some,h5,Bool.false_eq_true,if_false,WI hg]
   rw [aP (a:=(k:Int)) (by omega) (by omega)]
   rfl
  ·simp [Ac]
 have b0:aL (Je ⟨R,C,F,[]⟩) 0=some (.inr ()):=cM (by simp [Je])
 simp only [e0,Bool.false_eq_true,if_false,key,b0,Option.bind_some]
theorem TU (f:Flat) (h:f.sU=[]) (a b c d:Int):aL (fN f a b c d) (0,[])=some []:=by
 refine cM ?_
 unfold fN
 rw [h];rfl
theorem EZ {a b:Int} {R C F:List aE} (h1:Good a b R) (h2:Good a b C) (h3:Good a b F) {r:aE} {t:List aE} (hc:R=r::t) :
  Gd ⟨R,C,F,[]⟩=some (⟨R.map (mvR (rD (nX R r.X)) (rD (nY R r.Y))),C.map (mvR (rD (nX R r.X)) (rD (nY R r.Y))),F.map (mvR (rD (nX R r.X)) (rD (nY R r.Y))),[]⟩,0):=by
 obtain ⟨w,h,p,q,u,v,e⟩:=IA h1.1 hc
 obtain ⟨⟨lx1,lx2,lx3,lx4⟩,ly1,ly2,ly3,ly4⟩:=Wa h1 hc
 unfold Gd
 rw [e]
 simp only [Option.bind_some]
 unfold gJ
 rw [TU _ rfl,Mt h1 _ _ _ _ ⟨lx3,lx4⟩ ⟨ly3,ly4⟩,Mt h2 _ _ _ _ ⟨lx3,lx4⟩ ⟨ly3,ly4⟩,Mt h3 _ _ _ _ ⟨lx3,lx4⟩ ⟨ly3,ly4⟩]
 simp only [Option.bind_some]
 rw [BC (xA h1 ⟨lx1,lx2⟩ ⟨ly1,ly2⟩ ⟨lx3,lx4⟩ ⟨ly3,ly4⟩) (xA h2 ⟨lx1,lx2⟩ ⟨ly1,ly2⟩ ⟨lx3,lx4⟩ ⟨ly3,ly4⟩) (xA h3 ⟨lx1,lx2⟩ ⟨ly1,ly2⟩ ⟨lx3,lx4⟩ ⟨ly3,ly4⟩) (by rw [List.length_map,hc];simp)]
 rfl
theorem Cv {l:List aE} (hl:l.length≤12) (x y:Int):uF l x y=some (l.map (mvR x y)):=by
 unfold uF
 have hmk:mk (l.length:Int) (aE.mk 0 0 0 0)=some (List.replicate l.length ⟨0,0,0,0⟩):=by
  unfold mk;rw [if_pos (by unfold LIM;omega)];simp
 have hc:cpy (List.replicate l.length (aE.mk 0 0 0 0)) 0 (List.take (min l.length (List.replicate l.length (aE.mk 0 0 0 0)).length) l)=l:=by
  unfold cpy;simp
 rw [hmk]
 simp only [Option.bind_some,hc]
 have key:aL (nZ l x y (List.replicate l.length ⟨0,0,0,0⟩)) (0,l)=some (l.map (mvR x y)):=by
  refine xB l (nZ l x y (List.replicate l.length ⟨0,0,0,0⟩)) (fun k=>((k:Int),(l.take k).map (mvR x y)++l.drop k)) _ (fun k r hr=>?_) ?_
  ·have hk:=(List.getElem?_eq_some_iff.1 hr).1
   unfold nZ
   rw [hc]
   have h1:decide ((k:Int)<(l.length:Int))=true:=by simp;omega
   have ht:((l.take k).map (mvR x y)).length=k:=by simp;omega
   have ed:l.drop k=r::l.drop (k+1):=by rw [List.drop_eq_getElem_cons hk];congr 1;exact (List.getElem?_eq_some_iff.1 hr).2
   have i1:∀ z:aE,idx ((l.take k).map (mvR x y)++z::l.drop (k+1)) (k:Int)=some z:=fun z=>bB (by rw [List.getElem?_append_right (by omega),ht];simp)
   have s1:∀ z z':aE,List.set ((l.take k).map (mvR x y)++z::l.drop (k+1)) k z'=(l.take k).map (mvR x y)++z'::l.drop (k+1):=fun z z'=>by rw [List.set_append_right _ _ (by omega),ht];simp
   simp only [h1,if_true,ed,i1,s1,Option.bind_some,Int.toNat_natCast]
   rw [aP (a:=(k:Int)) (by omega) (by omega)]
   have e:l.take (k+1)=l.take k++[r]:=by rw [List.take_add_one,hr];rfl
   rw [e,List.map_append,List.append_assoc]
   rfl
  ·unfold nZ
   rw [hc]
   simp
 rw [key]
 rfl
theorem HJ {x:aQ} (h:VP x) (n:Nat) (hn:n≤3) {r:aE} {t:List aE} (hc:tq n x.aD=r::t):wN x (n:Int)=some (⟨x.Name,x.aW,x.bQ,x.bM,(tq n x.aD).map (mvR (rD (nX (tq n x.aD) r.X)) (rD (nY (tq n x.aD) r.Y))),(tq n x.bU).map (mvR (rD (nX (tq n x.aD) r.X)) (rD (nY (tq n x.aD) r.Y))),(tq n x.Forms).map (mvR (rD (nX (tq n x.aD) r.X)) (rD (nY (tq n x.aD) r.Y)))⟩,x.Name,x.aW,x.bQ,x.bM):=by
 have g1:Good 0 0 x.aD:=⟨h.n1,h.v1⟩
 have g2:Good 0 0 x.bU:=⟨h.n2,h.v2⟩
 have g3:Good 0 0 x.Forms:=⟨h.n3,h.v3⟩
 have hl:(tq n x.aD).length≤1000:=by rw [Gs];have:=h.n1;omega
 unfold wN oR
 simp only [Db g1,Db g2,Db g3,mv0 g1,mv0 g2,mv0 g3,Option.bind_some,EW g1 g2 g3 n hn]
 have le:=Vx ⟨x.Name,x.aW,x.bQ,x.bM,tq n x.aD,[],[]⟩ (show (tq n x.aD).length≤1000 from hl) (r:=r) (show (tq n x.aD)[0]?=some r by rw [hc];rfl)
 have le':nE (tq n x.aD)=some (nX (tq n x.aD) r.X,nY (tq n x.aD) r.Y):=le
 simp only [le',Option.bind_some,Db (g1.tq n),Db (g2.tq n),Db (g3.tq n)]
theorem Oy {x:aQ} (h:VP x) (n:Nat) (hn:n≤3) {r:aE} {t:List aE} (hc:tq n x.aD=r::t):Ck ⟨x.aD,x.bU,x.Forms,[]⟩ (n:Int)=some (⟨(tq n x.aD).map (mvR (rD (nX (tq n x.aD) r.X)) (rD (nY (tq n x.aD) r.Y))),(tq n x.bU).map (mvR (rD (nX (tq n x.aD) r.X)) (rD (nY (tq n x.aD) r.Y))),(tq n x.Forms).map (mvR (rD (nX (tq n x.aD) r.X)) (rD (nY (tq n x.aD) r.Y))),[]⟩,0):=by
 have g1:Good 0 0 x.aD:=⟨h.n1,h.v1⟩
 have g2:Good 0 0 x.bU:=⟨h.n2,h.v2⟩
 have g3:Good 0 0 x.Forms:=⟨h.n3,h.v3⟩
 unfold Ck
 have t1:decide ((n:Int)<0)=false:=by simp
 have t2:decide ((n:Int)>3)=false:=by simp;omega
 have t3:aL (Fq ⟨x.aD,x.bU,x.Forms,[]⟩) ()=some ():=cM (by simp [Fq])
 simp only [BC g1 g2 g3 h.n0,Option.bind_some,bne_self_eq_false,Bool.false_eq_true,if_false,t1,t2,KH g1 g2 g3 n hn,t3,EZ (g1.tq n) (g2.tq n) (g3.tq n) hc]
theorem KO (x:aQ) (p:aS):∃ q c n m g k,lM x p=some (q,c,n,m,g,k)∧mI x p=some (q,c,n,m,g,k)∧q.aD.length≤12∧q.bU.length≤12∧q.Forms.length≤12∧(c=0→0<q.aD.length):=by
 obtain ⟨b,b1,b2,b3⟩:=Bw x
 unfold lM mI
 rw [b1,b2]
 simp only [Option.bind_some]
 by_cases hb:b=0
 ·subst hb
  have h:=b3 rfl
  simp only [bne_self_eq_false,Bool.false_eq_true,if_false,xL,Option.bind_some,GL]
  by_cases q1:p.zK<0
  ·simp only [q1,show ¬ (0≤p.zK∧p.zK≤3) by omega,decide_false,decide_true,Bool.not_false,if_true,Option.bind_some]
   exact ⟨_,_,_,_,_,_,rfl,rfl,by simp,by simp,by simp,by decide⟩
  by_cases q2:p.zK>3
  ·simp only [q1,q2,show ¬ (0≤p.zK∧p.zK≤3) by omega,decide_false,decide_true,Bool.not_false,if_true,Option.bind_some,Bool.false_eq_true,if_false]
   exact ⟨_,_,_,_,_,_,rfl,rfl,by simp,by simp,by simp,by decide⟩
  obtain ⟨n,hn⟩:∃ n:Nat,p.zK=n:=⟨p.zK.toNat,by omega⟩
  have hn3:n≤3:=by omega
  have w1:∀ z:Int,wb 1048576 z=decide (-1048576≤z∧z≤1048576):=fun z=>by
   rw [Bool.eq_iff_iff,Ib,decide_eq_true_eq]
  simp only [q1,q2,show (0≤p.zK∧p.zK≤3) by omega,and_self,decide_true,decide_false,Bool.not_true,Bool.false_eq_true,if_false,Option.bind_some,w1]
  by_cases q3 : -1048576≤p.X∧p.X≤1048576
  ·by_cases q4 : -1048576≤p.Y∧p.Y≤1048576
   ·simp only [q3,q4,and_self,decide_true,if_true,Bool.not_true,Option.bind_some,Bool.false_eq_true,if_false]
    have hl:(tq n x.aD).length=x.aD.length:=Gs n _
    obtain ⟨r,t,hc⟩:∃ r t,tq n x.aD=r::t:=by
     cases e:tq n x.aD with
     | nil=>rw [e] at hl;have:=h.n0;simp at hl;omega
     | cons r t=>exact ⟨r,t,rfl⟩
    have hl2:(tq n x.bU).length=x.bU.length:=Gs n _
    have hl3:(tq n x.Forms).length=x.Forms.length:=Gs n _
    have g1:Good 0 0 x.aD:=⟨h.n1,h.v1⟩
    have g2:Good 0 0 x.bU:=⟨h.n2,h.v2⟩
    have g3:Good 0 0 x.Forms:=⟨h.n3,h.v3⟩
    obtain ⟨⟨lx1,lx2,lx3,lx4⟩,ly1,ly2,ly3,ly4⟩:=Wa (g1.tq n) hc
    have k1:=xA (g1.tq n) ⟨lx1,lx2⟩ ⟨ly1,ly2⟩ ⟨lx3,lx4⟩ ⟨ly3,ly4⟩
    have k2:=xA (g2.tq n) ⟨lx1,lx2⟩ ⟨ly1,ly2⟩ ⟨lx3,lx4⟩ ⟨ly3,ly4⟩
    have k3:=xA (g3.tq n) ⟨lx1,lx2⟩ ⟨ly1,ly2⟩ ⟨lx3,lx4⟩ ⟨ly3,ly4⟩
    have hT:=HJ h n hn3 hc
    have hQ:=Oy h n hn3 hc
    unfold vN
    rw [hn,hT,hQ]
    simp only [Option.bind_some,bne_self_eq_false,Bool.false_eq_true,if_false]
    generalize hA:(tq n x.aD).map (mvR (rD (nX (tq n x.aD) r.X)) (rD (nY (tq n x.aD) r.Y)))=A at k1
    generalize hB:(tq n x.bU).map (mvR (rD (nX (tq n x.aD) r.X)) (rD (nY (tq n x.aD) r.Y)))=B at k2
    generalize hC:(tq n x.Forms).map (mvR (rD (nX (tq n x.aD) r.X)) (rD (nY (tq n x.aD) r.Y)))=C at k3
    unfold oR
    have e1:=k1.1
    have e2:=k2.1
    have e3:=k3.1
    simp only [Db k1,Db k2,Db k3,Cv k1.1,Cv k2.1,Cv k3.1,Option.bind_some]
    rw [eV _ (by rw [List.length_map];omega),eV _ (by rw [List.length_map];omega),eV _ (by rw [List.length_map];omega),pF _ (by rw [List.length_map];omega),pF _ (by rw [List.length_map];omega),pF _ (by rw [List.length_map];omega)]
    simp only [Option.bind_some]
    generalize ((A.map (mvR p.X p.Y)).any fun x=>!decide (vR x))=c1
    generalize ((B.map (mvR p.X p.Y)).any fun x=>!decide (vR x))=c2
    generalize ((C.map (mvR p.X p.Y)).any fun x=>!decide (vR x))=c3
    cases c1
    ·cases c2
     ·cases c3
      ·exact ⟨_,_,_,_,_,_,rfl,rfl,by simp;omega,by simp;omega,by simp;omega,fun _=>by rw [List.length_map,← hA,List.length_map,hl];exact h.n0⟩
      ·exact ⟨_,_,_,_,_,_,rfl,rfl,by simp,by simp,by simp,by decide⟩
     ·exact ⟨_,_,_,_,_,_,rfl,rfl,by simp,by simp,by simp,by decide⟩
    ·exact ⟨_,_,_,_,_,_,rfl,rfl,by simp,by simp,by simp,by decide⟩
   ·simp only [q3,q4,and_self,decide_true,decide_false,if_true,Bool.not_false,Option.bind_some]
    exact ⟨_,_,_,_,_,_,rfl,rfl,by simp,by simp,by simp,by decide⟩
  ·simp only [q3,decide_false,Bool.false_eq_true,if_false,Option.bind_some,if_true]
   exact ⟨_,_,_,_,_,_,rfl,rfl,by simp,by simp,by simp,by decide⟩
 ·have hb':(b != 0)=true:=by rw [bne_iff_ne];exact hb
  simp only [hb',if_true]
  exact ⟨_,_,_,_,_,_,rfl,rfl,by simp,by simp,by simp,fun e=>absurd e hb⟩
structure Iso (g:aE→aE) (l:List aE):Prop where
 v:∀ a ∈ l,vR a→vR (g a)
 ov:∀ a ∈ l,∀ b ∈ l,eX (g a) (g b)=eX a b
 to:∀ a ∈ l,∀ b ∈ l,rZ (g a) (g b)=rZ a b
 de:∀ a ∈ l,∀ b ∈ l,xJ (g a) (g b)=xJ a b
 ze:∀ a ∈ l,∀ b ∈ l,Iv (g a) (g b)=Iv a b
 th:∀ a ∈ l,(((g a).W==1) || ((g a).H==1))=((a.W==1) || (a.H==1))
def trR (x y:Int) (r:aE):aE:=⟨r.X+x,r.Y+y,r.W,r.H⟩
theorem Rl {a b:aE} (ha:vR a) (hb:vR b):rZ a b=some (decide ((min (a.X+a.W) (b.X+b.W)-max a.X b.X=0∧min (a.Y+a.H) (b.Y+b.H)-max a.Y b.Y>0)∨(min (a.Y+a.H) (b.Y+b.H)-max a.Y b.Y=0∧min (a.X+a.W) (b.X+b.W)-max a.X b.X>0))):=by
 unfold vR at ha hb
 unfold rZ
 rw [aP (by omega) (by omega),aP (by omega) (by omega),aP (by omega) (by omega),aP (by omega) (by omega)]
 simp only [Nj,Kq]
 rw [bE (by omega) (by omega),bE (by omega) (by omega)]
 generalize min (a.X+a.W) (b.X+b.W)-max a.X b.X=w
 generalize min (a.Y+a.H) (b.Y+b.H)-max a.Y b.Y=h
 by_cases h1:w=0
 ·by_cases h2:h>0
  ·simp [h1,h2]
  ·by_cases h3:h=0
   ·simp [h1,h3]
   ·simp [h1,h2,h3]
 ·by_cases h3:h=0
  ·simp [h1,h3]
  ·simp [h1,h3]
theorem Lx {a b:aE} (ha:vR a) (hb:vR b):xJ a b=decide (a.X>b.X∧a.Y>b.Y∧a.X+a.W<b.X+b.W∧a.Y+a.H<b.Y+b.H):=by
 unfold vR at ha hb
 unfold xJ
 rw [aP (by omega) (by omega),aP (by omega) (by omega),aP (by omega) (by omega),aP (by omega) (by omega)]
 by_cases h1:a.X>b.X <;> by_cases h2:a.Y>b.Y <;> by_cases h3:a.X+a.W<b.X+b.W <;> simp [h1,h2,h3]
theorem VF {l:List aE} (h:∀ r ∈ l,vR r):Iso qR l:=by
 refine ⟨fun a _ hv=>Xt hv,fun a ha b hb=>?_,fun a ha b hb=>?_,fun a ha b hb=>?_,fun a ha b hb=>?_,fun a ha=>?_⟩
 ·unfold eX
  refine decide_eq_decide.2 ?_
  have p1:=h a ha;have p2:=h b hb;have p3:=Xt p1;have p4:=Xt p2
  unfold ovR
  simp only [p1,p2,p3,p4,true_and]
  simp only [qR]
  omega
 ·rw [Rl (Xt (h a ha)) (Xt (h b hb)),Rl (h a ha) (h b hb)]
  congr 1
  refine decide_eq_decide.2 ?_
  simp only [qR]
  omega
 ·rw [Lx (Xt (h a ha)) (Xt (h b hb)),Lx (h a ha) (h b hb)]
  refine decide_eq_decide.2 ?_
  simp only [qR]
  omega
 ·have p1:=h a ha;have p2:=h b hb;have p3:=Xt p1;have p4:=Xt p2
  have:Cj (qR a) (qR b)=Cj a b:=by
   unfold Cj
   rw [if_pos ⟨p3,p4⟩,if_pos ⟨p1,p2⟩]
   simp only [qR]
   omega
  unfold Iv;rw [this]
 ·show ((a.H==1) || (a.W==1))=_
  exact Bool.or_comm _ _
theorem SQ {l:List aE} (x y:Int) (h:∀ r ∈ l,vR r∧vR (trR x y r)):Iso (trR x y) l:=by
 refine ⟨fun a ha _=>(h a ha).2,fun a ha b hb=>?_,fun a ha b hb=>?_,fun a ha b hb=>?_,fun a ha b hb=>?_,fun a ha=>rfl⟩
 ·unfold eX
  refine decide_eq_decide.2 ?_
  have p1:=(h a ha).1;have p2:=(h b hb).1;have p3:=(h a ha).2;have p4:=(h b hb).2
  unfold ovR
  simp only [p1,p2,p3,p4,true_and]
  simp only [trR]
  omega
 ·rw [Rl (h a ha).2 (h b hb).2,Rl (h a ha).1 (h b hb).1]
  congr 1
  refine decide_eq_decide.2 ?_
  simp only [trR]
  omega
 ·rw [Lx (h a ha).2 (h b hb).2,Lx (h a ha).1 (h b hb).1]
  refine decide_eq_decide.2 ?_
  simp only [trR]
  omega
 ·have:Cj (trR x y a) (trR x y b)=Cj a b:=by
   unfold Cj
   rw [if_pos ⟨(h a ha).2,(h b hb).2⟩,if_pos ⟨(h a ha).1,(h b hb).1⟩]
   simp only [trR]
   omega
  unfold Iv;rw [this]
theorem Wj {g:aE→aE} {p:aE→aE→Bool} {l:List aE} (h:∀ a ∈ l,∀ b ∈ l,p (g a) (g b)=p a b) (k:Nat):yG p (l.map g) k=yG p l k:=by
 unfold yG
 rw [List.getElem?_map]
 cases e:l[k]? with
 | none=>rfl
 | some x =>
   have hx:=List.mem_of_getElem? e
   simp only [Option.map_some]
   rw [← List.map_take,List.any_map,Bool.eq_iff_iff,List.any_eq_true,List.any_eq_true]
   constructor
   ·rintro ⟨y,hy,q⟩;exact ⟨y,hy,by rw [← h x hx y (List.mem_of_mem_take hy)];exact q⟩
   ·rintro ⟨y,hy,q⟩;exact ⟨y,hy,by show p (g x) (g y)=true;rw [h x hx y (List.mem_of_mem_take hy)];exact q⟩
theorem FY {α β:Type} (g:α→β) (l:List α) (i:Int):idx (l.map g) i=(idx l i).map g:=by
 unfold idx
 split
 ·rw [List.getElem?_map]
 ·rfl
theorem QE {g:aE→aE} {l:List aE} (h:∀ a ∈ l,∀ b ∈ l,rZ (g a) (g b)=rZ a b):oQ (l.map g)=oQ l:=by
 have mem:∀ {i:Int} {x:aE},idx l i=some x→x ∈ l:=fun {i x} e=>by
  unfold idx at e
  split at e
  ·exact List.mem_of_getElem? e
  ·cases e
 have b2:∀ x:Int,gE (l.map g) x=gE l x:=by
  intro x
  funext s
  unfold gE
  rw [List.length_map,FY,FY]
  cases e1:idx l x with
  | none=>rfl
  | some u =>
    cases e2:idx l s.1 with
    | none=>rfl
    | some w =>
      simp only [Option.map_some,Option.bind_some]
      rw [h u (mem e1) w (mem e2)]
 have b3:iG (l.map g)=iG l:=by
  funext s
  unfold iG
  simp only [b2]
 unfold oQ
 rw [List.length_map,b3]
structure VG (R C F:List aE):Prop where
 n1:R.length≤12
 n0:0<R.length
 n2:C.length≤12
 n3:F.length≤12
 v:∀ r ∈ R++(C++F),vR r
 ov:∀ k,k<R.length→yG eX R k=false
 co:oQ R=some true
 ho:∀ k,k<(C++F).length→∃ x,(C++F)[k]?=some x∧R.any (xJ x)=true∧(k<C.length→((x.W==1) || (x.H==1))=false)
 ze:∀ k,k<(C++F).length→yG Iv (C++F) k=false
theorem VG.map {R C F:List aE} {g:aE→aE} (h:VG R C F) (i:Iso g (R++(C++F))):VG (R.map g) (C.map g) (F.map g):=by
 have mR:∀ {a:aE},a ∈ R→a ∈ R++(C++F):=fun h=>List.mem_append.2 (.inl h)
 have mC:∀ {a:aE},a ∈ C++F→a ∈ R++(C++F):=fun h=>List.mem_append.2 (.inr h)
 refine ⟨by rw [List.length_map];exact h.n1,by rw [List.length_map];exact h.n0,by rw [List.length_map];exact h.n2,by rw [List.length_map];exact h.n3,fun r hr=>?_,fun k hk=>?_, ?_,fun k hk=>?_,fun k hk=>?_⟩
 ·rw [← List.map_append,← List.map_append] at hr
  obtain ⟨a,ha,rfl⟩:=List.mem_map.1 hr
  exact i.v a ha (h.v a ha)
 ·rw [Wj (fun a ha b hb=>i.ov a (mR ha) b (mR hb))]
  exact h.ov k (by rw [List.length_map] at hk;exact hk)
 ·rw [QE (fun a ha b hb=>i.to a (mR ha) b (mR hb))];exact h.co
 ·rw [← List.map_append,List.length_map] at hk
  obtain ⟨x,h1,h2,h3⟩:=h.ho k hk
  have hx:=List.mem_of_getElem? h1
  refine ⟨g x,by rw [← List.map_append,List.getElem?_map,h1];rfl, ?_,fun hc=>?_⟩
  ·obtain ⟨r,hr,q⟩:=List.any_eq_true.1 h2
   rw [List.any_eq_true]
   exact ⟨g r,List.mem_map_of_mem hr,by rw [i.de x (mC hx) r (mR hr)];exact q⟩
  ·rw [i.th x (mC hx)];exact h3 (by rw [List.length_map] at hc;exact hc)
 ·rw [← List.map_append] at hk ⊢
  rw [Wj (fun a ha b hb=>i.ze a (mC ha) b (mC hb))]
  exact h.ze k (by rw [List.length_map] at hk;exact hk)
theorem VG.tq {R C F:List aE} (h:VG R C F):∀ n,VG (tq n R) (SM.tq n C) (SM.tq n F)
 | 0=>h
 | n+1=>(VG.tq h n).map (VF (VG.tq h n).v)
theorem PJ {x:aQ} (hn:iN x.Name=some true) (hm:iN x.aW=some true) (hp:(1≤x.bQ∧x.bQ≤60)∧0≤x.bM∧x.bM≤2) (h:VG x.aD x.bU x.Forms) {r:aE} (hr:x.aD[0]?=some r) (lx:nX x.aD r.X=0) (ly:nY x.aD r.Y=0):aX x=some 0:=by
 have i0:idx x.aD 0=some r:=bB (k:=0) hr
 have k1:=h.n1;have k2:=h.n2;have k3:=h.n3;have k0:=h.n0
 have d1:decide ((x.aD.length:Int)>12)=false:=by simp;omega
 have d2:decide ((x.bU.length:Int)>12)=false:=by simp;omega
 have d3:decide ((x.Forms.length:Int)>12)=false:=by simp;omega
 have d0:((x.aD.length:Int)==0)=false:=by rw [beq_eq_false_iff_ne];omega
 have any0:∀ l:List aE,(∀ r ∈ l,vR r)→(l.any fun x=>!decide (vR x))=false:=fun l hl=>by
  rw [List.any_eq_false];intro y hy;simp [hl y hy]
 have a1:=any0 x.aD fun r hr=>h.v r (List.mem_append.2 (.inl hr))
 have a2:=any0 x.bU fun r hr=>h.v r (List.mem_append.2 (.inr (List.mem_append.2 (.inl hr))))
 have a3:=any0 x.Forms fun r hr=>h.v r (List.mem_append.2 (.inr (List.mem_append.2 (.inr hr))))
 have rng:∀ (n:Nat) (p:Nat→Bool),(∀ k,k<n→p k=false)→(List.range n).any p=false:=fun n p hp=>by
  rw [List.any_eq_false];intro k hk;rw [hp k (List.mem_range.1 hk)];simp
 have r1:=rng _ _ h.ov
 have r2:=rng _ (Bb x (x.bU++x.Forms)) fun k hk=>by
  obtain ⟨y,h1,h2,h3⟩:=h.ho k hk
  unfold Bb
  rw [h1]
  simp only [h2,Bool.not_true,Bool.false_or]
  by_cases hc:k<x.bU.length
  ·rw [h3 hc,Bool.and_false]
  ·have:decide ((k:Int)<(x.bU.length:Int))=false:=by simp;omega
   rw [this,Bool.false_and]
 have r3:=rng _ _ h.ze
 have ap1:app [] x.bU=some x.bU:=by rw [iR (by unfold LIM;simp;omega)];rfl
 have ap2:app x.bU x.Forms=some (x.bU++x.Forms):=iR (by unfold LIM;omega)
 have k4:(x.bU++x.Forms).length≤1000:=by simp;omega
 unfold aX
 simp only [hn,hm,Fh,hp,and_self,decide_true,Bool.not_true,Bool.false_eq_true,if_true,if_false,Option.bind_some,d1,d2,d3,d0,eV x.aD (by omega),eV x.bU (by omega),eV x.Forms (by omega),a1,a2,a3,Bool.not_false,i0,Mj x (by omega),lx,ly,bne_self_eq_false,ov3 x (by omega),r1,h.co]
 unfold Cb
 simp only [ap1,ap2,Option.bind_some,Ni x _ k4 (show x.aD.length≤1000 by omega),r2,in3 _ k4,r3,Bool.false_eq_true,if_false]
theorem Wh {x : aQ} (h:aX x=some 0):iN x.Name=some true∧iN x.aW=some true∧((1≤x.bQ∧x.bQ≤60)∧0≤x.bM∧x.bM≤2)∧VG x.aD x.bU x.Forms:=by
 obtain ⟨a,ha,_⟩:=pE x.Name
 obtain ⟨b,hb,_⟩:=pE x.aW
 obtain ⟨z,hz,_,hv⟩:=Bw x
 have vp:=hv (Option.some.inj (hz.symm.trans h))
 obtain ⟨cn,c1,_⟩:=Gv (l:=x.aD) (by have:=vp.n1;omega) vp.n0
 unfold aX at h
 rw [ha,hb] at h
 cases a with
 | false=>exact absurd (Option.some.inj h) (by decide)
 | true =>
 cases b with
 | false=>exact absurd (Option.some.inj h) (by decide)
 | true =>
 have k1:=vp.n1;have k2:=vp.n2;have k3:=vp.n3;have k0:=vp.n0
 have d1:decide ((x.aD.length:Int)>12)=false:=by simp;omega
 have d2:decide ((x.bU.length:Int)>12)=false:=by simp;omega
 have d3:decide ((x.Forms.length:Int)>12)=false:=by simp;omega
 have d0:((x.aD.length:Int)==0)=false:=by rw [beq_eq_false_iff_ne];omega
 have any0:∀ l:List aE,(∀ r ∈ l,vR r)→(l.any fun x=>!decide (vR x))=false:=fun l hl=>by
  rw [List.any_eq_false];intro y hy;simp [hl y hy]
 have a1:=any0 x.aD fun r hr=>(vp.v1 r hr).1
 have a2:=any0 x.bU fun r hr=>(vp.v2 r hr).1
 have a3:=any0 x.Forms fun r hr=>(vp.v3 r hr).1
 have hr:x.aD[0]?=some (x.aD[0]'k0):=by simp [k0]
 have i0:idx x.aD 0=some (x.aD[0]'k0):=bB (k:=0) hr
 have ap1:app [] x.bU=some x.bU:=by rw [iR (by unfold LIM;simp;omega)];rfl
 have ap2:app x.bU x.Forms=some (x.bU++x.Forms):=iR (by unfold LIM;omega)
 have k4:(x.bU++x.Forms).length≤1000:=by simp;omega
 simp only [Fh,Option.bind_some,Bool.not_true,if_true,Bool.false_eq_true,if_false,d1,d2,d3,d0,eV x.aD (by omega),eV x.bU (by omega),eV x.Forms (by omega),a1,a2,a3,Bool.not_false,i0,Mj x (show x.aD.length≤1000 by omega),ov3 x (show x.aD.length≤1000 by omega),c1] at h
 unfold Cb at h
 simp only [ap1,ap2,Option.bind_some,Ni x _ k4 (show x.aD.length≤1000 by omega),in3 _ k4] at h
 by_cases hp:(1≤x.bQ∧x.bQ≤60)∧0≤x.bM∧x.bM≤2
 ·refine ⟨ha,hb,hp, ?_⟩
  simp only [hp,and_self,decide_true,Bool.not_true,Bool.false_eq_true,if_false] at h
  cases e1:(nX x.aD (x.aD[0]'k0).X != 0)
  ·cases e2:(nY x.aD (x.aD[0]'k0).Y != 0)
   ·cases e3:(List.range x.aD.length).any (yG eX x.aD)
    ·cases cn
     ·simp [e1,e2,e3] at h
     ·cases e4:(List.range (x.bU++x.Forms).length).any (Bb x (x.bU++x.Forms))
      ·cases e5:(List.range (x.bU++x.Forms).length).any (yG Iv (x.bU++x.Forms))
       ·have rng:∀ {n:Nat} {p:Nat→Bool},(List.range n).any p=false→∀ k,k<n→p k=false:=fun {n p} hp k hk=>by
         have:=List.any_eq_false.1 hp k (List.mem_range.2 hk);simpa using this
        refine ⟨k1,k0,k2,k3,fun r hr=>?_,rng e3,c1,fun k hk=>?_,rng e5⟩
        ·rcases List.mem_append.1 hr with hr | hr
         ·exact (vp.v1 r hr).1
         ·rcases List.mem_append.1 hr with hr | hr
          ·exact (vp.v2 r hr).1
          ·exact (vp.v3 r hr).1
        ·have q:=rng e4 k hk
         unfold Bb at q
         have hx:(x.bU++x.Forms)[k]?=some (x.bU++x.Forms)[k]:=by simp
         rw [hx] at q
         simp only [Bool.or_eq_false_iff] at q
         refine ⟨_,hx,by have:=q.1;simpa using this,fun hc=>?_⟩
         have hd:decide ((k:Int)<(x.bU.length:Int))=true:=by simp;omega
         have:=q.2
         rw [hd,Bool.true_and] at this
         exact this
       ·simp only [e1,e2,e3,e4,e5,Bool.not_true,Bool.false_eq_true,if_false,if_true,Option.bind_some] at h
        exact absurd (Option.some.inj h) (by decide)
      ·simp only [e1,e2,e3,e4,Bool.not_true,Bool.false_eq_true,if_false,if_true,Option.bind_some] at h
       exact absurd (Option.some.inj h) (by decide)
    ·simp [e1,e2,e3] at h
   ·simp [e1,e2] at h
  ·simp [e1] at h
 ·simp only [hp,decide_false,Bool.not_false,if_true] at h
  exact absurd (Option.some.inj h) (by decide)
def lo (l:List aE):Int×Int:=match l with
 | []=>(0,0)
 | r::_=>(nX l r.X,nY l r.Y)
def nrm (R l:List aE):List aE:=l.map (trR (-(lo R).1) (-(lo R).2))
theorem foldl_add (g:aE→Int) (f:aE→aE) (d:Int) (hf:∀ r,g (f r)=g r+d):∀ (l:List aE) (a:Int),(l.map f).foldl (fun s r=>min s (g r)) (a+d)=l.foldl (fun s r=>min s (g r)) a+d
 | [],a=>rfl
 | r::l,a=>by
   simp only [List.map_cons,List.foldl_cons,hf]
   rw [← foldl_add g f d hf l (min a (g r))]
   congr 1
   omega
theorem VJ {R:List aE} (hne:R≠[]) (x y:Int):lo (R.map (trR x y))=((lo R).1+x,(lo R).2+y):=by
 cases R with
 | nil=>exact absurd rfl hne
 | cons r t =>
   have h1:=foldl_add (fun r=>r.X) (trR x y) x (fun _=>rfl) (r::t) r.X
   have h2:=foldl_add (fun r=>r.Y) (trR x y) y (fun _=>rfl) (r::t) r.Y
   exact Prod.ext h1 h2
theorem UD {R:List aE} (hne:R≠[]):lo (nrm R R)=(0,0):=by
 unfold nrm
 rw [VJ hne]
 refine Prod.ext ?_ ?_ <;> simp only <;> omega
theorem HE {l:List aE} (n:Nat) (h:0<l.length):tq n l≠[]:=by
 intro e
 have:=Gs n l
 rw [e] at this;simp at this;omega
def trn (n:Nat) (R l:List aE):List aE:=nrm (tq n R) (tq n l)
theorem Ov {a b mx my:Int} {l:List aE} (h:Good a b l) (hx : -1048576≤mx∧mx≤1048576) (hy : -1048576≤my∧my≤1048576):l.map (mvR (rD mx) (rD my))=l.map (trR (-mx) (-my)):=by
 refine List.map_congr_left fun r hr=>?_
 have hv:=(h.2 r hr).1
 unfold vR at hv
 unfold mvR trR
 rw [Nk (by omega) (by omega),Nk (by omega) (by omega),aP (by omega) (by omega),aP (by omega) (by omega)]
theorem Yw {x:aQ} (hx:aX x=some 0) (n:Nat) (hn:n≤3):lM x ⟨0,0,0,0,(n:Int)⟩=some (⟨x.Name,x.aW,x.bQ,x.bM,trn n x.aD x.aD,trn n x.aD x.bU,trn n x.aD x.Forms⟩,0,x.Name,x.aW,x.bQ,x.bM)∧aX ⟨x.Name,x.aW,x.bQ,x.bM,trn n x.aD x.aD,trn n x.aD x.bU,trn n x.aD x.Forms⟩=some 0:=by
 obtain ⟨z,hz,_,hv⟩:=Bw x
 have h:=hv (Option.some.inj (hz.symm.trans hx))
 obtain ⟨hn1,hn2,hn3,vg⟩:=Wh hx
 have g1:Good 0 0 x.aD:=⟨h.n1,h.v1⟩
 have g2:Good 0 0 x.bU:=⟨h.n2,h.v2⟩
 have g3:Good 0 0 x.Forms:=⟨h.n3,h.v3⟩
 obtain ⟨r,t,hc⟩:∃ r t,tq n x.aD=r::t:=by
  cases e:tq n x.aD with
  | nil=>exact absurd e (HE n h.n0)
  | cons r t=>exact ⟨r,t,rfl⟩
 obtain ⟨⟨lx1,lx2,lx3,lx4⟩,ly1,ly2,ly3,ly4⟩:=Wa (g1.tq n) hc
 have k1:=xA (g1.tq n) ⟨lx1,lx2⟩ ⟨ly1,ly2⟩ ⟨lx3,lx4⟩ ⟨ly3,ly4⟩
 have k2:=xA (g2.tq n) ⟨lx1,lx2⟩ ⟨ly1,ly2⟩ ⟨lx3,lx4⟩ ⟨ly3,ly4⟩
 have k3:=xA (g3.tq n) ⟨lx1,lx2⟩ ⟨ly1,ly2⟩ ⟨lx3,lx4⟩ ⟨ly3,ly4⟩
 have hlo:lo (tq n x.aD)=(nX (tq n x.aD) r.X,nY (tq n x.aD) r.Y):=by
  rw [show lo (tq n x.aD)=lo (r::t) by rw [hc],lo,hc]
 have hQ:=Oy h n hn hc
 rw [Ov (g1.tq n) ⟨lx3,lx4⟩ ⟨ly3,ly4⟩,Ov (g2.tq n) ⟨lx3,lx4⟩ ⟨ly3,ly4⟩,Ov (g3.tq n) ⟨lx3,lx4⟩ ⟨ly3,ly4⟩] at hQ
 rw [Ov (g1.tq n) ⟨lx3,lx4⟩ ⟨ly3,ly4⟩] at k1
 rw [Ov (g2.tq n) ⟨lx3,lx4⟩ ⟨ly3,ly4⟩] at k2
 rw [Ov (g3.tq n) ⟨lx3,lx4⟩ ⟨ly3,ly4⟩] at k3
 have e1:trn n x.aD x.aD=(tq n x.aD).map (trR (-(nX (tq n x.aD) r.X)) (-(nY (tq n x.aD) r.Y))):=by unfold trn nrm;rw [hlo]
 have e2:trn n x.aD x.bU=(tq n x.bU).map (trR (-(nX (tq n x.aD) r.X)) (-(nY (tq n x.aD) r.Y))):=by unfold trn nrm;rw [hlo]
 have e3:trn n x.aD x.Forms=(tq n x.Forms).map (trR (-(nX (tq n x.aD) r.X)) (-(nY (tq n x.aD) r.Y))):=by unfold trn nrm;rw [hlo]
 rw [← e1,← e2,← e3] at hQ
 rw [← e1] at k1
 rw [← e2] at k2
 rw [← e3] at k3
 have any0:∀ {a b:Int} {l:List aE},Good a b l→(l.any fun x=>!decide (vR x))=false:=fun {a b l} hl=>by
  rw [List.any_eq_false];intro y hy;simp [(hl.2 y hy).1]
 have n1:=k1.1;have n2:=k2.1;have n3:=k3.1
 refine ⟨?_, ?_⟩
 ·unfold lM
  simp only [hx,Option.bind_some,bne_self_eq_false,Bool.false_eq_true,if_false,xL,show (0≤(n:Int)∧(n:Int)≤3) by omega,show ((-1048576:Int)≤0∧(0:Int)≤1048576) by omega,and_self,decide_true,Bool.not_true,if_true]
  unfold vN
  simp only [hQ,Option.bind_some,bne_self_eq_false,Bool.false_eq_true,if_false,Cv k1.1,Cv k2.1,Cv k3.1,mv0 k1,mv0 k2,mv0 k3,eV _ (show (trn n x.aD x.aD).length≤9223372036854775806 by omega),eV _ (show (trn n x.aD x.bU).length≤9223372036854775806 by omega),eV _ (show (trn n x.aD x.Forms).length≤9223372036854775806 by omega),any0 k1,any0 k2,any0 k3,Bool.not_false,Bool.not_true,if_true]
 ·have hvg:VG (trn n x.aD x.aD) (trn n x.aD x.bU) (trn n x.aD x.Forms):=by
   rw [e1,e2,e3]
   refine (VG.tq vg n).map (SQ _ _ fun a ha=>⟨(VG.tq vg n).v a ha, ?_⟩)
   rcases List.mem_append.1 ha with ha | ha
   ·exact (k1.2 _ (by rw [e1];exact List.mem_map_of_mem ha)).1
   ·rcases List.mem_append.1 ha with ha | ha
    ·exact (k2.2 _ (by rw [e2];exact List.mem_map_of_mem ha)).1
    ·exact (k3.2 _ (by rw [e3];exact List.mem_map_of_mem ha)).1
  have hl0:=UD (HE n h.n0:tq n x.aD≠[])
  have hl0':lo (trn n x.aD x.aD)=(0,0):=hl0
  cases hA:trn n x.aD x.aD with
  | nil=>have:=hvg.n0;rw [hA] at this;simp at this
  | cons r' t' =>
    rw [hA] at hl0'
    have q1:nX (r'::t') r'.X=0:=congrArg Prod.fst hl0'
    have q2:nY (r'::t') r'.Y=0:=congrArg Prod.snd hl0'
    exact PJ (x:=⟨x.Name,x.aW,x.bQ,x.bM,r'::t',trn n x.aD x.bU,trn n x.aD x.Forms⟩) hn1 hn2 hn3 (by rw [← hA];exact hvg) (r:=r') rfl q1 q2
theorem PN {x:aQ} {c n m g h q} {p:aS} (hp:lM x p=some (q,c,n,m,g,h)) (hc:c=0):aX x=some 0∧0≤p.zK∧p.zK≤3:=by
 subst hc
 obtain ⟨b,b1,_,_⟩:=Bw x
 unfold lM at hp
 rw [b1] at hp
 by_cases hb:b=0
 ·subst hb
  simp only [Option.bind_some,bne_self_eq_false,Bool.false_eq_true,if_false,xL] at hp
  by_cases ht:0≤p.zK∧p.zK≤3
  ·exact ⟨b1,ht⟩
  ·simp [ht] at hp
 ·have hb':(b != 0)=true:=by rw [bne_iff_ne];exact hb
  simp only [Option.bind_some,hb',if_true] at hp
  have:=congrArg (fun o=>(o.getD (q,0,n,m,g,h)).2.1) hp
  exact absurd this hb
theorem Is {a b:List aE} (ha:a.length≤1000) (hb:b.length≤1000):lE a b=some (a.any fun x=>b.any (eX x)):=by
 have inner:∀ x,aL (vJ b x) 0=some (if b.any (eX x) then .inl () else .inr ()):=by
  intro x
  refine dH b (vJ b x) (fun k=>(k:Int)) _ _ _ rfl (fun k y hy=>?_) ?_
  ·have hk:=(List.getElem?_eq_some_iff.1 hy).1
   unfold vJ
   have h1:decide ((k:Int)<(b.length:Int))=true:=by simp;omega
   simp only [h1,if_true,bB hy,Option.bind_some,Gt]
   rw [aP (a:=(k:Int)) (by omega) (by omega)]
   rfl
  ·simp [vJ]
 have key:aL (vL a b) 0=some (if (a.any fun x=>b.any (eX x)) then .inl () else .inr ()):=by
  refine dH a (vL a b) (fun k=>(k:Int)) _ _ _ rfl (fun k x hx=>?_) ?_
  ·have hk:=(List.getElem?_eq_some_iff.1 hx).1
   unfold vL
   have h1:decide ((k:Int)<(a.length:Int))=true:=by simp;omega
   simp only [h1,if_true,bB hx,Option.bind_some,inner]
   rw [aP (a:=(k:Int)) (by omega) (by omega)]
   cases b.any (eX x) <;> rfl
  ·simp [vL]
 unfold lE
 rw [key]
 cases (a.any fun x=>b.any (eX x)) <;> rfl
theorem CP (sheets:List aZ):uH sheets=lC sheets:=by
 funext s
 unfold uH lC
 cases idx sheets s with
 | none=>rfl
 | some x =>
   obtain ⟨b,h1,h2⟩:=Uo x
   simp only [Option.bind_some,h1,h2]
theorem CE (pieces:List aQ):uI pieces=lD pieces:=by
 funext s
 unfold uI lD
 cases idx pieces s with
 | none=>rfl
 | some x =>
   obtain ⟨b,h1,h2⟩:=Um x
   simp only [Option.bind_some,h1,h2]
theorem DB {s:aZ} (h:bC s=some 0):s.aT.length≤4∧s.Used.length≤48:=by
 obtain ⟨a,ha,_⟩:=pE s.Name
 obtain ⟨b,hb,_⟩:=pE s.aW
 unfold bC at h
 rw [ha,hb] at h
 cases a with
 | false=>exact absurd (Option.some.inj h) (by decide)
 | true =>
 cases b with
 | false=>exact absurd (Option.some.inj h) (by decide)
 | true =>
 simp only [Option.bind_some,Fh,xL,if_true,Bool.not_true,Bool.false_eq_true,if_false] at h
 generalize decide ((1≤s.bQ∧s.bQ≤60)∧0≤s.bM∧s.bM≤2)=g1 at h
 generalize decide (1≤s.bI∧s.bI≤1048576)=g2 at h
 generalize decide (1≤s.aY∧s.aY≤1048576)=g3 at h
 by_cases h4:(s.aT.length:Int)>4
 ·simp only [h4,decide_true,if_true,Option.bind_some] at h
  cases g1 <;> cases g2 <;> cases g3 <;> exact absurd (Option.some.inj h) (by decide)
 by_cases h5:(s.Used.length:Int)>48
 ·simp only [h4,h5,decide_false,decide_true,if_true,Bool.false_eq_true,if_false,Option.bind_some] at h
  cases g1 <;> cases g2 <;> cases g3 <;> exact absurd (Option.some.inj h) (by decide)
 omega
theorem Sg {α:Type} {l:List α} {k:Nat} (h:k≤l.length):slc l 0 (k:Int)=some (l.take k):=by
 unfold slc;rw [if_pos (by omega)];simp
theorem Vy (sheets:List aZ) (pieces:List aQ):∃ b,Hn sheets pieces=some b∧xH sheets pieces=some b∧(b=0→sheets.length≤4∧pieces.length≤8∧(∀ s ∈ sheets,bC s=some 0)∧∀ x ∈ pieces,aX x=some 0):=by
 unfold Hn xH
 rw [CP,CE]
 by_cases h1:(sheets.length:Int)>4
 ·exact ⟨4,by simp [h1],by simp [h1],fun h=>absurd h (by decide)⟩
 by_cases h2:(pieces.length:Int)>8
 ·exact ⟨4,by simp [h1,h2],by simp [h1,h2],fun h=>absurd h (by decide)⟩
 simp only [h1,h2,decide_false,Bool.false_eq_true,if_false,Option.bind_some]
 have k1 : (∃ c,aL (lC sheets) 0=some (.inl c)∧c≠0)∨(aL (lC sheets) 0=some (.inr ())∧∀ s ∈ sheets,bC s=some 0):=by
  have key:∀ (m k:Nat),k+m=sheets.length→(∀ s ∈ sheets.take k,bC s=some 0)→(∃ c,aL (lC sheets) (k:Int)=some (.inl c)∧c≠0)∨(aL (lC sheets) (k:Int)=some (.inr ())∧∀ s ∈ sheets,bC s=some 0):=by
   intro m
   induction m with
   | zero =>
     intro k h hb;obtain rfl:k=sheets.length:=by omega
     rw [List.take_length] at hb
     exact .inr ⟨cM (by simp [lC]),hb⟩
   | succ m ih =>
     intro k h hb
     have hx:sheets[k]?=some (sheets[k]'(by omega)):=by simp [show k<sheets.length by omega]
     obtain ⟨b,hv,_⟩:=Uo (sheets[k]'(by omega))
     have hd:decide ((k:Int)<(sheets.length:Int))=true:=by simp;omega
     by_cases hb0:b=0
     ·subst hb0
      rw [eW (s':=((k+1:Nat):Int))]
      ·refine ih (k+1) (by omega) fun s hs=>?_
       rw [List.take_add_one,hx] at hs
       rcases List.mem_append.1 hs with hs | hs
       ·exact hb s hs
       ·simp at hs;rw [hs];exact hv
      ·unfold lC
       simp only [hd,if_true,bB hx,Option.bind_some,hv,bne_self_eq_false,Bool.false_eq_true,if_false]
       rw [aP (by omega) (by omega)];rfl
     ·refine .inl ⟨b,cM ?_,hb0⟩
      have hb':(b != 0)=true:=by rw [bne_iff_ne];exact hb0
      unfold lC
      simp only [hd,if_true,bB hx,Option.bind_some,hv,hb']
  exact key sheets.length 0 (by omega) (by simp)
 have k2 : (∃ c,aL (lD pieces) 0=some (.inl c)∧c≠0)∨(aL (lD pieces) 0=some (.inr ())∧∀ s ∈ pieces,aX s=some 0):=by
  have key:∀ (m k:Nat),k+m=pieces.length→(∀ s ∈ pieces.take k,aX s=some 0)→(∃ c,aL (lD pieces) (k:Int)=some (.inl c)∧c≠0)∨(aL (lD pieces) (k:Int)=some (.inr ())∧∀ s ∈ pieces,aX s=some 0):=by
   intro m
   induction m with
   | zero =>
     intro k h hb;obtain rfl:k=pieces.length:=by omega
     rw [List.take_length] at hb
     exact .inr ⟨cM (by simp [lD]),hb⟩
   | succ m ih =>
     intro k h hb
     have hx:pieces[k]?=some (pieces[k]'(by omega)):=by simp [show k<pieces.length by omega]
     obtain ⟨b,hv,_⟩:=Um (pieces[k]'(by omega))
     have hd:decide ((k:Int)<(pieces.length:Int))=true:=by simp;omega
     by_cases hb0:b=0
     ·subst hb0
      rw [eW (s':=((k+1:Nat):Int))]
      ·refine ih (k+1) (by omega) fun s hs=>?_
       rw [List.take_add_one,hx] at hs
       rcases List.mem_append.1 hs with hs | hs
       ·exact hb s hs
       ·simp at hs;rw [hs];exact hv
      ·unfold lD
       simp only [hd,if_true,bB hx,Option.bind_some,hv,bne_self_eq_false,Bool.false_eq_true,if_false]
       rw [aP (by omega) (by omega)];rfl
     ·refine .inl ⟨b,cM ?_,hb0⟩
      have hb':(b != 0)=true:=by rw [bne_iff_ne];exact hb0
      unfold lD
      simp only [hd,if_true,bB hx,Option.bind_some,hv,hb']
  exact key pieces.length 0 (by omega) (by simp)
 rcases k1 with ⟨c,e1,hc⟩ | ⟨e1,g1⟩
 ·rw [e1];exact ⟨c,rfl,rfl,fun h=>absurd h hc⟩
 ·rw [e1]
  rcases k2 with ⟨c,e2,hc⟩ | ⟨e2,g2⟩
  ·simp only [Option.bind_some,e2];exact ⟨c,rfl,rfl,fun h=>absurd h hc⟩
  ·simp only [Option.bind_some,e2];exact ⟨0,rfl,rfl,fun _=>⟨by omega,by omega,g1,g2⟩⟩
def lies (l:List aE) (s:aZ) (r:aE):Bool:=!(l.any fun x=>!(decide (pL x r)) || (s.aT.any (eX x) || s.Used.any (eX x)))
def Ft (s:aZ) (m:Int):aE:=⟨m,m,aH s.bI (cK 2 m),aH s.aY (cK 2 m)⟩
theorem SD {l:List aE} {s:aZ} (t:bK) (hl:l.length≤1000) (h1:s.aT.length≤1000) (h2:s.Used.length≤1000):yN l s t=some (lies l s (Ft s t.bF)):=by
 have key:aL (kS l s t) 0=some (if (l.any fun x=>!(decide (pL x (Ft s t.bF))) || (s.aT.any (eX x) || s.Used.any (eX x))) then .inl () else .inr ()):=by
  refine dH l (kS l s t) (fun k=>(k:Int)) _ _ _ rfl (fun k x hx=>?_) ?_
  ·have hk:=(List.getElem?_eq_some_iff.1 hx).1
   unfold kS
   have hd:decide ((k:Int)<(l.length:Int))=true:=by simp;omega
   have e:lR x ⟨t.bF,t.bF,aH s.bI (cK 2 t.bF),aH s.aY (cK 2 t.bF)⟩=some (decide (pL x (Ft s t.bF))):=Xv _ _
   simp only [hd,if_true,bB hx,Option.bind_some,e,Jj x _ h1,Jj x _ h2]
   rw [aP (a:=(k:Int)) (by omega) (by omega)]
   cases decide (pL x (Ft s t.bF)) <;> cases s.aT.any (eX x) <;> cases s.Used.any (eX x) <;> rfl
  ·simp [kS]
 unfold yN
 rw [key]
 unfold lies
 cases (l.any fun x=>!(decide (pL x (Ft s t.bF))) || (s.aT.any (eX x) || s.Used.any (eX x))) <;> rfl
theorem BV {x:aQ} {s:aZ} (t:bK) (turn:Int) {al:Bool} (hal:kA x s turn=some al) (hl:x.aD.length≤1000) (h0:0<x.aD.length) (h1:s.aT.length≤1000) (h2:s.Used.length≤1000):Ap x s t turn=some (al&&lies x.aD s (Ft s t.bF)):=by
 have hi:gO s t.bF=some (Ft s t.bF,decide (vR (Ft s t.bF))):=by
  unfold gO Ft
  rw [iF];rfl
 have key:aL (vH x (Ft s t.bF,decide (vR (Ft s t.bF)))) 0=some (if (x.aD.any fun y=>!(decide (pL y (Ft s t.bF)))) then .inl () else .inr ()):=by
  refine dH x.aD (vH x (Ft s t.bF,decide (vR (Ft s t.bF)))) (fun k=>(k:Int)) _ _ _ rfl (fun k y hx=>?_) ?_
  ·have hk:=(List.getElem?_eq_some_iff.1 hx).1
   unfold vH
   have hd:decide ((k:Int)<(x.aD.length:Int))=true:=by simp;omega
   simp only [hd,if_true,bB hx,Option.bind_some,Mw]
   rw [aP (a:=(k:Int)) (by omega) (by omega)]
   rfl
  ·simp [vH]
 unfold Ap
 simp only [hi,Option.bind_some,hal,key,Is hl h1,Is hl h2]
 have hz:lies x.aD s (Ft s t.bF)=(!(x.aD.any fun y=>!(decide (pL y (Ft s t.bF))))&&(!(x.aD.any fun y=>s.aT.any (eX y))&&!(x.aD.any fun y=>s.Used.any (eX y)))):=by
  unfold lies
  rw [Bool.eq_iff_iff]
  simp only [Bool.not_eq_true',Bool.and_eq_true,List.any_eq_false,Bool.or_eq_true,not_or]
  constructor
  ·intro h;exact ⟨fun y hy=>(h y hy).1,fun y hy=>(h y hy).2.1,fun y hy=>(h y hy).2.2⟩
  ·rintro ⟨a,b,c⟩ y hy;exact ⟨a y hy,b y hy,c y hy⟩
 by_cases hv:vR (Ft s t.bF)
 ·simp only [hv,decide_true,if_true,Option.bind_some,hz]
  cases al
  ·rfl
  ·cases (x.aD.any fun y=>!(decide (pL y (Ft s t.bF)))) <;> cases (x.aD.any fun y=>s.aT.any (eX y)) <;> cases (x.aD.any fun y=>s.Used.any (eX y)) <;> rfl
 ·have:(x.aD.any fun y=>!(decide (pL y (Ft s t.bF))))=true:=by
   rw [List.any_eq_true]
   refine ⟨x.aD[0],List.getElem_mem h0, ?_⟩
   have:¬ pL x.aD[0] (Ft s t.bF):=fun q=>hv q.2.1
   simp [this]
  rw [hz,this]
  simp only [hv,decide_false,Bool.false_eq_true,if_false,Option.bind_some,if_true,Bool.not_true,Bool.false_and,Bool.and_false]
def Rt (pieces:List aQ) (p:aS) (q:aQ):Prop:=∃ x c n m g h,idx pieces p.aQ=some x∧lM x p=some (q,c,n,m,g,h)∧mI x p=some (q,c,n,m,g,h)∧q.aD.length≤12
def dup (l:List aS) (p:aS):Bool:=l.any fun q=>q.aQ==p.aQ
theorem LJ (l:List aS) (p:aS) (hl:l.length≤1000):aL (Ak p l) 0=some (if dup l p then .inl () else .inr ()):=by
 refine dH l (Ak p l) (fun k=>(k:Int)) _ _ _ rfl (fun k x hx=>?_) ?_
 ·have hk:=(List.getElem?_eq_some_iff.1 hx).1
  unfold Ak
  have h1:decide ((k:Int)<(l.length:Int))=true:=by simp;omega
  simp only [h1,if_true,bB hx,Option.bind_some]
  rw [aP (a:=(k:Int)) (by omega) (by omega)]
  rfl
 ·simp [Ak]
theorem JN (l:List aS) (p:aS) (hl:l.length≤1000):aL (lT l p) 0=some (if dup l p then .inl () else .inr ()):=by
 refine dH l (lT l p) (fun k=>(k:Int)) _ _ _ rfl (fun k x hx=>?_) ?_
 ·have hk:=(List.getElem?_eq_some_iff.1 hx).1
  unfold lT
  have h1:decide ((k:Int)<(l.length:Int))=true:=by simp;omega
  simp only [h1,if_true,bB hx,Option.bind_some]
  rw [aP (a:=(k:Int)) (by omega) (by omega)]
  rfl
 ·simp [lT]
def We (t:bK) (l:List aS) (placed:List aQ) (p:aS) (q:aQ) (k:Nat):Bool:=match l[k]?,placed[k]? with
 | some a,some b=>(a.aZ==p.aZ)&&!(clr t q.aD b.aD)
 | _,_=>false
theorem JE {pieces:List aQ} (t:bK) {l:List aS} {placed:List aQ} (p:aS) (q:aQ×Int×ByteArray×ByteArray×Int×Int) (i:Int) (hl:l.length≤1000) (hp:placed.length=l.length) (hq:q.1.aD.length≤12) (inv:∀ (j:Nat) a b,l[j]?=some a→placed[j]?=some b→Rt pieces a b) :
  aL (Al t (i,placed) p q l) 0=some (if (List.range l.length).any (We t l placed p q.1) then .inl () else .inr ()):=by
 refine rQ l.length (Al t (i,placed) p q l) (fun k=>(k:Int)) _ _ _ rfl (fun k hk=>?_) ?_
 ·have hx:l[k]?=some l[k]:=by simp
  have hy:placed[k]?=some (placed[k]'(by omega)):=by simp [hp,hk]
  obtain ⟨x,c,n,m,g,h,e1,e2,e3,e4⟩:=inv k _ _ hx hy
  unfold Al We
  have h1:decide ((k:Int)<(l.length:Int))=true:=by simp;omega
  simp only [h1,if_true,bB hx,bB hy,hx,hy,Option.bind_some,KL _ _ t (show q.1.aD.length≤_ by omega) (show (placed[k]'(by omega)).aD.length≤_ by omega)]
  rw [aP (a:=(k:Int)) (by omega) (by omega)]
  cases (l[k].aZ==p.aZ) <;> simp
 ·simp [Al]
theorem ET {pieces:List aQ} (t:bK) {l:List aS} {placed:List aQ} (p:aS) (q:aQ×Int×ByteArray×ByteArray×Int×Int) (hl:l.length≤1000) (hp:placed.length=l.length) (hq:q.1.aD.length≤12) (inv:∀ (j:Nat) a b,l[j]?=some a→placed[j]?=some b→Rt pieces a b) :
  aL (lU pieces t l p q) 0=some (if (List.range l.length).any (We t l placed p q.1) then .inl () else .inr ()):=by
 refine rQ l.length (lU pieces t l p q) (fun k=>(k:Int)) _ _ _ rfl (fun k hk=>?_) ?_
 ·have hx:l[k]?=some l[k]:=by simp
  have hy:placed[k]?=some (placed[k]'(by omega)):=by simp [hp,hk]
  obtain ⟨x,c,n,m,g,h,e1,e2,e3,e4⟩:=inv k _ _ hx hy
  unfold lU We
  have h1:decide ((k:Int)<(l.length:Int))=true:=by simp;omega
  simp only [h1,if_true,bB hx,hx,hy,Option.bind_some,e1,e3,JM _ _ t (show q.1.aD.length≤_ by omega) (show (placed[k]'(by omega)).aD.length≤_ by omega)]
  rw [aP (a:=(k:Int)) (by omega) (by omega)]
  cases (l[k].aZ==p.aZ) <;> simp
 ·simp [lU]
def OKp (sheets:List aZ) (pieces:List aQ) (t:bK) (l:List aS) (k:Nat) (placed:List aQ) (p:aS) (q:aQ):Prop:=∃ x n m g h s,idx pieces p.aQ=some x∧lM x p=some (q,0,n,m,g,h)∧mI x p=some (q,0,n,m,g,h)∧idx sheets p.aZ=some s∧dup (l.take k) p=false∧lies q.aD s (Ft s t.bF)=true∧(List.range (l.take k).length).any (We t (l.take k) placed p q)=false
theorem NI {sheets:List aZ} {pieces:List aQ} (t:bK) {l:List aS} (hl:l.length≤40) (hs:sheets.length≤4) (hp:pieces.length≤8) (gs:∀ s ∈ sheets,bC s=some 0) {k:Nat} {p:aS} (hk:l[k]?=some p) {placed:List aQ} (hpl:placed.length=k) (inv:∀ (j:Nat) a b,(l.take k)[j]?=some a→placed[j]?=some b→Rt pieces a b) :
  ∃ e:Int,zX sheets pieces t (l.take k) p=some e∧((e≠0∧uD sheets pieces t l ((k:Int),placed)=some (.inr (.inl ((k:Int),e))))∨(e=0∧∃ q,Rt pieces p q∧OKp sheets pieces t l k placed p q∧uD sheets pieces t l ((k:Int),placed)=some (.inl (((k+1:Nat):Int),placed++[q])))):=by
 have hkl:=(List.getElem?_eq_some_iff.1 hk).1
 have hd:decide ((k:Int)<(l.length:Int))=true:=by simp;omega
 have e0:aH (pieces.length:Int) 1=(pieces.length:Int)-1:=bE (by omega) (by omega)
 have e1:aH (sheets.length:Int) 1=(sheets.length:Int)-1:=bE (by omega) (by omega)
 unfold zX uD
 simp only [hd,if_true,bB hk,Option.bind_some,xL,e0,e1]
 by_cases a1:p.aQ<0
 ·exact ⟨1,by simp [a1],.inl ⟨by decide,by simp [show ¬ (0≤p.aQ∧p.aQ≤(pieces.length:Int)-1) by omega]⟩⟩
 by_cases a2:p.aQ ≥ (pieces.length:Int)
 ·exact ⟨1,by simp [a1,a2],.inl ⟨by decide,by simp [show ¬ (0≤p.aQ∧p.aQ≤(pieces.length:Int)-1) by omega]⟩⟩
 by_cases a3:p.aZ<0
 ·exact ⟨1,by simp [a1,a2,a3],.inl ⟨by decide,by simp [show (0≤p.aQ∧p.aQ≤(pieces.length:Int)-1) by omega,show ¬ (0≤p.aZ∧p.aZ≤(sheets.length:Int)-1) by omega]⟩⟩
 by_cases a4:p.aZ ≥ (sheets.length:Int)
 ·exact ⟨1,by simp [a1,a2,a3,a4],.inl ⟨by decide,by simp [show (0≤p.aQ∧p.aQ≤(pieces.length:Int)-1) by omega,show ¬ (0≤p.aZ∧p.aZ≤(sheets.length:Int)-1) by omega]⟩⟩
 have b1:(0≤p.aQ∧p.aQ≤(pieces.length:Int)-1):=by omega
 have b2:(0≤p.aZ∧p.aZ≤(sheets.length:Int)-1):=by omega
 have hx:idx pieces p.aQ=some (pieces[p.aQ.toNat]'(by omega)):=by
  unfold idx;rw [if_pos b1.1];simp [show p.aQ.toNat<pieces.length by omega]
 have hy:idx sheets p.aZ=some (sheets[p.aZ.toNat]'(by omega)):=by
  unfold idx;rw [if_pos b2.1];simp [show p.aZ.toNat<sheets.length by omega]
 have gy:=DB (gs _ (List.getElem_mem (show p.aZ.toNat<sheets.length by omega)))
 generalize pieces[p.aQ.toNat]'(by omega)=x at hx
 generalize sheets[p.aZ.toNat]'(by omega)=s at hy gy
 obtain ⟨q,c,n,m,g,h,p1,p2,q1,q2,q3,q4⟩:=KO x p
 have hlaid:Rt pieces p q:=⟨x,c,n,m,g,h,hx,p1,p2,q1⟩
 simp only [a1,a2,a3,a4,b1,b2,and_self,decide_true,decide_false,if_true,Bool.false_eq_true,if_false,Bool.not_true,Option.bind_some,hx,p1,p2]
 by_cases hc:c=0
 ·subst hc
  have q5:=q4 rfl
  have hlt:(l.take k).length=k:=by rw [List.length_take];omega
  obtain ⟨al,al1,al2⟩:=Ga q s p.zK
  have hw:=SD (l:=q.aD) (s:=s) t (by omega) (by omega) (by omega)
  have hlw:=BV (x:=q) (s:=s) t p.zK al1 (by omega) q5 (by omega) (by omega)
  have al2':pH (aQ.mk q.Name q.aW q.bQ q.bM q.aD q.bU q.Forms) s p.zK=some al:=al2
  have hlw':Ap (aQ.mk q.Name q.aW q.bQ q.bM q.aD q.bU q.Forms) s t p.zK=some (al&&lies q.aD s (Ft s t.bF)):=hlw
  have n1:=JE (pieces:=pieces) t (l:=l.take k) (placed:=placed) p (q,0,n,m,g,h) (k:Int) (by omega) (by omega) q1 inv
  have n2:=ET (pieces:=pieces) t (l:=l.take k) (placed:=placed) p (q,0,n,m,g,h) (by omega) (by omega) q1 inv
  simp only [bne_self_eq_false,Bool.false_eq_true,if_false,LJ (l.take k) p (by omega),JN (l.take k) p (by omega),Sg (Nat.le_of_lt hkl),Option.bind_some]
  cases hdup:dup (l.take k) p with
  | true=>exact ⟨12,rfl,.inl ⟨by decide,rfl⟩⟩
  | false =>
  simp only [Bool.false_eq_true,if_false,hy,Option.bind_some,al2',hlw',hw]
  cases al with
  | false=>exact ⟨13,rfl,.inl ⟨by decide,rfl⟩⟩
  | true =>
  simp only [if_true,Option.bind_some,Bool.true_and]
  cases hlies:lies q.aD s (Ft s t.bF) with
  | false=>exact ⟨13,rfl,.inl ⟨by decide,rfl⟩⟩
  | true =>
  simp only [Bool.not_true,Bool.false_eq_true,if_false,n1,n2,Option.bind_some]
  cases hnear:(List.range (l.take k).length).any (We t (l.take k) placed p (q,(0:Int),n,m,g,h).1) with
  | true=>exact ⟨7,rfl,.inl ⟨by decide,rfl⟩⟩
  | false =>
    refine ⟨0,rfl,.inr ⟨rfl,q,hlaid,⟨x,n,m,g,h,s,hx,p1,p2,hy,hdup,hlies,hnear⟩, ?_⟩⟩
    simp only [Bool.false_eq_true,if_false]
    rw [iR (by unfold LIM;simp;omega),aP (by omega) (by omega)]
    rfl
 ·have hc':(c != 0)=true:=by rw [bne_iff_ne];exact hc
  exact ⟨1,by simp [hc'],.inl ⟨by decide,by simp [hc']⟩⟩
theorem DI {sheets:List aZ} {pieces:List aQ} (t:bK) {l:List aS} (hl:l.length≤40) (hs:sheets.length≤4) (hp:pieces.length≤8) (gs:∀ s ∈ sheets,bC s=some 0) :
  ∃ r,aL (uD sheets pieces t l) (0,[])=some r∧aL (iA sheets pieces t l) 0=some r∧(∀ j,r=.inl j→j.2≠0)∧(r=.inr ()→∃ placed:List aQ,placed.length=l.length∧∀ (j:Nat) a b,l[j]?=some a→placed[j]?=some b→OKp sheets pieces t l j (placed.take j) a b):=by
 have key:∀ (m k:Nat) (placed:List aQ),k+m=l.length→placed.length=k→(∀ (j:Nat) a b,(l.take k)[j]?=some a→placed[j]?=some b→Rt pieces a b)→(∀ (j:Nat) a b,(l.take k)[j]?=some a→placed[j]?=some b→OKp sheets pieces t l j (placed.take j) a b) →
   ∃ r,aL (uD sheets pieces t l) ((k:Int),placed)=some r∧aL (iA sheets pieces t l) (k:Int)=some r∧(∀ j,r=.inl j→j.2≠0)∧(r=.inr ()→∃ placed:List aQ,placed.length=l.length∧∀ (j:Nat) a b,l[j]?=some a→placed[j]?=some b→OKp sheets pieces t l j (placed.take j) a b):=by
  intro m
  induction m with
  | zero =>
    intro k placed h hpl inv inv2
    obtain rfl:k=l.length:=by omega
    rw [List.take_length] at inv2
    exact ⟨.inr (),cM (by simp [uD]),cM (by simp [iA]),fun j hj=>(by cases hj),fun _=>⟨placed,hpl,inv2⟩⟩
  | succ m ih =>
    intro k placed h hpl inv inv2
    have hk:l[k]?=some (l[k]'(by omega)):=by simp [show k<l.length by omega]
    have hd:decide ((k:Int)<(l.length:Int))=true:=by simp;omega
    obtain ⟨e,h1,h2⟩:=NI t hl hs hp gs hk hpl inv
    rcases h2 with ⟨he,h2⟩ | ⟨he,q,hq,hok,h2⟩
    ·refine ⟨.inl ((k:Int),e),cM h2,cM ?_,fun j hj=>(by injection hj with hj;rw [← hj];exact he),fun hj=>(by cases hj)⟩
     have he':(e != 0)=true:=by rw [bne_iff_ne];exact he
     unfold iA
     simp only [hd,if_true,Sg (show k≤l.length by omega),bB hk,Option.bind_some,h1,he']
    ·subst he
     have hlt:(l.take k).length=k:=by rw [List.length_take];omega
     obtain ⟨r,r1,r2,r3⟩:=ih (k+1) (placed++[q]) (by omega) (by simp;omega) (fun j a b ha hb=>by
      rw [List.take_add_one,hk] at ha
      have hlt:(l.take k).length=k:=by rw [List.length_take];omega
      by_cases hj:j<k
      ·rw [List.getElem?_append_left (by omega)] at ha hb
       exact inv j a b ha hb
      ·rw [List.getElem?_append_right (by omega)] at ha hb
       rw [hlt] at ha;rw [hpl] at hb
       by_cases hj0:j-k=0
       ·rw [hj0] at ha hb
        simp at ha hb
        rw [← ha,← hb];exact hq
       ·have:1≤j-k:=by omega
        rw [List.getElem?_eq_none (by simp;omega)] at hb
        cases hb) (fun j a b ha hb=>by
      rw [List.take_add_one,hk] at ha
      by_cases hj:j<k
      ·rw [List.getElem?_append_left (by omega)] at ha hb
       rw [List.take_append_of_le_length (by omega)]
       exact inv2 j a b ha hb
      ·rw [List.getElem?_append_right (by omega)] at ha hb
       rw [hlt] at ha;rw [hpl] at hb
       by_cases hj0:j-k=0
       ·obtain rfl:j=k:=by omega
        rw [hj0] at ha hb
        simp at ha hb
        rw [← ha,← hb,List.take_append_of_le_length (by omega),List.take_of_length_le (by omega)];exact hok
       ·have:1≤j-k:=by omega
        rw [List.getElem?_eq_none (by simp;omega)] at hb
        cases hb)
     refine ⟨r,by rw [eW h2];exact r1, ?_,r3⟩
     rw [eW (s':=((k+1:Nat):Int))]
     ·exact r2
     ·unfold iA
      simp only [hd,if_true,Sg (show k≤l.length by omega),bB hk,Option.bind_some,h1,bne_self_eq_false,Bool.false_eq_true,if_false]
      rw [aP (by omega) (by omega)];rfl
 exact key l.length 0 [] (by omega) rfl (fun j a b _ hb=>by simp at hb) (fun j a b _ hb=>by simp at hb)
theorem CU (sheets:List aZ) (pieces:List aQ) (t:bK) (l:List aS) (hl:l.length≤40):∃ r,Kv sheets pieces t l=some r∧Df sheets pieces t l=some r∧(r.2=0→sheets.length≤4∧pieces.length≤8∧(∀ s ∈ sheets,bC s=some 0)∧(∀ x ∈ pieces,aX x=some 0)∧cN t=some true∧∃ placed:List aQ,placed.length=l.length∧∀ (j:Nat) a b,l[j]?=some a→placed[j]?=some b→OKp sheets pieces t l j (placed.take j) a b):=by
 obtain ⟨b,b1,b2,b3⟩:=Vy sheets pieces
 obtain ⟨c,c1,c2⟩:=Ja t
 unfold Kv Df
 rw [b1,b2,c1,c2]
 simp only [Option.bind_some]
 by_cases hb:b=0
 ·obtain ⟨g1,g2,g3,g4⟩:=b3 hb
  subst hb
  simp only [bne_self_eq_false,Bool.false_eq_true,if_false]
  cases c with
  | false=>exact ⟨_,rfl,rfl,fun h=>absurd h (by decide)⟩
  | true =>
    obtain ⟨r,r1,r2,r3,r4⟩:=DI t hl g1 g2 g3
    simp only [Bool.not_true,Bool.false_eq_true,if_false,r1,r2,Option.bind_some]
    cases r with
    | inl j=>exact ⟨_,rfl,rfl,fun h=>absurd h (r3 j rfl)⟩
    | inr j=>exact ⟨_,rfl,rfl,fun _=>⟨g1,g2,g3,g4,trivial,r4 rfl⟩⟩
 ·have hb':(b != 0)=true:=by rw [bne_iff_ne];exact hb
  simp only [hb',if_true]
  exact ⟨_,rfl,rfl,fun h=>absurd h hb⟩
end Go.SM
namespace Go.SM
open Go Go.VI Go.Cells
def lay (base:Nat→List aE) (items:List (Nat×List aE)) (k:Nat):List aE:=items.flatMap (fun it=>if it.1=k then it.2 else [])++base k
structure VS (s:aZ):Prop where
 w:1≤s.bI∧s.bI≤1048576
 h:1≤s.aY∧s.aY≤1048576
 v:zJ (s.aT++s.Used)
 i:∀ r ∈ s.aT++s.Used,0≤r.X∧r.X+r.W≤s.bI∧0≤r.Y∧r.Y+r.H≤s.aY
 n1:s.aT.length≤4
 n2:s.Used.length≤48
theorem WG {s:aZ} (h2:1≤s.bI∧s.bI≤1048576) (h3:1≤s.aY∧s.aY≤1048576) (n1:s.aT.length≤4) (n2:s.Used.length≤48) (v1:(s.aT.any fun x=>!decide (vR x))=false) (v2:(s.Used.any fun x=>!decide (vR x))=false) (o1:outs ⟨0,0,s.bI,s.aY⟩ s.aT=false) (o2:outs ⟨0,0,s.bI,s.aY⟩ s.Used=false):VS s:=by
 have hv:∀ {l:List aE},(l.any fun x=>!decide (vR x))=false→zJ l:=fun {l} h r hr=>by
  have:=List.any_eq_false.1 h r hr
  simpa using this
 have hi:∀ {l:List aE},outs ⟨0,0,s.bI,s.aY⟩ l=false→∀ r ∈ l,0≤r.X∧r.X+r.W≤s.bI∧0≤r.Y∧r.Y+r.H≤s.aY:=fun {l} h r hr=>by
  have:=List.any_eq_false.1 h r hr
  have h2:pL r ⟨0,0,s.bI,s.aY⟩:=by simpa using this
  obtain ⟨_,_,a,b,c,d⟩:=h2
  simp only at a b c d
  omega
 refine ⟨h2,h3,fun r hr=>?_,fun r hr=>?_,n1,n2⟩
 ·rcases List.mem_append.1 hr with h | h
  ·exact hv v1 r h
  ·exact hv v2 r h
 ·rcases List.mem_append.1 hr with h | h
  ·exact hi o1 r h
  ·exact hi o2 r h
theorem Bx (s:aZ):∃ b,bC s=some b∧eO s=some b∧(b=0→VS s):=by
 obtain ⟨a,ha,ha'⟩:=pE s.Name
 obtain ⟨b,hb,hb'⟩:=pE s.aW
 unfold bC eO
 rw [ha,hb,Rj ha' hb']
 cases a with
 | false=>exact ⟨2,rfl,rfl,fun h=>absurd h (by decide)⟩
 | true =>
 cases b with
 | false=>exact ⟨2,rfl,rfl,fun h=>absurd h (by decide)⟩
 | true =>
 simp only [Option.bind_some,Fh,xL,Bool.and_self,if_true,Bool.not_true,Bool.false_eq_true,if_false]
 by_cases h1:(1≤s.bQ∧s.bQ≤60)∧0≤s.bM∧s.bM≤2
 ·simp only [h1,and_self,decide_true,if_true,Option.bind_some]
  by_cases h2:1≤s.bI∧s.bI≤1048576
  ·by_cases h3:1≤s.aY∧s.aY≤1048576
   ·have q1:¬ s.bI<1:=by omega
    have q2:¬ s.bI>1048576:=by omega
    have q3:¬ s.aY<1:=by omega
    have q4:¬ s.aY>1048576:=by omega
    simp only [h2,h3,q1,q2,q3,q4,and_self,decide_true,decide_false,if_true,Option.bind_some,Bool.not_true,Bool.false_eq_true,if_false,bne_self_eq_false]
    by_cases h4:(s.aT.length:Int)>4
    ·exact ⟨4,by simp [h4],by simp [h4],fun h=>absurd h (by decide)⟩
    by_cases h5:(s.Used.length:Int)>48
    ·exact ⟨4,by simp [h5],by simp [h5],fun h=>absurd h (by decide)⟩
    simp only [h4,h5,decide_false,Bool.false_eq_true,if_false,Option.bind_some,eV s.aT (by omega),eV s.Used (by omega),pF s.aT (by omega),pF s.Used (by omega),Kc s s.aT (by omega),Kc s s.Used (by omega)]
    cases v1:(s.aT.any fun x=>!decide (vR x)) with
    | true=>exact ⟨1,rfl,rfl,fun h=>absurd h (by decide)⟩
    | false =>
    cases v2:(s.Used.any fun x=>!decide (vR x)) with
    | true=>exact ⟨1,rfl,rfl,fun h=>absurd h (by decide)⟩
    | false =>
    have hi:gO s 0=some (⟨0,0,s.bI,s.aY⟩,decide (vR ⟨0,0,s.bI,s.aY⟩)):=by
     unfold gO
     rw [iF]
     have e0:cK 2 0=0:=by rw [tJ (by omega) (by omega)];rfl
     rw [e0,bE (by omega) (by omega),bE (by omega) (by omega),Int.sub_zero,Int.sub_zero]
     rfl
    simp only [hi,Option.bind_some,Vu s _ (show s.aT.length≤_ by omega) (show s.Used.length≤_ by omega),Bool.not_false,if_true,Bool.not_true,Bool.false_eq_true,if_false]
    cases o1:outs ⟨0,0,s.bI,s.aY⟩ s.aT with
    | true=>exact ⟨13,rfl,rfl,fun h=>absurd h (by decide)⟩
    | false =>
    cases o2:outs ⟨0,0,s.bI,s.aY⟩ s.Used with
    | true=>exact ⟨13,rfl,rfl,fun h=>absurd h (by decide)⟩
    | false=>exact ⟨0,rfl,rfl,fun _=>WG h2 h3 (by omega) (by omega) v1 v2 o1 o2⟩
   ·refine ⟨1,by simp [h2,h3], ?_,fun h=>absurd h (by decide)⟩
    by_cases q3:s.aY<1
    ·simp [q3]
    ·have q4:s.aY>1048576:=by omega
     simp [q3,q4]
  ·refine ⟨1,by simp [h2], ?_,fun h=>absurd h (by decide)⟩
   by_cases q3:s.bI<1
   ·simp [q3]
   ·have q4:s.bI>1048576:=by omega
    simp [q3,q4]
 ·exact ⟨1,by simp only [h1,decide_false];rfl,by simp only [h1,if_false];rfl,fun h=>absurd h (by decide)⟩
def Vj (s:aZ):Int:=s.bI*s.aY-eB MM (cov (s.aT++s.Used))
theorem Yc {s:aZ} (h:bC s=some 0):VS s∧Gq s=some (Vj s,0)∧Fj s=some (Vj s):=by
 obtain ⟨b,b1,_,b3⟩:=Bx s
 rw [h] at b1
 have v:=b3 (Option.some.inj b1).symm
 have n1:=v.n1
 have n2:=v.n2
 have ap1:app [] s.aT=some s.aT:=by rw [iR (by unfold LIM;simp;omega)];rfl
 have ap2:app s.aT s.Used=some (s.aT++s.Used):=iR (by unfold LIM;omega)
 have hl:(s.aT++s.Used).length≤100:=by simp;omega
 have c1:=Ey (M:=MM) (cov (s.aT++s.Used));have c2:=Ex (cov (s.aT++s.Used))
 have w:=v.w;have hh:=v.h
 have m1:s.bI*s.aY≤1048576*1048576:=Int.mul_le_mul w.2 hh.2 (by omega) (by omega)
 have m0:0≤s.bI*s.aY:=Int.mul_nonneg (by omega) (by omega)
 refine ⟨v, ?_, ?_⟩
 ·unfold Gq
  rw [h]
  simp only [Option.bind_some,bne_self_eq_false,Bool.false_eq_true,if_false,ap1,ap2,PT (show _≤900 by omega) v.v]
  rw [tJ (a:=s.bI) (b:=s.aY) (by omega) (by omega),bE (a:=s.bI*s.aY) (by omega) (by omega)]
  rfl
 ·unfold Fj
  simp only [ap1,ap2,Option.bind_some,NZ v.v (show _≤400 by omega)]
  rw [tJ (a:=s.bI) (b:=s.aY) (by omega) (by omega),bE (a:=s.bI*s.aY) (by omega) (by omega)]
  rfl
end Go.SM
namespace Go.SM
open Go Go.VI
set_option maxRecDepth 10000
theorem FA (h:List Int):eI h=Fa (brC bZ) h:=by kernel_rfl
theorem Oc (h:List Int):pJ h=Pg (fun x y=>x==y) 0 h:=by kernel_rfl
def ltI (x y:Int):Bool:=decide (x<y)
theorem HI:Rn ltI where
 asymm x y h:=by unfold ltI at *;simp at *;omega
 neg x y z h:=by unfold ltI at *;simp at *;omega
theorem VE (x y:Int):bZ x y=some (if x<y then -1 else if y<x then 1 else 0):=by
 unfold bZ uA
 have e:∀ z:Int,(z != z)=false:=fun z=>by simp
 simp only [e,Option.bind_some,Bool.false_eq_true,if_false]
 by_cases h1:x<y
 ·simp [h1]
 ·by_cases h2:x>y
  ·have:y<x:=h2
   simp [h1,h2,this]
  ·have:¬ y<x:=h2
   simp [h1,h2,this]
theorem brI (β:Type) (x y:Int) (k:Bool→Option β):brC bZ β x y k=k (ltI x y):=by
 unfold brC ltI
 rw [VE,Option.bind_some]
 congr 1
 by_cases h1:x<y
 ·simp [h1]
 ·by_cases h2:y<x <;> simp [h1,h2]
theorem FB {l:List Int} (hl:l.length≤1073741824):∃ r,eI l=some r∧r.Perm l∧r.Pairwise fun x y=>ltI y x=false:=by
 rw [FA]
 exact Mv (P:=fun _=>True) (d:=0) (fun β x y k _ _=>brI β x y k) HI ⟨by omega,fun _ _ _=>trivial⟩
theorem Ri {l:List Int} (hl:l.length≤1073741824):∃ r,fC l=some r∧r.Pairwise (fun x y=>x<y)∧∀ x,x ∈ r↔x ∈ l:=by
 obtain ⟨r,h1,h2,h3⟩:=FB hl
 have hr:r.length=l.length:=h2.length_eq
 obtain ⟨q,q1,q2,q3⟩:=Uz HI (fun x y a b=>by unfold ltI at a b;simp at a b;omega) (eqb:=fun x y=>x==y) (fun x y=>by simp) (0:Int) (l:=r) (by omega) h3
 refine ⟨q, ?_,q2.imp (fun h=>by unfold ltI at h;simpa using h),fun x=>by rw [q3,h2.mem_iff]⟩
 unfold fC xI
 rw [iR (by simp [LIM];omega)]
 simp only [List.nil_append,Option.bind_some,h1,Oc,q1]
def Ge (a w b v:Int):Int:=max 0 (max (b-a-w) (a-b-v))
def ovI (a w b v:Int):Prop:=a<b+v∧b<a+w
instance (a w b v:Int):Decidable (ovI a w b v):=by unfold ovI;infer_instance
def Pz (g:Int) (c:Bool) (r o:aE) (x y:Int):Prop:=
 (ovI (x+r.X) r.W o.X o.W∧ovI (y+r.Y) r.H o.Y o.H)∨(max (Ge (x+r.X) r.W o.X o.W) (Ge (y+r.Y) r.H o.Y o.H)<g∧¬ (c=true∧max (Ge (x+r.X) r.W o.X o.W) (Ge (y+r.Y) r.H o.Y o.H)=0))
def zY (g:Int) (c:Bool) (r o:aE) (y:Int):List (Int×Int):=
 if g≤Ge (y+r.Y) r.H o.Y o.H∧0<Ge (y+r.Y) r.H o.Y o.H then []
 else if c=true∧ovI (y+r.Y) r.H o.Y o.H then [(o.X-r.X-r.W-g,o.X-r.X-r.W),(o.X-r.X-r.W,o.X+o.W-r.X),(o.X+o.W-r.X,o.X+o.W-r.X+g)]
 else if c=true∧Ge (y+r.Y) r.H o.Y o.H=0 then [(o.X-r.X-r.W-g,o.X-r.X-r.W),(o.X+o.W-r.X,o.X+o.W-r.X+g)]
 else if Ge (y+r.Y) r.H o.Y o.H=0∧g=0∧¬ ovI (y+r.Y) r.H o.Y o.H then []
 else [(o.X-r.X-r.W-g,o.X+o.W-r.X+g)]
def inS (l:List (Int×Int)) (x:Int):Prop:=∃ s ∈ l,s.1<x∧x<s.2
theorem Qr (x:Int):inS [] x↔False:=by unfold inS;simp
theorem Vv (s:Int×Int) (l:List (Int×Int)) (x:Int):inS (s::l) x↔(s.1<x∧x<s.2)∨inS l x:=by unfold inS;simp
theorem DQ (l:List (Int×Int)) (x:Int):inS (l.filter fun s=>!decide (s.2-s.1<2)) x↔inS l x:=by
 unfold inS
 constructor
 ·rintro ⟨s,hs,h⟩;exact ⟨s,(List.mem_filter.1 hs).1,h⟩
 ·rintro ⟨s,hs,h⟩
  refine ⟨s,List.mem_filter.2 ⟨hs, ?_⟩,h⟩
  have:¬ s.2-s.1<2:=by omega
  simp [this]
theorem FC {g:Int} {c:Bool} {r o:aE} (hg:0≤g) (hr:0<r.W) (ho:0<o.W) (hr':0<r.H) (ho':0<o.H) (x y:Int):inS (zY g c r o y) x↔Pz g c r o x y:=by
 unfold zY Pz
 split
 ·rename_i h
  simp only [Qr,false_iff]
  unfold ovI Ge at *
  omega
 ·split
  ·rename_i h0 h
   simp only [Vv,Qr,h.1,h.2,or_false,and_true,true_and]
   unfold ovI Ge at *
   omega
  ·split
   ·rename_i h0 h1 h
    have h2:¬ ovI (y+r.Y) r.H o.Y o.H:=fun q=>h1 ⟨h.1,q⟩
    simp only [Vv,Qr,h.1,h2,or_false,and_false,false_or,true_and]
    unfold ovI Ge at *
    omega
   ·split
    ·rename_i h0 h1 h2 h
     simp only [Qr,false_iff]
     unfold ovI Ge at *
     omega
    ·rename_i h0 h1 h2 h
     simp only [Vv,Qr,or_false]
     cases c
     ·simp only [Bool.false_eq_true,false_and,not_false_eq_true,and_true]
      unfold ovI Ge at *
      omega
     ·simp only [true_and] at *
      unfold ovI Ge at *
      omega
theorem RX {g:Int} {c:Bool} {r o:aE} (hg:0≤g) (hr:0<r.W) (ho:0<o.W) (hr':0<r.H) (ho':0<o.H) {x y:Int} (h1:Pz g c r o x (y-1)) (h2:¬ Pz g c r o x y) :
  y=o.Y+o.H-r.Y∨y=o.Y+o.H+g-r.Y∨(c=true∧y=o.Y-r.H-r.Y):=by
 unfold Pz ovI Ge at *
 cases c
 ·simp only [Bool.false_eq_true,false_and,not_false_eq_true,and_true,or_false] at *
  omega
 ·simp only [true_and] at *
  omega
def Fe (l:List aE) (obs:List (aE×Int×Bool)) (m hx hy:Int) (x y:Int):Prop:=
 m≤x∧x≤hx∧m≤y∧y≤hy∧∀ o ∈ obs,∀ r ∈ l,¬ Pz o.2.1 o.2.2 r o.1 x y
def TE (l:List aE) (obs:List (aE×Int×Bool)) (ys:List Int):Prop:=
 ∀ o ∈ obs,∀ r ∈ l,o.1.Y+o.1.H-r.Y ∈ ys∧o.1.Y+o.1.H+o.2.1-r.Y ∈ ys∧(o.2.2=true→o.1.Y-r.H-r.Y ∈ ys)
def TG (obs:List (aE×Int×Bool)):Prop:=∀ o ∈ obs,0<o.1.W∧0<o.1.H∧0≤o.2.1
def TH (l:List aE):Prop:=∀ r ∈ l,0<r.W∧0<r.H
theorem down {l:List aE} {obs:List (aE×Int×Bool)} {m hx hy:Int} (pl:TH l) (po:TG obs) {ys:List Int} (hm:m ∈ ys) (hc:TE l obs ys):∀ (n:Nat) (x y:Int),(y-m).toNat≤n→Fe l obs m hx hy x y→∃ y' ∈ ys,y'≤y∧Fe l obs m hx hy x y'
 | 0,x,y,hn,h=>⟨m,hm,by have:=h.2.2.1;omega,by have:=h.2.2.1;rw [show m=y by omega];rw [show m=y by omega] at h;exact h⟩
 | n+1,x,y,hn,h=>by
   rcases Classical.em (y=m) with e | e
   ·subst e;exact ⟨y,hm,Int.le_refl y,h⟩
   rcases Classical.em (Fe l obs m hx hy x (y-1)) with f | f
   ·obtain ⟨y',h1,h2,h3⟩:=down pl po hm hc n x (y-1) (by omega) f
    exact ⟨y',h1,by omega,h3⟩
   ·obtain ⟨a1,a2,a3,a4,a5⟩:=h
    have:∃ o ∈ obs,∃ r ∈ l,Pz o.2.1 o.2.2 r o.1 x (y-1):=by
     refine Classical.byContradiction fun q=>f ⟨a1,a2,by omega,by omega,fun o ho r hr hb=>q ⟨o,ho,r,hr,hb⟩⟩
    obtain ⟨o,ho,r,hr,hb⟩:=this
    obtain ⟨p1,p2,p3⟩:=po o ho
    obtain ⟨r1,r2⟩:=pl r hr
    obtain ⟨c1,c2,c3⟩:=hc o ho r hr
    refine ⟨y, ?_,Int.le_refl y,a1,a2,a3,a4,a5⟩
    rcases RX p3 r1 p1 r2 p2 hb (a5 o ho r hr) with e | e | ⟨e',e⟩
    ·rw [e];exact c1
    ·rw [e];exact c2
    ·rw [e];exact c3 e'
def Lst (P:Int→Int→Prop):Option (Int×Int)→Prop
 | none=>∀ x y,¬ P x y
 | some p=>P p.1 p.2∧∀ x y,P x y→p.2<y∨(p.2=y∧p.1≤x)
theorem DX {P:Int→Int→Prop} {a b:Option (Int×Int)} (ha:Lst P a) (hb:Lst P b):a=b:=by
 cases a with
 | none=>cases b with
   | none=>rfl
   | some q=>exact absurd hb.1 (ha _ _)
 | some p=>cases b with
   | none=>exact absurd ha.1 (hb _ _)
   | some q =>
     have h1:=ha.2 _ _ hb.1
     have h2:=hb.2 _ _ ha.1
     congr 1
     obtain ⟨p1,p2⟩:=p
     obtain ⟨q1,q2⟩:=q
     simp only at h1 h2
     rw [Prod.mk.injEq]
     omega
def Sl (l:List (Int×Int)) (m x:Int):Prop:=m≤x∧¬ inS l x∧∀ z,m≤z→z<x→inS l z
theorem Zg {l l':List (Int×Int)} (h:∀ x,inS l x↔inS l' x) {m x x':Int} (h1:Sl l m x) (h2:Sl l' m x'):x=x':=by
 obtain ⟨a1,a2,a3⟩:=h1
 obtain ⟨b1,b2,b3⟩:=h2
 rcases Int.lt_or_le x x' with q | q
 ·exact absurd ((h x).2 (b3 x a1 q)) a2
 ·rcases Int.lt_or_le x' x with r | r
  ·exact absurd ((h x').1 (a3 x' b1 r)) b2
  ·omega
def scan (f:Int→Int) (hx:Int):List Int→Option (Int×Int)
 | []=>none
 | y::t=>if f y≤hx then some (f y,y) else scan f hx t
theorem Yn {f:Int→Int} {hx:Int}:∀ {ys:List Int} {p:Int×Int},ys.Pairwise (fun a b=>a<b)→scan f hx ys=some p→p.2 ∈ ys∧p.1=f p.2∧f p.2≤hx∧∀ y ∈ ys,y<p.2→¬ f y≤hx
 | [],p,_,h=>by cases h
 | y::t,p,hp,h=>by
   unfold scan at h
   have hh:=List.pairwise_cons.1 hp
   split at h
   ·rename_i q
    injection h with h;subst h
    exact ⟨List.mem_cons_self,rfl,q,fun z hz hl=>by
     rcases List.mem_cons.1 hz with e | e
     ·simp only at hl;omega
     ·have:=hh.1 z e;simp only at hl;omega⟩
   ·rename_i q
    obtain ⟨a1,a2,a3,a4⟩:=Yn hh.2 h
    refine ⟨List.mem_cons_of_mem _ a1,a2,a3,fun z hz hl=>?_⟩
    rcases List.mem_cons.1 hz with e | e
    ·rw [e];exact q
    ·exact a4 z e hl
theorem Ym {f:Int→Int} {hx:Int}:∀ {ys:List Int},scan f hx ys=none→∀ y ∈ ys,¬ f y≤hx
 | [],_,y,hy=>by cases hy
 | z::t,h,y,hy=>by
   unfold scan at h
   split at h
   ·cases h
   ·rename_i q
    rcases List.mem_cons.1 hy with e | e
    ·rw [e];exact q
    ·exact Ym h y e
theorem OG {l:List aE} {obs:List (aE×Int×Bool)} {m hx hy:Int} (pl:TH l) (po:TG obs) {ys:List Int} (ha:ys.Pairwise fun a b=>a<b) (hm:m ∈ ys) (hc:TE l obs ys) {f:Int→Int}
  {sp:Int→List (Int×Int)} (hf:∀ y,m≤y→y≤hy→Sl (sp y) m (f y)) (hs:∀ x y,inS (sp y) x↔∃ o ∈ obs,∃ r ∈ l,Pz o.2.1 o.2.2 r o.1 x y) :
  Lst (Fe l obs m hx hy) (scan f hx (ys.filter fun y=>decide (m≤y)&&decide (y≤hy))):=by
 have mem:∀ y,y ∈ (ys.filter fun y=>decide (m≤y)&&decide (y≤hy))↔y ∈ ys∧m≤y∧y≤hy:=fun y=>by
  rw [List.mem_filter,Bool.and_eq_true,decide_eq_true_eq,decide_eq_true_eq]
 have fe:∀ y,m≤y→y≤hy→f y≤hx→Fe l obs m hx hy (f y) y:=fun y h1 h2 h3=>by
  obtain ⟨a1,a2,a3⟩:=hf y h1 h2
  exact ⟨a1,h3,h1,h2,fun o ho r hr hb=>a2 ((hs _ _).2 ⟨o,ho,r,hr,hb⟩)⟩
 have fm:∀ x y,Fe l obs m hx hy x y→f y≤x:=fun x y h=>by
  obtain ⟨h1,h2,h3,h4,h5⟩:=h
  obtain ⟨a1,a2,a3⟩:=hf y h3 h4
  rcases Int.lt_or_le x (f y) with q | q
  ·obtain ⟨o,ho,r,hr,hb⟩:=(hs _ _).1 (a3 x h1 q)
   exact absurd hb (h5 o ho r hr)
  ·exact q
 have dn:∀ x y,Fe l obs m hx hy x y→∃ y',y' ∈ (ys.filter fun y=>decide (m≤y)&&decide (y≤hy))∧y'≤y∧f y'≤hx:=fun x y h=>by
  obtain ⟨y',h1,h2,h3⟩:=down pl po hm hc _ x y (Nat.le_refl _) h
  exact ⟨y',(mem y').2 ⟨h1,h3.2.2.1,h3.2.2.2.1⟩,h2,Int.le_trans (fm x y' h3) h3.2.1⟩
 cases e:scan f hx (ys.filter fun y=>decide (m≤y)&&decide (y≤hy)) with
 | none =>
   intro x y h
   obtain ⟨y',h1,_,h3⟩:=dn x y h
   exact Ym e y' h1 h3
 | some p =>
   obtain ⟨a1,a2,a3,a4⟩:=Yn (ha.filter _) e
   obtain ⟨_,b1,b2⟩:=(mem _).1 a1
   refine ⟨by rw [a2];exact fe _ b1 b2 a3,fun x y h=>?_⟩
   rcases Int.lt_or_le y p.2 with q | q
   ·obtain ⟨y',h1,h2,h3⟩:=dn x y h
    exact absurd h3 (a4 y' h1 (by omega))
   ·rcases Int.lt_or_le p.2 y with r | r
    ·exact .inl r
    ·have:p.2=y:=by omega
     refine .inr ⟨this, ?_⟩
     rw [a2,this];exact fm x y h
set_option maxRecDepth 10000
theorem OP (h:List Int):tQ h=Fa (brL eC) h:=by kernel_rfl
theorem VH (x y:Int):eC x y=some (decide (x<y)):=by
 unfold eC uA
 have e:∀ z:Int,(z != z)=false:=fun z=>by simp
 simp only [e,Option.bind_some,Bool.false_eq_true,if_false]
theorem brO (β:Type) (x y:Int) (k:Bool→Option β):brL eC β x y k=k (ltI x y):=by
 unfold brL ltI
 rw [VH,Option.bind_some]
theorem OQ {l:List Int} (hl:l.length≤1073741824):∃ r,tQ l=some r∧r.Perm l∧r.Pairwise fun x y=>ltI y x=false:=by
 rw [OP]
 exact Mv (P:=fun _=>True) (d:=0) (fun β x y k _ _=>brO β x y k) HI ⟨by omega,fun _ _ _=>trivial⟩
theorem OT (h:List aI):cC h=Fa (brC (bP eL.mk)) h:=by kernel_rfl
def ltS (x y:aI):Bool:=decide (x.lo<y.lo∨(x.lo=y.lo∧x.hi<y.hi))
theorem WH:Rn ltS where
 asymm x y h:=by unfold ltS at *;simp at *;omega
 neg x y z h:=by unfold ltS at *;simp at *;omega
theorem WJ (x y:aI):bP eL.mk x y=some (if x.lo<y.lo then -1 else if y.lo<x.lo then 1 else if x.hi<y.hi then -1 else if y.hi<x.hi then 1 else 0):=by
 unfold bP Pd
 simp only [VE,Option.bind_some]
 have key:∀ a b:Int,aL (iP [a,b]) 0=some (if a≠0 then .inl a else if b≠0 then .inl b else .inr ()):=fun a b=>by
  have h0:iP [a,b] 0=if a≠0 then some (.inr (.inl a)) else some (.inl 1):=by
   unfold iP
   have:idx [a,b] 0=some a:=rfl
   by_cases h:a=0 <;> simp [this,h] <;> rfl
  have h1:iP [a,b] 1=if b≠0 then some (.inr (.inl b)) else some (.inl 2):=by
   unfold iP
   have:idx [a,b] 1=some b:=rfl
   by_cases h:b=0 <;> simp [this,h] <;> rfl
  have h2:iP [a,b] 2=some (.inr (.inr ())):=by
   unfold iP;simp
  by_cases ha:a=0
  ·have e0:iP [a,b] 0=some (.inl 1):=by rw [h0,if_neg (by simpa using ha)]
   by_cases hb:b=0
   ·have e1:iP [a,b] 1=some (.inl 2):=by rw [h1,if_neg (by simpa using hb)]
    rw [eW e0,eW e1,cM h2,if_neg (by simpa using ha),if_neg (by simpa using hb)]
   ·have e1:iP [a,b] 1=some (.inr (.inl b)):=by rw [h1,if_pos hb]
    rw [eW e0,cM e1,if_neg (by simpa using ha),if_pos hb]
  ·have e0:iP [a,b] 0=some (.inr (.inl a)):=by rw [h0,if_pos ha]
   rw [cM e0,if_pos ha]
 rw [key]
 by_cases c1:x.lo<y.lo
 ·simp [c1]
 ·by_cases c2:y.lo<x.lo
  ·simp [c1,c2]
  ·by_cases c3:x.hi<y.hi
   ·simp [c1,c2,c3]
   ·by_cases c4:y.hi<x.hi <;> simp [c1,c2,c3,c4]
theorem brS (β:Type) (x y:aI) (k:Bool→Option β):brC (bP eL.mk) β x y k=k (ltS x y):=by
 unfold brC ltS
 rw [WJ,Option.bind_some]
 congr 1
 by_cases c1:x.lo<y.lo
 ·simp [c1]
 ·by_cases c2:y.lo<x.lo
  ·have:¬ x.lo=y.lo:=by omega
   simp [c1,c2,this]
  ·have:x.lo=y.lo:=by omega
   by_cases c3:x.hi<y.hi
   ·simp [this,c3]
   ·by_cases c4:y.hi<x.hi <;> simp [this,c3,c4]
theorem OU {l:List aI} (hl:l.length≤1073741824):∃ r,cC l=some r∧r.Perm l:=by
 rw [OT]
 obtain ⟨r,h1,h2,_⟩:=Mv (P:=fun _=>True) (d:=⟨0,0⟩) (fun β x y k _ _=>brS β x y k) WH (l:=l) ⟨by omega,fun _ _ _=>trivial⟩
 exact ⟨r,h1,h2⟩
noncomputable def QK {α:Type} (q:α→Option Bool) (s:List α):Int→Option (Int ⊕ (Int ⊕ Unit)):=fun k =>
 if decide (k<(s.length:Int)) then ((idx s k).bind fun x=>(q x).bind fun r=>if r then some (.inr (.inl k)) else some (.inl (aF k 1))) else some (.inr (.inr ()))
noncomputable def QL {α:Type} (s:Int×Int×List α):Int×List α→Option (Int×Int×List α ⊕ Int×List α):=fun j=>some (.inl (j.1,aF s.2.1 1,j.2))
noncomputable def TY {α:Type} (q:α→Option Bool):Int×Int×List α→Option (Int×Int×List α ⊕ Int×List α):=fun s =>
 if decide (s.2.1<(s.2.2.length:Int)) then ((idx s.2.2 s.2.1).bind fun x=>(q x).bind fun r=>if !r then ((idx s.2.2 s.1).bind fun _=>QL s (aF s.1 1,List.set s.2.2 (Int.toNat s.1) x)) else QL s (s.1,s.2.2)) else some (.inr (s.1,s.2.2))
noncomputable def df {α:Type} (q:α→Option Bool) (z:α) (h:List α):Option (List α):=
 ((aL (QK q h) 0).bind fun x=>match x with | .inl j=>some j | .inr _=>some (-1)).bind fun r2=>if (r2==(-1)) then (some h) else ((aL (TY q) (r2,(aF r2 1),h)).bind fun a0=>if (decide ((0:Int)≤a0.1)&&(decide (a0.1≤(a0.2.length:Int))&&decide ((a0.2.length:Int)≤(a0.2.length:Int)))) then ((slc (cpy a0.2 (Int.toNat a0.1) (List.replicate (Int.toNat (a0.2.length:Int)-Int.toNat a0.1) z)) 0 a0.1).bind fun a1=>some a1) else none)
theorem MV {α R:Type} (l:List α) (body:Int→Option (Int ⊕ R)) (q:α→Bool) (yes:Nat→R) (no:R) (step:∀ (k:Nat) (x:α),l[k]?=some x→body k=if q x then some (.inr (yes k)) else some (.inl ((k+1:Nat):Int))) (fin:body (l.length:Int)=some (.inr no)) :
  aL body 0=some (match l.findIdx? q with | some i=>yes i | none=>no):=by
 have key:∀ (m k:Nat),k+m=l.length→aL body (k:Int)=some (match (l.drop k).findIdx? q with | some i=>yes (k+i) | none=>no):=by
  intro m
  induction m with
  | zero =>
    intro k h;obtain rfl:k=l.length:=by omega
    rw [List.drop_length,cM fin];rfl
  | succ m ih =>
    intro k h
    have hk:k<l.length:=by omega
    have hx:l[k]?=some l[k]:=by simp
    have hs:=step k _ hx
    rw [List.drop_eq_getElem_cons hk,List.findIdx?_cons]
    cases hq:q l[k] with
    | true=>rw [hq] at hs;rw [cM hs];simp
    | false =>
      rw [hq] at hs
      rw [eW hs,ih (k+1) (by omega)]
      cases (l.drop (k+1)).findIdx? q with
      | none=>rfl
      | some i=>simp;congr 1;omega
 have:=key l.length 0 (by omega)
 simpa using this
theorem SK {α:Type} {q:α→Option Bool} {p:α→Bool} (hq:∀ x,q x=some (p x)) (z:α) {h:List α} (hl:h.length≤100000000):df q z h=some (h.filter fun x=>!p x):=by
 unfold df
 rw [MV h (QK q h) p (fun k=>.inl (k:Int)) (.inr ()) (fun k x hx=>?s) ?f]
 case s =>
  have hk:=bL hx
  have hd:decide ((k:Int)<(h.length:Int))=true:=by simp [hk]
  unfold QK
  simp only [hd,if_true,bB hx,Option.bind_some,hq,bJ k (by omega)]
 case f=>simp [QK]
 cases hf:h.findIdx? p with
 | none =>
   rw [List.findIdx?_eq_none_iff] at hf
   have:h.filter (fun x=>!p x)=h:=by
    rw [List.filter_eq_self];intro x hx;rw [hf x hx];rfl
   rw [this];rfl
 | some i =>
   obtain ⟨hi,hpi,hmin⟩:=List.findIdx?_eq_some_iff_getElem.1 hf
   have e1:((i:Int)==-1)=false:=by
    rw [beq_eq_false_iff_ne];omega
   simp only [Option.bind_some,e1,Bool.false_eq_true,if_false]
   have fst:(h.take (i+1)).filter (fun x=>!p x)=h.take i:=by
    rw [List.take_add_one,List.getElem?_eq_getElem hi,List.filter_append]
    have a1:(h.take i).filter (fun x=>!p x)=h.take i:=by
     rw [List.filter_eq_self]
     intro x hx
     obtain ⟨k,hk,rfl⟩:=List.mem_iff_getElem.1 hx
     rw [List.length_take] at hk
     rw [List.getElem_take]
     have:=hmin k (by omega)
     simpa using this
    rw [a1]
    simp [hpi]
   obtain ⟨r,q1,w,s,q2,q3,q4⟩:=nW (fun t:Int×Int×List α=>((h.length:Int)-t.2.1).toNat)
    (fun t:Int×Int×List α=>∃ w k:Nat,t.1=w∧t.2.1=k∧k≤h.length∧w<k∧t.2.2.length=h.length∧t.2.2.take w=(h.take k).filter (fun x=>!p x)∧t.2.2.drop k=h.drop k)
    (fun r:Int×List α=>∃ (w:Nat) (s:List α),r=((w:Int),s)∧w≤s.length∧s.take w=h.filter fun x=>!p x) (TY q) (by
     rintro ⟨w',k',s⟩ ⟨w,k,hw',hk',hk,hwk,hs,ht,hd⟩
     simp only at hw' hk' hs ht hd ⊢
     subst hw' hk'
     unfold TY
     by_cases hkn:k<h.length
     ·left
      have hdc:decide ((k:Int)<(s.length:Int))=true:=by simp;omega
      obtain ⟨x,hx⟩:∃ x,h[k]?=some x:=⟨_,List.getElem?_eq_getElem hkn⟩
      have hsx:s[k]?=some x:=by
       have:=congrArg (fun l=>l[0]?) hd
       simp only [List.getElem?_drop,Nat.add_zero] at this
       rw [this];exact hx
      obtain ⟨y,hy⟩:∃ y,s[w]?=some y:=⟨_,List.getElem?_eq_getElem (by omega)⟩
      have htk:h.take (k+1)=h.take k++[x]:=by rw [List.take_add_one,hx];rfl
      have hdk:s.drop (k+1)=h.drop (k+1):=by
       have:=congrArg List.tail hd
       simpa [List.tail_drop] using this
      simp only [hdc,if_true,bB hsx,Option.bind_some,hq]
      cases hpx:p x with
      | true =>
        refine ⟨((w:Int),((k+1:Nat):Int),s),by simp [QL,bJ k (by omega)],⟨w,k+1,rfl,rfl,by omega,by omega,hs, ?_,hdk⟩,by simp only;omega⟩
        rw [htk,List.filter_append,← ht];simp [hpx]
      | false =>
        refine ⟨(((w+1:Nat):Int),((k+1:Nat):Int),s.set w x),by simp [QL,bB hy,bJ k (by omega),bJ w (by omega)],⟨w+1,k+1,rfl,rfl,by omega,by omega,by simp [hs], ?_, ?_⟩,by simp only;omega⟩
        ·rw [htk,List.filter_append,← ht,List.take_add_one,List.take_set_of_le (Nat.le_refl w)]
         rw [List.getElem?_set_self (by omega)]
         simp [hpx]
        ·rw [List.drop_set_of_lt (by omega),hdk]
     ·right
      have hdc:decide ((k:Int)<(s.length:Int))=false:=by simp;omega
      refine ⟨((w:Int),s),by simp only [hdc,Bool.false_eq_true,if_false],w,s,rfl,by omega, ?_⟩
      rw [ht,show k=h.length by omega,List.take_length]) ((i:Int),aF (i:Int) 1,h)
    ⟨i,i+1,rfl,by simp only [bJ i (by omega)],hi,Nat.lt_succ_self i,rfl,by rw [fst],rfl⟩
   subst q2
   rw [q1]
   simp only [Option.bind_some,Int.toNat_natCast]
   have c1:(decide ((0:Int)≤(w:Int))&&(decide ((w:Int)≤(s.length:Int))&&decide ((s.length:Int)≤(s.length:Int))))=true:=by simp;exact q3
   rw [c1,if_pos rfl]
   unfold slc cpy
   rw [if_pos ⟨Int.le_refl 0,by omega,by simp;omega⟩]
   simp only [Option.bind_some,Int.toNat_natCast,Int.toNat_zero,List.drop_zero]
   rw [List.append_assoc,List.take_append_of_le_length (by rw [List.length_take];omega),List.take_take,Nat.min_self,q4]
theorem OW (l:List aI) (hl:l.length≤1000):Bn l=some (l.filter fun s=>!decide (aH s.hi s.lo<2)):=by
 have h:Bn l=(df Cy ⟨0,0⟩ l).bind fun r=>some r:=rfl
 rw [h,SK (q:=Cy) (p:=fun s=>decide (aH s.hi s.lo<2)) (fun x=>rfl) _ (by omega)]
 rfl
theorem QI (a:List aE) (b:List aR) (c d e f g i:Int) (l:List Int) (hl:l.length≤100000000):cX a b c d e f g i l=some (l.filter fun y=>!(decide (y<d) || decide (y>aH (aF d f) i))):=by
 have h:cX a b c d e f g i l=df (fun y=>nC y a b c d e f g i) 0 l:=rfl
 rw [h,SK (p:=fun y=>decide (y<d) || decide (y>aH (aF d f) i)) (fun y=>?_) _ hl]
 unfold nC
 cases decide (y<d) <;> rfl
end Go.SM
namespace Go.SM
open Go Go.VI Go.Cells
def mkS (p:Int×Int):aI:=⟨p.1,p.2⟩
def inN (l:List aI) (x:Int):Prop:=∃ s ∈ l,s.lo<x∧x<s.hi
theorem QW (l:List (Int×Int)) (x:Int):inN (l.map mkS) x↔inS l x:=by
 unfold inN inS
 constructor
 ·rintro ⟨s,hs,h⟩
  obtain ⟨p,hp,rfl⟩:=List.mem_map.1 hs
  exact ⟨p,hp,h⟩
 ·rintro ⟨p,hp,h⟩;exact ⟨mkS p,List.mem_map.2 ⟨p,hp,rfl⟩,h⟩
structure BO (o:aR):Prop where
 v:vR o.aE
 g:0≤o.gap∧o.gap≤14400
def Mi (s:Int×Int):Bool:=!decide (s.2-s.1<2)
theorem OV {o:aR} {r:aE} {y:Int} (ho:BO o) (hr:vR r) (hy : -4194304≤y∧y≤4194304):uX o r y=some (((zY o.gap o.common r o.aE y).filter Mi).map mkS):=by
 obtain ⟨hov,hg⟩:=ho
 unfold vR at hov hr
 unfold uX
 have sp:∀ l:List (Int×Int),l.length≤1000→(∀ p ∈ l,-16777216≤p.1∧p.1≤16777216∧-16777216≤p.2∧p.2≤16777216)→Bn (l.map mkS)=some ((l.filter Mi).map mkS):=fun l hl hp=>by
  rw [OW _ (by rw [List.length_map];exact hl),List.filter_map]
  congr 2
  refine List.filter_congr fun p hpm=>?_
  have:=hp p hpm
  have e:aH (mkS p).hi (mkS p).lo=p.2-p.1:=bE (a:=p.2) (b:=p.1) (by omega) (by omega)
  simp only [Function.comp,Mi,e]
 simp (disch:=omega) only [aP,bE,Kq]
 have eu:max (max 0 (o.aE.Y-r.Y-y-r.H)) (r.Y+y-o.aE.Y-o.aE.H)=Ge (y+r.Y) r.H o.aE.Y o.aE.H:=by unfold Ge;omega
 have ej:(if decide (r.Y+y<o.aE.Y+o.aE.H)=true then some (decide (o.aE.Y<r.Y+y+r.H)) else some false)=some (decide (ovI (y+r.Y) r.H o.aE.Y o.aE.H)):=by
  unfold ovI
  by_cases h1:r.Y+y<o.aE.Y+o.aE.H
  ·have h1':y+r.Y<o.aE.Y+o.aE.H:=by omega
   simp only [h1,h1',decide_true,if_true,true_and]
   congr 1
   exact decide_eq_decide.2 (by omega)
  ·have h1':¬ y+r.Y<o.aE.Y+o.aE.H:=by omega
   simp [h1,h1']
 have eb:∀ a:Int,(a==0)=decide (a=0):=fun a=>by by_cases h:a=0 <;> simp [h]
 rw [ej,eu]
 generalize hu:Ge (y+r.Y) r.H o.aE.Y o.aE.H=u
 have hou:ovI (y+r.Y) r.H o.aE.Y o.aE.H→u=0:=fun h=>by rw [← hu];unfold ovI at h;unfold Ge;omega
 have hu0:0≤u:=by rw [← hu];unfold Ge;omega
 unfold zY
 rw [hu]
 simp only [Option.bind_some,eb]
 generalize ho':decide (ovI (y+r.Y) r.H o.aE.Y o.aE.H)=ov
 have hov':ovI (y+r.Y) r.H o.aE.Y o.aE.H↔ov=true:=by rw [← ho',decide_eq_true_eq]
 simp only [hov'] at hou ⊢
 have d:∀ p q:Int×Int,(∀ z ∈ [p,q],-16777216≤z.1∧z.1≤16777216∧-16777216≤z.2∧z.2≤16777216)→True:=fun _ _ _=>trivial
 have s1:=sp [(o.aE.X-r.X-r.W-o.gap,o.aE.X+o.aE.W-r.X+o.gap)] (by simp) (by simp;omega)
 have s2:=sp [(o.aE.X-r.X-r.W-o.gap,o.aE.X-r.X-r.W),(o.aE.X+o.aE.W-r.X,o.aE.X+o.aE.W-r.X+o.gap)] (by simp) (by simp;omega)
 have s3:=sp [(o.aE.X-r.X-r.W-o.gap,o.aE.X-r.X-r.W),(o.aE.X-r.X-r.W,o.aE.X+o.aE.W-r.X),(o.aE.X+o.aE.W-r.X,o.aE.X+o.aE.W-r.X+o.gap)] (by simp) (by simp;omega)
 simp only [List.map_cons,List.map_nil,mkS] at s1 s2 s3
 simp only [s1,s2,s3,Option.bind_some]
 by_cases h1:u ≥ o.gap
 ·by_cases h2:u>0
  ·have h12:o.gap≤u∧0<u:=⟨h1,h2⟩
   simp only [h1,h2,h12,and_self,decide_true,if_true,Option.bind_some]
   rfl
  ·have hz:u=0:=by omega
   have hg0:o.gap=0:=by omega
   subst hz
   cases o.common <;> cases ov <;> simp [hg0] <;> rfl
 ·have h12:¬ (o.gap≤u∧0<u):=fun q=>h1 q.1
  have hg0:¬ o.gap=0:=by omega
  by_cases hz:u=0
  ·cases o.common <;> cases ov <;> simp [h1,hz,hg0] <;> rfl
  ·have hov0:ov=false:=by
    cases ov with
    | false=>rfl
    | true=>exact absurd (hou rfl) hz
   subst hov0
   cases o.common <;> simp [h1,hz,hg0] <;> rfl
theorem FD (g:Int) (c:Bool) (r o:aE) (y:Int):(zY g c r o y).length≤3:=by
 unfold zY
 split
 ·simp
 ·split
  ·simp
  ·split
   ·simp
   ·split <;> simp
theorem KD {o:aR} {r:aE} {y:Int} (ho:BO o) (hr:vR r):∀ s ∈ zY o.gap o.common r o.aE y,s.2≤8388608:=by
 obtain ⟨hov,hg⟩:=ho
 unfold vR at hov hr
 unfold zY
 intro s hs
 split at hs
 ·cases hs
 ·split at hs
  ·simp at hs;rcases hs with rfl | rfl | rfl <;> simp only <;> omega
  ·split at hs
   ·simp at hs;rcases hs with rfl | rfl <;> simp only <;> omega
   ·split at hs
    ·cases hs
    ·simp at hs;subst hs;simp only;omega
structure BS (s:fE):Prop where
 r:∀ r ∈ s.mN,vR r
 rl:s.mN.length≤12
 o:∀ o ∈ s.bV,BO o
 ol:s.bV.length≤1000
def EB (l:List aR):List (aE×Int×Bool):=l.map fun o=>(o.aE,o.gap,o.common)
def Jl (s:fE) (y:Int):List (Int×Int):=s.bV.flatMap fun o=>s.mN.flatMap fun r=>(zY o.gap o.common r o.aE y).filter Mi
theorem HQ {s:fE} (h:BS s) (x y:Int):inS (Jl s y) x↔∃ o ∈ EB s.bV,∃ r ∈ s.mN,Pz o.2.1 o.2.2 r o.1 x y:=by
 have one:∀ o ∈ s.bV,∀ r ∈ s.mN,(inS ((zY o.gap o.common r o.aE y).filter Mi) x↔Pz o.gap o.common r o.aE x y):=fun o ho r hr=>by
  have b:=h.o o ho
  have v:=b.v
  have w:=h.r r hr
  unfold vR at v w
  exact (DQ _ _).trans (FC b.g.1 (by omega) (by omega) (by omega) (by omega) x y)
 unfold Jl
 constructor
 ·rintro ⟨p,hp,hx⟩
  obtain ⟨o,ho,hp⟩:=List.mem_flatMap.1 hp
  obtain ⟨r,hr,hp⟩:=List.mem_flatMap.1 hp
  exact ⟨_,List.mem_map.2 ⟨o,ho,rfl⟩,r,hr,(one o ho r hr).1 ⟨p,hp,hx⟩⟩
 ·rintro ⟨o',ho',r,hr,hb⟩
  obtain ⟨o,ho,rfl⟩:=List.mem_map.1 ho'
  obtain ⟨p,hp,hx⟩:=(one o ho r hr).2 hb
  exact ⟨p,List.mem_flatMap.2 ⟨o,ho,List.mem_flatMap.2 ⟨r,hr,hp⟩⟩,hx⟩
theorem KQ {s:fE} (h:BS s) (y:Int):∀ p ∈ Jl s y,p.2≤8388608:=fun p hp=>by
 obtain ⟨o,ho,hp⟩:=List.mem_flatMap.1 hp
 obtain ⟨r,hr,hp⟩:=List.mem_flatMap.1 hp
 exact KD (h.o o ho) (h.r r hr) p (List.mem_filter.1 hp).1
theorem TW {s:fE} (h:BS s) {y:Int} (hy : -4194304≤y∧y≤4194304) {o:aR} (ho:o ∈ s.bV) (out0:List aI) (h0:out0.length≤100000) :
  aL (lN s y o) (0,out0)=some (out0++(s.mN.flatMap fun r=>(zY o.gap o.common r o.aE y).filter Mi).map mkS)∧(s.mN.flatMap fun r=>(zY o.gap o.common r o.aE y).filter Mi).length≤36:=by
 have hrl:=h.rl
 obtain ⟨a,q1,q2,q3⟩:=kL s.mN (fun k (t:List aI)=>((k:Int),t)) (lN s y o) (fun t=>t) (fun k t=>t=out0++((s.mN.take k).flatMap fun r=>(zY o.gap o.common r o.aE y).filter Mi).map mkS∧((s.mN.take k).flatMap fun r=>(zY o.gap o.common r o.aE y).filter Mi).length≤3*k) out0 (by simp)
  (fun k r t hr hI=>by
   have hk:=bL hr
   have hd:decide ((k:Int)<(s.mN.length:Int))=true:=by simp [hk]
   obtain ⟨i1,i2⟩:=hI
   have e:=OV (h.o o ho) (h.r r (List.mem_of_getElem? hr)) hy
   have l3:((zY o.gap o.common r o.aE y).filter Mi).length≤3:=Nat.le_trans (List.length_filter_le _ _) (FD _ _ _ _ _)
   unfold lN
   simp only [hd,if_true,bB hr,Option.bind_some,e,bJ k (by omega)]
   rw [iR (by rw [i1];simp only [List.length_append,List.length_map];unfold LIM;omega)]
   refine ⟨_,rfl, ?_, ?_⟩
   ·rw [iT hr,List.flatMap_append,i1];simp
   ·rw [iT hr,List.flatMap_append];simp only [List.flatMap_cons,List.flatMap_nil,List.append_nil,List.length_append];omega) (fun t _=>by simp [lN])
 rw [List.take_length] at q2 q3
 exact ⟨by rw [show ((0:Int),out0)=(((0:Nat):Int),out0) from rfl,q1,q2],by omega⟩
theorem DH {s:fE} (h:BS s) {y:Int} (hy : -4194304≤y∧y≤4194304):∃ L,pV s y=some L∧L.length≤100000∧(∀ x,inN L x↔inS (Jl s y) x)∧∀ p ∈ L,p.hi≤8388608:=by
 have hol:=h.ol
 obtain ⟨a,q1,q2,q3⟩:=kL s.bV (fun k (t:List aI)=>((k:Int),t)) (qE s y) (fun t=>t) (fun k t=>t=((s.bV.take k).flatMap fun o=>s.mN.flatMap fun r=>(zY o.gap o.common r o.aE y).filter Mi).map mkS∧t.length≤36*k) [] (by simp)
  (fun k o t ho hI=>by
   have hk:=bL ho
   have hd:decide ((k:Int)<(s.bV.length:Int))=true:=by simp [hk]
   obtain ⟨i1,i2⟩:=hI
   obtain ⟨e1,e2⟩:=TW h hy (List.mem_of_getElem? ho) t (by omega)
   unfold qE
   simp only [hd,if_true,bB ho,Option.bind_some,e1,bJ k (by omega)]
   refine ⟨_,rfl, ?_, ?_⟩
   ·rw [iT ho,List.flatMap_append,i1];simp
   ·simp only [List.length_append,List.length_map];omega) (fun t _=>by simp [qE])
 rw [List.take_length] at q2
 obtain ⟨r,r1,r2⟩:=OU (l:=a) (by omega)
 refine ⟨r, ?_,by rw [r2.length_eq];omega,fun x=>?_,fun p hp=>?_⟩
 ·unfold pV
  rw [show ((0:Int),([]:List aI))=(((0:Nat):Int),[]) from rfl,q1]
  simp only [Option.bind_some,r1]
 ·rw [← QW]
  have:a=(Jl s y).map mkS:=q2
  rw [← this]
  unfold inN
  constructor
  ·rintro ⟨t,ht,hh⟩;exact ⟨t,r2.mem_iff.1 ht,hh⟩
  ·rintro ⟨t,ht,hh⟩;exact ⟨t,r2.mem_iff.2 ht,hh⟩
 ·have:p ∈ (Jl s y).map mkS:=by
   have e:a=(Jl s y).map mkS:=q2
   rw [← e];exact r2.mem_iff.1 hp
  obtain ⟨z,hz,rfl⟩:=List.mem_map.1 this
  exact KQ h y z hz
theorem OB (L:List (Int×Int)) (hL:L.length≤100000) {m x:Int} (hm:m≤x) (hx:∀ z,m≤z→z<x→inS L z) (hB:x≤8388608) (hhi:∀ p ∈ L,p.2≤8388608) (body:(Int×Bool×Int)→Option ((Int×Bool×Int) ⊕ (Int×Bool)))
  (step:∀ (k:Nat) p (x:Int) b,L[k]?=some p→body (x,b,(k:Int))=some (.inl (if p.1<x∧x<p.2 then (p.2,true,((k+1:Nat):Int)) else (x,b,((k+1:Nat):Int))))) (fin:∀ (x:Int) b,body (x,b,(L.length:Int))=some (.inr (x,b))) :
  ∃ x' b',aL body (x,false,0)=some (x',b')∧x≤x'∧x'≤8388608∧(∀ z,m≤z→z<x'→inS L z)∧(b'=false→x'=x∧¬ inS L x)∧(b'=true→x<x'):=by
 obtain ⟨a,q1,q2,q3,q4,q5,q6⟩:=kL L (fun k (t:Int×Bool)=>(t.1,t.2,(k:Int))) body (fun t=>t) (fun k t=>x≤t.1∧t.1≤8388608∧(∀ z,m≤z→z<t.1→inS L z)∧(t.2=false→t.1=x∧∀ p ∈ L.take k,¬ (p.1<x∧x<p.2))∧(t.2=true→x<t.1)) (x,false) ⟨Int.le_refl x,hB,hx,fun _=>⟨rfl,fun p hp=>by simp at hp⟩,fun q=>by cases q⟩
  (fun k p t hp hI=>by
   obtain ⟨i1,i2,i3,i4,i5⟩:=hI
   have hpm:=List.mem_of_getElem? hp
   by_cases hc:p.1<t.1∧t.1<p.2
   ·refine ⟨(p.2,true),by rw [step k p _ _ hp,if_pos hc],by simp only;omega,hhi p hpm,fun z z1 z2=>?_,fun q=>absurd q (by simp),fun _=>by simp only;omega⟩
    rcases Int.lt_or_le z t.1 with w | w
    ·exact i3 z z1 w
    ·exact ⟨p,hpm,by omega,z2⟩
   ·refine ⟨t,by rw [step k p _ _ hp,if_neg hc],i1,i2,i3,fun q=>⟨(i4 q).1,fun p' hp'=>?_⟩,i5⟩
    rw [iT hp] at hp'
    rcases List.mem_append.1 hp' with w | w
    ·exact (i4 q).2 p' w
    ·simp at w;subst w
     rw [(i4 q).1] at hc;exact hc) (fun t _=>by rw [fin])
 rw [List.take_length] at q5
 refine ⟨a.1,a.2,q1,q2,q3,q4,fun q=>⟨(q5 q).1,fun ⟨p,hp,hh⟩=>(q5 q).2 p hp hh⟩,q6⟩
theorem JO (L:List (Int×Int)) (hL:L.length≤100000) {m:Int} (hm:m≤8388608) (hhi:∀ p ∈ L,p.2≤8388608) (inner:(Int×Bool×Int)→Option ((Int×Bool×Int) ⊕ (Int×Bool))) (body:(Int×Bool)→Option ((Int×Bool) ⊕ Int))
  (step:∀ (k:Nat) p (x:Int) b,L[k]?=some p→inner (x,b,(k:Int))=some (.inl (if p.1<x∧x<p.2 then (p.2,true,((k+1:Nat):Int)) else (x,b,((k+1:Nat):Int))))) (fin:∀ (x:Int) b,inner (x,b,(L.length:Int))=some (.inr (x,b)))
  (ht:∀ x,body (x,true)=(aL inner (x,false,0)).bind fun r=>some (.inl (r.1,r.2))) (hf:∀ x,body (x,false)=some (.inr x)) :
  ∃ x,aL body (m,true)=some x∧m≤x∧¬ inS L x∧∀ z,m≤z→z<x→inS L z:=by
 obtain ⟨r,q1,q2⟩:=nW (fun t:Int×Bool=>(8388608-t.1).toNat*2+(if t.2 then 1 else 0))
  (fun t:Int×Bool=>m≤t.1∧t.1≤8388608∧(∀ z,m≤z→z<t.1→inS L z)∧(t.2=false→¬ inS L t.1))
  (fun x=>m≤x∧¬ inS L x∧∀ z,m≤z→z<x→inS L z) body (by
   rintro ⟨x,b⟩ ⟨i1,i2,i3,i4⟩
   simp only at i1 i2 i3 i4 ⊢
   cases b with
   | true =>
     left
     obtain ⟨x',b',w1,w2,w3,w4,w5,w6⟩:=OB L hL i1 i3 i2 hhi inner step fin
     refine ⟨(x',b'),by rw [ht,w1];rfl,⟨by simp only;omega,w3,w4,fun q=>by obtain ⟨e,hn⟩:=w5 q;simp only;rw [e];exact hn⟩, ?_⟩
     cases b' with
     | true=>have:=w6 rfl;simp only [if_true];omega
     | false=>obtain ⟨e,_⟩:=w5 rfl;subst e;simp
   | false=>right;exact ⟨x,hf x,i1,i4 rfl,i3⟩) (m,true)
  ⟨Int.le_refl m,hm,fun z z1 z2=>by simp only at z2;omega,fun q=>by cases q⟩
 exact ⟨r,q1,q2⟩
theorem UB {L:List aI} {k:Nat} {p:Int×Int} (h:(L.map fun s=>(s.lo,s.hi))[k]?=some p):∃ s,L[k]?=some s∧p=(s.lo,s.hi):=by
 rw [List.getElem?_map] at h
 cases e:L[k]? with
 | none=>rw [e] at h;cases h
 | some s=>rw [e] at h;exact ⟨s,rfl,(Option.some.inj h).symm⟩
theorem UC (L:List aI) (x:Int):inS (L.map fun s=>(s.lo,s.hi)) x↔inN L x:=by
 unfold inN inS
 constructor
 ·rintro ⟨p,hp,h⟩
  obtain ⟨s,hs,rfl⟩:=List.mem_map.1 hp
  exact ⟨s,hs,h⟩
 ·rintro ⟨s,hs,h⟩;exact ⟨(s.lo,s.hi),List.mem_map.2 ⟨s,hs,rfl⟩,h⟩
theorem LW (L:List aI) (hL:L.length≤100000) {m hi:Int} (hm:m≤8388608) (hhi:∀ p ∈ L,p.hi≤8388608):∃ x,Hm L m hi=some (x,decide (x≤hi))∧Sl (L.map fun s=>(s.lo,s.hi)) m x:=by
 obtain ⟨x,h1,h2⟩:=JO (L.map fun s=>(s.lo,s.hi)) (by rw [List.length_map];exact hL) hm (fun p hp=>by obtain ⟨s,hs,rfl⟩:=List.mem_map.1 hp;exact hhi s hs) (Es L m hi) (Et L m hi) (fun k p x b hp=>by
  obtain ⟨s,hs,rfl⟩:=UB hp
  have hk:=bL hs
  have hd:decide ((k:Int)<(L.length:Int))=true:=by simp [hk]
  unfold Es Er
  simp only [hd,if_true,bB hs,Option.bind_some,bJ k (by omega)]
  by_cases c1:s.lo<x
  ·by_cases c2:x<s.hi <;> simp [c1,c2]
  ·simp [c1]) (fun x b=>by simp [Es]) (fun x=>by simp [Et]) (fun x=>by simp [Et])
 exact ⟨x,by unfold Hm;rw [h1];rfl,h2⟩
end Go.SM
