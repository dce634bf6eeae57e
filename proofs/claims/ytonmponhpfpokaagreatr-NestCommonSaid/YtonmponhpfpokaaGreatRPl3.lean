/- What the functions compute, part 3. -/
import Derived.Test.YtonmponhpfpokaaGreatRPl2
set_option linter.unusedVariables false
set_option linter.unusedSimpArgs false
set_option linter.unusedSectionVars false
namespace Go.SM
open Go Go.VI Go.Cells
def cH (p q:Int→Int→Bool) (y:Int):Int→Int:=fun z=>if hl p y z≠0∧hl q y z≠0 then hl p y z else 0
def cV (p q:Int→Int→Bool) (x:Int):Int→Int:=fun z=>if vl p x z≠0∧vl q x z≠0 then vl p x z else 0
noncomputable def Ty (p q:Int→Int→Bool) (xs ys:List Int):List aI:=ys.flatMap (fun y=>(cY (cH p q y)).map (mkH y))++xs.flatMap fun x=>(cY (cV p q x)).map (mkV x)
theorem Bb {s:Int→Int} (h:∀ z,s z=0):cY s=[]:=kI ⟨.nil,fun a b=>⟨fun m=>by simp at m,fun m=>absurd (h a) m.2.1⟩⟩
theorem sR {s:Int→Int} {xs:List Int} (h:Cc s xs):eK s (cY s):=by
 obtain ⟨L,_,h2,_⟩:=Vz h (side:=fun i=>(xs[i.toNat]?).map s) (fun i x hx _=>by simp [hx]) (found:=fun a b l=>some (l++[mkH 0 (a,b)])) (mk:=mkH 0) (fun a b l _=>rfl) (out0:=[]) (by simp)
 rw [kI h2];exact h2
theorem Fu {s:Int→Int} {xs:List Int} (h:Cc s xs):Bd s:=by
 obtain ⟨lo,h1⟩:=Rf h
 rcases Nat.eq_zero_or_pos xs.length with q | q
 ·exact ⟨lo,0,h1,fun z _=>h.none (List.eq_nil_of_length_eq_zero q) z⟩
 ·obtain ⟨x,hx⟩:∃ x,xs[xs.length-1]?=some x:=⟨_,List.getElem?_eq_getElem (by omega)⟩
  exact ⟨lo,x,h1,h.high x hx⟩
theorem Hq {s:Int→Int} {p:Int×Int} (hp:p ∈ cY s):p.1<p.2:=by
 unfold cY at hp
 split at hp
 ·rename_i hx
  exact (((Classical.choose_spec hx).2 p.1 p.2).1 hp).1
 ·cases hp
theorem AE {l:List aK} {ys:List Int} (gy:iO ys (ysL l)) {y:Int} (hy:y ∉ ys) (z:Int):cov l z y=cov l z (y-1):=by
 have hn:∀ r ∈ l,y≠r.Y∧y≠r.Y+r.H:=fun r hr=>by
  have:=Cx hr
  exact ⟨fun e=>hy ((gy.2 y).2 (by rw [e];exact this.1)),fun e=>hy ((gy.2 y).2 (by rw [e];exact this.2))⟩
 rw [Bool.eq_iff_iff,Dc,Dc]
 constructor
 ·rintro ⟨r,hr,h⟩;refine ⟨r,hr, ?_⟩;have:=hn r hr;rw [xT] at h ⊢;omega
 ·rintro ⟨r,hr,h⟩;refine ⟨r,hr, ?_⟩;have:=hn r hr;rw [xT] at h ⊢;omega
theorem AD {l:List aK} {xs:List Int} (gx:iO xs (xsL l)) {x:Int} (hx:x ∉ xs) (z:Int):cov l x z=cov l (x-1) z:=by
 have hn:∀ r ∈ l,x≠r.X∧x≠r.X+r.W:=fun r hr=>by
  have:=Fo hr
  exact ⟨fun e=>hx ((gx.2 x).2 (by rw [e];exact this.1)),fun e=>hx ((gx.2 x).2 (by rw [e];exact this.2))⟩
 rw [Bool.eq_iff_iff,Dc,Dc]
 constructor
 ·rintro ⟨r,hr,h⟩;refine ⟨r,hr, ?_⟩;have:=hn r hr;rw [xT] at h ⊢;omega
 ·rintro ⟨r,hr,h⟩;refine ⟨r,hr, ?_⟩;have:=hn r hr;rw [xT] at h ⊢;omega
theorem BF {l:List aK} {ys:List Int} (gy:iO ys (ysL l)) {y:Int} (hy:y ∉ ys) (z:Int):hl (cov l) y z=0:=by
 unfold hl;rw [AE gy hy];omega
theorem DU {l:List aK} {xs:List Int} (gx:iO xs (xsL l)) {x:Int} (hx:x ∉ xs) (z:Int):vl (cov l) x z=0:=by
 unfold vl;rw [AD gx hx];omega
def Dj (p q:Int→Int→Bool):Prop:=∀ x y,p x y=true→q x y=true→False
theorem opp {p q:Int→Int→Bool} (h:Dj p q) {a b c d:Int} (h1:one (p a b)-one (p c d)≠0) (h2:one (q a b)-one (q c d)≠0):one (q a b)-one (q c d)=-(one (p a b)-one (p c d)):=by
 have e1:=h a b
 have e2:=h c d
 cases hp:p a b <;> cases hq:q a b <;> cases hp':p c d <;> cases hq':q c d <;> simp [hp,hq,hp',hq',one] at *
theorem Zw {p q:Int→Int→Bool} (h:Dj p q) {y z:Int} (hc:cH p q y z≠0):hl q y z=- cH p q y z:=by
 unfold cH at hc ⊢
 by_cases hh:hl p y z≠0∧hl q y z≠0
 ·rw [if_pos hh]
  exact opp h hh.1 hh.2
 ·rw [if_neg hh] at hc;exact absurd rfl hc
theorem Zx {p q:Int→Int→Bool} (h:Dj p q) {y z:Int} (hc:cV p q y z≠0):vl q y z=- cV p q y z:=by
 unfold cV at hc ⊢
 by_cases hh:vl p y z≠0∧vl q y z≠0
 ·rw [if_pos hh]
  exact opp h hh.1 hh.2
 ·rw [if_neg hh] at hc;exact absurd rfl hc
theorem Ic {a:Int} {P:Prop} [Decidable P] (ha:P→a≠0):(if P then a else 0)≠0↔P:=by
 by_cases h:P
 ·rw [if_pos h];exact ⟨fun _=>h,fun _=>ha h⟩
 ·rw [if_neg h];exact ⟨fun q=>absurd rfl q,fun q=>absurd q h⟩
theorem Wy {p q:Int→Int→Bool} (h:Dj p q) {y:Int} {xs xs':List Int} (h1:Cc (hl p y) xs) (h2:Cc (hl q y) xs'):eK (cH p q y) ((cY (hl p y)).flatMap (meets (cY (hl q y)))):=
 Pj (sR h1) (sR h2) (Fu h1) (Fu h2) (fun z=>Ic fun q=>q.1) (fun z hz=>by unfold cH at hz ⊢;have:=(Ic fun q=>q.1).1 hz;rw [if_pos this]) (fun z hz=>by
  rw [Zw h hz];congr 1;unfold cH at hz ⊢;have:=(Ic fun q=>q.1).1 hz;rw [if_pos this])
theorem Wz {p q:Int→Int→Bool} (h:Dj p q) {y:Int} {xs xs':List Int} (h1:Cc (vl p y) xs) (h2:Cc (vl q y) xs'):eK (cV p q y) ((cY (vl p y)).flatMap (meets (cY (vl q y)))):=
 Pj (sR h1) (sR h2) (Fu h1) (Fu h2) (fun z=>Ic fun q=>q.1) (fun z hz=>by unfold cV at hz ⊢;have:=(Ic fun q=>q.1).1 hz;rw [if_pos this]) (fun z hz=>by
  rw [Zx h hz];congr 1;unfold cV at hz ⊢;have:=(Ic fun q=>q.1).1 hz;rw [if_pos this])
theorem Tb {s t:Int→Int} (h:∀ z,t z=- s z) {L:List (Int×Int)} (hr:eK s L):eK t L:=by
 refine ⟨hr.1,fun a b=>(hr.2 a b).trans ?_⟩
 unfold vJ
 simp only [h]
 constructor
 ·rintro ⟨a1,a2,a3,a4,a5⟩;exact ⟨a1,by omega,fun z z1 z2=>by rw [a3 z z1 z2],by omega,by omega⟩
 ·rintro ⟨a1,a2,a3,a4,a5⟩;exact ⟨a1,by omega,fun z z1 z2=>by have:=a3 z z1 z2;omega,by omega,by omega⟩
theorem EJ {p q:Int→Int→Bool} (h:Dj p q) (y z:Int):cH q p y z=- cH p q y z:=by
 by_cases hh:hl p y z≠0∧hl q y z≠0
 ·have:cH p q y z≠0:=by unfold cH;rw [if_pos hh];exact hh.1
  rw [← Zw h this];unfold cH;rw [if_pos ⟨hh.2,hh.1⟩]
 ·unfold cH;rw [if_neg hh,if_neg fun q=>hh ⟨q.2,q.1⟩];rfl
theorem EK {p q:Int→Int→Bool} (h:Dj p q) (y z:Int):cV q p y z=- cV p q y z:=by
 by_cases hh:vl p y z≠0∧vl q y z≠0
 ·have:cV p q y z≠0:=by unfold cV;rw [if_pos hh];exact hh.1
  rw [← Zx h this];unfold cV;rw [if_pos ⟨hh.2,hh.1⟩]
 ·unfold cV;rw [if_neg hh,if_neg fun q=>hh ⟨q.2,q.1⟩];rfl
def inter (s t:aI):List aI:=
 if (s.Y1=s.Y2∧t.Y1=t.Y2∧s.Y1=t.Y1∧max s.X1 t.X1<min s.X2 t.X2)∨(s.X1=s.X2∧t.X1=t.X2∧s.X1=t.X1∧max s.Y1 t.Y1<min s.Y2 t.Y2) then [⟨max s.X1 t.X1,max s.Y1 t.Y1,min s.X2 t.X2,min s.Y2 t.Y2⟩] else []
theorem BH {y x:Int} {p q:Int×Int} (hp:p.1<p.2) (hq:q.1<q.2):inter (mkH y p) (mkV x q)=[]:=by
 unfold inter mkH mkV
 rw [if_neg]
 simp only
 omega
theorem BI {y x:Int} {p q:Int×Int} (hp:p.1<p.2) (hq:q.1<q.2):inter (mkV x p) (mkH y q)=[]:=by
 unfold inter mkH mkV
 rw [if_neg]
 simp only
 omega
theorem Sh {y y':Int} {p q:Int×Int} (hp:p.1<p.2):inter (mkH y p) (mkH y' q)=if y'=y then (if (meet p q).1<(meet p q).2 then [mkH y (meet p q)] else []) else []:=by
 unfold inter mkH meet
 simp only
 by_cases h:y'=y
 ·subst h
  rw [if_pos rfl]
  by_cases h2:max p.1 q.1<min p.2 q.2
  ·rw [if_pos h2,if_pos (by refine Or.inl ⟨?_, ?_, ?_,h2⟩ <;> trivial)]
   rw [show max y' y'=y' by omega,show min y' y'=y' by omega]
  ·rw [if_neg h2,if_neg]
   omega
 ·rw [if_neg h,if_neg]
  omega
theorem Si {y y':Int} {p q:Int×Int} (hp:p.1<p.2):inter (mkV y p) (mkV y' q)=if y'=y then (if (meet p q).1<(meet p q).2 then [mkV y (meet p q)] else []) else []:=by
 unfold inter mkV meet
 simp only
 by_cases h:y'=y
 ·subst h
  rw [if_pos rfl]
  by_cases h2:max p.1 q.1<min p.2 q.2
  ·rw [if_pos h2,if_pos (by refine Or.inr ⟨?_, ?_, ?_,h2⟩ <;> trivial)]
   rw [show max y' y'=y' by omega,show min y' y'=y' by omega]
  ·rw [if_neg h2,if_neg]
   omega
 ·rw [if_neg h,if_neg]
  omega
theorem Ml (M:List (Int×Int)) (p:Int×Int) (f:Int×Int→aI):(meets M p).map f=M.flatMap fun q=>if (meet p q).1<(meet p q).2 then [f (meet p q)] else []:=by
 unfold meets
 induction M with
 | nil=>rfl
 | cons q t ih =>
   rw [List.map_cons,List.filter_cons,List.flatMap_cons]
   by_cases h:(meet p q).1<(meet p q).2
   ·rw [if_pos (by simpa using h),if_pos h,List.map_cons,ih];rfl
   ·rw [if_neg (by simpa using h),if_neg h,ih];rfl
theorem Ry {β:Type} {l:List Int} (h:l.Pairwise fun x y=>x<y) (y:Int) (m:List β):(l.flatMap fun x=>if x=y then m else [])=if y ∈ l then m else []:=by
 induction l with
 | nil=>rfl
 | cons x t ih =>
   have hh:=List.pairwise_cons.1 h
   rw [List.flatMap_cons,ih hh.2]
   by_cases e:x=y
   ·subst e
    have:x ∉ t:=fun q=>by have:=hh.1 x q;omega
    rw [if_pos rfl,if_neg this,if_pos List.mem_cons_self,List.append_nil]
   ·rw [if_neg e,List.nil_append]
    by_cases q:y ∈ t
    ·rw [if_pos q,if_pos (List.mem_cons_of_mem _ q)]
    ·rw [if_neg q,if_neg]
     intro z
     rcases List.mem_cons.1 z with z | z
     ·exact e z.symm
     ·exact q z
theorem yU {α β:Type} (l:List α) {f:α→List β} (h:∀ x ∈ l,f x=[]):l.flatMap f=[]:=by
 induction l with
 | nil=>rfl
 | cons x t ih=>rw [List.flatMap_cons,h x List.mem_cons_self,ih fun y hy=>h y (List.mem_cons_of_mem _ hy)];rfl
theorem sV {α β:Type} (l:List α) {f g:α→List β} (h:∀ x ∈ l,f x=g x):l.flatMap f=l.flatMap g:=by
 induction l with
 | nil=>rfl
 | cons x t ih=>rw [List.flatMap_cons,List.flatMap_cons,h x List.mem_cons_self,ih fun y hy=>h y (List.mem_cons_of_mem _ hy)]
theorem nQ {α β γ:Type} (l:List α) (f:α→List β) (g:β→List γ):(l.flatMap f).flatMap g=l.flatMap fun x=>(f x).flatMap g:=by
 induction l with
 | nil=>rfl
 | cons x t ih=>rw [List.flatMap_cons,List.flatMap_cons,List.flatMap_append,ih]
section
variable {a b:List aK} {xa ya xb yb xs ys:List Int} (gxa:iO xa (xsL a)) (gya:iO ya (ysL a)) (gxb:iO xb (xsL b)) (gyb:iO yb (ysL b)) (ha:Has xa ya a) (hb:Has xb yb b)
include gyb in
theorem FC {y:Int} {p:Int×Int} (hp:p.1<p.2):(uY (cov b) xb yb).flatMap (inter (mkH y p))=(meets (cY (hl (cov b) y)) p).map (mkH y):=by
 unfold uY
 rw [List.flatMap_append,nQ,nQ]
 rw [yU xb (f:=fun x=>((cY (vl (cov b) x)).map (mkV x)).flatMap (inter (mkH y p))) (fun x _=>yU _ fun s hs=>by
  obtain ⟨q,hq,rfl⟩:=List.mem_map.1 hs
  exact BH hp (Hq hq)),List.append_nil]
 have e:∀ y':Int,((cY (hl (cov b) y')).map (mkH y')).flatMap (inter (mkH y p))=if y'=y then (meets (cY (hl (cov b) y)) p).map (mkH y) else []:=fun y'=>by
  rw [List.flatMap_map]
  by_cases h:y'=y
  ·subst h
   rw [if_pos rfl,Ml]
   exact sV _ fun q _=>by rw [Sh hp,if_pos rfl]
  ·rw [if_neg h]
   exact yU _ fun q _=>by rw [Sh hp,if_neg h]
 simp only [e]
 rw [Ry gyb.1]
 by_cases h:y ∈ yb
 ·rw [if_pos h]
 ·rw [if_neg h,Bb (BF gyb h)];rfl
include gxb in
theorem FD {y:Int} {p:Int×Int} (hp:p.1<p.2):(uY (cov b) xb yb).flatMap (inter (mkV y p))=(meets (cY (vl (cov b) y)) p).map (mkV y):=by
 unfold uY
 rw [List.flatMap_append,nQ,nQ]
 rw [yU yb (f:=fun x=>((cY (hl (cov b) x)).map (mkH x)).flatMap (inter (mkV y p))) (fun x _=>yU _ fun s hs=>by
  obtain ⟨q,hq,rfl⟩:=List.mem_map.1 hs
  exact BI hp (Hq hq)),List.nil_append]
 have e:∀ y':Int,((cY (vl (cov b) y')).map (mkV y')).flatMap (inter (mkV y p))=if y'=y then (meets (cY (vl (cov b) y)) p).map (mkV y) else []:=fun y'=>by
  rw [List.flatMap_map]
  by_cases h:y'=y
  ·subst h
   rw [if_pos rfl,Ml]
   exact sV _ fun q _=>by rw [Si hp,if_pos rfl]
  ·rw [if_neg h]
   exact yU _ fun q _=>by rw [Si hp,if_neg h]
 simp only [e]
 rw [Ry gxb.1]
 by_cases h:y ∈ xb
 ·rw [if_pos h]
 ·rw [if_neg h,Bb (DU gxb h)];rfl
include gxa gya gxb gyb ha hb
theorem Rq (hd:Dj (cov a) (cov b)) (hx:xs.Pairwise fun x y=>x<y) (hy:ys.Pairwise fun x y=>x<y) (sx:∀ x ∈ xa,x ∈ xs) (sy:∀ y ∈ ya,y ∈ ys) :
  (uY (cov a) xa ya).flatMap (fun s=>(uY (cov b) xb yb).flatMap (inter s))=Ty (cov a) (cov b) xs ys:=by
 have eH:∀ y,((cY (hl (cov a) y)).map (mkH y)).flatMap (fun s=>(uY (cov b) xb yb).flatMap (inter s))=(cY (cH (cov a) (cov b) y)).map (mkH y):=fun y=>by
  rw [List.flatMap_map,kI (Wy hd (Cy ha y) (Cy hb y)),List.map_flatMap]
  exact sV _ fun p hp=>FC gyb (Hq hp)
 have eV:∀ y,((cY (vl (cov a) y)).map (mkV y)).flatMap (fun s=>(uY (cov b) xb yb).flatMap (inter s))=(cY (cV (cov a) (cov b) y)).map (mkV y):=fun y=>by
  rw [List.flatMap_map,kI (Wz hd (Cz ha y) (Cz hb y)),List.map_flatMap]
  exact sV _ fun p hp=>FD gxb (Hq hp)
 have e0:uY (cov a) xa ya=ya.flatMap (fun y=>(cY (hl (cov a) y)).map (mkH y))++xa.flatMap fun x=>(cY (vl (cov a) x)).map (mkV x):=rfl
 rw [e0,List.flatMap_append,nQ,nQ]
 simp only [eH,eV]
 unfold Ty
 rw [Rz gya.1 hy sy (fun y q=>by
  rw [Bb (s:=cH (cov a) (cov b) y) (fun z=>by unfold cH;rw [BF gya q z];simp)];rfl),Rz gxa.1 hx sx (fun y q=>by
  rw [Bb (s:=cV (cov a) (cov b) y) (fun z=>by unfold cV;rw [DU gxa q z];simp)];rfl)]
end
theorem AB {a b:List aK} {xa ya xb yb xs ys:List Int} (ha:Has xa ya a) (hb:Has xb yb b) (hd:Dj (cov a) (cov b)):Ty (cov b) (cov a) xs ys=Ty (cov a) (cov b) xs ys:=by
 unfold Ty
 have eH:∀ y,cY (cH (cov b) (cov a) y)=cY (cH (cov a) (cov b) y):=fun y=>by
  have h:=Wy hd (Cy ha y) (Cy hb y)
  rw [kI h,kI (Tb (EJ hd y) h)]
 have eV:∀ y,cY (cV (cov b) (cov a) y)=cY (cV (cov a) (cov b) y):=fun y=>by
  have h:=Wz hd (Cz ha y) (Cz hb y)
  rw [kI h,kI (Tb (EK hd y) h)]
 simp only [eH,eV]
theorem Pm {A B:Int→Option Int} {xs:List Int} (h:Al A B xs) {i j:Int} (hij:i≠j) {c:Int→Int}
  (h1:∀ z,c z=1↔A z=some i∧B z=some j) (h2:∀ z,c z=-1↔A z=some j∧B z=some i) (h3:∀ z,c z≠0→c z=1∨c z=-1) {L:List (Int×Int)} (hL:eK (fun z=>cod (A z) (B z)) L) :
  eK c (L.filter fun p=>decide ((A p.1=some i∧B p.1=some j)∨(A p.1=some j∧B p.1=some i))):=by
 have n0:∀ z,cod (A z) (B z)=0↔A z=B z:=fun z=>h.s0 z
 have hP:∀ z,c z≠0↔(A z=some i∧B z=some j)∨(A z=some j∧B z=some i):=fun z=>by
  rw [← h1,← h2]
  exact ⟨h3 z,fun q=>by omega⟩
 have hne:∀ z,c z≠0→cod (A z) (B z)≠0:=fun z hz q=>by
  rw [n0] at q
  rcases (hP z).1 hz with r | r
  ·rw [r.1,r.2] at q;injection q with q;exact hij q
  ·rw [r.1,r.2] at q;injection q with q;exact hij q.symm
 refine Ta (s:=fun z=>cod (A z) (B z)) (c:=c) hL (fun z=>decide ((A z=some i∧B z=some j)∨(A z=some j∧B z=some i))) (fun z=>?_) (fun z w hz=>?_)
 ·simp only [decide_eq_true_eq]
  exact ⟨fun hz=>⟨hne z hz,(hP z).1 hz⟩,fun q=>(hP z).2 q.2⟩
 ·constructor
  ·intro e
   have key:A w=A z∧B w=B z:=by
    rcases h3 z hz with q | q
    ·have a1:=(h1 z).1 q
     have a2:=(h1 w).1 (e.trans q)
     exact ⟨a2.1.trans a1.1.symm,a2.2.trans a1.2.symm⟩
    ·have a1:=(h2 z).1 q
     have a2:=(h2 w).1 (e.trans q)
     exact ⟨a2.1.trans a1.1.symm,a2.2.trans a1.2.symm⟩
   simp only [key.1,key.2]
  ·intro e
   obtain ⟨k1,k2⟩:=h.inj (hne z hz) e.symm
   rcases h3 z hz with q | q
   ·have a1:=(h1 z).1 q
    rw [q];exact (h1 w).2 ⟨k1.symm.trans a1.1,k2.symm.trans a1.2⟩
   ·have a1:=(h2 z).1 q
    rw [q];exact (h2 w).2 ⟨k1.symm.trans a1.1,k2.symm.trans a1.2⟩
theorem Hx {p q:Int→Int→Bool} {lb:Int→Int→Option Int} {i j:Int} (hij:i≠j) (hp:∀ x y,p x y=true↔lb x y=some i) (hq:∀ x y,q x y=true↔lb x y=some j) (a b c d:Int) :
  ((if one (p a b)-one (p c d)≠0∧one (q a b)-one (q c d)≠0 then one (p a b)-one (p c d) else 0)=1↔lb a b=some i∧lb c d=some j) ∧
  ((if one (p a b)-one (p c d)≠0∧one (q a b)-one (q c d)≠0 then one (p a b)-one (p c d) else 0)=-1↔lb a b=some j∧lb c d=some i) ∧
  ((if one (p a b)-one (p c d)≠0∧one (q a b)-one (q c d)≠0 then one (p a b)-one (p c d) else 0)≠0→(if one (p a b)-one (p c d)≠0∧one (q a b)-one (q c d)≠0 then one (p a b)-one (p c d) else 0)=1∨(if one (p a b)-one (p c d)≠0∧one (q a b)-one (q c d)≠0 then one (p a b)-one (p c d) else 0)=-1):=by
 rw [← hp a b,← hq c d,← hq a b,← hp c d]
 have d1:¬ (p a b=true∧q a b=true):=fun r=>by
  have h1:=(hp a b).1 r.1;have h2:=(hq a b).1 r.2
  rw [h1] at h2;injection h2 with h2;exact hij h2
 have d2:¬ (p c d=true∧q c d=true):=fun r=>by
  have h1:=(hp c d).1 r.1;have h2:=(hq c d).1 r.2
  rw [h1] at h2;injection h2 with h2;exact hij h2
 cases e1:p a b <;> cases e2:q a b <;> cases e3:p c d <;> cases e4:q c d <;> simp [e1,e2,e3,e4,one] at *
section
variable {R:List (List aK)} {xs ys:List Int} (h:Lay R xs ys) {i j:Int} (hij:i≠j) {p q:Int→Int→Bool} (hp:∀ x y,p x y=true↔jE R x y=some i) (hq:∀ x y,q x y=true↔jE R x y=some j)
include h hij hp hq
theorem HN (y:Int) {L:List (Int×Int)} (hL:eK (hS R y) L):cY (cH p q y)=L.filter fun r=>decide ((jE R r.1 y=some i∧jE R r.1 (y-1)=some j)∨(jE R r.1 y=some j∧jE R r.1 (y-1)=some i)):=
 kI (Pm (DZ h y) hij (c:=cH p q y) (fun z=>(Hx hij hp hq z y z (y-1)).1) (fun z=>(Hx hij hp hq z y z (y-1)).2.1) (fun z=>(Hx hij hp hq z y z (y-1)).2.2) hL)
theorem HQ (x:Int) {L:List (Int×Int)} (hL:eK (vS R x) L):cY (cV p q x)=L.filter fun r=>decide ((jE R x r.1=some i∧jE R (x-1) r.1=some j)∨(jE R x r.1=some j∧jE R (x-1) r.1=some i)):=
 kI (Pm (EA h x) hij (c:=cV p q x) (fun z=>(Hx hij hp hq x z (x-1) z).1) (fun z=>(Hx hij hp hq x z (x-1) z).2.1) (fun z=>(Hx hij hp hq x z (x-1) z).2.2) hL)
end
theorem Mh (a b:List aK) (x y:Int):jE [a,b] x y=if cov a x y=true then some 0 else if cov b x y=true then some 1 else none:=by
 unfold jE Fw rZ
 rw [List.findIdx?_cons,List.findIdx?_cons,List.findIdx?_nil]
 cases cov a x y <;> cases cov b x y <;> rfl
theorem Re {A B:Int→Option Int} {xs:List Int} (h:Al A B xs):Cc (fun z=>cod (A z) (B z)) xs:=
 ⟨tL (fun p:Option Int×Option Int=>cod p.1 p.2) (g:=fun z=>(A z,B z)) h.st,h.len,fun x0 h0 z hz=>by
  obtain ⟨e1,e2⟩:=h.low x0 h0 z hz
  simp only [e1,e2];rfl,fun x0 h0 z hz=>by
  obtain ⟨e1,e2⟩:=h.high x0 h0 z hz
  simp only [e1,e2];rfl,fun h0 z=>by
  obtain ⟨e1,e2⟩:=h.emp h0 z
  simp only [e1,e2];rfl⟩
theorem Pc {a:Option Int} (h:SmO a):nm a ≥ 0↔∃ i,a=some i:=by
 cases a with
 | none=>simp [nm]
 | some i=>have:=h i rfl;simp only [nm];exact ⟨fun _=>⟨i,rfl⟩,fun _=>this.1⟩
theorem HA (a b:List aK) (x y:Int):cov a x y=true↔jE [a,b] x y=some 0:=by
 rw [Mh]
 cases h1:cov a x y <;> cases h2:cov b x y <;> simp
theorem HB {a b:List aK} (hd:Dj (cov a) (cov b)) (x y:Int):cov b x y=true↔jE [a,b] x y=some 1:=by
 rw [Mh]
 have:=hd x y
 cases h1:cov a x y <;> cases h2:cov b x y <;> simp_all
theorem Hw (a b:List aK) (x y:Int) {i:Int} (e:jE [a,b] x y=some i):i=0∨i=1:=by
 rw [Mh] at e
 split at e
 ·injection e with e;exact .inl e.symm
 ·split at e
  ·injection e with e;exact .inr e.symm
  ·cases e
section
variable {a b:List aK} {xs ys:List Int} (h:Lay [a,b] xs ys) (hd:Dj (cov a) (cov b))
include h hd
theorem CI:((Mj [a,b] xs ys).filter fun q=>decide (q.Low ≥ 0)&&decide (q.kZ ≥ 0)).map (fun q=>q.At)=Ty (cov a) (cov b) xs ys:=by
 have sm:∀ x y,SmO (jE [a,b] x y):=fun x y=>Gx h.m x y
 have key:∀ {u v:Option Int},SmO u→SmO v→(∀ i,u=some i→i=0∨i=1)→(∀ i,v=some i→i=0∨i=1)→u≠v →
   (decide (nm v ≥ 0)&&decide (nm u ≥ 0))=decide ((u=some 0∧v=some 1)∨(u=some 1∧v=some 0)):=fun {u v} hu hv h1 h2 hne=>by
  rw [Bool.eq_iff_iff,Bool.and_eq_true,decide_eq_true_eq,decide_eq_true_eq,decide_eq_true_eq,Pc hu,Pc hv]
  constructor
  ·rintro ⟨⟨i,hi⟩,⟨j,hj⟩⟩
   subst hi hj
   rcases h1 j rfl with rfl | rfl <;> rcases h2 i rfl with rfl | rfl <;> simp at hne ⊢
  ·rintro (⟨rfl,rfl⟩ | ⟨rfl,rfl⟩)
   ·exact ⟨⟨1,rfl⟩,0,rfl⟩
   ·exact ⟨⟨0,rfl⟩,1,rfl⟩
 unfold Mj Ty
 rw [List.filter_append,List.map_append,List.filter_flatMap,List.filter_flatMap,List.map_flatMap,List.map_flatMap]
 congr 1
 ·refine sV _ fun y _=>?_
  have hr:=sR (Re (DZ h y))
  rw [List.filter_map,List.map_map,HN h (by decide:(0:Int)≠1) (HA a b) (HB hd) y (L:=cY (hS [a,b] y)) hr]
  refine congrArg (List.map _) (List.filter_congr fun p hp=>?_)
  have hrun:=(hr.2 p.1 p.2).1 hp
  refine key (sm _ _) (sm _ _) (fun i=>Hw a b _ _) (fun i=>Hw a b _ _) fun e=>hrun.2.1 ?_
  exact ((DZ h y).s0 p.1).2 e
 ·refine sV _ fun x _=>?_
  have hr:=sR (Re (EA h x))
  rw [List.filter_map,List.map_map,HQ h (by decide:(0:Int)≠1) (HA a b) (HB hd) x (L:=cY (vS [a,b] x)) hr]
  refine congrArg (List.map _) (List.filter_congr fun p hp=>?_)
  have hrun:=(hr.2 p.1 p.2).1 hp
  refine key (sm _ _) (sm _ _) (fun i=>Hw a b _ _) (fun i=>Hw a b _ _) fun e=>hrun.2.1 ?_
  exact ((EA h x).s0 p.1).2 e
end
theorem Lu {α β:Type} (l:List α) (f:α→List β) (n:Nat) (h:∀ x ∈ l,(f x).length≤n):(l.flatMap f).length≤l.length*n:=by
 induction l with
 | nil=>simp
 | cons x t ih =>
   rw [List.flatMap_cons,List.length_append,List.length_cons]
   have h1:=ih fun y hy=>h y (List.mem_cons_of_mem _ hy)
   have h2:=h x List.mem_cons_self
   have:(t.length+1)*n=t.length*n+n:=by rw [Nat.succ_mul]
   omega
theorem Ol {s:Int→Int} {xs:List Int} (h:Cc s xs):(cY s).length≤xs.length:=by
 obtain ⟨L,_,h2,h3⟩:=Vz h (side:=fun i=>(xs[i.toNat]?).map s) (fun i x hx _=>by simp [hx]) (found:=fun a b l=>some (l++[mkH 0 (a,b)])) (mk:=mkH 0) (fun a b l _=>rfl) (out0:=[]) (by simp)
 rw [kI h2];exact h3
theorem Sn {l:List aK} {xs ys:List Int} (h:Has xs ys l) (hx:xs.length≤96) (hy:ys.length≤96):(uY (cov l) xs ys).length≤18432:=by
 unfold uY
 rw [List.length_append]
 have h1:=Lu ys (fun y=>(cY (hl (cov l) y)).map (mkH y)) 96 fun y _=>by
  rw [List.length_map];exact Nat.le_trans (Ol (Cy h y)) hx
 have h2:=Lu xs (fun x=>(cY (vl (cov l) x)).map (mkV x)) 96 fun x _=>by
  rw [List.length_map];exact Nat.le_trans (Ol (Cz h x)) hy
 omega
theorem BJ (s t:aI):(inter s t).length≤1:=by unfold inter;split <;> simp
theorem EI (a b:Int):(a==b)=decide (a=b):=by by_cases h:a=b <;> simp [h]
theorem II (E F G H:Prop) [Decidable E] [Decidable F] [Decidable G] [Decidable H]:(if decide E=true then (if decide F=true then (if decide G=true then some (decide H) else some false) else some false) else some false)=some (decide (E∧F∧G∧H)):=by
 by_cases e:E <;> by_cases f:F <;> by_cases g:G <;> simp [e,f,g]
theorem IJ (A B C D E F G H:Prop) [Decidable A] [Decidable B] [Decidable C] [Decidable D] [Decidable E] [Decidable F] [Decidable G] [Decidable H] :
  (if decide A=true then (if decide B=true then (if decide C=true then (if decide D=true then some true else (if decide E=true then (if decide F=true then (if decide G=true then some (decide H) else some false) else some false) else some false)) else (if decide E=true then (if decide F=true then (if decide G=true then some (decide H) else some false) else some false) else some false)) else (if decide E=true then (if decide F=true then (if decide G=true then some (decide H) else some false) else some false) else some false)) else (if decide E=true then (if decide F=true then (if decide G=true then some (decide H) else some false) else some false) else some false)) =
   some (decide ((A∧B∧C∧D)∨(E∧F∧G∧H))):=by
 simp only [II]
 by_cases a:A <;> by_cases b:B <;> by_cases c:C <;> by_cases d:D <;> simp [a,b,c,d]
theorem Xs (r:List aI×Int) (s:aI) (hr:r.1.length≤18432) (out0:List aI) (h0:out0.length≤400000000):aM (oW r s) (0,out0)=some (out0++r.1.flatMap (inter s)):=by
 obtain ⟨a,q1,q2,q3⟩:=jJ r.1 (fun k (o:List aI)=>((k:Int),o)) (oW r s) (fun o=>o) (fun k o=>o=out0++(r.1.take k).flatMap (inter s)∧o.length≤out0.length+k) out0 (by simp)
  (fun k t o ht hI=>by
   have hk:=aT ht
   have hd:decide ((k:Int)<(r.1.length:Int))=true:=by simp [hk]
   unfold oW sA
   simp only [hd,if_true,bD ht,Option.bind_some,bA k (by omega)]
   have hc:(if (s.Y1==s.Y2) then (if (t.Y1==t.Y2) then (if (s.Y1==t.Y1) then (if (decide ((imax s.X1 t.X1)<(rA s.X2 t.X2))) then (some true) else (if (s.X1==s.X2) then (if (t.X1==t.X2) then (if (s.X1==t.X1) then (some (decide ((imax s.Y1 t.Y1)<(rA s.Y2 t.Y2)))) else (some false)) else (some false)) else (some false))) else (if (s.X1==s.X2) then (if (t.X1==t.X2) then (if (s.X1==t.X1) then (some (decide ((imax s.Y1 t.Y1)<(rA s.Y2 t.Y2)))) else (some false)) else (some false)) else (some false))) else (if (s.X1==s.X2) then (if (t.X1==t.X2) then (if (s.X1==t.X1) then (some (decide ((imax s.Y1 t.Y1)<(rA s.Y2 t.Y2)))) else (some false)) else (some false)) else (some false))) else (if (s.X1==s.X2) then (if (t.X1==t.X2) then (if (s.X1==t.X1) then (some (decide ((imax s.Y1 t.Y1)<(rA s.Y2 t.Y2)))) else (some false)) else (some false)) else (some false))) =
     some (decide ((s.Y1=s.Y2∧t.Y1=t.Y2∧s.Y1=t.Y1∧max s.X1 t.X1<min s.X2 t.X2)∨(s.X1=s.X2∧t.X1=t.X2∧s.X1=t.X1∧max s.Y1 t.Y1<min s.Y2 t.Y2))):=by
    simp only [Ks,Qb,EI]
    exact IJ _ _ _ _ _ _ _ _
   rw [hc,Option.bind_some]
   obtain ⟨i1,i2⟩:=hI
   by_cases hq:(s.Y1=s.Y2∧t.Y1=t.Y2∧s.Y1=t.Y1∧max s.X1 t.X1<min s.X2 t.X2)∨(s.X1=s.X2∧t.X1=t.X2∧s.X1=t.X1∧max s.Y1 t.Y1<min s.Y2 t.Y2)
   ·simp only [hq,decide_true,if_true]
    rw [uK (by simp [LIM];omega)]
    refine ⟨_,rfl, ?_,by simp;omega⟩
    rw [gA ht,List.flatMap_append,i1,List.flatMap_cons,List.flatMap_nil,List.append_nil]
    unfold inter
    rw [if_pos hq,Ks,Ks,Qb,Qb,List.append_assoc]
   ·simp only [hq,decide_false,Bool.false_eq_true,if_false]
    refine ⟨_,rfl, ?_,by omega⟩
    rw [gA ht,List.flatMap_append,i1,List.flatMap_cons,List.flatMap_nil,List.append_nil]
    unfold inter
    rw [if_neg hq,List.append_nil]) (fun o _=>by simp [oW])
 rw [List.take_length] at q2
 rw [show ((0:Int),out0)=(((0:Nat):Int),out0) from rfl,q1,q2]
theorem Ou (r r':List aI×Int) (hr:r.1.length≤18432) (hr':r'.1.length≤18432):aM (oX r r') (0,[])=some (r.1.flatMap fun s=>r'.1.flatMap (inter s))∧(r.1.flatMap fun s=>r'.1.flatMap (inter s)).length≤400000000:=by
 have hin:∀ s:aI,(r'.1.flatMap (inter s)).length≤18432:=fun s=>by
  have:=Lu r'.1 (inter s) 1 fun t _=>BJ s t
  omega
 obtain ⟨a,q1,q2,q3⟩:=jJ r.1 (fun k (o:List aI)=>((k:Int),o)) (oX r r') (fun o=>o) (fun k o=>o=(r.1.take k).flatMap (fun s=>r'.1.flatMap (inter s))∧o.length≤k*18432) [] (by simp)
  (fun k s o hs hI=>by
   have hk:=aT hs
   have hd:decide ((k:Int)<(r.1.length:Int))=true:=by simp [hk]
   obtain ⟨i1,i2⟩:=hI
   have:=hin s
   unfold oX
   simp only [hd,if_true,bD hs,Option.bind_some,Xs r' s hr' o (by omega),bA k (by omega)]
   refine ⟨_,rfl, ?_,by rw [List.length_append];omega⟩
   rw [gA hs,List.flatMap_append,← i1]
   simp) (fun o _=>by simp [oX])
 rw [List.take_length] at q2
 subst q2
 refine ⟨?_,by omega⟩
 rw [show ((0:Int),([]:List aI))=(((0:Nat):Int),[]) from rfl,q1]
theorem Yr (l:List aL) (hl:l.length≤2000000):aM (dM l) (0,[])=some ((l.filter fun q=>decide (q.Low ≥ 0)&&decide (q.kZ ≥ 0)).map fun q=>q.At):=by
 obtain ⟨a,q1,q2,q3⟩:=jJ l (fun k (o:List aI)=>((k:Int),o)) (dM l) (fun o=>o) (fun k o=>o=((l.take k).filter fun q=>decide (q.Low ≥ 0)&&decide (q.kZ ≥ 0)).map (fun q=>q.At)∧o.length≤k) [] (by simp)
  (fun k s o hs hI=>by
   have hk:=aT hs
   have hd:decide ((k:Int)<(l.length:Int))=true:=by simp [hk]
   obtain ⟨i1,i2⟩:=hI
   unfold dM gT
   have hc:(if decide (s.Low ≥ 0)=true then some (decide (s.kZ ≥ 0)) else some false)=some (decide (s.Low ≥ 0)&&decide (s.kZ ≥ 0)):=by
    cases decide (s.Low ≥ 0) <;> rfl
   simp only [hd,if_true,bD hs,Option.bind_some,hc,bA k (by omega)]
   rw [gA hs,List.filter_append,List.map_append,← i1]
   cases hq:(decide (s.Low ≥ 0)&&decide (s.kZ ≥ 0)) with
   | true =>
     simp only [if_true]
     rw [uK (by simp [LIM];omega)]
     refine ⟨_,rfl, ?_,by simp;omega⟩
     simp [List.filter_cons,hq]
   | false =>
     simp only [Bool.false_eq_true,if_false]
     refine ⟨_,rfl, ?_,by omega⟩
     simp [List.filter_cons,hq]) (fun o _=>by simp [dM])
 rw [List.take_length] at q2
 rw [show ((0:Int),([]:List aI))=(((0:Nat):Int),[]) from rfl,q1,q2]
theorem CS {a b:List aK} (ha:a.length≤1000) (hb:b.length≤1000):aM (fA a b) 0=some (if (a.any fun x=>b.any (oH x)) then .inl () else .inr ()):=by
 refine vF a (fA a b) (fun k=>(k:Int)) _ _ _ rfl (fun k x hx=>?_) ?_
 ·have hk:=(List.getElem?_eq_some_iff.1 hx).1
  unfold fA
  have h1:decide ((k:Int)<(a.length:Int))=true:=by simp;omega
  simp only [h1,if_true,bD hx,Option.bind_some,Zm x b hb,bA k (by omega)]
 ·simp [fA]
theorem DB {a:List aI} (ha:a.length≤400000000):dZ a a=some true:=by
 unfold dZ
 have key:aM (cT a a) 0=some (.inr ()):=by
  have:=vF a (cT a a) (fun k=>(k:Int)) (fun _=>false) (.inr ()) (.inl ()) rfl (fun k x hx=>?_) ?_
  ·refine this.trans ?_;simp
  ·have hk:=(List.getElem?_eq_some_iff.1 hx).1
   unfold cT
   have h1:decide ((k:Int)<(a.length:Int))=true:=by simp;omega
   simp only [h1,if_true,bD hx,Option.bind_some,beq_self_eq_true,Bool.and_self,Bool.not_true,Bool.false_eq_true,if_false,bA k (by omega)]
  ·simp [cT]
 rw [key];simp
theorem Qy {l:List aK} (h:mN [l]≠0):lE l=some ([],mN [l]):=by
 unfold lE
 rw [Sy (by simp),Option.bind_some]
 simp [h]
theorem Rp (l:List aK):mN [l]=if l.length>48 then 4 else if uO l=true then 0 else 1:=by
 unfold mN
 simp only [List.any_cons,List.any_nil,Bool.or_false,List.all_cons,List.all_nil,Bool.and_true,decide_eq_true_eq]
theorem Az (l:List aK) (hl:l.length≤48):eZ l=some (uO l):=by
 rw [Xh l (by omega)]
 congr 1
 unfold uO
 rw [List.all_eq_not_any_not]
theorem IK {a b:List aK} (va:Eo a) (vb:Eo b) (h:(a.any fun x=>b.any (oH x))=false):Dj (cov a) (cov b):=fun x y h1 h2=>by
 obtain ⟨r,hr,h1⟩:=Dc.1 h1
 obtain ⟨s,hs,h2⟩:=Dc.1 h2
 have:(a.any fun x=>b.any (oH x))=true:=List.any_eq_true.2 ⟨r,hr,List.any_eq_true.2 ⟨s,hs,decide_eq_true ((CE (va r hr) (vb s hs)).2 ⟨x,y,h1,h2⟩)⟩⟩
 rw [this] at h;cases h
theorem FJ (a b:List aK):(b.any fun x=>a.any (oH x))=a.any fun x=>b.any (oH x):=by
 rw [Bool.eq_iff_iff]
 simp only [List.any_eq_true]
 have e:∀ x y,oH x y=oH y x:=fun x y=>by unfold oH;exact decide_eq_decide.2 (CD x y)
 constructor
 ·rintro ⟨x,hx,y,hy,h⟩;exact ⟨y,hy,x,hx,by rw [e];exact h⟩
 ·rintro ⟨x,hx,y,hy,h⟩;exact ⟨y,hy,x,hx,by rw [e];exact h⟩
theorem Jf {a b:List aK} (h:¬ (mN [a]=0∧mN [b]=0)):iU a b=some ([],if mN [a]=4∨mN [b]=4 then 4 else 1):=by
 have key:∀ l:List aK,∃ L,lE l=some (L,mN [l]):=fun l=>by
  by_cases hc:mN [l]=0
  ·obtain ⟨xs,ys,o1,_⟩:=Ep hc;exact ⟨_,by rw [hc];exact o1⟩
  ·exact ⟨_,Qy hc⟩
 obtain ⟨A,ha⟩:=key a
 obtain ⟨B,hb⟩:=key b
 unfold iU
 simp only [ha,hb,Option.bind_some]
 by_cases h1:mN [a]=4
 ·simp [h1]
 ·by_cases h2:mN [b]=4
  ·simp [h1,h2]
  ·by_cases h3:mN [a]=0
   ·have h4:mN [b]≠0:=fun q=>h ⟨h3,q⟩
    simp [h3,h2,h4]
   ·simp [h1,h2,h3]
theorem Qx (a b:List aK):∃ L e,iU a b=some (L,e)∧eY a b=some (L,e)∧iU b a=some (L,e)∧L.length≤400000000:=by
 by_cases hc:mN [a]=0∧mN [b]=0
 case neg =>
  refine ⟨[],_,Jf hc, ?_, ?_,by simp⟩
  ·have va:=Rp a
   have vb:=Rp b
   unfold eY
   by_cases l1:a.length>48
   ·rw [if_pos l1] at va
    have:(a.length:Int)>48:=by omega
    simp [this,va]
   by_cases l2:b.length>48
   ·rw [if_pos l2] at vb
    have:(b.length:Int)>48:=by omega
    simp [this,vb]
   rw [if_neg l1] at va
   rw [if_neg l2] at vb
   have k1:¬ (a.length:Int)>48:=by omega
   have k2:¬ (b.length:Int)>48:=by omega
   simp only [k1,k2,decide_false,Bool.false_eq_true,if_false,Option.bind_some,Az a (by omega),Az b (by omega)]
   cases v1:uO a with
   | false =>
     rw [v1] at va
     have n1:¬ (mN [a]=4∨mN [b]=4):=by
      rw [va,vb];cases uO b <;> simp
     rw [if_neg n1];simp
   | true =>
     rw [v1] at va
     cases v2:uO b with
     | true=>rw [v2] at vb;exact absurd ⟨by rw [va];rfl,by rw [vb];rfl⟩ hc
     | false =>
       rw [v2] at vb
       have n1:¬ (mN [a]=4∨mN [b]=4):=by rw [va,vb];simp
       rw [if_neg n1];simp
  ·rw [Jf fun q=>hc ⟨q.2,q.1⟩]
   congr 2
   by_cases h1:mN [a]=4 <;> by_cases h2:mN [b]=4 <;> simp [h1,h2]
 obtain ⟨ca,cb⟩:=hc
 obtain ⟨la,va⟩:=Lk ca
 obtain ⟨lb,vb⟩:=Lk cb
 obtain ⟨xa,ya,oa,gxa,gya,_⟩:=Ep ca
 obtain ⟨xb,yb,ob,gxb,gyb,_⟩:=Ep cb
 have ha:=Mb va (by omega) gxa gya fun r hr=>hr
 have hb:=Mb vb (by omega) gxb gyb fun r hr=>hr
 have len:∀ {g:List Int} {l:List aK},(iO g (xsL l)∨iO g (ysL l))→l.length≤48→g.length≤96:=fun {g l} hg hl=>by
  rcases hg with hg | hg
  ·have:=qT hg.1 fun x m=>(hg.2 x).1 m
   rw [Lc] at this;omega
  ·have:=qT hg.1 fun x m=>(hg.2 x).1 m
   rw [Ld] at this;omega
 have na:=Sn ha (len (.inl gxa) la) (len (.inr gya) la)
 have nb:=Sn hb (len (.inl gxb) lb) (len (.inr gyb) lb)
 obtain ⟨c1,c2⟩:=Ou (uY (cov a) xa ya,0) (uY (cov b) xb yb,0) na nb
 obtain ⟨c3,c4⟩:=Ou (uY (cov b) xb yb,0) (uY (cov a) xa ya,0) nb na
 have pa:iU a b=if (a.any fun x=>b.any (oH x)) then some ([],7) else some ((uY (cov a) xa ya).flatMap fun s=>(uY (cov b) xb yb).flatMap (inter s),0):=by
  unfold iU
  simp only [oa,ob,Option.bind_some,Ji (show a.length≤1000 by omega) (show b.length≤1000 by omega),c1]
  rfl
 have pb:iU b a=if (a.any fun x=>b.any (oH x)) then some ([],7) else some ((uY (cov b) xb yb).flatMap fun s=>(uY (cov a) xa ya).flatMap (inter s),0):=by
  unfold iU
  simp only [oa,ob,Option.bind_some,Ji (show b.length≤1000 by omega) (show a.length≤1000 by omega),c3,FJ a b]
  rfl
 have k1:¬ (a.length:Int)>48:=by omega
 have k2:¬ (b.length:Int)>48:=by omega
 have pr:eY a b=if (a.any fun x=>b.any (oH x)) then some ([],7) else (fV [a,b]).bind fun r=>(aM (dM r) (0,[])).bind fun x=>some (x,0):=by
  unfold eY
  simp only [k1,k2,decide_false,Bool.false_eq_true,if_false,Option.bind_some,Az a la,Az b lb,Fm.2 va,Fm.2 vb,if_true,Bool.not_true,CS (show a.length≤1000 by omega) (show b.length≤1000 by omega)]
  cases (a.any fun x=>b.any (oH x)) <;> rfl
 rw [pa,pb,pr]
 cases ho:(a.any fun x=>b.any (oH x)) with
 | true=>exact ⟨[],7,by simp,by simp,by simp,by simp⟩
 | false =>
   have hd:=IK va vb ho
   have hv:Eo [a,b].flatten:=fun r hr=>by
    simp at hr
    rcases hr with hr | hr
    ·exact va r hr
    ·exact vb r hr
   have hn:[a,b].flatten.length≤400:=by simp;omega
   obtain ⟨xs,ys,_,g2,g3⟩:=Vj hv hn
   have hL:Lay [a,b] xs ys:=⟨g2,g3,hv,hn,by simp⟩
   obtain ⟨b1,b2⟩:=Tm hL (fun t ht=>by
    simp at ht
    rcases ht with rfl | rfl <;> omega)
   have sub:∀ r,r ∈ a∨r ∈ b→r ∈ [a,b].flatten:=fun r hr=>by simpa using hr
   have sxa:∀ x ∈ xa,x ∈ xs:=fun x hx=>by
    obtain ⟨r,hr,hm⟩:=List.mem_flatMap.1 ((gxa.2 x).1 hx)
    exact (g2.2 x).2 (List.mem_flatMap.2 ⟨r,sub r (.inl hr),hm⟩)
   have sya:∀ x ∈ ya,x ∈ ys:=fun x hx=>by
    obtain ⟨r,hr,hm⟩:=List.mem_flatMap.1 ((gya.2 x).1 hx)
    exact (g3.2 x).2 (List.mem_flatMap.2 ⟨r,sub r (.inl hr),hm⟩)
   have sxb:∀ x ∈ xb,x ∈ xs:=fun x hx=>by
    obtain ⟨r,hr,hm⟩:=List.mem_flatMap.1 ((gxb.2 x).1 hx)
    exact (g2.2 x).2 (List.mem_flatMap.2 ⟨r,sub r (.inr hr),hm⟩)
   have syb:∀ x ∈ yb,x ∈ ys:=fun x hx=>by
    obtain ⟨r,hr,hm⟩:=List.mem_flatMap.1 ((gyb.2 x).1 hx)
    exact (g3.2 x).2 (List.mem_flatMap.2 ⟨r,sub r (.inr hr),hm⟩)
   have hd':Dj (cov b) (cov a):=fun x y h1 h2=>hd x y h2 h1
   have e1:=Rq gxa gya gxb gyb ha hb hd g2.1 g3.1 sxa sya
   have e2:=Rq gxb gyb gxa gya hb ha hd' g2.1 g3.1 sxb syb
   rw [AB ha hb hd] at e2
   simp only [Bool.false_eq_true,if_false]
   rw [e1,e2]
   refine ⟨_,_,rfl, ?_,rfl,by rw [← e1];exact c2⟩
   rw [b1,Option.bind_some,Yr _ b2,Option.bind_some,CI hL hd]
theorem Mi (a b:List aK):kK a b=some true:=by
 obtain ⟨L,e,h1,h2,h3,h4⟩:=Qx a b
 unfold kK
 simp only [h1,h2,h3,Option.bind_some,beq_self_eq_true,if_true,DB h4,Yg]
end Go.SM
