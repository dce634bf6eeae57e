/- The partitions of pdqsort, over any comparison. -/
import Derived.Test.YtgfjbgoehhnaeaaGreatSortB
set_option linter.unusedVariables false
set_option linter.unusedSimpArgs false
set_option linter.unusedSectionVars false
namespace Go.SM
open Go Go.VI
theorem Yu {body:Int→Option (Int ⊕ Int)} (c:Int→Bool) {i j:Int} (hij:i≤j+1) (hs:∀ s,i≤s→s≤j→body s=if c s then some (.inl (s+1)) else some (.inr s)) (he:body (j+1)=some (.inr (j+1))) :
    ∃ x,aM body i=some x∧i≤x∧x≤j+1∧(∀ k,i≤k→k<x→c k=true)∧(x≤j→c x=false):=
  nA (fun s:Int=>(j+1-s).toNat) (fun s=>i≤s∧s≤j+1∧∀ k,i≤k→k<s→c k=true) (fun x=>i≤x∧x≤j+1∧(∀ k,i≤k→k<x→c k=true)∧(x≤j→c x=false)) body (by
    rintro s ⟨h1,h2,h3⟩
    by_cases h:s≤j
    · cases hc:c s with
      | true =>
        left
        refine ⟨s+1,by rw [hs s h1 h,hc];rfl,⟨by omega,by omega,fun k k1 k2=>?_⟩,by omega⟩
        by_cases e:k=s
        · subst e;exact hc
        · exact h3 k k1 (by omega)
      | false =>
        right
        exact ⟨s,by rw [hs s h1 h,hc];rfl,h1,h2,h3,fun _=>hc⟩
    · right
      obtain rfl:s=j+1:=by omega
      exact ⟨_,he,h1,h2,h3,fun q=>absurd q (by omega)⟩) i ⟨Int.le_refl _,hij,fun k k1 k2=>absurd k1 (by omega)⟩
theorem Wz {body:Int→Option (Int ⊕ Int)} (c:Int→Bool) {i j:Int} (hij:i≤j+1) (hs:∀ s,i≤s→s≤j→body s=if c s then some (.inl (s-1)) else some (.inr s)) (he:body (i-1)=some (.inr (i-1))) :
    ∃ x,aM body j=some x∧i-1≤x∧x≤j∧(∀ k,x<k→k≤j→c k=true)∧(i≤x→c x=false):=
  nA (fun s:Int=>(s+1-i).toNat) (fun s=>i-1≤s∧s≤j∧∀ k,s<k→k≤j→c k=true) (fun x=>i-1≤x∧x≤j∧(∀ k,x<k→k≤j→c k=true)∧(i≤x→c x=false)) body (by
    rintro s ⟨h1,h2,h3⟩
    by_cases h:i≤s
    · cases hc:c s with
      | true =>
        left
        refine ⟨s-1,by rw [hs s h h2,hc];rfl,⟨by omega,by omega,fun k k1 k2=>?_⟩,by omega⟩
        by_cases e:k=s
        · subst e;exact hc
        · exact h3 k (by omega) k2
      | false =>
        right
        exact ⟨s,by rw [hs s h h2,hc];rfl,h1,h2,h3,fun _=>hc⟩
    · right
      obtain rfl:s=i-1:=by omega
      exact ⟨_,he,h1,h2,h3,fun q=>absurd q (by omega)⟩) j ⟨by omega,Int.le_refl _,fun k k1 k2=>absurd k1 (by omega)⟩
section
variable {α:Type} {br:Br α} {lt:α→α→Bool} {P:α→Prop} {d:α} (hbr:∀ (β:Type) (x y:α) (k:Bool→Option β),P x→P y→br β x y k=k (lt x y)) (w:Xv lt)
include hbr
theorem BH {a b:Int} {l0:List α} (ha:0≤a) (hab:a<b) (hb:b≤l0.length) (hf0:Fine P d l0) {i0 j0:Int} (h1:a+1≤i0) (h2:j0≤b-1) (h3:i0≤j0+1)
    (hlo:∀ k,a+1≤k→k<i0→lt (gz d l0 k) (gz d l0 a)=true) (hhi:∀ k,j0<k→k<b→lt (gz d l0 k) (gz d l0 a)=false) :
    ∃ r,aM (yL br a) (i0,j0,l0)=some r∧On d (a+1) b l0 r.2∧gz d r.2 a=gz d l0 a∧a≤r.1∧r.1<b∧(∀ k,a+1≤k→k≤r.1→lt (gz d r.2 k) (gz d l0 a)=true)∧(∀ k,r.1<k→k<b→lt (gz d r.2 k) (gz d l0 a)=false):=by
  have hL:=hf0.len
  refine nA (fun s:Int×Int×List α=>(s.2.1+1-s.1).toNat) (fun s:Int×Int×List α=>a+1≤s.1∧s.2.1≤b-1∧s.1≤s.2.1+1∧On d (a+1) b l0 s.2.2∧gz d s.2.2 a=gz d l0 a ∧
      (∀ k,a+1≤k→k<s.1→lt (gz d s.2.2 k) (gz d l0 a)=true)∧(∀ k,s.2.1<k→k<b→lt (gz d s.2.2 k) (gz d l0 a)=false)) _ (yL br a) ?_ (i0,j0,l0) ⟨h1,h2,h3,.refl _,rfl,hlo,hhi⟩
  rintro ⟨i,j,l⟩ ⟨i1,i2,i3,hon,hp,hI,hJ⟩
  simp only at i1 i2 i3 hon hp hI hJ ⊢
  have hf:=hf0.on hon
  have hl:=hon.len
  unfold yL
  obtain ⟨x,x1,x2,x3,x4,x5⟩:=Yu (body:=yI br a (i,j,l)) (fun k=>lt (gz d l k) (gz d l0 a)) i3 (fun s s1 s2=>by
    unfold yI
    simp (disch:=first | omega | (refine hf.all _ ?_ ?_ <;> omega) | (refine hf0.all _ ?_ ?_ <;> omega)) only [s2,decide_true,if_true,jD d,Option.bind_some,hbr,hp,aS]) (by
    unfold yI
    simp only [show ¬ j+1≤j from by omega,decide_false,Bool.false_eq_true,if_false,Option.bind_some])
  obtain ⟨y,y1,y2,y3,y4,y5⟩:=Wz (body:=yJ br a (i,j,l) x) (fun k=>!lt (gz d l k) (gz d l0 a)) x3 (fun s s1 s2=>by
    unfold yJ
    simp (disch:=first | omega | (refine hf.all _ ?_ ?_ <;> omega) | (refine hf0.all _ ?_ ?_ <;> omega)) only [s1,decide_true,if_true,jD d,Option.bind_some,hbr,hp,aY]) (by
    unfold yJ
    simp only [show ¬ x≤x-1 from by omega,decide_false,Bool.false_eq_true,if_false,Option.bind_some])
  simp only [x1,y1,Option.bind_some]
  by_cases hxy:x>y
  · right
    refine ⟨(y,l),by simp only [hxy,decide_true,if_true],hon,hp,by simp only;omega,by simp only;omega,fun k k1 k2=>?_,fun k k1 k2=>?_⟩
    · simp only at k2 ⊢
      by_cases e:k<i
      · exact hI k k1 e
      · exact x4 k (by omega) (by omega)
    · simp only at k1 ⊢
      by_cases e:j<k
      · exact hJ k e k2
      · have:=y4 k (by omega) (by omega)
        simpa using this
  · left
    have hx:=x5 (by omega)
    have hy:=y5 (by omega)
    simp only [Bool.not_eq_eq_eq_not,Bool.not_false] at hy
    have hne:x≠y:=fun e=>by subst e;rw [hx] at hy;cases hy
    refine ⟨(x+1,y-1,sw d l x y), ?_,⟨by simp only;omega,by simp only;omega,by simp only;omega,.step hon x y (by omega) (by omega) (by omega) (by omega) (by omega) (by omega), ?_,fun k k1 k2=>?_,fun k k1 k2=>?_⟩,by simp only;omega⟩
    · simp (disch:=first | omega | (simp only [List.length_set];omega)) only [hxy,decide_false,Bool.false_eq_true,if_false,jD d,Option.bind_some,aS,aY]
      rfl
    · simp only
      rw [sD d (by omega) (by omega) (by omega) (by omega) (by omega),if_neg (by omega),if_neg (by omega)];exact hp
    · simp only at k2 ⊢
      rw [sD d (by omega) (by omega) (by omega) (by omega) (by omega),if_neg (by omega)]
      by_cases e:k=x
      · rw [if_pos e];exact hy
      · rw [if_neg e]
        by_cases e:k<i
        · exact hI k k1 e
        · exact x4 k (by omega) (by omega)
    · simp only at k1 ⊢
      rw [sD d (by omega) (by omega) (by omega) (by omega) (by omega)]
      by_cases e:k=y
      · rw [if_pos e];exact hx
      · rw [if_neg e,if_neg (by omega)]
        by_cases e:j<k
        · exact hJ k e k2
        · have:=y4 k (by omega) (by omega)
          simpa using this
theorem FR {a b pivot:Int} {l0:List α} (ha:0≤a) (hab:a<b) (hb:b≤l0.length) (hf0:Fine P d l0) (hp1:a≤pivot) (hp2:pivot<b) :
    ∃ mid al l',Eh br a b pivot l0=some (mid,al,l')∧On d a b l0 l'∧a≤mid∧mid<b∧(∀ k,a≤k→k<mid→lt (gz d l' k) (gz d l' mid)=true)∧(∀ k,mid<k→k<b→lt (gz d l' k) (gz d l' mid)=false):=by
  have hL:=hf0.len
  have hon1:On d a b l0 (sw d l0 a pivot):=.step (.refl _) _ _ (Int.le_refl _) hab hp1 hp2 ha hb
  obtain ⟨l1,hl1⟩:∃ l1,sw d l0 a pivot=l1:=⟨_,rfl⟩
  have e1:List.set (List.set l0 (Int.toNat a) (gz d l0 pivot)) (Int.toNat pivot) (gz d l0 a)=l1:=hl1
  rw [hl1] at hon1
  have hf:=hf0.on hon1
  have hl:=hon1.len
  have s1:aJ b 1=b-1:=aY (by omega) (by omega)
  have s2:aL a 1=a+1:=aS (by omega) (by omega)
  unfold Eh
  simp (disch:=first | omega | (simp only [List.length_set];omega)) only [jD d (l:=l0),Option.bind_some]
  rw [show idx (l0.set a.toNat (gz d l0 pivot)) pivot=some (gz d (l0.set a.toNat (gz d l0 pivot)) pivot) from jD d (by omega) (by rw [List.length_set];omega),Option.bind_some,e1]
  obtain ⟨x,x1,x2,x3,x4,x5⟩:=Yu (body:=yG br a b pivot l0 (gz d l0 pivot) (gz d l0 a)) (fun k=>lt (gz d l1 k) (gz d l1 a)) (i:=a+1) (j:=b-1) (by omega) (fun s q1 q2=>by
    unfold yG
    simp (disch:=first | omega | (refine hf.all _ ?_ ?_ <;> omega)) only [e1,s1,q2,decide_true,if_true,jD d,Option.bind_some,hbr,aS]) (by
    unfold yG
    simp only [s1,show ¬ b-1+1≤b-1 from by omega,decide_false,Bool.false_eq_true,if_false,Option.bind_some])
  obtain ⟨y,y1,y2,y3,y4,y5⟩:=Wz (body:=yH br a pivot l0 (gz d l0 pivot) (gz d l0 a) x) (fun k=>!lt (gz d l1 k) (gz d l1 a)) (i:=x) (j:=b-1) x3 (fun s q1 q2=>by
    unfold yH
    simp (disch:=first | omega | (refine hf.all _ ?_ ?_ <;> omega)) only [e1,q1,decide_true,if_true,jD d,Option.bind_some,hbr,aY]) (by
    unfold yH
    simp only [show ¬ x≤x-1 from by omega,decide_false,Bool.false_eq_true,if_false,Option.bind_some])
  have fin:∀ (m:Int) (l:List α),On d a b l0 l→a≤m→m<b→gz d l a=gz d l1 a→(∀ k,a+1≤k→k≤m→lt (gz d l k) (gz d l1 a)=true)→(∀ k,m<k→k<b→lt (gz d l k) (gz d l1 a)=false) →
      On d a b l0 (sw d l m a)∧(∀ k,a≤k→k<m→lt (gz d (sw d l m a) k) (gz d (sw d l m a) m)=true)∧(∀ k,m<k→k<b→lt (gz d (sw d l m a) k) (gz d (sw d l m a) m)=false):=by
    intro m l on m1 m2 hq hlo hhi
    have hl:=on.len
    have em:gz d (sw d l m a) m=gz d l1 a:=by
      rw [sD d (by omega) (by omega) (by omega) (by omega) (by omega)]
      by_cases e:m=a
      · rw [if_pos e,e];exact hq
      · rw [if_neg e,if_pos rfl];exact hq
    refine ⟨.step on m a (by omega) (by omega) (by omega) (by omega) ha (by omega),fun k k1 k2=>?_,fun k k1 k2=>?_⟩
    · rw [em,sD d (by omega) (by omega) (by omega) (by omega) (by omega)]
      by_cases e:k=a
      · rw [if_pos e];exact hlo m (by omega) (Int.le_refl _)
      · rw [if_neg e,if_neg (by omega)];exact hlo k (by omega) (by omega)
    · rw [em,sD d (by omega) (by omega) (by omega) (by omega) (by omega),if_neg (by omega),if_neg (by omega)]
      exact hhi k k1 k2
  simp only [s1,s2,x1,y1,Option.bind_some]
  by_cases hxy:x>y
  · obtain ⟨f1,f2,f3⟩:=fin y l1 hon1 (by omega) (by omega) rfl (fun k k1 k2=>x4 k k1 (by omega)) (fun k k1 k2=>by
      have:=y4 k k1 (by omega)
      simpa using this)
    refine ⟨y,true,sw d l1 y a, ?_,f1,by omega,by omega,f2,f3⟩
    simp (disch:=first | omega | (simp only [List.length_set];omega)) only [hxy,decide_true,if_true,jD d,Option.bind_some]
    rfl
  · have hx:=x5 (by omega)
    have hy:=y5 (by omega)
    simp only [Bool.not_eq_eq_eq_not,Bool.not_false] at hy
    have hne:x≠y:=fun e=>by subst e;rw [hx] at hy;cases hy
    have hon2:On d (a+1) b l1 (sw d l1 x y):=.step (.refl _) x y (by omega) (by omega) (by omega) (by omega) (by omega) (by omega)
    have hga:gz d (sw d l1 x y) a=gz d l1 a:=by rw [sD d (by omega) (by omega) (by omega) (by omega) (by omega),if_neg (by omega),if_neg (by omega)]
    have hl2:(sw d l1 x y).length=l1.length:=BU ..
    obtain ⟨r,r1,r2,r3,r4,r5,r6,r7⟩:=BH hbr (i0:=x+1) (j0:=y-1) ha hab (by omega) (hf.on hon2) (by omega) (by omega) (by omega) (fun k k1 k2=>by
        rw [hga,sD d (by omega) (by omega) (by omega) (by omega) (by omega),if_neg (by omega)]
        by_cases e:k=x
        · rw [if_pos e];exact hy
        · rw [if_neg e];exact x4 k k1 (by omega)) (fun k k1 k2=>by
        rw [hga,sD d (by omega) (by omega) (by omega) (by omega) (by omega)]
        by_cases e:k=y
        · rw [if_pos e];exact hx
        · rw [if_neg e,if_neg (by omega)]
          have:=y4 k (by omega) (by omega)
          simpa using this)
    rw [hga] at r3 r6 r7
    have hon3:=(hon2.trans d r2).mono d ha (by omega) (Int.le_refl _) (by omega)
    have hl3:=r2.len
    obtain ⟨f1,f2,f3⟩:=fin r.1 r.2 (hon1.trans d hon3) r4 r5 r3 r6 r7
    have e2:List.set (List.set l1 (Int.toNat x) (gz d l1 y)) (Int.toNat y) (gz d l1 x)=sw d l1 x y:=rfl
    refine ⟨r.1,false,sw d r.2 r.1 a, ?_,f1,r4,r5,f2,f3⟩
    simp (disch:=first | omega | (simp only [List.length_set];omega)) only [hxy,decide_false,Bool.false_eq_true,if_false,jD d,Option.bind_some,aS,aY,e2,r1]
    rfl
theorem Vk {a b pivot:Int} {l0:List α} (ha:0≤a) (hab:a<b) (hb:b≤l0.length) (hf0:Fine P d l0) (hp1:a≤pivot) (hp2:pivot<b) (hirr:∀ x,lt x x=false) :
    ∃ mid l',zZ br a b pivot l0=some (mid,l')∧On d a b l0 l'∧a<mid∧mid≤b∧(∀ k,a≤k→k<mid→lt (gz d l0 pivot) (gz d l' k)=false):=by
  have hL:=hf0.len
  have hon1:On d a b l0 (sw d l0 a pivot):=.step (.refl _) _ _ (Int.le_refl _) hab hp1 hp2 ha hb
  obtain ⟨l1,hl1⟩:∃ l1,sw d l0 a pivot=l1:=⟨_,rfl⟩
  have e1:List.set (List.set l0 (Int.toNat a) (gz d l0 pivot)) (Int.toNat pivot) (gz d l0 a)=l1:=hl1
  have hpa:gz d l1 a=gz d l0 pivot:=by
    rw [← hl1,sD d (by omega) (by omega) (by omega) (by omega) (by omega)]
    by_cases e:a=pivot
    · rw [if_pos e,e]
    · rw [if_neg e,if_pos rfl]
  rw [hl1] at hon1
  have hf1:=hf0.on hon1
  have hl1':=hon1.len
  have s1:aJ b 1=b-1:=aY (by omega) (by omega)
  have s2:aL a 1=a+1:=aS (by omega) (by omega)
  obtain ⟨r,r1,r2,r3,r4,r5⟩:=nA (fun s:Int×Int×List α=>(s.2.1+1-s.1).toNat) (fun s:Int×Int×List α=>a+1≤s.1∧s.2.1≤b-1∧s.1≤s.2.1+1∧On d (a+1) b l1 s.2.2∧gz d s.2.2 a=gz d l1 a ∧
      (∀ k,a+1≤k→k<s.1→lt (gz d l1 a) (gz d s.2.2 k)=false)) (fun r:Int×List α=>On d a b l0 r.2∧a<r.1∧r.1≤b∧(∀ k,a≤k→k<r.1→lt (gz d l0 pivot) (gz d r.2 k)=false)) (wR br a) (by
    rintro ⟨i,j,l⟩ ⟨i1,i2,i3,hon,hp,hI⟩
    simp only at i1 i2 i3 hon hp hI ⊢
    have hf:=hf1.on hon
    have hl:=hon.len
    unfold wR
    obtain ⟨x,x1,x2,x3,x4,x5⟩:=Yu (body:=rX br a (i,j,l)) (fun k=>!lt (gz d l1 a) (gz d l k)) i3 (fun s s1 s2=>by
      unfold rX
      simp (disch:=first | omega | (refine hf.all _ ?_ ?_ <;> omega) | (refine hf1.all _ ?_ ?_ <;> omega)) only [s2,decide_true,if_true,jD d,Option.bind_some,hbr,hp,aS]) (by
      unfold rX
      simp only [show ¬ j+1≤j from by omega,decide_false,Bool.false_eq_true,if_false,Option.bind_some])
    obtain ⟨y,y1,y2,y3,y4,y5⟩:=Wz (body:=rY br a (i,j,l) x) (fun k=>lt (gz d l1 a) (gz d l k)) x3 (fun s s1 s2=>by
      unfold rY
      simp (disch:=first | omega | (refine hf.all _ ?_ ?_ <;> omega) | (refine hf1.all _ ?_ ?_ <;> omega)) only [s1,decide_true,if_true,jD d,Option.bind_some,hbr,hp,aY]) (by
      unfold rY
      simp only [show ¬ x≤x-1 from by omega,decide_false,Bool.false_eq_true,if_false,Option.bind_some])
    simp only [x1,y1,Option.bind_some]
    have below:∀ k,a+1≤k→k<x→lt (gz d l1 a) (gz d l k)=false:=fun k k1 k2=>by
      by_cases e:k<i
      · exact hI k k1 e
      · have:=x4 k (by omega) k2
        simpa using this
    by_cases hxy:x>y
    · right
      refine ⟨(x,l),by simp only [hxy,decide_true,if_true],hon1.trans d (hon.mono d ha (by omega) (Int.le_refl _) (by omega)),by simp only;omega,by simp only;omega,fun k k1 k2=>?_⟩
      simp only at k2 ⊢
      rw [← hpa]
      by_cases e:k=a
      · rw [e,hp];exact hirr _
      · exact below k (by omega) k2
    · left
      have hx:=x5 (by omega)
      have hy:=y5 (by omega)
      simp only [Bool.not_eq_eq_eq_not,Bool.not_false] at hx
      have hne:x≠y:=fun e=>by subst e;rw [hx] at hy;cases hy
      refine ⟨(x+1,y-1,sw d l x y), ?_,⟨by simp only;omega,by simp only;omega,by simp only;omega,.step hon x y (by omega) (by omega) (by omega) (by omega) (by omega) (by omega), ?_,fun k k1 k2=>?_⟩,by simp only;omega⟩
      · simp (disch:=first | omega | (simp only [List.length_set];omega)) only [hxy,decide_false,Bool.false_eq_true,if_false,jD d,Option.bind_some,aS,aY]
        rfl
      · simp only
        rw [sD d (by omega) (by omega) (by omega) (by omega) (by omega),if_neg (by omega),if_neg (by omega)];exact hp
      · simp only at k2 ⊢
        rw [sD d (by omega) (by omega) (by omega) (by omega) (by omega),if_neg (by omega)]
        by_cases e:k=x
        · rw [if_pos e];exact hy
        · rw [if_neg e];exact below k k1 (by omega)) (a+1,b-1,l1) ⟨by simp only;omega,by simp only;omega,by simp only;omega,.refl _,rfl,fun k k1 k2=>absurd k1 (by simp only at k2;omega)⟩
  refine ⟨r.1,r.2, ?_,r2,r3,r4,r5⟩
  unfold zZ
  simp (disch:=first | omega | (simp only [List.length_set];omega)) only [jD d (l:=l0),Option.bind_some]
  rw [show idx (l0.set a.toNat (gz d l0 pivot)) pivot=some (gz d (l0.set a.toNat (gz d l0 pivot)) pivot) from jD d (by omega) (by rw [List.length_set];omega),Option.bind_some,e1]
  simp only [s1,s2,r1,Option.bind_some]
end
end Go.SM
