/- pdqsort, over any comparison. -/
import Derived.Test.YtgfjbgoehhnaeaaGreatSortD
set_option linter.unusedVariables false
set_option linter.unusedSimpArgs false
set_option linter.unusedSectionVars false
namespace Go.SM
open Go Go.VI
section
variable {α:Type} {br:Br α} {lt:α→α→Bool} {P:α→Prop} {d:α} (hbr:∀ (β:Type) (x y:α) (k:Bool→Option β),P x→P y→br β x y k=k (lt x y)) (w:Xv lt)
include hbr
theorem RJ {i b:Int} {l0:List α} (hi:0≤i) (hib:i+1≤b) (hb:b≤l0.length) (hf0:Fine P d l0):∃ l',aM (kX br b) (i+1,l0)=some l'∧On d i b l0 l':=by
  have hL:=hf0.len
  refine nA (fun s:Int×List α=>(b-s.1).toNat) (fun s:Int×List α=>i+1≤s.1∧On d i b l0 s.2) _ (kX br b) ?_ (i+1,l0) ⟨Int.le_refl _,.refl _⟩
  rintro ⟨j,l⟩ ⟨h1,hon⟩
  simp only at h1 hon ⊢
  have hf:=hf0.on hon
  have hl:=hon.len
  unfold kX
  by_cases q:j<b
  · cases hc:lt (gz d l j) (gz d l (j-1)) with
    | true =>
      left
      refine ⟨(j+1,sw d l j (j-1)), ?_,⟨by simp only;omega,.step hon j (j-1) (by omega) (by omega) (by omega) (by omega) hi (by omega)⟩,by simp only;omega⟩
      simp (disch:=first | omega | (simp only [List.length_set];omega) | (refine hf.all _ ?_ ?_ <;> omega)) only [q,decide_true,if_true,aY,aS,jD d,Option.bind_some,hbr,hc,Bool.not_true,Bool.false_eq_true,if_false]
      rfl
    | false =>
      right
      refine ⟨l, ?_,hon⟩
      simp (disch:=first | omega | (refine hf.all _ ?_ ?_ <;> omega)) only [q,decide_true,if_true,aY,jD d,Option.bind_some,hbr,hc,Bool.not_false]
  · right
    exact ⟨l,by simp only [q,decide_false,Bool.false_eq_true,if_false],hon⟩
include w
theorem RI {a b i:Int} {l0:List α} (ha:0≤a) (hi:a<i) (hib:i≤b) (hb:b≤l0.length) (hf0:Fine P d l0) (hpre:0<a→∀ k,a≤k→k<b→lt (gz d l0 k) (gz d l0 (a-1))=false) (h0:Asc d lt a (i-1) l0) :
    ∃ l',aM (kY br) (i-1,l0)=some l'∧On d a i l0 l'∧Asc d lt a i l':=by
  have hL:=hf0.len
  refine nA (fun s:Int×List α=>(s.1-a).toNat) (fun s:Int×List α=>a≤s.1∧s.1≤i-1∧On d a i l0 s.2∧∀ p q:Int,a≤p→p<q→q≤i-1→q≠s.1→lt (gz d s.2 q) (gz d s.2 p)=false)
    (fun l'=>On d a i l0 l'∧Asc d lt a i l') (kY br) ?_ (i-1,l0) ⟨by simp only;omega,Int.le_refl _,.refl _,fun p q h1 h2 h3 h4=>h0 p q h1 h2 (by simp only at h4;omega)⟩
  rintro ⟨j,l⟩ ⟨h1,h2,hon,hI⟩
  simp only at h1 h2 hon hI ⊢
  have hf:=hf0.on hon
  have hl:=hon.len
  have stop:(j=a∨lt (gz d l j) (gz d l (j-1))=false)→Asc d lt a i l:=fun hs p q p1 p2 p3=>by
    by_cases e1:q=j
    · subst e1
      rcases hs with hs | hs
      · omega
      · by_cases e2:p=q-1
        · subst e2;exact hs
        · exact w.le_trans (hI p (q-1) p1 (by omega) (by omega) (by omega)) hs
    · exact hI p q p1 p2 (by omega) e1
  unfold kY
  by_cases hj:j ≥ 1
  · cases hc:lt (gz d l j) (gz d l (j-1)) with
    | false =>
      right
      refine ⟨l, ?_,hon,stop (.inr hc)⟩
      simp (disch:=first | omega | (refine hf.all _ ?_ ?_ <;> omega)) only [hj,decide_true,if_true,aY,jD d,Option.bind_some,hbr,hc,Bool.not_false]
    | true =>
      have hja:a<j:=by
        rcases Int.lt_or_le a j with q | q
        · exact q
        · exfalso
          obtain rfl:j=a:=by omega
          have e:gz d l (j-1)=gz d l0 (j-1):=hon.out d (by omega) (.inl (by omega))
          have:=hon.all d (fun x=>lt x (gz d l0 (j-1))=false) (fun k k1 k2=>hpre (by omega) k k1 (by omega)) j (Int.le_refl _) hi
          rw [e,this] at hc;cases hc
      left
      refine ⟨(j-1,sw d l j (j-1)), ?_,⟨by simp only;omega,by simp only;omega,.step hon j (j-1) (by omega) (by omega) (by omega) (by omega) ha (by omega), ?_⟩,by simp only;omega⟩
      · simp (disch:=first | omega | (simp only [List.length_set];omega) | (refine hf.all _ ?_ ?_ <;> omega)) only [hj,decide_true,if_true,aY,jD d,Option.bind_some,hbr,hc,Bool.not_true,Bool.false_eq_true,if_false]
        rfl
      · simp only
        intro p q p1 p2 p3 p4
        rw [sD d (by omega) (by omega) (by omega) (by omega) (by omega),sD d (by omega) (by omega) (by omega) (by omega) (by omega)]
        rw [if_neg p4]
        by_cases e1:q=j
        · rw [if_pos e1]
          by_cases e2:p=j-1
          · rw [if_pos e2];exact w.asymm _ _ hc
          · rw [if_neg e2,if_neg (by omega)]
            exact hI p (j-1) (by omega) (by omega) (by omega) (by omega)
        · rw [if_neg e1]
          by_cases e2:p=j-1
          · rw [if_pos e2];exact hI j q (by omega) (by omega) p3 e1
          · rw [if_neg e2]
            by_cases e3:p=j
            · rw [if_pos e3];exact hI (j-1) q (by omega) (by omega) p3 e1
            · rw [if_neg e3];exact hI p q p1 p2 p3 e1
  · right
    refine ⟨l,by simp only [hj,decide_false,Bool.false_eq_true,if_false],hon,stop (.inl (by omega))⟩
theorem LY {a b:Int} {l0:List α} (ha:0≤a) (hab:a<b) (hb:b≤l0.length) (hf0:Fine P d l0) (hpre:0<a→∀ k,a≤k→k<b→lt (gz d l0 k) (gz d l0 (a-1))=false) :
    ∃ r l',uK br a b l0=some (r,l')∧On d a b l0 l'∧(r=true→Asc d lt a b l'):=by
  have hL:=hf0.len
  have s1:aJ b a=b-a:=aY (by omega) (by omega)
  have s2:aL a 1=a+1:=aS (by omega) (by omega)
  obtain ⟨r,r1,r2⟩:=nA (fun s:Int×Int×List α=>(5-s.2.1).toNat) (fun s:Int×Int×List α=>a+1≤s.1∧s.1≤b∧0≤s.2.1∧On d a b l0 s.2.2∧Asc d lt a s.1 s.2.2)
    (fun r:Bool×List α ⊕ List α=>match r with | .inl x=>On d a b l0 x.2∧(x.1=true→Asc d lt a b x.2) | .inr l=>On d a b l0 l) (pR br a b) (by
    rintro ⟨i,c,l⟩ ⟨i1,i2,i3,hon,hA⟩
    simp only at i1 i2 i3 hon hA ⊢
    have hf:=hf0.on hon
    have hl:=hon.len
    unfold pR
    by_cases hc5:c<5
    case neg =>
      right
      exact ⟨.inr l,by simp only [hc5,decide_false,Bool.false_eq_true,if_false],hon⟩
    obtain ⟨x,x1,x2,x3,x4,x5⟩:=Yu (body:=kW br b (i,c,l)) (fun k=>!lt (gz d l k) (gz d l (k-1))) (i:=i) (j:=b-1) (by omega) (fun s q1 q2=>by
      unfold kW
      simp (disch:=first | omega | (refine hf.all _ ?_ ?_ <;> omega)) only [show s<b from by omega,decide_true,if_true,jD d,Option.bind_some,hbr,aS,aY]) (by
      unfold kW
      simp only [show ¬ b-1+1<b from by omega,decide_false,Bool.false_eq_true,if_false,Option.bind_some])
    have hAx:Asc d lt a x l:=by
      have:∀ n:Nat,∀ y,y≤x→y≤i+n→Asc d lt a y l:=by
        intro n
        induction n with
        | zero=>intro y _ y2 p q p1 p2 p3;exact hA p q p1 p2 (by omega)
        | succ n ih =>
          intro y y1 y2
          by_cases e:y≤i+n
          · exact ih y y1 e
          · have h0:=ih (y-1) (by omega) (by omega)
            have h1:=x4 (y-1) (by omega) (by omega)
            simp only [Bool.not_eq_eq_eq_not,Bool.not_true] at h1
            intro p q p1 p2 p3
            by_cases e1:q=y-1
            · subst e1
              by_cases e2:p=y-1-1
              · subst e2;exact h1
              · exact w.le_trans (h0 p (y-1-1) p1 (by omega) (by omega)) h1
            · exact h0 p q p1 p2 (by omega)
      exact this (x-i).toNat x (Int.le_refl _) (by omega)
    simp only [hc5,decide_true,if_true,x1,Option.bind_some]
    by_cases hxb:x=b
    · right
      refine ⟨.inl (true,l),by simp only [hxb,beq_self_eq_true,if_true],hon,fun _=>?_⟩
      simp only;rw [← hxb];exact hAx
    have hbx:(x==b)=false:=by simp [hxb]
    simp only [hbx,Bool.false_eq_true,if_false,s1]
    by_cases h50:b-a<50
    · right
      exact ⟨.inl (false,l),by simp only [h50,decide_true,if_true],hon,fun q=>by cases q⟩
    left
    have e1:aJ x 1=x-1:=aY (by omega) (by omega)
    have e2:aJ x a=x-a:=aY (by omega) (by omega)
    have e3:aJ b x=b-x:=aY (by omega) (by omega)
    have e4:aL x 1=x+1:=aS (by omega) (by omega)
    have e5:aL c 1=c+1:=aS (by omega) (by omega)
    obtain ⟨l1,hl1⟩:∃ l1,sw d l x (x-1)=l1:=⟨_,rfl⟩
    have e6:List.set (List.set l (Int.toNat x) (gz d l (x-1))) (Int.toNat (x-1)) (gz d l x)=l1:=hl1
    have hon1:On d a b l0 l1:=hl1 ▸ .step hon x (x-1) (by omega) (by omega) (by omega) (by omega) ha (by omega)
    have hl1':=hon1.len
    have hf1:=hf0.on hon1
    have hpre1:0<a→∀ k,a≤k→k<b→lt (gz d l1 k) (gz d l1 (a-1))=false:=fun h k k1 k2=>by
      rw [hon1.out d (k:=a-1) (by omega) (.inl (by omega))]
      exact hon1.all d (fun y=>lt y (gz d l0 (a-1))=false) (fun k k1 k2=>hpre h k k1 k2) k k1 k2
    have hA1:Asc d lt a (x-1) l1:=fun p q p1 p2 p3=>by
      rw [← hl1,sD d (by omega) (by omega) (by omega) (by omega) (by omega),sD d (by omega) (by omega) (by omega) (by omega) (by omega),if_neg (by omega),if_neg (by omega),if_neg (by omega),if_neg (by omega)]
      exact hAx p q p1 p2 (by omega)
    -- behind the shift to the left
    have right_:∀ l2,On d a b l0 l2→Asc d lt a x l2→∃ l3,kV br b (i,c,l) x l2=some (.inl (x,c+1,l3))∧On d a b l0 l3∧Asc d lt a x l3:=fun l2 o2 a2=>by
      have hl2:=o2.len
      unfold kV pQ
      by_cases q:b-x ≥ 2
      · obtain ⟨l3,t1,t2⟩:=RJ hbr (i:=x) (b:=b) (l0:=l2) (by omega) (by omega) (by omega) (hf0.on o2)
        refine ⟨l3, ?_,o2.trans d (t2.mono d ha (by omega) (Int.le_refl _) (by omega)),fun p q p1 p2 p3=>?_⟩
        · simp only [e3,q,decide_true,if_true,e4,t1,Option.bind_some,e5]
        · rw [t2.out d (by omega) (.inl (by omega)),t2.out d (by omega) (.inl (by omega))]
          exact a2 p q p1 p2 p3
      · exact ⟨l2,by simp only [e3,q,decide_false,Bool.false_eq_true,if_false,e5],o2,a2⟩
    simp (disch:=first | omega | (simp only [List.length_set];omega)) only [h50,decide_false,Bool.false_eq_true,if_false,e1,e2,jD d,Option.bind_some,e6]
    by_cases h2:x-a ≥ 2
    · obtain ⟨l2,t1,t2,t3⟩:=RI hbr w (a:=a) (b:=b) (i:=x) ha (by omega) (by omega) (by omega) hf1 hpre1 hA1
      obtain ⟨l3,u1,u2,u3⟩:=right_ l2 (hon1.trans d (t2.mono d ha (Int.le_refl _) (by omega) (by omega))) t3
      refine ⟨(x,c+1,l3), ?_,⟨by simp only;omega,by simp only;omega,by simp only;omega,u2,u3⟩,by simp only;omega⟩
      simp only [h2,decide_true,if_true,t1,Option.bind_some,u1]
    · obtain ⟨l3,u1,u2,u3⟩:=right_ l1 hon1 (fun p q p1 p2 p3=>by omega)
      refine ⟨(x,c+1,l3), ?_,⟨by simp only;omega,by simp only;omega,by simp only;omega,u2,u3⟩,by simp only;omega⟩
      simp only [h2,decide_false,Bool.false_eq_true,if_false,u1]) (a+1,0,l0) ⟨by simp only;omega,by simp only;omega,by simp only;omega,.refl _,fun p q p1 p2 p3=>by simp only at p3;omega⟩
  unfold uK
  rw [s2,r1,Option.bind_some]
  cases r with
  | inl x=>exact ⟨x.1,x.2,rfl,r2.1,r2.2⟩
  | inr l=>exact ⟨false,l,rfl,r2,fun q=>by cases q⟩
end
end Go.SM
