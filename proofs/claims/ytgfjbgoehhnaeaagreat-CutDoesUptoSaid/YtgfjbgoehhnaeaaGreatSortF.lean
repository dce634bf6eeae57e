/- pdqsort sorts, by any comparison. -/
import Derived.Test.YtgfjbgoehhnaeaaGreatSortE
set_option linter.unusedVariables false
set_option linter.unusedSimpArgs false
set_option linter.unusedSectionVars false
namespace Go.SM
open Go Go.VI
def Out {α:Type} (d:α) (lt:α→α→Bool) (a0 b0 a b:Int) (l:List α):Prop:=∀ p q:Int,a0≤p→p<q→q<b0→(p<a∨b≤q)→lt (gz d l q) (gz d l p)=false
def Pre {α:Type} (d:α) (lt:α→α→Bool) (a b:Int) (l:List α):Prop:=0<a→∀ k,a≤k→k<b→lt (gz d l k) (gz d l (a-1))=false
section
variable {α:Type} {br:Br α} {lt:α→α→Bool} {P:α→Prop} {d:α} (hbr:∀ (β:Type) (x y:α) (k:Bool→Option β),P x→P y→br β x y k=k (lt x y)) (w:Xv lt)
theorem BG {a0 b0 a b:Int} {l l':List α} (h:Out d lt a0 b0 a b l) (ho:On d a b l l') (h0:0≤a0) (h1:a0≤a) (h2:b≤b0):Out d lt a0 b0 a b l':=by
  intro p q p1 p2 p3 p4
  by_cases hp:a≤p∧p<b
  · rw [ho.out d (k:=q) (by omega) (.inr (by omega))]
    exact ho.all d (fun x=>lt (gz d l q) x=false) (fun k k1 k2=>h k q (by omega) (by omega) p3 (.inr (by omega))) p hp.1 hp.2
  · rw [ho.out d (k:=p) (by omega) (by omega)]
    by_cases hq:a≤q∧q<b
    · exact ho.all d (fun x=>lt x (gz d l p)=false) (fun k k1 k2=>h p k p1 (by omega) (by omega) (.inl (by omega))) q hq.1 hq.2
    · rw [ho.out d (k:=q) (by omega) (by omega)]
      exact h p q p1 p2 p3 p4
theorem WV {a0 b0 a b:Int} {l:List α} (h:Out d lt a0 b0 a b l) (ha:Asc d lt a b l):Asc d lt a0 b0 l:=by
  intro p q p1 p2 p3
  by_cases e:p<a∨b≤q
  · exact h p q p1 p2 p3 e
  · exact ha p q (by omega) p2 (by omega)
theorem LZ {a0 b0 a b:Int} {l0 l:List α} (hp:Pre d lt a0 b0 l0) (h0:0≤a0) (h1:a0≤a) (h2:b≤b0) (ho:On d a0 b0 l0 l) (h:Out d lt a0 b0 a b l):Pre d lt a b l:=by
  intro hpos k k1 k2
  by_cases e:a=a0
  · subst e
    rw [ho.out d (k:=a-1) (by omega) (.inl (by omega))]
    exact ho.all d (fun x=>lt x (gz d l0 (a-1))=false) (fun k k1 k2=>hp hpos k k1 k2) k k1 (by omega)
  · exact h (a-1) k (by omega) (by omega) (by omega) (.inl (by omega))
theorem pre_on {a b:Int} {l l':List α} (hp:Pre d lt a b l) (h0:0≤a) (ho:On d a b l l'):Pre d lt a b l':=LZ (a0:=a) (b0:=b) hp h0 (Int.le_refl _) (Int.le_refl _) ho fun p q p1 p2 p3 p4=>absurd p4 (by omega)
include hbr w
theorem JJ {self:Int→Int→Int→List α→Option (List α)} {N:Int}
    (hself:∀ (a b limit:Int) (l:List α),0≤a→a≤b→b≤l.length→Fine P d l→Pre d lt a b l→b-a<N→∃ l',self a b limit l=some l'∧On d a b l l'∧Asc d lt a b l')
    {a0 b0 limit:Int} {l0:List α} (h0:0≤a0) (hab:a0≤b0) (hb:b0≤l0.length) (hf0:Fine P d l0) (hpre:Pre d lt a0 b0 l0) (hN:b0-a0≤12∨b0-a0<2*N) :
    ∃ l',aM (Df br self) (a0,b0,limit,true,true,l0)=some l'∧On d a0 b0 l0 l'∧Asc d lt a0 b0 l':=by
  have hL:=hf0.len
  refine nA (fun s:Int×Int×Int×Bool×Bool×List α=>(s.2.1-s.1).toNat) (fun s:Int×Int×Int×Bool×Bool×List α=>a0≤s.1∧s.1≤s.2.1∧s.2.1≤b0∧On d a0 b0 l0 s.2.2.2.2.2∧Out d lt a0 b0 s.1 s.2.1 s.2.2.2.2.2)
    (fun l'=>On d a0 b0 l0 l'∧Asc d lt a0 b0 l') (Df br self) ?_ (a0,b0,limit,true,true,l0) ⟨Int.le_refl _,hab,Int.le_refl _,.refl _,fun p q p1 p2 p3 p4=>absurd p4 (by simp only;omega)⟩
  rintro ⟨a,b,lim,wb,wp,l⟩ ⟨i1,i2,i3,hon,hout⟩
  simp only at i1 i2 i3 hon hout ⊢
  have hf:=hf0.on hon
  have hl:=hon.len
  have s1:aJ b a=b-a:=aY (by omega) (by omega)
  -- what ends it
  have fin:∀ l',On d a b l l'→Asc d lt a b l'→On d a0 b0 l0 l'∧Asc d lt a0 b0 l':=fun l' o as =>
    ⟨hon.trans d (o.mono d h0 i1 i3 (by omega)),WV (BG hout o h0 i1 i3) as⟩
  unfold Df
  simp only [s1]
  by_cases h12:b-a≤12
  · right
    obtain ⟨l',t1,t2,t3⟩:=Wm hbr w (a:=a) (b:=b) (l0:=l) (by omega) i2 (by omega) hf
    exact ⟨l',by simp only [h12,decide_true,if_true,t1,Option.bind_some],fin l' t2 t3⟩
  simp only [h12,decide_false,Bool.false_eq_true,if_false]
  by_cases hz:lim=0
  · right
    obtain ⟨l',t1,t2,t3⟩:=IZ hbr w (a:=a) (b:=b) (l0:=l) (by omega) i2 (by omega) hf
    exact ⟨l',by simp only [hz,beq_self_eq_true,if_true,t1,Option.bind_some],fin l' t2 t3⟩
  have hz':(lim==0)=false:=by simp [hz]
  simp only [hz',Bool.false_eq_true,if_false]
  have hN':b-a<2*N:=by omega
  -- the partition
  have k1 : ∀ (j127:Int×List α) (pivot hint:Int) (lx:List α) (wb' wp':Bool) (l1:List α),On d a b l l1→a≤pivot→pivot<b →
      (∃ s',xO br self (a,b,lim,wb,wp,l) j127 (pivot,hint,lx) (wb',wp',l1)=some (.inl s')∧(a0≤s'.1∧s'.1≤s'.2.1∧s'.2.1≤b0∧On d a0 b0 l0 s'.2.2.2.2.2∧Out d lt a0 b0 s'.1 s'.2.1 s'.2.2.2.2.2)∧(s'.2.1-s'.1).toNat<(b-a).toNat) ∨
      (∃ r,xO br self (a,b,lim,wb,wp,l) j127 (pivot,hint,lx) (wb',wp',l1)=some (.inr r)∧On d a0 b0 l0 r∧Asc d lt a0 b0 r):=by
    intro j127 pivot hint lx wb' wp' l1 o1 v1 v2
    left
    have hl1:=o1.len
    have hf1:=hf.on o1
    have hon1:On d a0 b0 l0 l1:=hon.trans d (o1.mono d h0 i1 i3 (by omega))
    have hout1:=BG hout o1 h0 i1 i3
    have hpre1:Pre d lt a b l1:=LZ hpre h0 i1 i3 hon1 hout1
    have part:∃ s',((Eh br a b pivot l1).bind fun r162=>if (decide ((aJ r162.1 a)<(aJ b r162.1))) then ((self a r162.1 j127.1 r162.2.2).bind fun r164=>some (.inl ((aL r162.1 1),b,j127.1,(decide ((aJ r162.1 a) ≥ (xN (aJ b a) 8))),r162.2.1,r164))) else ((self (aL r162.1 1) b j127.1 r162.2.2).bind fun r166=>some (Sum.inl (β:=List α) (a,r162.1,j127.1,(decide ((aJ b r162.1) ≥ (xN (aJ b a) 8))),r162.2.1,r166))))=some (.inl s') ∧
        (a0≤s'.1∧s'.1≤s'.2.1∧s'.2.1≤b0∧On d a0 b0 l0 s'.2.2.2.2.2∧Out d lt a0 b0 s'.1 s'.2.1 s'.2.2.2.2.2)∧(s'.2.1-s'.1).toNat<(b-a).toNat:=by
      obtain ⟨mid,al,l2,t1,t2,t3,t4,t5,t6⟩:=FR hbr (a:=a) (b:=b) (pivot:=pivot) (l0:=l1) (by omega) (by omega) (by omega) hf1 v1 v2
      have hl2:=t2.len
      have hf2:=hf1.on t2
      have hon2:On d a0 b0 l0 l2:=hon1.trans d (t2.mono d h0 i1 i3 (by omega))
      have hout2:=BG hout1 t2 h0 i1 i3
      have hpre2:Pre d lt a b l2:=pre_on hpre1 (by omega) t2
      -- all pairs that are not both on one side
      have ord:∀ p q:Int,a0≤p→p<q→q<b0→(p<a∨b≤q∨(p≤mid∧mid≤q))→lt (gz d l2 q) (gz d l2 p)=false:=fun p q p1 p2 p3 p4=>by
        by_cases e:p<a∨b≤q
        · exact hout2 p q p1 p2 p3 e
        · by_cases ep:p=mid
          · subst ep;exact t6 q (by omega) (by omega)
          · have hp:=w.asymm _ _ (t5 p (by omega) (by omega))
            by_cases eq:q=mid
            · subst eq;exact hp
            · exact w.le_trans hp (t6 q (by omega) (by omega))
      have e1:aJ mid a=mid-a:=aY (by omega) (by omega)
      have e2:aJ b mid=b-mid:=aY (by omega) (by omega)
      have e3:aL mid 1=mid+1:=aS (by omega) (by omega)
      simp only [t1,Option.bind_some,e1,e2,e3]
      by_cases hlr:mid-a<b-mid
      · obtain ⟨l3,u1,u2,u3⟩:=hself a mid j127.1 l2 (by omega) t3 (by omega) hf2 (fun hpos k k1 k2=>hpre2 hpos k k1 (by omega)) (by omega)
        simp only [hlr,decide_true,if_true,u1,Option.bind_some]
        refine ⟨_,rfl,⟨by simp only;omega,by simp only;omega,i3,hon2.trans d (u2.mono d h0 i1 (by omega) (by omega)), ?_⟩,by simp only;omega⟩
        intro p q p1 p2 p3 p4
        simp only at p4 ⊢
        by_cases hp:a≤p∧p<mid
        · by_cases hq:q<mid
          · exact u3 p q hp.1 p2 hq
          · rw [u2.out d (k:=q) (by omega) (.inr (by omega))]
            exact u2.all d (fun x=>lt (gz d l2 q) x=false) (fun k k1 k2=>ord k q (by omega) (by omega) p3 (by omega)) p hp.1 hp.2
        · rw [u2.out d (k:=p) (by omega) (by omega)]
          by_cases hq:a≤q∧q<mid
          · exact u2.all d (fun x=>lt x (gz d l2 p)=false) (fun k k1 k2=>ord p k p1 (by omega) (by omega) (by omega)) q hq.1 hq.2
          · rw [u2.out d (k:=q) (by omega) (by omega)]
            exact ord p q p1 p2 p3 (by omega)
      · obtain ⟨l3,u1,u2,u3⟩:=hself (mid+1) b j127.1 l2 (by omega) (by omega) (by omega) hf2 (fun hpos k k1 k2=>by
          rw [show mid+1-1=mid from by omega]
          exact t6 k (by omega) k2) (by omega)
        simp only [hlr,decide_false,Bool.false_eq_true,if_false,u1,Option.bind_some]
        refine ⟨_,rfl,⟨i1,t3,by simp only;omega,hon2.trans d (u2.mono d h0 (by omega) i3 (by omega)), ?_⟩,by simp only;omega⟩
        intro p q p1 p2 p3 p4
        simp only at p4 ⊢
        by_cases hp:mid+1≤p∧p<b
        · by_cases hq:q<b
          · exact u3 p q hp.1 p2 hq
          · rw [u2.out d (k:=q) (by omega) (.inr (by omega))]
            exact u2.all d (fun x=>lt (gz d l2 q) x=false) (fun k k1 k2=>ord k q (by omega) (by omega) p3 (by omega)) p hp.1 hp.2
        · rw [u2.out d (k:=p) (by omega) (by omega)]
          by_cases hq:mid+1≤q∧q<b
          · exact u2.all d (fun x=>lt x (gz d l2 p)=false) (fun k k1 k2=>ord p k p1 (by omega) (by omega) (by omega)) q hq.1 hq.2
          · rw [u2.out d (k:=q) (by omega) (by omega)]
            exact ord p q p1 p2 p3 (by omega)
    unfold xO
    by_cases hpos:a>0
    · cases hc:lt (gz d l1 (a-1)) (gz d l1 pivot) with
      | true =>
        simp (disch:=first | omega | (refine hf1.all _ ?_ ?_ <;> omega)) only [hpos,decide_true,if_true,aY,jD d,Option.bind_some,hbr,hc,Bool.not_true,Bool.false_eq_true,if_false]
        simpa only [s1] using part
      | false =>
        obtain ⟨mid,l2,t1,t2,t3,t4,t5⟩:=Vk hbr (a:=a) (b:=b) (pivot:=pivot) (l0:=l1) (by omega) (by omega) (by omega) hf1 v1 v2 w.irrefl
        refine ⟨(mid,b,j127.1,wb',wp',l2), ?_,⟨by simp only;omega,t4,i3,hon1.trans d (t2.mono d h0 i1 i3 (by omega)), ?_⟩,by simp only;omega⟩
        · simp (disch:=first | omega | (refine hf1.all _ ?_ ?_ <;> omega)) only [hpos,decide_true,if_true,aY,jD d,Option.bind_some,hbr,hc,Bool.not_false,t1]
        · have hout2:=BG hout1 t2 h0 i1 i3
          have hpre2:Pre d lt a b l2:=pre_on hpre1 (by omega) t2
          have hl2:=t2.len
          intro p q p1 p2 p3 p4
          simp only at p4 ⊢
          by_cases e:p<a∨b≤q
          · exact hout2 p q p1 p2 p3 e
          · have hp:=t5 p (by omega) (by omega)
            have hq:=hpre2 hpos q (by omega) (by omega)
            rw [t2.out d (k:=a-1) (by omega) (.inl (by omega))] at hq
            cases hlt:lt (gz d l2 q) (gz d l2 p) with
            | false=>rfl
            | true =>
              rcases w.neg _ (gz d l1 pivot) _ hlt with r | r
              · rcases w.neg _ (gz d l1 (a-1)) _ r with r | r
                · rw [hq] at r;cases r
                · rw [hc] at r;cases r
              · rw [hp] at r;cases r
    · simp only [hpos,decide_false,Bool.false_eq_true,if_false,Option.bind_some]
      simpa only [s1] using part
  have k2:∀ (j127:Int×List α) (pivot hint:Int) (l1:List α),On d a b l l1→a≤pivot→pivot<b →
      (∃ s',xP br self (a,b,lim,wb,wp,l) j127 (pivot,hint,l1)=some (.inl s')∧(a0≤s'.1∧s'.1≤s'.2.1∧s'.2.1≤b0∧On d a0 b0 l0 s'.2.2.2.2.2∧Out d lt a0 b0 s'.1 s'.2.1 s'.2.2.2.2.2)∧(s'.2.1-s'.1).toNat<(b-a).toNat) ∨
      (∃ r,xP br self (a,b,lim,wb,wp,l) j127 (pivot,hint,l1)=some (.inr r)∧On d a0 b0 l0 r∧Asc d lt a0 b0 r):=by
    intro j127 pivot hint l1 o1 v1 v2
    unfold xP
    obtain ⟨c,hc⟩:∃ c:Bool×Bool×Bool,(if wb then (if wp then (some (true,true,(hint==1))) else (some (true,false,false))) else (some (false,wp,false)))=some c:=by
      cases wb <;> cases wp <;> exact ⟨_,rfl⟩
    simp only [hc,Option.bind_some]
    cases hc2:c.2.2 with
    | false =>
      simp only [Bool.false_eq_true,if_false]
      exact k1 _ _ _ _ _ _ _ o1 v1 v2
    | true =>
      have hl1:=o1.len
      have hon1:On d a0 b0 l0 l1:=hon.trans d (o1.mono d h0 i1 i3 (by omega))
      have hpre1:Pre d lt a b l1:=LZ hpre h0 i1 i3 hon1 (BG hout o1 h0 i1 i3)
      obtain ⟨r,l2,t1,t2,t3⟩:=LY hbr w (a:=a) (b:=b) (l0:=l1) (by omega) (by omega) (by omega) (hf.on o1) hpre1
      simp only [if_true,t1,Option.bind_some]
      cases hr:r with
      | true =>
        right
        simp only [if_true]
        exact ⟨l2,rfl,fin l2 (o1.trans d t2) (t3 hr)⟩
      | false =>
        simp only [Bool.false_eq_true,if_false]
        exact k1 _ _ _ _ _ _ _ (o1.trans d t2) v1 v2
  have k3:∀ (lim':Int) (l1:List α),On d a b l l1 →
      (∃ s',xQ br self (a,b,lim,wb,wp,l) (lim',l1)=some (.inl s')∧(a0≤s'.1∧s'.1≤s'.2.1∧s'.2.1≤b0∧On d a0 b0 l0 s'.2.2.2.2.2∧Out d lt a0 b0 s'.1 s'.2.1 s'.2.2.2.2.2)∧(s'.2.1-s'.1).toNat<(b-a).toNat) ∨
      (∃ r,xQ br self (a,b,lim,wb,wp,l) (lim',l1)=some (.inr r)∧On d a0 b0 l0 r∧Asc d lt a0 b0 r):=by
    intro lim' l1 o1
    have hl1:=o1.len
    unfold xQ
    obtain ⟨pv,h,t1,t2,t3⟩:=PM hbr (l:=l1) (hf.on o1) (a:=a) (b:=b) (by omega) (by omega) (by omega)
    simp only [t1,Option.bind_some]
    by_cases h2:h=2
    · obtain ⟨l2,u1,u2⟩:=MI (br:=br) (d:=d) (a:=a) (b:=b) (l0:=l1) (by omega) (by omega) (by omega) i2
      have e1:aJ b 1=b-1:=aY (by omega) (by omega)
      have e2:aJ pv a=pv-a:=aY (by omega) (by omega)
      have e3:aJ (b-1) (pv-a)=b-1-(pv-a):=aY (by omega) (by omega)
      simp only [h2,beq_self_eq_true,if_true,u1,Option.bind_some,e1,e2,e3]
      exact k2 _ _ _ _ (o1.trans d u2) (by omega) (by omega)
    · have:(h==2)=false:=by simp [h2]
      simp only [this,Bool.false_eq_true,if_false]
      exact k2 _ _ _ _ o1 t2 t3
  cases hwb:wb with
  | false =>
    obtain ⟨l1,t1,t2⟩:=SS (br:=br) (d:=d) (a:=a) (b:=b) (l0:=l) (by omega) (by omega) (by omega) i2
    simp only [Bool.not_false,if_true,t1,Option.bind_some]
    have:=k3 (aJ lim 1) l1 t2
    rw [hwb] at this
    exact this
  | true =>
    simp only [Bool.not_true,Bool.false_eq_true,if_false]
    have:=k3 lim l (.refl _)
    rw [hwb] at this
    exact this
theorem VM:∀ (n:Nat) (a b limit:Int) (l:List α),0≤a→a≤b→b≤l.length→Fine P d l→Pre d lt a b l→b-a<2^n→∃ l',rZ br (n+1) a b limit l=some l'∧On d a b l l'∧Asc d lt a b l'
  | 0,a,b,limit,l,h0,hab,hb,hf,hp,hn=>by
    obtain ⟨l',t1,t2,t3⟩:=JJ hbr w (self:=rZ br 0) (N:=0) (fun a b limit l h1 h2 _ _ _ h3=>by omega) (limit:=limit) h0 hab hb hf hp (.inl (by omega))
    refine ⟨l', ?_,t2,t3⟩
    show vO br (rZ br 0) a b limit l=some l'
    unfold vO
    rw [t1];rfl
  | n+1,a,b,limit,l,h0,hab,hb,hf,hp,hn=>by
    obtain ⟨l',t1,t2,t3⟩:=JJ hbr w (self:=rZ br (n+1)) (N:=2^n) (fun a b limit l h1 h2 h3 h4 h5 h6=>VM n a b limit l h1 h2 h3 h4 h5 h6) (limit:=limit) h0 hab hb hf hp (.inr (by rw [Int.pow_succ] at hn;omega))
    refine ⟨l', ?_,t2,t3⟩
    show vO br (rZ br (n+1)) a b limit l=some l'
    unfold vO
    rw [t1];rfl
theorem YE (m:Nat) (hm:31≤m) {l:List α} (hf:Fine P d l) (v:Int):∃ l',rZ br (m+1) 0 (l.length:Int) v l=some l'∧On d 0 (l.length:Int) l l'∧Asc d lt 0 (l.length:Int) l':=by
  have hL:=hf.len
  refine VM hbr w m 0 (l.length:Int) v l (Int.le_refl _) (by omega) (Int.le_refl _) hf (fun h=>absurd h (by omega)) ?_
  have h1:(2147483648:Nat)≤2^m:=Nat.le_trans (by decide:2147483648≤2^31) (Nat.pow_le_pow_right (by omega) hm)
  have h3:((2:Int)^m)=((2^m:Nat):Int):=by simp
  rw [h3]
  omega
theorem KE {l:List α} (hf:Fine P d l):∃ l',Pi br l=some l'∧l'.Perm l∧l'.Pairwise fun x y=>lt y x=false:=by
  have hL:=hf.len
  obtain ⟨v,v1,_⟩:=UX (x:=(l.length:Int)) (by omega) hL
  obtain ⟨l',t1,t2,t3⟩:=YE hbr w 999 (by omega) hf v
  refine ⟨l', ?_,t2.perm, ?_⟩
  · unfold Pi AC
    rw [v1,Option.bind_some,t1];rfl
  · have hl:=t2.len
    rw [List.pairwise_iff_getElem]
    intro i j hi hj hij
    have:=t3 (i:Int) (j:Int) (by omega) (by omega) (by omega)
    unfold gz at this
    rw [List.getD_eq_getElem?_getD,List.getD_eq_getElem?_getD,Int.toNat_natCast,Int.toNat_natCast,List.getElem?_eq_getElem hi,List.getElem?_eq_getElem hj] at this
    exact this
end
end Go.SM
