/- slices.Compact over any equality. -/
import Derived.Test.YtgfjbgoehhnaeaaGreatSortF
set_option linter.unusedVariables false
set_option linter.unusedSimpArgs false
set_option linter.unusedSectionVars false
namespace Go.SM
open Go Go.VI
noncomputable def Db {α:Type} (s1642:Int×Int×(List α)):Int×(List α)→Option (Int×Int×(List α) ⊕ Int×(List α)):=fun j1674 =>
  some (.inl (j1674.1,(aL s1642.2.1 1),j1674.2))
noncomputable def Dc {α:Type} (eqb:α→α→Bool) (h0:(List α)) (s1127:Int):Int×Int×(List α)→Option (Int×Int×(List α) ⊕ Int×(List α)):=fun s1642 =>
  if (decide (s1642.2.1<((Int.toNat (h0.length:Int)-Int.toNat s1127:Nat):Int))) then ((idx (List.take (Int.toNat (h0.length:Int)-Int.toNat s1127) (List.drop (Int.toNat s1127) s1642.2.2)) s1642.2.1).bind fun x1679=>(idx (List.take (Int.toNat (h0.length:Int)-Int.toNat s1127) (List.drop (Int.toNat s1127) s1642.2.2)) (aJ s1642.2.1 1)).bind fun x1680=>if (!(eqb x1679 x1680)) then ((idx (List.take (Int.toNat (h0.length:Int)-Int.toNat s1127) (List.drop (Int.toNat s1127) s1642.2.2)) s1642.2.1).bind fun x1683=>(idx s1642.2.2 s1642.1).bind fun x1684=>Db s1642 ((aL s1642.1 1),(List.set s1642.2.2 (Int.toNat s1642.1) x1683))) else (Db s1642 (s1642.1,s1642.2.2))) else (some (.inr (s1642.1,s1642.2.2)))
noncomputable def Ja {α:Type} (eqb:α→α→Bool) (z:α) (h0:(List α)):Int→Option (Int ⊕ ((List α) ⊕ Unit)):=fun s1127 =>
  if (decide (s1127<(h0.length:Int))) then ((idx h0 s1127).bind fun x1552=>(idx h0 (aJ s1127 1)).bind fun x1553=>if (eqb x1552 x1553) then (if (decide ((0:Int)≤s1127)&&(decide (s1127≤(h0.length:Int))&&decide ((h0.length:Int)≤(h0.length:Int)))) then ((aM (Dc eqb h0 s1127) (s1127,1,h0)).bind fun x1685=>if (decide ((0:Int)≤x1685.1)&&(decide (x1685.1≤(x1685.2.length:Int))&&decide ((x1685.2.length:Int)≤(x1685.2.length:Int)))) then ((slc (cpy x1685.2 (Int.toNat x1685.1) (List.replicate (Int.toNat (x1685.2.length:Int)-Int.toNat x1685.1) z)) 0 x1685.1).bind fun l1687=>some (.inr (.inl l1687))) else none) else none) else (some (.inl (aL s1127 1)))) else (some (.inr (.inr (()))))
noncomputable def Tc {α:Type} (eqb:α→α→Bool) (z:α) (h0:(List α)):Option ((List α)):=
  if (decide ((h0.length:Int)<2)) then (some h0) else ((aM (Ja eqb z h0) 1).bind fun x1688=>match x1688 with | .inl j1689=>some j1689 | .inr j1690=>some h0)
section
variable {α:Type} {lt:α→α→Bool} (w:Xv lt) (tri:∀ x y,lt x y=false→lt y x=false→x=y) {eqb:α→α→Bool} (heq:∀ x y,eqb x y=true↔x=y) (z:α)
include w tri
theorem Xr {r:List α} {y x:α} (hr:(r++[y]).Pairwise fun a b=>lt a b=true) (hy:lt x y=false) (hne:x≠y):(r++[y]++[x]).Pairwise fun a b=>lt a b=true:=by
  have hyx:lt y x=true:=by
    cases h:lt y x with
    | true=>rfl
    | false=>exact absurd (tri x y hy h) hne
  rw [List.pairwise_append]
  refine ⟨hr,by simp,fun a ha b hb=>?_⟩
  simp at hb
  subst hb
  rw [List.pairwise_append] at hr
  rcases List.mem_append.1 ha with m | m
  · have h1:=hr.2.2 a m y (by simp)
    rcases w.neg y a b hyx with q | q
    · rw [w.asymm _ _ h1] at q;cases q
    · exact q
  · simp at m;subst m;exact hyx
include heq
theorem KP {l:List α} (hl:(l.length:Int)≤1073741824) (hs:l.Pairwise fun x y=>lt y x=false) :
    ∃ r,Tc eqb z l=some r∧(r.Pairwise fun x y=>lt x y=true)∧∀ x,x ∈ r↔x ∈ l:=by
  unfold Tc
  by_cases h2:(l.length:Int)<2
  · refine ⟨l,by simp only [h2,decide_true,if_true], ?_,fun x=>Iff.rfl⟩
    have hlen:l.length<2:=by omega
    clear hl hs h2
    rcases l with _ | ⟨x,_ | ⟨y,t⟩⟩
    · exact .nil
    · simp
    · simp at hlen;omega
  simp only [h2,decide_false,Bool.false_eq_true,if_false]
  have adj:∀ (i j:Nat) (x y:α),i<j→l[i]?=some x→l[j]?=some y→lt y x=false:=fun i j x y hij hx hy=>by
    have h1:=(List.getElem?_eq_some_iff.1 hx)
    have h3:=(List.getElem?_eq_some_iff.1 hy)
    obtain ⟨a1,rfl⟩:=h1
    obtain ⟨b1,rfl⟩:=h3
    exact List.pairwise_iff_getElem.1 hs i j a1 b1 hij
  have get:∀ i:Nat,i<l.length→∃ x,l[i]?=some x:=fun i hi=>⟨l[i],List.getElem?_eq_getElem hi⟩
  have takes:∀ (i:Nat) (x:α),l[i]?=some x→l.take (i+1)=l.take i++[x]:=fun i x hx=>by rw [List.take_add_one,hx];rfl
  -- the second walk
  have inner:∀ (k:Nat) (y:α),1≤k→k<l.length→l[k]?=some y→l[k-1]?=some y→((l.take k).Pairwise fun x y=>lt x y=true) →
      ∃ (i:Nat) (l':List α),aM (Dc eqb l (k:Int)) ((k:Int),1,l)=some ((i:Int),l')∧i≤l'.length∧l'.length=l.length∧((l'.take i).Pairwise fun x y=>lt x y=true)∧∀ x,x ∈ l'.take i↔x ∈ l:=by
    intro k y k1 kl hy hy1 hp
    obtain ⟨r,r1,i,r2,r3,r4,r5,r6⟩:=nA (fun s:Int×Int×List α=>((l.length:Int)-k-s.2.1).toNat)
      (fun s:Int×Int×List α=>∃ (i p:Nat) (y:α),s.1=i∧s.2.1=((p-k:Nat):Int)∧k+1≤p∧p≤l.length∧1≤i∧i≤p-1∧s.2.2.length=l.length∧s.2.2.drop i=l.drop i∧l[p-1]?=some y∧(∃ t,s.2.2.take i=t++[y])∧((s.2.2.take i).Pairwise fun x y=>lt x y=true)∧∀ x,x ∈ s.2.2.take i↔x ∈ l.take p)
      (fun r:Int×List α=>∃ i:Nat,r.1=i∧i≤r.2.length∧r.2.length=l.length∧((r.2.take i).Pairwise fun x y=>lt x y=true)∧∀ x,x ∈ r.2.take i↔x ∈ l) (Dc eqb l (k:Int)) (by
        rintro ⟨i',k2,m⟩ ⟨i,p,y,hi',hk2,p1,p2,i0,i1,hml,hdrop,hy,⟨t,ht⟩,hpw,hmem⟩
        simp only at hi' hk2 hml hdrop ht hpw hmem ⊢
        subst hi' hk2
        unfold Dc
        simp only [Int.toNat_natCast]
        by_cases hp:p<l.length
        · left
          obtain ⟨x,hx⟩:=get p hp
          have mg:∀ j,i≤j→m[j]?=l[j]?:=fun j hj=>by
            have:=congrArg (fun q=>q[j-i]?) hdrop
            simp only [List.getElem?_drop] at this
            rwa [show i+(j-i)=j from by omega] at this
          have hc:((p-k:Nat):Int)<((l.length-k:Nat):Int):=by omega
          have g1:idx (List.take (l.length-k) (List.drop k m)) ((p-k:Nat):Int)=some x:=by
            rw [FE,List.getElem?_take,if_pos (by omega),List.getElem?_drop,show k+(p-k)=p from by omega,mg p (by omega),hx]
          have e1:aJ ((p-k:Nat):Int) 1=((p-1-k:Nat):Int):=by rw [aY (by omega) (by omega)];omega
          have g2:idx (List.take (l.length-k) (List.drop k m)) ((p-1-k:Nat):Int)=some y:=by
            rw [FE,List.getElem?_take,if_pos (by omega),List.getElem?_drop,show k+(p-1-k)=p-1 from by omega,mg (p-1) (by omega),hy]
          have e2:aL ((p-k:Nat):Int) 1=((p+1-k:Nat):Int):=by rw [aS (by omega) (by omega)];omega
          have e3:aL (i:Int) 1=((i+1:Nat):Int):=by rw [aS (by omega) (by omega)];omega
          have tk:=takes p x hx
          simp only [hc,decide_true,if_true,g1,Option.bind_some,e1,g2]
          cases hb:eqb x y with
          | true =>
            obtain rfl:=(heq x y).1 hb
            simp only [Bool.not_true,Bool.false_eq_true,if_false,Db,e2]
            refine ⟨_,rfl,⟨i,p+1,x,rfl,rfl,by omega,by omega,i0,by omega,hml,hdrop,by rw [show p+1-1=p from by omega];exact hx,⟨t,ht⟩,hpw,fun v=>?_⟩,by simp only;omega⟩
            rw [hmem v,tk,List.mem_append,List.mem_singleton]
            constructor
            · exact .inl
            · rintro (q | rfl)
              · exact q
              · rw [← hmem v,ht];simp
          | false =>
            have hne:x≠y:=fun e=>by rw [(heq x y).2 e] at hb;cases hb
            have gi:idx m (i:Int)=some (m[i]'(by omega)):=by rw [FE];exact List.getElem?_eq_getElem _
            simp only [Bool.not_false,if_true,gi,Option.bind_some,Db,e2,e3]
            have tset:(m.set i x).take (i+1)=m.take i++[x]:=by
              rw [List.take_add_one,List.take_set_of_le (Nat.le_refl i),List.getElem?_set,if_pos rfl,if_pos (by omega)];rfl
            refine ⟨_,rfl,⟨i+1,p+1,x,rfl,rfl,by omega,by omega,by omega,by omega,by simp only [List.length_set];exact hml, ?_,by rw [show p+1-1=p from by omega];exact hx,⟨m.take i,tset⟩, ?_,fun v=>?_⟩,by simp only;omega⟩
            · simp only
              rw [List.drop_set_of_lt (by omega),← List.drop_drop,hdrop,List.drop_drop]
            · simp only
              rw [tset,ht]
              rw [ht] at hpw
              exact Xr w tri hpw (adj (p-1) p y x (by omega) hy hx) hne
            · simp only
              rw [tset,tk,List.mem_append,List.mem_append,hmem v]
        · right
          have hc:¬ ((p-k:Nat):Int)<((l.length-k:Nat):Int):=by omega
          refine ⟨((i:Int),m),by simp only [hc,decide_false,Bool.false_eq_true,if_false],i,rfl,by simp only;omega,hml,hpw,fun v=>?_⟩
          rw [hmem v,List.take_of_length_le (by omega)]) ((k:Int),1,l) ⟨k,k+1,y,rfl,by simp only;omega,by omega,by omega,k1,by omega,rfl,rfl,by rw [show k+1-1=k from by omega];exact hy,⟨l.take (k-1),by
            have:=takes (k-1) y hy1
            rwa [show k-1+1=k from by omega] at this⟩,hp,fun v=>by
            rw [takes k y hy,List.mem_append,List.mem_singleton]
            constructor
            · exact .inl
            · rintro (q | rfl)
              · exact q
              · have:=takes (k-1) v hy1
                rw [show k-1+1=k from by omega] at this
                rw [this];simp⟩
    exact ⟨i,r.2,by rw [r1];congr 1;exact Prod.ext r2 rfl,r3,r4,r5,r6⟩
  obtain ⟨r,r1,r2⟩:=nA (fun s:Int=>((l.length:Int)-s).toNat) (fun s:Int=>∃ k:Nat,s=k∧1≤k∧k≤l.length∧((l.take k).Pairwise fun x y=>lt x y=true))
    (fun r:List α ⊕ Unit=>match r with | .inl r=>(r.Pairwise fun x y=>lt x y=true)∧∀ x,x ∈ r↔x ∈ l | .inr _=>l.Pairwise fun x y=>lt x y=true) (Ja eqb z l) (by
      rintro s ⟨k,rfl,k1,k2,hp⟩
      unfold Ja
      by_cases hk:k<l.length
      · have hc:(k:Int)<(l.length:Int):=by omega
        obtain ⟨x,hx⟩:=get k hk
        obtain ⟨y,hy⟩:=get (k-1) (by omega)
        have e1:aJ (k:Int) 1=((k-1:Nat):Int):=by rw [aY (by omega) (by omega)];omega
        simp only [hc,decide_true,if_true,aP hx,Option.bind_some,e1,aP hy]
        cases hb:eqb x y with
        | false =>
          left
          have hne:x≠y:=fun e=>by rw [(heq x y).2 e] at hb;cases hb
          simp only [Bool.false_eq_true,if_false]
          refine ⟨((k+1:Nat):Int),by rw [aZ k (by omega)],⟨k+1,rfl,by omega,by omega, ?_⟩,by omega⟩
          rw [takes k x hx]
          have:=takes (k-1) y hy
          rw [show k-1+1=k from by omega] at this
          rw [this] at hp ⊢
          exact Xr w tri hp (adj (k-1) k y x (by omega) hy hx) hne
        | true =>
          right
          obtain rfl:=(heq x y).1 hb
          obtain ⟨i,l',t1,t2,t3,t4,t5⟩:=inner k x k1 hk hx hy hp
          have c0:decide ((0:Int)≤(k:Int))=true:=by simp
          have c1:decide ((k:Int)≤(l.length:Int))=true:=by simp;omega
          have c2:decide ((l.length:Int)≤(l.length:Int))=true:=by simp
          have c3:decide ((0:Int)≤(i:Int))=true:=by simp
          have c4:decide ((i:Int)≤(l'.length:Int))=true:=by simp;omega
          have c5:decide ((l'.length:Int)≤(l'.length:Int))=true:=by simp
          have hsl:slc (cpy l' i (List.replicate (l'.length-i) z)) 0 (i:Int)=some (l'.take i):=by
            unfold slc cpy
            rw [if_pos ⟨Int.le_refl _,by omega,by simp;omega⟩]
            simp only [Int.toNat_natCast,Int.toNat_zero,List.drop_zero]
            rw [List.append_assoc,List.take_append_of_le_length (by rw [List.length_take];omega),List.take_take,Nat.min_self]
          simp only [if_true,c0,c1,c2,Bool.and_self,t1,Option.bind_some,c3,c4,c5,Int.toNat_natCast,hsl]
          exact ⟨_,rfl,t4,t5⟩
      · right
        have hc:¬ (k:Int)<(l.length:Int):=by omega
        refine ⟨.inr (),by simp only [hc,decide_false,Bool.false_eq_true,if_false], ?_⟩
        simp only
        rwa [List.take_of_length_le (by omega)] at hp) 1 ⟨1,rfl,by omega,by omega,by
          have hlen:2≤l.length:=by omega
          clear inner takes get adj h2 hs hl
          rcases l with _ | ⟨x,t⟩
          · simp at hlen
          · simp⟩
  rw [r1,Option.bind_some]
  cases r with
  | inl r=>exact ⟨r,rfl,r2.1,r2.2⟩
  | inr _=>exact ⟨l,rfl,r2,fun x=>Iff.rfl⟩
end
end Go.SM
