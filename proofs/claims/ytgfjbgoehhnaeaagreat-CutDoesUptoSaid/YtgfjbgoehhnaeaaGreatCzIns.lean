/- The document's grids. -/
import Derived.Test.YtgfjbgoehhnaeaaGreatCzBord
set_option linter.unusedVariables false
set_option linter.unusedSimpArgs false
set_option linter.unusedSectionVars false
namespace Go.SM
open Go Go.VI Go.Cells
theorem Qr {l:List Int} (h:l.Pairwise fun x y=>x<y) (hl:l.length≤10000) (n:Int) :
    ∃ r,fZ n l=some r∧r.Pairwise (fun x y=>x<y)∧(∀ x,x ∈ r↔x ∈ l∨x=n)∧r.length≤l.length+1:=by
  obtain ⟨i',q1,i,rfl,hi,ha,hb⟩:=nA (fun s:Int=>s.toNat)
    (fun s:Int=>∃ k:Nat,s=k∧k≤l.length∧∀ x ∈ l.drop k,n<x)
    (fun r:Int=>∃ k:Nat,r=k∧k≤l.length∧(∀ x ∈ l.drop k,n<x)∧(0<k→∀ y,l[k-1]?=some y→y≤n)) (rA n l) (by
      rintro s ⟨k,rfl,hk,hI⟩
      unfold rA
      by_cases h0:0<k
      · obtain ⟨x,hx⟩:∃ x,l[k-1]?=some x:=⟨_,List.getElem?_eq_getElem (by omega)⟩
        have e1:aJ (k:Int) 1=((k-1:Nat):Int):=by rw [aY (by omega) (by omega)];omega
        have d:decide ((k:Int)>0)=true:=by simp;omega
        simp only [d,if_true,e1,aP hx,Option.bind_some]
        by_cases hg:x>n
        · left
          refine ⟨((k-1:Nat):Int),by simp [hg],⟨k-1,rfl,by omega,fun y hy=>?_⟩,by omega⟩
          rw [List.drop_eq_getElem_cons (show k-1<l.length by omega),show k-1+1=k by omega] at hy
          rcases List.mem_cons.1 hy with rfl | hy
          · rw [List.getElem?_eq_getElem (by omega)] at hx;injection hx with hx;rw [hx];exact hg
          · exact hI y hy
        · right
          refine ⟨(k:Int),by simp [hg],k,rfl,hk,hI,fun _ y hy=>?_⟩
          rw [hx] at hy;injection hy with hy;omega
      · right
        have d:decide ((k:Int)>0)=false:=by simp;omega
        exact ⟨(k:Int),by simp only [d,Bool.false_eq_true,if_false,Option.bind_some],k,rfl,hk,hI,fun q=>absurd q h0⟩) (l.length:Int) ⟨l.length,rfl,Nat.le_refl _,by simp⟩
  unfold fZ
  rw [q1,Option.bind_some]
  have hj:∃ b:Bool,(if decide ((i:Int)>0) then (idx l (aJ (i:Int) 1)).bind (fun x48=>some (x48==n)) else some false)=some b∧(b=true↔0<i∧l[i-1]?=some n):=by
    by_cases h0:0<i
    · obtain ⟨x,hx⟩:∃ x,l[i-1]?=some x:=⟨_,List.getElem?_eq_getElem (by omega)⟩
      have e1:aJ (i:Int) 1=((i-1:Nat):Int):=by rw [aY (by omega) (by omega)];omega
      have d:decide ((i:Int)>0)=true:=by simp;omega
      refine ⟨x==n,by simp only [d,if_true,e1,aP hx,Option.bind_some], ?_⟩
      rw [beq_iff_eq,hx]
      exact ⟨fun q=>⟨h0,by rw [q]⟩,fun q=>Option.some.inj q.2⟩
    · have d:decide ((i:Int)>0)=false:=by simp;omega
      exact ⟨false,by simp only [d,Bool.false_eq_true,if_false],by simp;omega⟩
  obtain ⟨b,hj1,hj2⟩:=hj
  rw [hj1,Option.bind_some]
  cases b with
  | true =>
    obtain ⟨h0,hn⟩:=hj2.1 rfl
    refine ⟨l,rfl,h,fun x=>⟨.inl,fun q=>q.elim id fun e=>by rw [e];exact List.mem_of_getElem? hn⟩,by omega⟩
  | false =>
    have hnot:¬ (0<i∧l[i-1]?=some n):=fun q=>by have:=hj2.2 q;cases this
    rw [if_neg (by simp),qY (by simp [LIM];omega)]
    have hlen:aJ ((l++[0]).length:Int) 1=(l.length:Int):=by rw [List.length_append,List.length_singleton,aY (by omega) (by omega)];omega
    obtain ⟨r,t1,z,rfl⟩:=nA (fun s:Int×List Int=>(s.1-(i:Int)).toNat)
      (fun s:Int×List Int=>∃ j:Nat,s.1=j∧i≤j∧j≤l.length∧∃ z,s.2=l.take j++z::l.drop j)
      (fun r:List Int=>∃ z,r=l.take i++z::l.drop i) (rD (i:Int)) (by
        rintro ⟨s,c⟩ ⟨j,hs,hij,hjl,z,hc⟩
        simp only at hs hc
        subst hs hc
        unfold rD
        by_cases hg:i<j
        · left
          have d:decide ((j:Int)>(i:Int))=true:=by simp;omega
          have e1:aJ (j:Int) 1=((j-1:Nat):Int):=by rw [aY (by omega) (by omega)];omega
          have ht:(l.take j).length=j:=by rw [List.length_take];omega
          have g1:(l.take j++z::l.drop j)[j-1]?=some (l[j-1]'(by omega)):=by
            rw [List.getElem?_append_left (by omega),List.getElem?_take,if_pos (by omega),List.getElem?_eq_getElem (by omega)]
          have g2:(l.take j++z::l.drop j)[j]?=some z:=by rw [List.getElem?_append_right (by omega),ht];simp
          simp only [d,if_true,e1,aP g1,aP g2,Option.bind_some,Int.toNat_natCast]
          refine ⟨_,rfl,⟨j-1,rfl,by omega,by omega,l[j-1]'(by omega), ?_⟩,by simp only;omega⟩
          simp only
          rw [List.set_append_right _ _ (by omega),ht]
          have e2:l.take j=l.take (j-1)++[l[j-1]'(by omega)]:=by
            conv=>lhs;rw [show j=(j-1)+1 by omega]
            rw [List.take_add_one,List.getElem?_eq_getElem (by omega)];rfl
          have e3:l.drop (j-1)=l[j-1]'(by omega)::l.drop j:=by
            rw [List.drop_eq_getElem_cons (show j-1<l.length by omega),show j-1+1=j by omega]
          rw [e2,e3,Nat.sub_self,List.set_cons_zero,List.append_assoc];rfl
        · right
          have d:decide ((j:Int)>(i:Int))=false:=by simp;omega
          obtain rfl:j=i:=by omega
          exact ⟨l.take j++z::l.drop j,by simp only [d,Bool.false_eq_true,if_false],z,rfl⟩) (aJ ((l++[0]).length:Int) 1,l++[0]) ⟨l.length,hlen,hi,Nat.le_refl _,0,by simp⟩
    have ht:(l.take i).length=i:=by rw [List.length_take];omega
    have g2:(l.take i++z::l.drop i)[i]?=some z:=by rw [List.getElem?_append_right (by omega),ht];simp
    have e4:(l.take i++z::l.drop i).set i n=l.take i++n::l.drop i:=by rw [List.set_append_right _ _ (by omega),ht];simp
    simp only [Option.bind_some,t1,aP g2,Int.toNat_natCast,e4]
    have hlow:∀ x ∈ l.take i,x<n:=fun x hx=>by
      rcases Nat.eq_zero_or_pos i with q | q
      · subst q;simp at hx
      · obtain ⟨y,hy⟩:∃ y,l[i-1]?=some y:=⟨_,List.getElem?_eq_getElem (by omega)⟩
        have hyn:y<n:=by
          have h1:=hb q y hy
          have h2:y≠n:=fun e=>hnot ⟨q,by rw [hy,e]⟩
          omega
        obtain ⟨k,hk⟩:=List.mem_iff_getElem?.1 hx
        have hkl:=bC hk
        rw [List.getElem?_take,if_pos (by omega)] at hk
        by_cases e:k=i-1
        · subst e;rw [hy] at hk;injection hk with hk;omega
        · have:=Uc h (show k<i-1 by omega) hk hy;omega
    refine ⟨_,rfl, ?_,fun x=>?_,by rw [List.length_append,List.length_cons,List.length_take,List.length_drop];omega⟩
    · have hp:=h
      rw [← List.take_append_drop i l,List.pairwise_append] at hp
      rw [List.pairwise_append,List.pairwise_cons]
      refine ⟨hp.1,⟨ha,hp.2.1⟩,fun x hx y hy=>?_⟩
      rcases List.mem_cons.1 hy with rfl | hy
      · exact hlow x hx
      · exact hp.2.2 x hx y hy
    · conv=>rhs;rw [← List.take_append_drop i l]
      simp only [List.mem_append,List.mem_cons]
      grind
theorem WR {l:List Rect} (hv:CE l) (hl:l.length≤400):∃ xs ys,sM l=some (xs,ys)∧Dt xs (xsL l)∧Dt ys (ysL l):=by
  obtain ⟨⟨xs,ys⟩,q1,⟨gx1,gx2⟩,⟨gy1,gy2⟩,lx,ly⟩:=vP l (fun k (s:List Int×List Int)=>((k:Int),s.1,s.2)) (nS l) (fun s=>(s.1,s.2)) (fun k s=>Dt s.1 (xsL (l.take k))∧Dt s.2 (ysL (l.take k))∧s.1.length≤2*k∧s.2.length≤2*k) ([],[])
    ⟨⟨.nil,by simp [xsL]⟩,⟨.nil,by simp [ysL]⟩,by simp,by simp⟩
    (fun k r s hr hI=>by
      obtain ⟨⟨a1,a2⟩,⟨b1,b2⟩,la,lb⟩:=hI
      have h1:=bC hr
      have hd:decide ((k:Int)<(l.length:Int))=true:=by simp [h1]
      obtain ⟨e1,e2⟩:=GD (hv r (List.mem_of_getElem? hr))
      obtain ⟨c1,i1,p1,m1,n1⟩:=Qr a1 (by omega) r.X
      obtain ⟨c2,i2,p2,m2,n2⟩:=Qr p1 (by omega) (r.X+r.W)
      obtain ⟨c3,i3,p3,m3,n3⟩:=Qr b1 (by omega) r.Y
      obtain ⟨c4,i4,p4,m4,n4⟩:=Qr p3 (by omega) (r.Y+r.H)
      unfold nS
      simp only [hd,if_true,aP hr,Option.bind_some,e1,e2,i1,i2,i3,i4,aZ k (by omega)]
      refine ⟨(c2,c4),rfl,⟨p2,fun x=>?_⟩,⟨p4,fun x=>?_⟩,by simp only;omega,by simp only;omega⟩
      · rw [m2,m1,a2,nY hr,Tv]
        simp [xsL,or_assoc]
      · rw [m4,m3,b2,nY hr,Tz]
        simp [ysL,or_assoc]) (fun s _=>by simp [nS])
  rw [List.take_length] at gx2 gy2
  simp only at gx1 gx2 gy1 gy2
  refine ⟨xs,ys, ?_,⟨gx1,gx2⟩,⟨gy1,gy2⟩⟩
  unfold sM
  rw [show ((0:Int),([]:List Int),([]:List Int))=(((0:Nat):Int),(([],[]):List Int×List Int).1,(([],[]):List Int×List Int).2) from rfl,q1]
  rfl
end Go.SM
